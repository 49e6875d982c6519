/- Who calls whom: what the functions come to, in plain Lean. -/
import Derived.Test.YtcofionghgmldaaGreatPliSp
namespace Go.Pli
open Go Go.PM
def ints (n:Nat):List Int:=(List.range n).map fun k:Nat=>(k:Int)
def leI (x y:Int):Bool:=decide (x≤y)
def xP (x:Int):List Int→List Int
 | []=>[x]
 | y::l=>bif leI x y then x::y::l else y::xP x l
def fX:List Int→List Int
 | []=>[]
 | x::l=>xP x (fX l)
def aFO (l:List Int):List Int×Unit:=(fX l,())
def bM:List Int→List Int
 | []=>[]
 | a::l=>match bM l with
  | []=>[a]
  | b::r=>bif a==b then b::r else a::b::r
def nM (m:Im):Int:=(m.2.2.2.1.length:Int)
def kW (m:Im) (c:Int):List Int:=(ints m.1.length).filter fun n=>bY m.1 n c
def yS (m:Im) (c:Int):Option (List Int×Unit):=bif bD m then some (kW m c,()) else none
def tP (m:Im) (c:Int):Option (List Int×Unit):=bif bD m then some (kW m c,()) else none
def eS (m:Im) (c n:Int):Bool:=(decide (0≤c)&&decide (c<(m.1.length:Int)))&&(decide (0≤n)&&decide (n<((bG m c).2.2.1.length:Int)))
def dI (m:Im) (c n:Int):Int×Bool×Unit:=bif eS m c n then ((bG m c).2.2.1.getD n.toNat 0,true,()) else (0,false,())
def aBb (m:Im) (c n:Int):Int×Bool×Unit:=dI m c n
def oE (m:Im) (l:List Int) (n:Int):List Int:=(l.filter fun c=>(dI m c n).2.1).map fun c=>(dI m c n).1
def aS (m:Im) (i:Ins):List Int:=bif i.1==31 then[i.2.1] else bif i.1==32 then oE m (kW m i.2.1) i.2.2.1 else[]
def kF (m:Im) (i:Ins):Option (List Int×Unit):=bif bD m then some (aS m i,()) else none
def iV (m:Im) (i:Ins):Option (List Int×Unit):=bif bD m then some (aS m i,()) else none
def inM (m:Im) (f:Int):Bool:=sin f (nM m)
def aBG (m:Im) (f:Int):List Int:=((aC m f).2.2.2.1.map (aS m)).flatten
def ofB (m:Im) (f:Int):List Int:=bif inM m f then bM (fX (aBG m f)) else[]
def cof (m:Im) (f:Int):Option (List Int×Unit):=bif bD m then some (ofB m f,()) else none
def gQ (m:Im) (f g:Int):Bool:=(aC m f).2.2.2.1.any fun i=>(aS m i).contains g
def tX (m:Im) (f g:Int):Option (Bool×Unit):=bif bD m&&inM m f then some (gQ m f g,()) else none
def aG (m:Im):List (List Int):=(ints m.2.2.2.1.length).map fun f=>(ints m.2.2.2.1.length).filter fun g=>gQ m f g
def qN (m:Im):Option (List (List Int)×Unit):=bif bD m then some (aG m,()) else none
def sP (m:Im):Bool:=(ints m.2.2.2.1.length).all fun f=>(aBG m f).all (inM m)
def wG (l:List (List Int)) (i j:Nat):Bool:=(l.getD i []).contains (j:Int)
def cR (l:List (List Int)):Nat→Nat→Nat→Bool
 | 0,i,j=>wG l i j
 | k+1,i,j=>cR l k i j || (cR l k i k&&cR l k k j)
def fT (n:Nat) (f:Nat→Nat→Bool):List (List Bool):=(List.range n).map fun i=>(List.range n).map fun j=>f i j
def rU (l:List (List Int)):Bool:=Nat.ble l.length 1000&&l.all fun r=>Nat.ble r.length 1000
def yQ (l:List (List Int)):Option (List (List Bool)×Unit):=bif rU l then some (fT l.length (cR l l.length),()) else none
end Go.Pli

namespace Go.Pli
open Go Go.PM
def aAg (m:Im) (c:Int) (s1:List Int×Int×Unit) (rec2:(List Int×Int×Unit)→Option (List Int×Unit)):Option (List Int×Unit):=
 bif decide (s1.2.1<(m.1.length:Int)) then
  bif (bY m.1 s1.2.1 c) then
   bif decide (s1.1.length+[s1.2.1].length<rowMax) then
    rec2 (s1.1++[s1.2.1],IntKind.i64.wrap (s1.2.1+1),())
   else none
  else rec2 (s1.1,IntKind.i64.wrap (s1.2.1+1),())
 else some ((idL s1.1),())
def aLU (fuel:Nat) (m:Im) (c:Int):Option (List Int×Unit):=
 aA (aAg m c) fuel (([]:List Int),((0:Int),()))
def aOt (m:Im) (c:Int) (n:Int):Option (Int×Bool×Unit):=
 bif decide (c<0) then
  some ((0:Int),false,())
 else bif decide (c≥(m.1.length:Int)) then
  some ((0:Int),false,())
 else bif decide (n<0) then
  some ((0:Int),false,())
 else bif decide (0≤c)&&decide (c<m.1.length) then
  bif decide (n≥((m.1.getD c.toNat zCl).2.2.1.length:Int)) then
   some ((0:Int),false,())
  else bif decide (0≤c)&&decide (c<m.1.length) then
   bif decide (0≤n)&&decide (n<(m.1.getD c.toNat zCl).2.2.1.length) then
    some ((m.1.getD c.toNat zCl).2.2.1.getD n.toNat 0,true,())
   else none
  else none
 else none
def aMH (m:Im) (i:Ins) (r1:List Int×Unit) (s2:List Int×Int×Unit) (rec3:(List Int×Int×Unit)→Option (List Int×Unit)):Option (List Int×Unit):=
 bif decide (s2.2.1<(r1.1.length:Int)) then
  bif decide (0≤s2.2.1)&&decide (s2.2.1<r1.1.length) then
   let r4:=dI m (r1.1.getD s2.2.1.toNat 0) i.2.2.1
   bif r4.2.1 then
    bif decide (s2.1.length+[r4.1].length<rowMax) then
     rec3 (s2.1++[r4.1],IntKind.i64.wrap (s2.2.1+1),())
    else none
   else rec3 (s2.1,IntKind.i64.wrap (s2.2.1+1),())
  else none
 else some (s2.1,())
def aGV (fuel:Nat) (m:Im) (i:Ins):Option (List Int×Unit):=
 bif i.1==31 then
  bif decide (([]:List Int).length+[i.2.1].length<rowMax) then
   some (([]:List Int)++[i.2.1],())
  else none
 else bif i.1==32 then
  (yS m i.2.1).bind fun r1=>
  aA (aMH m i r1) fuel (([]:List Int),((0:Int),()))
 else some (([]:List Int),())
def aIb (m:Im) (f:Int) (s1:List Int×Int×Unit) (rec2:(List Int×Int×Unit)→Option (List Int×Unit)):Option (List Int×Unit):=
 bif decide (s1.2.1<((m.2.2.2.1.getD f.toNat zMt).2.2.2.1.length:Int)) then
  bif decide (0≤s1.2.1)&&decide (s1.2.1<(m.2.2.2.1.getD f.toNat zMt).2.2.2.1.length) then
   (kF m ((m.2.2.2.1.getD f.toNat zMt).2.2.2.1.getD s1.2.1.toNat dJ)).bind fun r3=>
   bif decide (s1.1.length+r3.1.length<rowMax)&&true then
    rec2 (s1.1++r3.1,IntKind.i64.wrap (s1.2.1+1),())
   else none
  else none
 else
  let r4:=aFO s1.1
  some ((idL (bM r4.1)),())
def aUk (fuel:Nat) (m:Im) (f:Int):Option (List Int×Unit):=
 bif decide (f<0) then
  some (([]:List Int),())
 else bif decide (f≥(m.2.2.2.1.length:Int)) then
  some (([]:List Int),())
 else bif decide (0≤f)&&decide (f<m.2.2.2.1.length) then
  aA (aIb m f) fuel (([]:List Int),((0:Int),()))
 else none
def wF (m:Im) (c:Int) (s1:List Int×Int×Unit) (rec2:(List Int×Int×Unit)→Option (List Int×Unit)):Option (List Int×Unit):=
 bif decide (s1.2.1<(m.1.length:Int)) then
  (jA m.1 s1.2.1).bind fun r3=>
  (rin r3.1 c).bind fun r4=>
  bif r4.1 then
   bif decide (s1.1.length+[s1.2.1].length<rowMax) then
    rec2 (s1.1++[s1.2.1],IntKind.i64.wrap (s1.2.1+1),())
   else none
  else rec2 (s1.1,IntKind.i64.wrap (s1.2.1+1),())
 else some (s1.1,())
def aJK (fuel:Nat) (m:Im) (c:Int):Option (List Int×Unit):=
 aA (wF m c) fuel (([]:List Int),((0:Int),()))
def aTI (m:Im) (c:Int) (n:Int):Option (Int×Bool×Unit):=
 bif decide (c<0) then
  some ((0:Int),false,())
 else bif decide (c≥(m.1.length:Int)) then
  some ((0:Int),false,())
 else bif decide (n<0) then
  some ((0:Int),false,())
 else bif decide (0≤c)&&decide (c<m.1.length) then
  bif decide (n≥((m.1.getD c.toNat zCl).2.2.1.length:Int)) then
   some ((0:Int),false,())
  else bif decide (0≤c)&&decide (c<m.1.length) then
   bif decide (0≤n)&&decide (n<(m.1.getD c.toNat zCl).2.2.1.length) then
    some ((m.1.getD c.toNat zCl).2.2.1.getD n.toNat 0,true,())
   else none
  else none
 else none
def aLd (m:Im) (i:Ins) (r3:List Int×Unit) (s4:List Int×Int×Unit) (rec5:(List Int×Int×Unit)→Option (List Int×Unit)):Option (List Int×Unit):=
 bif decide (s4.2.1<(r3.1.length:Int)) then
  bif decide (0≤s4.2.1)&&decide (s4.2.1<r3.1.length) then
   let r6:=aBb m (r3.1.getD s4.2.1.toNat 0) i.2.2.1
   bif r6.2.1 then
    bif decide (s4.1.length+[r6.1].length<rowMax) then
     rec5 (s4.1++[r6.1],IntKind.i64.wrap (s4.2.1+1),())
    else none
   else rec5 (s4.1,IntKind.i64.wrap (s4.2.1+1),())
  else none
 else some (s4.1,())
def aEr (fuel:Nat) (m:Im) (i:Ins):Option (List Int×Unit):=
 (bif i.1==31 then
  bif decide (([]:List Int).length+[i.2.1].length<rowMax) then
   some (.inl (([]:List Int)++[i.2.1],()))
  else none
 else some (.inl (([]:List Int),())):Option ((List Int×Unit)⊕(List Int×Unit))).bind fun q=>match q with
 | .inr r2=>some r2
 | .inl s1=>
  bif i.1==32 then
   (tP m i.2.1).bind fun r3=>
   aA (aLd m i r3) fuel (s1.1,((0:Int),()))
  else some (s1.1,())
def vX (m:Im) (f:Int) (g:Int) (s1:Int×Unit) (rec2:(Int×Unit)→Option (Bool×Unit)):Option (Bool×Unit):=
 bif decide (0≤f)&&decide (f<m.2.2.2.1.length) then
  bif decide (s1.1<((m.2.2.2.1.getD f.toNat zMt).2.2.2.1.length:Int)) then
   bif decide (0≤f)&&decide (f<m.2.2.2.1.length) then
    bif decide (0≤s1.1)&&decide (s1.1<(m.2.2.2.1.getD f.toNat zMt).2.2.2.1.length) then
     (iV m ((m.2.2.2.1.getD f.toNat zMt).2.2.2.1.getD s1.1.toNat dJ)).bind fun r3=>
     (rin r3.1 g).bind fun r4=>
     bif r4.1 then
      some (true,())
     else rec2 (IntKind.i64.wrap (s1.1+1),())
    else none
   else none
  else some (false,())
 else none
def aIY (fuel:Nat) (m:Im) (f:Int) (g:Int):Option (Bool×Unit):=
 aA (vX m f g) fuel ((0:Int),())
def vS (m:Im) (s1:List (List Int)×Int×Unit) (rec2:(List (List Int)×Int×Unit)→Option (List (List Int)×Unit)) (s3:List Int×Int×Unit) (rec4:(List Int×Int×Unit)→Option (List (List Int)×Unit)):Option (List (List Int)×Unit):=
 bif decide (s3.2.1<(m.2.2.2.1.length:Int)) then
  (tX m s1.2.1 s3.2.1).bind fun r5=>
  bif r5.1 then
   bif decide (s3.1.length+[s3.2.1].length<rowMax) then
    rec4 (s3.1++[s3.2.1],IntKind.i64.wrap (s3.2.1+1),())
   else none
  else rec4 (s3.1,IntKind.i64.wrap (s3.2.1+1),())
 else bif decide (s1.1.length+[s3.1].length<rowMax)&&true then
  rec2 (s1.1++[s3.1],IntKind.i64.wrap (s1.2.1+1),())
 else none
def vO (m:Im) (fuel:Nat) (s1:List (List Int)×Int×Unit) (rec2:(List (List Int)×Int×Unit)→Option (List (List Int)×Unit)):Option (List (List Int)×Unit):=
 bif decide (s1.2.1<(m.2.2.2.1.length:Int)) then
  aA (vS m s1 rec2) fuel (([]:List Int),((0:Int),()))
 else some (s1.1,())
def aJH (fuel:Nat) (m:Im):Option (List (List Int)×Unit):=
 aA (vO m fuel) fuel (([]:List (List Int)),((0:Int),()))
def aAI (l:List (List Int)) (s1:Int×List (List Bool)×Unit) (rec2:(Int×List (List Bool)×Unit)→Option (List (List Bool)×Unit)) (s3:Int×List (List Bool)×Unit) (rec4:(Int×List (List Bool)×Unit)→Option (List (List Bool)×Unit)):Option (List (List Bool)×Unit):=
 bif decide (0≤s1.1)&&decide (s1.1<l.length) then
  bif decide (s3.1<((l.getD s1.1.toNat ([]:List Int)).length:Int)) then
   bif decide (0≤s1.1)&&decide (s1.1<l.length) then
    bif decide (0≤s3.1)&&decide (s3.1<(l.getD s1.1.toNat ([]:List Int)).length) then
     bif decide ((l.getD s1.1.toNat ([]:List Int)).getD s3.1.toNat 0≥0) then
      bif decide (0≤s1.1)&&decide (s1.1<l.length) then
       bif decide (0≤s3.1)&&decide (s3.1<(l.getD s1.1.toNat ([]:List Int)).length) then
        bif decide ((l.getD s1.1.toNat ([]:List Int)).getD s3.1.toNat 0<(l.length:Int)) then
         bif decide (0≤s1.1)&&decide (s1.1<s3.2.1.length) then
          bif decide (0≤s1.1)&&decide (s1.1<l.length) then
           bif decide (0≤s3.1)&&decide (s3.1<(l.getD s1.1.toNat ([]:List Int)).length) then
            bif decide (0≤(l.getD s1.1.toNat ([]:List Int)).getD s3.1.toNat 0)&&decide ((l.getD s1.1.toNat ([]:List Int)).getD s3.1.toNat 0<(s3.2.1.getD s1.1.toNat ([]:List Bool)).length) then
             rec4 (IntKind.i64.wrap (s3.1+1),(s3.2.1.set s1.1.toNat ((s3.2.1.getD s1.1.toNat ([]:List Bool)).set ((l.getD s1.1.toNat ([]:List Int)).getD s3.1.toNat 0).toNat true),()))
            else none
           else none
          else none
         else none
        else rec4 (IntKind.i64.wrap (s3.1+1),s3.2.1,())
       else none
      else none
     else rec4 (IntKind.i64.wrap (s3.1+1),s3.2.1,())
    else none
   else none
  else rec2 (IntKind.i64.wrap (s1.1+1),s3.2.1,())
 else none
def aDM (l:List (List Int)) (s5:Int×List (List Bool)×Unit) (s7:Int×List (List Bool)×Unit) (rec8:(Int×List (List Bool)×Unit)→Option (List (List Bool)×Unit)) (s9:Int×List (List Bool)×Unit) (rec10:(Int×List (List Bool)×Unit)→Option (List (List Bool)×Unit)):Option (List (List Bool)×Unit):=
 bif decide (s9.1<(l.length:Int)) then
  bif decide (0≤s7.1)&&decide (s7.1<s9.2.1.length) then
   bif decide (0≤s7.1)&&decide (s7.1<s9.2.1.length) then
    bif decide (0≤s9.1)&&decide (s9.1<(s9.2.1.getD s7.1.toNat ([]:List Bool)).length) then
     bif (s9.2.1.getD s7.1.toNat ([]:List Bool)).getD s9.1.toNat false then
      bif decide (0≤s9.1)&&decide (s9.1<(s9.2.1.getD s7.1.toNat ([]:List Bool)).length) then
       rec10 (IntKind.i64.wrap (s9.1+1),(s9.2.1.set s7.1.toNat ((s9.2.1.getD s7.1.toNat ([]:List Bool)).set s9.1.toNat true),()))
      else none
     else bif decide (0≤s7.1)&&decide (s7.1<s9.2.1.length) then
      bif decide (0≤s5.1)&&decide (s5.1<(s9.2.1.getD s7.1.toNat ([]:List Bool)).length) then
       bif (s9.2.1.getD s7.1.toNat ([]:List Bool)).getD s5.1.toNat false then
        bif decide (0≤s5.1)&&decide (s5.1<s9.2.1.length) then
         bif decide (0≤s9.1)&&decide (s9.1<(s9.2.1.getD s5.1.toNat ([]:List Bool)).length) then
          bif decide (0≤s9.1)&&decide (s9.1<(s9.2.1.getD s7.1.toNat ([]:List Bool)).length) then
           rec10 (IntKind.i64.wrap (s9.1+1),(s9.2.1.set s7.1.toNat ((s9.2.1.getD s7.1.toNat ([]:List Bool)).set s9.1.toNat ((s9.2.1.getD s5.1.toNat ([]:List Bool)).getD s9.1.toNat false)),()))
          else none
         else none
        else none
       else bif decide (0≤s9.1)&&decide (s9.1<(s9.2.1.getD s7.1.toNat ([]:List Bool)).length) then
        rec10 (IntKind.i64.wrap (s9.1+1),(s9.2.1.set s7.1.toNat ((s9.2.1.getD s7.1.toNat ([]:List Bool)).set s9.1.toNat false),()))
       else none
      else none
     else none
    else none
   else none
  else none
 else rec8 (IntKind.i64.wrap (s7.1+1),s9.2.1,())
def aAT (l:List (List Int)) (fuel:Nat) (s5:Int×List (List Bool)×Unit) (rec6:(Int×List (List Bool)×Unit)→Option (List (List Bool)×Unit)) (s7:Int×List (List Bool)×Unit) (rec8:(Int×List (List Bool)×Unit)→Option (List (List Bool)×Unit)):Option (List (List Bool)×Unit):=
 bif decide (s7.1<(l.length:Int)) then
  aA (aDM l s5 s7 rec8) fuel ((0:Int),s7.2.1,())
 else rec6 (IntKind.i64.wrap (s5.1+1),s7.2.1,())
def zV (l:List (List Int)) (fuel:Nat) (s5:Int×List (List Bool)×Unit) (rec6:(Int×List (List Bool)×Unit)→Option (List (List Bool)×Unit)):Option (List (List Bool)×Unit):=
 bif decide (s5.1<(l.length:Int)) then
  aA (aAT l fuel s5 rec6) fuel ((0:Int),s5.2.1,())
 else some (s5.2.1,())
def aDN (l:List (List Int)) (fuel:Nat) (s1:Int×List (List Bool)×Unit) (rec2:(Int×List (List Bool)×Unit)→Option (List (List Bool)×Unit)):Option (List (List Bool)×Unit):=
 bif decide (s1.1<(l.length:Int)) then
  bif decide (0≤(l.length:Int))&&decide ((l.length:Int)≤(l.length:Int))&&decide ((l.length:Int)<(rowMax:Int)) then
   bif decide (0≤s1.1)&&decide (s1.1<s1.2.1.length) then
    aA (aAI l s1 rec2) fuel ((0:Int),s1.2.1.set s1.1.toNat (List.replicate l.length false),())
   else none
  else none
 else aA (zV l fuel) fuel ((0:Int),s1.2.1,())
def aL8 (fuel:Nat) (l:List (List Int)):Option (List (List Bool)×Unit):=
 bif decide (0≤(l.length:Int))&&decide ((l.length:Int)≤(l.length:Int))&&decide ((l.length:Int)<(rowMax:Int)) then
  aA (aDN l fuel) fuel ((0:Int),(List.replicate l.length ([]:List Bool),()))
 else none
end Go.Pli

namespace Go.Pli
open Go Go.PM
noncomputable def pick {α:Type} (f:Nat→Option α):Option α:=open Classical in if h:∃k,(f k).isSome then f h.choose else none
theorem aGe {α:Type} {f:Nat→Option α} {r:α} (h:pick f=some r):∃k,f k=some r:=by
 unfold pick at h
 split at h
 ·exact⟨_,h⟩
 ·cases h
def aVE {α:Type} (f:Nat→Option α) (Q:α→Prop):Prop:=∃K,∀k,(∃r,f k=some r∧Q r)∨(f k=none∧k≤K)
theorem aCg {α:Type} {f:Nat→Option α} {Q:α→Prop} (h:aVE f Q):∃r,pick f=some r∧Q r:=by
 obtain⟨K,h⟩:=h
 have hs:∃k,(f k).isSome:=by
  rcases h (K+1) with⟨r,hr,-⟩ | ⟨-,hk⟩
  ·exact⟨K+1,by rw[hr];rfl⟩
  ·omega
 unfold pick
 rw[dif_pos hs]
 have:=hs.choose_spec
 rcases h hs.choose with⟨r,hr,hq⟩ | ⟨hn,-⟩
 ·exact⟨r,hr,hq⟩
 ·rw[hn] at this;cases this
theorem aBV {S R:Type} {L:S→(S→Option R)→Option R} {I:S→Prop} {μ:S→Nat} {Q:R→Prop}
  (h:∀s rec,I s→(∃r,L s rec=some r∧Q r)∨∃s',L s rec=rec s'∧I s'∧μ s'<μ s):∀(k:Nat) (s:S),I s→(∃r,aA L k s=some r∧Q r)∨(aA L k s=none∧k≤μ s)
 | 0,s,_=> .inr ⟨rfl,Nat.zero_le _⟩
 | k+1,s,hs=>by
  rw[aD]
  rcases h s (aA L k) hs with h1 | ⟨s',h1,hs',hm⟩
  ·exact .inl h1
  ·rw[h1]
   rcases aBV h k s' hs' with h2 | ⟨h2,hk⟩
   ·exact .inl h2
   ·exact .inr ⟨h2,by omega⟩
end Go.Pli

namespace Go.Pli
open Go Go.PM
noncomputable section
def tO (f:List (List Int)×List Int×List Int×List Bool×List Int×Int×List (List Int)×Unit) (n:Int):Option ((List (List Int)×List Int×List Int×List Bool×List Int×Int×List (List Int)×Unit)×Unit):=
 bif decide (0≤n)&&decide (n<f.2.1.length) then
  bif decide (0≤n)&&decide (n<f.2.2.1.length) then
   bif decide (0≤n)&&decide (n<f.2.2.2.1.length) then
    bif decide (f.2.2.2.2.1.length+[n].length<rowMax)&&true then
     some ((f.1,f.2.1.set n.toNat (IntKind.i64.wrap (f.2.2.2.2.2.1+1)),f.2.2.1.set n.toNat (IntKind.i64.wrap (f.2.2.2.2.2.1+1)),f.2.2.2.1.set n.toNat true,f.2.2.2.2.1++[n],IntKind.i64.wrap (f.2.2.2.2.2.1+1),f.2.2.2.2.2.2),())
    else none
   else none
  else none
 else none
def aEm (f:List (List Int)×List Int×List Int×List Bool×List Int×Int×List (List Int)×Unit) (n:Int) (s1:List Int×List Bool×List Int×Unit) (rec2:(List Int×List Bool×List Int×Unit)→Option ((List (List Int)×List Int×List Int×List Bool×List Int×Int×List (List Int)×Unit)×Unit)):Option ((List (List Int)×List Int×List Int×List Bool×List Int×Int×List (List Int)×Unit)×Unit):=
 bif decide (0≤IntKind.i64.wrap ((s1.2.2.1.length:Int) - 1))&&decide (IntKind.i64.wrap ((s1.2.2.1.length:Int) - 1)<s1.2.2.1.length) then
  bif decide ((0:Int)≤IntKind.i64.wrap ((s1.2.2.1.length:Int) - 1))&&decide (IntKind.i64.wrap ((s1.2.2.1.length:Int) - 1)≤(s1.2.2.1.length:Int))&&true then
   bif decide (0≤s1.2.2.1.getD (IntKind.i64.wrap ((s1.2.2.1.length:Int) - 1)).toNat 0)&&decide (s1.2.2.1.getD (IntKind.i64.wrap ((s1.2.2.1.length:Int) - 1)).toNat 0<s1.2.1.length) then
    bif decide (s1.1.length+[s1.2.2.1.getD (IntKind.i64.wrap ((s1.2.2.1.length:Int) - 1)).toNat 0].length<rowMax)&&true then
     bif (s1.2.2.1.getD (IntKind.i64.wrap ((s1.2.2.1.length:Int) - 1)).toNat 0)==n then
      let r3:=aFO (s1.1++[s1.2.2.1.getD (IntKind.i64.wrap ((s1.2.2.1.length:Int) - 1)).toNat 0])
      bif decide (f.2.2.2.2.2.2.1.length+[(idL r3.1)].length<rowMax)&&true then
       some ((f.1,f.2.1,f.2.2.1,(s1.2.1.set (s1.2.2.1.getD (IntKind.i64.wrap ((s1.2.2.1.length:Int) - 1)).toNat 0).toNat false,((s1.2.2.1.take (IntKind.i64.wrap ((s1.2.2.1.length:Int) - 1)).toNat).drop 0,f.2.2.2.2.2.1,f.2.2.2.2.2.2.1++[(idL r3.1)],()))),())
      else none
     else rec2 (s1.1++[s1.2.2.1.getD (IntKind.i64.wrap ((s1.2.2.1.length:Int) - 1)).toNat 0],(s1.2.1.set (s1.2.2.1.getD (IntKind.i64.wrap ((s1.2.2.1.length:Int) - 1)).toNat 0).toNat false,((s1.2.2.1.take (IntKind.i64.wrap ((s1.2.2.1.length:Int) - 1)).toNat).drop 0,())))
    else none
   else none
  else none
 else none
def xX (fuel:Nat) (f:List (List Int)×List Int×List Int×List Bool×List Int×Int×List (List Int)×Unit) (n:Int):Option ((List (List Int)×List Int×List Int×List Bool×List Int×Int×List (List Int)×Unit)×Unit):=
 bif decide (0≤n)&&decide (n<f.2.2.1.length) then
  bif decide (0≤n)&&decide (n<f.2.1.length) then
   bif (f.2.2.1.getD n.toNat 0) !=(f.2.1.getD n.toNat 0) then
    some (f,())
   else aA (aEm f n) fuel (([]:List Int),f.2.2.2.1,f.2.2.2.2.1,())
  else none
 else none
def xS (f:List (List Int)×List Int×List Int×List Bool×List Int×Int×List (List Int)×Unit) (n:Int):Option ((List (List Int)×List Int×List Int×List Bool×List Int×Int×List (List Int)×Unit)×Unit):=pick fun fuel=>xX fuel f n
theorem aOl (f:List (List Int)×List Int×List Int×List Bool×List Int×Int×List (List Int)×Unit) (n:Int) (r) (h:xS f n=some r):∃k,xX k f n=some r:=aGe h
def qE (s2:List Tp×List Int×List Int×List Bool×List Int×List (List Int)×(List (List Int)×Unit×Unit×Unit×Unit×Int×Unit×Unit)×Unit) (rec3:(List Tp×List Int×List Int×List Bool×List Int×List (List Int)×(List (List Int)×Unit×Unit×Unit×Unit×Int×Unit×Unit)×Unit)→Option ((List (List Int)×List Int×List Int×List Bool×List Int×Int×List (List Int)×Unit)×Unit)) (s4:List Tp×Int×List Int×Unit) (rec5:(List Tp×Int×List Int×Unit)→Option ((List (List Int)×List Int×List Int×List Bool×List Int×Int×List (List Int)×Unit)×Unit)):Option ((List (List Int)×List Int×List Int×List Bool×List Int×Int×List (List Int)×Unit)×Unit):=
 bif decide (0≤(s4.1.getD s4.2.1.toNat zTp).1)&&decide ((s4.1.getD s4.2.1.toNat zTp).1<s2.2.2.2.2.2.2.1.1.length) then
  bif decide ((s4.1.getD s4.2.1.toNat zTp).2.1<((s2.2.2.2.2.2.2.1.1.getD (s4.1.getD s4.2.1.toNat zTp).1.toNat ([]:List Int)).length:Int)) then
   bif decide (0≤(s4.1.getD s4.2.1.toNat zTp).1)&&decide ((s4.1.getD s4.2.1.toNat zTp).1<s2.2.2.2.2.2.2.1.1.length) then
    bif decide (0≤(s4.1.getD s4.2.1.toNat zTp).2.1)&&decide ((s4.1.getD s4.2.1.toNat zTp).2.1<(s2.2.2.2.2.2.2.1.1.getD (s4.1.getD s4.2.1.toNat zTp).1.toNat ([]:List Int)).length) then
     (bif decide ((s2.2.2.2.2.2.2.1.1.getD (s4.1.getD s4.2.1.toNat zTp).1.toNat ([]:List Int)).getD (s4.1.getD s4.2.1.toNat zTp).2.1.toNat 0<0) then
      some (.inl (true,()))
     else some (.inl (decide ((s2.2.2.2.2.2.2.1.1.getD (s4.1.getD s4.2.1.toNat zTp).1.toNat ([]:List Int)).getD (s4.1.getD s4.2.1.toNat zTp).2.1.toNat 0≥(s2.2.2.2.2.2.2.1.1.length:Int)),())):Option ((Bool×Unit)⊕((List (List Int)×List Int×List Int×List Bool×List Int×Int×List (List Int)×Unit)×Unit))).bind fun q=>match q with
     | .inr r7=>some r7
     | .inl s6=>
      bif s6.1 then
       rec5 (s4.1.set s4.2.1.toNat ((s4.1.getD s4.2.1.toNat zTp).1,IntKind.i64.wrap (((s4.1.getD s4.2.1.toNat zTp).2.1)+1),()),((s4.2.1.toNat:Int),s4.2.2.1,()))
      else bif decide (0≤(s2.2.2.2.2.2.2.1.1.getD (s4.1.getD s4.2.1.toNat zTp).1.toNat ([]:List Int)).getD (s4.1.getD s4.2.1.toNat zTp).2.1.toNat 0)&&decide ((s2.2.2.2.2.2.2.1.1.getD (s4.1.getD s4.2.1.toNat zTp).1.toNat ([]:List Int)).getD (s4.1.getD s4.2.1.toNat zTp).2.1.toNat 0<s2.2.1.length) then
       bif (s2.2.1.getD ((s2.2.2.2.2.2.2.1.1.getD (s4.1.getD s4.2.1.toNat zTp).1.toNat ([]:List Int)).getD (s4.1.getD s4.2.1.toNat zTp).2.1.toNat 0).toNat 0)==0 then
        bif decide ((s4.1.set s4.2.1.toNat ((s4.1.getD s4.2.1.toNat zTp).1,IntKind.i64.wrap (((s4.1.getD s4.2.1.toNat zTp).2.1)+1),())).length+[((s2.2.2.2.2.2.2.1.1.getD (s4.1.getD s4.2.1.toNat zTp).1.toNat ([]:List Int)).getD (s4.1.getD s4.2.1.toNat zTp).2.1.toNat 0,((0:Int),()))].length<rowMax)&&true then
         (tO (s2.2.2.2.2.2.2.1.1,s2.2.1,s4.2.2.1,s2.2.2.2.1,s2.2.2.2.2.1,s2.2.2.2.2.2.2.1.2.2.2.2.2.1,s2.2.2.2.2.2.1,()) ((s2.2.2.2.2.2.2.1.1.getD (s4.1.getD s4.2.1.toNat zTp).1.toNat ([]:List Int)).getD (s4.1.getD s4.2.1.toNat zTp).2.1.toNat 0)).bind fun r8=>
         rec3 ((s4.1.set s4.2.1.toNat ((s4.1.getD s4.2.1.toNat zTp).1,IntKind.i64.wrap (((s4.1.getD s4.2.1.toNat zTp).2.1)+1),()))++[((s2.2.2.2.2.2.2.1.1.getD (s4.1.getD s4.2.1.toNat zTp).1.toNat ([]:List Int)).getD (s4.1.getD s4.2.1.toNat zTp).2.1.toNat 0,((0:Int),()))],r8.1.2.1,r8.1.2.2.1,r8.1.2.2.2.1,r8.1.2.2.2.2.1,r8.1.2.2.2.2.2.2.1,(r8.1.1,(),(),(),(),r8.1.2.2.2.2.2.1,(),()),())
        else none
       else bif decide (0≤(s2.2.2.2.2.2.2.1.1.getD (s4.1.getD s4.2.1.toNat zTp).1.toNat ([]:List Int)).getD (s4.1.getD s4.2.1.toNat zTp).2.1.toNat 0)&&decide ((s2.2.2.2.2.2.2.1.1.getD (s4.1.getD s4.2.1.toNat zTp).1.toNat ([]:List Int)).getD (s4.1.getD s4.2.1.toNat zTp).2.1.toNat 0<s2.2.2.2.1.length) then
        bif s2.2.2.2.1.getD ((s2.2.2.2.2.2.2.1.1.getD (s4.1.getD s4.2.1.toNat zTp).1.toNat ([]:List Int)).getD (s4.1.getD s4.2.1.toNat zTp).2.1.toNat 0).toNat false then
         bif decide (0≤((s4.1.set s4.2.1.toNat ((s4.1.getD s4.2.1.toNat zTp).1,IntKind.i64.wrap (((s4.1.getD s4.2.1.toNat zTp).2.1)+1),())).getD s4.2.1.toNat zTp).1)&&decide (((s4.1.set s4.2.1.toNat ((s4.1.getD s4.2.1.toNat zTp).1,IntKind.i64.wrap (((s4.1.getD s4.2.1.toNat zTp).2.1)+1),())).getD s4.2.1.toNat zTp).1<s4.2.2.1.length) then
          bif decide (0≤(s2.2.2.2.2.2.2.1.1.getD (s4.1.getD s4.2.1.toNat zTp).1.toNat ([]:List Int)).getD (s4.1.getD s4.2.1.toNat zTp).2.1.toNat 0)&&decide ((s2.2.2.2.2.2.2.1.1.getD (s4.1.getD s4.2.1.toNat zTp).1.toNat ([]:List Int)).getD (s4.1.getD s4.2.1.toNat zTp).2.1.toNat 0<s2.2.1.length) then
           bif decide (0≤((s4.1.set s4.2.1.toNat ((s4.1.getD s4.2.1.toNat zTp).1,IntKind.i64.wrap (((s4.1.getD s4.2.1.toNat zTp).2.1)+1),())).getD s4.2.1.toNat zTp).1)&&decide (((s4.1.set s4.2.1.toNat ((s4.1.getD s4.2.1.toNat zTp).1,IntKind.i64.wrap (((s4.1.getD s4.2.1.toNat zTp).2.1)+1),())).getD s4.2.1.toNat zTp).1<s4.2.2.1.length) then
            rec5 (s4.1.set s4.2.1.toNat ((s4.1.getD s4.2.1.toNat zTp).1,IntKind.i64.wrap (((s4.1.getD s4.2.1.toNat zTp).2.1)+1),()),((s4.2.1.toNat:Int),s4.2.2.1.set ((s4.1.set s4.2.1.toNat ((s4.1.getD s4.2.1.toNat zTp).1,IntKind.i64.wrap (((s4.1.getD s4.2.1.toNat zTp).2.1)+1),())).getD s4.2.1.toNat zTp).1.toNat (min (s4.2.2.1.getD ((s4.1.set s4.2.1.toNat ((s4.1.getD s4.2.1.toNat zTp).1,IntKind.i64.wrap (((s4.1.getD s4.2.1.toNat zTp).2.1)+1),())).getD s4.2.1.toNat zTp).1.toNat 0) (s2.2.1.getD ((s2.2.2.2.2.2.2.1.1.getD (s4.1.getD s4.2.1.toNat zTp).1.toNat ([]:List Int)).getD (s4.1.getD s4.2.1.toNat zTp).2.1.toNat 0).toNat 0)),()))
           else none
          else none
         else none
        else rec5 (s4.1.set s4.2.1.toNat ((s4.1.getD s4.2.1.toNat zTp).1,IntKind.i64.wrap (((s4.1.getD s4.2.1.toNat zTp).2.1)+1),()),((s4.2.1.toNat:Int),s4.2.2.1,()))
       else none
      else none
    else none
   else none
  else bif decide ((0:Int)≤IntKind.i64.wrap ((s4.1.length:Int) - 1))&&decide (IntKind.i64.wrap ((s4.1.length:Int) - 1)≤(s4.1.length:Int))&&true then
   (xS (s2.2.2.2.2.2.2.1.1,s2.2.1,s4.2.2.1,s2.2.2.2.1,s2.2.2.2.2.1,s2.2.2.2.2.2.2.1.2.2.2.2.2.1,s2.2.2.2.2.2.1,()) (s4.1.getD s4.2.1.toNat zTp).1).bind fun r9=>
   bif decide ((((s4.1.take (IntKind.i64.wrap ((s4.1.length:Int) - 1)).toNat).drop 0).length:Int)>0) then
    bif decide (0≤IntKind.i64.wrap ((((s4.1.take (IntKind.i64.wrap ((s4.1.length:Int) - 1)).toNat).drop 0).length:Int) - 1))&&decide (IntKind.i64.wrap ((((s4.1.take (IntKind.i64.wrap ((s4.1.length:Int) - 1)).toNat).drop 0).length:Int) - 1)<((s4.1.take (IntKind.i64.wrap ((s4.1.length:Int) - 1)).toNat).drop 0).length) then
     bif decide (0≤(((s4.1.take (IntKind.i64.wrap ((s4.1.length:Int) - 1)).toNat).drop 0).getD (IntKind.i64.wrap ((((s4.1.take (IntKind.i64.wrap ((s4.1.length:Int) - 1)).toNat).drop 0).length:Int) - 1)).toNat zTp).1)&&decide ((((s4.1.take (IntKind.i64.wrap ((s4.1.length:Int) - 1)).toNat).drop 0).getD (IntKind.i64.wrap ((((s4.1.take (IntKind.i64.wrap ((s4.1.length:Int) - 1)).toNat).drop 0).length:Int) - 1)).toNat zTp).1<r9.1.2.2.1.length) then
      bif decide (0≤(s4.1.getD s4.2.1.toNat zTp).1)&&decide ((s4.1.getD s4.2.1.toNat zTp).1<r9.1.2.2.1.length) then
       bif decide (0≤(((s4.1.take (IntKind.i64.wrap ((s4.1.length:Int) - 1)).toNat).drop 0).getD (IntKind.i64.wrap ((((s4.1.take (IntKind.i64.wrap ((s4.1.length:Int) - 1)).toNat).drop 0).length:Int) - 1)).toNat zTp).1)&&decide ((((s4.1.take (IntKind.i64.wrap ((s4.1.length:Int) - 1)).toNat).drop 0).getD (IntKind.i64.wrap ((((s4.1.take (IntKind.i64.wrap ((s4.1.length:Int) - 1)).toNat).drop 0).length:Int) - 1)).toNat zTp).1<r9.1.2.2.1.length) then
        rec3 ((s4.1.take (IntKind.i64.wrap ((s4.1.length:Int) - 1)).toNat).drop 0,r9.1.2.1,(r9.1.2.2.1.set (((s4.1.take (IntKind.i64.wrap ((s4.1.length:Int) - 1)).toNat).drop 0).getD (IntKind.i64.wrap ((((s4.1.take (IntKind.i64.wrap ((s4.1.length:Int) - 1)).toNat).drop 0).length:Int) - 1)).toNat zTp).1.toNat (min (r9.1.2.2.1.getD (((s4.1.take (IntKind.i64.wrap ((s4.1.length:Int) - 1)).toNat).drop 0).getD (IntKind.i64.wrap ((((s4.1.take (IntKind.i64.wrap ((s4.1.length:Int) - 1)).toNat).drop 0).length:Int) - 1)).toNat zTp).1.toNat 0) (r9.1.2.2.1.getD (s4.1.getD s4.2.1.toNat zTp).1.toNat 0)),r9.1.2.2.2.1,r9.1.2.2.2.2.1,r9.1.2.2.2.2.2.2.1,(r9.1.1,(),(),(),(),r9.1.2.2.2.2.2.1,(),()),()))
       else none
      else none
     else none
    else none
   else rec3 ((s4.1.take (IntKind.i64.wrap ((s4.1.length:Int) - 1)).toNat).drop 0,r9.1.2.1,r9.1.2.2.1,r9.1.2.2.2.1,r9.1.2.2.2.2.1,r9.1.2.2.2.2.2.2.1,(r9.1.1,(),(),(),(),r9.1.2.2.2.2.2.1,(),()),())
  else none
 else none
def mL (fuel:Nat) (s2:List Tp×List Int×List Int×List Bool×List Int×List (List Int)×(List (List Int)×Unit×Unit×Unit×Unit×Int×Unit×Unit)×Unit) (rec3:(List Tp×List Int×List Int×List Bool×List Int×List (List Int)×(List (List Int)×Unit×Unit×Unit×Unit×Int×Unit×Unit)×Unit)→Option ((List (List Int)×List Int×List Int×List Bool×List Int×Int×List (List Int)×Unit)×Unit)):Option ((List (List Int)×List Int×List Int×List Bool×List Int×Int×List (List Int)×Unit)×Unit):=
 bif decide ((s2.1.length:Int)>0) then
  bif decide (0≤IntKind.i64.wrap ((s2.1.length:Int) - 1))&&decide (IntKind.i64.wrap ((s2.1.length:Int) - 1)<s2.1.length) then
   aA (qE s2 rec3) fuel (s2.1,(((IntKind.i64.wrap ((s2.1.length:Int) - 1)).toNat:Int),s2.2.2.1,()))
  else none
 else some ((s2.2.2.2.2.2.2.1.1,s2.2.1,s2.2.2.1,s2.2.2.2.1,s2.2.2.2.2.1,s2.2.2.2.2.2.2.1.2.2.2.2.2.1,s2.2.2.2.2.2.1,()),())
def rL (fuel:Nat) (f:List (List Int)×List Int×List Int×List Bool×List Int×Int×List (List Int)×Unit) (n:Int):Option ((List (List Int)×List Int×List Int×List Bool×List Int×Int×List (List Int)×Unit)×Unit):=
 (tO f n).bind fun r1=>
 aA (mL fuel) fuel (([(n,((0:Int),()))]:List Tp),r1.1.2.1,r1.1.2.2.1,r1.1.2.2.2.1,r1.1.2.2.2.2.1,r1.1.2.2.2.2.2.2.1,(r1.1.1,(),(),(),(),r1.1.2.2.2.2.2.1,(),()),())
def aCM (f:List (List Int)×List Int×List Int×List Bool×List Int×Int×List (List Int)×Unit) (n:Int):Option ((List (List Int)×List Int×List Int×List Bool×List Int×Int×List (List Int)×Unit)×Unit):=pick fun fuel=>rL fuel f n
theorem aQG (f:List (List Int)×List Int×List Int×List Bool×List Int×Int×List (List Int)×Unit) (n:Int) (r) (h:aCM f n=some r):∃k,rL k f n=some r:=aGe h
def aMa (s:List Int):Option (List Int×Unit):=
 bif decide ((s.length:Int)=(s.length:Int))&&decide ((s.length:Int)=(s.length:Int))&&true then
  some (s,())
 else none
def aKj (s:List (List Int)):Option (List (List Int)×Unit):=
 bif decide ((s.length:Int)=(s.length:Int))&&decide ((s.length:Int)=(s.length:Int))&&true then
  some (s,())
 else none
def yA (l:List (List Int)) (s1:Int×List Int×List Int×List Bool×List Int×List (List Int)×(List (List Int)×Unit×Unit×Unit×Unit×Int×Unit×Unit)×Unit) (rec2:(Int×List Int×List Int×List Bool×List Int×List (List Int)×(List (List Int)×Unit×Unit×Unit×Unit×Int×Unit×Unit)×Unit)→Option (List (List Int)×Unit)):Option (List (List Int)×Unit):=
 bif decide (s1.1<(l.length:Int)) then
  bif decide (0≤s1.1)&&decide (s1.1<s1.2.1.length) then
   bif (s1.2.1.getD s1.1.toNat 0)==0 then
    (aCM (s1.2.2.2.2.2.2.1.1,s1.2.1,s1.2.2.1,s1.2.2.2.1,s1.2.2.2.2.1,s1.2.2.2.2.2.2.1.2.2.2.2.2.1,s1.2.2.2.2.2.1,()) s1.1).bind fun r3=>
    rec2 (IntKind.i64.wrap (s1.1+1),r3.1.2.1,r3.1.2.2.1,r3.1.2.2.2.1,r3.1.2.2.2.2.1,r3.1.2.2.2.2.2.2.1,(r3.1.1,(),(),(),(),r3.1.2.2.2.2.2.1,(),()),())
   else rec2 (IntKind.i64.wrap (s1.1+1),s1.2.1,s1.2.2.1,s1.2.2.2.1,s1.2.2.2.2.1,s1.2.2.2.2.2.1,s1.2.2.2.2.2.2.1,())
  else none
 else some ((idL s1.2.2.2.2.2.1),())
def uA (fuel:Nat) (l:List (List Int)):Option (List (List Int)×Unit):=
 bif decide (0≤(l.length:Int))&&decide ((l.length:Int)≤(l.length:Int))&&decide ((l.length:Int)<(rowMax:Int)) then
  bif decide (0≤(l.length:Int))&&decide ((l.length:Int)≤(l.length:Int))&&decide ((l.length:Int)<(rowMax:Int)) then
   bif decide (0≤(l.length:Int))&&decide ((l.length:Int)≤(l.length:Int))&&decide ((l.length:Int)<(rowMax:Int)) then
    aA (yA l) fuel ((0:Int),(List.replicate l.length (0:Int),(List.replicate l.length (0:Int),List.replicate l.length false,(([]:List Int),(([]:List (List Int)),(l,(),(),(),(),((0:Int),(),())),())))))
   else none
  else none
 else none
def nL (l:List (List Int)):Option (List (List Int)×Unit):=pick fun fuel=>uA fuel l
theorem aRy (l:List (List Int)) (r) (h:nL l=some r):∃k,uA k l=some r:=aGe h
end
end Go.Pli

namespace Go.Pli
open Go Go.PM
abbrev Sh:=Bool×List Tp×Unit
abbrev zSh:Sh:=(false,[],())
abbrev Iq:=List Int×Int×Unit
abbrev zIq:Iq:=([],0,())
def aF (m:Im):Bool:=bD m&&lK m
def dM (l:List (List Sh)):Bool:=okL l&&l.all fun h=>okL h&&h.all fun s=>okL s.2.1
def aCv (_:Unit) (n:Int):Option (List Tp×Unit):=bif decide (0≤n)&&Nat.blt n.toNat 1000000000 then some ([],()) else none
def lE (l:List (List Tp)):Option (List Tp×Unit):=bif Nat.blt l.flatten.length 1000000000&&okL l then some (l.flatten,()) else none
def aE5 (s:List Int) (v:Int):Int:=iW (fun x=>v==x) 0 s
def jZ (s:List Int) (v:Int):Bool:=s.contains v
def cup (m:Im) (c:Int):Option (Int×Unit):=bif sin c (m.1.length:Int) then some (kup m.1 c,()) else none
def cD (m:Im) (c:Int):List Tp:=(((aY m.1 c).reverse).map fun s=>(bG m s).2.1).flatten
def mQ (m:Im) (c:Int):Option (List Tp×Unit):=bif bD m then some (cD m c,()) else none
def wX (m:Im) (c:Int):Int:=((1+(cD m c).length:Nat):Int)
def aCz (m:Im) (c:Int):Option (Int×Unit):=bif bD m then some (wX m c,()) else none
def mE (x:Mt) (n:Int):Tp:=bif decide (n<0) then zTp else (x.1++x.2.1).getD n.toNat zTp
def vL (x:Mt) (n:Int):Option (Tp×Unit):=bif okL x.1&&okL x.2.1 then some (mE x n,()) else none
def fA (l:List Cl) (a b:Tp):Tp:=
 bif cO l a b then b else bif cO l b a then a else bif a.1 !=3 || b.1 !=3 then zTp else
 match (bQ l (kup l a.2.1)).find? fun c=>bY l b.2.1 c with
 | some c=>(3,c,())
 | none=>zTp
def zJ (l:List Cl) (a b:Tp):Option (Tp×Unit):=some (fA l a b,())
def pB (o:Int):Bool:=decide (o≥7)&&decide (o≤17)
abbrev tI:Tp:=(1,0,())
abbrev tA:Tp:=(2,0,())
abbrev tN:Tp:=(4,0,())
abbrev tR (c:Int):Tp:=(3,c,())
abbrev Eff:=List Tp×List Tp×Unit
def dN (o:Int):Eff×Bool×Unit:=
 bif o==2 then (([],[tN],()),true,())
 else bif o==5 then (([zTp],[],()),true,())
 else bif o==20 then (([tN],[tI],()),true,())
 else bif o==21 then (([tN,tN],[tI],()),true,())
 else bif o==24 then (([tA,tI],[tI],()),true,())
 else bif o==25 then (([tA,tI,tI],[],()),true,())
 else bif o==26 then (([tA],[tI],()),true,())
 else bif o==1 then (([],[tI],()),true,())
 else bif o==19 then (([tI],[],()),true,())
 else bif o==18 then (([],[],()),true,())
 else bif o==23 then (([tI],[tA],()),true,())
 else bif pB o then (([tI,tI],[tI],()),true,())
 else (([],[],()),false,())
def iF (x:Mt) (t:List Tp):Eff:=(t++x.1.drop t.length,bif x.2.2.1.1 !=5 then[x.2.2.1] else[],())
def pU (x:Mt) (t:List Tp):Option (Eff×Unit):=bif okL x.1&&(okL t&&decide (t.length≤x.1.length)) then some (iF x t,()) else none
def iP (m:Im) (x:Mt) (i:Ins):Eff:=
 bif (dN i.1).2.1 then (dN i.1).1
 else bif i.1==3 then ([],[mE x i.2.1],())
 else bif i.1==4 then ([mE x i.2.1],[],())
 else bif i.1==22 then ([],[tR i.2.1],())
 else bif i.1==27 then ([tR i.2.1],[(cD m i.2.1).getD i.2.2.1.toNat zTp],())
 else bif i.1==28 then ([tR i.2.1,(cD m i.2.1).getD i.2.2.1.toNat zTp],[],())
 else bif i.1==29 then ([],[m.2.1.getD i.2.1.toNat zTp],())
 else bif i.1==30 then ([m.2.1.getD i.2.1.toNat zTp],[],())
 else bif i.1==31 then iF (aC m i.2.1) []
 else bif i.1==32 then iF (aC m (dI m i.2.1 i.2.2.1).1) [tR i.2.1]
 else bif i.1==34 then ([tN],[tR i.2.1],())
 else bif i.1==33 then (bif x.2.2.1.1 !=5 then ([x.2.2.1],[],()) else ([],[],()))
 else ([],[],())
def fof (m:Im) (i:Ins) (f:Int):Option (Eff×Unit):=bif aF m&&(inM m f&&bH m (aC m f) i) then some (iP m (aC m f) i,()) else none
def dT (m:Im) (o:Int) (t w:Tp):Bool:=bif w.1==0 then true else bif w.1==4 then gO t&&(o !=34 || t.1 !=2) else cO m.1 t w
def cS (i:Ins) (pc:Int):List Int:=
 bif i.1==18 then[i.2.1] else bif i.1==19 then[IntKind.i64.wrap (pc+1),i.2.1] else bif i.1==33 then[] else[IntKind.i64.wrap (pc+1)]
def aH (m:Im) (f pc:Int):Ins:=(aC m f).2.2.2.1.getD pc.toNat dJ
def aB (m:Im) (f:Int):Nat:=(aC m f).2.2.2.1.length
abbrev St4:=List Tp×List Int×Int×Unit
def qX (m:Im) (i:Ins) (e:Eff) (s:List Tp) (nx:List Int):St4:=
 bif decide (s.length<e.1.length) || decide (s.length - e.1.length+e.2.1.length>8) then ([],[],4,())
 else bif ((s.drop (s.length - e.1.length)).zip e.1).all fun p=>dT m i.1 p.1 p.2 then (s.take (s.length - e.1.length)++e.2.1,nx,0,())
 else ([],[],4,())
def aM (m:Im) (f pc:Int) (s:List Tp):St4:=
 bif !(inM m f&&sin pc (aB m f:Int)) then ([],[],1,())
 else bif (cS (aH m f pc) pc).contains (aB m f:Int) then ([],[],4,())
 else bif (aH m f pc).1==6 then (bif decide (s.length=0) || decide (s.length≥8) then ([],[],4,()) else (s++s.drop (s.length - 1),cS (aH m f pc) pc,0,()))
 else qX m (aH m f pc) (iP m (aC m f) (aH m f pc)) s (cS (aH m f pc) pc)
def sQ (m:Im) (f pc:Int) (s:List Tp):Option St4:=bif aF m&&okL s then some (aM m f pc s) else none
def aT (l:List Cl) (a s:List Tp):List Tp:=(a.zip s).map fun p=>fA l p.1 p.2
def bI (l:List Cl) (o:Sh) (s:List Tp):Sh×Bool×Bool×Unit:=
 bif !o.1 then ((true,s,()),true,true,())
 else bif decide (o.2.1.length≠s.length) then (o,false,false,())
 else bif (aT l o.2.1 s).any fun t=>t.1==0 then (o,false,false,())
 else ((true,aT l o.2.1 s,()),!(aT l o.2.1 s==o.2.1),true,())
def xT (m:Im) (o:Sh) (s:List Tp):Option (Sh×Bool×Bool×Unit):=bif okL s then some (bI m.1 o s) else none
def gD (l:List Cl) (a:List Tp):List Int→List Sh→List Bool→Bool×List Sh×List Bool×Unit
 | [],h,q=>(true,h,q,())
 | to::r,h,q=>
  bif !(bI l (h.getD to.toNat zSh) a).2.2.1 then (false,h,q,())
  else bif (bI l (h.getD to.toNat zSh) a).2.1 then gD l a r (h.set to.toNat (bI l (h.getD to.toNat zSh) a).1) (q.set to.toNat true)
  else gD l a r h q
def jK (m:Im) (f pc:Int) (h:List Sh) (q:List Bool):Bool×List Sh×List Bool×Unit:=
 bif (aM m f pc (h.getD pc.toNat zSh).2.1).2.2.1 !=0 then (false,h,q,())
 else gD m.1 (aM m f pc (h.getD pc.toNat zSh).2.1).1 (aM m f pc (h.getD pc.toNat zSh).2.1).2.1 h q
def aAs (m:Im) (f pc:Int) (h:List Sh) (q:List Bool):Bool:=
 aF m&&(inM m f&&(sin pc (aB m f:Int)&&(decide (h.length=aB m f)&&(decide (q.length=aB m f)&&h.all fun s=>okL s.2.1))))
def sM (m:Im) (f pc:Int) (h:List Sh) (q:List Bool):Option (Bool×List Sh×List Bool×Unit):=bif aAs m f pc h q then some (jK m f pc h q) else none
def nP (m:Im) (f:Int):Nat→List Sh→List Bool→Option (List Sh×Int×Int×Unit)
 | 0,_,_=>none
 | n+1,h,q=>bif q.any id then (sM m f (q.findIdx id:Int) h (q.set (q.findIdx id) false)).bind fun r=>
   bif !r.1 then some ([],(q.findIdx id:Int),4,()) else nP m f n r.2.1 r.2.2.1
  else some (h,0,0,())
def iT (m:Im) (f:Int):Option (List Sh×Int×Int×Unit):=
 bif aF m&&inM m f then nP m f (100*aB m f+2) ((List.replicate (aB m f) zSh).set 0 (true,[],())) ((List.replicate (aB m f) false).set 0 true) else none
def nK (m:Im):List Int→List (List Sh)→Option (List (List Sh)×Int×Int×Int×Unit)
 | [],out=>some (out,0,0,0,())
 | f::l,out=>(iT m f).bind fun r=>bif r.2.2.1 !=0 then some ([],f,r.2.1,r.2.2.1,()) else nK m l (out++[r.1])
def kS (m:Im):Option (List (List Sh)×Int×Int×Int×Unit):=bif aF m then nK m (ints m.2.2.2.1.length) [] else none
def iN (l:List Int):Int:=l.foldl max 0
def sZ (l:List (List Sh)) (f:Int):Int:=bif sin f (l.length:Int) then iN ((l.getD f.toNat []).map fun s=>(s.2.1.length:Int)) else 0
def aCw (l:List (List Sh)) (f:Int):Option (Int×Unit):=bif dM l then some (sZ l f,()) else none
def sG (m:Im) (l:List (List Sh)) (f:Int):Int:=bif inM m f then ((3+(aC m f).1.length+(aC m f).2.1.length:Nat):Int)+sZ l f else 0
def aDG (to:Int) (part:List Int):Bool:=part.contains to
def aAc (l:List Int) (c:List Int×Unit):Int:=iW (fun x=>aDG x c.1) 0 l
def nB (l:List Int) (c:List Int×Unit):Bool:=l.any fun x=>aDG x c.1
def eD (l:List (List Int)) (part:List Int):Bool:=part.any fun k=>sin k (l.length:Int)&&(l.getD k.toNat []).any fun to=>part.contains to
def xU (l:List (List Int)) (part:List Int):Option (Bool×Unit):=bif okL part then some (eD l part,()) else none
def qJ (part out:List Int):List Int→Int→Int
 | [],b=>b
 | to::r,b=>qJ part out r (bif !part.contains to&&decide (to<(out.length:Int)) then max b (out.getD to.toNat 0) else b)
def mP (m:Im) (l:List (List Sh)) (ed:List (List Int)) (part out:List Int) (cyc:Bool):List Int→Int→Int→Option (Int×Int)
 | [],a,b=>some (a,b)
 | f::r,a,b=>bif decide ((bif cyc then (aC m f).2.2.2.2.1 else 1)<1) then none
  else mP m l ed part out cyc r (IntKind.i64.wrap (a+IntKind.i64.wrap ((bif cyc then (aC m f).2.2.2.2.1 else 1)*sG m l f))) (qJ part out (ed.getD f.toNat []) b)
def oB (v:Int):List Int→List Int→List Int
 | [],out=>out
 | f::r,out=>oB v r (out.set f.toNat v)
def kT (m:Im) (l:List (List Sh)) (ed:List (List Int)):List (List Int)→List Int→List Int×Int×Unit
 | [],out=>(out,0,())
 | part::ps,out=>match mP m l ed part out (eD ed part) part 0 0 with
  | none=>([],5,())
  | some a=>kT m l ed ps (oB (IntKind.i64.wrap (a.1+a.2)) part out)
def dE (m:Im):List (List Int):=(ints m.2.2.2.1.length).map (ofB m)
def aEo (m:Im):Bool:=(dE m).all fun e=>okL e&&e.all (inM m)
noncomputable def oV (m:Im) (l:List (List Sh)):Option (List Int×Int×Unit):=bif aF m&&(dM l&&aEo m) then (nL (dE m)).bind fun r=>bif okL r.1&&r.1.all (fun p=>okL p&&p.all (inM m)) then some (kT m l (dE m) r.1 (List.replicate m.2.2.2.1.length 0)) else none else none
def inU (x:Int):Bool:=decide (0≤x)&&decide (x≤18446744073709551615)
def aCR (x y:Int):Option (Int×Int×Unit):=bif inU x&&inU y then some (x*y/18446744073709551616,x*y % 18446744073709551616,()) else none
abbrev Sure:=Int×Bool×Unit
def lof (n:Int):Sure:=(n,decide (n> -4611686018427387904)&&decide (n<4611686018427387904),())
def dH (n:Int):Int:=bif decide (n<0) then IntKind.u64.wrap (IntKind.i64.wrap (0 - n)) else IntKind.u64.wrap n
def aCu (a b:Sure):Sure:=bif a.2.1&&b.2.1 then lof (IntKind.i64.wrap (a.1+b.1)) else (0,false,())
def aFn (a b:Sure):Option (Sure×Unit):=some (aCu a b,())
def zB (a b:Sure):Sure:=
 bif a.2.1&&b.2.1 then (bif decide (dH a.1*dH b.1/18446744073709551616≠0) || decide (dH a.1*dH b.1 % 18446744073709551616≥4611686018427387904) then (0,false,()) else lof (IntKind.i64.wrap (a.1*b.1))) else (0,false,())
def aCf (a b:Sure):Option (Sure×Unit):=some (zB a b,())
def vB:List (Int×Int)→Sure→Sure
 | [],a=>a
 | p::r,a=>vB r (aCu a (zB (lof p.1) (lof p.2)))
def aFy (most:Int) (s:Sure):Bool×Int×Unit:=bif !s.2.1 then (false,14,()) else (decide (s.1≤most),0,())
def mC (q:Iq) (v:List Int):Bool×Int×Unit:=bif decide (q.1.length≠v.length) then (false,14,()) else aFy q.2.1 (vB (q.1.zip v) (lof 0))
def zA (q:Iq) (v:List Int):Option (Bool×Int×Unit):=bif okL q.1 then some (mC q v) else none
def bZ (l:List (List Sh)) (f pc:Int):Sh:=(l.getD f.toNat []).getD pc.toNat zSh
def yE (l:List (List Sh)) (f pc:Int):Option (Sh×Unit):=bif decide (0≤f)&&decide (0≤pc) then some (bZ l f pc,()) else none
def dD (m:Im) (f:Int):Int:=(aC m f).2.2.2.2.2.1
def qR (m:Im) (i:Ins):Int:=
 bif i.1==22 then wX m i.2.1 else bif i.1==23 then IntKind.i64.wrap (1+max 0 (min i.2.1 255)) else iN (((aS m i).filter (inM m)).map (dD m))
def aCW (m:Im) (i:Ins):Option (Int×Unit):=bif bD m then some (qR m i,()) else none
def lO (z:List Int) (a d:Int):List Int:=bif decide (a≥0) then z.set a.toNat (IntKind.i64.wrap (z.getD a.toNat 0+d)) else z
def eO (n a b c:Int):Iq:=(lO (lO (List.replicate n.toNat 0) a (-1)) b 1,c,())
def aBQ (n a b c:Int):Option (Iq×Unit):=bif decide (0≤n)&&(Nat.blt n.toNat 1000000&&(decide (a<n)&&decide (b<n))) then some (eO n a b c,()) else none
def kU (m:Im) (l:List (List Sh)) (f pc:Int):List Iq:=
 bif !(bZ l f pc).1 then[] else
 bif (aM m f pc (bZ l f pc).2.1).2.2.1 !=0 then[] else
 (bif decide ((aM m f pc (bZ l f pc).2.1).2.1.length=0) then[eO (aB m f:Int) pc (-1) 0] else[])++
 (aM m f pc (bZ l f pc).2.1).2.1.map fun to=>eO (aB m f:Int) pc to (IntKind.i64.wrap (0 - qR m (aH m f pc)))
def jW (m:Im) (l:List (List Sh)) (f:Int):List Iq:=
 bif inM m f then eO (aB m f:Int) (-1) 0 (dD m f)::((List.range (aB m f)).map fun k:Nat=>kU m l f (k:Int)).flatten else[]
def yJ (m:Im) (l:List (List Sh)) (f:Int):Option (List Iq×Unit):=bif aF m&&dM l then some (jW m l f,()) else none
def zU (n:Int):Bool:=decide (n<0)
def zP (l:List Int) (_:Unit):Int:=iW zU 0 l
def mY (l:List Int) (_:Unit):Bool:=l.any zU
def cX (m:Im) (f:Int):List Int:=(aC m f).2.2.2.2.2.2.1
def qT (m:Im) (f:Int) (q:Iq):Bool:=decide ((mC q (cX m f)).2.1=0)&&(mC q (cX m f)).1
def xC (m:Im) (l:List (List Sh)):List Int→Int×Int×Unit
 | []=>(0,0,())
 | f::r=>bif (jW m l f).all (qT m f) then (bif (cX m f).any zU then (f,6,()) else xC m l r) else (f,6,())
def rT (m:Im) (l:List (List Sh)):Option (Int×Int×Unit):=bif aF m&&dM l then some (xC m l (ints m.2.2.2.1.length)) else none
def dS (m:Im) (bd:List Int):List Int→Int→Int→Int×Int
 | [],s,h=>(s,h)
 | f::r,s,h=>bif decide (f≥0)&&decide (f<(bd.length:Int)) then dS m bd r (max s (bd.getD f.toNat 0)) (max h (dD m f)) else dS m bd r s h
def aIc (m:Im) (r:List Int×Int×Unit):Int×Int×Int×Unit:=
 bif r.2.1 !=0 then (0,0,r.2.1,()) else ((dS m r.1 m.2.2.2.2.1 0 0).1,IntKind.i64.wrap ((m.2.1.length:Int)+(dS m r.1 m.2.2.2.2.1 0 0).2),0,())
noncomputable def kR (m:Im) (l:List (List Sh)):Option (Int×Int×Int×Unit):=bif aF m then (oV m l).bind fun r=>some (aIc m r) else none
def gK (m:Im) (i:Ins):Int:=bif i.1==22 then wX m i.2.1 else bif i.1==23 then IntKind.i64.wrap (1+i.2.1) else iN ((aS m i).map (dD m))
def qK (m:Im) (i:Ins):Option (Int×Unit):=bif bD m&&(aS m i).all (inM m) then some (gK m i,()) else none
def yH (a b:List (List Sh)):Option (Bool×Unit):=bif dM a&&dM b then some (a==b,()) else none
def yD (m:Im):Bool:=decide (aQc m≤100)&&m.2.2.2.1.all fun x=>decide (x.1.length+x.2.1.length+x.2.2.2.1.length+x.2.2.2.2.2.2.1.length≤300)
end Go.Pli

namespace Go.Pli
open Go Go.PM
def aCJ (l:List Cl) (a b:Tp):Option (Tp×Unit):=bif okL l then some (fA l a b,()) else none
def pJ (m:Im) (f pc:Int) (s:List Tp):Option St4:=bif aF m&&okL s then some (aM m f pc s) else none
def mI (l:List Cl) (a:List Tp):List Int→Bool→List Sh→Option (Bool×List Sh)
 | [],t,h=>some (t,h)
 | to::r,t,h=>
  bif !(bI l (h.getD to.toNat zSh) a).2.2.1 then none
  else bif (bI l (h.getD to.toNat zSh) a).2.1 then mI l a r true (h.set to.toNat (bI l (h.getD to.toNat zSh) a).1)
  else mI l a r t h
def qY (m:Im) (f:Int) (pc:Nat) (t:Bool) (h:List Sh):Option (Bool×List Sh):=
 bif !(h.getD pc zSh).1 then some (t,h)
 else bif (aM m f (pc:Int) (h.getD pc zSh).2.1).2.2.1 !=0 then none
 else mI m.1 (aM m f (pc:Int) (h.getD pc zSh).2.1).1 (aM m f (pc:Int) (h.getD pc zSh).2.1).2.1 t h
def kB (m:Im) (f:Int):Nat→Bool→List Sh→Option (Bool×List Sh)
 | 0,t,h=>some (t,h)
 | pc+1,t,h=>(qY m f pc t h).bind fun r=>kB m f pc r.1 r.2
def eI (m:Im) (f:Int):Nat→List Sh→List Sh×Bool×Unit
 | 0,_=>([],false,())
 | n+1,h=>match kB m f (aB m f) false h with
  | none=>([],false,())
  | some r=>bif r.1 then eI m f n r.2 else (r.2,true,())
def fO (m:Im) (f:Int):List Sh:=(List.replicate (aB m f) zSh).set 0 (true,[],())
def qA (m:Im) (f:Int):Option (List Sh×Bool×Unit):=bif aF m&&inM m f then some (eI m f 4000 (fO m f)) else none
def aEp (m:Im):List Int→List (List Sh)→List (List Sh)×Int×Unit
 | [],out=>(out,-1,())
 | f::l,out=>bif (eI m f 4000 (fO m f)).2.1 then aEp m l (out++[(eI m f 4000 (fO m f)).1]) else ([],f,())
def rF (m:Im):Option (List (List Sh)×Int×Unit):=bif aF m then some (aEp m (ints m.2.2.2.1.length) []) else none
end Go.Pli

namespace Go.Pli
open Go Go.PM
def tL (m:Im) (l:List (List Sh)) (f:Int):Option (Int×Unit):=bif aF m&&dM l then some (sG m l f,()) else none
def nV (W:Nat→Nat→Bool) (out:List Int) (g:Int):List Int→Int→Int
 | [],b=>b
 | to::r,b=>nV W out g r (bif !W to.toNat g.toNat&&decide (out.getD to.toNat 0>b) then out.getD to.toNat 0 else b)
def mV (m:Im) (l:List (List Sh)) (W:Nat→Nat→Bool) (f:Int) (out:List Int):List Int→Int→Int→Int×Int
 | [],a,b=>(a,b)
 | g::r,a,b=>bif g !=f&& !(W f.toNat g.toNat&&W g.toNat f.toNat) then mV m l W f out r a b
  else mV m l W f out r (IntKind.i64.wrap (a+IntKind.i64.wrap ((bif W g.toNat g.toNat then (aC m g).2.2.2.2.1 else 1)*sG m l g))) (nV W out g ((aG m).getD g.toNat []) b)
def nO (m:Im) (l:List (List Sh)) (W:Nat→Nat→Bool) (out:List Int) (f:Int):Int:=
 IntKind.i64.wrap ((mV m l W f out (ints m.2.2.2.1.length) 0 0).1+(mV m l W f out (ints m.2.2.2.1.length) 0 0).2)
def eE (m:Im) (l:List (List Sh)) (W:Nat→Nat→Bool):List Int→List Int→List Int
 | [],out=>out
 | f::r,out=>eE m l W r (out.set f.toNat (nO m l W out f))
def mJ (m:Im) (l:List (List Sh)) (W:Nat→Nat→Bool):Nat→List Int→List Int
 | 0,out=>out
 | k+1,out=>mJ m l W k (eE m l W (ints m.2.2.2.1.length) out)
def bR (m:Im):Nat→Nat→Bool:=cR (aG m) m.2.2.2.1.length
def fU (m:Im):Bool:=(ints m.2.2.2.1.length).any fun f=>bR m f.toNat f.toNat&&decide ((aC m f).2.2.2.2.1<1)
def kM (m:Im) (l:List (List Sh)):List Int×Bool×Unit:=
 bif fU m then ([],false,()) else (mJ m l (bR m) m.2.2.2.1.length (List.replicate m.2.2.2.1.length 0),true,())
def mM (m:Im) (l:List (List Sh)):Option (List Int×Bool×Unit):=bif aF m&&(dM l&&(sP m&&rU (aG m))) then some (kM m l) else none
end Go.Pli

namespace Go.Pli
open Go Go.PM
def aEY (m:Im) (l:List (List Sh)) (f:Int) (pc:Nat):Bool:=
 (bZ l f (pc:Int)).1&&(aM m f (pc:Int) (bZ l f (pc:Int)).2.1).2.1.any fun to=>decide ((cX m f).getD pc 0<IntKind.i64.wrap (gK m (aH m f (pc:Int))+(cX m f).getD to.toNat 0))
def aAV (m:Im) (l:List (List Sh)) (f:Int):Bool:=decide ((cX m f).getD 0 0>dD m f) || (List.range (aB m f)).any (aEY m l f)
def aCP (m:Im) (l:List (List Sh)):Int:=match (ints m.2.2.2.1.length).find? (aAV m l) with
 | some f=>f
 | none=> -1
def aBB (m:Im) (l:List (List Sh)):Bool:=dM l&&(decide (l.length=m.2.2.2.1.length)&&(ints m.2.2.2.1.length).all fun f=>decide ((l.getD f.toNat []).length=aB m f))
def oK (m:Im) (l:List (List Sh)):Option (Int×Unit):=bif aF m&&aBB m l then some (aCP m l,()) else none
def aIa (m:Im) (r:List Int×Bool×Unit):Int×Int×Bool×Unit:=
 bif r.2.1 then ((dS m r.1 m.2.2.2.2.1 0 0).1,IntKind.i64.wrap ((m.2.1.length:Int)+(dS m r.1 m.2.2.2.2.1 0 0).2),true,()) else (0,0,false,())
def jH (m:Im) (l:List (List Sh)):Option (Int×Int×Bool×Unit):=bif aF m then (mM m l).bind fun r=>some (aIa m r) else none
end Go.Pli

namespace Go.Pli
open Go Go.PM
noncomputable section
def aCX (l:List (List Sh)) (f:Int) (s1:Int×Int×Unit) (rec2:(Int×Int×Unit)→Option (Int×Unit)):Option (Int×Unit):=
 bif decide (s1.2.1<((l.getD f.toNat ([]:List Sh)).length:Int)) then
  bif decide (0≤s1.2.1)&&decide (s1.2.1<(l.getD f.toNat ([]:List Sh)).length) then
   rec2 (max s1.1 (((l.getD f.toNat ([]:List Sh)).getD s1.2.1.toNat zSh).2.1.length:Int),IntKind.i64.wrap (s1.2.1+1),())
  else none
 else some (s1.1,())
def aOR (fuel:Nat) (l:List (List Sh)) (f:Int):Option (Int×Unit):=
 bif decide (f<0) then
  some ((0:Int),())
 else bif decide (f≥(l.length:Int)) then
  some ((0:Int),())
 else bif decide (0≤f)&&decide (f<l.length) then
  aA (aCX l f) fuel ((0:Int),((0:Int),()))
 else none
def aCD (m:Im) (l:List (List Sh)) (f:Int):Option (Int×Unit):=
 bif decide (f<0) then
  some ((0:Int),())
 else bif decide (f≥(m.2.2.2.1.length:Int)) then
  some ((0:Int),())
 else bif decide (0≤f)&&decide (f<m.2.2.2.1.length) then
  (aCw l f).bind fun r1=>
  some (IntKind.i64.wrap ((IntKind.i64.wrap ((IntKind.i64.wrap ((3:Int)+((m.2.2.2.1.getD f.toNat zMt).1.length:Int)))+((m.2.2.2.1.getD f.toNat zMt).2.1.length:Int)))+r1.1),())
 else none
def aOM (_s:Unit) (n:Int):Option (List Tp×Unit):=
 bif decide (n<0) then
  none
 else bif decide (IntKind.i64.wrap (n - (IntKind.i64.wrap ((0:Int) - (([]:List Tp).length:Int))))>0) then
  bif decide (0<IntKind.i64.wrap (n - (IntKind.i64.wrap ((0:Int) - (([]:List Tp).length:Int)))))&&decide (IntKind.i64.wrap (n - (IntKind.i64.wrap ((0:Int) - (([]:List Tp).length:Int))))<(rowMax:Int)) then
   bif decide ((0:Int)≤(([]:List Tp).length:Int))&&decide ((([]:List Tp).length:Int)≤((List.replicate (IntKind.i64.wrap (n - (IntKind.i64.wrap ((0:Int) - (([]:List Tp).length:Int))))).toNat zTp).length:Int))&&true then
    some (((List.replicate (IntKind.i64.wrap (n - (IntKind.i64.wrap ((0:Int) - (([]:List Tp).length:Int))))).toNat zTp).take (([]:List Tp).length:Int).toNat).drop 0,())
   else none
  else none
 else some (([]:List Tp),())
def wO (l:List (List Tp)) (s4:List Tp×Int×Unit) (rec5:(List Tp×Int×Unit)→Option (List Tp×Unit)):Option (List Tp×Unit):=
 bif decide (s4.2.1<(l.length:Int)) then
  bif decide (0≤s4.2.1)&&decide (s4.2.1<l.length) then
   bif decide (s4.1.length+(l.getD s4.2.1.toNat ([]:List Tp)).length<rowMax)&&true then
    rec5 (s4.1++(l.getD s4.2.1.toNat ([]:List Tp)),IntKind.i64.wrap (s4.2.1+1),())
   else none
  else none
 else some (s4.1,())
def aBz (l:List (List Tp)) (fuel:Nat) (s1:Int×Int×Unit) (rec2:(Int×Int×Unit)→Option (List Tp×Unit)):Option (List Tp×Unit):=
 bif decide (s1.2.1<(l.length:Int)) then
  bif decide (0≤s1.2.1)&&decide (s1.2.1<l.length) then
   bif decide (IntKind.i64.wrap (s1.1+((l.getD s1.2.1.toNat ([]:List Tp)).length:Int))<0) then
    none
   else rec2 (IntKind.i64.wrap (s1.1+((l.getD s1.2.1.toNat ([]:List Tp)).length:Int)),IntKind.i64.wrap (s1.2.1+1),())
  else none
 else
  (aCv () s1.1).bind fun r3=>
  aA (wO l) fuel (r3.1,((0:Int),()))
def aJ2 (fuel:Nat) (l:List (List Tp)):Option (List Tp×Unit):=
 aA (aBz l fuel) fuel ((0:Int),((0:Int),()))
def aPK (s:List Int) (_v:Int):Prop:=(s.length≤lenMax∧∀x1:Int,x1∈s→True)∧True∧True
def aDH (s:List Int) (v:Int) (s1:Int×Unit) (rec2:(Int×Unit)→Option (Int×Unit)):Option (Int×Unit):=
 bif decide (s1.1<(s.length:Int)) then
  bif decide (0≤s1.1)&&decide (s1.1<s.length) then
   bif v==(s.getD s1.1.toNat 0) then
    some (s1.1,())
   else rec2 (IntKind.i64.wrap (s1.1+1),())
  else none
 else some ((-1:Int),())
def aTT (fuel:Nat) (s:List Int) (v:Int):Option (Int×Unit):=
 aA (aDH s v) fuel ((0:Int),())
def aIu (s:List Int) (_v:Int):Prop:=(s.length≤lenMax∧∀x1:Int,x1∈s→True)∧True∧True
def aEK (s:List Int) (v:Int):Option (Bool×Unit):=
 some (decide ((aE5 s v)≥0),())
def aOX (s:List Iq):Option (List Iq×Unit):=
 bif decide ((s.length:Int)=(s.length:Int))&&decide ((s.length:Int)=(s.length:Int)) then
  some (s,())
 else none
def aMr (s:List (List Sh)):Option (List (List Sh)×Unit):=
 bif decide ((s.length:Int)=(s.length:Int))&&decide ((s.length:Int)=(s.length:Int)) then
  some (s,())
 else none
def aUD (m:Im) (c:Int):Option (Int×Unit):=
 bif decide (0≤c)&&decide (c<m.1.length) then
  bif decide ((m.1.getD c.toNat zCl).1≥c) then
   some ((-1:Int),())
  else bif decide (0≤c)&&decide (c<m.1.length) then
   some ((m.1.getD c.toNat zCl).1,())
  else none
 else none
def wB (m:Im) (s1:Int×List Tp×Unit) (rec2:(Int×List Tp×Unit)→Option (List Tp×Unit)):Option (List Tp×Unit):=
 bif decide (s1.1≥0) then
  bif decide (0≤s1.1)&&decide (s1.1<m.1.length) then
   (lE [(m.1.getD s1.1.toNat zCl).2.1,s1.2.1]).bind fun r3=>
   (cup m s1.1).bind fun r4=>
   rec2 (r4.1,r3.1,())
  else none
 else some (s1.2.1,())
def aJf (fuel:Nat) (m:Im) (c:Int):Option (List Tp×Unit):=
 bif decide (c≥(m.1.length:Int)) then
  some (([]:List Tp),())
 else aA (wB m) fuel (c,(([]:List Tp),()))
def aO8 (m:Im) (c:Int):Option (Int×Unit):=
 (mQ m c).bind fun r1=>
 some (IntKind.i64.wrap ((1:Int)+(r1.1.length:Int)),())
def aMe (x:Mt) (n:Int):Option (Tp×Unit):=
 bif decide (n<0) then
  some (((0:Int),((0:Int),())),())
 else bif decide (n≥IntKind.i64.wrap ((x.1.length:Int)+(x.2.1.length:Int))) then
  some (((0:Int),((0:Int),())),())
 else bif decide (n<(x.1.length:Int)) then
  bif decide (0≤n)&&decide (n<x.1.length) then
   some (x.1.getD n.toNat zTp,())
  else none
 else bif decide (0≤IntKind.i64.wrap (n - (x.1.length:Int)))&&decide (IntKind.i64.wrap (n - (x.1.length:Int))<x.2.1.length) then
  some (x.2.1.getD (IntKind.i64.wrap (n - (x.1.length:Int))).toNat zTp,())
 else none
def aCn (l:List Cl) (b:Tp) (s1:Int×Unit) (rec2:(Int×Unit)→Option (Tp×Unit)):Option (Tp×Unit):=
 bif decide (s1.1≥0) then
  bif (bY l b.2.1 s1.1) then
   some (((3:Int),s1.1,()),())
  else rec2 ((kup l s1.1),())
 else some (((0:Int),((0:Int),())),())
def aPZ (fuel:Nat) (l:List Cl) (a:Tp) (b:Tp):Option (Tp×Unit):=
 bif (cO l a b) then
  some (b,())
 else bif (cO l b a) then
  some (a,())
 else bif a.1 !=3 then
  some (((0:Int),((0:Int),())),())
 else bif b.1 !=3 then
  some (((0:Int),((0:Int),())),())
 else aA (aCn l b) fuel ((kup l a.2.1),())
def aPO (o:Int):Option (Bool×Unit):=
 bif decide (o≥7) then
  some (decide (o≤17),())
 else some (false,())
def eR:Tp:=
 ((1:Int),((0:Int),()))
def tQ:Tp:=
 ((2:Int),((0:Int),()))
def iL (c:Int):Tp:=
 ((3:Int),c,())
def dL (t:List Tp):List Tp:=
 t
def fZ (t:Tp):List Tp:=
 [t]
def aIK (x:Mt) (t:List Tp):Option ((List Tp×List Tp×Unit)×Unit):=
 bif decide (0≤(t.length:Int))&&decide ((t.length:Int)≤(x.1.length:Int))&&decide ((x.1.length:Int)≤(x.1.length:Int)) then
  (lE [t,(x.1.take x.1.length).drop t.length]).bind fun r1=>
  bif x.2.2.1.1 !=5 then
   some ((r1.1,[x.2.2.1],()),())
  else some ((r1.1,(([]:List Tp),())),())
 else none
def aMt (o:Int):Option ((List Tp×List Tp×Unit)×Bool×Unit):=
 bif o==2 then
  some ((([]:List Tp),((dL [((4:Int),((0:Int),()))]),())),true,())
 else bif o==5 then
  some (((dL [((0:Int),((0:Int),()))]),(([]:List Tp),())),true,())
 else bif o==20 then
  some (((dL [((4:Int),((0:Int),()))]),(dL [eR]),()),true,())
 else bif o==21 then
  some (((dL [((4:Int),((0:Int),())),((4:Int),((0:Int),()))]),(dL [eR]),()),true,())
 else bif o==24 then
  some (((dL [tQ,eR]),(dL [eR]),()),true,())
 else bif o==25 then
  some (((dL [tQ,eR,eR]),(([]:List Tp),())),true,())
 else bif o==26 then
  some (((dL [tQ]),(dL [eR]),()),true,())
 else bif o==1 then
  some ((([]:List Tp),(dL [eR]),()),true,())
 else bif o==19 then
  some (((dL [eR]),(([]:List Tp),())),true,())
 else bif o==18 then
  some ((([]:List Tp),(([]:List Tp),())),true,())
 else bif o==23 then
  some (((dL [eR]),(dL [tQ]),()),true,())
 else bif (pB o) then
  some (((dL [eR,eR]),(dL [eR]),()),true,())
 else some ((([]:List Tp),(([]:List Tp),())),false,())
def aUs (m:Im) (i:Ins) (f:Int):Option ((List Tp×List Tp×Unit)×Unit):=
 bif decide (0≤f)&&decide (f<m.2.2.2.1.length) then
  let r1:=dN i.1
  bif r1.2.1 then
   some (r1.1,())
  else bif i.1==3 then
   (vL (m.2.2.2.1.getD f.toNat zMt) i.2.1).bind fun r2=>
   some ((([]:List Tp),(fZ r2.1),()),())
  else bif i.1==4 then
   (vL (m.2.2.2.1.getD f.toNat zMt) i.2.1).bind fun r3=>
   some (((fZ r3.1),(([]:List Tp),())),())
  else bif i.1==22 then
   some ((([]:List Tp),(fZ (iL i.2.1)),()),())
  else bif i.1==27 then
   (mQ m i.2.1).bind fun r4=>
   bif decide (0≤i.2.2.1)&&decide (i.2.2.1<r4.1.length) then
    some (((fZ (iL i.2.1)),(fZ (r4.1.getD i.2.2.1.toNat zTp)),()),())
   else none
  else bif i.1==28 then
   (mQ m i.2.1).bind fun r5=>
   bif decide (0≤i.2.2.1)&&decide (i.2.2.1<r5.1.length) then
    some (([(iL i.2.1),r5.1.getD i.2.2.1.toNat zTp],(([]:List Tp),())),())
   else none
  else bif i.1==29 then
   bif decide (0≤i.2.1)&&decide (i.2.1<m.2.1.length) then
    some ((([]:List Tp),(fZ (m.2.1.getD i.2.1.toNat zTp)),()),())
   else none
  else bif i.1==30 then
   bif decide (0≤i.2.1)&&decide (i.2.1<m.2.1.length) then
    some (((fZ (m.2.1.getD i.2.1.toNat zTp)),(([]:List Tp),())),())
   else none
  else bif i.1==31 then
   bif decide (0≤i.2.1)&&decide (i.2.1<m.2.2.2.1.length) then
    (pU (m.2.2.2.1.getD i.2.1.toNat zMt) ([]:List Tp)).bind fun r6=>
    some (r6.1,())
   else none
  else bif i.1==32 then
   let r7:=dI m i.2.1 i.2.2.1
   bif decide (0≤r7.1)&&decide (r7.1<m.2.2.2.1.length) then
    (pU (m.2.2.2.1.getD r7.1.toNat zMt) (fZ (iL i.2.1))).bind fun r8=>
    some (r8.1,())
   else none
  else bif i.1==34 then
   some (((fZ ((4:Int),((0:Int),()))),(fZ (iL i.2.1)),()),())
  else bif i.1==33 then
   bif ((m.2.2.2.1.getD f.toNat zMt).2.2.1.1) !=5 then
    some (((fZ (m.2.2.2.1.getD f.toNat zMt).2.2.1),(([]:List Tp),())),())
   else some ((([]:List Tp),(([]:List Tp),())),())
  else some ((([]:List Tp),(([]:List Tp),())),())
 else none
def aOD (m:Im) (o:Int) (t:Tp) (w:Tp):Option (Bool×Unit):=
 bif w.1==0 then
  some (true,())
 else bif w.1==4 then
  bif (gO t) then
   bif o !=34 then
    some (true,())
   else some (t.1 !=2,())
  else some (false,())
 else some ((cO m.1 t w),())
def aL1 (i:Ins) (pc:Int):Option (List Int×Unit):=
 bif i.1==18 then
  some ([i.2.1],())
 else bif i.1==19 then
  some ([IntKind.i64.wrap (pc+1),i.2.1],())
 else bif i.1==33 then
  some (([]:List Int),())
 else some ([IntKind.i64.wrap (pc+1)],())
def aF5 (m:Im) (f:Int) (pc:Int) (s:List Tp) (r2:(List Tp×List Tp×Unit)×Unit) (s3:List Int×Int×Unit) (rec4:(List Int×Int×Unit)→Option (List Tp×List Int×Int×Unit)):Option (List Tp×List Int×Int×Unit):=
 bif decide (s3.2.1<(r2.1.1.length:Int)) then
  bif decide (0≤s3.2.1)&&decide (s3.2.1<r2.1.1.length) then
   bif decide (0≤IntKind.i64.wrap ((IntKind.i64.wrap ((s.length:Int) - (r2.1.1.length:Int)))+s3.2.1))&&decide (IntKind.i64.wrap ((IntKind.i64.wrap ((s.length:Int) - (r2.1.1.length:Int)))+s3.2.1)<s.length) then
    bif !(dT m ((m.2.2.2.1.getD f.toNat zMt).2.2.2.1.getD pc.toNat dJ).1 (s.getD (IntKind.i64.wrap ((IntKind.i64.wrap ((s.length:Int) - (r2.1.1.length:Int)))+s3.2.1)).toNat zTp) (r2.1.1.getD s3.2.1.toNat zTp)) then
     some (([]:List Tp),(([]:List Int),((4:Int),())))
    else rec4 (s3.1,IntKind.i64.wrap (s3.2.1+1),())
   else none
  else none
 else bif decide ((0:Int)≤IntKind.i64.wrap ((s.length:Int) - (r2.1.1.length:Int)))&&decide (IntKind.i64.wrap ((s.length:Int) - (r2.1.1.length:Int))≤(s.length:Int)) then
  (lE [(s.take (IntKind.i64.wrap ((s.length:Int) - (r2.1.1.length:Int))).toNat).drop 0,r2.1.2.1]).bind fun r5=>
  some (r5.1,s3.1,((0:Int),()))
 else none
def aPC (fuel:Nat) (m:Im) (f:Int) (pc:Int) (s:List Tp):Option (List Tp×List Int×Int×Unit):=
 bif decide (f<0) then
  some (([]:List Tp),(([]:List Int),((1:Int),())))
 else bif decide (f≥(m.2.2.2.1.length:Int)) then
  some (([]:List Tp),(([]:List Int),((1:Int),())))
 else bif decide (pc<0) then
  some (([]:List Tp),(([]:List Int),((1:Int),())))
 else bif decide (0≤f)&&decide (f<m.2.2.2.1.length) then
  bif decide (pc≥((m.2.2.2.1.getD f.toNat zMt).2.2.2.1.length:Int)) then
   some (([]:List Tp),(([]:List Int),((1:Int),())))
  else bif decide (0≤f)&&decide (f<m.2.2.2.1.length) then
   bif decide (0≤pc)&&decide (pc<(m.2.2.2.1.getD f.toNat zMt).2.2.2.1.length) then
    bif decide (0≤f)&&decide (f<m.2.2.2.1.length) then
     bif (jZ (cS ((m.2.2.2.1.getD f.toNat zMt).2.2.2.1.getD pc.toNat dJ) pc) ((m.2.2.2.1.getD f.toNat zMt).2.2.2.1.length:Int)) then
      some (([]:List Tp),(([]:List Int),((4:Int),())))
     else bif (((m.2.2.2.1.getD f.toNat zMt).2.2.2.1.getD pc.toNat dJ).1)==6 then
      bif (s.length:Int)==0 then
       some (([]:List Tp),(([]:List Int),((4:Int),())))
      else bif decide ((s.length:Int)≥8) then
       some (([]:List Tp),(([]:List Int),((4:Int),())))
      else bif decide (0≤IntKind.i64.wrap ((s.length:Int) - 1))&&decide (IntKind.i64.wrap ((s.length:Int) - 1)≤(s.length:Int))&&decide ((s.length:Int)≤(s.length:Int)) then
       (lE [s,(s.take s.length).drop (IntKind.i64.wrap ((s.length:Int) - 1)).toNat]).bind fun r1=>
       some (r1.1,(cS ((m.2.2.2.1.getD f.toNat zMt).2.2.2.1.getD pc.toNat dJ) pc),((0:Int),()))
      else none
     else
      (fof m ((m.2.2.2.1.getD f.toNat zMt).2.2.2.1.getD pc.toNat dJ) f).bind fun r2=>
      bif decide (IntKind.i64.wrap ((s.length:Int) - (r2.1.1.length:Int))<0) then
       some (([]:List Tp),(([]:List Int),((4:Int),())))
      else bif decide (IntKind.i64.wrap ((IntKind.i64.wrap ((s.length:Int) - (r2.1.1.length:Int)))+(r2.1.2.1.length:Int))>8) then
       some (([]:List Tp),(([]:List Int),((4:Int),())))
      else aA (aF5 m f pc s r2) fuel ((cS ((m.2.2.2.1.getD f.toNat zMt).2.2.2.1.getD pc.toNat dJ) pc),((0:Int),()))
    else none
   else none
  else none
 else none
def zK (m:Im) (o:Sh) (s:List Tp) (s2:Int×List Tp×Unit) (rec3:(Int×List Tp×Unit)→Option (Sh×Bool×Bool×Unit)):Option (Sh×Bool×Bool×Unit):=
 bif decide (s2.1<(s.length:Int)) then
  bif decide (0≤s2.1)&&decide (s2.1<s.length) then
   bif decide (0≤s2.1)&&decide (s2.1<o.2.1.length) then
    (zJ m.1 (o.2.1.getD s2.1.toNat zTp) (s.getD s2.1.toNat zTp)).bind fun r4=>
    bif decide (0≤s2.1)&&decide (s2.1<s2.2.1.length) then
     bif decide (0≤s2.1)&&decide (s2.1<(s2.2.1.set s2.1.toNat r4.1).length) then
      bif (((s2.2.1.set s2.1.toNat r4.1).getD s2.1.toNat zTp).1)==0 then
       some (o,false,false,())
      else rec3 (IntKind.i64.wrap (s2.1+1),s2.2.1.set s2.1.toNat r4.1,())
     else none
    else none
   else none
  else none
 else some ((true,s2.2.1,()),!(eqL s2.2.1 o.2.1),true,())
def aMq (fuel:Nat) (m:Im) (o:Sh) (s:List Tp):Option (Sh×Bool×Bool×Unit):=
 bif !o.1 then
  (qD s).bind fun r1=>
  some ((true,(idL r1.1),()),true,true,())
 else bif (o.2.1.length:Int) !=(s.length:Int) then
  some (o,false,false,())
 else bif decide (0≤(s.length:Int))&&decide ((s.length:Int)≤(s.length:Int))&&decide ((s.length:Int)<(rowMax:Int)) then
  aA (zK m o s) fuel ((0:Int),List.replicate s.length zTp,())
 else none
def aFR (m:Im) (r1:List Tp×List Int×Int×Unit) (s2:Int×List Sh×List Bool×Unit) (rec3:(Int×List Sh×List Bool×Unit)→Option (Bool×List Sh×List Bool×Unit)):Option (Bool×List Sh×List Bool×Unit):=
 bif decide (s2.1<(r1.2.1.length:Int)) then
  bif decide (0≤s2.1)&&decide (s2.1<r1.2.1.length) then
   bif decide (0≤r1.2.1.getD s2.1.toNat 0)&&decide (r1.2.1.getD s2.1.toNat 0<s2.2.1.length) then
    (xT m (s2.2.1.getD (r1.2.1.getD s2.1.toNat 0).toNat zSh) r1.1).bind fun r4=>
    bif !r4.2.2.1 then
     some (false,s2.2.1,s2.2.2.1,())
    else bif r4.2.1 then
     bif decide (0≤r1.2.1.getD s2.1.toNat 0)&&decide (r1.2.1.getD s2.1.toNat 0<s2.2.1.length) then
      bif decide (0≤r1.2.1.getD s2.1.toNat 0)&&decide (r1.2.1.getD s2.1.toNat 0<s2.2.2.1.length) then
       rec3 (IntKind.i64.wrap (s2.1+1),s2.2.1.set (r1.2.1.getD s2.1.toNat 0).toNat r4.1,s2.2.2.1.set (r1.2.1.getD s2.1.toNat 0).toNat true,())
      else none
     else none
    else rec3 (IntKind.i64.wrap (s2.1+1),s2.2.1,s2.2.2.1,())
   else none
  else none
 else some (true,s2.2.1,s2.2.2.1,())
def aSM (fuel:Nat) (m:Im) (f:Int) (pc:Int) (h:List Sh) (q:List Bool):Option (Bool×List Sh×List Bool×Unit):=
 bif decide (0≤pc)&&decide (pc<h.length) then
  (sQ m f pc (h.getD pc.toNat zSh).2.1).bind fun r1=>
  bif r1.2.2.1 !=0 then
   some (false,h,q,())
  else aA (aFR m r1) fuel ((0:Int),h,q,())
 else none
def rQ (m:Im) (f:Int) (s1:List Sh×List Bool×Unit) (rec2:(List Sh×List Bool×Unit)→Option (List Sh×Int×Int×Unit)) (s3:Int×Unit) (rec4:(Int×Unit)→Option (List Sh×Int×Int×Unit)):Option (List Sh×Int×Int×Unit):=
 bif decide (s3.1<(s1.2.1.length:Int)) then
  bif decide (0≤s3.1)&&decide (s3.1<s1.2.1.length) then
   bif !(s1.2.1.getD s3.1.toNat false) then
    rec4 (IntKind.i64.wrap (s3.1+1),())
   else bif decide (0≤s3.1)&&decide (s3.1<s1.2.1.length) then
    (sM m f s3.1 s1.1 (s1.2.1.set s3.1.toNat false)).bind fun r5=>
    bif !r5.1 then
     some (([]:List Sh),s3.1,((4:Int),()))
    else rec2 (r5.2.1,r5.2.2.1,())
   else none
  else none
 else some (s1.1,((0:Int),((0:Int),())))
def sD (m:Im) (f:Int) (fuel:Nat) (s1:List Sh×List Bool×Unit) (rec2:(List Sh×List Bool×Unit)→Option (List Sh×Int×Int×Unit)):Option (List Sh×Int×Int×Unit):=
 aA (rQ m f s1 rec2) fuel ((0:Int),())
def aJ3 (fuel:Nat) (m:Im) (f:Int):Option (List Sh×Int×Int×Unit):=
 bif decide (0≤f)&&decide (f<m.2.2.2.1.length) then
  bif decide (0≤((m.2.2.2.1.getD f.toNat zMt).2.2.2.1.length:Int))&&decide (((m.2.2.2.1.getD f.toNat zMt).2.2.2.1.length:Int)≤((m.2.2.2.1.getD f.toNat zMt).2.2.2.1.length:Int))&&decide (((m.2.2.2.1.getD f.toNat zMt).2.2.2.1.length:Int)<(rowMax:Int)) then
   bif ((List.replicate ((m.2.2.2.1.getD f.toNat zMt).2.2.2.1.length:Int).toNat zSh).length:Int)==0 then
    some (([]:List Sh),((0:Int),((4:Int),())))
   else bif decide ((0:Int)<(List.replicate ((m.2.2.2.1.getD f.toNat zMt).2.2.2.1.length:Int).toNat zSh).length) then
    bif decide (0≤(((List.replicate ((m.2.2.2.1.getD f.toNat zMt).2.2.2.1.length:Int).toNat zSh).set 0 (true,((List.replicate ((m.2.2.2.1.getD f.toNat zMt).2.2.2.1.length:Int).toNat zSh).getD 0 zSh).2)).length:Int))&&decide ((((List.replicate ((m.2.2.2.1.getD f.toNat zMt).2.2.2.1.length:Int).toNat zSh).set 0 (true,((List.replicate ((m.2.2.2.1.getD f.toNat zMt).2.2.2.1.length:Int).toNat zSh).getD 0 zSh).2)).length:Int)≤(((List.replicate ((m.2.2.2.1.getD f.toNat zMt).2.2.2.1.length:Int).toNat zSh).set 0 (true,((List.replicate ((m.2.2.2.1.getD f.toNat zMt).2.2.2.1.length:Int).toNat zSh).getD 0 zSh).2)).length:Int))&&decide ((((List.replicate ((m.2.2.2.1.getD f.toNat zMt).2.2.2.1.length:Int).toNat zSh).set 0 (true,((List.replicate ((m.2.2.2.1.getD f.toNat zMt).2.2.2.1.length:Int).toNat zSh).getD 0 zSh).2)).length:Int)<(rowMax:Int)) then
     bif decide ((0:Int)<(List.replicate (((List.replicate ((m.2.2.2.1.getD f.toNat zMt).2.2.2.1.length:Int).toNat zSh).set 0 (true,((List.replicate ((m.2.2.2.1.getD f.toNat zMt).2.2.2.1.length:Int).toNat zSh).getD 0 zSh).2)).length:Int).toNat false).length) then
      aA (sD m f fuel) fuel ((List.replicate ((m.2.2.2.1.getD f.toNat zMt).2.2.2.1.length:Int).toNat zSh).set 0 (true,((List.replicate ((m.2.2.2.1.getD f.toNat zMt).2.2.2.1.length:Int).toNat zSh).getD 0 zSh).2),((List.replicate (((List.replicate ((m.2.2.2.1.getD f.toNat zMt).2.2.2.1.length:Int).toNat zSh).set 0 (true,((List.replicate ((m.2.2.2.1.getD f.toNat zMt).2.2.2.1.length:Int).toNat zSh).getD 0 zSh).2)).length:Int).toNat false).set 0 true,()))
     else none
    else none
   else none
  else none
 else none
def aAp (m:Im) (s1:List (List Sh)×Int×Unit) (rec2:(List (List Sh)×Int×Unit)→Option (List (List Sh)×Int×Int×Int×Unit)):Option (List (List Sh)×Int×Int×Int×Unit):=
 bif decide (s1.2.1<(m.2.2.2.1.length:Int)) then
  (iT m s1.2.1).bind fun r3=>
  bif r3.2.2.1 !=0 then
   some (([]:List (List Sh)),s1.2.1,r3.2.1,r3.2.2.1,())
  else bif decide (s1.1.length+[r3.1].length<rowMax) then
   rec2 (s1.1++[r3.1],IntKind.i64.wrap (s1.2.1+1),())
  else none
 else some ((idL s1.1),((0:Int),((0:Int),((0:Int),()))))
def aLL (fuel:Nat) (m:Im):Option (List (List Sh)×Int×Int×Int×Unit):=
 aA (aAp m) fuel (([]:List (List Sh)),((0:Int),()))
def aTf (_to:Int) (part:List Int):Prop:=True∧(part.length≤lenMax∧∀x1:Int,x1∈part→True)∧True
def aVo (to:Int) (part:List Int):Option (Bool×Unit):=
 some ((jZ part to),())
def aKW (l:List Int) (c:List Int×Unit):Prop:=(l.length≤lenMax∧∀x1:Int,x1∈l→True)∧((c.1.length≤lenMax∧∀x1:Int,x1∈c.1→True)∧True)∧True
def aAy (l:List Int) (c:List Int×Unit) (s1:Int×Unit) (rec2:(Int×Unit)→Option (Int×Unit)):Option (Int×Unit):=
 bif decide (s1.1<(l.length:Int)) then
  bif decide (0≤s1.1)&&decide (s1.1<l.length) then
   bif (aDG (l.getD s1.1.toNat 0) c.1) then
    some (s1.1,())
   else rec2 (IntKind.i64.wrap (s1.1+1),())
  else none
 else some ((-1:Int),())
def aPy (fuel:Nat) (l:List Int) (c:List Int×Unit):Option (Int×Unit):=
 aA (aAy l c) fuel ((0:Int),())
def aGl (l:List Int) (c:List Int×Unit):Prop:=(l.length≤lenMax∧∀x1:Int,x1∈l→True)∧((c.1.length≤lenMax∧∀x1:Int,x1∈c.1→True)∧True)∧True
def aCl (l:List Int) (c:List Int×Unit):Option (Bool×Unit):=
 some (decide ((aAc l c)≥0),())
def aAi (l:List (List Int)) (part:List Int) (s1:Int×Unit) (rec2:(Int×Unit)→Option (Bool×Unit)):Option (Bool×Unit):=
 bif decide (s1.1<(part.length:Int)) then
  bif decide (0≤s1.1)&&decide (s1.1<part.length) then
   bif decide (part.getD s1.1.toNat 0<0) then
    rec2 (IntKind.i64.wrap (s1.1+1),())
   else bif decide (part.getD s1.1.toNat 0≥(l.length:Int)) then
    rec2 (IntKind.i64.wrap (s1.1+1),())
   else bif decide (0≤part.getD s1.1.toNat 0)&&decide (part.getD s1.1.toNat 0<l.length) then
    bif (nB (l.getD (part.getD s1.1.toNat 0).toNat ([]:List Int)) (part,())) then
     some (true,())
    else rec2 (IntKind.i64.wrap (s1.1+1),())
   else none
  else none
 else some (false,())
def aLQ (fuel:Nat) (l:List (List Int)) (part:List Int):Option (Bool×Unit):=
 aA (aAi l part) fuel ((0:Int),())
def aAm (s1:List (List Int)×Int×Unit) (r4:List (List Int)×Unit) (s8:Int×Int×Int×Unit) (s5:Int×List Int×Unit) (rec9:(Int×Int×Int×Unit)→Option (List Int×Int×Unit)) (s10:Int×Unit) (r12:Int×Unit) (s13:Int×Int×Unit) (rec14:(Int×Int×Unit)→Option (List Int×Int×Unit)):Option (List Int×Int×Unit):=
 bif decide (s13.2.1<((s1.1.getD ((r4.1.getD s5.1.toNat ([]:List Int)).getD s8.2.2.1.toNat 0).toNat ([]:List Int)).length:Int)) then
  bif decide (0≤s13.2.1)&&decide (s13.2.1<(s1.1.getD ((r4.1.getD s5.1.toNat ([]:List Int)).getD s8.2.2.1.toNat 0).toNat ([]:List Int)).length) then
   bif !(jZ (r4.1.getD s5.1.toNat ([]:List Int)) ((s1.1.getD ((r4.1.getD s5.1.toNat ([]:List Int)).getD s8.2.2.1.toNat 0).toNat ([]:List Int)).getD s13.2.1.toNat 0)) then
    bif decide ((s1.1.getD ((r4.1.getD s5.1.toNat ([]:List Int)).getD s8.2.2.1.toNat 0).toNat ([]:List Int)).getD s13.2.1.toNat 0<(s5.2.1.length:Int)) then
     bif decide (0≤(s1.1.getD ((r4.1.getD s5.1.toNat ([]:List Int)).getD s8.2.2.1.toNat 0).toNat ([]:List Int)).getD s13.2.1.toNat 0)&&decide ((s1.1.getD ((r4.1.getD s5.1.toNat ([]:List Int)).getD s8.2.2.1.toNat 0).toNat ([]:List Int)).getD s13.2.1.toNat 0<s5.2.1.length) then
      rec14 (max s13.1 (s5.2.1.getD ((s1.1.getD ((r4.1.getD s5.1.toNat ([]:List Int)).getD s8.2.2.1.toNat 0).toNat ([]:List Int)).getD s13.2.1.toNat 0).toNat 0),IntKind.i64.wrap (s13.2.1+1),())
     else none
    else rec14 (s13.1,IntKind.i64.wrap (s13.2.1+1),())
   else rec14 (s13.1,IntKind.i64.wrap (s13.2.1+1),())
  else none
 else rec9 (IntKind.i64.wrap (s8.1+(IntKind.i64.wrap (s10.1*r12.1))),s13.1,IntKind.i64.wrap (s8.2.2.1+1),())
def aAo (r4:List (List Int)×Unit) (s8:Int×Int×Int×Unit) (s5:Int×List Int×Unit) (rec6:(Int×List Int×Unit)→Option (List Int×Int×Unit)) (s15:Int×List Int×Unit) (rec16:(Int×List Int×Unit)→Option (List Int×Int×Unit)):Option (List Int×Int×Unit):=
 bif decide (s15.1<((r4.1.getD s5.1.toNat ([]:List Int)).length:Int)) then
  bif decide (0≤s15.1)&&decide (s15.1<(r4.1.getD s5.1.toNat ([]:List Int)).length) then
   bif decide (0≤(r4.1.getD s5.1.toNat ([]:List Int)).getD s15.1.toNat 0)&&decide ((r4.1.getD s5.1.toNat ([]:List Int)).getD s15.1.toNat 0<s15.2.1.length) then
    rec16 (IntKind.i64.wrap (s15.1+1),(s15.2.1.set ((r4.1.getD s5.1.toNat ([]:List Int)).getD s15.1.toNat 0).toNat (IntKind.i64.wrap (s8.1+s8.2.1)),()))
   else none
  else none
 else rec6 (IntKind.i64.wrap (s5.1+1),s15.2.1,())
def vA (m:Im) (l:List (List Sh)) (fuel:Nat) (s1:List (List Int)×Int×Unit) (r4:List (List Int)×Unit) (r7:Bool×Unit) (s5:Int×List Int×Unit) (rec6:(Int×List Int×Unit)→Option (List Int×Int×Unit)) (s8:Int×Int×Int×Unit) (rec9:(Int×Int×Int×Unit)→Option (List Int×Int×Unit)):Option (List Int×Int×Unit):=
 bif decide (s8.2.2.1<((r4.1.getD s5.1.toNat ([]:List Int)).length:Int)) then
  bif decide (0≤s8.2.2.1)&&decide (s8.2.2.1<(r4.1.getD s5.1.toNat ([]:List Int)).length) then
   (bif r7.1 then
    bif decide (0≤(r4.1.getD s5.1.toNat ([]:List Int)).getD s8.2.2.1.toNat 0)&&decide ((r4.1.getD s5.1.toNat ([]:List Int)).getD s8.2.2.1.toNat 0<m.2.2.2.1.length) then
     some (.inl ((m.2.2.2.1.getD ((r4.1.getD s5.1.toNat ([]:List Int)).getD s8.2.2.1.toNat 0).toNat zMt).2.2.2.2.1,()))
    else none
   else some (.inl ((1:Int),())):Option ((Int×Unit)⊕(List Int×Int×Unit))).bind fun q=>match q with
   | .inr r11=>some r11
   | .inl s10=>
    bif decide (s10.1<1) then
     some (([]:List Int),((5:Int),()))
    else
     (aCD m l ((r4.1.getD s5.1.toNat ([]:List Int)).getD s8.2.2.1.toNat 0)).bind fun r12=>
     bif decide (0≤(r4.1.getD s5.1.toNat ([]:List Int)).getD s8.2.2.1.toNat 0)&&decide ((r4.1.getD s5.1.toNat ([]:List Int)).getD s8.2.2.1.toNat 0<s1.1.length) then
      aA (aAm s1 r4 s8 s5 rec9 s10 r12) fuel (s8.2.1,((0:Int),()))
     else none
  else none
 else aA (aAo r4 s8 s5 rec6) fuel ((0:Int),s5.2.1,())
def uY (m:Im) (l:List (List Sh)) (fuel:Nat) (s1:List (List Int)×Int×Unit) (r4:List (List Int)×Unit) (s5:Int×List Int×Unit) (rec6:(Int×List Int×Unit)→Option (List Int×Int×Unit)):Option (List Int×Int×Unit):=
 bif decide (s5.1<(r4.1.length:Int)) then
  bif decide (0≤s5.1)&&decide (s5.1<r4.1.length) then
   (xU s1.1 (r4.1.getD s5.1.toNat ([]:List Int))).bind fun r7=>
   aA (vA m l fuel s1 r4 r7 s5 rec6) fuel ((0:Int),((0:Int),((0:Int),())))
  else none
 else some (s5.2.1,((0:Int),()))
def zS (m:Im) (l:List (List Sh)) (fuel:Nat) (s1:List (List Int)×Int×Unit) (rec2:(List (List Int)×Int×Unit)→Option (List Int×Int×Unit)):Option (List Int×Int×Unit):=
 bif decide (s1.2.1<(m.2.2.2.1.length:Int)) then
  (cof m s1.2.1).bind fun r3=>
  bif decide (s1.1.length+[r3.1].length<rowMax) then
   rec2 (s1.1++[r3.1],IntKind.i64.wrap (s1.2.1+1),())
  else none
 else bif decide (0≤(m.2.2.2.1.length:Int))&&decide ((m.2.2.2.1.length:Int)≤(m.2.2.2.1.length:Int))&&decide ((m.2.2.2.1.length:Int)<(rowMax:Int)) then
  (nL s1.1).bind fun r4=>
  aA (uY m l fuel s1 r4) fuel ((0:Int),(List.replicate m.2.2.2.1.length (0:Int),()))
 else none
def aMw (fuel:Nat) (m:Im) (l:List (List Sh)):Option (List Int×Int×Unit):=
 aA (zS m l fuel) fuel (([]:List (List Int)),((0:Int),()))
def aPP (x:Int) (y:Int):Option (Int×Int×Unit):=
 some (IntKind.u64.wrap ((IntKind.u64.wrap ((IntKind.u64.wrap ((x.fdiv 4294967296)*(y.fdiv 4294967296)))+((IntKind.u64.wrap ((IntKind.u64.wrap ((x.fdiv 4294967296)*(IntKind.u64.wrap ((BitVec.ofInt 64 y&&&BitVec.ofInt 64 4294967295).toNat))))+((IntKind.u64.wrap ((IntKind.u64.wrap ((BitVec.ofInt 64 x&&&BitVec.ofInt 64 4294967295).toNat))*(IntKind.u64.wrap ((BitVec.ofInt 64 y&&&BitVec.ofInt 64 4294967295).toNat)))).fdiv 4294967296))).fdiv 4294967296)))+((IntKind.u64.wrap ((IntKind.u64.wrap ((BitVec.ofInt 64 (IntKind.u64.wrap ((IntKind.u64.wrap ((x.fdiv 4294967296)*(IntKind.u64.wrap ((BitVec.ofInt 64 y&&&BitVec.ofInt 64 4294967295).toNat))))+((IntKind.u64.wrap ((IntKind.u64.wrap ((BitVec.ofInt 64 x&&&BitVec.ofInt 64 4294967295).toNat))*(IntKind.u64.wrap ((BitVec.ofInt 64 y&&&BitVec.ofInt 64 4294967295).toNat)))).fdiv 4294967296)))&&&BitVec.ofInt 64 4294967295).toNat))+(IntKind.u64.wrap ((IntKind.u64.wrap ((BitVec.ofInt 64 x&&&BitVec.ofInt 64 4294967295).toNat))*(y.fdiv 4294967296))))).fdiv 4294967296)),IntKind.u64.wrap (x*y),())
def aUu (n:Int):Option ((Int×Bool×Unit)×Unit):=
 bif decide (n>(-4611686018427387904:Int)) then
  some ((n,decide (n<4611686018427387904),()),())
 else some ((n,false,()),())
def aPB (n:Int):Option (Int×Unit):=
 bif decide (n<0) then
  some (IntKind.u64.wrap (IntKind.i64.wrap (0 - n)),())
 else some (IntKind.u64.wrap n,())
def aOH (a:Int×Bool×Unit) (b:Int×Bool×Unit):Option ((Int×Bool×Unit)×Unit):=
 bif !a.2.1 then
  some (((0:Int),false,()),())
 else bif !b.2.1 then
  some (((0:Int),false,()),())
 else some ((lof (IntKind.i64.wrap (a.1+b.1))),())
def aMG (a:Int×Bool×Unit) (b:Int×Bool×Unit):Option ((Int×Bool×Unit)×Unit):=
 bif !a.2.1 then
  some (((0:Int),false,()),())
 else bif !b.2.1 then
  some (((0:Int),false,()),())
 else
  (aCR (dH a.1) (dH b.1)).bind fun r1=>
  bif r1.1 !=0 then
   some (((0:Int),false,()),())
  else bif decide (r1.2.1≥4611686018427387904) then
   some (((0:Int),false,()),())
  else some ((lof (IntKind.i64.wrap (a.1*b.1))),())
def aAD (q:Iq) (v:List Int) (s1:Int×(Int×Bool×Unit)×Unit) (rec2:(Int×(Int×Bool×Unit)×Unit)→Option (Bool×Int×Unit)):Option (Bool×Int×Unit):=
 bif decide (s1.1<(q.1.length:Int)) then
  bif decide (0≤s1.1)&&decide (s1.1<q.1.length) then
   bif decide (0≤s1.1)&&decide (s1.1<v.length) then
    (aCf (lof (q.1.getD s1.1.toNat 0)) (lof (v.getD s1.1.toNat 0))).bind fun r3=>
    (aFn s1.2.1 r3.1).bind fun r4=>
    rec2 (IntKind.i64.wrap (s1.1+1),r4.1,())
   else none
  else none
 else bif !s1.2.1.2.1 then
  some (false,((14:Int),()))
 else some (decide (s1.2.1.1≤q.2.1),((0:Int),()))
def aLA (fuel:Nat) (q:Iq) (v:List Int):Option (Bool×Int×Unit):=
 bif (q.1.length:Int) !=(v.length:Int) then
  some (false,((14:Int),()))
 else aA (aAD q v) fuel ((0:Int),((lof (0:Int)),()))
def aL7 (l:List (List Sh)) (f:Int) (pc:Int):Option (Sh×Unit):=
 bif decide (f≥(l.length:Int)) then
  some ((false,(([]:List Tp),())),())
 else bif decide (0≤f)&&decide (f<l.length) then
  bif decide (pc≥((l.getD f.toNat ([]:List Sh)).length:Int)) then
   some ((false,(([]:List Tp),())),())
  else bif decide (0≤f)&&decide (f<l.length) then
   bif decide (0≤pc)&&decide (pc<(l.getD f.toNat ([]:List Sh)).length) then
    some ((l.getD f.toNat ([]:List Sh)).getD pc.toNat zSh,())
   else none
  else none
 else none
def aCY (m:Im) (r2:List Int×Unit) (s3:Int×Int×Unit) (rec4:(Int×Int×Unit)→Option (Int×Unit)):Option (Int×Unit):=
 bif decide (s3.2.1<(r2.1.length:Int)) then
  bif decide (0≤s3.2.1)&&decide (s3.2.1<r2.1.length) then
   bif decide (r2.1.getD s3.2.1.toNat 0≥0) then
    bif decide (r2.1.getD s3.2.1.toNat 0<(m.2.2.2.1.length:Int)) then
     bif decide (0≤r2.1.getD s3.2.1.toNat 0)&&decide (r2.1.getD s3.2.1.toNat 0<m.2.2.2.1.length) then
      rec4 (max s3.1 (m.2.2.2.1.getD (r2.1.getD s3.2.1.toNat 0).toNat zMt).2.2.2.2.2.1,IntKind.i64.wrap (s3.2.1+1),())
     else none
    else rec4 (s3.1,IntKind.i64.wrap (s3.2.1+1),())
   else rec4 (s3.1,IntKind.i64.wrap (s3.2.1+1),())
  else none
 else some (s3.1,())
def aOe (fuel:Nat) (m:Im) (i:Ins):Option (Int×Unit):=
 bif i.1==22 then
  (aCz m i.2.1).bind fun r1=>
  some (r1.1,())
 else bif i.1==23 then
  some (IntKind.i64.wrap ((1:Int)+(max 0 (min i.2.1 255))),())
 else
  (kF m i).bind fun r2=>
  aA (aCY m r2) fuel ((0:Int),((0:Int),()))
def aST (n:Int) (a:Int) (b:Int) (c:Int):Option (Iq×Unit):=
 bif decide (0≤n)&&decide (n≤n)&&decide (n<(rowMax:Int)) then
  bif decide (a≥0) then
   bif decide (0≤a)&&decide (a<(List.replicate n.toNat (0:Int)).length) then
    bif decide (0≤a)&&decide (a<(List.replicate n.toNat (0:Int)).length) then
     bif decide (b≥0) then
      bif decide (0≤b)&&decide (b<((List.replicate n.toNat (0:Int)).set a.toNat (IntKind.i64.wrap (((List.replicate n.toNat (0:Int)).getD a.toNat 0) - 1))).length) then
       bif decide (0≤b)&&decide (b<((List.replicate n.toNat (0:Int)).set a.toNat (IntKind.i64.wrap (((List.replicate n.toNat (0:Int)).getD a.toNat 0) - 1))).length) then
        some ((((List.replicate n.toNat (0:Int)).set a.toNat (IntKind.i64.wrap (((List.replicate n.toNat (0:Int)).getD a.toNat 0) - 1))).set b.toNat (IntKind.i64.wrap ((((List.replicate n.toNat (0:Int)).set a.toNat (IntKind.i64.wrap (((List.replicate n.toNat (0:Int)).getD a.toNat 0) - 1))).getD b.toNat 0)+1)),c,()),())
       else none
      else none
     else some (((List.replicate n.toNat (0:Int)).set a.toNat (IntKind.i64.wrap (((List.replicate n.toNat (0:Int)).getD a.toNat 0) - 1)),c,()),())
    else none
   else none
  else bif decide (b≥0) then
   bif decide (0≤b)&&decide (b<(List.replicate n.toNat (0:Int)).length) then
    bif decide (0≤b)&&decide (b<(List.replicate n.toNat (0:Int)).length) then
     some (((List.replicate n.toNat (0:Int)).set b.toNat (IntKind.i64.wrap (((List.replicate n.toNat (0:Int)).getD b.toNat 0)+1)),c,()),())
    else none
   else none
  else some ((List.replicate n.toNat (0:Int),c,()),())
 else none
def uO (m:Im) (f:Int) (r5:List Tp×List Int×Int×Unit) (s2:List Iq×Int×Unit) (rec3:(List Iq×Int×Unit)→Option (List Iq×Unit)) (s9:List Iq×Int×Unit) (rec10:(List Iq×Int×Unit)→Option (List Iq×Unit)):Option (List Iq×Unit):=
 bif decide (s9.2.1<(r5.2.1.length:Int)) then
  bif decide (0≤s9.2.1)&&decide (s9.2.1<r5.2.1.length) then
   (aCW m ((m.2.2.2.1.getD f.toNat zMt).2.2.2.1.getD s2.2.1.toNat dJ)).bind fun r11=>
   (aBQ ((m.2.2.2.1.getD f.toNat zMt).2.2.2.1.length:Int) s2.2.1 (r5.2.1.getD s9.2.1.toNat 0) (IntKind.i64.wrap (0 - r11.1))).bind fun r12=>
   bif decide (s9.1.length+[r12.1].length<rowMax) then
    rec10 (s9.1++[r12.1],IntKind.i64.wrap (s9.2.1+1),())
   else none
  else none
 else rec3 (s9.1,IntKind.i64.wrap (s2.2.1+1),())
def zL (m:Im) (l:List (List Sh)) (f:Int) (fuel:Nat) (s2:List Iq×Int×Unit) (rec3:(List Iq×Int×Unit)→Option (List Iq×Unit)):Option (List Iq×Unit):=
 bif decide (s2.2.1<((m.2.2.2.1.getD f.toNat zMt).2.2.2.1.length:Int)) then
  bif decide (0≤s2.2.1)&&decide (s2.2.1<(m.2.2.2.1.getD f.toNat zMt).2.2.2.1.length) then
   (yE l f s2.2.1).bind fun r4=>
   bif !r4.1.1 then
    rec3 (s2.1,IntKind.i64.wrap (s2.2.1+1),())
   else
    (sQ m f s2.2.1 r4.1.2.1).bind fun r5=>
    bif r5.2.2.1 !=0 then
     rec3 (s2.1,IntKind.i64.wrap (s2.2.1+1),())
    else
     (bif (r5.2.1.length:Int)==0 then
      (aBQ ((m.2.2.2.1.getD f.toNat zMt).2.2.2.1.length:Int) s2.2.1 (-1:Int) (0:Int)).bind fun r8=>
      bif decide (s2.1.length+[r8.1].length<rowMax) then
       some (.inl (s2.1++[r8.1],()))
      else none
     else some (.inl (s2.1,())):Option ((List Iq×Unit)⊕(List Iq×Unit))).bind fun q=>match q with
     | .inr r7=>some r7
     | .inl s6=>
      aA (uO m f r5 s2 rec3) fuel (s6.1,((0:Int),()))
  else none
 else some ((idL s2.1),())
def aL0 (fuel:Nat) (m:Im) (l:List (List Sh)) (f:Int):Option (List Iq×Unit):=
 bif decide (f<0) then
  some (([]:List Iq),())
 else bif decide (f≥(m.2.2.2.1.length:Int)) then
  some (([]:List Iq),())
 else bif decide (0≤f)&&decide (f<m.2.2.2.1.length) then
  bif ((m.2.2.2.1.getD f.toNat zMt).2.2.2.1.length:Int)==0 then
   some (([]:List Iq),())
  else bif decide (0≤f)&&decide (f<m.2.2.2.1.length) then
   bif decide (0≤f)&&decide (f<m.2.2.2.1.length) then
    (aBQ ((m.2.2.2.1.getD f.toNat zMt).2.2.2.1.length:Int) (-1:Int) (0:Int) (m.2.2.2.1.getD f.toNat zMt).2.2.2.2.2.1).bind fun r1=>
    aA (zL m l f fuel) fuel ([r1.1],((0:Int),()))
   else none
  else none
 else none
def aSI (n:Int):Bool:=
 decide (n<0)
def aLj (l:List Int) (_c:Unit):Prop:=(l.length≤lenMax∧∀x1:Int,x1∈l→True)∧True∧True
def zZ (l:List Int) (s1:Int×Unit) (rec2:(Int×Unit)→Option (Int×Unit)):Option (Int×Unit):=
 bif decide (s1.1<(l.length:Int)) then
  bif decide (0≤s1.1)&&decide (s1.1<l.length) then
   bif (aSI (l.getD s1.1.toNat 0)) then
    some (s1.1,())
   else rec2 (IntKind.i64.wrap (s1.1+1),())
  else none
 else some ((-1:Int),())
def aQt (fuel:Nat) (l:List Int) (_c:Unit):Option (Int×Unit):=
 aA (zZ l) fuel ((0:Int),())
def aF4 (l:List Int) (_c:Unit):Prop:=(l.length≤lenMax∧∀x1:Int,x1∈l→True)∧True∧True
def aBn (l:List Int) (c:Unit):Option (Bool×Unit):=
 some (decide ((zP l c)≥0),())
def aAv (m:Im) (s1:Int×Unit) (rec2:(Int×Unit)→Option (Int×Int×Unit)) (r3:List Iq×Unit) (s4:Int×Unit) (rec5:(Int×Unit)→Option (Int×Int×Unit)):Option (Int×Int×Unit):=
 bif decide (s4.1<(r3.1.length:Int)) then
  bif decide (0≤s4.1)&&decide (s4.1<r3.1.length) then
   (zA (r3.1.getD s4.1.toNat zIq) (m.2.2.2.1.getD s1.1.toNat zMt).2.2.2.2.2.2.1).bind fun r6=>
   bif r6.2.1 !=0 then
    some (s1.1,((6:Int),()))
   else bif !r6.1 then
    some (s1.1,((6:Int),()))
   else rec5 (IntKind.i64.wrap (s4.1+1),())
  else none
 else bif (mY (m.2.2.2.1.getD s1.1.toNat zMt).2.2.2.2.2.2.1 ()) then
  some (s1.1,((6:Int),()))
 else rec2 (IntKind.i64.wrap (s1.1+1),())
def qM (m:Im) (l:List (List Sh)) (fuel:Nat) (s1:Int×Unit) (rec2:(Int×Unit)→Option (Int×Int×Unit)):Option (Int×Int×Unit):=
 bif decide (s1.1<(m.2.2.2.1.length:Int)) then
  bif decide (0≤s1.1)&&decide (s1.1<m.2.2.2.1.length) then
   (yJ m l s1.1).bind fun r3=>
   aA (aAv m s1 rec2 r3) fuel ((0:Int),())
  else none
 else some ((0:Int),((0:Int),()))
def aMm (fuel:Nat) (m:Im) (l:List (List Sh)):Option (Int×Int×Unit):=
 aA (qM m l fuel) fuel ((0:Int),())
def aAa (m:Im) (r1:List Int×Int×Unit) (s2:Int×Int×Int×Unit) (rec3:(Int×Int×Int×Unit)→Option (Int×Int×Int×Unit)):Option (Int×Int×Int×Unit):=
 bif decide (s2.2.2.1<(m.2.2.2.2.1.length:Int)) then
  bif decide (0≤s2.2.2.1)&&decide (s2.2.2.1<m.2.2.2.2.1.length) then
   (bif decide (m.2.2.2.2.1.getD s2.2.2.1.toNat 0≥0) then
    some (.inl (decide (m.2.2.2.2.1.getD s2.2.2.1.toNat 0<(r1.1.length:Int)),()))
   else some (.inl (false,())):Option ((Bool×Unit)⊕(Int×Int×Int×Unit))).bind fun q=>match q with
   | .inr r5=>some r5
   | .inl s4=>
    bif s4.1 then
     bif decide (0≤m.2.2.2.2.1.getD s2.2.2.1.toNat 0)&&decide (m.2.2.2.2.1.getD s2.2.2.1.toNat 0<r1.1.length) then
      bif decide (0≤m.2.2.2.2.1.getD s2.2.2.1.toNat 0)&&decide (m.2.2.2.2.1.getD s2.2.2.1.toNat 0<m.2.2.2.1.length) then
       rec3 (max s2.1 (r1.1.getD (m.2.2.2.2.1.getD s2.2.2.1.toNat 0).toNat 0),max s2.2.1 (m.2.2.2.1.getD (m.2.2.2.2.1.getD s2.2.2.1.toNat 0).toNat zMt).2.2.2.2.2.1,IntKind.i64.wrap (s2.2.2.1+1),())
      else none
     else none
    else rec3 (s2.1,s2.2.1,IntKind.i64.wrap (s2.2.2.1+1),())
  else none
 else some (s2.1,(IntKind.i64.wrap ((m.2.1.length:Int)+s2.2.1),((0:Int),())))
def aMp (fuel:Nat) (m:Im) (l:List (List Sh)):Option (Int×Int×Int×Unit):=
 (oV m l).bind fun r1=>
 bif r1.2.1 !=0 then
  some ((0:Int),((0:Int),r1.2.1,()))
 else aA (aAa m r1) fuel ((0:Int),((0:Int),((0:Int),())))
def iR (m:Im):Option (List (List Sh)×Int×Unit):=
 bif (eK m) !=0 then
  some (([]:List (List Sh)),(eK m),())
 else
  (kS m).bind fun r1=>
  bif r1.2.2.2.1 !=0 then
   some (([]:List (List Sh)),r1.2.2.2.1,())
  else
   (kR m r1.1).bind fun r2=>
   bif r2.2.2.1 !=0 then
    some (([]:List (List Sh)),r2.2.2.1,())
   else
    (rT m r1.1).bind fun r3=>
    bif r3.2.1 !=0 then
     some (([]:List (List Sh)),r3.2.1,())
    else bif decide (r2.1>m.2.2.2.2.2.1) then
     some (([]:List (List Sh)),((7:Int),()))
    else bif decide (r2.2.1>m.2.2.2.2.2.2.1) then
     some (([]:List (List Sh)),((7:Int),()))
    else some (r1.1,((0:Int),()))
def aGM (b:List Int):Option (Im×List (List Sh)×Int×Unit):=
 (tV b).bind fun r1=>
 bif r1.2.1 !=0 then
  some ((([]:List Cl),(([]:List Tp),(([]:List Int),(([]:List Mt),(([]:List Int),((0:Int),((0:Int),()))))))),(([]:List (List Sh)),r1.2.1,()))
 else
  (iR r1.1).bind fun r2=>
  bif r2.2.1 !=0 then
   some ((([]:List Cl),(([]:List Tp),(([]:List Int),(([]:List Mt),(([]:List Int),((0:Int),((0:Int),()))))))),(([]:List (List Sh)),r2.2.1,()))
  else some (r1.1,r2.1,((0:Int),()))
def vU (m:Im) (r2:List Int×Unit) (s3:Int×Int×Unit) (rec4:(Int×Int×Unit)→Option (Int×Unit)):Option (Int×Unit):=
 bif decide (s3.2.1<(r2.1.length:Int)) then
  bif decide (0≤s3.2.1)&&decide (s3.2.1<r2.1.length) then
   bif decide (0≤r2.1.getD s3.2.1.toNat 0)&&decide (r2.1.getD s3.2.1.toNat 0<m.2.2.2.1.length) then
    bif decide ((m.2.2.2.1.getD (r2.1.getD s3.2.1.toNat 0).toNat zMt).2.2.2.2.2.1>s3.1) then
     bif decide (0≤s3.2.1)&&decide (s3.2.1<r2.1.length) then
      bif decide (0≤r2.1.getD s3.2.1.toNat 0)&&decide (r2.1.getD s3.2.1.toNat 0<m.2.2.2.1.length) then
       rec4 ((m.2.2.2.1.getD (r2.1.getD s3.2.1.toNat 0).toNat zMt).2.2.2.2.2.1,IntKind.i64.wrap (s3.2.1+1),())
      else none
     else none
    else rec4 (s3.1,IntKind.i64.wrap (s3.2.1+1),())
   else none
  else none
 else some (s3.1,())
def aIz (fuel:Nat) (m:Im) (i:Ins):Option (Int×Unit):=
 bif i.1==22 then
  (eQ m i.2.1).bind fun r1=>
  some (IntKind.i64.wrap ((1:Int)+(r1.1.length:Int)),())
 else bif i.1==23 then
  some (IntKind.i64.wrap ((1:Int)+i.2.1),())
 else
  (iV m i).bind fun r2=>
  aA (vU m r2) fuel ((0:Int),((0:Int),()))
def zW (a:List (List Sh)) (b:List (List Sh)) (s1:Int×Unit) (rec2:(Int×Unit)→Option (Bool×Unit)) (s3:Int×Unit) (rec4:(Int×Unit)→Option (Bool×Unit)):Option (Bool×Unit):=
 bif decide (0≤s1.1)&&decide (s1.1<a.length) then
  bif decide (s3.1<((a.getD s1.1.toNat ([]:List Sh)).length:Int)) then
   bif decide (0≤s1.1)&&decide (s1.1<a.length) then
    bif decide (0≤s3.1)&&decide (s3.1<(a.getD s1.1.toNat ([]:List Sh)).length) then
     bif decide (0≤s1.1)&&decide (s1.1<b.length) then
      bif decide (0≤s3.1)&&decide (s3.1<(b.getD s1.1.toNat ([]:List Sh)).length) then
       bif !(((a.getD s1.1.toNat ([]:List Sh)).getD s3.1.toNat zSh).1==((b.getD s1.1.toNat ([]:List Sh)).getD s3.1.toNat zSh).1) then
        some (false,())
       else bif decide (0≤s1.1)&&decide (s1.1<a.length) then
        bif decide (0≤s3.1)&&decide (s3.1<(a.getD s1.1.toNat ([]:List Sh)).length) then
         bif decide (0≤s1.1)&&decide (s1.1<b.length) then
          bif decide (0≤s3.1)&&decide (s3.1<(b.getD s1.1.toNat ([]:List Sh)).length) then
           bif !(rW ((a.getD s1.1.toNat ([]:List Sh)).getD s3.1.toNat zSh).2.1 ((b.getD s1.1.toNat ([]:List Sh)).getD s3.1.toNat zSh).2.1) then
            some (false,())
           else rec4 (IntKind.i64.wrap (s3.1+1),())
          else none
         else none
        else none
       else none
      else none
     else none
    else none
   else none
  else rec2 (IntKind.i64.wrap (s1.1+1),())
 else none
def aAe (a:List (List Sh)) (b:List (List Sh)) (fuel:Nat) (s1:Int×Unit) (rec2:(Int×Unit)→Option (Bool×Unit)):Option (Bool×Unit):=
 bif decide (s1.1<(a.length:Int)) then
  bif decide (0≤s1.1)&&decide (s1.1<a.length) then
   bif decide (0≤s1.1)&&decide (s1.1<b.length) then
    bif ((a.getD s1.1.toNat ([]:List Sh)).length:Int) !=((b.getD s1.1.toNat ([]:List Sh)).length:Int) then
     some (false,())
    else aA (zW a b s1 rec2) fuel ((0:Int),())
   else none
  else none
 else some (true,())
def aMx (fuel:Nat) (a:List (List Sh)) (b:List (List Sh)):Option (Bool×Unit):=
 bif (a.length:Int) !=(b.length:Int) then
  some (false,())
 else aA (aAe a b fuel) fuel ((0:Int),())
def awake16N:Option (Bool×Unit):=
 (iR (([]:List Cl),(([]:List Tp),(([]:List Int),([(([]:List Tp),(([]:List Tp),(((5:Int),((0:Int),())),([((33:Int),((0:Int),((0:Int),())))],((0:Int),((0:Int),(([0]:List Int),())))))))],(([0]:List Int),((3:Int),((0:Int),())))))))).bind fun r1=>
 (iR (([]:List Cl),(([]:List Tp),(([]:List Int),([(([]:List Tp),(([]:List Tp),(((5:Int),((0:Int),())),([((33:Int),((0:Int),((0:Int),())))],((0:Int),((0:Int),(([0]:List Int),())))))))],(([0]:List Int),((2:Int),((0:Int),())))))))).bind fun r2=>
 (kR (([]:List Cl),(([]:List Tp),(([]:List Int),([(([]:List Tp),(([]:List Tp),(((5:Int),((0:Int),())),([((33:Int),((0:Int),((0:Int),())))],((0:Int),((0:Int),(([0]:List Int),())))))))],(([0]:List Int),((2:Int),((0:Int),()))))))) r1.1).bind fun r3=>
 (aGM ([]:List Int)).bind fun r4=>
 bif r1.2.1==0 then
  bif r2.2.1==7 then
   bif r3.2.2.1==0 then
    bif r3.1==3 then
     bif r3.2.1==0 then
      bif r4.2.2.1==2 then
       bif (r1.1.length:Int)==1 then
        bif (rN (([]:List Cl),(([]:List Tp),(([]:List Int),([(([]:List Tp),(([]:List Tp),(((5:Int),((0:Int),())),([((33:Int),((0:Int),((0:Int),())))],((0:Int),((0:Int),(([0]:List Int),())))))))],(([0]:List Int),((2:Int),((0:Int),())))))))) then
         (qN (([]:List Cl),(([]:List Tp),(([]:List Int),([(([]:List Tp),(([]:List Tp),(((5:Int),((0:Int),())),([((33:Int),((0:Int),((0:Int),())))],((0:Int),((0:Int),(([0]:List Int),())))))))],(([0]:List Int),((2:Int),((0:Int),())))))))).bind fun r5=>
         bif (r5.1.length:Int)==1 then
          bif decide ((0:Int)<[(([]:List Tp),(([]:List Tp),(((5:Int),((0:Int),())),([((33:Int),((0:Int),((0:Int),())))],((0:Int),((0:Int),(([0]:List Int),())))))))].length) then
           bif decide ((0:Int)<([(([]:List Tp),(([]:List Tp),(((5:Int),((0:Int),())),([((33:Int),((0:Int),((0:Int),())))],((0:Int),((0:Int),(([0]:List Int),())))))))].getD 0 zMt).2.2.2.1.length) then
            (qK (([]:List Cl),(([]:List Tp),(([]:List Int),([(([]:List Tp),(([]:List Tp),(((5:Int),((0:Int),())),([((33:Int),((0:Int),((0:Int),())))],((0:Int),((0:Int),(([0]:List Int),())))))))],(([0]:List Int),((2:Int),((0:Int),()))))))) (([(([]:List Tp),(([]:List Tp),(((5:Int),((0:Int),())),([((33:Int),((0:Int),((0:Int),())))],((0:Int),((0:Int),(([0]:List Int),())))))))].getD 0 zMt).2.2.2.1.getD 0 dJ)).bind fun r6=>
            some (r6.1==0,())
           else none
          else none
         else some (false,())
        else some (false,())
       else some (false,())
      else some (false,())
     else some (false,())
    else some (false,())
   else some (false,())
  else some (false,())
 else some (false,())
def aEu (m:Im):Prop:=((m.1.length≤lenMax∧∀x1:Cl,x1∈m.1→(True∧((x1.2.1.length≤lenMax∧∀x2:Tp,x2∈x1.2.1→(True∧(True∧True)))∧((x1.2.2.1.length≤lenMax∧∀x2:Int,x2∈x1.2.2.1→True)∧True))))∧((m.2.1.length≤lenMax∧∀x1:Tp,x1∈m.2.1→(True∧(True∧True)))∧((m.2.2.1.length≤lenMax∧∀x1:Int,x1∈m.2.2.1→True)∧((m.2.2.2.1.length≤lenMax∧∀x1:Mt,x1∈m.2.2.2.1→((x1.1.length≤lenMax∧∀x2:Tp,x2∈x1.1→(True∧(True∧True)))∧((x1.2.1.length≤lenMax∧∀x2:Tp,x2∈x1.2.1→(True∧(True∧True)))∧((True∧(True∧True))∧((x1.2.2.2.1.length≤lenMax∧∀x2:Ins,x2∈x1.2.2.2.1→(True∧(True∧(True∧True))))∧(True∧(True∧((x1.2.2.2.2.2.2.1.length≤lenMax∧∀x2:Int,x2∈x1.2.2.2.2.2.2.1→True)∧True))))))))∧((m.2.2.2.2.1.length≤lenMax∧∀x1:Int,x1∈m.2.2.2.2.1→True)∧(True∧(True∧True)))))))∧True
def rO (m:Im) (s1:Int×Unit) (rec2:(Int×Unit)→Option (Bool×Unit)):Option (Bool×Unit):=
 bif decide (s1.1<(m.2.2.2.1.length:Int)) then
  bif decide (0≤s1.1)&&decide (s1.1<m.2.2.2.1.length) then
   bif decide (IntKind.i64.wrap ((IntKind.i64.wrap ((IntKind.i64.wrap (((m.2.2.2.1.getD s1.1.toNat zMt).1.length:Int)+((m.2.2.2.1.getD s1.1.toNat zMt).2.1.length:Int)))+((m.2.2.2.1.getD s1.1.toNat zMt).2.2.2.1.length:Int)))+((m.2.2.2.1.getD s1.1.toNat zMt).2.2.2.2.2.2.1.length:Int))>300) then
    some (false,())
   else rec2 (IntKind.i64.wrap (s1.1+1),())
  else none
 else some (true,())
def aKp (fuel:Nat) (m:Im):Option (Bool×Unit):=
 bif decide (IntKind.i64.wrap ((IntKind.i64.wrap ((IntKind.i64.wrap ((IntKind.i64.wrap ((m.1.length:Int)+(m.2.1.length:Int)))+(m.2.2.1.length:Int)))+(m.2.2.2.1.length:Int)))+(m.2.2.2.2.1.length:Int))>100) then
  some (false,())
 else aA (rO m) fuel ((0:Int),())
end
end Go.Pli

namespace Go.Pli
open Go Go.PM
noncomputable section
def uR (x:Mt) (n:Int):Option (Tp×Unit):=
 bif decide (([]:List Tp).length+x.1.length<rowMax) then
  bif decide ((([]:List Tp)++x.1).length+x.2.1.length<rowMax) then
   bif decide (n<0) then
    some (((0:Int),((0:Int),())),())
   else bif decide (n≥(((([]:List Tp)++x.1)++x.2.1).length:Int)) then
    some (((0:Int),((0:Int),())),())
   else bif decide (0≤n)&&decide (n<((([]:List Tp)++x.1)++x.2.1).length) then
    some (((([]:List Tp)++x.1)++x.2.1).getD n.toNat zTp,())
   else none
  else none
 else none
def yM (r3:List Int×Unit) (r4:List Int×Unit) (s5:Int×Unit) (rec6:(Int×Unit)→Option (Tp×Unit)):Option (Tp×Unit):=
 bif decide (s5.1<(r3.1.length:Int)) then
  bif decide (0≤s5.1)&&decide (s5.1<r3.1.length) then
   (rin r4.1 (r3.1.getD s5.1.toNat 0)).bind fun r7=>
   bif r7.1 then
    bif decide (0≤s5.1)&&decide (s5.1<r3.1.length) then
     some (((3:Int),r3.1.getD s5.1.toNat 0,()),())
    else none
   else rec6 (IntKind.i64.wrap (s5.1+1),())
  else none
 else some (((0:Int),((0:Int),())),())
def aPx (fuel:Nat) (l:List Cl) (a:Tp) (b:Tp):Option (Tp×Unit):=
 (uW l a b).bind fun r1=>
 bif r1.1 then
  some (b,())
 else
  (uW l b a).bind fun r2=>
  bif r2.1 then
   some (a,())
  else bif a.1 !=3 then
   some (((0:Int),((0:Int),())),())
  else bif b.1 !=3 then
   some (((0:Int),((0:Int),())),())
  else
   (jA l a.2.1).bind fun r3=>
   (jA l b.2.1).bind fun r4=>
   aA (yM r3 r4) fuel ((1:Int),())
def pY (x:Mt):Option (List Tp×Unit):=
 bif x.2.2.1.1==5 then
  some (([]:List Tp),())
 else some ([x.2.2.1],())
def yK (m:Im) (f:Int) (i:Ins):Option (List Tp×List Tp×Unit):=
 bif i.1==1 then
  some (([]:List Tp),([((1:Int),((0:Int),()))],()))
 else bif i.1==2 then
  some (([]:List Tp),([((4:Int),((0:Int),()))],()))
 else bif i.1==3 then
  bif decide (0≤f)&&decide (f<m.2.2.2.1.length) then
   (uR (m.2.2.2.1.getD f.toNat zMt) i.2.1).bind fun r1=>
   some (([]:List Tp),[r1.1],())
  else none
 else bif i.1==4 then
  bif decide (0≤f)&&decide (f<m.2.2.2.1.length) then
   (uR (m.2.2.2.1.getD f.toNat zMt) i.2.1).bind fun r2=>
   some ([r2.1],(([]:List Tp),()))
  else none
 else bif i.1==5 then
  some ([((0:Int),((0:Int),()))],(([]:List Tp),()))
 else bif i.1==19 then
  some ([((1:Int),((0:Int),()))],(([]:List Tp),()))
 else bif i.1==20 then
  some ([((4:Int),((0:Int),()))],([((1:Int),((0:Int),()))],()))
 else bif i.1==21 then
  some ([((4:Int),((0:Int),())),((4:Int),((0:Int),()))],([((1:Int),((0:Int),()))],()))
 else bif i.1==22 then
  some (([]:List Tp),([((3:Int),i.2.1,())],()))
 else bif i.1==23 then
  some ([((1:Int),((0:Int),()))],([((2:Int),((0:Int),()))],()))
 else bif i.1==24 then
  some ([((2:Int),((0:Int),())),((1:Int),((0:Int),()))],([((1:Int),((0:Int),()))],()))
 else bif i.1==25 then
  some ([((2:Int),((0:Int),())),((1:Int),((0:Int),())),((1:Int),((0:Int),()))],(([]:List Tp),()))
 else bif i.1==26 then
  some ([((2:Int),((0:Int),()))],([((1:Int),((0:Int),()))],()))
 else bif i.1==27 then
  (eQ m i.2.1).bind fun r3=>
  bif decide (0≤i.2.2.1)&&decide (i.2.2.1≤IntKind.i64.wrap (i.2.2.1+1))&&decide (IntKind.i64.wrap (i.2.2.1+1)≤(r3.1.length:Int)) then
   some ([((3:Int),i.2.1,())],(r3.1.take (IntKind.i64.wrap (i.2.2.1+1)).toNat).drop i.2.2.1.toNat,())
  else none
 else bif i.1==28 then
  (eQ m i.2.1).bind fun r4=>
  bif decide (0≤i.2.2.1)&&decide (i.2.2.1<r4.1.length) then
   some ([((3:Int),i.2.1,()),r4.1.getD i.2.2.1.toNat zTp],(([]:List Tp),()))
  else none
 else bif i.1==29 then
  bif decide (0≤i.2.1)&&decide (i.2.1<m.2.1.length) then
   some (([]:List Tp),[m.2.1.getD i.2.1.toNat zTp],())
  else none
 else bif i.1==30 then
  bif decide (0≤i.2.1)&&decide (i.2.1<m.2.1.length) then
   some ([m.2.1.getD i.2.1.toNat zTp],(([]:List Tp),()))
  else none
 else bif i.1==34 then
  some ([((4:Int),((0:Int),()))],([((3:Int),i.2.1,())],()))
 else bif i.1==33 then
  bif decide (0≤f)&&decide (f<m.2.2.2.1.length) then
   (pY (m.2.2.2.1.getD f.toNat zMt)).bind fun r5=>
   some (r5.1,(([]:List Tp),()))
  else none
 else bif i.1==31 then
  bif decide (0≤i.2.1)&&decide (i.2.1<m.2.2.2.1.length) then
   bif decide (0≤i.2.1)&&decide (i.2.1<m.2.2.2.1.length) then
    (pY (m.2.2.2.1.getD i.2.1.toNat zMt)).bind fun r6=>
    some ((m.2.2.2.1.getD i.2.1.toNat zMt).1,r6.1,())
   else none
  else none
 else bif i.1==32 then
  let r7:=aBb m i.2.1 i.2.2.1
  bif decide (0≤r7.1)&&decide (r7.1<m.2.2.2.1.length) then
   bif decide ((1:Int)≤((m.2.2.2.1.getD r7.1.toNat zMt).1.length:Int))&&decide (((m.2.2.2.1.getD r7.1.toNat zMt).1.length:Int)≤((m.2.2.2.1.getD r7.1.toNat zMt).1.length:Int)) then
    bif decide ([((3:Int),i.2.1,())].length+(((m.2.2.2.1.getD r7.1.toNat zMt).1.take ((m.2.2.2.1.getD r7.1.toNat zMt).1.length:Int).toNat).drop 1).length<rowMax) then
     bif decide (0≤r7.1)&&decide (r7.1<m.2.2.2.1.length) then
      (pY (m.2.2.2.1.getD r7.1.toNat zMt)).bind fun r8=>
      some ([((3:Int),i.2.1,())]++(((m.2.2.2.1.getD r7.1.toNat zMt).1.take ((m.2.2.2.1.getD r7.1.toNat zMt).1.length:Int).toNat).drop 1),r8.1,())
     else none
    else none
   else none
  else none
 else bif decide (i.1≥7) then
  bif decide (i.1≤17) then
   some ([((1:Int),((0:Int),())),((1:Int),((0:Int),()))],([((1:Int),((0:Int),()))],()))
  else some (([]:List Tp),(([]:List Tp),()))
 else some (([]:List Tp),(([]:List Tp),()))
def uE (m:Im) (f:Int) (pc:Int) (s:List Tp) (s5:List Int×Unit) (s10:List Tp×List Tp×Unit) (s16:Int×Unit) (rec17:(Int×Unit)→Option (List Tp×List Int×Int×Unit)):Option (List Tp×List Int×Int×Unit):=
 bif decide (s16.1<(s10.1.length:Int)) then
  bif decide (0≤IntKind.i64.wrap ((IntKind.i64.wrap ((s.length:Int) - (s10.1.length:Int)))+s16.1))&&decide (IntKind.i64.wrap ((IntKind.i64.wrap ((s.length:Int) - (s10.1.length:Int)))+s16.1)<s.length) then
   bif decide (0≤s16.1)&&decide (s16.1<s10.1.length) then
    bif ((s10.1.getD s16.1.toNat zTp).1)==0 then
     rec17 (IntKind.i64.wrap (s16.1+1),())
    else bif ((s10.1.getD s16.1.toNat zTp).1)==4 then
     bif !(vD (s.getD (IntKind.i64.wrap ((IntKind.i64.wrap ((s.length:Int) - (s10.1.length:Int)))+s16.1)).toNat zTp)) then
      some (([]:List Tp),(([]:List Int),((4:Int),())))
     else bif (((m.2.2.2.1.getD f.toNat zMt).2.2.2.1.getD pc.toNat dJ).1)==34 then
      bif ((s.getD (IntKind.i64.wrap ((IntKind.i64.wrap ((s.length:Int) - (s10.1.length:Int)))+s16.1)).toNat zTp).1)==2 then
       some (([]:List Tp),(([]:List Int),((4:Int),())))
      else rec17 (IntKind.i64.wrap (s16.1+1),())
     else rec17 (IntKind.i64.wrap (s16.1+1),())
    else
     (uW m.1 (s.getD (IntKind.i64.wrap ((IntKind.i64.wrap ((s.length:Int) - (s10.1.length:Int)))+s16.1)).toNat zTp) (s10.1.getD s16.1.toNat zTp)).bind fun r18=>
     bif !r18.1 then
      some (([]:List Tp),(([]:List Int),((4:Int),())))
     else rec17 (IntKind.i64.wrap (s16.1+1),())
   else none
  else none
 else bif decide ((0:Int)≤IntKind.i64.wrap ((s.length:Int) - (s10.1.length:Int)))&&decide (IntKind.i64.wrap ((s.length:Int) - (s10.1.length:Int))≤(s.length:Int)) then
  bif decide (([]:List Tp).length+((s.take (IntKind.i64.wrap ((s.length:Int) - (s10.1.length:Int))).toNat).drop 0).length<rowMax) then
   bif decide ((([]:List Tp)++((s.take (IntKind.i64.wrap ((s.length:Int) - (s10.1.length:Int))).toNat).drop 0)).length+s10.2.1.length<rowMax) then
    some ((([]:List Tp)++((s.take (IntKind.i64.wrap ((s.length:Int) - (s10.1.length:Int))).toNat).drop 0))++s10.2.1,s5.1,((0:Int),()))
   else none
  else none
 else none
def tT (fuel:Nat) (m:Im) (f:Int) (pc:Int) (s:List Tp):Option (List Tp×List Int×Int×Unit):=
 bif decide (f<0) then
  some (([]:List Tp),(([]:List Int),((1:Int),())))
 else bif decide (f≥(m.2.2.2.1.length:Int)) then
  some (([]:List Tp),(([]:List Int),((1:Int),())))
 else bif decide (pc<0) then
  some (([]:List Tp),(([]:List Int),((1:Int),())))
 else bif decide (0≤f)&&decide (f<m.2.2.2.1.length) then
  bif decide (pc≥((m.2.2.2.1.getD f.toNat zMt).2.2.2.1.length:Int)) then
   some (([]:List Tp),(([]:List Int),((1:Int),())))
  else bif decide (0≤f)&&decide (f<m.2.2.2.1.length) then
   bif decide (0≤pc)&&decide (pc<(m.2.2.2.1.getD f.toNat zMt).2.2.2.1.length) then
    (bif (((m.2.2.2.1.getD f.toNat zMt).2.2.2.1.getD pc.toNat dJ).1)==18 then
     some (.inl ([((m.2.2.2.1.getD f.toNat zMt).2.2.2.1.getD pc.toNat dJ).2.1],()))
    else some (.inl ([IntKind.i64.wrap (pc+1)],())):Option ((List Int×Unit)⊕(List Tp×List Int×Int×Unit))).bind fun q=>match q with
    | .inr r2=>some r2
    | .inl s1=>
     (bif (((m.2.2.2.1.getD f.toNat zMt).2.2.2.1.getD pc.toNat dJ).1)==19 then
      bif decide (s1.1.length+[((m.2.2.2.1.getD f.toNat zMt).2.2.2.1.getD pc.toNat dJ).2.1].length<rowMax) then
       some (.inl (s1.1++[((m.2.2.2.1.getD f.toNat zMt).2.2.2.1.getD pc.toNat dJ).2.1],()))
      else none
     else some (.inl (s1.1,())):Option ((List Int×Unit)⊕(List Tp×List Int×Int×Unit))).bind fun q=>match q with
     | .inr r4=>some r4
     | .inl s3=>
      (bif (((m.2.2.2.1.getD f.toNat zMt).2.2.2.1.getD pc.toNat dJ).1)==33 then
       some (.inl (([]:List Int),()))
      else some (.inl (s3.1,())):Option ((List Int×Unit)⊕(List Tp×List Int×Int×Unit))).bind fun q=>match q with
      | .inr r6=>some r6
      | .inl s5=>
       (bif decide ((s5.1.length:Int)>0) then
        bif decide ((0:Int)<s5.1.length) then
         bif decide (0≤f)&&decide (f<m.2.2.2.1.length) then
          bif decide (s5.1.getD 0 0≥((m.2.2.2.1.getD f.toNat zMt).2.2.2.1.length:Int)) then
           some (.inr (([]:List Tp),(([]:List Int),((4:Int),()))))
          else some (.inl ())
         else none
        else none
       else some (.inl ()):Option (Unit⊕(List Tp×List Int×Int×Unit))).bind fun q=>match q with
       | .inr r8=>some r8
       | .inl _=>
        (yK m f ((m.2.2.2.1.getD f.toNat zMt).2.2.2.1.getD pc.toNat dJ)).bind fun r9=>
        ((bif (((m.2.2.2.1.getD f.toNat zMt).2.2.2.1.getD pc.toNat dJ).1)==6 then
         some (.inl (decide ((s.length:Int)>0),()))
        else some (.inl (false,())):Option ((Bool×Unit)⊕((List Tp×List Tp×Unit)⊕(List Tp×List Int×Int×Unit)))).bind fun q=>match q with
        | .inr r13=>some r13
        | .inl s12=>
         bif s12.1 then
          bif decide (0≤IntKind.i64.wrap ((s.length:Int) - 1))&&decide (IntKind.i64.wrap ((s.length:Int) - 1)<s.length) then
           some (.inl ([((0:Int),((0:Int),()))],([s.getD (IntKind.i64.wrap ((s.length:Int) - 1)).toNat zTp,s.getD (IntKind.i64.wrap ((s.length:Int) - 1)).toNat zTp],())))
          else none
         else some (.inl (r9.1,r9.2.1,())):Option ((List Tp×List Tp×Unit)⊕(List Tp×List Int×Int×Unit))).bind fun q=>match q with
        | .inr r11=>some r11
        | .inl s10=>
         (bif (((m.2.2.2.1.getD f.toNat zMt).2.2.2.1.getD pc.toNat dJ).1)==6 then
          bif (s.length:Int)==0 then
           some (.inr (([]:List Tp),(([]:List Int),((4:Int),()))))
          else bif decide ((s10.1.length:Int)>(s.length:Int)) then
           some (.inr (([]:List Tp),(([]:List Int),((4:Int),()))))
          else bif decide (IntKind.i64.wrap ((IntKind.i64.wrap ((s.length:Int) - (s10.1.length:Int)))+(s10.2.1.length:Int))>8) then
           some (.inr (([]:List Tp),(([]:List Int),((4:Int),()))))
          else some (.inl ())
         else bif decide ((s10.1.length:Int)>(s.length:Int)) then
          some (.inr (([]:List Tp),(([]:List Int),((4:Int),()))))
         else bif decide (IntKind.i64.wrap ((IntKind.i64.wrap ((s.length:Int) - (s10.1.length:Int)))+(s10.2.1.length:Int))>8) then
          some (.inr (([]:List Tp),(([]:List Int),((4:Int),()))))
         else some (.inl ()):Option (Unit⊕(List Tp×List Int×Int×Unit))).bind fun q=>match q with
         | .inr r15=>some r15
         | .inl _=>
          aA (uE m f pc s s5 s10) fuel ((0:Int),())
   else none
  else none
 else none
def pG (m:Im) (s6:Bool×Int×List Sh×Unit) (rec7:(Bool×Int×List Sh×Unit)→Option (List Sh×Bool×Unit)) (r5:List Tp×List Int×Int×Unit) (s8:List Tp×Int×Unit) (rec9:(List Tp×Int×Unit)→Option (List Sh×Bool×Unit)):Option (List Sh×Bool×Unit):=
 bif decide (s8.2.1<(r5.1.length:Int)) then
  bif decide (0≤r5.2.1.getD s6.2.1.toNat 0)&&decide (r5.2.1.getD s6.2.1.toNat 0<s6.2.2.1.length) then
   bif decide (0≤s8.2.1)&&decide (s8.2.1<(s6.2.2.1.getD (r5.2.1.getD s6.2.1.toNat 0).toNat zSh).2.1.length) then
    bif decide (0≤s8.2.1)&&decide (s8.2.1<r5.1.length) then
     (aCJ m.1 ((s6.2.2.1.getD (r5.2.1.getD s6.2.1.toNat 0).toNat zSh).2.1.getD s8.2.1.toNat zTp) (r5.1.getD s8.2.1.toNat zTp)).bind fun r10=>
     bif r10.1.1==0 then
      some (([]:List Sh),false,())
     else bif decide (s8.1.length+[r10.1].length<rowMax) then
      rec9 (s8.1++[r10.1],IntKind.i64.wrap (s8.2.1+1),())
     else none
    else none
   else none
  else none
 else bif decide (0≤r5.2.1.getD s6.2.1.toNat 0)&&decide (r5.2.1.getD s6.2.1.toNat 0<s6.2.2.1.length) then
  bif !(rW s8.1 (s6.2.2.1.getD (r5.2.1.getD s6.2.1.toNat 0).toNat zSh).2.1) then
   bif decide (0≤r5.2.1.getD s6.2.1.toNat 0)&&decide (r5.2.1.getD s6.2.1.toNat 0<s6.2.2.1.length) then
    rec7 (true,IntKind.i64.wrap (s6.2.1+1),s6.2.2.1.set (r5.2.1.getD s6.2.1.toNat 0).toNat (true,s8.1,()),())
   else none
  else rec7 (s6.1,IntKind.i64.wrap (s6.2.1+1),s6.2.2.1,())
 else none
def oP (m:Im) (fuel:Nat) (s3:Bool×Int×List Sh×Unit) (rec4:(Bool×Int×List Sh×Unit)→Option (List Sh×Bool×Unit)) (r5:List Tp×List Int×Int×Unit) (s6:Bool×Int×List Sh×Unit) (rec7:(Bool×Int×List Sh×Unit)→Option (List Sh×Bool×Unit)):Option (List Sh×Bool×Unit):=
 bif decide (s6.2.1<(r5.2.1.length:Int)) then
  bif decide (0≤s6.2.1)&&decide (s6.2.1<r5.2.1.length) then
   bif decide (0≤r5.2.1.getD s6.2.1.toNat 0)&&decide (r5.2.1.getD s6.2.1.toNat 0<s6.2.2.1.length) then
    bif !(s6.2.2.1.getD (r5.2.1.getD s6.2.1.toNat 0).toNat zSh).1 then
     bif decide (0≤r5.2.1.getD s6.2.1.toNat 0)&&decide (r5.2.1.getD s6.2.1.toNat 0<s6.2.2.1.length) then
      rec7 (true,IntKind.i64.wrap (s6.2.1+1),s6.2.2.1.set (r5.2.1.getD s6.2.1.toNat 0).toNat (true,r5.1,()),())
     else none
    else bif decide (0≤r5.2.1.getD s6.2.1.toNat 0)&&decide (r5.2.1.getD s6.2.1.toNat 0<s6.2.2.1.length) then
     bif ((s6.2.2.1.getD (r5.2.1.getD s6.2.1.toNat 0).toNat zSh).2.1.length:Int) !=(r5.1.length:Int) then
      some (([]:List Sh),false,())
     else aA (pG m s6 rec7 r5) fuel (([]:List Tp),((0:Int),()))
    else none
   else none
  else none
 else rec4 (s6.1,IntKind.i64.wrap (s3.2.1 - 1),s6.2.2.1,())
def pE (m:Im) (f:Int) (fuel:Nat) (s1:Int×List Sh×Unit) (rec2:(Int×List Sh×Unit)→Option (List Sh×Bool×Unit)) (s3:Bool×Int×List Sh×Unit) (rec4:(Bool×Int×List Sh×Unit)→Option (List Sh×Bool×Unit)):Option (List Sh×Bool×Unit):=
 bif decide (s3.2.1≥0) then
  bif decide (0≤s3.2.1)&&decide (s3.2.1<s3.2.2.1.length) then
   bif !(s3.2.2.1.getD s3.2.1.toNat zSh).1 then
    rec4 (s3.1,IntKind.i64.wrap (s3.2.1 - 1),s3.2.2.1,())
   else bif decide (0≤s3.2.1)&&decide (s3.2.1<s3.2.2.1.length) then
    (pJ m f s3.2.1 (s3.2.2.1.getD s3.2.1.toNat zSh).2.1).bind fun r5=>
    bif r5.2.2.1 !=0 then
     some (([]:List Sh),false,())
    else aA (oP m fuel s3 rec4 r5) fuel (s3.1,((0:Int),s3.2.2.1,()))
   else none
  else none
 else bif !s3.1 then
  some (s3.2.2.1,true,())
 else rec2 (IntKind.i64.wrap (s1.1+1),s3.2.2.1,())
def tC (m:Im) (f:Int) (fuel:Nat) (s1:Int×List Sh×Unit) (rec2:(Int×List Sh×Unit)→Option (List Sh×Bool×Unit)):Option (List Sh×Bool×Unit):=
 bif decide (s1.1<4000) then
  aA (pE m f fuel s1 rec2) fuel (false,(IntKind.i64.wrap (((m.2.2.2.1.getD f.toNat zMt).2.2.2.1.length:Int) - 1),s1.2.1,()))
 else some (([]:List Sh),false,())
def aGZ (fuel:Nat) (m:Im) (f:Int):Option (List Sh×Bool×Unit):=
 bif decide (0≤f)&&decide (f<m.2.2.2.1.length) then
  bif decide (0≤((m.2.2.2.1.getD f.toNat zMt).2.2.2.1.length:Int))&&decide (((m.2.2.2.1.getD f.toNat zMt).2.2.2.1.length:Int)≤((m.2.2.2.1.getD f.toNat zMt).2.2.2.1.length:Int))&&decide (((m.2.2.2.1.getD f.toNat zMt).2.2.2.1.length:Int)<(rowMax:Int)) then
   bif ((m.2.2.2.1.getD f.toNat zMt).2.2.2.1.length:Int)==0 then
    some (([]:List Sh),false,())
   else bif decide ((0:Int)<(List.replicate ((m.2.2.2.1.getD f.toNat zMt).2.2.2.1.length:Int).toNat zSh).length) then
    aA (tC m f fuel) fuel ((0:Int),((List.replicate ((m.2.2.2.1.getD f.toNat zMt).2.2.2.1.length:Int).toNat zSh).set 0 (true,((List.replicate ((m.2.2.2.1.getD f.toNat zMt).2.2.2.1.length:Int).toNat zSh).getD 0 zSh).2),()))
   else none
  else none
 else none
def aCp (m:Im) (s1:List (List Sh)×Int×Unit) (rec2:(List (List Sh)×Int×Unit)→Option (List (List Sh)×Int×Unit)):Option (List (List Sh)×Int×Unit):=
 bif decide (s1.2.1<(m.2.2.2.1.length:Int)) then
  (qA m s1.2.1).bind fun r3=>
  bif !r3.2.1 then
   some (([]:List (List Sh)),s1.2.1,())
  else bif decide (s1.1.length+[r3.1].length<rowMax) then
   rec2 (s1.1++[r3.1],IntKind.i64.wrap (s1.2.1+1),())
  else none
 else some (s1.1,((-1:Int),()))
def aQv (fuel:Nat) (m:Im):Option (List (List Sh)×Int×Unit):=
 aA (aCp m) fuel (([]:List (List Sh)),((0:Int),()))
def lL (l:List (List Sh)) (f:Int) (s3:Int×Int×Unit) (rec4:(Int×Int×Unit)→Option ((Int×Unit)⊕(Int×Unit))):Option ((Int×Unit)⊕(Int×Unit)):=
 bif decide (f<(l.length:Int)) then
  bif decide (0≤f)&&decide (f<l.length) then
   bif decide (s3.2.1<((l.getD f.toNat ([]:List Sh)).length:Int)) then
    bif decide (0≤f)&&decide (f<l.length) then
     bif decide (0≤s3.2.1)&&decide (s3.2.1<(l.getD f.toNat ([]:List Sh)).length) then
      bif decide ((((l.getD f.toNat ([]:List Sh)).getD s3.2.1.toNat zSh).2.1.length:Int)>s3.1) then
       bif decide (0≤f)&&decide (f<l.length) then
        bif decide (0≤s3.2.1)&&decide (s3.2.1<(l.getD f.toNat ([]:List Sh)).length) then
         rec4 ((((l.getD f.toNat ([]:List Sh)).getD s3.2.1.toNat zSh).2.1.length:Int),IntKind.i64.wrap (s3.2.1+1),())
        else none
       else none
      else rec4 (s3.1,IntKind.i64.wrap (s3.2.1+1),())
     else none
    else none
   else some (.inl (s3.1,()))
  else none
 else some (.inl (s3.1,()))
def aKk (fuel:Nat) (m:Im) (l:List (List Sh)) (f:Int):Option (Int×Unit):=
 bif decide (f<0) then
  some ((0:Int),())
 else bif decide (f≥(m.2.2.2.1.length:Int)) then
  some ((0:Int),())
 else
  (aA (lL l f) fuel ((0:Int),((0:Int),())):Option ((Int×Unit)⊕(Int×Unit))).bind fun q=>match q with
  | .inr r2=>some r2
  | .inl s1=>
   bif decide (0≤f)&&decide (f<m.2.2.2.1.length) then
    bif decide (0≤f)&&decide (f<m.2.2.2.1.length) then
     some (IntKind.i64.wrap ((IntKind.i64.wrap ((IntKind.i64.wrap ((3:Int)+((m.2.2.2.1.getD f.toNat zMt).1.length:Int)))+((m.2.2.2.1.getD f.toNat zMt).2.1.length:Int)))+s1.1),())
    else none
   else none
def sH (r1:List (List Int)×Unit) (r2:List (List Bool)×Unit) (s7:Int×List Int×Unit) (s9:Int×Int×Int×Unit) (s17:Int×Unit) (r19:Int×Unit) (s20:Int×Int×Unit) (rec21:(Int×Int×Unit)→Option ((Int×Int×Unit)⊕(List Int×Bool×Unit))):Option ((Int×Int×Unit)⊕(List Int×Bool×Unit)):=
 bif decide (0≤s9.2.2.1)&&decide (s9.2.2.1<r1.1.length) then
  bif decide (s20.2.1<((r1.1.getD s9.2.2.1.toNat ([]:List Int)).length:Int)) then
   bif decide (0≤s9.2.2.1)&&decide (s9.2.2.1<r1.1.length) then
    bif decide (0≤s20.2.1)&&decide (s20.2.1<(r1.1.getD s9.2.2.1.toNat ([]:List Int)).length) then
     bif decide (0≤(r1.1.getD s9.2.2.1.toNat ([]:List Int)).getD s20.2.1.toNat 0)&&decide ((r1.1.getD s9.2.2.1.toNat ([]:List Int)).getD s20.2.1.toNat 0<r2.1.length) then
      bif decide (0≤s9.2.2.1)&&decide (s9.2.2.1<(r2.1.getD ((r1.1.getD s9.2.2.1.toNat ([]:List Int)).getD s20.2.1.toNat 0).toNat ([]:List Bool)).length) then
       bif !((r2.1.getD ((r1.1.getD s9.2.2.1.toNat ([]:List Int)).getD s20.2.1.toNat 0).toNat ([]:List Bool)).getD s9.2.2.1.toNat false) then
        bif decide (0≤(r1.1.getD s9.2.2.1.toNat ([]:List Int)).getD s20.2.1.toNat 0)&&decide ((r1.1.getD s9.2.2.1.toNat ([]:List Int)).getD s20.2.1.toNat 0<s7.2.1.length) then
         bif decide (s7.2.1.getD ((r1.1.getD s9.2.2.1.toNat ([]:List Int)).getD s20.2.1.toNat 0).toNat 0>s20.1) then
          bif decide (0≤(r1.1.getD s9.2.2.1.toNat ([]:List Int)).getD s20.2.1.toNat 0)&&decide ((r1.1.getD s9.2.2.1.toNat ([]:List Int)).getD s20.2.1.toNat 0<s7.2.1.length) then
           rec21 (s7.2.1.getD ((r1.1.getD s9.2.2.1.toNat ([]:List Int)).getD s20.2.1.toNat 0).toNat 0,IntKind.i64.wrap (s20.2.1+1),())
          else none
         else rec21 (s20.1,IntKind.i64.wrap (s20.2.1+1),())
        else none
       else rec21 (s20.1,IntKind.i64.wrap (s20.2.1+1),())
      else none
     else none
    else none
   else none
  else some (.inl (IntKind.i64.wrap (s9.1+(IntKind.i64.wrap (s17.1*r19.1))),s20.1,()))
 else none
def rK (m:Im) (l:List (List Sh)) (fuel:Nat) (r1:List (List Int)×Unit) (r2:List (List Bool)×Unit) (s7:Int×List Int×Unit) (rec8:(Int×List Int×Unit)→Option (List Int×Bool×Unit)) (s9:Int×Int×Int×Unit) (rec10:(Int×Int×Int×Unit)→Option (List Int×Bool×Unit)):Option (List Int×Bool×Unit):=
 bif decide (s9.2.2.1<(m.2.2.2.1.length:Int)) then
  (((bif s9.2.2.1 !=s7.1 then
   bif decide (0≤s7.1)&&decide (s7.1<r2.1.length) then
    bif decide (0≤s9.2.2.1)&&decide (s9.2.2.1<(r2.1.getD s7.1.toNat ([]:List Bool)).length) then
     bif (r2.1.getD s7.1.toNat ([]:List Bool)).getD s9.2.2.1.toNat false then
      bif decide (0≤s9.2.2.1)&&decide (s9.2.2.1<r2.1.length) then
       bif decide (0≤s7.1)&&decide (s7.1<(r2.1.getD s9.2.2.1.toNat ([]:List Bool)).length) then
        some (.inl (!((r2.1.getD s9.2.2.1.toNat ([]:List Bool)).getD s7.1.toNat false),()))
       else none
      else none
     else some (.inl (true,()))
    else none
   else none
  else some (.inl (false,())):Option ((Bool×Unit)⊕((Bool×Unit)⊕((Int×Int×Unit)⊕(List Int×Bool×Unit))))).bind fun q=>match q with
  | .inr r16=>some r16
  | .inl s15=>
   bif s15.1 then
    some (.inr (.inl (s9.1,s9.2.1,())))
   else some (.inl (false,())):Option ((Bool×Unit)⊕((Int×Int×Unit)⊕(List Int×Bool×Unit)))).bind fun q=>match q with
  | .inr r14=>some r14
  | .inl _=>
   (bif decide (0≤s9.2.2.1)&&decide (s9.2.2.1<r2.1.length) then
    bif decide (0≤s9.2.2.1)&&decide (s9.2.2.1<(r2.1.getD s9.2.2.1.toNat ([]:List Bool)).length) then
     bif (r2.1.getD s9.2.2.1.toNat ([]:List Bool)).getD s9.2.2.1.toNat false then
      bif decide (0≤s9.2.2.1)&&decide (s9.2.2.1<m.2.2.2.1.length) then
       some (.inl ((m.2.2.2.1.getD s9.2.2.1.toNat zMt).2.2.2.2.1,()))
      else none
     else some (.inl ((1:Int),()))
    else none
   else none:Option ((Int×Unit)⊕((Int×Int×Unit)⊕(List Int×Bool×Unit)))).bind fun q=>match q with
   | .inr r18=>some r18
   | .inl s17=>
    (tL m l s9.2.2.1).bind fun r19=>
    aA (sH r1 r2 s7 s9 s17 r19) fuel (s9.2.1,((0:Int),())):Option ((Int×Int×Unit)⊕(List Int×Bool×Unit))).bind fun q=>match q with
  | .inr r12=>some r12
  | .inl s11=>
   rec10 (s11.1,s11.2.1,IntKind.i64.wrap (s9.2.2.1+1),())
 else bif decide (0≤s7.1)&&decide (s7.1<s7.2.1.length) then
  rec8 (IntKind.i64.wrap (s7.1+1),s7.2.1.set s7.1.toNat (IntKind.i64.wrap (s9.1+s9.2.1)),())
 else none
def rS (m:Im) (l:List (List Sh)) (fuel:Nat) (r1:List (List Int)×Unit) (r2:List (List Bool)×Unit) (s5:Int×List Int×Unit) (rec6:(Int×List Int×Unit)→Option (List Int×Bool×Unit)) (s7:Int×List Int×Unit) (rec8:(Int×List Int×Unit)→Option (List Int×Bool×Unit)):Option (List Int×Bool×Unit):=
 bif decide (s7.1<(m.2.2.2.1.length:Int)) then
  aA (rK m l fuel r1 r2 s7 rec8) fuel ((0:Int),((0:Int),((0:Int),())))
 else rec6 (IntKind.i64.wrap (s5.1+1),s7.2.1,())
def sC (m:Im) (l:List (List Sh)) (fuel:Nat) (r1:List (List Int)×Unit) (r2:List (List Bool)×Unit) (s5:Int×List Int×Unit) (rec6:(Int×List Int×Unit)→Option (List Int×Bool×Unit)):Option (List Int×Bool×Unit):=
 bif decide (s5.1<(m.2.2.2.1.length:Int)) then
  aA (rS m l fuel r1 r2 s5 rec6) fuel ((0:Int),s5.2.1,())
 else some (s5.2.1,true,())
def wJ (m:Im) (l:List (List Sh)) (fuel:Nat) (r1:List (List Int)×Unit) (r2:List (List Bool)×Unit) (s3:Int×Unit) (rec4:(Int×Unit)→Option (List Int×Bool×Unit)):Option (List Int×Bool×Unit):=
 bif decide (s3.1<(m.2.2.2.1.length:Int)) then
  bif decide (0≤s3.1)&&decide (s3.1<r2.1.length) then
   bif decide (0≤s3.1)&&decide (s3.1<(r2.1.getD s3.1.toNat ([]:List Bool)).length) then
    bif (r2.1.getD s3.1.toNat ([]:List Bool)).getD s3.1.toNat false then
     bif decide (0≤s3.1)&&decide (s3.1<m.2.2.2.1.length) then
      bif decide ((m.2.2.2.1.getD s3.1.toNat zMt).2.2.2.2.1<1) then
       some (([]:List Int),false,())
      else rec4 (IntKind.i64.wrap (s3.1+1),())
     else none
    else rec4 (IntKind.i64.wrap (s3.1+1),())
   else none
  else none
 else bif decide (0≤(m.2.2.2.1.length:Int))&&decide ((m.2.2.2.1.length:Int)≤(m.2.2.2.1.length:Int))&&decide ((m.2.2.2.1.length:Int)<(rowMax:Int)) then
  aA (sC m l fuel r1 r2) fuel ((0:Int),(List.replicate m.2.2.2.1.length (0:Int),()))
 else none
def aJx (fuel:Nat) (m:Im) (l:List (List Sh)):Option (List Int×Bool×Unit):=
 (qN m).bind fun r1=>
 (yQ r1.1).bind fun r2=>
 aA (wJ m l fuel r1 r2) fuel ((0:Int),())
def vV (m:Im) (s1:Int×Unit) (s3:Int×Unit) (rec4:(Int×Unit)→Option (Int×Unit)) (r5:List Tp×List Int×Int×Unit) (s6:Int×Unit) (rec7:(Int×Unit)→Option (Int×Unit)):Option (Int×Unit):=
 bif decide (s6.1<(r5.2.1.length:Int)) then
  bif decide (0≤s3.1)&&decide (s3.1<(m.2.2.2.1.getD s1.1.toNat zMt).2.2.2.2.2.2.1.length) then
   bif decide (0≤s3.1)&&decide (s3.1<(m.2.2.2.1.getD s1.1.toNat zMt).2.2.2.1.length) then
    (qK m ((m.2.2.2.1.getD s1.1.toNat zMt).2.2.2.1.getD s3.1.toNat dJ)).bind fun r8=>
    bif decide (0≤s6.1)&&decide (s6.1<r5.2.1.length) then
     bif decide (0≤r5.2.1.getD s6.1.toNat 0)&&decide (r5.2.1.getD s6.1.toNat 0<(m.2.2.2.1.getD s1.1.toNat zMt).2.2.2.2.2.2.1.length) then
      bif decide ((m.2.2.2.1.getD s1.1.toNat zMt).2.2.2.2.2.2.1.getD s3.1.toNat 0<IntKind.i64.wrap (r8.1+((m.2.2.2.1.getD s1.1.toNat zMt).2.2.2.2.2.2.1.getD (r5.2.1.getD s6.1.toNat 0).toNat 0))) then
       some (s1.1,())
      else rec7 (IntKind.i64.wrap (s6.1+1),())
     else none
    else none
   else none
  else none
 else rec4 (IntKind.i64.wrap (s3.1+1),())
def vZ (m:Im) (l:List (List Sh)) (fuel:Nat) (s1:Int×Unit) (rec2:(Int×Unit)→Option (Int×Unit)) (s3:Int×Unit) (rec4:(Int×Unit)→Option (Int×Unit)):Option (Int×Unit):=
 bif decide (s3.1<((m.2.2.2.1.getD s1.1.toNat zMt).2.2.2.1.length:Int)) then
  bif decide (0≤s1.1)&&decide (s1.1<l.length) then
   bif decide (0≤s3.1)&&decide (s3.1<(l.getD s1.1.toNat ([]:List Sh)).length) then
    bif !((l.getD s1.1.toNat ([]:List Sh)).getD s3.1.toNat zSh).1 then
     rec4 (IntKind.i64.wrap (s3.1+1),())
    else bif decide (0≤s1.1)&&decide (s1.1<l.length) then
     bif decide (0≤s3.1)&&decide (s3.1<(l.getD s1.1.toNat ([]:List Sh)).length) then
      (pJ m s1.1 s3.1 ((l.getD s1.1.toNat ([]:List Sh)).getD s3.1.toNat zSh).2.1).bind fun r5=>
      aA (vV m s1 s3 rec4 r5) fuel ((0:Int),())
     else none
    else none
   else none
  else none
 else rec2 (IntKind.i64.wrap (s1.1+1),())
def wK (m:Im) (l:List (List Sh)) (fuel:Nat) (s1:Int×Unit) (rec2:(Int×Unit)→Option (Int×Unit)):Option (Int×Unit):=
 bif decide (s1.1<(m.2.2.2.1.length:Int)) then
  bif decide (0≤s1.1)&&decide (s1.1<m.2.2.2.1.length) then
   bif decide ((0:Int)<(m.2.2.2.1.getD s1.1.toNat zMt).2.2.2.2.2.2.1.length) then
    bif decide ((m.2.2.2.1.getD s1.1.toNat zMt).2.2.2.2.2.2.1.getD 0 0>(m.2.2.2.1.getD s1.1.toNat zMt).2.2.2.2.2.1) then
     some (s1.1,())
    else aA (vZ m l fuel s1 rec2) fuel ((0:Int),())
   else none
  else none
 else some ((-1:Int),())
def aKq (fuel:Nat) (m:Im) (l:List (List Sh)):Option (Int×Unit):=
 aA (wK m l fuel) fuel ((0:Int),())
def sU (m:Im) (r1:List Int×Bool×Unit) (s2:Int×Int×Int×Unit) (rec3:(Int×Int×Int×Unit)→Option (Int×Int×Bool×Unit)):Option (Int×Int×Bool×Unit):=
 bif decide (s2.2.2.1<(m.2.2.2.2.1.length:Int)) then
  bif decide (0≤s2.2.2.1)&&decide (s2.2.2.1<m.2.2.2.2.1.length) then
   (bif decide (0≤m.2.2.2.2.1.getD s2.2.2.1.toNat 0)&&decide (m.2.2.2.2.1.getD s2.2.2.1.toNat 0<r1.1.length) then
    bif decide (r1.1.getD (m.2.2.2.2.1.getD s2.2.2.1.toNat 0).toNat 0>s2.1) then
     bif decide (0≤m.2.2.2.2.1.getD s2.2.2.1.toNat 0)&&decide (m.2.2.2.2.1.getD s2.2.2.1.toNat 0<r1.1.length) then
      some (.inl (r1.1.getD (m.2.2.2.2.1.getD s2.2.2.1.toNat 0).toNat 0,()))
     else none
    else some (.inl (s2.1,()))
   else none:Option ((Int×Unit)⊕(Int×Int×Bool×Unit))).bind fun q=>match q with
   | .inr r5=>some r5
   | .inl s4=>
    bif decide (0≤m.2.2.2.2.1.getD s2.2.2.1.toNat 0)&&decide (m.2.2.2.2.1.getD s2.2.2.1.toNat 0<m.2.2.2.1.length) then
     bif decide ((m.2.2.2.1.getD (m.2.2.2.2.1.getD s2.2.2.1.toNat 0).toNat zMt).2.2.2.2.2.1>s2.2.1) then
      bif decide (0≤m.2.2.2.2.1.getD s2.2.2.1.toNat 0)&&decide (m.2.2.2.2.1.getD s2.2.2.1.toNat 0<m.2.2.2.1.length) then
       rec3 (s4.1,(m.2.2.2.1.getD (m.2.2.2.2.1.getD s2.2.2.1.toNat 0).toNat zMt).2.2.2.2.2.1,IntKind.i64.wrap (s2.2.2.1+1),())
      else none
     else rec3 (s4.1,s2.2.1,IntKind.i64.wrap (s2.2.2.1+1),())
    else none
  else none
 else some (s2.1,(IntKind.i64.wrap ((m.2.1.length:Int)+s2.2.1),true,()))
def aHy (fuel:Nat) (m:Im) (l:List (List Sh)):Option (Int×Int×Bool×Unit):=
 (mM m l).bind fun r1=>
 bif !r1.2.1 then
  some ((0:Int),((0:Int),false,()))
 else aA (sU m r1) fuel ((0:Int),((0:Int),((0:Int),())))
def lT (m:Im):Option (List (List Sh)×Int×Unit):=
 bif (rZ m) !=0 then
  some (([]:List (List Sh)),(rZ m),())
 else
  (rF m).bind fun r1=>
  bif decide (r1.2.1≥0) then
   some (([]:List (List Sh)),((4:Int),()))
  else
   (jH m r1.1).bind fun r2=>
   bif !r2.2.2.1 then
    some (([]:List (List Sh)),((5:Int),()))
   else
    (oK m r1.1).bind fun r3=>
    bif decide (r3.1≥0) then
     some (([]:List (List Sh)),((6:Int),()))
    else bif decide (r2.1>m.2.2.2.2.2.1) then
     some (([]:List (List Sh)),((7:Int),()))
    else bif decide (r2.2.1>m.2.2.2.2.2.2.1) then
     some (([]:List (List Sh)),((7:Int),()))
    else some (r1.1,((0:Int),()))
def uG (m:Im):Option (Bool×Unit):=
 bif !(yD m) then
  awake16N.bind fun r1=>
  some (r1.1,())
 else
  (iR m).bind fun r2=>
  (lT m).bind fun r3=>
  bif r3.2.1 !=0 then
   awake16N.bind fun r4=>
   bif r4.1 then
    bif r2.2.1==r3.2.1 then
     some ((r2.1.length:Int)==0,())
    else some (false,())
   else some (false,())
  else
   (kR m r2.1).bind fun r5=>
   (jH m r3.1).bind fun r6=>
   awake16N.bind fun r7=>
   bif r7.1 then
    bif r2.2.1==0 then
     (yH r2.1 r3.1).bind fun r8=>
     bif r8.1 then
      bif r5.2.2.1==0 then
       bif r6.2.2.1 then
        bif r5.1==r6.1 then
         bif r5.2.1==r6.2.1 then
          bif decide (r5.1≤m.2.2.2.2.2.1) then
           some (decide (r5.2.1≤m.2.2.2.2.2.2.1),())
          else some (false,())
         else some (false,())
        else some (false,())
       else some (false,())
      else some (false,())
     else some (false,())
    else some (false,())
   else some (false,())
end
end Go.Pli
