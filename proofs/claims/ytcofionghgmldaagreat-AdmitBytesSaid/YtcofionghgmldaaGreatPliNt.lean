/- Who calls whom: what the functions come to, in plain Lean. -/
import Derived.Test.YtcofionghgmldaaGreatPliSp
namespace Go.Pli
open Go Go.PM
def ints (n:Nat):List Int:=(List.range n).map fun k:Nat=>(k:Int)
def leI (x y:Int):Bool:=decide (x≤y)
def qF (x:Int):List Int→List Int
 | []=>[x]
 | y::l=>bif leI x y then x::y::l else y::qF x l
def gQ:List Int→List Int
 | []=>[]
 | x::l=>qF x (gQ l)
def aA0 (l:List Int):List Int×Unit:=(gQ l,())
def eJ:List Int→List Int
 | []=>[]
 | a::l=>match eJ l with
  | []=>[a]
  | b::r=>bif a==b then b::r else a::b::r
def nM (m:Im):Int:=(m.2.2.2.1.length:Int)
def nV (m:Im) (c:Int):List Int:=(ints m.1.length).filter fun n=>dL m.1 n c
def aAy (m:Im) (c:Int):Option (List Int×Unit):=bif bI m then some (nV m c,()) else none
def zA (m:Im) (c:Int):Option (List Int×Unit):=bif bI m then some (nV m c,()) else none
def jH (m:Im) (c n:Int):Bool:=(decide (0≤c)&&decide (c<(m.1.length:Int)))&&(decide (0≤n)&&decide (n<((bF m c).2.2.1.length:Int)))
def eS (m:Im) (c n:Int):Int×Bool×Unit:=bif jH m c n then ((bF m c).2.2.1.getD n.toNat 0,true,()) else (0,false,())
def aBp (m:Im) (c n:Int):Int×Bool×Unit:=eS m c n
def tK (m:Im) (l:List Int) (n:Int):List Int:=(l.filter fun c=>(eS m c n).2.1).map fun c=>(eS m c n).1
def cT (m:Im) (i:Ins):List Int:=bif i.1==31 then[i.2.1] else bif i.1==32 then tK m (nV m i.2.1) i.2.2.1 else[]
def sP (m:Im) (i:Ins):Option (List Int×Unit):=bif bI m then some (cT m i,()) else none
def rQ (m:Im) (i:Ins):Option (List Int×Unit):=bif bI m then some (cT m i,()) else none
def inM (m:Im) (f:Int):Bool:=sin f (nM m)
def uX (m:Im) (f:Int):List Int:=((aE m f).2.2.2.1.map (cT m)).flatten
def ofB (m:Im) (f:Int):List Int:=bif inM m f then eJ (gQ (uX m f)) else[]
def cof (m:Im) (f:Int):Option (List Int×Unit):=bif bI m then some (ofB m f,()) else none
def kF (m:Im) (f g:Int):Bool:=(aE m f).2.2.2.1.any fun i=>(cT m i).contains g
def yU (m:Im) (f g:Int):Option (Bool×Unit):=bif bI m&&inM m f then some (kF m f g,()) else none
def aR (m:Im):List (List Int):=(ints m.2.2.2.1.length).map fun f=>(ints m.2.2.2.1.length).filter fun g=>kF m f g
def vX (m:Im):Option (List (List Int)×Unit):=bif bI m then some (aR m,()) else none
def rJ (m:Im):Bool:=(ints m.2.2.2.1.length).all fun f=>(uX m f).all (inM m)
def uN (l:List (List Int)) (i j:Nat):Bool:=(l.getD i []).contains (j:Int)
def cR (l:List (List Int)):Nat→Nat→Nat→Bool
 | 0,i,j=>uN l i j
 | k+1,i,j=>cR l k i j || (cR l k i k&&cR l k k j)
def fH (n:Nat) (f:Nat→Nat→Bool):List (List Bool):=(List.range n).map fun i=>(List.range n).map fun j=>f i j
def tJ (l:List (List Int)):Bool:=Nat.ble l.length 1000&&l.all fun r=>Nat.ble r.length 1000
def yP (l:List (List Int)):Option (List (List Bool)×Unit):=bif tJ l then some (fH l.length (cR l l.length),()) else none
end Go.Pli

namespace Go.Pli
open Go Go.PM
def aEH (m:Im) (c:Int) (s1:List Int×Int×Unit) (rec2:(List Int×Int×Unit)→Option (List Int×Unit)):Option (List Int×Unit):=
 bif decide (s1.2.1<(m.1.length:Int)) then
  bif (dL m.1 s1.2.1 c) then
   bif decide (s1.1.length+[s1.2.1].length<rowMax) then
    rec2 (s1.1++[s1.2.1],IntKind.i64.wrap (s1.2.1+1),())
   else none
  else rec2 (s1.1,IntKind.i64.wrap (s1.2.1+1),())
 else some ((idL s1.1),())
def aOP (fuel:Nat) (m:Im) (c:Int):Option (List Int×Unit):=
 aD (aEH m c) fuel (([]:List Int),((0:Int),()))
def aN7 (m:Im) (c:Int) (n:Int):Option (Int×Bool×Unit):=
 bif decide (c<0) then
  some ((0:Int),false,())
 else bif decide (c≥(m.1.length:Int)) then
  some ((0:Int),false,())
 else bif decide (n<0) then
  some ((0:Int),false,())
 else bif decide (0≤c)&&decide (c<m.1.length) then
  bif decide (n≥((m.1.getD c.toNat zCl).2.2.1.length:Int)) then
   some ((0:Int),false,())
  else bif decide (0≤c)&&decide (c<m.1.length) then
   bif decide (0≤n)&&decide (n<(m.1.getD c.toNat zCl).2.2.1.length) then
    some ((m.1.getD c.toNat zCl).2.2.1.getD n.toNat 0,true,())
   else none
  else none
 else none
def aYO (m:Im) (i:Ins) (r1:List Int×Unit) (s2:List Int×Int×Unit) (rec3:(List Int×Int×Unit)→Option (List Int×Unit)):Option (List Int×Unit):=
 bif decide (s2.2.1<(r1.1.length:Int)) then
  bif decide (0≤s2.2.1)&&decide (s2.2.1<r1.1.length) then
   let r4:=eS m (r1.1.getD s2.2.1.toNat 0) i.2.2.1
   bif r4.2.1 then
    bif decide (s2.1.length+[r4.1].length<rowMax) then
     rec3 (s2.1++[r4.1],IntKind.i64.wrap (s2.2.1+1),())
    else none
   else rec3 (s2.1,IntKind.i64.wrap (s2.2.1+1),())
  else none
 else some (s2.1,())
def aN4 (fuel:Nat) (m:Im) (i:Ins):Option (List Int×Unit):=
 bif i.1==31 then
  bif decide (([]:List Int).length+[i.2.1].length<rowMax) then
   some (([]:List Int)++[i.2.1],())
  else none
 else bif i.1==32 then
  (aAy m i.2.1).bind fun r1=>
  aD (aYO m i r1) fuel (([]:List Int),((0:Int),()))
 else some (([]:List Int),())
def aEA (m:Im) (f:Int) (s1:List Int×Int×Unit) (rec2:(List Int×Int×Unit)→Option (List Int×Unit)):Option (List Int×Unit):=
 bif decide (s1.2.1<((m.2.2.2.1.getD f.toNat zMt).2.2.2.1.length:Int)) then
  bif decide (0≤s1.2.1)&&decide (s1.2.1<(m.2.2.2.1.getD f.toNat zMt).2.2.2.1.length) then
   (sP m ((m.2.2.2.1.getD f.toNat zMt).2.2.2.1.getD s1.2.1.toNat cC)).bind fun r3=>
   bif decide (s1.1.length+r3.1.length<rowMax)&&true then
    rec2 (s1.1++r3.1,IntKind.i64.wrap (s1.2.1+1),())
   else none
  else none
 else
  let r4:=aA0 s1.1
  some ((idL (eJ r4.1)),())
def aOp (fuel:Nat) (m:Im) (f:Int):Option (List Int×Unit):=
 bif decide (f<0) then
  some (([]:List Int),())
 else bif decide (f≥(m.2.2.2.1.length:Int)) then
  some (([]:List Int),())
 else bif decide (0≤f)&&decide (f<m.2.2.2.1.length) then
  aD (aEA m f) fuel (([]:List Int),((0:Int),()))
 else none
def aDp (m:Im) (c:Int) (s1:List Int×Int×Unit) (rec2:(List Int×Int×Unit)→Option (List Int×Unit)):Option (List Int×Unit):=
 bif decide (s1.2.1<(m.1.length:Int)) then
  (lF m.1 s1.2.1).bind fun r3=>
  (rin r3.1 c).bind fun r4=>
  bif r4.1 then
   bif decide (s1.1.length+[s1.2.1].length<rowMax) then
    rec2 (s1.1++[s1.2.1],IntKind.i64.wrap (s1.2.1+1),())
   else none
  else rec2 (s1.1,IntKind.i64.wrap (s1.2.1+1),())
 else some (s1.1,())
def aKX (fuel:Nat) (m:Im) (c:Int):Option (List Int×Unit):=
 aD (aDp m c) fuel (([]:List Int),((0:Int),()))
def aTa (m:Im) (c:Int) (n:Int):Option (Int×Bool×Unit):=
 bif decide (c<0) then
  some ((0:Int),false,())
 else bif decide (c≥(m.1.length:Int)) then
  some ((0:Int),false,())
 else bif decide (n<0) then
  some ((0:Int),false,())
 else bif decide (0≤c)&&decide (c<m.1.length) then
  bif decide (n≥((m.1.getD c.toNat zCl).2.2.1.length:Int)) then
   some ((0:Int),false,())
  else bif decide (0≤c)&&decide (c<m.1.length) then
   bif decide (0≤n)&&decide (n<(m.1.getD c.toNat zCl).2.2.1.length) then
    some ((m.1.getD c.toNat zCl).2.2.1.getD n.toNat 0,true,())
   else none
  else none
 else none
def aSO (m:Im) (i:Ins) (r3:List Int×Unit) (s4:List Int×Int×Unit) (rec5:(List Int×Int×Unit)→Option (List Int×Unit)):Option (List Int×Unit):=
 bif decide (s4.2.1<(r3.1.length:Int)) then
  bif decide (0≤s4.2.1)&&decide (s4.2.1<r3.1.length) then
   let r6:=aBp m (r3.1.getD s4.2.1.toNat 0) i.2.2.1
   bif r6.2.1 then
    bif decide (s4.1.length+[r6.1].length<rowMax) then
     rec5 (s4.1++[r6.1],IntKind.i64.wrap (s4.2.1+1),())
    else none
   else rec5 (s4.1,IntKind.i64.wrap (s4.2.1+1),())
  else none
 else some (s4.1,())
def aKt (fuel:Nat) (m:Im) (i:Ins):Option (List Int×Unit):=
 (bif i.1==31 then
  bif decide (([]:List Int).length+[i.2.1].length<rowMax) then
   some (.inl (([]:List Int)++[i.2.1],()))
  else none
 else some (.inl (([]:List Int),())):Option ((List Int×Unit)⊕(List Int×Unit))).bind fun q=>match q with
 | .inr r2=>some r2
 | .inl s1=>
  bif i.1==32 then
   (zA m i.2.1).bind fun r3=>
   aD (aSO m i r3) fuel (s1.1,((0:Int),()))
  else some (s1.1,())
def aC6 (m:Im) (f:Int) (g:Int) (s1:Int×Unit) (rec2:(Int×Unit)→Option (Bool×Unit)):Option (Bool×Unit):=
 bif decide (0≤f)&&decide (f<m.2.2.2.1.length) then
  bif decide (s1.1<((m.2.2.2.1.getD f.toNat zMt).2.2.2.1.length:Int)) then
   bif decide (0≤f)&&decide (f<m.2.2.2.1.length) then
    bif decide (0≤s1.1)&&decide (s1.1<(m.2.2.2.1.getD f.toNat zMt).2.2.2.1.length) then
     (rQ m ((m.2.2.2.1.getD f.toNat zMt).2.2.2.1.getD s1.1.toNat cC)).bind fun r3=>
     (rin r3.1 g).bind fun r4=>
     bif r4.1 then
      some (true,())
     else rec2 (IntKind.i64.wrap (s1.1+1),())
    else none
   else none
  else some (false,())
 else none
def aKA (fuel:Nat) (m:Im) (f:Int) (g:Int):Option (Bool×Unit):=
 aD (aC6 m f g) fuel ((0:Int),())
def aC5 (m:Im) (s1:List (List Int)×Int×Unit) (rec2:(List (List Int)×Int×Unit)→Option (List (List Int)×Unit)) (s3:List Int×Int×Unit) (rec4:(List Int×Int×Unit)→Option (List (List Int)×Unit)):Option (List (List Int)×Unit):=
 bif decide (s3.2.1<(m.2.2.2.1.length:Int)) then
  (yU m s1.2.1 s3.2.1).bind fun r5=>
  bif r5.1 then
   bif decide (s3.1.length+[s3.2.1].length<rowMax) then
    rec4 (s3.1++[s3.2.1],IntKind.i64.wrap (s3.2.1+1),())
   else none
  else rec4 (s3.1,IntKind.i64.wrap (s3.2.1+1),())
 else bif decide (s1.1.length+[s3.1].length<rowMax)&&true then
  rec2 (s1.1++[s3.1],IntKind.i64.wrap (s1.2.1+1),())
 else none
def aC4 (m:Im) (fuel:Nat) (s1:List (List Int)×Int×Unit) (rec2:(List (List Int)×Int×Unit)→Option (List (List Int)×Unit)):Option (List (List Int)×Unit):=
 bif decide (s1.2.1<(m.2.2.2.1.length:Int)) then
  aD (aC5 m s1 rec2) fuel (([]:List Int),((0:Int),()))
 else some (s1.1,())
def aKz (fuel:Nat) (m:Im):Option (List (List Int)×Unit):=
 aD (aC4 m fuel) fuel (([]:List (List Int)),((0:Int),()))
def aC0 (l:List (List Int)) (s1:Int×List (List Bool)×Unit) (rec2:(Int×List (List Bool)×Unit)→Option (List (List Bool)×Unit)) (s3:Int×List (List Bool)×Unit) (rec4:(Int×List (List Bool)×Unit)→Option (List (List Bool)×Unit)):Option (List (List Bool)×Unit):=
 bif decide (0≤s1.1)&&decide (s1.1<l.length) then
  bif decide (s3.1<((l.getD s1.1.toNat ([]:List Int)).length:Int)) then
   bif decide (0≤s1.1)&&decide (s1.1<l.length) then
    bif decide (0≤s3.1)&&decide (s3.1<(l.getD s1.1.toNat ([]:List Int)).length) then
     bif decide ((l.getD s1.1.toNat ([]:List Int)).getD s3.1.toNat 0≥0) then
      bif decide (0≤s1.1)&&decide (s1.1<l.length) then
       bif decide (0≤s3.1)&&decide (s3.1<(l.getD s1.1.toNat ([]:List Int)).length) then
        bif decide ((l.getD s1.1.toNat ([]:List Int)).getD s3.1.toNat 0<(l.length:Int)) then
         bif decide (0≤s1.1)&&decide (s1.1<s3.2.1.length) then
          bif decide (0≤s1.1)&&decide (s1.1<l.length) then
           bif decide (0≤s3.1)&&decide (s3.1<(l.getD s1.1.toNat ([]:List Int)).length) then
            bif decide (0≤(l.getD s1.1.toNat ([]:List Int)).getD s3.1.toNat 0)&&decide ((l.getD s1.1.toNat ([]:List Int)).getD s3.1.toNat 0<(s3.2.1.getD s1.1.toNat ([]:List Bool)).length) then
             rec4 (IntKind.i64.wrap (s3.1+1),(s3.2.1.set s1.1.toNat ((s3.2.1.getD s1.1.toNat ([]:List Bool)).set ((l.getD s1.1.toNat ([]:List Int)).getD s3.1.toNat 0).toNat true),()))
            else none
           else none
          else none
         else none
        else rec4 (IntKind.i64.wrap (s3.1+1),s3.2.1,())
       else none
      else none
     else rec4 (IntKind.i64.wrap (s3.1+1),s3.2.1,())
    else none
   else none
  else rec2 (IntKind.i64.wrap (s1.1+1),s3.2.1,())
 else none
def aFU (l:List (List Int)) (s5:Int×List (List Bool)×Unit) (s7:Int×List (List Bool)×Unit) (rec8:(Int×List (List Bool)×Unit)→Option (List (List Bool)×Unit)) (s9:Int×List (List Bool)×Unit) (rec10:(Int×List (List Bool)×Unit)→Option (List (List Bool)×Unit)):Option (List (List Bool)×Unit):=
 bif decide (s9.1<(l.length:Int)) then
  bif decide (0≤s7.1)&&decide (s7.1<s9.2.1.length) then
   bif decide (0≤s7.1)&&decide (s7.1<s9.2.1.length) then
    bif decide (0≤s9.1)&&decide (s9.1<(s9.2.1.getD s7.1.toNat ([]:List Bool)).length) then
     bif (s9.2.1.getD s7.1.toNat ([]:List Bool)).getD s9.1.toNat false then
      bif decide (0≤s9.1)&&decide (s9.1<(s9.2.1.getD s7.1.toNat ([]:List Bool)).length) then
       rec10 (IntKind.i64.wrap (s9.1+1),(s9.2.1.set s7.1.toNat ((s9.2.1.getD s7.1.toNat ([]:List Bool)).set s9.1.toNat true),()))
      else none
     else bif decide (0≤s7.1)&&decide (s7.1<s9.2.1.length) then
      bif decide (0≤s5.1)&&decide (s5.1<(s9.2.1.getD s7.1.toNat ([]:List Bool)).length) then
       bif (s9.2.1.getD s7.1.toNat ([]:List Bool)).getD s5.1.toNat false then
        bif decide (0≤s5.1)&&decide (s5.1<s9.2.1.length) then
         bif decide (0≤s9.1)&&decide (s9.1<(s9.2.1.getD s5.1.toNat ([]:List Bool)).length) then
          bif decide (0≤s9.1)&&decide (s9.1<(s9.2.1.getD s7.1.toNat ([]:List Bool)).length) then
           rec10 (IntKind.i64.wrap (s9.1+1),(s9.2.1.set s7.1.toNat ((s9.2.1.getD s7.1.toNat ([]:List Bool)).set s9.1.toNat ((s9.2.1.getD s5.1.toNat ([]:List Bool)).getD s9.1.toNat false)),()))
          else none
         else none
        else none
       else bif decide (0≤s9.1)&&decide (s9.1<(s9.2.1.getD s7.1.toNat ([]:List Bool)).length) then
        rec10 (IntKind.i64.wrap (s9.1+1),(s9.2.1.set s7.1.toNat ((s9.2.1.getD s7.1.toNat ([]:List Bool)).set s9.1.toNat false),()))
       else none
      else none
     else none
    else none
   else none
  else none
 else rec8 (IntKind.i64.wrap (s7.1+1),s9.2.1,())
def aCZ (l:List (List Int)) (fuel:Nat) (s5:Int×List (List Bool)×Unit) (rec6:(Int×List (List Bool)×Unit)→Option (List (List Bool)×Unit)) (s7:Int×List (List Bool)×Unit) (rec8:(Int×List (List Bool)×Unit)→Option (List (List Bool)×Unit)):Option (List (List Bool)×Unit):=
 bif decide (s7.1<(l.length:Int)) then
  aD (aFU l s5 s7 rec8) fuel ((0:Int),s7.2.1,())
 else rec6 (IntKind.i64.wrap (s5.1+1),s7.2.1,())
def aCY (l:List (List Int)) (fuel:Nat) (s5:Int×List (List Bool)×Unit) (rec6:(Int×List (List Bool)×Unit)→Option (List (List Bool)×Unit)):Option (List (List Bool)×Unit):=
 bif decide (s5.1<(l.length:Int)) then
  aD (aCZ l fuel s5 rec6) fuel ((0:Int),s5.2.1,())
 else some (s5.2.1,())
def aFT (l:List (List Int)) (fuel:Nat) (s1:Int×List (List Bool)×Unit) (rec2:(Int×List (List Bool)×Unit)→Option (List (List Bool)×Unit)):Option (List (List Bool)×Unit):=
 bif decide (s1.1<(l.length:Int)) then
  bif decide (0≤(l.length:Int))&&decide ((l.length:Int)≤(l.length:Int))&&decide ((l.length:Int)<(rowMax:Int)) then
   bif decide (0≤s1.1)&&decide (s1.1<s1.2.1.length) then
    aD (aC0 l s1 rec2) fuel ((0:Int),s1.2.1.set s1.1.toNat (List.replicate l.length false),())
   else none
  else none
 else aD (aCY l fuel) fuel ((0:Int),s1.2.1,())
def aKr (fuel:Nat) (l:List (List Int)):Option (List (List Bool)×Unit):=
 bif decide (0≤(l.length:Int))&&decide ((l.length:Int)≤(l.length:Int))&&decide ((l.length:Int)<(rowMax:Int)) then
  aD (aFT l fuel) fuel ((0:Int),(List.replicate l.length ([]:List Bool),()))
 else none
end Go.Pli

namespace Go.Pli
open Go Go.PM
noncomputable def pick {α:Type} (f:Nat→Option α):Option α:=open Classical in if h:∃k,(f k).isSome then f h.choose else none
theorem aGf {α:Type} {f:Nat→Option α} {r:α} (h:pick f=some r):∃k,f k=some r:=by
 unfold pick at h;split at h
 ·exact⟨_,h⟩
 ·cases h
def bAE {α:Type} (f:Nat→Option α) (Q:α→Prop):Prop:=∃K,∀k,(∃r,f k=some r∧Q r)∨(f k=none∧k≤K)
theorem aGg {α:Type} {f:Nat→Option α} {Q:α→Prop} (h:bAE f Q):∃r,pick f=some r∧Q r:=by
 obtain⟨K,h⟩:=h;have hs:∃k,(f k).isSome:=by
  rcases h (K+1) with⟨r,hr,-⟩ | ⟨-,hk⟩
  ·exact⟨K+1,by rw[hr];rfl⟩
  ·omega
 unfold pick;rw[dif_pos hs];have:=hs.choose_spec;rcases h hs.choose with⟨r,hr,hq⟩ | ⟨hn,-⟩
 ·exact⟨r,hr,hq⟩
 ·rw[hn] at this;cases this
theorem aGR {S R:Type} {L:S→(S→Option R)→Option R} {I:S→Prop} {μ:S→Nat} {Q:R→Prop}
  (h:∀s rec,I s→(∃r,L s rec=some r∧Q r)∨∃s',L s rec=rec s'∧I s'∧μ s'<μ s):∀(k:Nat) (s:S),I s→(∃r,aD L k s=some r∧Q r)∨(aD L k s=none∧k≤μ s)
 | 0,s,_=> .inr ⟨rfl,dY _⟩
 | k+1,s,hs=>by
  rw[aZ];rcases h s (aD L k) hs with h1 | ⟨s',h1,hs',hm⟩
  ·exact .inl h1
  ·rw[h1];rcases aGR h k s' hs' with h2 | ⟨h2,hk⟩
   ·exact .inl h2
   ·exact .inr ⟨h2,by omega⟩
end Go.Pli

namespace Go.Pli
open Go Go.PM
noncomputable section
def aAr (f:List (List Int)×List Int×List Int×List Bool×List Int×Int×List (List Int)×Unit) (n:Int):Option ((List (List Int)×List Int×List Int×List Bool×List Int×Int×List (List Int)×Unit)×Unit):=
 bif decide (0≤n)&&decide (n<f.2.1.length) then
  bif decide (0≤n)&&decide (n<f.2.2.1.length) then
   bif decide (0≤n)&&decide (n<f.2.2.2.1.length) then
    bif decide (f.2.2.2.2.1.length+[n].length<rowMax)&&true then
     some ((f.1,f.2.1.set n.toNat (IntKind.i64.wrap (f.2.2.2.2.2.1+1)),f.2.2.1.set n.toNat (IntKind.i64.wrap (f.2.2.2.2.2.1+1)),f.2.2.2.1.set n.toNat true,f.2.2.2.2.1++[n],IntKind.i64.wrap (f.2.2.2.2.2.1+1),f.2.2.2.2.2.2),())
    else none
   else none
  else none
 else none
def aHw (f:List (List Int)×List Int×List Int×List Bool×List Int×Int×List (List Int)×Unit) (n:Int) (s1:List Int×List Bool×List Int×Unit) (rec2:(List Int×List Bool×List Int×Unit)→Option ((List (List Int)×List Int×List Int×List Bool×List Int×Int×List (List Int)×Unit)×Unit)):Option ((List (List Int)×List Int×List Int×List Bool×List Int×Int×List (List Int)×Unit)×Unit):=
 bif decide (0≤IntKind.i64.wrap ((s1.2.2.1.length:Int) - 1))&&decide (IntKind.i64.wrap ((s1.2.2.1.length:Int) - 1)<s1.2.2.1.length) then
  bif decide ((0:Int)≤IntKind.i64.wrap ((s1.2.2.1.length:Int) - 1))&&decide (IntKind.i64.wrap ((s1.2.2.1.length:Int) - 1)≤(s1.2.2.1.length:Int))&&true then
   bif decide (0≤s1.2.2.1.getD (IntKind.i64.wrap ((s1.2.2.1.length:Int) - 1)).toNat 0)&&decide (s1.2.2.1.getD (IntKind.i64.wrap ((s1.2.2.1.length:Int) - 1)).toNat 0<s1.2.1.length) then
    bif decide (s1.1.length+[s1.2.2.1.getD (IntKind.i64.wrap ((s1.2.2.1.length:Int) - 1)).toNat 0].length<rowMax)&&true then
     bif (s1.2.2.1.getD (IntKind.i64.wrap ((s1.2.2.1.length:Int) - 1)).toNat 0)==n then
      let r3:=aA0 (s1.1++[s1.2.2.1.getD (IntKind.i64.wrap ((s1.2.2.1.length:Int) - 1)).toNat 0])
      bif decide (f.2.2.2.2.2.2.1.length+[(idL r3.1)].length<rowMax)&&true then
       some ((f.1,f.2.1,f.2.2.1,(s1.2.1.set (s1.2.2.1.getD (IntKind.i64.wrap ((s1.2.2.1.length:Int) - 1)).toNat 0).toNat false,((s1.2.2.1.take (IntKind.i64.wrap ((s1.2.2.1.length:Int) - 1)).toNat).drop 0,f.2.2.2.2.2.1,f.2.2.2.2.2.2.1++[(idL r3.1)],()))),())
      else none
     else rec2 (s1.1++[s1.2.2.1.getD (IntKind.i64.wrap ((s1.2.2.1.length:Int) - 1)).toNat 0],(s1.2.1.set (s1.2.2.1.getD (IntKind.i64.wrap ((s1.2.2.1.length:Int) - 1)).toNat 0).toNat false,((s1.2.2.1.take (IntKind.i64.wrap ((s1.2.2.1.length:Int) - 1)).toNat).drop 0,())))
    else none
   else none
  else none
 else none
def aBV (fuel:Nat) (f:List (List Int)×List Int×List Int×List Bool×List Int×Int×List (List Int)×Unit) (n:Int):Option ((List (List Int)×List Int×List Int×List Bool×List Int×Int×List (List Int)×Unit)×Unit):=
 bif decide (0≤n)&&decide (n<f.2.2.1.length) then
  bif decide (0≤n)&&decide (n<f.2.1.length) then
   bif (f.2.2.1.getD n.toNat 0) !=(f.2.1.getD n.toNat 0) then
    some (f,())
   else aD (aHw f n) fuel (([]:List Int),f.2.2.2.1,f.2.2.2.2.1,())
  else none
 else none
def aAo (f:List (List Int)×List Int×List Int×List Bool×List Int×Int×List (List Int)×Unit) (n:Int):Option ((List (List Int)×List Int×List Int×List Bool×List Int×Int×List (List Int)×Unit)×Unit):=pick fun fuel=>aBV fuel f n
theorem aXO (f:List (List Int)×List Int×List Int×List Bool×List Int×Int×List (List Int)×Unit) (n:Int) (r) (h:aAo f n=some r):∃k,aBV k f n=some r:=aGf h
def wU (s2:List Tp×List Int×List Int×List Bool×List Int×List (List Int)×(List (List Int)×Unit×Unit×Unit×Unit×Int×Unit×Unit)×Unit) (rec3:(List Tp×List Int×List Int×List Bool×List Int×List (List Int)×(List (List Int)×Unit×Unit×Unit×Unit×Int×Unit×Unit)×Unit)→Option ((List (List Int)×List Int×List Int×List Bool×List Int×Int×List (List Int)×Unit)×Unit)) (s4:List Tp×Int×List Int×Unit) (rec5:(List Tp×Int×List Int×Unit)→Option ((List (List Int)×List Int×List Int×List Bool×List Int×Int×List (List Int)×Unit)×Unit)):Option ((List (List Int)×List Int×List Int×List Bool×List Int×Int×List (List Int)×Unit)×Unit):=
 bif decide (0≤(s4.1.getD s4.2.1.toNat zTp).1)&&decide ((s4.1.getD s4.2.1.toNat zTp).1<s2.2.2.2.2.2.2.1.1.length) then
  bif decide ((s4.1.getD s4.2.1.toNat zTp).2.1<((s2.2.2.2.2.2.2.1.1.getD (s4.1.getD s4.2.1.toNat zTp).1.toNat ([]:List Int)).length:Int)) then
   bif decide (0≤(s4.1.getD s4.2.1.toNat zTp).1)&&decide ((s4.1.getD s4.2.1.toNat zTp).1<s2.2.2.2.2.2.2.1.1.length) then
    bif decide (0≤(s4.1.getD s4.2.1.toNat zTp).2.1)&&decide ((s4.1.getD s4.2.1.toNat zTp).2.1<(s2.2.2.2.2.2.2.1.1.getD (s4.1.getD s4.2.1.toNat zTp).1.toNat ([]:List Int)).length) then
     (bif decide ((s2.2.2.2.2.2.2.1.1.getD (s4.1.getD s4.2.1.toNat zTp).1.toNat ([]:List Int)).getD (s4.1.getD s4.2.1.toNat zTp).2.1.toNat 0<0) then
      some (.inl (true,()))
     else some (.inl (decide ((s2.2.2.2.2.2.2.1.1.getD (s4.1.getD s4.2.1.toNat zTp).1.toNat ([]:List Int)).getD (s4.1.getD s4.2.1.toNat zTp).2.1.toNat 0≥(s2.2.2.2.2.2.2.1.1.length:Int)),())):Option ((Bool×Unit)⊕((List (List Int)×List Int×List Int×List Bool×List Int×Int×List (List Int)×Unit)×Unit))).bind fun q=>match q with
     | .inr r7=>some r7
     | .inl s6=>
      bif s6.1 then
       rec5 (s4.1.set s4.2.1.toNat ((s4.1.getD s4.2.1.toNat zTp).1,IntKind.i64.wrap (((s4.1.getD s4.2.1.toNat zTp).2.1)+1),()),((s4.2.1.toNat:Int),s4.2.2.1,()))
      else bif decide (0≤(s2.2.2.2.2.2.2.1.1.getD (s4.1.getD s4.2.1.toNat zTp).1.toNat ([]:List Int)).getD (s4.1.getD s4.2.1.toNat zTp).2.1.toNat 0)&&decide ((s2.2.2.2.2.2.2.1.1.getD (s4.1.getD s4.2.1.toNat zTp).1.toNat ([]:List Int)).getD (s4.1.getD s4.2.1.toNat zTp).2.1.toNat 0<s2.2.1.length) then
       bif (s2.2.1.getD ((s2.2.2.2.2.2.2.1.1.getD (s4.1.getD s4.2.1.toNat zTp).1.toNat ([]:List Int)).getD (s4.1.getD s4.2.1.toNat zTp).2.1.toNat 0).toNat 0)==0 then
        bif decide ((s4.1.set s4.2.1.toNat ((s4.1.getD s4.2.1.toNat zTp).1,IntKind.i64.wrap (((s4.1.getD s4.2.1.toNat zTp).2.1)+1),())).length+[((s2.2.2.2.2.2.2.1.1.getD (s4.1.getD s4.2.1.toNat zTp).1.toNat ([]:List Int)).getD (s4.1.getD s4.2.1.toNat zTp).2.1.toNat 0,((0:Int),()))].length<rowMax)&&true then
         (aAr (s2.2.2.2.2.2.2.1.1,s2.2.1,s4.2.2.1,s2.2.2.2.1,s2.2.2.2.2.1,s2.2.2.2.2.2.2.1.2.2.2.2.2.1,s2.2.2.2.2.2.1,()) ((s2.2.2.2.2.2.2.1.1.getD (s4.1.getD s4.2.1.toNat zTp).1.toNat ([]:List Int)).getD (s4.1.getD s4.2.1.toNat zTp).2.1.toNat 0)).bind fun r8=>
         rec3 ((s4.1.set s4.2.1.toNat ((s4.1.getD s4.2.1.toNat zTp).1,IntKind.i64.wrap (((s4.1.getD s4.2.1.toNat zTp).2.1)+1),()))++[((s2.2.2.2.2.2.2.1.1.getD (s4.1.getD s4.2.1.toNat zTp).1.toNat ([]:List Int)).getD (s4.1.getD s4.2.1.toNat zTp).2.1.toNat 0,((0:Int),()))],r8.1.2.1,r8.1.2.2.1,r8.1.2.2.2.1,r8.1.2.2.2.2.1,r8.1.2.2.2.2.2.2.1,(r8.1.1,(),(),(),(),r8.1.2.2.2.2.2.1,(),()),())
        else none
       else bif decide (0≤(s2.2.2.2.2.2.2.1.1.getD (s4.1.getD s4.2.1.toNat zTp).1.toNat ([]:List Int)).getD (s4.1.getD s4.2.1.toNat zTp).2.1.toNat 0)&&decide ((s2.2.2.2.2.2.2.1.1.getD (s4.1.getD s4.2.1.toNat zTp).1.toNat ([]:List Int)).getD (s4.1.getD s4.2.1.toNat zTp).2.1.toNat 0<s2.2.2.2.1.length) then
        bif s2.2.2.2.1.getD ((s2.2.2.2.2.2.2.1.1.getD (s4.1.getD s4.2.1.toNat zTp).1.toNat ([]:List Int)).getD (s4.1.getD s4.2.1.toNat zTp).2.1.toNat 0).toNat false then
         bif decide (0≤((s4.1.set s4.2.1.toNat ((s4.1.getD s4.2.1.toNat zTp).1,IntKind.i64.wrap (((s4.1.getD s4.2.1.toNat zTp).2.1)+1),())).getD s4.2.1.toNat zTp).1)&&decide (((s4.1.set s4.2.1.toNat ((s4.1.getD s4.2.1.toNat zTp).1,IntKind.i64.wrap (((s4.1.getD s4.2.1.toNat zTp).2.1)+1),())).getD s4.2.1.toNat zTp).1<s4.2.2.1.length) then
          bif decide (0≤(s2.2.2.2.2.2.2.1.1.getD (s4.1.getD s4.2.1.toNat zTp).1.toNat ([]:List Int)).getD (s4.1.getD s4.2.1.toNat zTp).2.1.toNat 0)&&decide ((s2.2.2.2.2.2.2.1.1.getD (s4.1.getD s4.2.1.toNat zTp).1.toNat ([]:List Int)).getD (s4.1.getD s4.2.1.toNat zTp).2.1.toNat 0<s2.2.1.length) then
           bif decide (0≤((s4.1.set s4.2.1.toNat ((s4.1.getD s4.2.1.toNat zTp).1,IntKind.i64.wrap (((s4.1.getD s4.2.1.toNat zTp).2.1)+1),())).getD s4.2.1.toNat zTp).1)&&decide (((s4.1.set s4.2.1.toNat ((s4.1.getD s4.2.1.toNat zTp).1,IntKind.i64.wrap (((s4.1.getD s4.2.1.toNat zTp).2.1)+1),())).getD s4.2.1.toNat zTp).1<s4.2.2.1.length) then
            rec5 (s4.1.set s4.2.1.toNat ((s4.1.getD s4.2.1.toNat zTp).1,IntKind.i64.wrap (((s4.1.getD s4.2.1.toNat zTp).2.1)+1),()),((s4.2.1.toNat:Int),s4.2.2.1.set ((s4.1.set s4.2.1.toNat ((s4.1.getD s4.2.1.toNat zTp).1,IntKind.i64.wrap (((s4.1.getD s4.2.1.toNat zTp).2.1)+1),())).getD s4.2.1.toNat zTp).1.toNat (min (s4.2.2.1.getD ((s4.1.set s4.2.1.toNat ((s4.1.getD s4.2.1.toNat zTp).1,IntKind.i64.wrap (((s4.1.getD s4.2.1.toNat zTp).2.1)+1),())).getD s4.2.1.toNat zTp).1.toNat 0) (s2.2.1.getD ((s2.2.2.2.2.2.2.1.1.getD (s4.1.getD s4.2.1.toNat zTp).1.toNat ([]:List Int)).getD (s4.1.getD s4.2.1.toNat zTp).2.1.toNat 0).toNat 0)),()))
           else none
          else none
         else none
        else rec5 (s4.1.set s4.2.1.toNat ((s4.1.getD s4.2.1.toNat zTp).1,IntKind.i64.wrap (((s4.1.getD s4.2.1.toNat zTp).2.1)+1),()),((s4.2.1.toNat:Int),s4.2.2.1,()))
       else none
      else none
    else none
   else none
  else bif decide ((0:Int)≤IntKind.i64.wrap ((s4.1.length:Int) - 1))&&decide (IntKind.i64.wrap ((s4.1.length:Int) - 1)≤(s4.1.length:Int))&&true then
   (aAo (s2.2.2.2.2.2.2.1.1,s2.2.1,s4.2.2.1,s2.2.2.2.1,s2.2.2.2.2.1,s2.2.2.2.2.2.2.1.2.2.2.2.2.1,s2.2.2.2.2.2.1,()) (s4.1.getD s4.2.1.toNat zTp).1).bind fun r9=>
   bif decide ((((s4.1.take (IntKind.i64.wrap ((s4.1.length:Int) - 1)).toNat).drop 0).length:Int)>0) then
    bif decide (0≤IntKind.i64.wrap ((((s4.1.take (IntKind.i64.wrap ((s4.1.length:Int) - 1)).toNat).drop 0).length:Int) - 1))&&decide (IntKind.i64.wrap ((((s4.1.take (IntKind.i64.wrap ((s4.1.length:Int) - 1)).toNat).drop 0).length:Int) - 1)<((s4.1.take (IntKind.i64.wrap ((s4.1.length:Int) - 1)).toNat).drop 0).length) then
     bif decide (0≤(((s4.1.take (IntKind.i64.wrap ((s4.1.length:Int) - 1)).toNat).drop 0).getD (IntKind.i64.wrap ((((s4.1.take (IntKind.i64.wrap ((s4.1.length:Int) - 1)).toNat).drop 0).length:Int) - 1)).toNat zTp).1)&&decide ((((s4.1.take (IntKind.i64.wrap ((s4.1.length:Int) - 1)).toNat).drop 0).getD (IntKind.i64.wrap ((((s4.1.take (IntKind.i64.wrap ((s4.1.length:Int) - 1)).toNat).drop 0).length:Int) - 1)).toNat zTp).1<r9.1.2.2.1.length) then
      bif decide (0≤(s4.1.getD s4.2.1.toNat zTp).1)&&decide ((s4.1.getD s4.2.1.toNat zTp).1<r9.1.2.2.1.length) then
       bif decide (0≤(((s4.1.take (IntKind.i64.wrap ((s4.1.length:Int) - 1)).toNat).drop 0).getD (IntKind.i64.wrap ((((s4.1.take (IntKind.i64.wrap ((s4.1.length:Int) - 1)).toNat).drop 0).length:Int) - 1)).toNat zTp).1)&&decide ((((s4.1.take (IntKind.i64.wrap ((s4.1.length:Int) - 1)).toNat).drop 0).getD (IntKind.i64.wrap ((((s4.1.take (IntKind.i64.wrap ((s4.1.length:Int) - 1)).toNat).drop 0).length:Int) - 1)).toNat zTp).1<r9.1.2.2.1.length) then
        rec3 ((s4.1.take (IntKind.i64.wrap ((s4.1.length:Int) - 1)).toNat).drop 0,r9.1.2.1,(r9.1.2.2.1.set (((s4.1.take (IntKind.i64.wrap ((s4.1.length:Int) - 1)).toNat).drop 0).getD (IntKind.i64.wrap ((((s4.1.take (IntKind.i64.wrap ((s4.1.length:Int) - 1)).toNat).drop 0).length:Int) - 1)).toNat zTp).1.toNat (min (r9.1.2.2.1.getD (((s4.1.take (IntKind.i64.wrap ((s4.1.length:Int) - 1)).toNat).drop 0).getD (IntKind.i64.wrap ((((s4.1.take (IntKind.i64.wrap ((s4.1.length:Int) - 1)).toNat).drop 0).length:Int) - 1)).toNat zTp).1.toNat 0) (r9.1.2.2.1.getD (s4.1.getD s4.2.1.toNat zTp).1.toNat 0)),r9.1.2.2.2.1,r9.1.2.2.2.2.1,r9.1.2.2.2.2.2.2.1,(r9.1.1,(),(),(),(),r9.1.2.2.2.2.2.1,(),()),()))
       else none
      else none
     else none
    else none
   else rec3 ((s4.1.take (IntKind.i64.wrap ((s4.1.length:Int) - 1)).toNat).drop 0,r9.1.2.1,r9.1.2.2.1,r9.1.2.2.2.1,r9.1.2.2.2.2.1,r9.1.2.2.2.2.2.2.1,(r9.1.1,(),(),(),(),r9.1.2.2.2.2.2.1,(),()),())
  else none
 else none
def sJ (fuel:Nat) (s2:List Tp×List Int×List Int×List Bool×List Int×List (List Int)×(List (List Int)×Unit×Unit×Unit×Unit×Int×Unit×Unit)×Unit) (rec3:(List Tp×List Int×List Int×List Bool×List Int×List (List Int)×(List (List Int)×Unit×Unit×Unit×Unit×Int×Unit×Unit)×Unit)→Option ((List (List Int)×List Int×List Int×List Bool×List Int×Int×List (List Int)×Unit)×Unit)):Option ((List (List Int)×List Int×List Int×List Bool×List Int×Int×List (List Int)×Unit)×Unit):=
 bif decide ((s2.1.length:Int)>0) then
  bif decide (0≤IntKind.i64.wrap ((s2.1.length:Int) - 1))&&decide (IntKind.i64.wrap ((s2.1.length:Int) - 1)<s2.1.length) then
   aD (wU s2 rec3) fuel (s2.1,(((IntKind.i64.wrap ((s2.1.length:Int) - 1)).toNat:Int),s2.2.2.1,()))
  else none
 else some ((s2.2.2.2.2.2.2.1.1,s2.2.1,s2.2.2.1,s2.2.2.2.1,s2.2.2.2.2.1,s2.2.2.2.2.2.2.1.2.2.2.2.2.1,s2.2.2.2.2.2.1,()),())
def uK (fuel:Nat) (f:List (List Int)×List Int×List Int×List Bool×List Int×Int×List (List Int)×Unit) (n:Int):Option ((List (List Int)×List Int×List Int×List Bool×List Int×Int×List (List Int)×Unit)×Unit):=
 (aAr f n).bind fun r1=>
 aD (sJ fuel) fuel (([(n,((0:Int),()))]:List Tp),r1.1.2.1,r1.1.2.2.1,r1.1.2.2.2.1,r1.1.2.2.2.2.1,r1.1.2.2.2.2.2.2.1,(r1.1.1,(),(),(),(),r1.1.2.2.2.2.2.1,(),()),())
def aAq (f:List (List Int)×List Int×List Int×List Bool×List Int×Int×List (List Int)×Unit) (n:Int):Option ((List (List Int)×List Int×List Int×List Bool×List Int×Int×List (List Int)×Unit)×Unit):=pick fun fuel=>uK fuel f n
theorem aX2 (f:List (List Int)×List Int×List Int×List Bool×List Int×Int×List (List Int)×Unit) (n:Int) (r) (h:aAq f n=some r):∃k,uK k f n=some r:=aGf h
def aOz (s:List Int):Option (List Int×Unit):=
 bif decide ((s.length:Int)=(s.length:Int))&&decide ((s.length:Int)=(s.length:Int))&&true then
  some (s,())
 else none
def aOB (s:List (List Int)):Option (List (List Int)×Unit):=
 bif decide ((s.length:Int)=(s.length:Int))&&decide ((s.length:Int)=(s.length:Int))&&true then
  some (s,())
 else none
def aBc (l:List (List Int)) (s1:Int×List Int×List Int×List Bool×List Int×List (List Int)×(List (List Int)×Unit×Unit×Unit×Unit×Int×Unit×Unit)×Unit) (rec2:(Int×List Int×List Int×List Bool×List Int×List (List Int)×(List (List Int)×Unit×Unit×Unit×Unit×Int×Unit×Unit)×Unit)→Option (List (List Int)×Unit)):Option (List (List Int)×Unit):=
 bif decide (s1.1<(l.length:Int)) then
  bif decide (0≤s1.1)&&decide (s1.1<s1.2.1.length) then
   bif (s1.2.1.getD s1.1.toNat 0)==0 then
    (aAq (s1.2.2.2.2.2.2.1.1,s1.2.1,s1.2.2.1,s1.2.2.2.1,s1.2.2.2.2.1,s1.2.2.2.2.2.2.1.2.2.2.2.2.1,s1.2.2.2.2.2.1,()) s1.1).bind fun r3=>
    rec2 (IntKind.i64.wrap (s1.1+1),r3.1.2.1,r3.1.2.2.1,r3.1.2.2.2.1,r3.1.2.2.2.2.1,r3.1.2.2.2.2.2.2.1,(r3.1.1,(),(),(),(),r3.1.2.2.2.2.2.1,(),()),())
   else rec2 (IntKind.i64.wrap (s1.1+1),s1.2.1,s1.2.2.1,s1.2.2.2.1,s1.2.2.2.2.1,s1.2.2.2.2.2.1,s1.2.2.2.2.2.2.1,())
  else none
 else some ((idL s1.2.2.2.2.2.1),())
def vU (fuel:Nat) (l:List (List Int)):Option (List (List Int)×Unit):=
 bif decide (0≤(l.length:Int))&&decide ((l.length:Int)≤(l.length:Int))&&decide ((l.length:Int)<(rowMax:Int)) then
  bif decide (0≤(l.length:Int))&&decide ((l.length:Int)≤(l.length:Int))&&decide ((l.length:Int)<(rowMax:Int)) then
   bif decide (0≤(l.length:Int))&&decide ((l.length:Int)≤(l.length:Int))&&decide ((l.length:Int)<(rowMax:Int)) then
    aD (aBc l) fuel ((0:Int),(List.replicate l.length (0:Int),(List.replicate l.length (0:Int),List.replicate l.length false,(([]:List Int),(([]:List (List Int)),(l,(),(),(),(),((0:Int),(),())),())))))
   else none
  else none
 else none
def nK (l:List (List Int)):Option (List (List Int)×Unit):=pick fun fuel=>vU fuel l
theorem aSu (l:List (List Int)) (r) (h:nK l=some r):∃k,vU k l=some r:=aGf h
end
end Go.Pli

namespace Go.Pli
open Go Go.PM
abbrev Sh:=Bool×List Tp×Unit
abbrev zSh:Sh:=(false,[],())
abbrev Iq:=List Int×Int×Unit
abbrev zIq:Iq:=([],0,())
def aM (m:Im):Bool:=bI m&&kL m
def dK (l:List (List Sh)):Bool:=okL l&&l.all fun h=>okL h&&h.all fun s=>okL s.2.1
def aAi (_:Unit) (n:Int):Option (List Tp×Unit):=bif decide (0≤n)&&Nat.blt n.toNat 1000000000 then some ([],()) else none
def qT (l:List (List Tp)):Option (List Tp×Unit):=bif Nat.blt l.flatten.length 1000000000&&okL l then some (l.flatten,()) else none
def aD0 (s:List Int) (v:Int):Int:=lM (fun x=>v==x) 0 s
def uQ (s:List Int) (v:Int):Bool:=s.contains v
def cup (m:Im) (c:Int):Option (Int×Unit):=bif sin c (m.1.length:Int) then some (kup m.1 c,()) else none
def eL (m:Im) (c:Int):List Tp:=(((cP m.1 c).reverse).map fun s=>(bF m s).2.1).flatten
def sQ (m:Im) (c:Int):Option (List Tp×Unit):=bif bI m then some (eL m c,()) else none
def tL (m:Im) (c:Int):Int:=((1+(eL m c).length:Nat):Int)
def aAv (m:Im) (c:Int):Option (Int×Unit):=bif bI m then some (tL m c,()) else none
def oV (x:Mt) (n:Int):Tp:=bif decide (n<0) then zTp else (x.1++x.2.1).getD n.toNat zTp
def xD (x:Mt) (n:Int):Option (Tp×Unit):=bif okL x.1&&okL x.2.1 then some (oV x n,()) else none
def gD (l:List Cl) (a b:Tp):Tp:=
 bif cN l a b then b else bif cN l b a then a else bif a.1 !=3 || b.1 !=3 then zTp else
 match (cI l (kup l a.2.1)).find? fun c=>dL l b.2.1 c with
 | some c=>(3,c,())
 | none=>zTp
def wM (l:List Cl) (a b:Tp):Option (Tp×Unit):=some (gD l a b,())
def oR (o:Int):Bool:=decide (o≥7)&&decide (o≤17)
abbrev tI:Tp:=(1,0,())
abbrev tA:Tp:=(2,0,())
abbrev tN:Tp:=(4,0,())
abbrev tR (c:Int):Tp:=(3,c,())
abbrev Eff:=List Tp×List Tp×Unit
def fO (o:Int):Eff×Bool×Unit:=
 bif o==2 then (([],[tN],()),true,())
 else bif o==5 then (([zTp],[],()),true,())
 else bif o==20 then (([tN],[tI],()),true,())
 else bif o==21 then (([tN,tN],[tI],()),true,())
 else bif o==24 then (([tA,tI],[tI],()),true,())
 else bif o==25 then (([tA,tI,tI],[],()),true,())
 else bif o==26 then (([tA],[tI],()),true,())
 else bif o==1 then (([],[tI],()),true,())
 else bif o==19 then (([tI],[],()),true,())
 else bif o==18 then (([],[],()),true,())
 else bif o==23 then (([tI],[tA],()),true,())
 else bif oR o then (([tI,tI],[tI],()),true,())
 else (([],[],()),false,())
def mU (x:Mt) (t:List Tp):Eff:=(t++x.1.drop t.length,bif x.2.2.1.1 !=5 then[x.2.2.1] else[],())
def wV (x:Mt) (t:List Tp):Option (Eff×Unit):=bif okL x.1&&(okL t&&decide (t.length≤x.1.length)) then some (mU x t,()) else none
def gL (m:Im) (x:Mt) (i:Ins):Eff:=
 bif (fO i.1).2.1 then (fO i.1).1
 else bif i.1==3 then ([],[oV x i.2.1],())
 else bif i.1==4 then ([oV x i.2.1],[],())
 else bif i.1==22 then ([],[tR i.2.1],())
 else bif i.1==27 then ([tR i.2.1],[(eL m i.2.1).getD i.2.2.1.toNat zTp],())
 else bif i.1==28 then ([tR i.2.1,(eL m i.2.1).getD i.2.2.1.toNat zTp],[],())
 else bif i.1==29 then ([],[m.2.1.getD i.2.1.toNat zTp],())
 else bif i.1==30 then ([m.2.1.getD i.2.1.toNat zTp],[],())
 else bif i.1==31 then mU (aE m i.2.1) []
 else bif i.1==32 then mU (aE m (eS m i.2.1 i.2.2.1).1) [tR i.2.1]
 else bif i.1==34 then ([tN],[tR i.2.1],())
 else bif i.1==33 then (bif x.2.2.1.1 !=5 then ([x.2.2.1],[],()) else ([],[],()))
 else ([],[],())
def fof (m:Im) (i:Ins) (f:Int):Option (Eff×Unit):=bif aM m&&(inM m f&&cL m (aE m f) i) then some (gL m (aE m f) i,()) else none
def eX (m:Im) (o:Int) (t w:Tp):Bool:=bif w.1==0 then true else bif w.1==4 then jY t&&(o !=34 || t.1 !=2) else cN m.1 t w
def eV (i:Ins) (pc:Int):List Int:=
 bif i.1==18 then[i.2.1] else bif i.1==19 then[IntKind.i64.wrap (pc+1),i.2.1] else bif i.1==33 then[] else[IntKind.i64.wrap (pc+1)]
def aN (m:Im) (f pc:Int):Ins:=(aE m f).2.2.2.1.getD pc.toNat cC
def aI (m:Im) (f:Int):Nat:=(aE m f).2.2.2.1.length
abbrev St4:=List Tp×List Int×Int×Unit
def pQ (m:Im) (i:Ins) (e:Eff) (s:List Tp) (nx:List Int):St4:=
 bif decide (s.length<e.1.length) || decide (s.length - e.1.length+e.2.1.length>8) then ([],[],4,())
 else bif ((s.drop (s.length - e.1.length)).zip e.1).all fun p=>eX m i.1 p.1 p.2 then (s.take (s.length - e.1.length)++e.2.1,nx,0,())
 else ([],[],4,())
def aW (m:Im) (f pc:Int) (s:List Tp):St4:=
 bif !(inM m f&&sin pc (aI m f:Int)) then ([],[],1,())
 else bif (eV (aN m f pc) pc).contains (aI m f:Int) then ([],[],4,())
 else bif (aN m f pc).1==6 then (bif decide (s.length=0) || decide (s.length≥8) then ([],[],4,()) else (s++s.drop (s.length - 1),eV (aN m f pc) pc,0,()))
 else pQ m (aN m f pc) (gL m (aE m f) (aN m f pc)) s (eV (aN m f pc) pc)
def sH (m:Im) (f pc:Int) (s:List Tp):Option St4:=bif aM m&&okL s then some (aW m f pc s) else none
def bY (l:List Cl) (a s:List Tp):List Tp:=(a.zip s).map fun p=>gD l p.1 p.2
def cQ (l:List Cl) (o:Sh) (s:List Tp):Sh×Bool×Bool×Unit:=
 bif !o.1 then ((true,s,()),true,true,())
 else bif decide (o.2.1.length≠s.length) then (o,false,false,())
 else bif (bY l o.2.1 s).any fun t=>t.1==0 then (o,false,false,())
 else ((true,bY l o.2.1 s,()),!(bY l o.2.1 s==o.2.1),true,())
def xX (m:Im) (o:Sh) (s:List Tp):Option (Sh×Bool×Bool×Unit):=bif okL s then some (cQ m.1 o s) else none
def fK (l:List Cl) (a:List Tp):List Int→List Sh→List Bool→Bool×List Sh×List Bool×Unit
 | [],h,q=>(true,h,q,())
 | to::r,h,q=>
  bif !(cQ l (h.getD to.toNat zSh) a).2.2.1 then (false,h,q,())
  else bif (cQ l (h.getD to.toNat zSh) a).2.1 then fK l a r (h.set to.toNat (cQ l (h.getD to.toNat zSh) a).1) (q.set to.toNat true)
  else fK l a r h q
def jQ (m:Im) (f pc:Int) (h:List Sh) (q:List Bool):Bool×List Sh×List Bool×Unit:=
 bif (aW m f pc (h.getD pc.toNat zSh).2.1).2.2.1 !=0 then (false,h,q,())
 else fK m.1 (aW m f pc (h.getD pc.toNat zSh).2.1).1 (aW m f pc (h.getD pc.toNat zSh).2.1).2.1 h q
def rU (m:Im) (f pc:Int) (h:List Sh) (q:List Bool):Bool:=
 aM m&&(inM m f&&(sin pc (aI m f:Int)&&(decide (h.length=aI m f)&&(decide (q.length=aI m f)&&h.all fun s=>okL s.2.1))))
def nD (m:Im) (f pc:Int) (h:List Sh) (q:List Bool):Option (Bool×List Sh×List Bool×Unit):=bif rU m f pc h q then some (jQ m f pc h q) else none
def mZ (m:Im) (f:Int):Nat→List Sh→List Bool→Option (List Sh×Int×Int×Unit)
 | 0,_,_=>none
 | n+1,h,q=>bif q.any id then (nD m f (q.findIdx id:Int) h (q.set (q.findIdx id) false)).bind fun r=>
   bif !r.1 then some ([],(q.findIdx id:Int),4,()) else mZ m f n r.2.1 r.2.2.1
  else some (h,0,0,())
def nE (m:Im) (f:Int):Option (List Sh×Int×Int×Unit):=
 bif aM m&&inM m f then mZ m f (100*aI m f+2) ((List.replicate (aI m f) zSh).set 0 (true,[],())) ((List.replicate (aI m f) false).set 0 true) else none
def qU (m:Im):List Int→List (List Sh)→Option (List (List Sh)×Int×Int×Int×Unit)
 | [],out=>some (out,0,0,0,())
 | f::l,out=>(nE m f).bind fun r=>bif r.2.2.1 !=0 then some ([],f,r.2.1,r.2.2.1,()) else qU m l (out++[r.1])
def nF (m:Im):Option (List (List Sh)×Int×Int×Int×Unit):=bif aM m then qU m (ints m.2.2.2.1.length) [] else none
def gC (l:List Int):Int:=l.foldl max 0
def sN (l:List (List Sh)) (f:Int):Int:=bif sin f (l.length:Int) then gC ((l.getD f.toNat []).map fun s=>(s.2.1.length:Int)) else 0
def xZ (l:List (List Sh)) (f:Int):Option (Int×Unit):=bif dK l then some (sN l f,()) else none
def uJ (m:Im) (l:List (List Sh)) (f:Int):Int:=bif inM m f then ((3+(aE m f).1.length+(aE m f).2.1.length:Nat):Int)+sN l f else 0
def xB (to:Int) (part:List Int):Bool:=part.contains to
def aD2 (l:List Int) (c:List Int×Unit):Int:=lM (fun x=>xB x c.1) 0 l
def aB6 (l:List Int) (c:List Int×Unit):Bool:=l.any fun x=>xB x c.1
def iO (l:List (List Int)) (part:List Int):Bool:=part.any fun k=>sin k (l.length:Int)&&(l.getD k.toNat []).any fun to=>part.contains to
def aAu (l:List (List Int)) (part:List Int):Option (Bool×Unit):=bif okL part then some (iO l part,()) else none
def xG (part out:List Int):List Int→Int→Int
 | [],b=>b
 | to::r,b=>xG part out r (bif !part.contains to&&decide (to<(out.length:Int)) then max b (out.getD to.toNat 0) else b)
def mI (m:Im) (l:List (List Sh)) (ed:List (List Int)) (part out:List Int) (cyc:Bool):List Int→Int→Int→Option (Int×Int)
 | [],a,b=>some (a,b)
 | f::r,a,b=>bif decide ((bif cyc then (aE m f).2.2.2.2.1 else 1)<1) then none
  else mI m l ed part out cyc r (IntKind.i64.wrap (a+IntKind.i64.wrap ((bif cyc then (aE m f).2.2.2.2.1 else 1)*uJ m l f))) (xG part out (ed.getD f.toNat []) b)
def kK (v:Int):List Int→List Int→List Int
 | [],out=>out
 | f::r,out=>kK v r (out.set f.toNat v)
def nJ (m:Im) (l:List (List Sh)) (ed:List (List Int)):List (List Int)→List Int→List Int×Int×Unit
 | [],out=>(out,0,())
 | part::ps,out=>match mI m l ed part out (iO ed part) part 0 0 with
  | none=>([],5,())
  | some a=>nJ m l ed ps (kK (IntKind.i64.wrap (a.1+a.2)) part out)
def eF (m:Im):List (List Int):=(ints m.2.2.2.1.length).map (ofB m)
def wZ (m:Im):Bool:=(eF m).all fun e=>okL e&&e.all (inM m)
noncomputable def sO (m:Im) (l:List (List Sh)):Option (List Int×Int×Unit):=bif aM m&&(dK l&&wZ m) then (nK (eF m)).bind fun r=>bif okL r.1&&r.1.all (fun p=>okL p&&p.all (inM m)) then some (nJ m l (eF m) r.1 (List.replicate m.2.2.2.1.length 0)) else none else none
def inU (x:Int):Bool:=decide (0≤x)&&decide (x≤18446744073709551615)
def zL (x y:Int):Option (Int×Int×Unit):=bif inU x&&inU y then some (x*y/18446744073709551616,x*y % 18446744073709551616,()) else none
abbrev Sure:=Int×Bool×Unit
def lof (n:Int):Sure:=(n,decide (n> -4611686018427387904)&&decide (n<4611686018427387904),())
def eR (n:Int):Int:=bif decide (n<0) then IntKind.u64.wrap (IntKind.i64.wrap (0 - n)) else IntKind.u64.wrap n
def zF (a b:Sure):Sure:=bif a.2.1&&b.2.1 then lof (IntKind.i64.wrap (a.1+b.1)) else (0,false,())
def aBF (a b:Sure):Option (Sure×Unit):=some (zF a b,())
def xY (a b:Sure):Sure:=
 bif a.2.1&&b.2.1 then (bif decide (eR a.1*eR b.1/18446744073709551616≠0) || decide (eR a.1*eR b.1 % 18446744073709551616≥4611686018427387904) then (0,false,()) else lof (IntKind.i64.wrap (a.1*b.1))) else (0,false,())
def aBE (a b:Sure):Option (Sure×Unit):=some (xY a b,())
def oH:List (Int×Int)→Sure→Sure
 | [],a=>a
 | p::r,a=>oH r (zF a (xY (lof p.1) (lof p.2)))
def aD8 (most:Int) (s:Sure):Bool×Int×Unit:=bif !s.2.1 then (false,14,()) else (decide (s.1≤most),0,())
def pB (q:Iq) (v:List Int):Bool×Int×Unit:=bif decide (q.1.length≠v.length) then (false,14,()) else aD8 q.2.1 (oH (q.1.zip v) (lof 0))
def zY (q:Iq) (v:List Int):Option (Bool×Int×Unit):=bif okL q.1 then some (pB q v) else none
def dJ (l:List (List Sh)) (f pc:Int):Sh:=(l.getD f.toNat []).getD pc.toNat zSh
def zC (l:List (List Sh)) (f pc:Int):Option (Sh×Unit):=bif decide (0≤f)&&decide (0≤pc) then some (dJ l f pc,()) else none
def eE (m:Im) (f:Int):Int:=(aE m f).2.2.2.2.2.1
def qS (m:Im) (i:Ins):Int:=
 bif i.1==22 then tL m i.2.1 else bif i.1==23 then IntKind.i64.wrap (1+max 0 (min i.2.1 255)) else gC (((cT m i).filter (inM m)).map (eE m))
def zG (m:Im) (i:Ins):Option (Int×Unit):=bif bI m then some (qS m i,()) else none
def jN (z:List Int) (a d:Int):List Int:=bif decide (a≥0) then z.set a.toNat (IntKind.i64.wrap (z.getD a.toNat 0+d)) else z
def eP (n a b c:Int):Iq:=(jN (jN (List.replicate n.toNat 0) a (-1)) b 1,c,())
def tY (n a b c:Int):Option (Iq×Unit):=bif decide (0≤n)&&(Nat.blt n.toNat 1000000&&(decide (a<n)&&decide (b<n))) then some (eP n a b c,()) else none
def nI (m:Im) (l:List (List Sh)) (f pc:Int):List Iq:=
 bif !(dJ l f pc).1 then[] else
 bif (aW m f pc (dJ l f pc).2.1).2.2.1 !=0 then[] else
 (bif decide ((aW m f pc (dJ l f pc).2.1).2.1.length=0) then[eP (aI m f:Int) pc (-1) 0] else[])++
 (aW m f pc (dJ l f pc).2.1).2.1.map fun to=>eP (aI m f:Int) pc to (IntKind.i64.wrap (0 - qS m (aN m f pc)))
def mB (m:Im) (l:List (List Sh)) (f:Int):List Iq:=
 bif inM m f then eP (aI m f:Int) (-1) 0 (eE m f)::((List.range (aI m f)).map fun k:Nat=>nI m l f (k:Int)).flatten else[]
def zD (m:Im) (l:List (List Sh)) (f:Int):Option (List Iq×Unit):=bif aM m&&dK l then some (mB m l f,()) else none
def rW (n:Int):Bool:=decide (n<0)
def aDY (l:List Int) (_:Unit):Int:=lM rW 0 l
def aB4 (l:List Int) (_:Unit):Bool:=l.any rW
def eA (m:Im) (f:Int):List Int:=(aE m f).2.2.2.2.2.2.1
def qK (m:Im) (f:Int) (q:Iq):Bool:=decide ((pB q (eA m f)).2.1=0)&&(pB q (eA m f)).1
def qA (m:Im) (l:List (List Sh)):List Int→Int×Int×Unit
 | []=>(0,0,())
 | f::r=>bif (mB m l f).all (qK m f) then (bif (eA m f).any rW then (f,6,()) else qA m l r) else (f,6,())
def tZ (m:Im) (l:List (List Sh)):Option (Int×Int×Unit):=bif aM m&&dK l then some (qA m l (ints m.2.2.2.1.length)) else none
def eW (m:Im) (bd:List Int):List Int→Int→Int→Int×Int
 | [],s,h=>(s,h)
 | f::r,s,h=>bif decide (f≥0)&&decide (f<(bd.length:Int)) then eW m bd r (max s (bd.getD f.toNat 0)) (max h (eE m f)) else eW m bd r s h
def aDG (m:Im) (r:List Int×Int×Unit):Int×Int×Int×Unit:=
 bif r.2.1 !=0 then (0,0,r.2.1,()) else ((eW m r.1 m.2.2.2.2.1 0 0).1,IntKind.i64.wrap ((m.2.1.length:Int)+(eW m r.1 m.2.2.2.2.1 0 0).2),0,())
noncomputable def pH (m:Im) (l:List (List Sh)):Option (Int×Int×Int×Unit):=bif aM m then (sO m l).bind fun r=>some (aDG m r) else none
def nN (m:Im) (i:Ins):Int:=bif i.1==22 then tL m i.2.1 else bif i.1==23 then IntKind.i64.wrap (1+i.2.1) else gC ((cT m i).map (eE m))
def vZ (m:Im) (i:Ins):Option (Int×Unit):=bif bI m&&(cT m i).all (inM m) then some (nN m i,()) else none
def pW (a b:List (List Sh)):Option (Bool×Unit):=bif dK a&&dK b then some (a==b,()) else none
def aA2 (m:Im):Bool:=decide (aIF m≤100)&&m.2.2.2.1.all fun x=>decide (x.1.length+x.2.1.length+x.2.2.2.1.length+x.2.2.2.2.2.2.1.length≤300)
end Go.Pli

namespace Go.Pli
open Go Go.PM
def yM (l:List Cl) (a b:Tp):Option (Tp×Unit):=bif okL l then some (gD l a b,()) else none
def rR (m:Im) (f pc:Int) (s:List Tp):Option St4:=bif aM m&&okL s then some (aW m f pc s) else none
def mP (l:List Cl) (a:List Tp):List Int→Bool→List Sh→Option (Bool×List Sh)
 | [],t,h=>some (t,h)
 | to::r,t,h=>
  bif !(cQ l (h.getD to.toNat zSh) a).2.2.1 then none
  else bif (cQ l (h.getD to.toNat zSh) a).2.1 then mP l a r true (h.set to.toNat (cQ l (h.getD to.toNat zSh) a).1)
  else mP l a r t h
def qL (m:Im) (f:Int) (pc:Nat) (t:Bool) (h:List Sh):Option (Bool×List Sh):=
 bif !(h.getD pc zSh).1 then some (t,h)
 else bif (aW m f (pc:Int) (h.getD pc zSh).2.1).2.2.1 !=0 then none
 else mP m.1 (aW m f (pc:Int) (h.getD pc zSh).2.1).1 (aW m f (pc:Int) (h.getD pc zSh).2.1).2.1 t h
def kU (m:Im) (f:Int):Nat→Bool→List Sh→Option (Bool×List Sh)
 | 0,t,h=>some (t,h)
 | pc+1,t,h=>(qL m f pc t h).bind fun r=>kU m f pc r.1 r.2
def iU (m:Im) (f:Int):Nat→List Sh→List Sh×Bool×Unit
 | 0,_=>([],false,())
 | n+1,h=>match kU m f (aI m f) false h with
  | none=>([],false,())
  | some r=>bif r.1 then iU m f n r.2 else (r.2,true,())
def iT (m:Im) (f:Int):List Sh:=(List.replicate (aI m f) zSh).set 0 (true,[],())
def yR (m:Im) (f:Int):Option (List Sh×Bool×Unit):=bif aM m&&inM m f then some (iU m f 4000 (iT m f)) else none
def xJ (m:Im):List Int→List (List Sh)→List (List Sh)×Int×Unit
 | [],out=>(out,-1,())
 | f::l,out=>bif (iU m f 4000 (iT m f)).2.1 then xJ m l (out++[(iU m f 4000 (iT m f)).1]) else ([],f,())
def pX (m:Im):Option (List (List Sh)×Int×Unit):=bif aM m then some (xJ m (ints m.2.2.2.1.length) []) else none
end Go.Pli

namespace Go.Pli
open Go Go.PM
def yT (m:Im) (l:List (List Sh)) (f:Int):Option (Int×Unit):=bif aM m&&dK l then some (uJ m l f,()) else none
def kW (W:Nat→Nat→Bool) (out:List Int) (g:Int):List Int→Int→Int
 | [],b=>b
 | to::r,b=>kW W out g r (bif !W to.toNat g.toNat&&decide (out.getD to.toNat 0>b) then out.getD to.toNat 0 else b)
def jR (m:Im) (l:List (List Sh)) (W:Nat→Nat→Bool) (f:Int) (out:List Int):List Int→Int→Int→Int×Int
 | [],a,b=>(a,b)
 | g::r,a,b=>bif g !=f&& !(W f.toNat g.toNat&&W g.toNat f.toNat) then jR m l W f out r a b
  else jR m l W f out r (IntKind.i64.wrap (a+IntKind.i64.wrap ((bif W g.toNat g.toNat then (aE m g).2.2.2.2.1 else 1)*uJ m l g))) (kW W out g ((aR m).getD g.toNat []) b)
def nH (m:Im) (l:List (List Sh)) (W:Nat→Nat→Bool) (out:List Int) (f:Int):Int:=
 IntKind.i64.wrap ((jR m l W f out (ints m.2.2.2.1.length) 0 0).1+(jR m l W f out (ints m.2.2.2.1.length) 0 0).2)
def gG (m:Im) (l:List (List Sh)) (W:Nat→Nat→Bool):List Int→List Int→List Int
 | [],out=>out
 | f::r,out=>gG m l W r (out.set f.toNat (nH m l W out f))
def mE (m:Im) (l:List (List Sh)) (W:Nat→Nat→Bool):Nat→List Int→List Int
 | 0,out=>out
 | k+1,out=>mE m l W k (gG m l W (ints m.2.2.2.1.length) out)
def bP (m:Im):Nat→Nat→Bool:=cR (aR m) m.2.2.2.1.length
def kJ (m:Im):Bool:=(ints m.2.2.2.1.length).any fun f=>bP m f.toNat f.toNat&&decide ((aE m f).2.2.2.2.1<1)
def nU (m:Im) (l:List (List Sh)):List Int×Bool×Unit:=
 bif kJ m then ([],false,()) else (mE m l (bP m) m.2.2.2.1.length (List.replicate m.2.2.2.1.length 0),true,())
def rS (m:Im) (l:List (List Sh)):Option (List Int×Bool×Unit):=bif aM m&&(dK l&&(rJ m&&tJ (aR m))) then some (nU m l) else none
end Go.Pli

namespace Go.Pli
open Go Go.PM
def aCc (m:Im) (l:List (List Sh)) (f:Int) (pc:Nat):Bool:=
 (dJ l f (pc:Int)).1&&(aW m f (pc:Int) (dJ l f (pc:Int)).2.1).2.1.any fun to=>decide ((eA m f).getD pc 0<IntKind.i64.wrap (nN m (aN m f (pc:Int))+(eA m f).getD to.toNat 0))
def sT (m:Im) (l:List (List Sh)) (f:Int):Bool:=decide ((eA m f).getD 0 0>eE m f) || (List.range (aI m f)).any (aCc m l f)
def zE (m:Im) (l:List (List Sh)):Int:=match (ints m.2.2.2.1.length).find? (sT m l) with
 | some f=>f
 | none=> -1
def aBD (m:Im) (l:List (List Sh)):Bool:=dK l&&(decide (l.length=m.2.2.2.1.length)&&(ints m.2.2.2.1.length).all fun f=>decide ((l.getD f.toNat []).length=aI m f))
def tW (m:Im) (l:List (List Sh)):Option (Int×Unit):=bif aM m&&aBD m l then some (zE m l,()) else none
def aDF (m:Im) (r:List Int×Bool×Unit):Int×Int×Bool×Unit:=
 bif r.2.1 then ((eW m r.1 m.2.2.2.2.1 0 0).1,IntKind.i64.wrap ((m.2.1.length:Int)+(eW m r.1 m.2.2.2.2.1 0 0).2),true,()) else (0,0,false,())
def tX (m:Im) (l:List (List Sh)):Option (Int×Int×Bool×Unit):=bif aM m then (rS m l).bind fun r=>some (aDF m r) else none
end Go.Pli

namespace Go.Pli
open Go Go.PM
noncomputable section
def aCA (l:List (List Sh)) (f:Int) (s1:Int×Int×Unit) (rec2:(Int×Int×Unit)→Option (Int×Unit)):Option (Int×Unit):=
 bif decide (s1.2.1<((l.getD f.toNat ([]:List Sh)).length:Int)) then
  bif decide (0≤s1.2.1)&&decide (s1.2.1<(l.getD f.toNat ([]:List Sh)).length) then
   rec2 (max s1.1 (((l.getD f.toNat ([]:List Sh)).getD s1.2.1.toNat zSh).2.1.length:Int),IntKind.i64.wrap (s1.2.1+1),())
  else none
 else some (s1.1,())
def aIT (fuel:Nat) (l:List (List Sh)) (f:Int):Option (Int×Unit):=
 bif decide (f<0) then
  some ((0:Int),())
 else bif decide (f≥(l.length:Int)) then
  some ((0:Int),())
 else bif decide (0≤f)&&decide (f<l.length) then
  aD (aCA l f) fuel ((0:Int),((0:Int),()))
 else none
def aEs (m:Im) (l:List (List Sh)) (f:Int):Option (Int×Unit):=
 bif decide (f<0) then
  some ((0:Int),())
 else bif decide (f≥(m.2.2.2.1.length:Int)) then
  some ((0:Int),())
 else bif decide (0≤f)&&decide (f<m.2.2.2.1.length) then
  (xZ l f).bind fun r1=>
  some (IntKind.i64.wrap ((IntKind.i64.wrap ((IntKind.i64.wrap ((3:Int)+((m.2.2.2.1.getD f.toNat zMt).1.length:Int)))+((m.2.2.2.1.getD f.toNat zMt).2.1.length:Int)))+r1.1),())
 else none
def aMV (_s:Unit) (n:Int):Option (List Tp×Unit):=
 bif decide (n<0) then
  none
 else bif decide (IntKind.i64.wrap (n - (IntKind.i64.wrap ((0:Int) - (([]:List Tp).length:Int))))>0) then
  bif decide (0<IntKind.i64.wrap (n - (IntKind.i64.wrap ((0:Int) - (([]:List Tp).length:Int)))))&&decide (IntKind.i64.wrap (n - (IntKind.i64.wrap ((0:Int) - (([]:List Tp).length:Int))))<(rowMax:Int)) then
   bif decide ((0:Int)≤(([]:List Tp).length:Int))&&decide ((([]:List Tp).length:Int)≤((List.replicate (IntKind.i64.wrap (n - (IntKind.i64.wrap ((0:Int) - (([]:List Tp).length:Int))))).toNat zTp).length:Int))&&true then
    some (((List.replicate (IntKind.i64.wrap (n - (IntKind.i64.wrap ((0:Int) - (([]:List Tp).length:Int))))).toNat zTp).take (([]:List Tp).length:Int).toNat).drop 0,())
   else none
  else none
 else some (([]:List Tp),())
def aEz (l:List (List Tp)) (s4:List Tp×Int×Unit) (rec5:(List Tp×Int×Unit)→Option (List Tp×Unit)):Option (List Tp×Unit):=
 bif decide (s4.2.1<(l.length:Int)) then
  bif decide (0≤s4.2.1)&&decide (s4.2.1<l.length) then
   bif decide (s4.1.length+(l.getD s4.2.1.toNat ([]:List Tp)).length<rowMax)&&true then
    rec5 (s4.1++(l.getD s4.2.1.toNat ([]:List Tp)),IntKind.i64.wrap (s4.2.1+1),())
   else none
  else none
 else some (s4.1,())
def aHV (l:List (List Tp)) (fuel:Nat) (s1:Int×Int×Unit) (rec2:(Int×Int×Unit)→Option (List Tp×Unit)):Option (List Tp×Unit):=
 bif decide (s1.2.1<(l.length:Int)) then
  bif decide (0≤s1.2.1)&&decide (s1.2.1<l.length) then
   bif decide (IntKind.i64.wrap (s1.1+((l.getD s1.2.1.toNat ([]:List Tp)).length:Int))<0) then
    none
   else rec2 (IntKind.i64.wrap (s1.1+((l.getD s1.2.1.toNat ([]:List Tp)).length:Int)),IntKind.i64.wrap (s1.2.1+1),())
  else none
 else
  (aAi () s1.1).bind fun r3=>
  aD (aEz l) fuel (r3.1,((0:Int),()))
def aOk (fuel:Nat) (l:List (List Tp)):Option (List Tp×Unit):=
 aD (aHV l fuel) fuel ((0:Int),((0:Int),()))
def aWq (s:List Int) (_v:Int):Prop:=(s.length≤lenMax∧∀x1:Int,x1∈s→True)∧True∧True
def aHf (s:List Int) (v:Int) (s1:Int×Unit) (rec2:(Int×Unit)→Option (Int×Unit)):Option (Int×Unit):=
 bif decide (s1.1<(s.length:Int)) then
  bif decide (0≤s1.1)&&decide (s1.1<s.length) then
   bif v==(s.getD s1.1.toNat 0) then
    some (s1.1,())
   else rec2 (IntKind.i64.wrap (s1.1+1),())
  else none
 else some ((-1:Int),())
def aWp (fuel:Nat) (s:List Int) (v:Int):Option (Int×Unit):=
 aD (aHf s v) fuel ((0:Int),())
def aY7 (s:List Int) (_v:Int):Prop:=(s.length≤lenMax∧∀x1:Int,x1∈s→True)∧True∧True
def aOd (s:List Int) (v:Int):Option (Bool×Unit):=
 some (decide ((aD0 s v)≥0),())
def aOw (s:List Iq):Option (List Iq×Unit):=
 bif decide ((s.length:Int)=(s.length:Int))&&decide ((s.length:Int)=(s.length:Int)) then
  some (s,())
 else none
def aOv (s:List (List Sh)):Option (List (List Sh)×Unit):=
 bif decide ((s.length:Int)=(s.length:Int))&&decide ((s.length:Int)=(s.length:Int)) then
  some (s,())
 else none
def aN2 (m:Im) (c:Int):Option (Int×Unit):=
 bif decide (0≤c)&&decide (c<m.1.length) then
  bif decide ((m.1.getD c.toNat zCl).1≥c) then
   some ((-1:Int),())
  else bif decide (0≤c)&&decide (c<m.1.length) then
   some ((m.1.getD c.toNat zCl).1,())
  else none
 else none
def aEG (m:Im) (s1:Int×List Tp×Unit) (rec2:(Int×List Tp×Unit)→Option (List Tp×Unit)):Option (List Tp×Unit):=
 bif decide (s1.1≥0) then
  bif decide (0≤s1.1)&&decide (s1.1<m.1.length) then
   (qT [(m.1.getD s1.1.toNat zCl).2.1,s1.2.1]).bind fun r3=>
   (cup m s1.1).bind fun r4=>
   rec2 (r4.1,r3.1,())
  else none
 else some (s1.2.1,())
def aON (fuel:Nat) (m:Im) (c:Int):Option (List Tp×Unit):=
 bif decide (c≥(m.1.length:Int)) then
  some (([]:List Tp),())
 else aD (aEG m) fuel (c,(([]:List Tp),()))
def aN8 (m:Im) (c:Int):Option (Int×Unit):=
 (sQ m c).bind fun r1=>
 some (IntKind.i64.wrap ((1:Int)+(r1.1.length:Int)),())
def aOr (x:Mt) (n:Int):Option (Tp×Unit):=
 bif decide (n<0) then
  some (((0:Int),((0:Int),())),())
 else bif decide (n≥IntKind.i64.wrap ((x.1.length:Int)+(x.2.1.length:Int))) then
  some (((0:Int),((0:Int),())),())
 else bif decide (n<(x.1.length:Int)) then
  bif decide (0≤n)&&decide (n<x.1.length) then
   some (x.1.getD n.toNat zTp,())
  else none
 else bif decide (0≤IntKind.i64.wrap (n - (x.1.length:Int)))&&decide (IntKind.i64.wrap (n - (x.1.length:Int))<x.2.1.length) then
  some (x.2.1.getD (IntKind.i64.wrap (n - (x.1.length:Int))).toNat zTp,())
 else none
def aDR (l:List Cl) (b:Tp) (s1:Int×Unit) (rec2:(Int×Unit)→Option (Tp×Unit)):Option (Tp×Unit):=
 bif decide (s1.1≥0) then
  bif (dL l b.2.1 s1.1) then
   some (((3:Int),s1.1,()),())
  else rec2 ((kup l s1.1),())
 else some (((0:Int),((0:Int),())),())
def aMp (fuel:Nat) (l:List Cl) (a:Tp) (b:Tp):Option (Tp×Unit):=
 bif (cN l a b) then
  some (b,())
 else bif (cN l b a) then
  some (a,())
 else bif a.1 !=3 then
  some (((0:Int),((0:Int),())),())
 else bif b.1 !=3 then
  some (((0:Int),((0:Int),())),())
 else aD (aDR l b) fuel ((kup l a.2.1),())
def aLz (o:Int):Option (Bool×Unit):=
 bif decide (o≥7) then
  some (decide (o≤17),())
 else some (false,())
def kT:Tp:=
 ((1:Int),((0:Int),()))
def aAs:Tp:=
 ((2:Int),((0:Int),()))
def pF (c:Int):Tp:=
 ((3:Int),c,())
def iM (t:List Tp):List Tp:=
 t
def gY (t:Tp):List Tp:=
 [t]
def aNF (x:Mt) (t:List Tp):Option ((List Tp×List Tp×Unit)×Unit):=
 bif decide (0≤(t.length:Int))&&decide ((t.length:Int)≤(x.1.length:Int))&&decide ((x.1.length:Int)≤(x.1.length:Int)) then
  (qT [t,(x.1.take x.1.length).drop t.length]).bind fun r1=>
  bif x.2.2.1.1 !=5 then
   some ((r1.1,[x.2.2.1],()),())
  else some ((r1.1,(([]:List Tp),())),())
 else none
def aNi (o:Int):Option ((List Tp×List Tp×Unit)×Bool×Unit):=
 bif o==2 then
  some ((([]:List Tp),((iM [((4:Int),((0:Int),()))]),())),true,())
 else bif o==5 then
  some (((iM [((0:Int),((0:Int),()))]),(([]:List Tp),())),true,())
 else bif o==20 then
  some (((iM [((4:Int),((0:Int),()))]),(iM [kT]),()),true,())
 else bif o==21 then
  some (((iM [((4:Int),((0:Int),())),((4:Int),((0:Int),()))]),(iM [kT]),()),true,())
 else bif o==24 then
  some (((iM [aAs,kT]),(iM [kT]),()),true,())
 else bif o==25 then
  some (((iM [aAs,kT,kT]),(([]:List Tp),())),true,())
 else bif o==26 then
  some (((iM [aAs]),(iM [kT]),()),true,())
 else bif o==1 then
  some ((([]:List Tp),(iM [kT]),()),true,())
 else bif o==19 then
  some (((iM [kT]),(([]:List Tp),())),true,())
 else bif o==18 then
  some ((([]:List Tp),(([]:List Tp),())),true,())
 else bif o==23 then
  some (((iM [kT]),(iM [aAs]),()),true,())
 else bif (oR o) then
  some (((iM [kT,kT]),(iM [kT]),()),true,())
 else some ((([]:List Tp),(([]:List Tp),())),false,())
def aNk (m:Im) (i:Ins) (f:Int):Option ((List Tp×List Tp×Unit)×Unit):=
 bif decide (0≤f)&&decide (f<m.2.2.2.1.length) then
  let r1:=fO i.1
  bif r1.2.1 then
   some (r1.1,())
  else bif i.1==3 then
   (xD (m.2.2.2.1.getD f.toNat zMt) i.2.1).bind fun r2=>
   some ((([]:List Tp),(gY r2.1),()),())
  else bif i.1==4 then
   (xD (m.2.2.2.1.getD f.toNat zMt) i.2.1).bind fun r3=>
   some (((gY r3.1),(([]:List Tp),())),())
  else bif i.1==22 then
   some ((([]:List Tp),(gY (pF i.2.1)),()),())
  else bif i.1==27 then
   (sQ m i.2.1).bind fun r4=>
   bif decide (0≤i.2.2.1)&&decide (i.2.2.1<r4.1.length) then
    some (((gY (pF i.2.1)),(gY (r4.1.getD i.2.2.1.toNat zTp)),()),())
   else none
  else bif i.1==28 then
   (sQ m i.2.1).bind fun r5=>
   bif decide (0≤i.2.2.1)&&decide (i.2.2.1<r5.1.length) then
    some (([(pF i.2.1),r5.1.getD i.2.2.1.toNat zTp],(([]:List Tp),())),())
   else none
  else bif i.1==29 then
   bif decide (0≤i.2.1)&&decide (i.2.1<m.2.1.length) then
    some ((([]:List Tp),(gY (m.2.1.getD i.2.1.toNat zTp)),()),())
   else none
  else bif i.1==30 then
   bif decide (0≤i.2.1)&&decide (i.2.1<m.2.1.length) then
    some (((gY (m.2.1.getD i.2.1.toNat zTp)),(([]:List Tp),())),())
   else none
  else bif i.1==31 then
   bif decide (0≤i.2.1)&&decide (i.2.1<m.2.2.2.1.length) then
    (wV (m.2.2.2.1.getD i.2.1.toNat zMt) ([]:List Tp)).bind fun r6=>
    some (r6.1,())
   else none
  else bif i.1==32 then
   let r7:=eS m i.2.1 i.2.2.1
   bif decide (0≤r7.1)&&decide (r7.1<m.2.2.2.1.length) then
    (wV (m.2.2.2.1.getD r7.1.toNat zMt) (gY (pF i.2.1))).bind fun r8=>
    some (r8.1,())
   else none
  else bif i.1==34 then
   some (((gY ((4:Int),((0:Int),()))),(gY (pF i.2.1)),()),())
  else bif i.1==33 then
   bif ((m.2.2.2.1.getD f.toNat zMt).2.2.1.1) !=5 then
    some (((gY (m.2.2.2.1.getD f.toNat zMt).2.2.1),(([]:List Tp),())),())
   else some ((([]:List Tp),(([]:List Tp),())),())
  else some ((([]:List Tp),(([]:List Tp),())),())
 else none
def aND (m:Im) (o:Int) (t:Tp) (w:Tp):Option (Bool×Unit):=
 bif w.1==0 then
  some (true,())
 else bif w.1==4 then
  bif (jY t) then
   bif o !=34 then
    some (true,())
   else some (t.1 !=2,())
  else some (false,())
 else some ((cN m.1 t w),())
def aNl (i:Ins) (pc:Int):Option (List Int×Unit):=
 bif i.1==18 then
  some ([i.2.1],())
 else bif i.1==19 then
  some ([IntKind.i64.wrap (pc+1),i.2.1],())
 else bif i.1==33 then
  some (([]:List Int),())
 else some ([IntKind.i64.wrap (pc+1)],())
def aHu (m:Im) (f:Int) (pc:Int) (s:List Tp) (r2:(List Tp×List Tp×Unit)×Unit) (s3:List Int×Int×Unit) (rec4:(List Int×Int×Unit)→Option (List Tp×List Int×Int×Unit)):Option (List Tp×List Int×Int×Unit):=
 bif decide (s3.2.1<(r2.1.1.length:Int)) then
  bif decide (0≤s3.2.1)&&decide (s3.2.1<r2.1.1.length) then
   bif decide (0≤IntKind.i64.wrap ((IntKind.i64.wrap ((s.length:Int) - (r2.1.1.length:Int)))+s3.2.1))&&decide (IntKind.i64.wrap ((IntKind.i64.wrap ((s.length:Int) - (r2.1.1.length:Int)))+s3.2.1)<s.length) then
    bif !(eX m ((m.2.2.2.1.getD f.toNat zMt).2.2.2.1.getD pc.toNat cC).1 (s.getD (IntKind.i64.wrap ((IntKind.i64.wrap ((s.length:Int) - (r2.1.1.length:Int)))+s3.2.1)).toNat zTp) (r2.1.1.getD s3.2.1.toNat zTp)) then
     some (([]:List Tp),(([]:List Int),((4:Int),())))
    else rec4 (s3.1,IntKind.i64.wrap (s3.2.1+1),())
   else none
  else none
 else bif decide ((0:Int)≤IntKind.i64.wrap ((s.length:Int) - (r2.1.1.length:Int)))&&decide (IntKind.i64.wrap ((s.length:Int) - (r2.1.1.length:Int))≤(s.length:Int)) then
  (qT [(s.take (IntKind.i64.wrap ((s.length:Int) - (r2.1.1.length:Int))).toNat).drop 0,r2.1.2.1]).bind fun r5=>
  some (r5.1,s3.1,((0:Int),()))
 else none
def aNg (fuel:Nat) (m:Im) (f:Int) (pc:Int) (s:List Tp):Option (List Tp×List Int×Int×Unit):=
 bif decide (f<0) then
  some (([]:List Tp),(([]:List Int),((1:Int),())))
 else bif decide (f≥(m.2.2.2.1.length:Int)) then
  some (([]:List Tp),(([]:List Int),((1:Int),())))
 else bif decide (pc<0) then
  some (([]:List Tp),(([]:List Int),((1:Int),())))
 else bif decide (0≤f)&&decide (f<m.2.2.2.1.length) then
  bif decide (pc≥((m.2.2.2.1.getD f.toNat zMt).2.2.2.1.length:Int)) then
   some (([]:List Tp),(([]:List Int),((1:Int),())))
  else bif decide (0≤f)&&decide (f<m.2.2.2.1.length) then
   bif decide (0≤pc)&&decide (pc<(m.2.2.2.1.getD f.toNat zMt).2.2.2.1.length) then
    bif decide (0≤f)&&decide (f<m.2.2.2.1.length) then
     bif (uQ (eV ((m.2.2.2.1.getD f.toNat zMt).2.2.2.1.getD pc.toNat cC) pc) ((m.2.2.2.1.getD f.toNat zMt).2.2.2.1.length:Int)) then
      some (([]:List Tp),(([]:List Int),((4:Int),())))
     else bif (((m.2.2.2.1.getD f.toNat zMt).2.2.2.1.getD pc.toNat cC).1)==6 then
      bif (s.length:Int)==0 then
       some (([]:List Tp),(([]:List Int),((4:Int),())))
      else bif decide ((s.length:Int)≥8) then
       some (([]:List Tp),(([]:List Int),((4:Int),())))
      else bif decide (0≤IntKind.i64.wrap ((s.length:Int) - 1))&&decide (IntKind.i64.wrap ((s.length:Int) - 1)≤(s.length:Int))&&decide ((s.length:Int)≤(s.length:Int)) then
       (qT [s,(s.take s.length).drop (IntKind.i64.wrap ((s.length:Int) - 1)).toNat]).bind fun r1=>
       some (r1.1,(eV ((m.2.2.2.1.getD f.toNat zMt).2.2.2.1.getD pc.toNat cC) pc),((0:Int),()))
      else none
     else
      (fof m ((m.2.2.2.1.getD f.toNat zMt).2.2.2.1.getD pc.toNat cC) f).bind fun r2=>
      bif decide (IntKind.i64.wrap ((s.length:Int) - (r2.1.1.length:Int))<0) then
       some (([]:List Tp),(([]:List Int),((4:Int),())))
      else bif decide (IntKind.i64.wrap ((IntKind.i64.wrap ((s.length:Int) - (r2.1.1.length:Int)))+(r2.1.2.1.length:Int))>8) then
       some (([]:List Tp),(([]:List Int),((4:Int),())))
      else aD (aHu m f pc s r2) fuel ((eV ((m.2.2.2.1.getD f.toNat zMt).2.2.2.1.getD pc.toNat cC) pc),((0:Int),()))
    else none
   else none
  else none
 else none
def aCz (m:Im) (o:Sh) (s:List Tp) (s2:Int×List Tp×Unit) (rec3:(Int×List Tp×Unit)→Option (Sh×Bool×Bool×Unit)):Option (Sh×Bool×Bool×Unit):=
 bif decide (s2.1<(s.length:Int)) then
  bif decide (0≤s2.1)&&decide (s2.1<s.length) then
   bif decide (0≤s2.1)&&decide (s2.1<o.2.1.length) then
    (wM m.1 (o.2.1.getD s2.1.toNat zTp) (s.getD s2.1.toNat zTp)).bind fun r4=>
    bif decide (0≤s2.1)&&decide (s2.1<s2.2.1.length) then
     bif decide (0≤s2.1)&&decide (s2.1<(s2.2.1.set s2.1.toNat r4.1).length) then
      bif (((s2.2.1.set s2.1.toNat r4.1).getD s2.1.toNat zTp).1)==0 then
       some (o,false,false,())
      else rec3 (IntKind.i64.wrap (s2.1+1),s2.2.1.set s2.1.toNat r4.1,())
     else none
    else none
   else none
  else none
 else some ((true,s2.2.1,()),!(eqL s2.2.1 o.2.1),true,())
def aIM (fuel:Nat) (m:Im) (o:Sh) (s:List Tp):Option (Sh×Bool×Bool×Unit):=
 bif !o.1 then
  (xC s).bind fun r1=>
  some ((true,(idL r1.1),()),true,true,())
 else bif (o.2.1.length:Int) !=(s.length:Int) then
  some (o,false,false,())
 else bif decide (0≤(s.length:Int))&&decide ((s.length:Int)≤(s.length:Int))&&decide ((s.length:Int)<(rowMax:Int)) then
  aD (aCz m o s) fuel ((0:Int),List.replicate s.length zTp,())
 else none
def aCy (m:Im) (r1:List Tp×List Int×Int×Unit) (s2:Int×List Sh×List Bool×Unit) (rec3:(Int×List Sh×List Bool×Unit)→Option (Bool×List Sh×List Bool×Unit)):Option (Bool×List Sh×List Bool×Unit):=
 bif decide (s2.1<(r1.2.1.length:Int)) then
  bif decide (0≤s2.1)&&decide (s2.1<r1.2.1.length) then
   bif decide (0≤r1.2.1.getD s2.1.toNat 0)&&decide (r1.2.1.getD s2.1.toNat 0<s2.2.1.length) then
    (xX m (s2.2.1.getD (r1.2.1.getD s2.1.toNat 0).toNat zSh) r1.1).bind fun r4=>
    bif !r4.2.2.1 then
     some (false,s2.2.1,s2.2.2.1,())
    else bif r4.2.1 then
     bif decide (0≤r1.2.1.getD s2.1.toNat 0)&&decide (r1.2.1.getD s2.1.toNat 0<s2.2.1.length) then
      bif decide (0≤r1.2.1.getD s2.1.toNat 0)&&decide (r1.2.1.getD s2.1.toNat 0<s2.2.2.1.length) then
       rec3 (IntKind.i64.wrap (s2.1+1),s2.2.1.set (r1.2.1.getD s2.1.toNat 0).toNat r4.1,s2.2.2.1.set (r1.2.1.getD s2.1.toNat 0).toNat true,())
      else none
     else none
    else rec3 (IntKind.i64.wrap (s2.1+1),s2.2.1,s2.2.2.1,())
   else none
  else none
 else some (true,s2.2.1,s2.2.2.1,())
def aIH (fuel:Nat) (m:Im) (f:Int) (pc:Int) (h:List Sh) (q:List Bool):Option (Bool×List Sh×List Bool×Unit):=
 bif decide (0≤pc)&&decide (pc<h.length) then
  (sH m f pc (h.getD pc.toNat zSh).2.1).bind fun r1=>
  bif r1.2.2.1 !=0 then
   some (false,h,q,())
  else aD (aCy m r1) fuel ((0:Int),h,q,())
 else none
def aAQ (m:Im) (f:Int) (s1:List Sh×List Bool×Unit) (rec2:(List Sh×List Bool×Unit)→Option (List Sh×Int×Int×Unit)) (s3:Int×Unit) (rec4:(Int×Unit)→Option (List Sh×Int×Int×Unit)):Option (List Sh×Int×Int×Unit):=
 bif decide (s3.1<(s1.2.1.length:Int)) then
  bif decide (0≤s3.1)&&decide (s3.1<s1.2.1.length) then
   bif !(s1.2.1.getD s3.1.toNat false) then
    rec4 (IntKind.i64.wrap (s3.1+1),())
   else bif decide (0≤s3.1)&&decide (s3.1<s1.2.1.length) then
    (nD m f s3.1 s1.1 (s1.2.1.set s3.1.toNat false)).bind fun r5=>
    bif !r5.1 then
     some (([]:List Sh),s3.1,((4:Int),()))
    else rec2 (r5.2.1,r5.2.2.1,())
   else none
  else none
 else some (s1.1,((0:Int),((0:Int),())))
def aAP (m:Im) (f:Int) (fuel:Nat) (s1:List Sh×List Bool×Unit) (rec2:(List Sh×List Bool×Unit)→Option (List Sh×Int×Int×Unit)):Option (List Sh×Int×Int×Unit):=
 aD (aAQ m f s1 rec2) fuel ((0:Int),())
def aIK (fuel:Nat) (m:Im) (f:Int):Option (List Sh×Int×Int×Unit):=
 bif decide (0≤f)&&decide (f<m.2.2.2.1.length) then
  bif decide (0≤((m.2.2.2.1.getD f.toNat zMt).2.2.2.1.length:Int))&&decide (((m.2.2.2.1.getD f.toNat zMt).2.2.2.1.length:Int)≤((m.2.2.2.1.getD f.toNat zMt).2.2.2.1.length:Int))&&decide (((m.2.2.2.1.getD f.toNat zMt).2.2.2.1.length:Int)<(rowMax:Int)) then
   bif ((List.replicate ((m.2.2.2.1.getD f.toNat zMt).2.2.2.1.length:Int).toNat zSh).length:Int)==0 then
    some (([]:List Sh),((0:Int),((4:Int),())))
   else bif decide ((0:Int)<(List.replicate ((m.2.2.2.1.getD f.toNat zMt).2.2.2.1.length:Int).toNat zSh).length) then
    bif decide (0≤(((List.replicate ((m.2.2.2.1.getD f.toNat zMt).2.2.2.1.length:Int).toNat zSh).set 0 (true,((List.replicate ((m.2.2.2.1.getD f.toNat zMt).2.2.2.1.length:Int).toNat zSh).getD 0 zSh).2)).length:Int))&&decide ((((List.replicate ((m.2.2.2.1.getD f.toNat zMt).2.2.2.1.length:Int).toNat zSh).set 0 (true,((List.replicate ((m.2.2.2.1.getD f.toNat zMt).2.2.2.1.length:Int).toNat zSh).getD 0 zSh).2)).length:Int)≤(((List.replicate ((m.2.2.2.1.getD f.toNat zMt).2.2.2.1.length:Int).toNat zSh).set 0 (true,((List.replicate ((m.2.2.2.1.getD f.toNat zMt).2.2.2.1.length:Int).toNat zSh).getD 0 zSh).2)).length:Int))&&decide ((((List.replicate ((m.2.2.2.1.getD f.toNat zMt).2.2.2.1.length:Int).toNat zSh).set 0 (true,((List.replicate ((m.2.2.2.1.getD f.toNat zMt).2.2.2.1.length:Int).toNat zSh).getD 0 zSh).2)).length:Int)<(rowMax:Int)) then
     bif decide ((0:Int)<(List.replicate (((List.replicate ((m.2.2.2.1.getD f.toNat zMt).2.2.2.1.length:Int).toNat zSh).set 0 (true,((List.replicate ((m.2.2.2.1.getD f.toNat zMt).2.2.2.1.length:Int).toNat zSh).getD 0 zSh).2)).length:Int).toNat false).length) then
      aD (aAP m f fuel) fuel ((List.replicate ((m.2.2.2.1.getD f.toNat zMt).2.2.2.1.length:Int).toNat zSh).set 0 (true,((List.replicate ((m.2.2.2.1.getD f.toNat zMt).2.2.2.1.length:Int).toNat zSh).getD 0 zSh).2),((List.replicate (((List.replicate ((m.2.2.2.1.getD f.toNat zMt).2.2.2.1.length:Int).toNat zSh).set 0 (true,((List.replicate ((m.2.2.2.1.getD f.toNat zMt).2.2.2.1.length:Int).toNat zSh).getD 0 zSh).2)).length:Int).toNat false).set 0 true,()))
     else none
    else none
   else none
  else none
 else none
def aCB (m:Im) (s1:List (List Sh)×Int×Unit) (rec2:(List (List Sh)×Int×Unit)→Option (List (List Sh)×Int×Int×Int×Unit)):Option (List (List Sh)×Int×Int×Int×Unit):=
 bif decide (s1.2.1<(m.2.2.2.1.length:Int)) then
  (nE m s1.2.1).bind fun r3=>
  bif r3.2.2.1 !=0 then
   some (([]:List (List Sh)),s1.2.1,r3.2.1,r3.2.2.1,())
  else bif decide (s1.1.length+[r3.1].length<rowMax) then
   rec2 (s1.1++[r3.1],IntKind.i64.wrap (s1.2.1+1),())
  else none
 else some ((idL s1.1),((0:Int),((0:Int),((0:Int),()))))
def aIV (fuel:Nat) (m:Im):Option (List (List Sh)×Int×Int×Int×Unit):=
 aD (aCB m) fuel (([]:List (List Sh)),((0:Int),()))
def aYJ (_to:Int) (part:List Int):Prop:=True∧(part.length≤lenMax∧∀x1:Int,x1∈part→True)∧True
def aYI (to:Int) (part:List Int):Option (Bool×Unit):=
 some ((uQ part to),())
def aWy (l:List Int) (c:List Int×Unit):Prop:=(l.length≤lenMax∧∀x1:Int,x1∈l→True)∧((c.1.length≤lenMax∧∀x1:Int,x1∈c.1→True)∧True)∧True
def aHh (l:List Int) (c:List Int×Unit) (s1:Int×Unit) (rec2:(Int×Unit)→Option (Int×Unit)):Option (Int×Unit):=
 bif decide (s1.1<(l.length:Int)) then
  bif decide (0≤s1.1)&&decide (s1.1<l.length) then
   bif (xB (l.getD s1.1.toNat 0) c.1) then
    some (s1.1,())
   else rec2 (IntKind.i64.wrap (s1.1+1),())
  else none
 else some ((-1:Int),())
def aWx (fuel:Nat) (l:List Int) (c:List Int×Unit):Option (Int×Unit):=
 aD (aHh l c) fuel ((0:Int),())
def aZd (l:List Int) (c:List Int×Unit):Prop:=(l.length≤lenMax∧∀x1:Int,x1∈l→True)∧((c.1.length≤lenMax∧∀x1:Int,x1∈c.1→True)∧True)∧True
def aOf (l:List Int) (c:List Int×Unit):Option (Bool×Unit):=
 some (decide ((aD2 l c)≥0),())
def aEw (l:List (List Int)) (part:List Int) (s1:Int×Unit) (rec2:(Int×Unit)→Option (Bool×Unit)):Option (Bool×Unit):=
 bif decide (s1.1<(part.length:Int)) then
  bif decide (0≤s1.1)&&decide (s1.1<part.length) then
   bif decide (part.getD s1.1.toNat 0<0) then
    rec2 (IntKind.i64.wrap (s1.1+1),())
   else bif decide (part.getD s1.1.toNat 0≥(l.length:Int)) then
    rec2 (IntKind.i64.wrap (s1.1+1),())
   else bif decide (0≤part.getD s1.1.toNat 0)&&decide (part.getD s1.1.toNat 0<l.length) then
    bif (aB6 (l.getD (part.getD s1.1.toNat 0).toNat ([]:List Int)) (part,())) then
     some (true,())
    else rec2 (IntKind.i64.wrap (s1.1+1),())
   else none
  else none
 else some (false,())
def aN1 (fuel:Nat) (l:List (List Int)) (part:List Int):Option (Bool×Unit):=
 aD (aEw l part) fuel ((0:Int),())
def aEv (s1:List (List Int)×Int×Unit) (r4:List (List Int)×Unit) (s8:Int×Int×Int×Unit) (s5:Int×List Int×Unit) (rec9:(Int×Int×Int×Unit)→Option (List Int×Int×Unit)) (s10:Int×Unit) (r12:Int×Unit) (s13:Int×Int×Unit) (rec14:(Int×Int×Unit)→Option (List Int×Int×Unit)):Option (List Int×Int×Unit):=
 bif decide (s13.2.1<((s1.1.getD ((r4.1.getD s5.1.toNat ([]:List Int)).getD s8.2.2.1.toNat 0).toNat ([]:List Int)).length:Int)) then
  bif decide (0≤s13.2.1)&&decide (s13.2.1<(s1.1.getD ((r4.1.getD s5.1.toNat ([]:List Int)).getD s8.2.2.1.toNat 0).toNat ([]:List Int)).length) then
   bif !(uQ (r4.1.getD s5.1.toNat ([]:List Int)) ((s1.1.getD ((r4.1.getD s5.1.toNat ([]:List Int)).getD s8.2.2.1.toNat 0).toNat ([]:List Int)).getD s13.2.1.toNat 0)) then
    bif decide ((s1.1.getD ((r4.1.getD s5.1.toNat ([]:List Int)).getD s8.2.2.1.toNat 0).toNat ([]:List Int)).getD s13.2.1.toNat 0<(s5.2.1.length:Int)) then
     bif decide (0≤(s1.1.getD ((r4.1.getD s5.1.toNat ([]:List Int)).getD s8.2.2.1.toNat 0).toNat ([]:List Int)).getD s13.2.1.toNat 0)&&decide ((s1.1.getD ((r4.1.getD s5.1.toNat ([]:List Int)).getD s8.2.2.1.toNat 0).toNat ([]:List Int)).getD s13.2.1.toNat 0<s5.2.1.length) then
      rec14 (max s13.1 (s5.2.1.getD ((s1.1.getD ((r4.1.getD s5.1.toNat ([]:List Int)).getD s8.2.2.1.toNat 0).toNat ([]:List Int)).getD s13.2.1.toNat 0).toNat 0),IntKind.i64.wrap (s13.2.1+1),())
     else none
    else rec14 (s13.1,IntKind.i64.wrap (s13.2.1+1),())
   else rec14 (s13.1,IntKind.i64.wrap (s13.2.1+1),())
  else none
 else rec9 (IntKind.i64.wrap (s8.1+(IntKind.i64.wrap (s10.1*r12.1))),s13.1,IntKind.i64.wrap (s8.2.2.1+1),())
def aEu (r4:List (List Int)×Unit) (s8:Int×Int×Int×Unit) (s5:Int×List Int×Unit) (rec6:(Int×List Int×Unit)→Option (List Int×Int×Unit)) (s15:Int×List Int×Unit) (rec16:(Int×List Int×Unit)→Option (List Int×Int×Unit)):Option (List Int×Int×Unit):=
 bif decide (s15.1<((r4.1.getD s5.1.toNat ([]:List Int)).length:Int)) then
  bif decide (0≤s15.1)&&decide (s15.1<(r4.1.getD s5.1.toNat ([]:List Int)).length) then
   bif decide (0≤(r4.1.getD s5.1.toNat ([]:List Int)).getD s15.1.toNat 0)&&decide ((r4.1.getD s5.1.toNat ([]:List Int)).getD s15.1.toNat 0<s15.2.1.length) then
    rec16 (IntKind.i64.wrap (s15.1+1),(s15.2.1.set ((r4.1.getD s5.1.toNat ([]:List Int)).getD s15.1.toNat 0).toNat (IntKind.i64.wrap (s8.1+s8.2.1)),()))
   else none
  else none
 else rec6 (IntKind.i64.wrap (s5.1+1),s15.2.1,())
def aB1 (m:Im) (l:List (List Sh)) (fuel:Nat) (s1:List (List Int)×Int×Unit) (r4:List (List Int)×Unit) (r7:Bool×Unit) (s5:Int×List Int×Unit) (rec6:(Int×List Int×Unit)→Option (List Int×Int×Unit)) (s8:Int×Int×Int×Unit) (rec9:(Int×Int×Int×Unit)→Option (List Int×Int×Unit)):Option (List Int×Int×Unit):=
 bif decide (s8.2.2.1<((r4.1.getD s5.1.toNat ([]:List Int)).length:Int)) then
  bif decide (0≤s8.2.2.1)&&decide (s8.2.2.1<(r4.1.getD s5.1.toNat ([]:List Int)).length) then
   (bif r7.1 then
    bif decide (0≤(r4.1.getD s5.1.toNat ([]:List Int)).getD s8.2.2.1.toNat 0)&&decide ((r4.1.getD s5.1.toNat ([]:List Int)).getD s8.2.2.1.toNat 0<m.2.2.2.1.length) then
     some (.inl ((m.2.2.2.1.getD ((r4.1.getD s5.1.toNat ([]:List Int)).getD s8.2.2.1.toNat 0).toNat zMt).2.2.2.2.1,()))
    else none
   else some (.inl ((1:Int),())):Option ((Int×Unit)⊕(List Int×Int×Unit))).bind fun q=>match q with
   | .inr r11=>some r11
   | .inl s10=>
    bif decide (s10.1<1) then
     some (([]:List Int),((5:Int),()))
    else
     (aEs m l ((r4.1.getD s5.1.toNat ([]:List Int)).getD s8.2.2.1.toNat 0)).bind fun r12=>
     bif decide (0≤(r4.1.getD s5.1.toNat ([]:List Int)).getD s8.2.2.1.toNat 0)&&decide ((r4.1.getD s5.1.toNat ([]:List Int)).getD s8.2.2.1.toNat 0<s1.1.length) then
      aD (aEv s1 r4 s8 s5 rec9 s10 r12) fuel (s8.2.1,((0:Int),()))
     else none
  else none
 else aD (aEu r4 s8 s5 rec6) fuel ((0:Int),s5.2.1,())
def aB0 (m:Im) (l:List (List Sh)) (fuel:Nat) (s1:List (List Int)×Int×Unit) (r4:List (List Int)×Unit) (s5:Int×List Int×Unit) (rec6:(Int×List Int×Unit)→Option (List Int×Int×Unit)):Option (List Int×Int×Unit):=
 bif decide (s5.1<(r4.1.length:Int)) then
  bif decide (0≤s5.1)&&decide (s5.1<r4.1.length) then
   (aAu s1.1 (r4.1.getD s5.1.toNat ([]:List Int))).bind fun r7=>
   aD (aB1 m l fuel s1 r4 r7 s5 rec6) fuel ((0:Int),((0:Int),((0:Int),())))
  else none
 else some (s5.2.1,((0:Int),()))
def aEt (m:Im) (l:List (List Sh)) (fuel:Nat) (s1:List (List Int)×Int×Unit) (rec2:(List (List Int)×Int×Unit)→Option (List Int×Int×Unit)):Option (List Int×Int×Unit):=
 bif decide (s1.2.1<(m.2.2.2.1.length:Int)) then
  (cof m s1.2.1).bind fun r3=>
  bif decide (s1.1.length+[r3.1].length<rowMax) then
   rec2 (s1.1++[r3.1],IntKind.i64.wrap (s1.2.1+1),())
  else none
 else bif decide (0≤(m.2.2.2.1.length:Int))&&decide ((m.2.2.2.1.length:Int)≤(m.2.2.2.1.length:Int))&&decide ((m.2.2.2.1.length:Int)<(rowMax:Int)) then
  (nK s1.1).bind fun r4=>
  aD (aB0 m l fuel s1 r4) fuel ((0:Int),(List.replicate m.2.2.2.1.length (0:Int),()))
 else none
def aN0 (fuel:Nat) (m:Im) (l:List (List Sh)):Option (List Int×Int×Unit):=
 aD (aEt m l fuel) fuel (([]:List (List Int)),((0:Int),()))
def aLE (x:Int) (y:Int):Option (Int×Int×Unit):=
 some (IntKind.u64.wrap ((IntKind.u64.wrap ((IntKind.u64.wrap ((x.fdiv 4294967296)*(y.fdiv 4294967296)))+((IntKind.u64.wrap ((IntKind.u64.wrap ((x.fdiv 4294967296)*(IntKind.u64.wrap ((BitVec.ofInt 64 y&&&BitVec.ofInt 64 4294967295).toNat))))+((IntKind.u64.wrap ((IntKind.u64.wrap ((BitVec.ofInt 64 x&&&BitVec.ofInt 64 4294967295).toNat))*(IntKind.u64.wrap ((BitVec.ofInt 64 y&&&BitVec.ofInt 64 4294967295).toNat)))).fdiv 4294967296))).fdiv 4294967296)))+((IntKind.u64.wrap ((IntKind.u64.wrap ((BitVec.ofInt 64 (IntKind.u64.wrap ((IntKind.u64.wrap ((x.fdiv 4294967296)*(IntKind.u64.wrap ((BitVec.ofInt 64 y&&&BitVec.ofInt 64 4294967295).toNat))))+((IntKind.u64.wrap ((IntKind.u64.wrap ((BitVec.ofInt 64 x&&&BitVec.ofInt 64 4294967295).toNat))*(IntKind.u64.wrap ((BitVec.ofInt 64 y&&&BitVec.ofInt 64 4294967295).toNat)))).fdiv 4294967296)))&&&BitVec.ofInt 64 4294967295).toNat))+(IntKind.u64.wrap ((IntKind.u64.wrap ((BitVec.ofInt 64 x&&&BitVec.ofInt 64 4294967295).toNat))*(y.fdiv 4294967296))))).fdiv 4294967296)),IntKind.u64.wrap (x*y),())
def aMb (n:Int):Option ((Int×Bool×Unit)×Unit):=
 bif decide (n>(-4611686018427387904:Int)) then
  some ((n,decide (n<4611686018427387904),()),())
 else some ((n,false,()),())
def aL3 (n:Int):Option (Int×Unit):=
 bif decide (n<0) then
  some (IntKind.u64.wrap (IntKind.i64.wrap (0 - n)),())
 else some (IntKind.u64.wrap n,())
def aL4 (a:Int×Bool×Unit) (b:Int×Bool×Unit):Option ((Int×Bool×Unit)×Unit):=
 bif !a.2.1 then
  some (((0:Int),false,()),())
 else bif !b.2.1 then
  some (((0:Int),false,()),())
 else some ((lof (IntKind.i64.wrap (a.1+b.1))),())
def aL1 (a:Int×Bool×Unit) (b:Int×Bool×Unit):Option ((Int×Bool×Unit)×Unit):=
 bif !a.2.1 then
  some (((0:Int),false,()),())
 else bif !b.2.1 then
  some (((0:Int),false,()),())
 else
  (zL (eR a.1) (eR b.1)).bind fun r1=>
  bif r1.1 !=0 then
   some (((0:Int),false,()),())
  else bif decide (r1.2.1≥4611686018427387904) then
   some (((0:Int),false,()),())
  else some ((lof (IntKind.i64.wrap (a.1*b.1))),())
def aDP (q:Iq) (v:List Int) (s1:Int×(Int×Bool×Unit)×Unit) (rec2:(Int×(Int×Bool×Unit)×Unit)→Option (Bool×Int×Unit)):Option (Bool×Int×Unit):=
 bif decide (s1.1<(q.1.length:Int)) then
  bif decide (0≤s1.1)&&decide (s1.1<q.1.length) then
   bif decide (0≤s1.1)&&decide (s1.1<v.length) then
    (aBE (lof (q.1.getD s1.1.toNat 0)) (lof (v.getD s1.1.toNat 0))).bind fun r3=>
    (aBF s1.2.1 r3.1).bind fun r4=>
    rec2 (IntKind.i64.wrap (s1.1+1),r4.1,())
   else none
  else none
 else bif !s1.2.1.2.1 then
  some (false,((14:Int),()))
 else some (decide (s1.2.1.1≤q.2.1),((0:Int),()))
def aMh (fuel:Nat) (q:Iq) (v:List Int):Option (Bool×Int×Unit):=
 bif (q.1.length:Int) !=(v.length:Int) then
  some (false,((14:Int),()))
 else aD (aDP q v) fuel ((0:Int),((lof (0:Int)),()))
def aK6 (l:List (List Sh)) (f:Int) (pc:Int):Option (Sh×Unit):=
 bif decide (f≥(l.length:Int)) then
  some ((false,(([]:List Tp),())),())
 else bif decide (0≤f)&&decide (f<l.length) then
  bif decide (pc≥((l.getD f.toNat ([]:List Sh)).length:Int)) then
   some ((false,(([]:List Tp),())),())
  else bif decide (0≤f)&&decide (f<l.length) then
   bif decide (0≤pc)&&decide (pc<(l.getD f.toNat ([]:List Sh)).length) then
    some ((l.getD f.toNat ([]:List Sh)).getD pc.toNat zSh,())
   else none
  else none
 else none
def aDx (m:Im) (r2:List Int×Unit) (s3:Int×Int×Unit) (rec4:(Int×Int×Unit)→Option (Int×Unit)):Option (Int×Unit):=
 bif decide (s3.2.1<(r2.1.length:Int)) then
  bif decide (0≤s3.2.1)&&decide (s3.2.1<r2.1.length) then
   bif decide (r2.1.getD s3.2.1.toNat 0≥0) then
    bif decide (r2.1.getD s3.2.1.toNat 0<(m.2.2.2.1.length:Int)) then
     bif decide (0≤r2.1.getD s3.2.1.toNat 0)&&decide (r2.1.getD s3.2.1.toNat 0<m.2.2.2.1.length) then
      rec4 (max s3.1 (m.2.2.2.1.getD (r2.1.getD s3.2.1.toNat 0).toNat zMt).2.2.2.2.2.1,IntKind.i64.wrap (s3.2.1+1),())
     else none
    else rec4 (s3.1,IntKind.i64.wrap (s3.2.1+1),())
   else rec4 (s3.1,IntKind.i64.wrap (s3.2.1+1),())
  else none
 else some (s3.1,())
def aLg (fuel:Nat) (m:Im) (i:Ins):Option (Int×Unit):=
 bif i.1==22 then
  (aAv m i.2.1).bind fun r1=>
  some (r1.1,())
 else bif i.1==23 then
  some (IntKind.i64.wrap ((1:Int)+(max 0 (min i.2.1 255))),())
 else
  (sP m i).bind fun r2=>
  aD (aDx m r2) fuel ((0:Int),((0:Int),()))
def aK8 (n:Int) (a:Int) (b:Int) (c:Int):Option (Iq×Unit):=
 bif decide (0≤n)&&decide (n≤n)&&decide (n<(rowMax:Int)) then
  bif decide (a≥0) then
   bif decide (0≤a)&&decide (a<(List.replicate n.toNat (0:Int)).length) then
    bif decide (0≤a)&&decide (a<(List.replicate n.toNat (0:Int)).length) then
     bif decide (b≥0) then
      bif decide (0≤b)&&decide (b<((List.replicate n.toNat (0:Int)).set a.toNat (IntKind.i64.wrap (((List.replicate n.toNat (0:Int)).getD a.toNat 0) - 1))).length) then
       bif decide (0≤b)&&decide (b<((List.replicate n.toNat (0:Int)).set a.toNat (IntKind.i64.wrap (((List.replicate n.toNat (0:Int)).getD a.toNat 0) - 1))).length) then
        some ((((List.replicate n.toNat (0:Int)).set a.toNat (IntKind.i64.wrap (((List.replicate n.toNat (0:Int)).getD a.toNat 0) - 1))).set b.toNat (IntKind.i64.wrap ((((List.replicate n.toNat (0:Int)).set a.toNat (IntKind.i64.wrap (((List.replicate n.toNat (0:Int)).getD a.toNat 0) - 1))).getD b.toNat 0)+1)),c,()),())
       else none
      else none
     else some (((List.replicate n.toNat (0:Int)).set a.toNat (IntKind.i64.wrap (((List.replicate n.toNat (0:Int)).getD a.toNat 0) - 1)),c,()),())
    else none
   else none
  else bif decide (b≥0) then
   bif decide (0≤b)&&decide (b<(List.replicate n.toNat (0:Int)).length) then
    bif decide (0≤b)&&decide (b<(List.replicate n.toNat (0:Int)).length) then
     some (((List.replicate n.toNat (0:Int)).set b.toNat (IntKind.i64.wrap (((List.replicate n.toNat (0:Int)).getD b.toNat 0)+1)),c,()),())
    else none
   else none
  else some ((List.replicate n.toNat (0:Int),c,()),())
 else none
def aBt (m:Im) (f:Int) (r5:List Tp×List Int×Int×Unit) (s2:List Iq×Int×Unit) (rec3:(List Iq×Int×Unit)→Option (List Iq×Unit)) (s9:List Iq×Int×Unit) (rec10:(List Iq×Int×Unit)→Option (List Iq×Unit)):Option (List Iq×Unit):=
 bif decide (s9.2.1<(r5.2.1.length:Int)) then
  bif decide (0≤s9.2.1)&&decide (s9.2.1<r5.2.1.length) then
   (zG m ((m.2.2.2.1.getD f.toNat zMt).2.2.2.1.getD s2.2.1.toNat cC)).bind fun r11=>
   (tY ((m.2.2.2.1.getD f.toNat zMt).2.2.2.1.length:Int) s2.2.1 (r5.2.1.getD s9.2.1.toNat 0) (IntKind.i64.wrap (0 - r11.1))).bind fun r12=>
   bif decide (s9.1.length+[r12.1].length<rowMax) then
    rec10 (s9.1++[r12.1],IntKind.i64.wrap (s9.2.1+1),())
   else none
  else none
 else rec3 (s9.1,IntKind.i64.wrap (s2.2.1+1),())
def aDv (m:Im) (l:List (List Sh)) (f:Int) (fuel:Nat) (s2:List Iq×Int×Unit) (rec3:(List Iq×Int×Unit)→Option (List Iq×Unit)):Option (List Iq×Unit):=
 bif decide (s2.2.1<((m.2.2.2.1.getD f.toNat zMt).2.2.2.1.length:Int)) then
  bif decide (0≤s2.2.1)&&decide (s2.2.1<(m.2.2.2.1.getD f.toNat zMt).2.2.2.1.length) then
   (zC l f s2.2.1).bind fun r4=>
   bif !r4.1.1 then
    rec3 (s2.1,IntKind.i64.wrap (s2.2.1+1),())
   else
    (sH m f s2.2.1 r4.1.2.1).bind fun r5=>
    bif r5.2.2.1 !=0 then
     rec3 (s2.1,IntKind.i64.wrap (s2.2.1+1),())
    else
     (bif (r5.2.1.length:Int)==0 then
      (tY ((m.2.2.2.1.getD f.toNat zMt).2.2.2.1.length:Int) s2.2.1 (-1:Int) (0:Int)).bind fun r8=>
      bif decide (s2.1.length+[r8.1].length<rowMax) then
       some (.inl (s2.1++[r8.1],()))
      else none
     else some (.inl (s2.1,())):Option ((List Iq×Unit)⊕(List Iq×Unit))).bind fun q=>match q with
     | .inr r7=>some r7
     | .inl s6=>
      aD (aBt m f r5 s2 rec3) fuel (s6.1,((0:Int),()))
  else none
 else some ((idL s2.1),())
def aK7 (fuel:Nat) (m:Im) (l:List (List Sh)) (f:Int):Option (List Iq×Unit):=
 bif decide (f<0) then
  some (([]:List Iq),())
 else bif decide (f≥(m.2.2.2.1.length:Int)) then
  some (([]:List Iq),())
 else bif decide (0≤f)&&decide (f<m.2.2.2.1.length) then
  bif ((m.2.2.2.1.getD f.toNat zMt).2.2.2.1.length:Int)==0 then
   some (([]:List Iq),())
  else bif decide (0≤f)&&decide (f<m.2.2.2.1.length) then
   bif decide (0≤f)&&decide (f<m.2.2.2.1.length) then
    (tY ((m.2.2.2.1.getD f.toNat zMt).2.2.2.1.length:Int) (-1:Int) (0:Int) (m.2.2.2.1.getD f.toNat zMt).2.2.2.2.2.1).bind fun r1=>
    aD (aDv m l f fuel) fuel ([r1.1],((0:Int),()))
   else none
  else none
 else none
def aLc (n:Int):Bool:=
 decide (n<0)
def aWi (l:List Int) (_c:Unit):Prop:=(l.length≤lenMax∧∀x1:Int,x1∈l→True)∧True∧True
def aHd (l:List Int) (s1:Int×Unit) (rec2:(Int×Unit)→Option (Int×Unit)):Option (Int×Unit):=
 bif decide (s1.1<(l.length:Int)) then
  bif decide (0≤s1.1)&&decide (s1.1<l.length) then
   bif (aLc (l.getD s1.1.toNat 0)) then
    some (s1.1,())
   else rec2 (IntKind.i64.wrap (s1.1+1),())
  else none
 else some ((-1:Int),())
def aWh (fuel:Nat) (l:List Int) (_c:Unit):Option (Int×Unit):=
 aD (aHd l) fuel ((0:Int),())
def aY2 (l:List Int) (_c:Unit):Prop:=(l.length≤lenMax∧∀x1:Int,x1∈l→True)∧True∧True
def aOb (l:List Int) (c:Unit):Option (Bool×Unit):=
 some (decide ((aDY l c)≥0),())
def aDy (m:Im) (s1:Int×Unit) (rec2:(Int×Unit)→Option (Int×Int×Unit)) (r3:List Iq×Unit) (s4:Int×Unit) (rec5:(Int×Unit)→Option (Int×Int×Unit)):Option (Int×Int×Unit):=
 bif decide (s4.1<(r3.1.length:Int)) then
  bif decide (0≤s4.1)&&decide (s4.1<r3.1.length) then
   (zY (r3.1.getD s4.1.toNat zIq) (m.2.2.2.1.getD s1.1.toNat zMt).2.2.2.2.2.2.1).bind fun r6=>
   bif r6.2.1 !=0 then
    some (s1.1,((6:Int),()))
   else bif !r6.1 then
    some (s1.1,((6:Int),()))
   else rec5 (IntKind.i64.wrap (s4.1+1),())
  else none
 else bif (aB4 (m.2.2.2.1.getD s1.1.toNat zMt).2.2.2.2.2.2.1 ()) then
  some (s1.1,((6:Int),()))
 else rec2 (IntKind.i64.wrap (s1.1+1),())
def zH (m:Im) (l:List (List Sh)) (fuel:Nat) (s1:Int×Unit) (rec2:(Int×Unit)→Option (Int×Int×Unit)):Option (Int×Int×Unit):=
 bif decide (s1.1<(m.2.2.2.1.length:Int)) then
  bif decide (0≤s1.1)&&decide (s1.1<m.2.2.2.1.length) then
   (zD m l s1.1).bind fun r3=>
   aD (aDy m s1 rec2 r3) fuel ((0:Int),())
  else none
 else some ((0:Int),((0:Int),()))
def aLi (fuel:Nat) (m:Im) (l:List (List Sh)):Option (Int×Int×Unit):=
 aD (zH m l fuel) fuel ((0:Int),())
def aER (m:Im) (r1:List Int×Int×Unit) (s2:Int×Int×Int×Unit) (rec3:(Int×Int×Int×Unit)→Option (Int×Int×Int×Unit)):Option (Int×Int×Int×Unit):=
 bif decide (s2.2.2.1<(m.2.2.2.2.1.length:Int)) then
  bif decide (0≤s2.2.2.1)&&decide (s2.2.2.1<m.2.2.2.2.1.length) then
   (bif decide (m.2.2.2.2.1.getD s2.2.2.1.toNat 0≥0) then
    some (.inl (decide (m.2.2.2.2.1.getD s2.2.2.1.toNat 0<(r1.1.length:Int)),()))
   else some (.inl (false,())):Option ((Bool×Unit)⊕(Int×Int×Int×Unit))).bind fun q=>match q with
   | .inr r5=>some r5
   | .inl s4=>
    bif s4.1 then
     bif decide (0≤m.2.2.2.2.1.getD s2.2.2.1.toNat 0)&&decide (m.2.2.2.2.1.getD s2.2.2.1.toNat 0<r1.1.length) then
      bif decide (0≤m.2.2.2.2.1.getD s2.2.2.1.toNat 0)&&decide (m.2.2.2.2.1.getD s2.2.2.1.toNat 0<m.2.2.2.1.length) then
       rec3 (max s2.1 (r1.1.getD (m.2.2.2.2.1.getD s2.2.2.1.toNat 0).toNat 0),max s2.2.1 (m.2.2.2.1.getD (m.2.2.2.2.1.getD s2.2.2.1.toNat 0).toNat zMt).2.2.2.2.2.1,IntKind.i64.wrap (s2.2.2.1+1),())
      else none
     else none
    else rec3 (s2.1,s2.2.1,IntKind.i64.wrap (s2.2.2.1+1),())
  else none
 else some (s2.1,(IntKind.i64.wrap ((m.2.1.length:Int)+s2.2.1),((0:Int),())))
def aPg (fuel:Nat) (m:Im) (l:List (List Sh)):Option (Int×Int×Int×Unit):=
 (sO m l).bind fun r1=>
 bif r1.2.1 !=0 then
  some ((0:Int),((0:Int),r1.2.1,()))
 else aD (aER m r1) fuel ((0:Int),((0:Int),((0:Int),())))
def nX (m:Im):Option (List (List Sh)×Int×Unit):=
 bif (gA m) !=0 then
  some (([]:List (List Sh)),(gA m),())
 else
  (nF m).bind fun r1=>
  bif r1.2.2.2.1 !=0 then
   some (([]:List (List Sh)),r1.2.2.2.1,())
  else
   (pH m r1.1).bind fun r2=>
   bif r2.2.2.1 !=0 then
    some (([]:List (List Sh)),r2.2.2.1,())
   else
    (tZ m r1.1).bind fun r3=>
    bif r3.2.1 !=0 then
     some (([]:List (List Sh)),r3.2.1,())
    else bif decide (r2.1>m.2.2.2.2.2.1) then
     some (([]:List (List Sh)),((7:Int),()))
    else bif decide (r2.2.1>m.2.2.2.2.2.2.1) then
     some (([]:List (List Sh)),((7:Int),()))
    else some (r1.1,((0:Int),()))
def nY (b:List Int):Option (Im×List (List Sh)×Int×Unit):=
 (pA b).bind fun r1=>
 bif r1.2.1 !=0 then
  some ((([]:List Cl),(([]:List Tp),(([]:List Int),(([]:List Mt),(([]:List Int),((0:Int),((0:Int),()))))))),(([]:List (List Sh)),r1.2.1,()))
 else
  (nX r1.1).bind fun r2=>
  bif r2.2.1 !=0 then
   some ((([]:List Cl),(([]:List Tp),(([]:List Int),(([]:List Mt),(([]:List Int),((0:Int),((0:Int),()))))))),(([]:List (List Sh)),r2.2.1,()))
  else some (r1.1,r2.1,((0:Int),()))
def aDu (m:Im) (r2:List Int×Unit) (s3:Int×Int×Unit) (rec4:(Int×Int×Unit)→Option (Int×Unit)):Option (Int×Unit):=
 bif decide (s3.2.1<(r2.1.length:Int)) then
  bif decide (0≤s3.2.1)&&decide (s3.2.1<r2.1.length) then
   bif decide (0≤r2.1.getD s3.2.1.toNat 0)&&decide (r2.1.getD s3.2.1.toNat 0<m.2.2.2.1.length) then
    bif decide ((m.2.2.2.1.getD (r2.1.getD s3.2.1.toNat 0).toNat zMt).2.2.2.2.2.1>s3.1) then
     bif decide (0≤s3.2.1)&&decide (s3.2.1<r2.1.length) then
      bif decide (0≤r2.1.getD s3.2.1.toNat 0)&&decide (r2.1.getD s3.2.1.toNat 0<m.2.2.2.1.length) then
       rec4 ((m.2.2.2.1.getD (r2.1.getD s3.2.1.toNat 0).toNat zMt).2.2.2.2.2.1,IntKind.i64.wrap (s3.2.1+1),())
      else none
     else none
    else rec4 (s3.1,IntKind.i64.wrap (s3.2.1+1),())
   else none
  else none
 else some (s3.1,())
def aK1 (fuel:Nat) (m:Im) (i:Ins):Option (Int×Unit):=
 bif i.1==22 then
  (kO m i.2.1).bind fun r1=>
  some (IntKind.i64.wrap ((1:Int)+(r1.1.length:Int)),())
 else bif i.1==23 then
  some (IntKind.i64.wrap ((1:Int)+i.2.1),())
 else
  (rQ m i).bind fun r2=>
  aD (aDu m r2) fuel ((0:Int),((0:Int),()))
def aC3 (a:List (List Sh)) (b:List (List Sh)) (s1:Int×Unit) (rec2:(Int×Unit)→Option (Bool×Unit)) (s3:Int×Unit) (rec4:(Int×Unit)→Option (Bool×Unit)):Option (Bool×Unit):=
 bif decide (0≤s1.1)&&decide (s1.1<a.length) then
  bif decide (s3.1<((a.getD s1.1.toNat ([]:List Sh)).length:Int)) then
   bif decide (0≤s1.1)&&decide (s1.1<a.length) then
    bif decide (0≤s3.1)&&decide (s3.1<(a.getD s1.1.toNat ([]:List Sh)).length) then
     bif decide (0≤s1.1)&&decide (s1.1<b.length) then
      bif decide (0≤s3.1)&&decide (s3.1<(b.getD s1.1.toNat ([]:List Sh)).length) then
       bif !(((a.getD s1.1.toNat ([]:List Sh)).getD s3.1.toNat zSh).1==((b.getD s1.1.toNat ([]:List Sh)).getD s3.1.toNat zSh).1) then
        some (false,())
       else bif decide (0≤s1.1)&&decide (s1.1<a.length) then
        bif decide (0≤s3.1)&&decide (s3.1<(a.getD s1.1.toNat ([]:List Sh)).length) then
         bif decide (0≤s1.1)&&decide (s1.1<b.length) then
          bif decide (0≤s3.1)&&decide (s3.1<(b.getD s1.1.toNat ([]:List Sh)).length) then
           bif !(kN ((a.getD s1.1.toNat ([]:List Sh)).getD s3.1.toNat zSh).2.1 ((b.getD s1.1.toNat ([]:List Sh)).getD s3.1.toNat zSh).2.1) then
            some (false,())
           else rec4 (IntKind.i64.wrap (s3.1+1),())
          else none
         else none
        else none
       else none
      else none
     else none
    else none
   else none
  else rec2 (IntKind.i64.wrap (s1.1+1),())
 else none
def aC2 (a:List (List Sh)) (b:List (List Sh)) (fuel:Nat) (s1:Int×Unit) (rec2:(Int×Unit)→Option (Bool×Unit)):Option (Bool×Unit):=
 bif decide (s1.1<(a.length:Int)) then
  bif decide (0≤s1.1)&&decide (s1.1<a.length) then
   bif decide (0≤s1.1)&&decide (s1.1<b.length) then
    bif ((a.getD s1.1.toNat ([]:List Sh)).length:Int) !=((b.getD s1.1.toNat ([]:List Sh)).length:Int) then
     some (false,())
    else aD (aC3 a b s1 rec2) fuel ((0:Int),())
   else none
  else none
 else some (true,())
def aKw (fuel:Nat) (a:List (List Sh)) (b:List (List Sh)):Option (Bool×Unit):=
 bif (a.length:Int) !=(b.length:Int) then
  some (false,())
 else aD (aC2 a b fuel) fuel ((0:Int),())
def awake16N:Option (Bool×Unit):=
 (nX (([]:List Cl),(([]:List Tp),(([]:List Int),([(([]:List Tp),(([]:List Tp),(((5:Int),((0:Int),())),([((33:Int),((0:Int),((0:Int),())))],((0:Int),((0:Int),(([0]:List Int),())))))))],(([0]:List Int),((3:Int),((0:Int),())))))))).bind fun r1=>
 (nX (([]:List Cl),(([]:List Tp),(([]:List Int),([(([]:List Tp),(([]:List Tp),(((5:Int),((0:Int),())),([((33:Int),((0:Int),((0:Int),())))],((0:Int),((0:Int),(([0]:List Int),())))))))],(([0]:List Int),((2:Int),((0:Int),())))))))).bind fun r2=>
 (pH (([]:List Cl),(([]:List Tp),(([]:List Int),([(([]:List Tp),(([]:List Tp),(((5:Int),((0:Int),())),([((33:Int),((0:Int),((0:Int),())))],((0:Int),((0:Int),(([0]:List Int),())))))))],(([0]:List Int),((2:Int),((0:Int),()))))))) r1.1).bind fun r3=>
 (nY ([]:List Int)).bind fun r4=>
 bif r1.2.1==0 then
  bif r2.2.1==7 then
   bif r3.2.2.1==0 then
    bif r3.1==3 then
     bif r3.2.1==0 then
      bif r4.2.2.1==2 then
       bif (r1.1.length:Int)==1 then
        bif (jT (([]:List Cl),(([]:List Tp),(([]:List Int),([(([]:List Tp),(([]:List Tp),(((5:Int),((0:Int),())),([((33:Int),((0:Int),((0:Int),())))],((0:Int),((0:Int),(([0]:List Int),())))))))],(([0]:List Int),((2:Int),((0:Int),())))))))) then
         (vX (([]:List Cl),(([]:List Tp),(([]:List Int),([(([]:List Tp),(([]:List Tp),(((5:Int),((0:Int),())),([((33:Int),((0:Int),((0:Int),())))],((0:Int),((0:Int),(([0]:List Int),())))))))],(([0]:List Int),((2:Int),((0:Int),())))))))).bind fun r5=>
         bif (r5.1.length:Int)==1 then
          bif decide ((0:Int)<[(([]:List Tp),(([]:List Tp),(((5:Int),((0:Int),())),([((33:Int),((0:Int),((0:Int),())))],((0:Int),((0:Int),(([0]:List Int),())))))))].length) then
           bif decide ((0:Int)<([(([]:List Tp),(([]:List Tp),(((5:Int),((0:Int),())),([((33:Int),((0:Int),((0:Int),())))],((0:Int),((0:Int),(([0]:List Int),())))))))].getD 0 zMt).2.2.2.1.length) then
            (vZ (([]:List Cl),(([]:List Tp),(([]:List Int),([(([]:List Tp),(([]:List Tp),(((5:Int),((0:Int),())),([((33:Int),((0:Int),((0:Int),())))],((0:Int),((0:Int),(([0]:List Int),())))))))],(([0]:List Int),((2:Int),((0:Int),()))))))) (([(([]:List Tp),(([]:List Tp),(((5:Int),((0:Int),())),([((33:Int),((0:Int),((0:Int),())))],((0:Int),((0:Int),(([0]:List Int),())))))))].getD 0 zMt).2.2.2.1.getD 0 cC)).bind fun r6=>
            some (r6.1==0,())
           else none
          else none
         else some (false,())
        else some (false,())
       else some (false,())
      else some (false,())
     else some (false,())
    else some (false,())
   else some (false,())
  else some (false,())
 else some (false,())
def aJn (m:Im):Prop:=((m.1.length≤lenMax∧∀x1:Cl,x1∈m.1→(True∧((x1.2.1.length≤lenMax∧∀x2:Tp,x2∈x1.2.1→(True∧(True∧True)))∧((x1.2.2.1.length≤lenMax∧∀x2:Int,x2∈x1.2.2.1→True)∧True))))∧((m.2.1.length≤lenMax∧∀x1:Tp,x1∈m.2.1→(True∧(True∧True)))∧((m.2.2.1.length≤lenMax∧∀x1:Int,x1∈m.2.2.1→True)∧((m.2.2.2.1.length≤lenMax∧∀x1:Mt,x1∈m.2.2.2.1→((x1.1.length≤lenMax∧∀x2:Tp,x2∈x1.1→(True∧(True∧True)))∧((x1.2.1.length≤lenMax∧∀x2:Tp,x2∈x1.2.1→(True∧(True∧True)))∧((True∧(True∧True))∧((x1.2.2.2.1.length≤lenMax∧∀x2:Ins,x2∈x1.2.2.2.1→(True∧(True∧(True∧True))))∧(True∧(True∧((x1.2.2.2.2.2.2.1.length≤lenMax∧∀x2:Int,x2∈x1.2.2.2.2.2.2.1→True)∧True))))))))∧((m.2.2.2.2.1.length≤lenMax∧∀x1:Int,x1∈m.2.2.2.2.1→True)∧(True∧(True∧True)))))))∧True
def aA1 (m:Im) (s1:Int×Unit) (rec2:(Int×Unit)→Option (Bool×Unit)):Option (Bool×Unit):=
 bif decide (s1.1<(m.2.2.2.1.length:Int)) then
  bif decide (0≤s1.1)&&decide (s1.1<m.2.2.2.1.length) then
   bif decide (IntKind.i64.wrap ((IntKind.i64.wrap ((IntKind.i64.wrap (((m.2.2.2.1.getD s1.1.toNat zMt).1.length:Int)+((m.2.2.2.1.getD s1.1.toNat zMt).2.1.length:Int)))+((m.2.2.2.1.getD s1.1.toNat zMt).2.2.2.1.length:Int)))+((m.2.2.2.1.getD s1.1.toNat zMt).2.2.2.2.2.2.1.length:Int))>300) then
    some (false,())
   else rec2 (IntKind.i64.wrap (s1.1+1),())
  else none
 else some (true,())
def aJm (fuel:Nat) (m:Im):Option (Bool×Unit):=
 bif decide (IntKind.i64.wrap ((IntKind.i64.wrap ((IntKind.i64.wrap ((IntKind.i64.wrap ((m.1.length:Int)+(m.2.1.length:Int)))+(m.2.2.1.length:Int)))+(m.2.2.2.1.length:Int)))+(m.2.2.2.2.1.length:Int))>100) then
  some (false,())
 else aD (aA1 m) fuel ((0:Int),())
end
end Go.Pli

namespace Go.Pli
open Go Go.PM
noncomputable section
def aBr (x:Mt) (n:Int):Option (Tp×Unit):=
 bif decide (([]:List Tp).length+x.1.length<rowMax) then
  bif decide ((([]:List Tp)++x.1).length+x.2.1.length<rowMax) then
   bif decide (n<0) then
    some (((0:Int),((0:Int),())),())
   else bif decide (n≥(((([]:List Tp)++x.1)++x.2.1).length:Int)) then
    some (((0:Int),((0:Int),())),())
   else bif decide (0≤n)&&decide (n<((([]:List Tp)++x.1)++x.2.1).length) then
    some (((([]:List Tp)++x.1)++x.2.1).getD n.toNat zTp,())
   else none
  else none
 else none
def aBa (r3:List Int×Unit) (r4:List Int×Unit) (s5:Int×Unit) (rec6:(Int×Unit)→Option (Tp×Unit)):Option (Tp×Unit):=
 bif decide (s5.1<(r3.1.length:Int)) then
  bif decide (0≤s5.1)&&decide (s5.1<r3.1.length) then
   (rin r4.1 (r3.1.getD s5.1.toNat 0)).bind fun r7=>
   bif r7.1 then
    bif decide (0≤s5.1)&&decide (s5.1<r3.1.length) then
     some (((3:Int),r3.1.getD s5.1.toNat 0,()),())
    else none
   else rec6 (IntKind.i64.wrap (s5.1+1),())
  else none
 else some (((0:Int),((0:Int),())),())
def aJ6 (fuel:Nat) (l:List Cl) (a:Tp) (b:Tp):Option (Tp×Unit):=
 (oL l a b).bind fun r1=>
 bif r1.1 then
  some (b,())
 else
  (oL l b a).bind fun r2=>
  bif r2.1 then
   some (a,())
  else bif a.1 !=3 then
   some (((0:Int),((0:Int),())),())
  else bif b.1 !=3 then
   some (((0:Int),((0:Int),())),())
  else
   (lF l a.2.1).bind fun r3=>
   (lF l b.2.1).bind fun r4=>
   aD (aBa r3 r4) fuel ((1:Int),())
def yS (x:Mt):Option (List Tp×Unit):=
 bif x.2.2.1.1==5 then
  some (([]:List Tp),())
 else some ([x.2.2.1],())
def aBk (m:Im) (f:Int) (i:Ins):Option (List Tp×List Tp×Unit):=
 bif i.1==1 then
  some (([]:List Tp),([((1:Int),((0:Int),()))],()))
 else bif i.1==2 then
  some (([]:List Tp),([((4:Int),((0:Int),()))],()))
 else bif i.1==3 then
  bif decide (0≤f)&&decide (f<m.2.2.2.1.length) then
   (aBr (m.2.2.2.1.getD f.toNat zMt) i.2.1).bind fun r1=>
   some (([]:List Tp),[r1.1],())
  else none
 else bif i.1==4 then
  bif decide (0≤f)&&decide (f<m.2.2.2.1.length) then
   (aBr (m.2.2.2.1.getD f.toNat zMt) i.2.1).bind fun r2=>
   some ([r2.1],(([]:List Tp),()))
  else none
 else bif i.1==5 then
  some ([((0:Int),((0:Int),()))],(([]:List Tp),()))
 else bif i.1==19 then
  some ([((1:Int),((0:Int),()))],(([]:List Tp),()))
 else bif i.1==20 then
  some ([((4:Int),((0:Int),()))],([((1:Int),((0:Int),()))],()))
 else bif i.1==21 then
  some ([((4:Int),((0:Int),())),((4:Int),((0:Int),()))],([((1:Int),((0:Int),()))],()))
 else bif i.1==22 then
  some (([]:List Tp),([((3:Int),i.2.1,())],()))
 else bif i.1==23 then
  some ([((1:Int),((0:Int),()))],([((2:Int),((0:Int),()))],()))
 else bif i.1==24 then
  some ([((2:Int),((0:Int),())),((1:Int),((0:Int),()))],([((1:Int),((0:Int),()))],()))
 else bif i.1==25 then
  some ([((2:Int),((0:Int),())),((1:Int),((0:Int),())),((1:Int),((0:Int),()))],(([]:List Tp),()))
 else bif i.1==26 then
  some ([((2:Int),((0:Int),()))],([((1:Int),((0:Int),()))],()))
 else bif i.1==27 then
  (kO m i.2.1).bind fun r3=>
  bif decide (0≤i.2.2.1)&&decide (i.2.2.1≤IntKind.i64.wrap (i.2.2.1+1))&&decide (IntKind.i64.wrap (i.2.2.1+1)≤(r3.1.length:Int)) then
   some ([((3:Int),i.2.1,())],(r3.1.take (IntKind.i64.wrap (i.2.2.1+1)).toNat).drop i.2.2.1.toNat,())
  else none
 else bif i.1==28 then
  (kO m i.2.1).bind fun r4=>
  bif decide (0≤i.2.2.1)&&decide (i.2.2.1<r4.1.length) then
   some ([((3:Int),i.2.1,()),r4.1.getD i.2.2.1.toNat zTp],(([]:List Tp),()))
  else none
 else bif i.1==29 then
  bif decide (0≤i.2.1)&&decide (i.2.1<m.2.1.length) then
   some (([]:List Tp),[m.2.1.getD i.2.1.toNat zTp],())
  else none
 else bif i.1==30 then
  bif decide (0≤i.2.1)&&decide (i.2.1<m.2.1.length) then
   some ([m.2.1.getD i.2.1.toNat zTp],(([]:List Tp),()))
  else none
 else bif i.1==34 then
  some ([((4:Int),((0:Int),()))],([((3:Int),i.2.1,())],()))
 else bif i.1==33 then
  bif decide (0≤f)&&decide (f<m.2.2.2.1.length) then
   (yS (m.2.2.2.1.getD f.toNat zMt)).bind fun r5=>
   some (r5.1,(([]:List Tp),()))
  else none
 else bif i.1==31 then
  bif decide (0≤i.2.1)&&decide (i.2.1<m.2.2.2.1.length) then
   bif decide (0≤i.2.1)&&decide (i.2.1<m.2.2.2.1.length) then
    (yS (m.2.2.2.1.getD i.2.1.toNat zMt)).bind fun r6=>
    some ((m.2.2.2.1.getD i.2.1.toNat zMt).1,r6.1,())
   else none
  else none
 else bif i.1==32 then
  let r7:=aBp m i.2.1 i.2.2.1
  bif decide (0≤r7.1)&&decide (r7.1<m.2.2.2.1.length) then
   bif decide ((1:Int)≤((m.2.2.2.1.getD r7.1.toNat zMt).1.length:Int))&&decide (((m.2.2.2.1.getD r7.1.toNat zMt).1.length:Int)≤((m.2.2.2.1.getD r7.1.toNat zMt).1.length:Int)) then
    bif decide ([((3:Int),i.2.1,())].length+(((m.2.2.2.1.getD r7.1.toNat zMt).1.take ((m.2.2.2.1.getD r7.1.toNat zMt).1.length:Int).toNat).drop 1).length<rowMax) then
     bif decide (0≤r7.1)&&decide (r7.1<m.2.2.2.1.length) then
      (yS (m.2.2.2.1.getD r7.1.toNat zMt)).bind fun r8=>
      some ([((3:Int),i.2.1,())]++(((m.2.2.2.1.getD r7.1.toNat zMt).1.take ((m.2.2.2.1.getD r7.1.toNat zMt).1.length:Int).toNat).drop 1),r8.1,())
     else none
    else none
   else none
  else none
 else bif decide (i.1≥7) then
  bif decide (i.1≤17) then
   some ([((1:Int),((0:Int),())),((1:Int),((0:Int),()))],([((1:Int),((0:Int),()))],()))
  else some (([]:List Tp),(([]:List Tp),()))
 else some (([]:List Tp),(([]:List Tp),()))
def aBg (m:Im) (f:Int) (pc:Int) (s:List Tp) (s5:List Int×Unit) (s10:List Tp×List Tp×Unit) (s16:Int×Unit) (rec17:(Int×Unit)→Option (List Tp×List Int×Int×Unit)):Option (List Tp×List Int×Int×Unit):=
 bif decide (s16.1<(s10.1.length:Int)) then
  bif decide (0≤IntKind.i64.wrap ((IntKind.i64.wrap ((s.length:Int) - (s10.1.length:Int)))+s16.1))&&decide (IntKind.i64.wrap ((IntKind.i64.wrap ((s.length:Int) - (s10.1.length:Int)))+s16.1)<s.length) then
   bif decide (0≤s16.1)&&decide (s16.1<s10.1.length) then
    bif ((s10.1.getD s16.1.toNat zTp).1)==0 then
     rec17 (IntKind.i64.wrap (s16.1+1),())
    else bif ((s10.1.getD s16.1.toNat zTp).1)==4 then
     bif !(vT (s.getD (IntKind.i64.wrap ((IntKind.i64.wrap ((s.length:Int) - (s10.1.length:Int)))+s16.1)).toNat zTp)) then
      some (([]:List Tp),(([]:List Int),((4:Int),())))
     else bif (((m.2.2.2.1.getD f.toNat zMt).2.2.2.1.getD pc.toNat cC).1)==34 then
      bif ((s.getD (IntKind.i64.wrap ((IntKind.i64.wrap ((s.length:Int) - (s10.1.length:Int)))+s16.1)).toNat zTp).1)==2 then
       some (([]:List Tp),(([]:List Int),((4:Int),())))
      else rec17 (IntKind.i64.wrap (s16.1+1),())
     else rec17 (IntKind.i64.wrap (s16.1+1),())
    else
     (oL m.1 (s.getD (IntKind.i64.wrap ((IntKind.i64.wrap ((s.length:Int) - (s10.1.length:Int)))+s16.1)).toNat zTp) (s10.1.getD s16.1.toNat zTp)).bind fun r18=>
     bif !r18.1 then
      some (([]:List Tp),(([]:List Int),((4:Int),())))
     else rec17 (IntKind.i64.wrap (s16.1+1),())
   else none
  else none
 else bif decide ((0:Int)≤IntKind.i64.wrap ((s.length:Int) - (s10.1.length:Int)))&&decide (IntKind.i64.wrap ((s.length:Int) - (s10.1.length:Int))≤(s.length:Int)) then
  bif decide (([]:List Tp).length+((s.take (IntKind.i64.wrap ((s.length:Int) - (s10.1.length:Int))).toNat).drop 0).length<rowMax) then
   bif decide ((([]:List Tp)++((s.take (IntKind.i64.wrap ((s.length:Int) - (s10.1.length:Int))).toNat).drop 0)).length+s10.2.1.length<rowMax) then
    some ((([]:List Tp)++((s.take (IntKind.i64.wrap ((s.length:Int) - (s10.1.length:Int))).toNat).drop 0))++s10.2.1,s5.1,((0:Int),()))
   else none
  else none
 else none
def yQ (fuel:Nat) (m:Im) (f:Int) (pc:Int) (s:List Tp):Option (List Tp×List Int×Int×Unit):=
 bif decide (f<0) then
  some (([]:List Tp),(([]:List Int),((1:Int),())))
 else bif decide (f≥(m.2.2.2.1.length:Int)) then
  some (([]:List Tp),(([]:List Int),((1:Int),())))
 else bif decide (pc<0) then
  some (([]:List Tp),(([]:List Int),((1:Int),())))
 else bif decide (0≤f)&&decide (f<m.2.2.2.1.length) then
  bif decide (pc≥((m.2.2.2.1.getD f.toNat zMt).2.2.2.1.length:Int)) then
   some (([]:List Tp),(([]:List Int),((1:Int),())))
  else bif decide (0≤f)&&decide (f<m.2.2.2.1.length) then
   bif decide (0≤pc)&&decide (pc<(m.2.2.2.1.getD f.toNat zMt).2.2.2.1.length) then
    (bif (((m.2.2.2.1.getD f.toNat zMt).2.2.2.1.getD pc.toNat cC).1)==18 then
     some (.inl ([((m.2.2.2.1.getD f.toNat zMt).2.2.2.1.getD pc.toNat cC).2.1],()))
    else some (.inl ([IntKind.i64.wrap (pc+1)],())):Option ((List Int×Unit)⊕(List Tp×List Int×Int×Unit))).bind fun q=>match q with
    | .inr r2=>some r2
    | .inl s1=>
     (bif (((m.2.2.2.1.getD f.toNat zMt).2.2.2.1.getD pc.toNat cC).1)==19 then
      bif decide (s1.1.length+[((m.2.2.2.1.getD f.toNat zMt).2.2.2.1.getD pc.toNat cC).2.1].length<rowMax) then
       some (.inl (s1.1++[((m.2.2.2.1.getD f.toNat zMt).2.2.2.1.getD pc.toNat cC).2.1],()))
      else none
     else some (.inl (s1.1,())):Option ((List Int×Unit)⊕(List Tp×List Int×Int×Unit))).bind fun q=>match q with
     | .inr r4=>some r4
     | .inl s3=>
      (bif (((m.2.2.2.1.getD f.toNat zMt).2.2.2.1.getD pc.toNat cC).1)==33 then
       some (.inl (([]:List Int),()))
      else some (.inl (s3.1,())):Option ((List Int×Unit)⊕(List Tp×List Int×Int×Unit))).bind fun q=>match q with
      | .inr r6=>some r6
      | .inl s5=>
       (bif decide ((s5.1.length:Int)>0) then
        bif decide ((0:Int)<s5.1.length) then
         bif decide (0≤f)&&decide (f<m.2.2.2.1.length) then
          bif decide (s5.1.getD 0 0≥((m.2.2.2.1.getD f.toNat zMt).2.2.2.1.length:Int)) then
           some (.inr (([]:List Tp),(([]:List Int),((4:Int),()))))
          else some (.inl ())
         else none
        else none
       else some (.inl ()):Option (Unit⊕(List Tp×List Int×Int×Unit))).bind fun q=>match q with
       | .inr r8=>some r8
       | .inl _=>
        (aBk m f ((m.2.2.2.1.getD f.toNat zMt).2.2.2.1.getD pc.toNat cC)).bind fun r9=>
        ((bif (((m.2.2.2.1.getD f.toNat zMt).2.2.2.1.getD pc.toNat cC).1)==6 then
         some (.inl (decide ((s.length:Int)>0),()))
        else some (.inl (false,())):Option ((Bool×Unit)⊕((List Tp×List Tp×Unit)⊕(List Tp×List Int×Int×Unit)))).bind fun q=>match q with
        | .inr r13=>some r13
        | .inl s12=>
         bif s12.1 then
          bif decide (0≤IntKind.i64.wrap ((s.length:Int) - 1))&&decide (IntKind.i64.wrap ((s.length:Int) - 1)<s.length) then
           some (.inl ([((0:Int),((0:Int),()))],([s.getD (IntKind.i64.wrap ((s.length:Int) - 1)).toNat zTp,s.getD (IntKind.i64.wrap ((s.length:Int) - 1)).toNat zTp],())))
          else none
         else some (.inl (r9.1,r9.2.1,())):Option ((List Tp×List Tp×Unit)⊕(List Tp×List Int×Int×Unit))).bind fun q=>match q with
        | .inr r11=>some r11
        | .inl s10=>
         (bif (((m.2.2.2.1.getD f.toNat zMt).2.2.2.1.getD pc.toNat cC).1)==6 then
          bif (s.length:Int)==0 then
           some (.inr (([]:List Tp),(([]:List Int),((4:Int),()))))
          else bif decide ((s10.1.length:Int)>(s.length:Int)) then
           some (.inr (([]:List Tp),(([]:List Int),((4:Int),()))))
          else bif decide (IntKind.i64.wrap ((IntKind.i64.wrap ((s.length:Int) - (s10.1.length:Int)))+(s10.2.1.length:Int))>8) then
           some (.inr (([]:List Tp),(([]:List Int),((4:Int),()))))
          else some (.inl ())
         else bif decide ((s10.1.length:Int)>(s.length:Int)) then
          some (.inr (([]:List Tp),(([]:List Int),((4:Int),()))))
         else bif decide (IntKind.i64.wrap ((IntKind.i64.wrap ((s.length:Int) - (s10.1.length:Int)))+(s10.2.1.length:Int))>8) then
          some (.inr (([]:List Tp),(([]:List Int),((4:Int),()))))
         else some (.inl ()):Option (Unit⊕(List Tp×List Int×Int×Unit))).bind fun q=>match q with
         | .inr r15=>some r15
         | .inl _=>
          aD (aBg m f pc s s5 s10) fuel ((0:Int),())
   else none
  else none
 else none
def aBj (m:Im) (s6:Bool×Int×List Sh×Unit) (rec7:(Bool×Int×List Sh×Unit)→Option (List Sh×Bool×Unit)) (r5:List Tp×List Int×Int×Unit) (s8:List Tp×Int×Unit) (rec9:(List Tp×Int×Unit)→Option (List Sh×Bool×Unit)):Option (List Sh×Bool×Unit):=
 bif decide (s8.2.1<(r5.1.length:Int)) then
  bif decide (0≤r5.2.1.getD s6.2.1.toNat 0)&&decide (r5.2.1.getD s6.2.1.toNat 0<s6.2.2.1.length) then
   bif decide (0≤s8.2.1)&&decide (s8.2.1<(s6.2.2.1.getD (r5.2.1.getD s6.2.1.toNat 0).toNat zSh).2.1.length) then
    bif decide (0≤s8.2.1)&&decide (s8.2.1<r5.1.length) then
     (yM m.1 ((s6.2.2.1.getD (r5.2.1.getD s6.2.1.toNat 0).toNat zSh).2.1.getD s8.2.1.toNat zTp) (r5.1.getD s8.2.1.toNat zTp)).bind fun r10=>
     bif r10.1.1==0 then
      some (([]:List Sh),false,())
     else bif decide (s8.1.length+[r10.1].length<rowMax) then
      rec9 (s8.1++[r10.1],IntKind.i64.wrap (s8.2.1+1),())
     else none
    else none
   else none
  else none
 else bif decide (0≤r5.2.1.getD s6.2.1.toNat 0)&&decide (r5.2.1.getD s6.2.1.toNat 0<s6.2.2.1.length) then
  bif !(kN s8.1 (s6.2.2.1.getD (r5.2.1.getD s6.2.1.toNat 0).toNat zSh).2.1) then
   bif decide (0≤r5.2.1.getD s6.2.1.toNat 0)&&decide (r5.2.1.getD s6.2.1.toNat 0<s6.2.2.1.length) then
    rec7 (true,IntKind.i64.wrap (s6.2.1+1),s6.2.2.1.set (r5.2.1.getD s6.2.1.toNat 0).toNat (true,s8.1,()),())
   else none
  else rec7 (s6.1,IntKind.i64.wrap (s6.2.1+1),s6.2.2.1,())
 else none
def aBi (m:Im) (fuel:Nat) (s3:Bool×Int×List Sh×Unit) (rec4:(Bool×Int×List Sh×Unit)→Option (List Sh×Bool×Unit)) (r5:List Tp×List Int×Int×Unit) (s6:Bool×Int×List Sh×Unit) (rec7:(Bool×Int×List Sh×Unit)→Option (List Sh×Bool×Unit)):Option (List Sh×Bool×Unit):=
 bif decide (s6.2.1<(r5.2.1.length:Int)) then
  bif decide (0≤s6.2.1)&&decide (s6.2.1<r5.2.1.length) then
   bif decide (0≤r5.2.1.getD s6.2.1.toNat 0)&&decide (r5.2.1.getD s6.2.1.toNat 0<s6.2.2.1.length) then
    bif !(s6.2.2.1.getD (r5.2.1.getD s6.2.1.toNat 0).toNat zSh).1 then
     bif decide (0≤r5.2.1.getD s6.2.1.toNat 0)&&decide (r5.2.1.getD s6.2.1.toNat 0<s6.2.2.1.length) then
      rec7 (true,IntKind.i64.wrap (s6.2.1+1),s6.2.2.1.set (r5.2.1.getD s6.2.1.toNat 0).toNat (true,r5.1,()),())
     else none
    else bif decide (0≤r5.2.1.getD s6.2.1.toNat 0)&&decide (r5.2.1.getD s6.2.1.toNat 0<s6.2.2.1.length) then
     bif ((s6.2.2.1.getD (r5.2.1.getD s6.2.1.toNat 0).toNat zSh).2.1.length:Int) !=(r5.1.length:Int) then
      some (([]:List Sh),false,())
     else aD (aBj m s6 rec7 r5) fuel (([]:List Tp),((0:Int),()))
    else none
   else none
  else none
 else rec4 (s6.1,IntKind.i64.wrap (s3.2.1 - 1),s6.2.2.1,())
def aBh (m:Im) (f:Int) (fuel:Nat) (s1:Int×List Sh×Unit) (rec2:(Int×List Sh×Unit)→Option (List Sh×Bool×Unit)) (s3:Bool×Int×List Sh×Unit) (rec4:(Bool×Int×List Sh×Unit)→Option (List Sh×Bool×Unit)):Option (List Sh×Bool×Unit):=
 bif decide (s3.2.1≥0) then
  bif decide (0≤s3.2.1)&&decide (s3.2.1<s3.2.2.1.length) then
   bif !(s3.2.2.1.getD s3.2.1.toNat zSh).1 then
    rec4 (s3.1,IntKind.i64.wrap (s3.2.1 - 1),s3.2.2.1,())
   else bif decide (0≤s3.2.1)&&decide (s3.2.1<s3.2.2.1.length) then
    (rR m f s3.2.1 (s3.2.2.1.getD s3.2.1.toNat zSh).2.1).bind fun r5=>
    bif r5.2.2.1 !=0 then
     some (([]:List Sh),false,())
    else aD (aBi m fuel s3 rec4 r5) fuel (s3.1,((0:Int),s3.2.2.1,()))
   else none
  else none
 else bif !s3.1 then
  some (s3.2.2.1,true,())
 else rec2 (IntKind.i64.wrap (s1.1+1),s3.2.2.1,())
def aC1 (m:Im) (f:Int) (fuel:Nat) (s1:Int×List Sh×Unit) (rec2:(Int×List Sh×Unit)→Option (List Sh×Bool×Unit)):Option (List Sh×Bool×Unit):=
 bif decide (s1.1<4000) then
  aD (aBh m f fuel s1 rec2) fuel (false,(IntKind.i64.wrap (((m.2.2.2.1.getD f.toNat zMt).2.2.2.1.length:Int) - 1),s1.2.1,()))
 else some (([]:List Sh),false,())
def aKv (fuel:Nat) (m:Im) (f:Int):Option (List Sh×Bool×Unit):=
 bif decide (0≤f)&&decide (f<m.2.2.2.1.length) then
  bif decide (0≤((m.2.2.2.1.getD f.toNat zMt).2.2.2.1.length:Int))&&decide (((m.2.2.2.1.getD f.toNat zMt).2.2.2.1.length:Int)≤((m.2.2.2.1.getD f.toNat zMt).2.2.2.1.length:Int))&&decide (((m.2.2.2.1.getD f.toNat zMt).2.2.2.1.length:Int)<(rowMax:Int)) then
   bif ((m.2.2.2.1.getD f.toNat zMt).2.2.2.1.length:Int)==0 then
    some (([]:List Sh),false,())
   else bif decide ((0:Int)<(List.replicate ((m.2.2.2.1.getD f.toNat zMt).2.2.2.1.length:Int).toNat zSh).length) then
    aD (aC1 m f fuel) fuel ((0:Int),((List.replicate ((m.2.2.2.1.getD f.toNat zMt).2.2.2.1.length:Int).toNat zSh).set 0 (true,((List.replicate ((m.2.2.2.1.getD f.toNat zMt).2.2.2.1.length:Int).toNat zSh).getD 0 zSh).2),()))
   else none
  else none
 else none
def aC8 (m:Im) (s1:List (List Sh)×Int×Unit) (rec2:(List (List Sh)×Int×Unit)→Option (List (List Sh)×Int×Unit)):Option (List (List Sh)×Int×Unit):=
 bif decide (s1.2.1<(m.2.2.2.1.length:Int)) then
  (yR m s1.2.1).bind fun r3=>
  bif !r3.2.1 then
   some (([]:List (List Sh)),s1.2.1,())
  else bif decide (s1.1.length+[r3.1].length<rowMax) then
   rec2 (s1.1++[r3.1],IntKind.i64.wrap (s1.2.1+1),())
  else none
 else some (s1.1,((-1:Int),()))
def aKC (fuel:Nat) (m:Im):Option (List (List Sh)×Int×Unit):=
 aD (aC8 m) fuel (([]:List (List Sh)),((0:Int),()))
def vW (l:List (List Sh)) (f:Int) (s3:Int×Int×Unit) (rec4:(Int×Int×Unit)→Option ((Int×Unit)⊕(Int×Unit))):Option ((Int×Unit)⊕(Int×Unit)):=
 bif decide (f<(l.length:Int)) then
  bif decide (0≤f)&&decide (f<l.length) then
   bif decide (s3.2.1<((l.getD f.toNat ([]:List Sh)).length:Int)) then
    bif decide (0≤f)&&decide (f<l.length) then
     bif decide (0≤s3.2.1)&&decide (s3.2.1<(l.getD f.toNat ([]:List Sh)).length) then
      bif decide ((((l.getD f.toNat ([]:List Sh)).getD s3.2.1.toNat zSh).2.1.length:Int)>s3.1) then
       bif decide (0≤f)&&decide (f<l.length) then
        bif decide (0≤s3.2.1)&&decide (s3.2.1<(l.getD f.toNat ([]:List Sh)).length) then
         rec4 ((((l.getD f.toNat ([]:List Sh)).getD s3.2.1.toNat zSh).2.1.length:Int),IntKind.i64.wrap (s3.2.1+1),())
        else none
       else none
      else rec4 (s3.1,IntKind.i64.wrap (s3.2.1+1),())
     else none
    else none
   else some (.inl (s3.1,()))
  else none
 else some (.inl (s3.1,()))
def aKx (fuel:Nat) (m:Im) (l:List (List Sh)) (f:Int):Option (Int×Unit):=
 bif decide (f<0) then
  some ((0:Int),())
 else bif decide (f≥(m.2.2.2.1.length:Int)) then
  some ((0:Int),())
 else
  (aD (vW l f) fuel ((0:Int),((0:Int),())):Option ((Int×Unit)⊕(Int×Unit))).bind fun q=>match q with
  | .inr r2=>some r2
  | .inl s1=>
   bif decide (0≤f)&&decide (f<m.2.2.2.1.length) then
    bif decide (0≤f)&&decide (f<m.2.2.2.1.length) then
     some (IntKind.i64.wrap ((IntKind.i64.wrap ((IntKind.i64.wrap ((3:Int)+((m.2.2.2.1.getD f.toNat zMt).1.length:Int)))+((m.2.2.2.1.getD f.toNat zMt).2.1.length:Int)))+s1.1),())
    else none
   else none
def aBo (r1:List (List Int)×Unit) (r2:List (List Bool)×Unit) (s7:Int×List Int×Unit) (s9:Int×Int×Int×Unit) (s17:Int×Unit) (r19:Int×Unit) (s20:Int×Int×Unit) (rec21:(Int×Int×Unit)→Option ((Int×Int×Unit)⊕(List Int×Bool×Unit))):Option ((Int×Int×Unit)⊕(List Int×Bool×Unit)):=
 bif decide (0≤s9.2.2.1)&&decide (s9.2.2.1<r1.1.length) then
  bif decide (s20.2.1<((r1.1.getD s9.2.2.1.toNat ([]:List Int)).length:Int)) then
   bif decide (0≤s9.2.2.1)&&decide (s9.2.2.1<r1.1.length) then
    bif decide (0≤s20.2.1)&&decide (s20.2.1<(r1.1.getD s9.2.2.1.toNat ([]:List Int)).length) then
     bif decide (0≤(r1.1.getD s9.2.2.1.toNat ([]:List Int)).getD s20.2.1.toNat 0)&&decide ((r1.1.getD s9.2.2.1.toNat ([]:List Int)).getD s20.2.1.toNat 0<r2.1.length) then
      bif decide (0≤s9.2.2.1)&&decide (s9.2.2.1<(r2.1.getD ((r1.1.getD s9.2.2.1.toNat ([]:List Int)).getD s20.2.1.toNat 0).toNat ([]:List Bool)).length) then
       bif !((r2.1.getD ((r1.1.getD s9.2.2.1.toNat ([]:List Int)).getD s20.2.1.toNat 0).toNat ([]:List Bool)).getD s9.2.2.1.toNat false) then
        bif decide (0≤(r1.1.getD s9.2.2.1.toNat ([]:List Int)).getD s20.2.1.toNat 0)&&decide ((r1.1.getD s9.2.2.1.toNat ([]:List Int)).getD s20.2.1.toNat 0<s7.2.1.length) then
         bif decide (s7.2.1.getD ((r1.1.getD s9.2.2.1.toNat ([]:List Int)).getD s20.2.1.toNat 0).toNat 0>s20.1) then
          bif decide (0≤(r1.1.getD s9.2.2.1.toNat ([]:List Int)).getD s20.2.1.toNat 0)&&decide ((r1.1.getD s9.2.2.1.toNat ([]:List Int)).getD s20.2.1.toNat 0<s7.2.1.length) then
           rec21 (s7.2.1.getD ((r1.1.getD s9.2.2.1.toNat ([]:List Int)).getD s20.2.1.toNat 0).toNat 0,IntKind.i64.wrap (s20.2.1+1),())
          else none
         else rec21 (s20.1,IntKind.i64.wrap (s20.2.1+1),())
        else none
       else rec21 (s20.1,IntKind.i64.wrap (s20.2.1+1),())
      else none
     else none
    else none
   else none
  else some (.inl (IntKind.i64.wrap (s9.1+(IntKind.i64.wrap (s17.1*r19.1))),s20.1,()))
 else none
def aBn (m:Im) (l:List (List Sh)) (fuel:Nat) (r1:List (List Int)×Unit) (r2:List (List Bool)×Unit) (s7:Int×List Int×Unit) (rec8:(Int×List Int×Unit)→Option (List Int×Bool×Unit)) (s9:Int×Int×Int×Unit) (rec10:(Int×Int×Int×Unit)→Option (List Int×Bool×Unit)):Option (List Int×Bool×Unit):=
 bif decide (s9.2.2.1<(m.2.2.2.1.length:Int)) then
  (((bif s9.2.2.1 !=s7.1 then
   bif decide (0≤s7.1)&&decide (s7.1<r2.1.length) then
    bif decide (0≤s9.2.2.1)&&decide (s9.2.2.1<(r2.1.getD s7.1.toNat ([]:List Bool)).length) then
     bif (r2.1.getD s7.1.toNat ([]:List Bool)).getD s9.2.2.1.toNat false then
      bif decide (0≤s9.2.2.1)&&decide (s9.2.2.1<r2.1.length) then
       bif decide (0≤s7.1)&&decide (s7.1<(r2.1.getD s9.2.2.1.toNat ([]:List Bool)).length) then
        some (.inl (!((r2.1.getD s9.2.2.1.toNat ([]:List Bool)).getD s7.1.toNat false),()))
       else none
      else none
     else some (.inl (true,()))
    else none
   else none
  else some (.inl (false,())):Option ((Bool×Unit)⊕((Bool×Unit)⊕((Int×Int×Unit)⊕(List Int×Bool×Unit))))).bind fun q=>match q with
  | .inr r16=>some r16
  | .inl s15=>
   bif s15.1 then
    some (.inr (.inl (s9.1,s9.2.1,())))
   else some (.inl (false,())):Option ((Bool×Unit)⊕((Int×Int×Unit)⊕(List Int×Bool×Unit)))).bind fun q=>match q with
  | .inr r14=>some r14
  | .inl _=>
   (bif decide (0≤s9.2.2.1)&&decide (s9.2.2.1<r2.1.length) then
    bif decide (0≤s9.2.2.1)&&decide (s9.2.2.1<(r2.1.getD s9.2.2.1.toNat ([]:List Bool)).length) then
     bif (r2.1.getD s9.2.2.1.toNat ([]:List Bool)).getD s9.2.2.1.toNat false then
      bif decide (0≤s9.2.2.1)&&decide (s9.2.2.1<m.2.2.2.1.length) then
       some (.inl ((m.2.2.2.1.getD s9.2.2.1.toNat zMt).2.2.2.2.1,()))
      else none
     else some (.inl ((1:Int),()))
    else none
   else none:Option ((Int×Unit)⊕((Int×Int×Unit)⊕(List Int×Bool×Unit)))).bind fun q=>match q with
   | .inr r18=>some r18
   | .inl s17=>
    (yT m l s9.2.2.1).bind fun r19=>
    aD (aBo r1 r2 s7 s9 s17 r19) fuel (s9.2.1,((0:Int),())):Option ((Int×Int×Unit)⊕(List Int×Bool×Unit))).bind fun q=>match q with
  | .inr r12=>some r12
  | .inl s11=>
   rec10 (s11.1,s11.2.1,IntKind.i64.wrap (s9.2.2.1+1),())
 else bif decide (0≤s7.1)&&decide (s7.1<s7.2.1.length) then
  rec8 (IntKind.i64.wrap (s7.1+1),s7.2.1.set s7.1.toNat (IntKind.i64.wrap (s9.1+s9.2.1)),())
 else none
def aBm (m:Im) (l:List (List Sh)) (fuel:Nat) (r1:List (List Int)×Unit) (r2:List (List Bool)×Unit) (s5:Int×List Int×Unit) (rec6:(Int×List Int×Unit)→Option (List Int×Bool×Unit)) (s7:Int×List Int×Unit) (rec8:(Int×List Int×Unit)→Option (List Int×Bool×Unit)):Option (List Int×Bool×Unit):=
 bif decide (s7.1<(m.2.2.2.1.length:Int)) then
  aD (aBn m l fuel r1 r2 s7 rec8) fuel ((0:Int),((0:Int),((0:Int),())))
 else rec6 (IntKind.i64.wrap (s5.1+1),s7.2.1,())
def aBl (m:Im) (l:List (List Sh)) (fuel:Nat) (r1:List (List Int)×Unit) (r2:List (List Bool)×Unit) (s5:Int×List Int×Unit) (rec6:(Int×List Int×Unit)→Option (List Int×Bool×Unit)):Option (List Int×Bool×Unit):=
 bif decide (s5.1<(m.2.2.2.1.length:Int)) then
  aD (aBm m l fuel r1 r2 s5 rec6) fuel ((0:Int),s5.2.1,())
 else some (s5.2.1,true,())
def aC7 (m:Im) (l:List (List Sh)) (fuel:Nat) (r1:List (List Int)×Unit) (r2:List (List Bool)×Unit) (s3:Int×Unit) (rec4:(Int×Unit)→Option (List Int×Bool×Unit)):Option (List Int×Bool×Unit):=
 bif decide (s3.1<(m.2.2.2.1.length:Int)) then
  bif decide (0≤s3.1)&&decide (s3.1<r2.1.length) then
   bif decide (0≤s3.1)&&decide (s3.1<(r2.1.getD s3.1.toNat ([]:List Bool)).length) then
    bif (r2.1.getD s3.1.toNat ([]:List Bool)).getD s3.1.toNat false then
     bif decide (0≤s3.1)&&decide (s3.1<m.2.2.2.1.length) then
      bif decide ((m.2.2.2.1.getD s3.1.toNat zMt).2.2.2.2.1<1) then
       some (([]:List Int),false,())
      else rec4 (IntKind.i64.wrap (s3.1+1),())
     else none
    else rec4 (IntKind.i64.wrap (s3.1+1),())
   else none
  else none
 else bif decide (0≤(m.2.2.2.1.length:Int))&&decide ((m.2.2.2.1.length:Int)≤(m.2.2.2.1.length:Int))&&decide ((m.2.2.2.1.length:Int)<(rowMax:Int)) then
  aD (aBl m l fuel r1 r2) fuel ((0:Int),(List.replicate m.2.2.2.1.length (0:Int),()))
 else none
def aKB (fuel:Nat) (m:Im) (l:List (List Sh)):Option (List Int×Bool×Unit):=
 (vX m).bind fun r1=>
 (yP r1.1).bind fun r2=>
 aD (aC7 m l fuel r1 r2) fuel ((0:Int),())
def aDs (m:Im) (s1:Int×Unit) (s3:Int×Unit) (rec4:(Int×Unit)→Option (Int×Unit)) (r5:List Tp×List Int×Int×Unit) (s6:Int×Unit) (rec7:(Int×Unit)→Option (Int×Unit)):Option (Int×Unit):=
 bif decide (s6.1<(r5.2.1.length:Int)) then
  bif decide (0≤s3.1)&&decide (s3.1<(m.2.2.2.1.getD s1.1.toNat zMt).2.2.2.2.2.2.1.length) then
   bif decide (0≤s3.1)&&decide (s3.1<(m.2.2.2.1.getD s1.1.toNat zMt).2.2.2.1.length) then
    (vZ m ((m.2.2.2.1.getD s1.1.toNat zMt).2.2.2.1.getD s3.1.toNat cC)).bind fun r8=>
    bif decide (0≤s6.1)&&decide (s6.1<r5.2.1.length) then
     bif decide (0≤r5.2.1.getD s6.1.toNat 0)&&decide (r5.2.1.getD s6.1.toNat 0<(m.2.2.2.1.getD s1.1.toNat zMt).2.2.2.2.2.2.1.length) then
      bif decide ((m.2.2.2.1.getD s1.1.toNat zMt).2.2.2.2.2.2.1.getD s3.1.toNat 0<IntKind.i64.wrap (r8.1+((m.2.2.2.1.getD s1.1.toNat zMt).2.2.2.2.2.2.1.getD (r5.2.1.getD s6.1.toNat 0).toNat 0))) then
       some (s1.1,())
      else rec7 (IntKind.i64.wrap (s6.1+1),())
     else none
    else none
   else none
  else none
 else rec4 (IntKind.i64.wrap (s3.1+1),())
def aDr (m:Im) (l:List (List Sh)) (fuel:Nat) (s1:Int×Unit) (rec2:(Int×Unit)→Option (Int×Unit)) (s3:Int×Unit) (rec4:(Int×Unit)→Option (Int×Unit)):Option (Int×Unit):=
 bif decide (s3.1<((m.2.2.2.1.getD s1.1.toNat zMt).2.2.2.1.length:Int)) then
  bif decide (0≤s1.1)&&decide (s1.1<l.length) then
   bif decide (0≤s3.1)&&decide (s3.1<(l.getD s1.1.toNat ([]:List Sh)).length) then
    bif !((l.getD s1.1.toNat ([]:List Sh)).getD s3.1.toNat zSh).1 then
     rec4 (IntKind.i64.wrap (s3.1+1),())
    else bif decide (0≤s1.1)&&decide (s1.1<l.length) then
     bif decide (0≤s3.1)&&decide (s3.1<(l.getD s1.1.toNat ([]:List Sh)).length) then
      (rR m s1.1 s3.1 ((l.getD s1.1.toNat ([]:List Sh)).getD s3.1.toNat zSh).2.1).bind fun r5=>
      aD (aDs m s1 s3 rec4 r5) fuel ((0:Int),())
     else none
    else none
   else none
  else none
 else rec2 (IntKind.i64.wrap (s1.1+1),())
def aDq (m:Im) (l:List (List Sh)) (fuel:Nat) (s1:Int×Unit) (rec2:(Int×Unit)→Option (Int×Unit)):Option (Int×Unit):=
 bif decide (s1.1<(m.2.2.2.1.length:Int)) then
  bif decide (0≤s1.1)&&decide (s1.1<m.2.2.2.1.length) then
   bif decide ((0:Int)<(m.2.2.2.1.getD s1.1.toNat zMt).2.2.2.2.2.2.1.length) then
    bif decide ((m.2.2.2.1.getD s1.1.toNat zMt).2.2.2.2.2.2.1.getD 0 0>(m.2.2.2.1.getD s1.1.toNat zMt).2.2.2.2.2.1) then
     some (s1.1,())
    else aD (aDr m l fuel s1 rec2) fuel ((0:Int),())
   else none
  else none
 else some ((-1:Int),())
def aKY (fuel:Nat) (m:Im) (l:List (List Sh)):Option (Int×Unit):=
 aD (aDq m l fuel) fuel ((0:Int),())
def aDt (m:Im) (r1:List Int×Bool×Unit) (s2:Int×Int×Int×Unit) (rec3:(Int×Int×Int×Unit)→Option (Int×Int×Bool×Unit)):Option (Int×Int×Bool×Unit):=
 bif decide (s2.2.2.1<(m.2.2.2.2.1.length:Int)) then
  bif decide (0≤s2.2.2.1)&&decide (s2.2.2.1<m.2.2.2.2.1.length) then
   (bif decide (0≤m.2.2.2.2.1.getD s2.2.2.1.toNat 0)&&decide (m.2.2.2.2.1.getD s2.2.2.1.toNat 0<r1.1.length) then
    bif decide (r1.1.getD (m.2.2.2.2.1.getD s2.2.2.1.toNat 0).toNat 0>s2.1) then
     bif decide (0≤m.2.2.2.2.1.getD s2.2.2.1.toNat 0)&&decide (m.2.2.2.2.1.getD s2.2.2.1.toNat 0<r1.1.length) then
      some (.inl (r1.1.getD (m.2.2.2.2.1.getD s2.2.2.1.toNat 0).toNat 0,()))
     else none
    else some (.inl (s2.1,()))
   else none:Option ((Int×Unit)⊕(Int×Int×Bool×Unit))).bind fun q=>match q with
   | .inr r5=>some r5
   | .inl s4=>
    bif decide (0≤m.2.2.2.2.1.getD s2.2.2.1.toNat 0)&&decide (m.2.2.2.2.1.getD s2.2.2.1.toNat 0<m.2.2.2.1.length) then
     bif decide ((m.2.2.2.1.getD (m.2.2.2.2.1.getD s2.2.2.1.toNat 0).toNat zMt).2.2.2.2.2.1>s2.2.1) then
      bif decide (0≤m.2.2.2.2.1.getD s2.2.2.1.toNat 0)&&decide (m.2.2.2.2.1.getD s2.2.2.1.toNat 0<m.2.2.2.1.length) then
       rec3 (s4.1,(m.2.2.2.1.getD (m.2.2.2.2.1.getD s2.2.2.1.toNat 0).toNat zMt).2.2.2.2.2.1,IntKind.i64.wrap (s2.2.2.1+1),())
      else none
     else rec3 (s4.1,s2.2.1,IntKind.i64.wrap (s2.2.2.1+1),())
    else none
  else none
 else some (s2.1,(IntKind.i64.wrap ((m.2.1.length:Int)+s2.2.1),true,()))
def aKZ (fuel:Nat) (m:Im) (l:List (List Sh)):Option (Int×Int×Bool×Unit):=
 (rS m l).bind fun r1=>
 bif !r1.2.1 then
  some ((0:Int),((0:Int),false,()))
 else aD (aDt m r1) fuel ((0:Int),((0:Int),((0:Int),())))
def oO (m:Im):Option (List (List Sh)×Int×Unit):=
 bif (tU m) !=0 then
  some (([]:List (List Sh)),(tU m),())
 else
  (pX m).bind fun r1=>
  bif decide (r1.2.1≥0) then
   some (([]:List (List Sh)),((4:Int),()))
  else
   (tX m r1.1).bind fun r2=>
   bif !r2.2.2.1 then
    some (([]:List (List Sh)),((5:Int),()))
   else
    (tW m r1.1).bind fun r3=>
    bif decide (r3.1≥0) then
     some (([]:List (List Sh)),((6:Int),()))
    else bif decide (r2.1>m.2.2.2.2.2.1) then
     some (([]:List (List Sh)),((7:Int),()))
    else bif decide (r2.2.1>m.2.2.2.2.2.2.1) then
     some (([]:List (List Sh)),((7:Int),()))
    else some (r1.1,((0:Int),()))
end
end Go.Pli

namespace Go.Pli
open Go Go.PM
noncomputable section
def aF5 (m:Im) (s13:List Int×Int×Unit) (rec14:(List Int×Int×Unit)→Option (List Int×Unit)) (s19:List Int×Int×Unit) (rec20:(List Int×Int×Unit)→Option (List Int×Unit)):Option (List Int×Unit):=
 bif decide (s19.2.1<((m.2.2.2.1.getD s13.2.1.toNat zMt).2.2.2.1.length:Int)) then
  bif decide (0≤s19.2.1)&&decide (s19.2.1<(m.2.2.2.1.getD s13.2.1.toNat zMt).2.2.2.1.length) then
   (dN ((m.2.2.2.1.getD s13.2.1.toNat zMt).2.2.2.1.getD s19.2.1.toNat cC).1).bind fun r21=>
   bif decide (s19.1.length+r21.1.length<rowMax)&&true then
    (bif decide (0≤s19.2.1)&&decide (s19.2.1<(m.2.2.2.1.getD s13.2.1.toNat zMt).2.2.2.1.length) then
     bif decide ((mF ((m.2.2.2.1.getD s13.2.1.toNat zMt).2.2.2.1.getD s19.2.1.toNat cC).1)>0) then
      bif decide (0≤s19.2.1)&&decide (s19.2.1<(m.2.2.2.1.getD s13.2.1.toNat zMt).2.2.2.1.length) then
       (dN ((m.2.2.2.1.getD s13.2.1.toNat zMt).2.2.2.1.getD s19.2.1.toNat cC).2.1).bind fun r24=>
       bif decide ((s19.1++r21.1).length+r24.1.length<rowMax)&&true then
        some (.inl ((s19.1++r21.1)++r24.1,()))
       else none
      else none
     else some (.inl (s19.1++r21.1,()))
    else none:Option ((List Int×Unit)⊕(List Int×Unit))).bind fun q=>match q with
    | .inr r23=>some r23
    | .inl s22=>
     bif decide (0≤s19.2.1)&&decide (s19.2.1<(m.2.2.2.1.getD s13.2.1.toNat zMt).2.2.2.1.length) then
      bif decide ((mF ((m.2.2.2.1.getD s13.2.1.toNat zMt).2.2.2.1.getD s19.2.1.toNat cC).1)>1) then
       bif decide (0≤s19.2.1)&&decide (s19.2.1<(m.2.2.2.1.getD s13.2.1.toNat zMt).2.2.2.1.length) then
        (dN ((m.2.2.2.1.getD s13.2.1.toNat zMt).2.2.2.1.getD s19.2.1.toNat cC).2.2.1).bind fun r25=>
        bif decide (s22.1.length+r25.1.length<rowMax)&&true then
         rec20 (s22.1++r25.1,IntKind.i64.wrap (s19.2.1+1),())
        else none
       else none
      else rec20 (s22.1,IntKind.i64.wrap (s19.2.1+1),())
     else none
   else none
  else none
 else
  (dN (m.2.2.2.1.getD s13.2.1.toNat zMt).2.2.2.2.1).bind fun r26=>
  bif decide (s19.1.length+r26.1.length<rowMax)&&true then
   (dN (m.2.2.2.1.getD s13.2.1.toNat zMt).2.2.2.2.2.1).bind fun r27=>
   bif decide ((s19.1++r26.1).length+r27.1.length<rowMax)&&true then
    (oN (m.2.2.2.1.getD s13.2.1.toNat zMt).2.2.2.2.2.2.1).bind fun r28=>
    bif decide (((s19.1++r26.1)++r27.1).length+r28.1.length<rowMax)&&true then
     rec14 (((s19.1++r26.1)++r27.1)++r28.1,IntKind.i64.wrap (s13.2.1+1),())
    else none
   else none
  else none
def aF4 (m:Im) (fuel:Nat) (s13:List Int×Int×Unit) (rec14:(List Int×Int×Unit)→Option (List Int×Unit)):Option (List Int×Unit):=
 bif decide (s13.2.1<(m.2.2.2.1.length:Int)) then
  bif decide (0≤s13.2.1)&&decide (s13.2.1<m.2.2.2.1.length) then
   (mG (m.2.2.2.1.getD s13.2.1.toNat zMt).1).bind fun r15=>
   bif decide (s13.1.length+r15.1.length<rowMax)&&true then
    (mG (m.2.2.2.1.getD s13.2.1.toNat zMt).2.1).bind fun r16=>
    bif decide ((s13.1++r15.1).length+r16.1.length<rowMax)&&true then
     (tV (m.2.2.2.1.getD s13.2.1.toNat zMt).2.2.1).bind fun r17=>
     bif decide (((s13.1++r15.1)++r16.1).length+r17.1.length<rowMax)&&true then
      (dN ((m.2.2.2.1.getD s13.2.1.toNat zMt).2.2.2.1.length:Int)).bind fun r18=>
      bif decide ((((s13.1++r15.1)++r16.1)++r17.1).length+r18.1.length<rowMax)&&true then
       aD (aF5 m s13 rec14) fuel ((((s13.1++r15.1)++r16.1)++r17.1)++r18.1,((0:Int),()))
      else none
     else none
    else none
   else none
  else none
 else
  (oN m.2.2.2.2.1).bind fun r29=>
  bif decide (s13.1.length+r29.1.length<rowMax)&&true then
   (dN m.2.2.2.2.2.1).bind fun r30=>
   bif decide ((s13.1++r29.1).length+r30.1.length<rowMax)&&true then
    (dN m.2.2.2.2.2.2.1).bind fun r31=>
    bif decide (((s13.1++r29.1)++r30.1).length+r31.1.length<rowMax)&&true then
     some (((s13.1++r29.1)++r30.1)++r31.1,())
    else none
   else none
  else none
def aF3 (m:Im) (fuel:Nat) (s9:List Int×Int×Unit) (rec10:(List Int×Int×Unit)→Option (List Int×Unit)):Option (List Int×Unit):=
 bif decide (s9.2.1<(m.2.2.1.length:Int)) then
  bif decide (0≤s9.2.1)&&decide (s9.2.1<m.2.2.1.length) then
   (yK (m.2.2.1.getD s9.2.1.toNat 0)).bind fun r11=>
   bif decide (s9.1.length+r11.1.length<rowMax)&&true then
    rec10 (s9.1++r11.1,IntKind.i64.wrap (s9.2.1+1),())
   else none
  else none
 else
  (dN (m.2.2.2.1.length:Int)).bind fun r12=>
  bif decide (s9.1.length+r12.1.length<rowMax)&&true then
   aD (aF4 m fuel) fuel (s9.1++r12.1,((0:Int),()))
  else none
def aF2 (m:Im) (fuel:Nat) (s2:List Int×Int×Unit) (rec3:(List Int×Int×Unit)→Option (List Int×Unit)):Option (List Int×Unit):=
 bif decide (s2.2.1<(m.1.length:Int)) then
  bif decide (0≤s2.2.1)&&decide (s2.2.1<m.1.length) then
   (dN (IntKind.i64.wrap (((m.1.getD s2.2.1.toNat zCl).1)+1))).bind fun r4=>
   bif decide (s2.1.length+r4.1.length<rowMax)&&true then
    bif decide (0≤s2.2.1)&&decide (s2.2.1<m.1.length) then
     (mG (m.1.getD s2.2.1.toNat zCl).2.1).bind fun r5=>
     bif decide ((s2.1++r4.1).length+r5.1.length<rowMax)&&true then
      bif decide (0≤s2.2.1)&&decide (s2.2.1<m.1.length) then
       (oN (m.1.getD s2.2.1.toNat zCl).2.2.1).bind fun r6=>
       bif decide (((s2.1++r4.1)++r5.1).length+r6.1.length<rowMax)&&true then
        rec3 (((s2.1++r4.1)++r5.1)++r6.1,IntKind.i64.wrap (s2.2.1+1),())
       else none
      else none
     else none
    else none
   else none
  else none
 else
  (mG m.2.1).bind fun r7=>
  bif decide (s2.1.length+r7.1.length<rowMax)&&true then
   (dN (m.2.2.1.length:Int)).bind fun r8=>
   bif decide ((s2.1++r7.1).length+r8.1.length<rowMax)&&true then
    aD (aF3 m fuel) fuel ((s2.1++r7.1)++r8.1,((0:Int),()))
   else none
  else none
def aF1 (fuel:Nat) (m:Im):Option (List Int×Unit):=
 bif decide (0<([112,108,105,109]:List Int).length)&&true then
  (dN (m.1.length:Int)).bind fun r1=>
  bif decide (([112,108,105,109]:List Int).length+r1.1.length<rowMax)&&true then
   aD (aF2 m fuel) fuel (([112,108,105,109]:List Int)++r1.1,((0:Int),()))
  else none
 else none
def aIf (b:List Int) (m:Im) (t:Int):Option (Bool×Unit):=
 bif decide ((b.length:Int)>2000) then
  awake16N.bind fun r1=>
  some (r1.1,())
 else bif !(aA2 m) then
  awake16N.bind fun r2=>
  some (r2.1,())
 else bif (jT m) then
  (gU m).bind fun r3=>
  bif decide (t>0) then
   bif decide ((r3.1.length:Int)>0) then
    bif !decide ((r3.1.length:Int)=0) then
     bif decide (0≤(IntKind.i64.wrap t).tmod (r3.1.length:Int))&&decide ((IntKind.i64.wrap t).tmod (r3.1.length:Int)<r3.1.length) then
      bif decide (0≤(IntKind.i64.wrap t).tmod (r3.1.length:Int))&&decide ((IntKind.i64.wrap t).tmod (r3.1.length:Int)<r3.1.length) then
       (nY (r3.1.set ((IntKind.i64.wrap t).tmod (r3.1.length:Int)).toNat (IntKind.u8.wrap ((BitVec.ofInt 8 (r3.1.getD ((IntKind.i64.wrap t).tmod (r3.1.length:Int)).toNat 0) ^^^ BitVec.ofInt 8 (IntKind.u8.wrap (t.fdiv 256))).toNat)))).bind fun r4=>
       bif r4.2.2.1 !=0 then
        awake16N.bind fun r5=>
        bif r5.1 then
         bif (r4.2.1.length:Int)==0 then
          bif (pY r4.1 (([]:List Cl),(([]:List Tp),(([]:List Int),(([]:List Mt),(([]:List Int),((0:Int),((0:Int),())))))))) then
           bif r4.2.2.1 !=2 then
            some (true,())
           else bif decide (((r3.1.set ((IntKind.i64.wrap t).tmod (r3.1.length:Int)).toNat (IntKind.u8.wrap ((BitVec.ofInt 8 (r3.1.getD ((IntKind.i64.wrap t).tmod (r3.1.length:Int)).toNat 0) ^^^ BitVec.ofInt 8 (IntKind.u8.wrap (t.fdiv 256))).toNat))).length:Int)>8192) then
            some (true,())
           else bif !(jT m) then
            some (true,())
           else
            (gU m).bind fun r6=>
            some (!((strOfNums r6.1).toList==(strOfNums (r3.1.set ((IntKind.i64.wrap t).tmod (r3.1.length:Int)).toNat (IntKind.u8.wrap ((BitVec.ofInt 8 (r3.1.getD ((IntKind.i64.wrap t).tmod (r3.1.length:Int)).toNat 0) ^^^ BitVec.ofInt 8 (IntKind.u8.wrap (t.fdiv 256))).toNat)))).toList),())
          else some (false,())
         else some (false,())
        else some (false,())
       else
        (oO r4.1).bind fun r7=>
        awake16N.bind fun r8=>
        bif r8.1 then
         bif r7.2.1==0 then
          (pW r7.1 r4.2.1).bind fun r9=>
          bif r9.1 then
           (gU r4.1).bind fun r10=>
           some ((strOfNums r10.1).toList==(strOfNums (r3.1.set ((IntKind.i64.wrap t).tmod (r3.1.length:Int)).toNat (IntKind.u8.wrap ((BitVec.ofInt 8 (r3.1.getD ((IntKind.i64.wrap t).tmod (r3.1.length:Int)).toNat 0) ^^^ BitVec.ofInt 8 (IntKind.u8.wrap (t.fdiv 256))).toNat)))).toList,())
          else some (false,())
         else some (false,())
        else some (false,())
      else none
     else none
    else none
   else
    (nY r3.1).bind fun r11=>
    bif r11.2.2.1 !=0 then
     awake16N.bind fun r12=>
     bif r12.1 then
      bif (r11.2.1.length:Int)==0 then
       bif (pY r11.1 (([]:List Cl),(([]:List Tp),(([]:List Int),(([]:List Mt),(([]:List Int),((0:Int),((0:Int),())))))))) then
        bif r11.2.2.1 !=2 then
         some (true,())
        else bif decide ((r3.1.length:Int)>8192) then
         some (true,())
        else bif !(jT m) then
         some (true,())
        else
         (gU m).bind fun r13=>
         some (!((strOfNums r13.1).toList==(strOfNums r3.1).toList),())
       else some (false,())
      else some (false,())
     else some (false,())
    else
     (oO r11.1).bind fun r14=>
     awake16N.bind fun r15=>
     bif r15.1 then
      bif r14.2.1==0 then
       (pW r14.1 r11.2.1).bind fun r16=>
       bif r16.1 then
        (gU r11.1).bind fun r17=>
        some ((strOfNums r17.1).toList==(strOfNums r3.1).toList,())
       else some (false,())
      else some (false,())
     else some (false,())
  else
   (nY r3.1).bind fun r18=>
   bif r18.2.2.1 !=0 then
    awake16N.bind fun r19=>
    bif r19.1 then
     bif (r18.2.1.length:Int)==0 then
      bif (pY r18.1 (([]:List Cl),(([]:List Tp),(([]:List Int),(([]:List Mt),(([]:List Int),((0:Int),((0:Int),())))))))) then
       bif r18.2.2.1 !=2 then
        some (true,())
       else bif decide ((r3.1.length:Int)>8192) then
        some (true,())
       else bif !(jT m) then
        some (true,())
       else
        (gU m).bind fun r20=>
        some (!((strOfNums r20.1).toList==(strOfNums r3.1).toList),())
      else some (false,())
     else some (false,())
    else some (false,())
   else
    (oO r18.1).bind fun r21=>
    awake16N.bind fun r22=>
    bif r22.1 then
     bif r21.2.1==0 then
      (pW r21.1 r18.2.1).bind fun r23=>
      bif r23.1 then
       (gU r18.1).bind fun r24=>
       some ((strOfNums r24.1).toList==(strOfNums r3.1).toList,())
      else some (false,())
     else some (false,())
    else some (false,())
 else
  (nY b).bind fun r25=>
  bif r25.2.2.1 !=0 then
   awake16N.bind fun r26=>
   bif r26.1 then
    bif (r25.2.1.length:Int)==0 then
     bif (pY r25.1 (([]:List Cl),(([]:List Tp),(([]:List Int),(([]:List Mt),(([]:List Int),((0:Int),((0:Int),())))))))) then
      bif r25.2.2.1 !=2 then
       some (true,())
      else bif decide ((b.length:Int)>8192) then
       some (true,())
      else bif !(jT m) then
       some (true,())
      else
       (gU m).bind fun r27=>
       some (!((strOfNums r27.1).toList==(strOfNums b).toList),())
     else some (false,())
    else some (false,())
   else some (false,())
  else
   (oO r25.1).bind fun r28=>
   awake16N.bind fun r29=>
   bif r29.1 then
    bif r28.2.1==0 then
     (pW r28.1 r25.2.1).bind fun r30=>
     bif r30.1 then
      (gU r25.1).bind fun r31=>
      some ((strOfNums r31.1).toList==(strOfNums b).toList,())
     else some (false,())
    else some (false,())
   else some (false,())
end
end Go.Pli
