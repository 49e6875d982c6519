/- Who calls whom: what the functions come to, in plain Lean. -/
import Derived.Test.YtcofionghgmldaaGreatPliSp
namespace Go.Pli
open Go Go.PM
def ints (n:Nat):List Int:=(List.range n).map fun k:Nat=>(k:Int)
def leI (x y:Int):Bool:=decide (x≤y)
def xK (x:Int):List Int→List Int
 | []=>[x]
 | y::l=>bif leI x y then x::y::l else y::xK x l
def gF:List Int→List Int
 | []=>[]
 | x::l=>xK x (gF l)
def aFo (l:List Int):List Int×Unit:=(gF l,())
def bM:List Int→List Int
 | []=>[]
 | a::l=>match bM l with
  | []=>[a]
  | b::r=>bif a==b then b::r else a::b::r
def nM (m:Im):Int:=(m.2.2.2.1.length:Int)
def kU (m:Im) (c:Int):List Int:=(ints m.1.length).filter fun n=>bZ m.1 n c
def yS (m:Im) (c:Int):Option (List Int×Unit):=bif bC m then some (kU m c,()) else none
def tU (m:Im) (c:Int):Option (List Int×Unit):=bif bC m then some (kU m c,()) else none
def eZ (m:Im) (c n:Int):Bool:=(decide (0≤c)&&decide (c<(m.1.length:Int)))&&(decide (0≤n)&&decide (n<((bH m c).2.2.1.length:Int)))
def dK (m:Im) (c n:Int):Int×Bool×Unit:=bif eZ m c n then ((bH m c).2.2.1.getD n.toNat 0,true,()) else (0,false,())
def aB9 (m:Im) (c n:Int):Int×Bool×Unit:=dK m c n
def oR (m:Im) (l:List Int) (n:Int):List Int:=(l.filter fun c=>(dK m c n).2.1).map fun c=>(dK m c n).1
def aT (m:Im) (i:Ins):List Int:=bif i.1==31 then[i.2.1] else bif i.1==32 then oR m (kU m i.2.1) i.2.2.1 else[]
def kK (m:Im) (i:Ins):Option (List Int×Unit):=bif bC m then some (aT m i,()) else none
def jE (m:Im) (i:Ins):Option (List Int×Unit):=bif bC m then some (aT m i,()) else none
def inM (m:Im) (f:Int):Bool:=sin f (nM m)
def aBE (m:Im) (f:Int):List Int:=((aC m f).2.2.2.1.map (aT m)).flatten
def ofB (m:Im) (f:Int):List Int:=bif inM m f then bM (gF (aBE m f)) else[]
def cof (m:Im) (f:Int):Option (List Int×Unit):=bif bC m then some (ofB m f,()) else none
def gX (m:Im) (f g:Int):Bool:=(aC m f).2.2.2.1.any fun i=>(aT m i).contains g
def tX (m:Im) (f g:Int):Option (Bool×Unit):=bif bC m&&inM m f then some (gX m f g,()) else none
def aG (m:Im):List (List Int):=(ints m.2.2.2.1.length).map fun f=>(ints m.2.2.2.1.length).filter fun g=>gX m f g
def qT (m:Im):Option (List (List Int)×Unit):=bif bC m then some (aG m,()) else none
def sP (m:Im):Bool:=(ints m.2.2.2.1.length).all fun f=>(aBE m f).all (inM m)
def vP (l:List (List Int)) (i j:Nat):Bool:=(l.getD i []).contains (j:Int)
def cT (l:List (List Int)):Nat→Nat→Nat→Bool
 | 0,i,j=>vP l i j
 | k+1,i,j=>cT l k i j || (cT l k i k&&cT l k k j)
def fT (n:Nat) (f:Nat→Nat→Bool):List (List Bool):=(List.range n).map fun i=>(List.range n).map fun j=>f i j
def rR (l:List (List Int)):Bool:=Nat.ble l.length 1000&&l.all fun r=>Nat.ble r.length 1000
def yZ (l:List (List Int)):Option (List (List Bool)×Unit):=bif rR l then some (fT l.length (cT l l.length),()) else none
end Go.Pli

namespace Go.Pli
open Go Go.PM
def aAu (m:Im) (c:Int) (s1:List Int×Int×Unit) (rec2:(List Int×Int×Unit)→Option (List Int×Unit)):Option (List Int×Unit):=
 bif decide (s1.2.1<(m.1.length:Int)) then
  bif (bZ m.1 s1.2.1 c) then
   bif decide (s1.1.length+[s1.2.1].length<rowMax) then
    rec2 (s1.1++[s1.2.1],IntKind.i64.wrap (s1.2.1+1),())
   else none
  else rec2 (s1.1,IntKind.i64.wrap (s1.2.1+1),())
 else some ((idL s1.1),())
def aLR (fuel:Nat) (m:Im) (c:Int):Option (List Int×Unit):=
 aA (aAu m c) fuel (([]:List Int),((0:Int),()))
def aOt (m:Im) (c:Int) (n:Int):Option (Int×Bool×Unit):=
 bif decide (c<0) then
  some ((0:Int),false,())
 else bif decide (c≥(m.1.length:Int)) then
  some ((0:Int),false,())
 else bif decide (n<0) then
  some ((0:Int),false,())
 else bif decide (0≤c)&&decide (c<m.1.length) then
  bif decide (n≥((m.1.getD c.toNat zCl).2.2.1.length:Int)) then
   some ((0:Int),false,())
  else bif decide (0≤c)&&decide (c<m.1.length) then
   bif decide (0≤n)&&decide (n<(m.1.getD c.toNat zCl).2.2.1.length) then
    some ((m.1.getD c.toNat zCl).2.2.1.getD n.toNat 0,true,())
   else none
  else none
 else none
def aN5 (m:Im) (i:Ins) (r1:List Int×Unit) (s2:List Int×Int×Unit) (rec3:(List Int×Int×Unit)→Option (List Int×Unit)):Option (List Int×Unit):=
 bif decide (s2.2.1<(r1.1.length:Int)) then
  bif decide (0≤s2.2.1)&&decide (s2.2.1<r1.1.length) then
   let r4:=dK m (r1.1.getD s2.2.1.toNat 0) i.2.2.1
   bif r4.2.1 then
    bif decide (s2.1.length+[r4.1].length<rowMax) then
     rec3 (s2.1++[r4.1],IntKind.i64.wrap (s2.2.1+1),())
    else none
   else rec3 (s2.1,IntKind.i64.wrap (s2.2.1+1),())
  else none
 else some (s2.1,())
def aHn (fuel:Nat) (m:Im) (i:Ins):Option (List Int×Unit):=
 bif i.1==31 then
  bif decide (([]:List Int).length+[i.2.1].length<rowMax) then
   some (([]:List Int)++[i.2.1],())
  else none
 else bif i.1==32 then
  (yS m i.2.1).bind fun r1=>
  aA (aN5 m i r1) fuel (([]:List Int),((0:Int),()))
 else some (([]:List Int),())
def aIe (m:Im) (f:Int) (s1:List Int×Int×Unit) (rec2:(List Int×Int×Unit)→Option (List Int×Unit)):Option (List Int×Unit):=
 bif decide (s1.2.1<((m.2.2.2.1.getD f.toNat zMt).2.2.2.1.length:Int)) then
  bif decide (0≤s1.2.1)&&decide (s1.2.1<(m.2.2.2.1.getD f.toNat zMt).2.2.2.1.length) then
   (kK m ((m.2.2.2.1.getD f.toNat zMt).2.2.2.1.getD s1.2.1.toNat dN)).bind fun r3=>
   bif decide (s1.1.length+r3.1.length<rowMax)&&true then
    rec2 (s1.1++r3.1,IntKind.i64.wrap (s1.2.1+1),())
   else none
  else none
 else
  let r4:=aFo s1.1
  some ((idL (bM r4.1)),())
def aUG (fuel:Nat) (m:Im) (f:Int):Option (List Int×Unit):=
 bif decide (f<0) then
  some (([]:List Int),())
 else bif decide (f≥(m.2.2.2.1.length:Int)) then
  some (([]:List Int),())
 else bif decide (0≤f)&&decide (f<m.2.2.2.1.length) then
  aA (aIe m f) fuel (([]:List Int),((0:Int),()))
 else none
def wF (m:Im) (c:Int) (s1:List Int×Int×Unit) (rec2:(List Int×Int×Unit)→Option (List Int×Unit)):Option (List Int×Unit):=
 bif decide (s1.2.1<(m.1.length:Int)) then
  (jC m.1 s1.2.1).bind fun r3=>
  (rin r3.1 c).bind fun r4=>
  bif r4.1 then
   bif decide (s1.1.length+[s1.2.1].length<rowMax) then
    rec2 (s1.1++[s1.2.1],IntKind.i64.wrap (s1.2.1+1),())
   else none
  else rec2 (s1.1,IntKind.i64.wrap (s1.2.1+1),())
 else some (s1.1,())
def aJ3 (fuel:Nat) (m:Im) (c:Int):Option (List Int×Unit):=
 aA (wF m c) fuel (([]:List Int),((0:Int),()))
def aTv (m:Im) (c:Int) (n:Int):Option (Int×Bool×Unit):=
 bif decide (c<0) then
  some ((0:Int),false,())
 else bif decide (c≥(m.1.length:Int)) then
  some ((0:Int),false,())
 else bif decide (n<0) then
  some ((0:Int),false,())
 else bif decide (0≤c)&&decide (c<m.1.length) then
  bif decide (n≥((m.1.getD c.toNat zCl).2.2.1.length:Int)) then
   some ((0:Int),false,())
  else bif decide (0≤c)&&decide (c<m.1.length) then
   bif decide (0≤n)&&decide (n<(m.1.getD c.toNat zCl).2.2.1.length) then
    some ((m.1.getD c.toNat zCl).2.2.1.getD n.toNat 0,true,())
   else none
  else none
 else none
def aLt (m:Im) (i:Ins) (r3:List Int×Unit) (s4:List Int×Int×Unit) (rec5:(List Int×Int×Unit)→Option (List Int×Unit)):Option (List Int×Unit):=
 bif decide (s4.2.1<(r3.1.length:Int)) then
  bif decide (0≤s4.2.1)&&decide (s4.2.1<r3.1.length) then
   let r6:=aB9 m (r3.1.getD s4.2.1.toNat 0) i.2.2.1
   bif r6.2.1 then
    bif decide (s4.1.length+[r6.1].length<rowMax) then
     rec5 (s4.1++[r6.1],IntKind.i64.wrap (s4.2.1+1),())
    else none
   else rec5 (s4.1,IntKind.i64.wrap (s4.2.1+1),())
  else none
 else some (s4.1,())
def aEy (fuel:Nat) (m:Im) (i:Ins):Option (List Int×Unit):=
 (bif i.1==31 then
  bif decide (([]:List Int).length+[i.2.1].length<rowMax) then
   some (.inl (([]:List Int)++[i.2.1],()))
  else none
 else some (.inl (([]:List Int),())):Option ((List Int×Unit)⊕(List Int×Unit))).bind fun q=>match q with
 | .inr r2=>some r2
 | .inl s1=>
  bif i.1==32 then
   (tU m i.2.1).bind fun r3=>
   aA (aLt m i r3) fuel (s1.1,((0:Int),()))
  else some (s1.1,())
def vO (m:Im) (f:Int) (g:Int) (s1:Int×Unit) (rec2:(Int×Unit)→Option (Bool×Unit)):Option (Bool×Unit):=
 bif decide (0≤f)&&decide (f<m.2.2.2.1.length) then
  bif decide (s1.1<((m.2.2.2.1.getD f.toNat zMt).2.2.2.1.length:Int)) then
   bif decide (0≤f)&&decide (f<m.2.2.2.1.length) then
    bif decide (0≤s1.1)&&decide (s1.1<(m.2.2.2.1.getD f.toNat zMt).2.2.2.1.length) then
     (jE m ((m.2.2.2.1.getD f.toNat zMt).2.2.2.1.getD s1.1.toNat dN)).bind fun r3=>
     (rin r3.1 g).bind fun r4=>
     bif r4.1 then
      some (true,())
     else rec2 (IntKind.i64.wrap (s1.1+1),())
    else none
   else none
  else some (false,())
 else none
def aJ8 (fuel:Nat) (m:Im) (f:Int) (g:Int):Option (Bool×Unit):=
 aA (vO m f g) fuel ((0:Int),())
def xA (m:Im) (s1:List (List Int)×Int×Unit) (rec2:(List (List Int)×Int×Unit)→Option (List (List Int)×Unit)) (s3:List Int×Int×Unit) (rec4:(List Int×Int×Unit)→Option (List (List Int)×Unit)):Option (List (List Int)×Unit):=
 bif decide (s3.2.1<(m.2.2.2.1.length:Int)) then
  (tX m s1.2.1 s3.2.1).bind fun r5=>
  bif r5.1 then
   bif decide (s3.1.length+[s3.2.1].length<rowMax) then
    rec4 (s3.1++[s3.2.1],IntKind.i64.wrap (s3.2.1+1),())
   else none
  else rec4 (s3.1,IntKind.i64.wrap (s3.2.1+1),())
 else bif decide (s1.1.length+[s3.1].length<rowMax)&&true then
  rec2 (s1.1++[s3.1],IntKind.i64.wrap (s1.2.1+1),())
 else none
def wU (m:Im) (fuel:Nat) (s1:List (List Int)×Int×Unit) (rec2:(List (List Int)×Int×Unit)→Option (List (List Int)×Unit)):Option (List (List Int)×Unit):=
 bif decide (s1.2.1<(m.2.2.2.1.length:Int)) then
  aA (xA m s1 rec2) fuel (([]:List Int),((0:Int),()))
 else some (s1.1,())
def aJy (fuel:Nat) (m:Im):Option (List (List Int)×Unit):=
 aA (wU m fuel) fuel (([]:List (List Int)),((0:Int),()))
def aAU (l:List (List Int)) (s1:Int×List (List Bool)×Unit) (rec2:(Int×List (List Bool)×Unit)→Option (List (List Bool)×Unit)) (s3:Int×List (List Bool)×Unit) (rec4:(Int×List (List Bool)×Unit)→Option (List (List Bool)×Unit)):Option (List (List Bool)×Unit):=
 bif decide (0≤s1.1)&&decide (s1.1<l.length) then
  bif decide (s3.1<((l.getD s1.1.toNat ([]:List Int)).length:Int)) then
   bif decide (0≤s1.1)&&decide (s1.1<l.length) then
    bif decide (0≤s3.1)&&decide (s3.1<(l.getD s1.1.toNat ([]:List Int)).length) then
     bif decide ((l.getD s1.1.toNat ([]:List Int)).getD s3.1.toNat 0≥0) then
      bif decide (0≤s1.1)&&decide (s1.1<l.length) then
       bif decide (0≤s3.1)&&decide (s3.1<(l.getD s1.1.toNat ([]:List Int)).length) then
        bif decide ((l.getD s1.1.toNat ([]:List Int)).getD s3.1.toNat 0<(l.length:Int)) then
         bif decide (0≤s1.1)&&decide (s1.1<s3.2.1.length) then
          bif decide (0≤s1.1)&&decide (s1.1<l.length) then
           bif decide (0≤s3.1)&&decide (s3.1<(l.getD s1.1.toNat ([]:List Int)).length) then
            bif decide (0≤(l.getD s1.1.toNat ([]:List Int)).getD s3.1.toNat 0)&&decide ((l.getD s1.1.toNat ([]:List Int)).getD s3.1.toNat 0<(s3.2.1.getD s1.1.toNat ([]:List Bool)).length) then
             rec4 (IntKind.i64.wrap (s3.1+1),(s3.2.1.set s1.1.toNat ((s3.2.1.getD s1.1.toNat ([]:List Bool)).set ((l.getD s1.1.toNat ([]:List Int)).getD s3.1.toNat 0).toNat true),()))
            else none
           else none
          else none
         else none
        else rec4 (IntKind.i64.wrap (s3.1+1),s3.2.1,())
       else none
      else none
     else rec4 (IntKind.i64.wrap (s3.1+1),s3.2.1,())
    else none
   else none
  else rec2 (IntKind.i64.wrap (s1.1+1),s3.2.1,())
 else none
def aEj (l:List (List Int)) (s5:Int×List (List Bool)×Unit) (s7:Int×List (List Bool)×Unit) (rec8:(Int×List (List Bool)×Unit)→Option (List (List Bool)×Unit)) (s9:Int×List (List Bool)×Unit) (rec10:(Int×List (List Bool)×Unit)→Option (List (List Bool)×Unit)):Option (List (List Bool)×Unit):=
 bif decide (s9.1<(l.length:Int)) then
  bif decide (0≤s7.1)&&decide (s7.1<s9.2.1.length) then
   bif decide (0≤s7.1)&&decide (s7.1<s9.2.1.length) then
    bif decide (0≤s9.1)&&decide (s9.1<(s9.2.1.getD s7.1.toNat ([]:List Bool)).length) then
     bif (s9.2.1.getD s7.1.toNat ([]:List Bool)).getD s9.1.toNat false then
      bif decide (0≤s9.1)&&decide (s9.1<(s9.2.1.getD s7.1.toNat ([]:List Bool)).length) then
       rec10 (IntKind.i64.wrap (s9.1+1),(s9.2.1.set s7.1.toNat ((s9.2.1.getD s7.1.toNat ([]:List Bool)).set s9.1.toNat true),()))
      else none
     else bif decide (0≤s7.1)&&decide (s7.1<s9.2.1.length) then
      bif decide (0≤s5.1)&&decide (s5.1<(s9.2.1.getD s7.1.toNat ([]:List Bool)).length) then
       bif (s9.2.1.getD s7.1.toNat ([]:List Bool)).getD s5.1.toNat false then
        bif decide (0≤s5.1)&&decide (s5.1<s9.2.1.length) then
         bif decide (0≤s9.1)&&decide (s9.1<(s9.2.1.getD s5.1.toNat ([]:List Bool)).length) then
          bif decide (0≤s9.1)&&decide (s9.1<(s9.2.1.getD s7.1.toNat ([]:List Bool)).length) then
           rec10 (IntKind.i64.wrap (s9.1+1),(s9.2.1.set s7.1.toNat ((s9.2.1.getD s7.1.toNat ([]:List Bool)).set s9.1.toNat ((s9.2.1.getD s5.1.toNat ([]:List Bool)).getD s9.1.toNat false)),()))
          else none
         else none
        else none
       else bif decide (0≤s9.1)&&decide (s9.1<(s9.2.1.getD s7.1.toNat ([]:List Bool)).length) then
        rec10 (IntKind.i64.wrap (s9.1+1),(s9.2.1.set s7.1.toNat ((s9.2.1.getD s7.1.toNat ([]:List Bool)).set s9.1.toNat false),()))
       else none
      else none
     else none
    else none
   else none
  else none
 else rec8 (IntKind.i64.wrap (s7.1+1),s9.2.1,())
def aAr (l:List (List Int)) (fuel:Nat) (s5:Int×List (List Bool)×Unit) (rec6:(Int×List (List Bool)×Unit)→Option (List (List Bool)×Unit)) (s7:Int×List (List Bool)×Unit) (rec8:(Int×List (List Bool)×Unit)→Option (List (List Bool)×Unit)):Option (List (List Bool)×Unit):=
 bif decide (s7.1<(l.length:Int)) then
  aA (aEj l s5 s7 rec8) fuel ((0:Int),s7.2.1,())
 else rec6 (IntKind.i64.wrap (s5.1+1),s7.2.1,())
def zY (l:List (List Int)) (fuel:Nat) (s5:Int×List (List Bool)×Unit) (rec6:(Int×List (List Bool)×Unit)→Option (List (List Bool)×Unit)):Option (List (List Bool)×Unit):=
 bif decide (s5.1<(l.length:Int)) then
  aA (aAr l fuel s5 rec6) fuel ((0:Int),s5.2.1,())
 else some (s5.2.1,())
def aEf (l:List (List Int)) (fuel:Nat) (s1:Int×List (List Bool)×Unit) (rec2:(Int×List (List Bool)×Unit)→Option (List (List Bool)×Unit)):Option (List (List Bool)×Unit):=
 bif decide (s1.1<(l.length:Int)) then
  bif decide (0≤(l.length:Int))&&decide ((l.length:Int)≤(l.length:Int))&&decide ((l.length:Int)<(rowMax:Int)) then
   bif decide (0≤s1.1)&&decide (s1.1<s1.2.1.length) then
    aA (aAU l s1 rec2) fuel ((0:Int),s1.2.1.set s1.1.toNat (List.replicate l.length false),())
   else none
  else none
 else aA (zY l fuel) fuel ((0:Int),s1.2.1,())
def aLI (fuel:Nat) (l:List (List Int)):Option (List (List Bool)×Unit):=
 bif decide (0≤(l.length:Int))&&decide ((l.length:Int)≤(l.length:Int))&&decide ((l.length:Int)<(rowMax:Int)) then
  aA (aEf l fuel) fuel ((0:Int),(List.replicate l.length ([]:List Bool),()))
 else none
end Go.Pli

namespace Go.Pli
open Go Go.PM
noncomputable def pick {α:Type} (f:Nat→Option α):Option α:=open Classical in if h:∃k,(f k).isSome then f h.choose else none
theorem aGG {α:Type} {f:Nat→Option α} {r:α} (h:pick f=some r):∃k,f k=some r:=by
 unfold pick at h
 split at h
 ·exact⟨_,h⟩
 ·cases h
def aVL {α:Type} (f:Nat→Option α) (Q:α→Prop):Prop:=∃K,∀k,(∃r,f k=some r∧Q r)∨(f k=none∧k≤K)
theorem aCk {α:Type} {f:Nat→Option α} {Q:α→Prop} (h:aVL f Q):∃r,pick f=some r∧Q r:=by
 obtain⟨K,h⟩:=h
 have hs:∃k,(f k).isSome:=by
  rcases h (K+1) with⟨r,hr,-⟩ | ⟨-,hk⟩
  ·exact⟨K+1,by rw[hr];rfl⟩
  ·omega
 unfold pick
 rw[dif_pos hs]
 have:=hs.choose_spec
 rcases h hs.choose with⟨r,hr,hq⟩ | ⟨hn,-⟩
 ·exact⟨r,hr,hq⟩
 ·rw[hn] at this;cases this
theorem aCl {S R:Type} {L:S→(S→Option R)→Option R} {I:S→Prop} {μ:S→Nat} {Q:R→Prop}
  (h:∀s rec,I s→(∃r,L s rec=some r∧Q r)∨∃s',L s rec=rec s'∧I s'∧μ s'<μ s):∀(k:Nat) (s:S),I s→(∃r,aA L k s=some r∧Q r)∨(aA L k s=none∧k≤μ s)
 | 0,s,_=> .inr ⟨rfl,Nat.zero_le _⟩
 | k+1,s,hs=>by
  rw[aD]
  rcases h s (aA L k) hs with h1 | ⟨s',h1,hs',hm⟩
  ·exact .inl h1
  ·rw[h1]
   rcases aCl h k s' hs' with h2 | ⟨h2,hk⟩
   ·exact .inl h2
   ·exact .inr ⟨h2,by omega⟩
end Go.Pli

namespace Go.Pli
open Go Go.PM
noncomputable section
def tK (f:List (List Int)×List Int×List Int×List Bool×List Int×Int×List (List Int)×Unit) (n:Int):Option ((List (List Int)×List Int×List Int×List Bool×List Int×Int×List (List Int)×Unit)×Unit):=
 bif decide (0≤n)&&decide (n<f.2.1.length) then
  bif decide (0≤n)&&decide (n<f.2.2.1.length) then
   bif decide (0≤n)&&decide (n<f.2.2.2.1.length) then
    bif decide (f.2.2.2.2.1.length+[n].length<rowMax)&&true then
     some ((f.1,f.2.1.set n.toNat (IntKind.i64.wrap (f.2.2.2.2.2.1+1)),f.2.2.1.set n.toNat (IntKind.i64.wrap (f.2.2.2.2.2.1+1)),f.2.2.2.1.set n.toNat true,f.2.2.2.2.1++[n],IntKind.i64.wrap (f.2.2.2.2.2.1+1),f.2.2.2.2.2.2),())
    else none
   else none
  else none
 else none
def aDL (f:List (List Int)×List Int×List Int×List Bool×List Int×Int×List (List Int)×Unit) (n:Int) (s1:List Int×List Bool×List Int×Unit) (rec2:(List Int×List Bool×List Int×Unit)→Option ((List (List Int)×List Int×List Int×List Bool×List Int×Int×List (List Int)×Unit)×Unit)):Option ((List (List Int)×List Int×List Int×List Bool×List Int×Int×List (List Int)×Unit)×Unit):=
 bif decide (0≤IntKind.i64.wrap ((s1.2.2.1.length:Int) - 1))&&decide (IntKind.i64.wrap ((s1.2.2.1.length:Int) - 1)<s1.2.2.1.length) then
  bif decide ((0:Int)≤IntKind.i64.wrap ((s1.2.2.1.length:Int) - 1))&&decide (IntKind.i64.wrap ((s1.2.2.1.length:Int) - 1)≤(s1.2.2.1.length:Int))&&true then
   bif decide (0≤s1.2.2.1.getD (IntKind.i64.wrap ((s1.2.2.1.length:Int) - 1)).toNat 0)&&decide (s1.2.2.1.getD (IntKind.i64.wrap ((s1.2.2.1.length:Int) - 1)).toNat 0<s1.2.1.length) then
    bif decide (s1.1.length+[s1.2.2.1.getD (IntKind.i64.wrap ((s1.2.2.1.length:Int) - 1)).toNat 0].length<rowMax)&&true then
     bif (s1.2.2.1.getD (IntKind.i64.wrap ((s1.2.2.1.length:Int) - 1)).toNat 0)==n then
      let r3:=aFo (s1.1++[s1.2.2.1.getD (IntKind.i64.wrap ((s1.2.2.1.length:Int) - 1)).toNat 0])
      bif decide (f.2.2.2.2.2.2.1.length+[(idL r3.1)].length<rowMax)&&true then
       some ((f.1,f.2.1,f.2.2.1,(s1.2.1.set (s1.2.2.1.getD (IntKind.i64.wrap ((s1.2.2.1.length:Int) - 1)).toNat 0).toNat false,((s1.2.2.1.take (IntKind.i64.wrap ((s1.2.2.1.length:Int) - 1)).toNat).drop 0,f.2.2.2.2.2.1,f.2.2.2.2.2.2.1++[(idL r3.1)],()))),())
      else none
     else rec2 (s1.1++[s1.2.2.1.getD (IntKind.i64.wrap ((s1.2.2.1.length:Int) - 1)).toNat 0],(s1.2.1.set (s1.2.2.1.getD (IntKind.i64.wrap ((s1.2.2.1.length:Int) - 1)).toNat 0).toNat false,((s1.2.2.1.take (IntKind.i64.wrap ((s1.2.2.1.length:Int) - 1)).toNat).drop 0,())))
    else none
   else none
  else none
 else none
def yT (fuel:Nat) (f:List (List Int)×List Int×List Int×List Bool×List Int×Int×List (List Int)×Unit) (n:Int):Option ((List (List Int)×List Int×List Int×List Bool×List Int×Int×List (List Int)×Unit)×Unit):=
 bif decide (0≤n)&&decide (n<f.2.2.1.length) then
  bif decide (0≤n)&&decide (n<f.2.1.length) then
   bif (f.2.2.1.getD n.toNat 0) !=(f.2.1.getD n.toNat 0) then
    some (f,())
   else aA (aDL f n) fuel (([]:List Int),f.2.2.2.1,f.2.2.2.2.1,())
  else none
 else none
def xZ (f:List (List Int)×List Int×List Int×List Bool×List Int×Int×List (List Int)×Unit) (n:Int):Option ((List (List Int)×List Int×List Int×List Bool×List Int×Int×List (List Int)×Unit)×Unit):=pick fun fuel=>yT fuel f n
theorem aPk (f:List (List Int)×List Int×List Int×List Bool×List Int×Int×List (List Int)×Unit) (n:Int) (r) (h:xZ f n=some r):∃k,yT k f n=some r:=aGG h
def qE (s2:List Tp×List Int×List Int×List Bool×List Int×List (List Int)×(List (List Int)×Unit×Unit×Unit×Unit×Int×Unit×Unit)×Unit) (rec3:(List Tp×List Int×List Int×List Bool×List Int×List (List Int)×(List (List Int)×Unit×Unit×Unit×Unit×Int×Unit×Unit)×Unit)→Option ((List (List Int)×List Int×List Int×List Bool×List Int×Int×List (List Int)×Unit)×Unit)) (s4:List Tp×Int×List Int×Unit) (rec5:(List Tp×Int×List Int×Unit)→Option ((List (List Int)×List Int×List Int×List Bool×List Int×Int×List (List Int)×Unit)×Unit)):Option ((List (List Int)×List Int×List Int×List Bool×List Int×Int×List (List Int)×Unit)×Unit):=
 bif decide (0≤(s4.1.getD s4.2.1.toNat zTp).1)&&decide ((s4.1.getD s4.2.1.toNat zTp).1<s2.2.2.2.2.2.2.1.1.length) then
  bif decide ((s4.1.getD s4.2.1.toNat zTp).2.1<((s2.2.2.2.2.2.2.1.1.getD (s4.1.getD s4.2.1.toNat zTp).1.toNat ([]:List Int)).length:Int)) then
   bif decide (0≤(s4.1.getD s4.2.1.toNat zTp).1)&&decide ((s4.1.getD s4.2.1.toNat zTp).1<s2.2.2.2.2.2.2.1.1.length) then
    bif decide (0≤(s4.1.getD s4.2.1.toNat zTp).2.1)&&decide ((s4.1.getD s4.2.1.toNat zTp).2.1<(s2.2.2.2.2.2.2.1.1.getD (s4.1.getD s4.2.1.toNat zTp).1.toNat ([]:List Int)).length) then
     (bif decide ((s2.2.2.2.2.2.2.1.1.getD (s4.1.getD s4.2.1.toNat zTp).1.toNat ([]:List Int)).getD (s4.1.getD s4.2.1.toNat zTp).2.1.toNat 0<0) then
      some (.inl (true,()))
     else some (.inl (decide ((s2.2.2.2.2.2.2.1.1.getD (s4.1.getD s4.2.1.toNat zTp).1.toNat ([]:List Int)).getD (s4.1.getD s4.2.1.toNat zTp).2.1.toNat 0≥(s2.2.2.2.2.2.2.1.1.length:Int)),())):Option ((Bool×Unit)⊕((List (List Int)×List Int×List Int×List Bool×List Int×Int×List (List Int)×Unit)×Unit))).bind fun q=>match q with
     | .inr r7=>some r7
     | .inl s6=>
      bif s6.1 then
       rec5 (s4.1.set s4.2.1.toNat ((s4.1.getD s4.2.1.toNat zTp).1,IntKind.i64.wrap (((s4.1.getD s4.2.1.toNat zTp).2.1)+1),()),((s4.2.1.toNat:Int),s4.2.2.1,()))
      else bif decide (0≤(s2.2.2.2.2.2.2.1.1.getD (s4.1.getD s4.2.1.toNat zTp).1.toNat ([]:List Int)).getD (s4.1.getD s4.2.1.toNat zTp).2.1.toNat 0)&&decide ((s2.2.2.2.2.2.2.1.1.getD (s4.1.getD s4.2.1.toNat zTp).1.toNat ([]:List Int)).getD (s4.1.getD s4.2.1.toNat zTp).2.1.toNat 0<s2.2.1.length) then
       bif (s2.2.1.getD ((s2.2.2.2.2.2.2.1.1.getD (s4.1.getD s4.2.1.toNat zTp).1.toNat ([]:List Int)).getD (s4.1.getD s4.2.1.toNat zTp).2.1.toNat 0).toNat 0)==0 then
        bif decide ((s4.1.set s4.2.1.toNat ((s4.1.getD s4.2.1.toNat zTp).1,IntKind.i64.wrap (((s4.1.getD s4.2.1.toNat zTp).2.1)+1),())).length+[((s2.2.2.2.2.2.2.1.1.getD (s4.1.getD s4.2.1.toNat zTp).1.toNat ([]:List Int)).getD (s4.1.getD s4.2.1.toNat zTp).2.1.toNat 0,((0:Int),()))].length<rowMax)&&true then
         (tK (s2.2.2.2.2.2.2.1.1,s2.2.1,s4.2.2.1,s2.2.2.2.1,s2.2.2.2.2.1,s2.2.2.2.2.2.2.1.2.2.2.2.2.1,s2.2.2.2.2.2.1,()) ((s2.2.2.2.2.2.2.1.1.getD (s4.1.getD s4.2.1.toNat zTp).1.toNat ([]:List Int)).getD (s4.1.getD s4.2.1.toNat zTp).2.1.toNat 0)).bind fun r8=>
         rec3 ((s4.1.set s4.2.1.toNat ((s4.1.getD s4.2.1.toNat zTp).1,IntKind.i64.wrap (((s4.1.getD s4.2.1.toNat zTp).2.1)+1),()))++[((s2.2.2.2.2.2.2.1.1.getD (s4.1.getD s4.2.1.toNat zTp).1.toNat ([]:List Int)).getD (s4.1.getD s4.2.1.toNat zTp).2.1.toNat 0,((0:Int),()))],r8.1.2.1,r8.1.2.2.1,r8.1.2.2.2.1,r8.1.2.2.2.2.1,r8.1.2.2.2.2.2.2.1,(r8.1.1,(),(),(),(),r8.1.2.2.2.2.2.1,(),()),())
        else none
       else bif decide (0≤(s2.2.2.2.2.2.2.1.1.getD (s4.1.getD s4.2.1.toNat zTp).1.toNat ([]:List Int)).getD (s4.1.getD s4.2.1.toNat zTp).2.1.toNat 0)&&decide ((s2.2.2.2.2.2.2.1.1.getD (s4.1.getD s4.2.1.toNat zTp).1.toNat ([]:List Int)).getD (s4.1.getD s4.2.1.toNat zTp).2.1.toNat 0<s2.2.2.2.1.length) then
        bif s2.2.2.2.1.getD ((s2.2.2.2.2.2.2.1.1.getD (s4.1.getD s4.2.1.toNat zTp).1.toNat ([]:List Int)).getD (s4.1.getD s4.2.1.toNat zTp).2.1.toNat 0).toNat false then
         bif decide (0≤((s4.1.set s4.2.1.toNat ((s4.1.getD s4.2.1.toNat zTp).1,IntKind.i64.wrap (((s4.1.getD s4.2.1.toNat zTp).2.1)+1),())).getD s4.2.1.toNat zTp).1)&&decide (((s4.1.set s4.2.1.toNat ((s4.1.getD s4.2.1.toNat zTp).1,IntKind.i64.wrap (((s4.1.getD s4.2.1.toNat zTp).2.1)+1),())).getD s4.2.1.toNat zTp).1<s4.2.2.1.length) then
          bif decide (0≤(s2.2.2.2.2.2.2.1.1.getD (s4.1.getD s4.2.1.toNat zTp).1.toNat ([]:List Int)).getD (s4.1.getD s4.2.1.toNat zTp).2.1.toNat 0)&&decide ((s2.2.2.2.2.2.2.1.1.getD (s4.1.getD s4.2.1.toNat zTp).1.toNat ([]:List Int)).getD (s4.1.getD s4.2.1.toNat zTp).2.1.toNat 0<s2.2.1.length) then
           bif decide (0≤((s4.1.set s4.2.1.toNat ((s4.1.getD s4.2.1.toNat zTp).1,IntKind.i64.wrap (((s4.1.getD s4.2.1.toNat zTp).2.1)+1),())).getD s4.2.1.toNat zTp).1)&&decide (((s4.1.set s4.2.1.toNat ((s4.1.getD s4.2.1.toNat zTp).1,IntKind.i64.wrap (((s4.1.getD s4.2.1.toNat zTp).2.1)+1),())).getD s4.2.1.toNat zTp).1<s4.2.2.1.length) then
            rec5 (s4.1.set s4.2.1.toNat ((s4.1.getD s4.2.1.toNat zTp).1,IntKind.i64.wrap (((s4.1.getD s4.2.1.toNat zTp).2.1)+1),()),((s4.2.1.toNat:Int),s4.2.2.1.set ((s4.1.set s4.2.1.toNat ((s4.1.getD s4.2.1.toNat zTp).1,IntKind.i64.wrap (((s4.1.getD s4.2.1.toNat zTp).2.1)+1),())).getD s4.2.1.toNat zTp).1.toNat (min (s4.2.2.1.getD ((s4.1.set s4.2.1.toNat ((s4.1.getD s4.2.1.toNat zTp).1,IntKind.i64.wrap (((s4.1.getD s4.2.1.toNat zTp).2.1)+1),())).getD s4.2.1.toNat zTp).1.toNat 0) (s2.2.1.getD ((s2.2.2.2.2.2.2.1.1.getD (s4.1.getD s4.2.1.toNat zTp).1.toNat ([]:List Int)).getD (s4.1.getD s4.2.1.toNat zTp).2.1.toNat 0).toNat 0)),()))
           else none
          else none
         else none
        else rec5 (s4.1.set s4.2.1.toNat ((s4.1.getD s4.2.1.toNat zTp).1,IntKind.i64.wrap (((s4.1.getD s4.2.1.toNat zTp).2.1)+1),()),((s4.2.1.toNat:Int),s4.2.2.1,()))
       else none
      else none
    else none
   else none
  else bif decide ((0:Int)≤IntKind.i64.wrap ((s4.1.length:Int) - 1))&&decide (IntKind.i64.wrap ((s4.1.length:Int) - 1)≤(s4.1.length:Int))&&true then
   (xZ (s2.2.2.2.2.2.2.1.1,s2.2.1,s4.2.2.1,s2.2.2.2.1,s2.2.2.2.2.1,s2.2.2.2.2.2.2.1.2.2.2.2.2.1,s2.2.2.2.2.2.1,()) (s4.1.getD s4.2.1.toNat zTp).1).bind fun r9=>
   bif decide ((((s4.1.take (IntKind.i64.wrap ((s4.1.length:Int) - 1)).toNat).drop 0).length:Int)>0) then
    bif decide (0≤IntKind.i64.wrap ((((s4.1.take (IntKind.i64.wrap ((s4.1.length:Int) - 1)).toNat).drop 0).length:Int) - 1))&&decide (IntKind.i64.wrap ((((s4.1.take (IntKind.i64.wrap ((s4.1.length:Int) - 1)).toNat).drop 0).length:Int) - 1)<((s4.1.take (IntKind.i64.wrap ((s4.1.length:Int) - 1)).toNat).drop 0).length) then
     bif decide (0≤(((s4.1.take (IntKind.i64.wrap ((s4.1.length:Int) - 1)).toNat).drop 0).getD (IntKind.i64.wrap ((((s4.1.take (IntKind.i64.wrap ((s4.1.length:Int) - 1)).toNat).drop 0).length:Int) - 1)).toNat zTp).1)&&decide ((((s4.1.take (IntKind.i64.wrap ((s4.1.length:Int) - 1)).toNat).drop 0).getD (IntKind.i64.wrap ((((s4.1.take (IntKind.i64.wrap ((s4.1.length:Int) - 1)).toNat).drop 0).length:Int) - 1)).toNat zTp).1<r9.1.2.2.1.length) then
      bif decide (0≤(s4.1.getD s4.2.1.toNat zTp).1)&&decide ((s4.1.getD s4.2.1.toNat zTp).1<r9.1.2.2.1.length) then
       bif decide (0≤(((s4.1.take (IntKind.i64.wrap ((s4.1.length:Int) - 1)).toNat).drop 0).getD (IntKind.i64.wrap ((((s4.1.take (IntKind.i64.wrap ((s4.1.length:Int) - 1)).toNat).drop 0).length:Int) - 1)).toNat zTp).1)&&decide ((((s4.1.take (IntKind.i64.wrap ((s4.1.length:Int) - 1)).toNat).drop 0).getD (IntKind.i64.wrap ((((s4.1.take (IntKind.i64.wrap ((s4.1.length:Int) - 1)).toNat).drop 0).length:Int) - 1)).toNat zTp).1<r9.1.2.2.1.length) then
        rec3 ((s4.1.take (IntKind.i64.wrap ((s4.1.length:Int) - 1)).toNat).drop 0,r9.1.2.1,(r9.1.2.2.1.set (((s4.1.take (IntKind.i64.wrap ((s4.1.length:Int) - 1)).toNat).drop 0).getD (IntKind.i64.wrap ((((s4.1.take (IntKind.i64.wrap ((s4.1.length:Int) - 1)).toNat).drop 0).length:Int) - 1)).toNat zTp).1.toNat (min (r9.1.2.2.1.getD (((s4.1.take (IntKind.i64.wrap ((s4.1.length:Int) - 1)).toNat).drop 0).getD (IntKind.i64.wrap ((((s4.1.take (IntKind.i64.wrap ((s4.1.length:Int) - 1)).toNat).drop 0).length:Int) - 1)).toNat zTp).1.toNat 0) (r9.1.2.2.1.getD (s4.1.getD s4.2.1.toNat zTp).1.toNat 0)),r9.1.2.2.2.1,r9.1.2.2.2.2.1,r9.1.2.2.2.2.2.2.1,(r9.1.1,(),(),(),(),r9.1.2.2.2.2.2.1,(),()),()))
       else none
      else none
     else none
    else none
   else rec3 ((s4.1.take (IntKind.i64.wrap ((s4.1.length:Int) - 1)).toNat).drop 0,r9.1.2.1,r9.1.2.2.1,r9.1.2.2.2.1,r9.1.2.2.2.2.1,r9.1.2.2.2.2.2.2.1,(r9.1.1,(),(),(),(),r9.1.2.2.2.2.2.1,(),()),())
  else none
 else none
def mS (fuel:Nat) (s2:List Tp×List Int×List Int×List Bool×List Int×List (List Int)×(List (List Int)×Unit×Unit×Unit×Unit×Int×Unit×Unit)×Unit) (rec3:(List Tp×List Int×List Int×List Bool×List Int×List (List Int)×(List (List Int)×Unit×Unit×Unit×Unit×Int×Unit×Unit)×Unit)→Option ((List (List Int)×List Int×List Int×List Bool×List Int×Int×List (List Int)×Unit)×Unit)):Option ((List (List Int)×List Int×List Int×List Bool×List Int×Int×List (List Int)×Unit)×Unit):=
 bif decide ((s2.1.length:Int)>0) then
  bif decide (0≤IntKind.i64.wrap ((s2.1.length:Int) - 1))&&decide (IntKind.i64.wrap ((s2.1.length:Int) - 1)<s2.1.length) then
   aA (qE s2 rec3) fuel (s2.1,(((IntKind.i64.wrap ((s2.1.length:Int) - 1)).toNat:Int),s2.2.2.1,()))
  else none
 else some ((s2.2.2.2.2.2.2.1.1,s2.2.1,s2.2.2.1,s2.2.2.2.1,s2.2.2.2.2.1,s2.2.2.2.2.2.2.1.2.2.2.2.2.1,s2.2.2.2.2.2.1,()),())
def sG (fuel:Nat) (f:List (List Int)×List Int×List Int×List Bool×List Int×Int×List (List Int)×Unit) (n:Int):Option ((List (List Int)×List Int×List Int×List Bool×List Int×Int×List (List Int)×Unit)×Unit):=
 (tK f n).bind fun r1=>
 aA (mS fuel) fuel (([(n,((0:Int),()))]:List Tp),r1.1.2.1,r1.1.2.2.1,r1.1.2.2.2.1,r1.1.2.2.2.2.1,r1.1.2.2.2.2.2.2.1,(r1.1.1,(),(),(),(),r1.1.2.2.2.2.2.1,(),()),())
def aCB (f:List (List Int)×List Int×List Int×List Bool×List Int×Int×List (List Int)×Unit) (n:Int):Option ((List (List Int)×List Int×List Int×List Bool×List Int×Int×List (List Int)×Unit)×Unit):=pick fun fuel=>sG fuel f n
theorem aRA (f:List (List Int)×List Int×List Int×List Bool×List Int×Int×List (List Int)×Unit) (n:Int) (r) (h:aCB f n=some r):∃k,sG k f n=some r:=aGG h
def aL5 (s:List Int):Option (List Int×Unit):=
 bif decide ((s.length:Int)=(s.length:Int))&&decide ((s.length:Int)=(s.length:Int))&&true then
  some (s,())
 else none
def aIo (s:List (List Int)):Option (List (List Int)×Unit):=
 bif decide ((s.length:Int)=(s.length:Int))&&decide ((s.length:Int)=(s.length:Int))&&true then
  some (s,())
 else none
def yV (l:List (List Int)) (s1:Int×List Int×List Int×List Bool×List Int×List (List Int)×(List (List Int)×Unit×Unit×Unit×Unit×Int×Unit×Unit)×Unit) (rec2:(Int×List Int×List Int×List Bool×List Int×List (List Int)×(List (List Int)×Unit×Unit×Unit×Unit×Int×Unit×Unit)×Unit)→Option (List (List Int)×Unit)):Option (List (List Int)×Unit):=
 bif decide (s1.1<(l.length:Int)) then
  bif decide (0≤s1.1)&&decide (s1.1<s1.2.1.length) then
   bif (s1.2.1.getD s1.1.toNat 0)==0 then
    (aCB (s1.2.2.2.2.2.2.1.1,s1.2.1,s1.2.2.1,s1.2.2.2.1,s1.2.2.2.2.1,s1.2.2.2.2.2.2.1.2.2.2.2.2.1,s1.2.2.2.2.2.1,()) s1.1).bind fun r3=>
    rec2 (IntKind.i64.wrap (s1.1+1),r3.1.2.1,r3.1.2.2.1,r3.1.2.2.2.1,r3.1.2.2.2.2.1,r3.1.2.2.2.2.2.2.1,(r3.1.1,(),(),(),(),r3.1.2.2.2.2.2.1,(),()),())
   else rec2 (IntKind.i64.wrap (s1.1+1),s1.2.1,s1.2.2.1,s1.2.2.2.1,s1.2.2.2.2.1,s1.2.2.2.2.2.1,s1.2.2.2.2.2.2.1,())
  else none
 else some ((idL s1.2.2.2.2.2.1),())
def vG (fuel:Nat) (l:List (List Int)):Option (List (List Int)×Unit):=
 bif decide (0≤(l.length:Int))&&decide ((l.length:Int)≤(l.length:Int))&&decide ((l.length:Int)<(rowMax:Int)) then
  bif decide (0≤(l.length:Int))&&decide ((l.length:Int)≤(l.length:Int))&&decide ((l.length:Int)<(rowMax:Int)) then
   bif decide (0≤(l.length:Int))&&decide ((l.length:Int)≤(l.length:Int))&&decide ((l.length:Int)<(rowMax:Int)) then
    aA (yV l) fuel ((0:Int),(List.replicate l.length (0:Int),(List.replicate l.length (0:Int),List.replicate l.length false,(([]:List Int),(([]:List (List Int)),(l,(),(),(),(),((0:Int),(),())),())))))
   else none
  else none
 else none
def nT (l:List (List Int)):Option (List (List Int)×Unit):=pick fun fuel=>vG fuel l
theorem aRf (l:List (List Int)) (r) (h:nT l=some r):∃k,vG k l=some r:=aGG h
end
end Go.Pli

namespace Go.Pli
open Go Go.PM
abbrev Sh:=Bool×List Tp×Unit
abbrev zSh:Sh:=(false,[],())
abbrev Iq:=List Int×Int×Unit
abbrev zIq:Iq:=([],0,())
def aF (m:Im):Bool:=bC m&&jQ m
def eS (l:List (List Sh)):Bool:=okL l&&l.all fun h=>okL h&&h.all fun s=>okL s.2.1
def aCy (_:Unit) (n:Int):Option (List Tp×Unit):=bif decide (0≤n)&&Nat.blt n.toNat 1000000000 then some ([],()) else none
def lM (l:List (List Tp)):Option (List Tp×Unit):=bif Nat.blt l.flatten.length 1000000000&&okL l then some (l.flatten,()) else none
def aEQ (s:List Int) (v:Int):Int:=jK (fun x=>v==x) 0 s
def kF (s:List Int) (v:Int):Bool:=s.contains v
def cup (m:Im) (c:Int):Option (Int×Unit):=bif sin c (m.1.length:Int) then some (kup m.1 c,()) else none
def cE (m:Im) (c:Int):List Tp:=(((aY m.1 c).reverse).map fun s=>(bH m s).2.1).flatten
def mM (m:Im) (c:Int):Option (List Tp×Unit):=bif bC m then some (cE m c,()) else none
def vR (m:Im) (c:Int):Int:=((1+(cE m c).length:Nat):Int)
def aCI (m:Im) (c:Int):Option (Int×Unit):=bif bC m then some (vR m c,()) else none
def lX (x:Mt) (n:Int):Tp:=bif decide (n<0) then zTp else (x.1++x.2.1).getD n.toNat zTp
def uD (x:Mt) (n:Int):Option (Tp×Unit):=bif okL x.1&&okL x.2.1 then some (lX x n,()) else none
def fG (l:List Cl) (a b:Tp):Tp:=
 bif cP l a b then b else bif cP l b a then a else bif a.1 !=3 || b.1 !=3 then zTp else
 match (bQ l (kup l a.2.1)).find? fun c=>bZ l b.2.1 c with
 | some c=>(3,c,())
 | none=>zTp
def aAw (l:List Cl) (a b:Tp):Option (Tp×Unit):=some (fG l a b,())
def oX (o:Int):Bool:=decide (o≥7)&&decide (o≤17)
abbrev tI:Tp:=(1,0,())
abbrev tA:Tp:=(2,0,())
abbrev tN:Tp:=(4,0,())
abbrev tR (c:Int):Tp:=(3,c,())
abbrev Eff:=List Tp×List Tp×Unit
def dP (o:Int):Eff×Bool×Unit:=
 bif o==2 then (([],[tN],()),true,())
 else bif o==5 then (([zTp],[],()),true,())
 else bif o==20 then (([tN],[tI],()),true,())
 else bif o==21 then (([tN,tN],[tI],()),true,())
 else bif o==24 then (([tA,tI],[tI],()),true,())
 else bif o==25 then (([tA,tI,tI],[],()),true,())
 else bif o==26 then (([tA],[tI],()),true,())
 else bif o==1 then (([],[tI],()),true,())
 else bif o==19 then (([tI],[],()),true,())
 else bif o==18 then (([],[],()),true,())
 else bif o==23 then (([tI],[tA],()),true,())
 else bif oX o then (([tI,tI],[tI],()),true,())
 else (([],[],()),false,())
def iN (x:Mt) (t:List Tp):Eff:=(t++x.1.drop t.length,bif x.2.2.1.1 !=5 then[x.2.2.1] else[],())
def pV (x:Mt) (t:List Tp):Option (Eff×Unit):=bif okL x.1&&(okL t&&decide (t.length≤x.1.length)) then some (iN x t,()) else none
def iX (m:Im) (x:Mt) (i:Ins):Eff:=
 bif (dP i.1).2.1 then (dP i.1).1
 else bif i.1==3 then ([],[lX x i.2.1],())
 else bif i.1==4 then ([lX x i.2.1],[],())
 else bif i.1==22 then ([],[tR i.2.1],())
 else bif i.1==27 then ([tR i.2.1],[(cE m i.2.1).getD i.2.2.1.toNat zTp],())
 else bif i.1==28 then ([tR i.2.1,(cE m i.2.1).getD i.2.2.1.toNat zTp],[],())
 else bif i.1==29 then ([],[m.2.1.getD i.2.1.toNat zTp],())
 else bif i.1==30 then ([m.2.1.getD i.2.1.toNat zTp],[],())
 else bif i.1==31 then iN (aC m i.2.1) []
 else bif i.1==32 then iN (aC m (dK m i.2.1 i.2.2.1).1) [tR i.2.1]
 else bif i.1==34 then ([tN],[tR i.2.1],())
 else bif i.1==33 then (bif x.2.2.1.1 !=5 then ([x.2.2.1],[],()) else ([],[],()))
 else ([],[],())
def fof (m:Im) (i:Ins) (f:Int):Option (Eff×Unit):=bif aF m&&(inM m f&&bI m (aC m f) i) then some (iX m (aC m f) i,()) else none
def dT (m:Im) (o:Int) (t w:Tp):Bool:=bif w.1==0 then true else bif w.1==4 then gW t&&(o !=34 || t.1 !=2) else cP m.1 t w
def cV (i:Ins) (pc:Int):List Int:=
 bif i.1==18 then[i.2.1] else bif i.1==19 then[IntKind.i64.wrap (pc+1),i.2.1] else bif i.1==33 then[] else[IntKind.i64.wrap (pc+1)]
def aH (m:Im) (f pc:Int):Ins:=(aC m f).2.2.2.1.getD pc.toNat dN
def aB (m:Im) (f:Int):Nat:=(aC m f).2.2.2.1.length
abbrev St4:=List Tp×List Int×Int×Unit
def qU (m:Im) (i:Ins) (e:Eff) (s:List Tp) (nx:List Int):St4:=
 bif decide (s.length<e.1.length) || decide (s.length - e.1.length+e.2.1.length>8) then ([],[],4,())
 else bif ((s.drop (s.length - e.1.length)).zip e.1).all fun p=>dT m i.1 p.1 p.2 then (s.take (s.length - e.1.length)++e.2.1,nx,0,())
 else ([],[],4,())
def aM (m:Im) (f pc:Int) (s:List Tp):St4:=
 bif !(inM m f&&sin pc (aB m f:Int)) then ([],[],1,())
 else bif (cV (aH m f pc) pc).contains (aB m f:Int) then ([],[],4,())
 else bif (aH m f pc).1==6 then (bif decide (s.length=0) || decide (s.length≥8) then ([],[],4,()) else (s++s.drop (s.length - 1),cV (aH m f pc) pc,0,()))
 else qU m (aH m f pc) (iX m (aC m f) (aH m f pc)) s (cV (aH m f pc) pc)
def sY (m:Im) (f pc:Int) (s:List Tp):Option St4:=bif aF m&&okL s then some (aM m f pc s) else none
def aU (l:List Cl) (a s:List Tp):List Tp:=(a.zip s).map fun p=>fG l p.1 p.2
def bJ (l:List Cl) (o:Sh) (s:List Tp):Sh×Bool×Bool×Unit:=
 bif !o.1 then ((true,s,()),true,true,())
 else bif decide (o.2.1.length≠s.length) then (o,false,false,())
 else bif (aU l o.2.1 s).any fun t=>t.1==0 then (o,false,false,())
 else ((true,aU l o.2.1 s,()),!(aU l o.2.1 s==o.2.1),true,())
def yL (m:Im) (o:Sh) (s:List Tp):Option (Sh×Bool×Bool×Unit):=bif okL s then some (bJ m.1 o s) else none
def gG (l:List Cl) (a:List Tp):List Int→List Sh→List Bool→Bool×List Sh×List Bool×Unit
 | [],h,q=>(true,h,q,())
 | to::r,h,q=>
  bif !(bJ l (h.getD to.toNat zSh) a).2.2.1 then (false,h,q,())
  else bif (bJ l (h.getD to.toNat zSh) a).2.1 then gG l a r (h.set to.toNat (bJ l (h.getD to.toNat zSh) a).1) (q.set to.toNat true)
  else gG l a r h q
def jR (m:Im) (f pc:Int) (h:List Sh) (q:List Bool):Bool×List Sh×List Bool×Unit:=
 bif (aM m f pc (h.getD pc.toNat zSh).2.1).2.2.1 !=0 then (false,h,q,())
 else gG m.1 (aM m f pc (h.getD pc.toNat zSh).2.1).1 (aM m f pc (h.getD pc.toNat zSh).2.1).2.1 h q
def sL (m:Im) (f pc:Int) (h:List Sh) (q:List Bool):Bool:=
 aF m&&(inM m f&&(sin pc (aB m f:Int)&&(decide (h.length=aB m f)&&(decide (q.length=aB m f)&&h.all fun s=>okL s.2.1))))
def nZ (m:Im) (f pc:Int) (h:List Sh) (q:List Bool):Option (Bool×List Sh×List Bool×Unit):=bif sL m f pc h q then some (jR m f pc h q) else none
def kT (m:Im) (f:Int):Nat→List Sh→List Bool→Option (List Sh×Int×Int×Unit)
 | 0,_,_=>none
 | n+1,h,q=>bif q.any id then (nZ m f (q.findIdx id:Int) h (q.set (q.findIdx id) false)).bind fun r=>
   bif !r.1 then some ([],(q.findIdx id:Int),4,()) else kT m f n r.2.1 r.2.2.1
  else some (h,0,0,())
def fZ (m:Im) (f:Int):Option (List Sh×Int×Int×Unit):=
 bif aF m&&inM m f then kT m f (100*aB m f+2) ((List.replicate (aB m f) zSh).set 0 (true,[],())) ((List.replicate (aB m f) false).set 0 true) else none
def jZ (m:Im):List Int→List (List Sh)→Option (List (List Sh)×Int×Int×Int×Unit)
 | [],out=>some (out,0,0,0,())
 | f::l,out=>(fZ m f).bind fun r=>bif r.2.2.1 !=0 then some ([],f,r.2.1,r.2.2.1,()) else jZ m l (out++[r.1])
def iS (m:Im):Option (List (List Sh)×Int×Int×Int×Unit):=bif aF m then jZ m (ints m.2.2.2.1.length) [] else none
def iT (l:List Int):Int:=l.foldl max 0
def tC (l:List (List Sh)) (f:Int):Int:=bif sin f (l.length:Int) then iT ((l.getD f.toNat []).map fun s=>(s.2.1.length:Int)) else 0
def aCv (l:List (List Sh)) (f:Int):Option (Int×Unit):=bif eS l then some (tC l f,()) else none
def rH (m:Im) (l:List (List Sh)) (f:Int):Int:=bif inM m f then ((3+(aC m f).1.length+(aC m f).2.1.length:Nat):Int)+tC l f else 0
def aEi (to:Int) (part:List Int):Bool:=part.contains to
def aAO (l:List Int) (c:List Int×Unit):Int:=jK (fun x=>aEi x c.1) 0 l
def nI (l:List Int) (c:List Int×Unit):Bool:=l.any fun x=>aEi x c.1
def dV (l:List (List Int)) (part:List Int):Bool:=part.any fun k=>sin k (l.length:Int)&&(l.getD k.toNat []).any fun to=>part.contains to
def yN (l:List (List Int)) (part:List Int):Option (Bool×Unit):=bif okL part then some (dV l part,()) else none
def qQ (part out:List Int):List Int→Int→Int
 | [],b=>b
 | to::r,b=>qQ part out r (bif !part.contains to&&decide (to<(out.length:Int)) then max b (out.getD to.toNat 0) else b)
def jH (m:Im) (l:List (List Sh)) (ed:List (List Int)) (part out:List Int) (cyc:Bool):List Int→Int→Int→Option (Int×Int)
 | [],a,b=>some (a,b)
 | f::r,a,b=>bif decide ((bif cyc then (aC m f).2.2.2.2.1 else 1)<1) then none
  else jH m l ed part out cyc r (IntKind.i64.wrap (a+IntKind.i64.wrap ((bif cyc then (aC m f).2.2.2.2.1 else 1)*rH m l f))) (qQ part out (ed.getD f.toNat []) b)
def nX (v:Int):List Int→List Int→List Int
 | [],out=>out
 | f::r,out=>nX v r (out.set f.toNat v)
def iU (m:Im) (l:List (List Sh)) (ed:List (List Int)):List (List Int)→List Int→List Int×Int×Unit
 | [],out=>(out,0,())
 | part::ps,out=>match jH m l ed part out (dV ed part) part 0 0 with
  | none=>([],5,())
  | some a=>iU m l ed ps (nX (IntKind.i64.wrap (a.1+a.2)) part out)
def cW (m:Im):List (List Int):=(ints m.2.2.2.1.length).map (ofB m)
def aAD (m:Im):Bool:=(cW m).all fun e=>okL e&&e.all (inM m)
noncomputable def kX (m:Im) (l:List (List Sh)):Option (List Int×Int×Unit):=bif aF m&&(eS l&&aAD m) then (nT (cW m)).bind fun r=>bif okL r.1&&r.1.all (fun p=>okL p&&p.all (inM m)) then some (iU m l (cW m) r.1 (List.replicate m.2.2.2.1.length 0)) else none else none
def inU (x:Int):Bool:=decide (0≤x)&&decide (x≤18446744073709551615)
def aCu (x y:Int):Option (Int×Int×Unit):=bif inU x&&inU y then some (x*y/18446744073709551616,x*y % 18446744073709551616,()) else none
abbrev Sure:=Int×Bool×Unit
def lof (n:Int):Sure:=(n,decide (n> -4611686018427387904)&&decide (n<4611686018427387904),())
def dO (n:Int):Int:=bif decide (n<0) then IntKind.u64.wrap (IntKind.i64.wrap (0 - n)) else IntKind.u64.wrap n
def aCJ (a b:Sure):Sure:=bif a.2.1&&b.2.1 then lof (IntKind.i64.wrap (a.1+b.1)) else (0,false,())
def aEN (a b:Sure):Option (Sure×Unit):=some (aCJ a b,())
def yP (a b:Sure):Sure:=
 bif a.2.1&&b.2.1 then (bif decide (dO a.1*dO b.1/18446744073709551616≠0) || decide (dO a.1*dO b.1 % 18446744073709551616≥4611686018427387904) then (0,false,()) else lof (IntKind.i64.wrap (a.1*b.1))) else (0,false,())
def aBm (a b:Sure):Option (Sure×Unit):=some (yP a b,())
def vC:List (Int×Int)→Sure→Sure
 | [],a=>a
 | p::r,a=>vC r (aCJ a (yP (lof p.1) (lof p.2)))
def aEP (most:Int) (s:Sure):Bool×Int×Unit:=bif !s.2.1 then (false,14,()) else (decide (s.1≤most),0,())
def mB (q:Iq) (v:List Int):Bool×Int×Unit:=bif decide (q.1.length≠v.length) then (false,14,()) else aEP q.2.1 (vC (q.1.zip v) (lof 0))
def xT (q:Iq) (v:List Int):Option (Bool×Int×Unit):=bif okL q.1 then some (mB q v) else none
def bY (l:List (List Sh)) (f pc:Int):Sh:=(l.getD f.toNat []).getD pc.toNat zSh
def yE (l:List (List Sh)) (f pc:Int):Option (Sh×Unit):=bif decide (0≤f)&&decide (0≤pc) then some (bY l f pc,()) else none
def dF (m:Im) (f:Int):Int:=(aC m f).2.2.2.2.2.1
def rB (m:Im) (i:Ins):Int:=
 bif i.1==22 then vR m i.2.1 else bif i.1==23 then IntKind.i64.wrap (1+max 0 (min i.2.1 255)) else iT (((aT m i).filter (inM m)).map (dF m))
def aCX (m:Im) (i:Ins):Option (Int×Unit):=bif bC m then some (rB m i,()) else none
def mA (z:List Int) (a d:Int):List Int:=bif decide (a≥0) then z.set a.toNat (IntKind.i64.wrap (z.getD a.toNat 0+d)) else z
def eT (n a b c:Int):Iq:=(mA (mA (List.replicate n.toNat 0) a (-1)) b 1,c,())
def aB7 (n a b c:Int):Option (Iq×Unit):=bif decide (0≤n)&&(Nat.blt n.toNat 1000000&&(decide (a<n)&&decide (b<n))) then some (eT n a b c,()) else none
def kW (m:Im) (l:List (List Sh)) (f pc:Int):List Iq:=
 bif !(bY l f pc).1 then[] else
 bif (aM m f pc (bY l f pc).2.1).2.2.1 !=0 then[] else
 (bif decide ((aM m f pc (bY l f pc).2.1).2.1.length=0) then[eT (aB m f:Int) pc (-1) 0] else[])++
 (aM m f pc (bY l f pc).2.1).2.1.map fun to=>eT (aB m f:Int) pc to (IntKind.i64.wrap (0 - rB m (aH m f pc)))
def iO (m:Im) (l:List (List Sh)) (f:Int):List Iq:=
 bif inM m f then eT (aB m f:Int) (-1) 0 (dF m f)::((List.range (aB m f)).map fun k:Nat=>kW m l f (k:Int)).flatten else[]
def yH (m:Im) (l:List (List Sh)) (f:Int):Option (List Iq×Unit):=bif aF m&&eS l then some (iO m l f,()) else none
def aAX (n:Int):Bool:=decide (n<0)
def aAq (l:List Int) (_:Unit):Int:=jK aAX 0 l
def nG (l:List Int) (_:Unit):Bool:=l.any aAX
def cS (m:Im) (f:Int):List Int:=(aC m f).2.2.2.2.2.2.1
def nV (m:Im) (f:Int) (q:Iq):Bool:=decide ((mB q (cS m f)).2.1=0)&&(mB q (cS m f)).1
def qJ (m:Im) (l:List (List Sh)):List Int→Int×Int×Unit
 | []=>(0,0,())
 | f::r=>bif (iO m l f).all (nV m f) then (bif (cS m f).any aAX then (f,6,()) else qJ m l r) else (f,6,())
def lR (m:Im) (l:List (List Sh)):Option (Int×Int×Unit):=bif aF m&&eS l then some (qJ m l (ints m.2.2.2.1.length)) else none
def dH (m:Im) (bd:List Int):List Int→Int→Int→Int×Int
 | [],s,h=>(s,h)
 | f::r,s,h=>bif decide (f≥0)&&decide (f<(bd.length:Int)) then dH m bd r (max s (bd.getD f.toNat 0)) (max h (dF m f)) else dH m bd r s h
def aAc (m:Im) (r:List Int×Int×Unit):Int×Int×Int×Unit:=
 bif r.2.1 !=0 then (0,0,r.2.1,()) else ((dH m r.1 m.2.2.2.2.1 0 0).1,IntKind.i64.wrap ((m.2.1.length:Int)+(dH m r.1 m.2.2.2.2.1 0 0).2),0,())
noncomputable def jB (m:Im) (l:List (List Sh)):Option (Int×Int×Int×Unit):=bif aF m then (kX m l).bind fun r=>some (aAc m r) else none
def gU (m:Im) (i:Ins):Int:=bif i.1==22 then vR m i.2.1 else bif i.1==23 then IntKind.i64.wrap (1+i.2.1) else iT ((aT m i).map (dF m))
def qN (m:Im) (i:Ins):Option (Int×Unit):=bif bC m&&(aT m i).all (inM m) then some (gU m i,()) else none
def zC (m:Im):Bool:=decide (aPW m≤100)&&m.2.2.2.1.all fun x=>decide (x.1.length+x.2.1.length+x.2.2.2.1.length+x.2.2.2.2.2.2.1.length≤300)
end Go.Pli

namespace Go.Pli
open Go Go.PM
def aCw (l:List Cl) (a b:Tp):Option (Tp×Unit):=bif okL l then some (fG l a b,()) else none
def oS (m:Im) (f pc:Int) (s:List Tp):Option St4:=bif aF m&&okL s then some (aM m f pc s) else none
def mK (l:List Cl) (a:List Tp):List Int→Bool→List Sh→Option (Bool×List Sh)
 | [],t,h=>some (t,h)
 | to::r,t,h=>
  bif !(bJ l (h.getD to.toNat zSh) a).2.2.1 then none
  else bif (bJ l (h.getD to.toNat zSh) a).2.1 then mK l a r true (h.set to.toNat (bJ l (h.getD to.toNat zSh) a).1)
  else mK l a r t h
def qV (m:Im) (f:Int) (pc:Nat) (t:Bool) (h:List Sh):Option (Bool×List Sh):=
 bif !(h.getD pc zSh).1 then some (t,h)
 else bif (aM m f (pc:Int) (h.getD pc zSh).2.1).2.2.1 !=0 then none
 else mK m.1 (aM m f (pc:Int) (h.getD pc zSh).2.1).1 (aM m f (pc:Int) (h.getD pc zSh).2.1).2.1 t h
def kM (m:Im) (f:Int):Nat→Bool→List Sh→Option (Bool×List Sh)
 | 0,t,h=>some (t,h)
 | pc+1,t,h=>(qV m f pc t h).bind fun r=>kM m f pc r.1 r.2
def eK (m:Im) (f:Int):Nat→List Sh→List Sh×Bool×Unit
 | 0,_=>([],false,())
 | n+1,h=>match kM m f (aB m f) false h with
  | none=>([],false,())
  | some r=>bif r.1 then eK m f n r.2 else (r.2,true,())
def fS (m:Im) (f:Int):List Sh:=(List.replicate (aB m f) zSh).set 0 (true,[],())
def pQ (m:Im) (f:Int):Option (List Sh×Bool×Unit):=bif aF m&&inM m f then some (eK m f 4000 (fS m f)) else none
def aEr (m:Im):List Int→List (List Sh)→List (List Sh)×Int×Unit
 | [],out=>(out,-1,())
 | f::l,out=>bif (eK m f 4000 (fS m f)).2.1 then aEr m l (out++[(eK m f 4000 (fS m f)).1]) else ([],f,())
def qX (m:Im):Option (List (List Sh)×Int×Unit):=bif aF m then some (aEr m (ints m.2.2.2.1.length) []) else none
end Go.Pli

namespace Go.Pli
open Go Go.PM
def tP (m:Im) (l:List (List Sh)) (f:Int):Option (Int×Unit):=bif aF m&&eS l then some (rH m l f,()) else none
def oA (W:Nat→Nat→Bool) (out:List Int) (g:Int):List Int→Int→Int
 | [],b=>b
 | to::r,b=>oA W out g r (bif !W to.toNat g.toNat&&decide (out.getD to.toNat 0>b) then out.getD to.toNat 0 else b)
def mZ (m:Im) (l:List (List Sh)) (W:Nat→Nat→Bool) (f:Int) (out:List Int):List Int→Int→Int→Int×Int
 | [],a,b=>(a,b)
 | g::r,a,b=>bif g !=f&& !(W f.toNat g.toNat&&W g.toNat f.toNat) then mZ m l W f out r a b
  else mZ m l W f out r (IntKind.i64.wrap (a+IntKind.i64.wrap ((bif W g.toNat g.toNat then (aC m g).2.2.2.2.1 else 1)*rH m l g))) (oA W out g ((aG m).getD g.toNat []) b)
def nR (m:Im) (l:List (List Sh)) (W:Nat→Nat→Bool) (out:List Int) (f:Int):Int:=
 IntKind.i64.wrap ((mZ m l W f out (ints m.2.2.2.1.length) 0 0).1+(mZ m l W f out (ints m.2.2.2.1.length) 0 0).2)
def eG (m:Im) (l:List (List Sh)) (W:Nat→Nat→Bool):List Int→List Int→List Int
 | [],out=>out
 | f::r,out=>eG m l W r (out.set f.toNat (nR m l W out f))
def mO (m:Im) (l:List (List Sh)) (W:Nat→Nat→Bool):Nat→List Int→List Int
 | 0,out=>out
 | k+1,out=>mO m l W k (eG m l W (ints m.2.2.2.1.length) out)
def bP (m:Im):Nat→Nat→Bool:=cT (aG m) m.2.2.2.1.length
def fU (m:Im):Bool:=(ints m.2.2.2.1.length).any fun f=>bP m f.toNat f.toNat&&decide ((aC m f).2.2.2.2.1<1)
def lA (m:Im) (l:List (List Sh)):List Int×Bool×Unit:=
 bif fU m then ([],false,()) else (mO m l (bP m) m.2.2.2.1.length (List.replicate m.2.2.2.1.length 0),true,())
def mR (m:Im) (l:List (List Sh)):Option (List Int×Bool×Unit):=bif aF m&&(eS l&&(sP m&&rR (aG m))) then some (lA m l) else none
end Go.Pli

namespace Go.Pli
open Go Go.PM
def aEK (m:Im) (l:List (List Sh)) (f:Int) (pc:Nat):Bool:=
 (bY l f (pc:Int)).1&&(aM m f (pc:Int) (bY l f (pc:Int)).2.1).2.1.any fun to=>decide ((cS m f).getD pc 0<IntKind.i64.wrap (gU m (aH m f (pc:Int))+(cS m f).getD to.toNat 0))
def aAe (m:Im) (l:List (List Sh)) (f:Int):Bool:=decide ((cS m f).getD 0 0>dF m f) || (List.range (aB m f)).any (aEK m l f)
def aCE (m:Im) (l:List (List Sh)):Int:=match (ints m.2.2.2.1.length).find? (aAe m l) with
 | some f=>f
 | none=> -1
def aBr (m:Im) (l:List (List Sh)):Bool:=eS l&&(decide (l.length=m.2.2.2.1.length)&&(ints m.2.2.2.1.length).all fun f=>decide ((l.getD f.toNat []).length=aB m f))
def oL (m:Im) (l:List (List Sh)):Option (Int×Unit):=bif aF m&&aBr m l then some (aCE m l,()) else none
def aIf (m:Im) (r:List Int×Bool×Unit):Int×Int×Bool×Unit:=
 bif r.2.1 then ((dH m r.1 m.2.2.2.2.1 0 0).1,IntKind.i64.wrap ((m.2.1.length:Int)+(dH m r.1 m.2.2.2.2.1 0 0).2),true,()) else (0,0,false,())
def iR (m:Im) (l:List (List Sh)):Option (Int×Int×Bool×Unit):=bif aF m then (mR m l).bind fun r=>some (aIf m r) else none
end Go.Pli

namespace Go.Pli
open Go Go.PM
noncomputable section
def aCq (l:List (List Sh)) (f:Int) (s1:Int×Int×Unit) (rec2:(Int×Int×Unit)→Option (Int×Unit)):Option (Int×Unit):=
 bif decide (s1.2.1<((l.getD f.toNat ([]:List Sh)).length:Int)) then
  bif decide (0≤s1.2.1)&&decide (s1.2.1<(l.getD f.toNat ([]:List Sh)).length) then
   rec2 (max s1.1 (((l.getD f.toNat ([]:List Sh)).getD s1.2.1.toNat zSh).2.1.length:Int),IntKind.i64.wrap (s1.2.1+1),())
  else none
 else some (s1.1,())
def aQd (fuel:Nat) (l:List (List Sh)) (f:Int):Option (Int×Unit):=
 bif decide (f<0) then
  some ((0:Int),())
 else bif decide (f≥(l.length:Int)) then
  some ((0:Int),())
 else bif decide (0≤f)&&decide (f<l.length) then
  aA (aCq l f) fuel ((0:Int),((0:Int),()))
 else none
def aC2 (m:Im) (l:List (List Sh)) (f:Int):Option (Int×Unit):=
 bif decide (f<0) then
  some ((0:Int),())
 else bif decide (f≥(m.2.2.2.1.length:Int)) then
  some ((0:Int),())
 else bif decide (0≤f)&&decide (f<m.2.2.2.1.length) then
  (aCv l f).bind fun r1=>
  some (IntKind.i64.wrap ((IntKind.i64.wrap ((IntKind.i64.wrap ((3:Int)+((m.2.2.2.1.getD f.toNat zMt).1.length:Int)))+((m.2.2.2.1.getD f.toNat zMt).2.1.length:Int)))+r1.1),())
 else none
def aOP (_s:Unit) (n:Int):Option (List Tp×Unit):=
 bif decide (n<0) then
  none
 else bif decide (IntKind.i64.wrap (n - (IntKind.i64.wrap ((0:Int) - (([]:List Tp).length:Int))))>0) then
  bif decide (0<IntKind.i64.wrap (n - (IntKind.i64.wrap ((0:Int) - (([]:List Tp).length:Int)))))&&decide (IntKind.i64.wrap (n - (IntKind.i64.wrap ((0:Int) - (([]:List Tp).length:Int))))<(rowMax:Int)) then
   bif decide ((0:Int)≤(([]:List Tp).length:Int))&&decide ((([]:List Tp).length:Int)≤((List.replicate (IntKind.i64.wrap (n - (IntKind.i64.wrap ((0:Int) - (([]:List Tp).length:Int))))).toNat zTp).length:Int))&&true then
    some (((List.replicate (IntKind.i64.wrap (n - (IntKind.i64.wrap ((0:Int) - (([]:List Tp).length:Int))))).toNat zTp).take (([]:List Tp).length:Int).toNat).drop 0,())
   else none
  else none
 else some (([]:List Tp),())
def vT (l:List (List Tp)) (s4:List Tp×Int×Unit) (rec5:(List Tp×Int×Unit)→Option (List Tp×Unit)):Option (List Tp×Unit):=
 bif decide (s4.2.1<(l.length:Int)) then
  bif decide (0≤s4.2.1)&&decide (s4.2.1<l.length) then
   bif decide (s4.1.length+(l.getD s4.2.1.toNat ([]:List Tp)).length<rowMax)&&true then
    rec5 (s4.1++(l.getD s4.2.1.toNat ([]:List Tp)),IntKind.i64.wrap (s4.2.1+1),())
   else none
  else none
 else some (s4.1,())
def aBI (l:List (List Tp)) (fuel:Nat) (s1:Int×Int×Unit) (rec2:(Int×Int×Unit)→Option (List Tp×Unit)):Option (List Tp×Unit):=
 bif decide (s1.2.1<(l.length:Int)) then
  bif decide (0≤s1.2.1)&&decide (s1.2.1<l.length) then
   bif decide (IntKind.i64.wrap (s1.1+((l.getD s1.2.1.toNat ([]:List Tp)).length:Int))<0) then
    none
   else rec2 (IntKind.i64.wrap (s1.1+((l.getD s1.2.1.toNat ([]:List Tp)).length:Int)),IntKind.i64.wrap (s1.2.1+1),())
  else none
 else
  (aCy () s1.1).bind fun r3=>
  aA (vT l) fuel (r3.1,((0:Int),()))
def aJR (fuel:Nat) (l:List (List Tp)):Option (List Tp×Unit):=
 aA (aBI l fuel) fuel ((0:Int),((0:Int),()))
def aPe (s:List Int) (_v:Int):Prop:=(s.length≤lenMax∧∀x1:Int,x1∈s→True)∧True∧True
def aEg (s:List Int) (v:Int) (s1:Int×Unit) (rec2:(Int×Unit)→Option (Int×Unit)):Option (Int×Unit):=
 bif decide (s1.1<(s.length:Int)) then
  bif decide (0≤s1.1)&&decide (s1.1<s.length) then
   bif v==(s.getD s1.1.toNat 0) then
    some (s1.1,())
   else rec2 (IntKind.i64.wrap (s1.1+1),())
  else none
 else some ((-1:Int),())
def aT1 (fuel:Nat) (s:List Int) (v:Int):Option (Int×Unit):=
 aA (aEg s v) fuel ((0:Int),())
def aKv (s:List Int) (_v:Int):Prop:=(s.length≤lenMax∧∀x1:Int,x1∈s→True)∧True∧True
def aEX (s:List Int) (v:Int):Option (Bool×Unit):=
 some (decide ((aEQ s v)≥0),())
def aPP (s:List Iq):Option (List Iq×Unit):=
 bif decide ((s.length:Int)=(s.length:Int))&&decide ((s.length:Int)=(s.length:Int)) then
  some (s,())
 else none
def aMD (s:List (List Sh)):Option (List (List Sh)×Unit):=
 bif decide ((s.length:Int)=(s.length:Int))&&decide ((s.length:Int)=(s.length:Int)) then
  some (s,())
 else none
def aVd (m:Im) (c:Int):Option (Int×Unit):=
 bif decide (0≤c)&&decide (c<m.1.length) then
  bif decide ((m.1.getD c.toNat zCl).1≥c) then
   some ((-1:Int),())
  else bif decide (0≤c)&&decide (c<m.1.length) then
   some ((m.1.getD c.toNat zCl).1,())
  else none
 else none
def wR (m:Im) (s1:Int×List Tp×Unit) (rec2:(Int×List Tp×Unit)→Option (List Tp×Unit)):Option (List Tp×Unit):=
 bif decide (s1.1≥0) then
  bif decide (0≤s1.1)&&decide (s1.1<m.1.length) then
   (lM [(m.1.getD s1.1.toNat zCl).2.1,s1.2.1]).bind fun r3=>
   (cup m s1.1).bind fun r4=>
   rec2 (r4.1,r3.1,())
  else none
 else some (s1.2.1,())
def aI5 (fuel:Nat) (m:Im) (c:Int):Option (List Tp×Unit):=
 bif decide (c≥(m.1.length:Int)) then
  some (([]:List Tp),())
 else aA (wR m) fuel (c,(([]:List Tp),()))
def aPO (m:Im) (c:Int):Option (Int×Unit):=
 (mM m c).bind fun r1=>
 some (IntKind.i64.wrap ((1:Int)+(r1.1.length:Int)),())
def aMI (x:Mt) (n:Int):Option (Tp×Unit):=
 bif decide (n<0) then
  some (((0:Int),((0:Int),())),())
 else bif decide (n≥IntKind.i64.wrap ((x.1.length:Int)+(x.2.1.length:Int))) then
  some (((0:Int),((0:Int),())),())
 else bif decide (n<(x.1.length:Int)) then
  bif decide (0≤n)&&decide (n<x.1.length) then
   some (x.1.getD n.toNat zTp,())
  else none
 else bif decide (0≤IntKind.i64.wrap (n - (x.1.length:Int)))&&decide (IntKind.i64.wrap (n - (x.1.length:Int))<x.2.1.length) then
  some (x.2.1.getD (IntKind.i64.wrap (n - (x.1.length:Int))).toNat zTp,())
 else none
def aC3 (l:List Cl) (b:Tp) (s1:Int×Unit) (rec2:(Int×Unit)→Option (Tp×Unit)):Option (Tp×Unit):=
 bif decide (s1.1≥0) then
  bif (bZ l b.2.1 s1.1) then
   some (((3:Int),s1.1,()),())
  else rec2 ((kup l s1.1),())
 else some (((0:Int),((0:Int),())),())
def aOq (fuel:Nat) (l:List Cl) (a:Tp) (b:Tp):Option (Tp×Unit):=
 bif (cP l a b) then
  some (b,())
 else bif (cP l b a) then
  some (a,())
 else bif a.1 !=3 then
  some (((0:Int),((0:Int),())),())
 else bif b.1 !=3 then
  some (((0:Int),((0:Int),())),())
 else aA (aC3 l b) fuel ((kup l a.2.1),())
def aQr (o:Int):Option (Bool×Unit):=
 bif decide (o≥7) then
  some (decide (o≤17),())
 else some (false,())
def eQ:Tp:=
 ((1:Int),((0:Int),()))
def tS:Tp:=
 ((2:Int),((0:Int),()))
def iQ (c:Int):Tp:=
 ((3:Int),c,())
def dL (t:List Tp):List Tp:=
 t
def gD (t:Tp):List Tp:=
 [t]
def aKc (x:Mt) (t:List Tp):Option ((List Tp×List Tp×Unit)×Unit):=
 bif decide (0≤(t.length:Int))&&decide ((t.length:Int)≤(x.1.length:Int))&&decide ((x.1.length:Int)≤(x.1.length:Int)) then
  (lM [t,(x.1.take x.1.length).drop t.length]).bind fun r1=>
  bif x.2.2.1.1 !=5 then
   some ((r1.1,[x.2.2.1],()),())
  else some ((r1.1,(([]:List Tp),())),())
 else none
def aMj (o:Int):Option ((List Tp×List Tp×Unit)×Bool×Unit):=
 bif o==2 then
  some ((([]:List Tp),((dL [((4:Int),((0:Int),()))]),())),true,())
 else bif o==5 then
  some (((dL [((0:Int),((0:Int),()))]),(([]:List Tp),())),true,())
 else bif o==20 then
  some (((dL [((4:Int),((0:Int),()))]),(dL [eQ]),()),true,())
 else bif o==21 then
  some (((dL [((4:Int),((0:Int),())),((4:Int),((0:Int),()))]),(dL [eQ]),()),true,())
 else bif o==24 then
  some (((dL [tS,eQ]),(dL [eQ]),()),true,())
 else bif o==25 then
  some (((dL [tS,eQ,eQ]),(([]:List Tp),())),true,())
 else bif o==26 then
  some (((dL [tS]),(dL [eQ]),()),true,())
 else bif o==1 then
  some ((([]:List Tp),(dL [eQ]),()),true,())
 else bif o==19 then
  some (((dL [eQ]),(([]:List Tp),())),true,())
 else bif o==18 then
  some ((([]:List Tp),(([]:List Tp),())),true,())
 else bif o==23 then
  some (((dL [eQ]),(dL [tS]),()),true,())
 else bif (oX o) then
  some (((dL [eQ,eQ]),(dL [eQ]),()),true,())
 else some ((([]:List Tp),(([]:List Tp),())),false,())
def aU5 (m:Im) (i:Ins) (f:Int):Option ((List Tp×List Tp×Unit)×Unit):=
 bif decide (0≤f)&&decide (f<m.2.2.2.1.length) then
  let r1:=dP i.1
  bif r1.2.1 then
   some (r1.1,())
  else bif i.1==3 then
   (uD (m.2.2.2.1.getD f.toNat zMt) i.2.1).bind fun r2=>
   some ((([]:List Tp),(gD r2.1),()),())
  else bif i.1==4 then
   (uD (m.2.2.2.1.getD f.toNat zMt) i.2.1).bind fun r3=>
   some (((gD r3.1),(([]:List Tp),())),())
  else bif i.1==22 then
   some ((([]:List Tp),(gD (iQ i.2.1)),()),())
  else bif i.1==27 then
   (mM m i.2.1).bind fun r4=>
   bif decide (0≤i.2.2.1)&&decide (i.2.2.1<r4.1.length) then
    some (((gD (iQ i.2.1)),(gD (r4.1.getD i.2.2.1.toNat zTp)),()),())
   else none
  else bif i.1==28 then
   (mM m i.2.1).bind fun r5=>
   bif decide (0≤i.2.2.1)&&decide (i.2.2.1<r5.1.length) then
    some (([(iQ i.2.1),r5.1.getD i.2.2.1.toNat zTp],(([]:List Tp),())),())
   else none
  else bif i.1==29 then
   bif decide (0≤i.2.1)&&decide (i.2.1<m.2.1.length) then
    some ((([]:List Tp),(gD (m.2.1.getD i.2.1.toNat zTp)),()),())
   else none
  else bif i.1==30 then
   bif decide (0≤i.2.1)&&decide (i.2.1<m.2.1.length) then
    some (((gD (m.2.1.getD i.2.1.toNat zTp)),(([]:List Tp),())),())
   else none
  else bif i.1==31 then
   bif decide (0≤i.2.1)&&decide (i.2.1<m.2.2.2.1.length) then
    (pV (m.2.2.2.1.getD i.2.1.toNat zMt) ([]:List Tp)).bind fun r6=>
    some (r6.1,())
   else none
  else bif i.1==32 then
   let r7:=dK m i.2.1 i.2.2.1
   bif decide (0≤r7.1)&&decide (r7.1<m.2.2.2.1.length) then
    (pV (m.2.2.2.1.getD r7.1.toNat zMt) (gD (iQ i.2.1))).bind fun r8=>
    some (r8.1,())
   else none
  else bif i.1==34 then
   some (((gD ((4:Int),((0:Int),()))),(gD (iQ i.2.1)),()),())
  else bif i.1==33 then
   bif ((m.2.2.2.1.getD f.toNat zMt).2.2.1.1) !=5 then
    some (((gD (m.2.2.2.1.getD f.toNat zMt).2.2.1),(([]:List Tp),())),())
   else some ((([]:List Tp),(([]:List Tp),())),())
  else some ((([]:List Tp),(([]:List Tp),())),())
 else none
def aQy (m:Im) (o:Int) (t:Tp) (w:Tp):Option (Bool×Unit):=
 bif w.1==0 then
  some (true,())
 else bif w.1==4 then
  bif (gW t) then
   bif o !=34 then
    some (true,())
   else some (t.1 !=2,())
  else some (false,())
 else some ((cP m.1 t w),())
def aMA (i:Ins) (pc:Int):Option (List Int×Unit):=
 bif i.1==18 then
  some ([i.2.1],())
 else bif i.1==19 then
  some ([IntKind.i64.wrap (pc+1),i.2.1],())
 else bif i.1==33 then
  some (([]:List Int),())
 else some ([IntKind.i64.wrap (pc+1)],())
def aF7 (m:Im) (f:Int) (pc:Int) (s:List Tp) (r2:(List Tp×List Tp×Unit)×Unit) (s3:List Int×Int×Unit) (rec4:(List Int×Int×Unit)→Option (List Tp×List Int×Int×Unit)):Option (List Tp×List Int×Int×Unit):=
 bif decide (s3.2.1<(r2.1.1.length:Int)) then
  bif decide (0≤s3.2.1)&&decide (s3.2.1<r2.1.1.length) then
   bif decide (0≤IntKind.i64.wrap ((IntKind.i64.wrap ((s.length:Int) - (r2.1.1.length:Int)))+s3.2.1))&&decide (IntKind.i64.wrap ((IntKind.i64.wrap ((s.length:Int) - (r2.1.1.length:Int)))+s3.2.1)<s.length) then
    bif !(dT m ((m.2.2.2.1.getD f.toNat zMt).2.2.2.1.getD pc.toNat dN).1 (s.getD (IntKind.i64.wrap ((IntKind.i64.wrap ((s.length:Int) - (r2.1.1.length:Int)))+s3.2.1)).toNat zTp) (r2.1.1.getD s3.2.1.toNat zTp)) then
     some (([]:List Tp),(([]:List Int),((4:Int),())))
    else rec4 (s3.1,IntKind.i64.wrap (s3.2.1+1),())
   else none
  else none
 else bif decide ((0:Int)≤IntKind.i64.wrap ((s.length:Int) - (r2.1.1.length:Int)))&&decide (IntKind.i64.wrap ((s.length:Int) - (r2.1.1.length:Int))≤(s.length:Int)) then
  (lM [(s.take (IntKind.i64.wrap ((s.length:Int) - (r2.1.1.length:Int))).toNat).drop 0,r2.1.2.1]).bind fun r5=>
  some (r5.1,s3.1,((0:Int),()))
 else none
def aQx (fuel:Nat) (m:Im) (f:Int) (pc:Int) (s:List Tp):Option (List Tp×List Int×Int×Unit):=
 bif decide (f<0) then
  some (([]:List Tp),(([]:List Int),((1:Int),())))
 else bif decide (f≥(m.2.2.2.1.length:Int)) then
  some (([]:List Tp),(([]:List Int),((1:Int),())))
 else bif decide (pc<0) then
  some (([]:List Tp),(([]:List Int),((1:Int),())))
 else bif decide (0≤f)&&decide (f<m.2.2.2.1.length) then
  bif decide (pc≥((m.2.2.2.1.getD f.toNat zMt).2.2.2.1.length:Int)) then
   some (([]:List Tp),(([]:List Int),((1:Int),())))
  else bif decide (0≤f)&&decide (f<m.2.2.2.1.length) then
   bif decide (0≤pc)&&decide (pc<(m.2.2.2.1.getD f.toNat zMt).2.2.2.1.length) then
    bif decide (0≤f)&&decide (f<m.2.2.2.1.length) then
     bif (kF (cV ((m.2.2.2.1.getD f.toNat zMt).2.2.2.1.getD pc.toNat dN) pc) ((m.2.2.2.1.getD f.toNat zMt).2.2.2.1.length:Int)) then
      some (([]:List Tp),(([]:List Int),((4:Int),())))
     else bif (((m.2.2.2.1.getD f.toNat zMt).2.2.2.1.getD pc.toNat dN).1)==6 then
      bif (s.length:Int)==0 then
       some (([]:List Tp),(([]:List Int),((4:Int),())))
      else bif decide ((s.length:Int)≥8) then
       some (([]:List Tp),(([]:List Int),((4:Int),())))
      else bif decide (0≤IntKind.i64.wrap ((s.length:Int) - 1))&&decide (IntKind.i64.wrap ((s.length:Int) - 1)≤(s.length:Int))&&decide ((s.length:Int)≤(s.length:Int)) then
       (lM [s,(s.take s.length).drop (IntKind.i64.wrap ((s.length:Int) - 1)).toNat]).bind fun r1=>
       some (r1.1,(cV ((m.2.2.2.1.getD f.toNat zMt).2.2.2.1.getD pc.toNat dN) pc),((0:Int),()))
      else none
     else
      (fof m ((m.2.2.2.1.getD f.toNat zMt).2.2.2.1.getD pc.toNat dN) f).bind fun r2=>
      bif decide (IntKind.i64.wrap ((s.length:Int) - (r2.1.1.length:Int))<0) then
       some (([]:List Tp),(([]:List Int),((4:Int),())))
      else bif decide (IntKind.i64.wrap ((IntKind.i64.wrap ((s.length:Int) - (r2.1.1.length:Int)))+(r2.1.2.1.length:Int))>8) then
       some (([]:List Tp),(([]:List Int),((4:Int),())))
      else aA (aF7 m f pc s r2) fuel ((cV ((m.2.2.2.1.getD f.toNat zMt).2.2.2.1.getD pc.toNat dN) pc),((0:Int),()))
    else none
   else none
  else none
 else none
def zG (m:Im) (o:Sh) (s:List Tp) (s2:Int×List Tp×Unit) (rec3:(Int×List Tp×Unit)→Option (Sh×Bool×Bool×Unit)):Option (Sh×Bool×Bool×Unit):=
 bif decide (s2.1<(s.length:Int)) then
  bif decide (0≤s2.1)&&decide (s2.1<s.length) then
   bif decide (0≤s2.1)&&decide (s2.1<o.2.1.length) then
    (aAw m.1 (o.2.1.getD s2.1.toNat zTp) (s.getD s2.1.toNat zTp)).bind fun r4=>
    bif decide (0≤s2.1)&&decide (s2.1<s2.2.1.length) then
     bif decide (0≤s2.1)&&decide (s2.1<(s2.2.1.set s2.1.toNat r4.1).length) then
      bif (((s2.2.1.set s2.1.toNat r4.1).getD s2.1.toNat zTp).1)==0 then
       some (o,false,false,())
      else rec3 (IntKind.i64.wrap (s2.1+1),s2.2.1.set s2.1.toNat r4.1,())
     else none
    else none
   else none
  else none
 else some ((true,s2.2.1,()),!(eqL s2.2.1 o.2.1),true,())
def aMc (fuel:Nat) (m:Im) (o:Sh) (s:List Tp):Option (Sh×Bool×Bool×Unit):=
 bif !o.1 then
  (qO s).bind fun r1=>
  some ((true,(idL r1.1),()),true,true,())
 else bif (o.2.1.length:Int) !=(s.length:Int) then
  some (o,false,false,())
 else bif decide (0≤(s.length:Int))&&decide ((s.length:Int)≤(s.length:Int))&&decide ((s.length:Int)<(rowMax:Int)) then
  aA (zG m o s) fuel ((0:Int),List.replicate s.length zTp,())
 else none
def aFk (m:Im) (r1:List Tp×List Int×Int×Unit) (s2:Int×List Sh×List Bool×Unit) (rec3:(Int×List Sh×List Bool×Unit)→Option (Bool×List Sh×List Bool×Unit)):Option (Bool×List Sh×List Bool×Unit):=
 bif decide (s2.1<(r1.2.1.length:Int)) then
  bif decide (0≤s2.1)&&decide (s2.1<r1.2.1.length) then
   bif decide (0≤r1.2.1.getD s2.1.toNat 0)&&decide (r1.2.1.getD s2.1.toNat 0<s2.2.1.length) then
    (yL m (s2.2.1.getD (r1.2.1.getD s2.1.toNat 0).toNat zSh) r1.1).bind fun r4=>
    bif !r4.2.2.1 then
     some (false,s2.2.1,s2.2.2.1,())
    else bif r4.2.1 then
     bif decide (0≤r1.2.1.getD s2.1.toNat 0)&&decide (r1.2.1.getD s2.1.toNat 0<s2.2.1.length) then
      bif decide (0≤r1.2.1.getD s2.1.toNat 0)&&decide (r1.2.1.getD s2.1.toNat 0<s2.2.2.1.length) then
       rec3 (IntKind.i64.wrap (s2.1+1),s2.2.1.set (r1.2.1.getD s2.1.toNat 0).toNat r4.1,s2.2.2.1.set (r1.2.1.getD s2.1.toNat 0).toNat true,())
      else none
     else none
    else rec3 (IntKind.i64.wrap (s2.1+1),s2.2.1,s2.2.2.1,())
   else none
  else none
 else some (true,s2.2.1,s2.2.2.1,())
def aSV (fuel:Nat) (m:Im) (f:Int) (pc:Int) (h:List Sh) (q:List Bool):Option (Bool×List Sh×List Bool×Unit):=
 bif decide (0≤pc)&&decide (pc<h.length) then
  (sY m f pc (h.getD pc.toNat zSh).2.1).bind fun r1=>
  bif r1.2.2.1 !=0 then
   some (false,h,q,())
  else aA (aFk m r1) fuel ((0:Int),h,q,())
 else none
def rQ (m:Im) (f:Int) (s1:List Sh×List Bool×Unit) (rec2:(List Sh×List Bool×Unit)→Option (List Sh×Int×Int×Unit)) (s3:Int×Unit) (rec4:(Int×Unit)→Option (List Sh×Int×Int×Unit)):Option (List Sh×Int×Int×Unit):=
 bif decide (s3.1<(s1.2.1.length:Int)) then
  bif decide (0≤s3.1)&&decide (s3.1<s1.2.1.length) then
   bif !(s1.2.1.getD s3.1.toNat false) then
    rec4 (IntKind.i64.wrap (s3.1+1),())
   else bif decide (0≤s3.1)&&decide (s3.1<s1.2.1.length) then
    (nZ m f s3.1 s1.1 (s1.2.1.set s3.1.toNat false)).bind fun r5=>
    bif !r5.1 then
     some (([]:List Sh),s3.1,((4:Int),()))
    else rec2 (r5.2.1,r5.2.2.1,())
   else none
  else none
 else some (s1.1,((0:Int),((0:Int),())))
def rU (m:Im) (f:Int) (fuel:Nat) (s1:List Sh×List Bool×Unit) (rec2:(List Sh×List Bool×Unit)→Option (List Sh×Int×Int×Unit)):Option (List Sh×Int×Int×Unit):=
 aA (rQ m f s1 rec2) fuel ((0:Int),())
def aJm (fuel:Nat) (m:Im) (f:Int):Option (List Sh×Int×Int×Unit):=
 bif decide (0≤f)&&decide (f<m.2.2.2.1.length) then
  bif decide (0≤((m.2.2.2.1.getD f.toNat zMt).2.2.2.1.length:Int))&&decide (((m.2.2.2.1.getD f.toNat zMt).2.2.2.1.length:Int)≤((m.2.2.2.1.getD f.toNat zMt).2.2.2.1.length:Int))&&decide (((m.2.2.2.1.getD f.toNat zMt).2.2.2.1.length:Int)<(rowMax:Int)) then
   bif ((List.replicate ((m.2.2.2.1.getD f.toNat zMt).2.2.2.1.length:Int).toNat zSh).length:Int)==0 then
    some (([]:List Sh),((0:Int),((4:Int),())))
   else bif decide ((0:Int)<(List.replicate ((m.2.2.2.1.getD f.toNat zMt).2.2.2.1.length:Int).toNat zSh).length) then
    bif decide (0≤(((List.replicate ((m.2.2.2.1.getD f.toNat zMt).2.2.2.1.length:Int).toNat zSh).set 0 (true,((List.replicate ((m.2.2.2.1.getD f.toNat zMt).2.2.2.1.length:Int).toNat zSh).getD 0 zSh).2)).length:Int))&&decide ((((List.replicate ((m.2.2.2.1.getD f.toNat zMt).2.2.2.1.length:Int).toNat zSh).set 0 (true,((List.replicate ((m.2.2.2.1.getD f.toNat zMt).2.2.2.1.length:Int).toNat zSh).getD 0 zSh).2)).length:Int)≤(((List.replicate ((m.2.2.2.1.getD f.toNat zMt).2.2.2.1.length:Int).toNat zSh).set 0 (true,((List.replicate ((m.2.2.2.1.getD f.toNat zMt).2.2.2.1.length:Int).toNat zSh).getD 0 zSh).2)).length:Int))&&decide ((((List.replicate ((m.2.2.2.1.getD f.toNat zMt).2.2.2.1.length:Int).toNat zSh).set 0 (true,((List.replicate ((m.2.2.2.1.getD f.toNat zMt).2.2.2.1.length:Int).toNat zSh).getD 0 zSh).2)).length:Int)<(rowMax:Int)) then
     bif decide ((0:Int)<(List.replicate (((List.replicate ((m.2.2.2.1.getD f.toNat zMt).2.2.2.1.length:Int).toNat zSh).set 0 (true,((List.replicate ((m.2.2.2.1.getD f.toNat zMt).2.2.2.1.length:Int).toNat zSh).getD 0 zSh).2)).length:Int).toNat false).length) then
      aA (rU m f fuel) fuel ((List.replicate ((m.2.2.2.1.getD f.toNat zMt).2.2.2.1.length:Int).toNat zSh).set 0 (true,((List.replicate ((m.2.2.2.1.getD f.toNat zMt).2.2.2.1.length:Int).toNat zSh).getD 0 zSh).2),((List.replicate (((List.replicate ((m.2.2.2.1.getD f.toNat zMt).2.2.2.1.length:Int).toNat zSh).set 0 (true,((List.replicate ((m.2.2.2.1.getD f.toNat zMt).2.2.2.1.length:Int).toNat zSh).getD 0 zSh).2)).length:Int).toNat false).set 0 true,()))
     else none
    else none
   else none
  else none
 else none
def aAP (m:Im) (s1:List (List Sh)×Int×Unit) (rec2:(List (List Sh)×Int×Unit)→Option (List (List Sh)×Int×Int×Int×Unit)):Option (List (List Sh)×Int×Int×Int×Unit):=
 bif decide (s1.2.1<(m.2.2.2.1.length:Int)) then
  (fZ m s1.2.1).bind fun r3=>
  bif r3.2.2.1 !=0 then
   some (([]:List (List Sh)),s1.2.1,r3.2.1,r3.2.2.1,())
  else bif decide (s1.1.length+[r3.1].length<rowMax) then
   rec2 (s1.1++[r3.1],IntKind.i64.wrap (s1.2.1+1),())
  else none
 else some ((idL s1.1),((0:Int),((0:Int),((0:Int),()))))
def aLN (fuel:Nat) (m:Im):Option (List (List Sh)×Int×Int×Int×Unit):=
 aA (aAP m) fuel (([]:List (List Sh)),((0:Int),()))
def aTh (_to:Int) (part:List Int):Prop:=True∧(part.length≤lenMax∧∀x1:Int,x1∈part→True)∧True
def aVD (to:Int) (part:List Int):Option (Bool×Unit):=
 some ((kF part to),())
def aKL (l:List Int) (c:List Int×Unit):Prop:=(l.length≤lenMax∧∀x1:Int,x1∈l→True)∧((c.1.length≤lenMax∧∀x1:Int,x1∈c.1→True)∧True)∧True
def aAf (l:List Int) (c:List Int×Unit) (s1:Int×Unit) (rec2:(Int×Unit)→Option (Int×Unit)):Option (Int×Unit):=
 bif decide (s1.1<(l.length:Int)) then
  bif decide (0≤s1.1)&&decide (s1.1<l.length) then
   bif (aEi (l.getD s1.1.toNat 0) c.1) then
    some (s1.1,())
   else rec2 (IntKind.i64.wrap (s1.1+1),())
  else none
 else some ((-1:Int),())
def aQv (fuel:Nat) (l:List Int) (c:List Int×Unit):Option (Int×Unit):=
 aA (aAf l c) fuel ((0:Int),())
def aGH (l:List Int) (c:List Int×Unit):Prop:=(l.length≤lenMax∧∀x1:Int,x1∈l→True)∧((c.1.length≤lenMax∧∀x1:Int,x1∈c.1→True)∧True)∧True
def aCj (l:List Int) (c:List Int×Unit):Option (Bool×Unit):=
 some (decide ((aAO l c)≥0),())
def aAF (l:List (List Int)) (part:List Int) (s1:Int×Unit) (rec2:(Int×Unit)→Option (Bool×Unit)):Option (Bool×Unit):=
 bif decide (s1.1<(part.length:Int)) then
  bif decide (0≤s1.1)&&decide (s1.1<part.length) then
   bif decide (part.getD s1.1.toNat 0<0) then
    rec2 (IntKind.i64.wrap (s1.1+1),())
   else bif decide (part.getD s1.1.toNat 0≥(l.length:Int)) then
    rec2 (IntKind.i64.wrap (s1.1+1),())
   else bif decide (0≤part.getD s1.1.toNat 0)&&decide (part.getD s1.1.toNat 0<l.length) then
    bif (nI (l.getD (part.getD s1.1.toNat 0).toNat ([]:List Int)) (part,())) then
     some (true,())
    else rec2 (IntKind.i64.wrap (s1.1+1),())
   else none
  else none
 else some (false,())
def aLS (fuel:Nat) (l:List (List Int)) (part:List Int):Option (Bool×Unit):=
 aA (aAF l part) fuel ((0:Int),())
def aAT (s1:List (List Int)×Int×Unit) (r4:List (List Int)×Unit) (s8:Int×Int×Int×Unit) (s5:Int×List Int×Unit) (rec9:(Int×Int×Int×Unit)→Option (List Int×Int×Unit)) (s10:Int×Unit) (r12:Int×Unit) (s13:Int×Int×Unit) (rec14:(Int×Int×Unit)→Option (List Int×Int×Unit)):Option (List Int×Int×Unit):=
 bif decide (s13.2.1<((s1.1.getD ((r4.1.getD s5.1.toNat ([]:List Int)).getD s8.2.2.1.toNat 0).toNat ([]:List Int)).length:Int)) then
  bif decide (0≤s13.2.1)&&decide (s13.2.1<(s1.1.getD ((r4.1.getD s5.1.toNat ([]:List Int)).getD s8.2.2.1.toNat 0).toNat ([]:List Int)).length) then
   bif !(kF (r4.1.getD s5.1.toNat ([]:List Int)) ((s1.1.getD ((r4.1.getD s5.1.toNat ([]:List Int)).getD s8.2.2.1.toNat 0).toNat ([]:List Int)).getD s13.2.1.toNat 0)) then
    bif decide ((s1.1.getD ((r4.1.getD s5.1.toNat ([]:List Int)).getD s8.2.2.1.toNat 0).toNat ([]:List Int)).getD s13.2.1.toNat 0<(s5.2.1.length:Int)) then
     bif decide (0≤(s1.1.getD ((r4.1.getD s5.1.toNat ([]:List Int)).getD s8.2.2.1.toNat 0).toNat ([]:List Int)).getD s13.2.1.toNat 0)&&decide ((s1.1.getD ((r4.1.getD s5.1.toNat ([]:List Int)).getD s8.2.2.1.toNat 0).toNat ([]:List Int)).getD s13.2.1.toNat 0<s5.2.1.length) then
      rec14 (max s13.1 (s5.2.1.getD ((s1.1.getD ((r4.1.getD s5.1.toNat ([]:List Int)).getD s8.2.2.1.toNat 0).toNat ([]:List Int)).getD s13.2.1.toNat 0).toNat 0),IntKind.i64.wrap (s13.2.1+1),())
     else none
    else rec14 (s13.1,IntKind.i64.wrap (s13.2.1+1),())
   else rec14 (s13.1,IntKind.i64.wrap (s13.2.1+1),())
  else none
 else rec9 (IntKind.i64.wrap (s8.1+(IntKind.i64.wrap (s10.1*r12.1))),s13.1,IntKind.i64.wrap (s8.2.2.1+1),())
def aAv (r4:List (List Int)×Unit) (s8:Int×Int×Int×Unit) (s5:Int×List Int×Unit) (rec6:(Int×List Int×Unit)→Option (List Int×Int×Unit)) (s15:Int×List Int×Unit) (rec16:(Int×List Int×Unit)→Option (List Int×Int×Unit)):Option (List Int×Int×Unit):=
 bif decide (s15.1<((r4.1.getD s5.1.toNat ([]:List Int)).length:Int)) then
  bif decide (0≤s15.1)&&decide (s15.1<(r4.1.getD s5.1.toNat ([]:List Int)).length) then
   bif decide (0≤(r4.1.getD s5.1.toNat ([]:List Int)).getD s15.1.toNat 0)&&decide ((r4.1.getD s5.1.toNat ([]:List Int)).getD s15.1.toNat 0<s15.2.1.length) then
    rec16 (IntKind.i64.wrap (s15.1+1),(s15.2.1.set ((r4.1.getD s5.1.toNat ([]:List Int)).getD s15.1.toNat 0).toNat (IntKind.i64.wrap (s8.1+s8.2.1)),()))
   else none
  else none
 else rec6 (IntKind.i64.wrap (s5.1+1),s15.2.1,())
def uS (m:Im) (l:List (List Sh)) (fuel:Nat) (s1:List (List Int)×Int×Unit) (r4:List (List Int)×Unit) (r7:Bool×Unit) (s5:Int×List Int×Unit) (rec6:(Int×List Int×Unit)→Option (List Int×Int×Unit)) (s8:Int×Int×Int×Unit) (rec9:(Int×Int×Int×Unit)→Option (List Int×Int×Unit)):Option (List Int×Int×Unit):=
 bif decide (s8.2.2.1<((r4.1.getD s5.1.toNat ([]:List Int)).length:Int)) then
  bif decide (0≤s8.2.2.1)&&decide (s8.2.2.1<(r4.1.getD s5.1.toNat ([]:List Int)).length) then
   (bif r7.1 then
    bif decide (0≤(r4.1.getD s5.1.toNat ([]:List Int)).getD s8.2.2.1.toNat 0)&&decide ((r4.1.getD s5.1.toNat ([]:List Int)).getD s8.2.2.1.toNat 0<m.2.2.2.1.length) then
     some (.inl ((m.2.2.2.1.getD ((r4.1.getD s5.1.toNat ([]:List Int)).getD s8.2.2.1.toNat 0).toNat zMt).2.2.2.2.1,()))
    else none
   else some (.inl ((1:Int),())):Option ((Int×Unit)⊕(List Int×Int×Unit))).bind fun q=>match q with
   | .inr r11=>some r11
   | .inl s10=>
    bif decide (s10.1<1) then
     some (([]:List Int),((5:Int),()))
    else
     (aC2 m l ((r4.1.getD s5.1.toNat ([]:List Int)).getD s8.2.2.1.toNat 0)).bind fun r12=>
     bif decide (0≤(r4.1.getD s5.1.toNat ([]:List Int)).getD s8.2.2.1.toNat 0)&&decide ((r4.1.getD s5.1.toNat ([]:List Int)).getD s8.2.2.1.toNat 0<s1.1.length) then
      aA (aAT s1 r4 s8 s5 rec9 s10 r12) fuel (s8.2.1,((0:Int),()))
     else none
  else none
 else aA (aAv r4 s8 s5 rec6) fuel ((0:Int),s5.2.1,())
def uN (m:Im) (l:List (List Sh)) (fuel:Nat) (s1:List (List Int)×Int×Unit) (r4:List (List Int)×Unit) (s5:Int×List Int×Unit) (rec6:(Int×List Int×Unit)→Option (List Int×Int×Unit)):Option (List Int×Int×Unit):=
 bif decide (s5.1<(r4.1.length:Int)) then
  bif decide (0≤s5.1)&&decide (s5.1<r4.1.length) then
   (yN s1.1 (r4.1.getD s5.1.toNat ([]:List Int))).bind fun r7=>
   aA (uS m l fuel s1 r4 r7 s5 rec6) fuel ((0:Int),((0:Int),((0:Int),())))
  else none
 else some (s5.2.1,((0:Int),()))
def aAE (m:Im) (l:List (List Sh)) (fuel:Nat) (s1:List (List Int)×Int×Unit) (rec2:(List (List Int)×Int×Unit)→Option (List Int×Int×Unit)):Option (List Int×Int×Unit):=
 bif decide (s1.2.1<(m.2.2.2.1.length:Int)) then
  (cof m s1.2.1).bind fun r3=>
  bif decide (s1.1.length+[r3.1].length<rowMax) then
   rec2 (s1.1++[r3.1],IntKind.i64.wrap (s1.2.1+1),())
  else none
 else bif decide (0≤(m.2.2.2.1.length:Int))&&decide ((m.2.2.2.1.length:Int)≤(m.2.2.2.1.length:Int))&&decide ((m.2.2.2.1.length:Int)<(rowMax:Int)) then
  (nT s1.1).bind fun r4=>
  aA (uN m l fuel s1 r4) fuel ((0:Int),(List.replicate m.2.2.2.1.length (0:Int),()))
 else none
def aL7 (fuel:Nat) (m:Im) (l:List (List Sh)):Option (List Int×Int×Unit):=
 aA (aAE m l fuel) fuel (([]:List (List Int)),((0:Int),()))
def aOS (x:Int) (y:Int):Option (Int×Int×Unit):=
 some (IntKind.u64.wrap ((IntKind.u64.wrap ((IntKind.u64.wrap ((x.fdiv 4294967296)*(y.fdiv 4294967296)))+((IntKind.u64.wrap ((IntKind.u64.wrap ((x.fdiv 4294967296)*(IntKind.u64.wrap ((BitVec.ofInt 64 y&&&BitVec.ofInt 64 4294967295).toNat))))+((IntKind.u64.wrap ((IntKind.u64.wrap ((BitVec.ofInt 64 x&&&BitVec.ofInt 64 4294967295).toNat))*(IntKind.u64.wrap ((BitVec.ofInt 64 y&&&BitVec.ofInt 64 4294967295).toNat)))).fdiv 4294967296))).fdiv 4294967296)))+((IntKind.u64.wrap ((IntKind.u64.wrap ((BitVec.ofInt 64 (IntKind.u64.wrap ((IntKind.u64.wrap ((x.fdiv 4294967296)*(IntKind.u64.wrap ((BitVec.ofInt 64 y&&&BitVec.ofInt 64 4294967295).toNat))))+((IntKind.u64.wrap ((IntKind.u64.wrap ((BitVec.ofInt 64 x&&&BitVec.ofInt 64 4294967295).toNat))*(IntKind.u64.wrap ((BitVec.ofInt 64 y&&&BitVec.ofInt 64 4294967295).toNat)))).fdiv 4294967296)))&&&BitVec.ofInt 64 4294967295).toNat))+(IntKind.u64.wrap ((IntKind.u64.wrap ((BitVec.ofInt 64 x&&&BitVec.ofInt 64 4294967295).toNat))*(y.fdiv 4294967296))))).fdiv 4294967296)),IntKind.u64.wrap (x*y),())
def aUA (n:Int):Option ((Int×Bool×Unit)×Unit):=
 bif decide (n>(-4611686018427387904:Int)) then
  some ((n,decide (n<4611686018427387904),()),())
 else some ((n,false,()),())
def aPG (n:Int):Option (Int×Unit):=
 bif decide (n<0) then
  some (IntKind.u64.wrap (IntKind.i64.wrap (0 - n)),())
 else some (IntKind.u64.wrap n,())
def aOV (a:Int×Bool×Unit) (b:Int×Bool×Unit):Option ((Int×Bool×Unit)×Unit):=
 bif !a.2.1 then
  some (((0:Int),false,()),())
 else bif !b.2.1 then
  some (((0:Int),false,()),())
 else some ((lof (IntKind.i64.wrap (a.1+b.1))),())
def aMK (a:Int×Bool×Unit) (b:Int×Bool×Unit):Option ((Int×Bool×Unit)×Unit):=
 bif !a.2.1 then
  some (((0:Int),false,()),())
 else bif !b.2.1 then
  some (((0:Int),false,()),())
 else
  (aCu (dO a.1) (dO b.1)).bind fun r1=>
  bif r1.1 !=0 then
   some (((0:Int),false,()),())
  else bif decide (r1.2.1≥4611686018427387904) then
   some (((0:Int),false,()),())
  else some ((lof (IntKind.i64.wrap (a.1*b.1))),())
def aAn (q:Iq) (v:List Int) (s1:Int×(Int×Bool×Unit)×Unit) (rec2:(Int×(Int×Bool×Unit)×Unit)→Option (Bool×Int×Unit)):Option (Bool×Int×Unit):=
 bif decide (s1.1<(q.1.length:Int)) then
  bif decide (0≤s1.1)&&decide (s1.1<q.1.length) then
   bif decide (0≤s1.1)&&decide (s1.1<v.length) then
    (aBm (lof (q.1.getD s1.1.toNat 0)) (lof (v.getD s1.1.toNat 0))).bind fun r3=>
    (aEN s1.2.1 r3.1).bind fun r4=>
    rec2 (IntKind.i64.wrap (s1.1+1),r4.1,())
   else none
  else none
 else bif !s1.2.1.2.1 then
  some (false,((14:Int),()))
 else some (decide (s1.2.1.1≤q.2.1),((0:Int),()))
def aL9 (fuel:Nat) (q:Iq) (v:List Int):Option (Bool×Int×Unit):=
 bif (q.1.length:Int) !=(v.length:Int) then
  some (false,((14:Int),()))
 else aA (aAn q v) fuel ((0:Int),((lof (0:Int)),()))
def aLW (l:List (List Sh)) (f:Int) (pc:Int):Option (Sh×Unit):=
 bif decide (f≥(l.length:Int)) then
  some ((false,(([]:List Tp),())),())
 else bif decide (0≤f)&&decide (f<l.length) then
  bif decide (pc≥((l.getD f.toNat ([]:List Sh)).length:Int)) then
   some ((false,(([]:List Tp),())),())
  else bif decide (0≤f)&&decide (f<l.length) then
   bif decide (0≤pc)&&decide (pc<(l.getD f.toNat ([]:List Sh)).length) then
    some ((l.getD f.toNat ([]:List Sh)).getD pc.toNat zSh,())
   else none
  else none
 else none
def aCF (m:Im) (r2:List Int×Unit) (s3:Int×Int×Unit) (rec4:(Int×Int×Unit)→Option (Int×Unit)):Option (Int×Unit):=
 bif decide (s3.2.1<(r2.1.length:Int)) then
  bif decide (0≤s3.2.1)&&decide (s3.2.1<r2.1.length) then
   bif decide (r2.1.getD s3.2.1.toNat 0≥0) then
    bif decide (r2.1.getD s3.2.1.toNat 0<(m.2.2.2.1.length:Int)) then
     bif decide (0≤r2.1.getD s3.2.1.toNat 0)&&decide (r2.1.getD s3.2.1.toNat 0<m.2.2.2.1.length) then
      rec4 (max s3.1 (m.2.2.2.1.getD (r2.1.getD s3.2.1.toNat 0).toNat zMt).2.2.2.2.2.1,IntKind.i64.wrap (s3.2.1+1),())
     else none
    else rec4 (s3.1,IntKind.i64.wrap (s3.2.1+1),())
   else rec4 (s3.1,IntKind.i64.wrap (s3.2.1+1),())
  else none
 else some (s3.1,())
def aPr (fuel:Nat) (m:Im) (i:Ins):Option (Int×Unit):=
 bif i.1==22 then
  (aCI m i.2.1).bind fun r1=>
  some (r1.1,())
 else bif i.1==23 then
  some (IntKind.i64.wrap ((1:Int)+(max 0 (min i.2.1 255))),())
 else
  (kK m i).bind fun r2=>
  aA (aCF m r2) fuel ((0:Int),((0:Int),()))
def aSP (n:Int) (a:Int) (b:Int) (c:Int):Option (Iq×Unit):=
 bif decide (0≤n)&&decide (n≤n)&&decide (n<(rowMax:Int)) then
  bif decide (a≥0) then
   bif decide (0≤a)&&decide (a<(List.replicate n.toNat (0:Int)).length) then
    bif decide (0≤a)&&decide (a<(List.replicate n.toNat (0:Int)).length) then
     bif decide (b≥0) then
      bif decide (0≤b)&&decide (b<((List.replicate n.toNat (0:Int)).set a.toNat (IntKind.i64.wrap (((List.replicate n.toNat (0:Int)).getD a.toNat 0) - 1))).length) then
       bif decide (0≤b)&&decide (b<((List.replicate n.toNat (0:Int)).set a.toNat (IntKind.i64.wrap (((List.replicate n.toNat (0:Int)).getD a.toNat 0) - 1))).length) then
        some ((((List.replicate n.toNat (0:Int)).set a.toNat (IntKind.i64.wrap (((List.replicate n.toNat (0:Int)).getD a.toNat 0) - 1))).set b.toNat (IntKind.i64.wrap ((((List.replicate n.toNat (0:Int)).set a.toNat (IntKind.i64.wrap (((List.replicate n.toNat (0:Int)).getD a.toNat 0) - 1))).getD b.toNat 0)+1)),c,()),())
       else none
      else none
     else some (((List.replicate n.toNat (0:Int)).set a.toNat (IntKind.i64.wrap (((List.replicate n.toNat (0:Int)).getD a.toNat 0) - 1)),c,()),())
    else none
   else none
  else bif decide (b≥0) then
   bif decide (0≤b)&&decide (b<(List.replicate n.toNat (0:Int)).length) then
    bif decide (0≤b)&&decide (b<(List.replicate n.toNat (0:Int)).length) then
     some (((List.replicate n.toNat (0:Int)).set b.toNat (IntKind.i64.wrap (((List.replicate n.toNat (0:Int)).getD b.toNat 0)+1)),c,()),())
    else none
   else none
  else some ((List.replicate n.toNat (0:Int),c,()),())
 else none
def uQ (m:Im) (f:Int) (r5:List Tp×List Int×Int×Unit) (s2:List Iq×Int×Unit) (rec3:(List Iq×Int×Unit)→Option (List Iq×Unit)) (s9:List Iq×Int×Unit) (rec10:(List Iq×Int×Unit)→Option (List Iq×Unit)):Option (List Iq×Unit):=
 bif decide (s9.2.1<(r5.2.1.length:Int)) then
  bif decide (0≤s9.2.1)&&decide (s9.2.1<r5.2.1.length) then
   (aCX m ((m.2.2.2.1.getD f.toNat zMt).2.2.2.1.getD s2.2.1.toNat dN)).bind fun r11=>
   (aB7 ((m.2.2.2.1.getD f.toNat zMt).2.2.2.1.length:Int) s2.2.1 (r5.2.1.getD s9.2.1.toNat 0) (IntKind.i64.wrap (0 - r11.1))).bind fun r12=>
   bif decide (s9.1.length+[r12.1].length<rowMax) then
    rec10 (s9.1++[r12.1],IntKind.i64.wrap (s9.2.1+1),())
   else none
  else none
 else rec3 (s9.1,IntKind.i64.wrap (s2.2.1+1),())
def aA0 (m:Im) (l:List (List Sh)) (f:Int) (fuel:Nat) (s2:List Iq×Int×Unit) (rec3:(List Iq×Int×Unit)→Option (List Iq×Unit)):Option (List Iq×Unit):=
 bif decide (s2.2.1<((m.2.2.2.1.getD f.toNat zMt).2.2.2.1.length:Int)) then
  bif decide (0≤s2.2.1)&&decide (s2.2.1<(m.2.2.2.1.getD f.toNat zMt).2.2.2.1.length) then
   (yE l f s2.2.1).bind fun r4=>
   bif !r4.1.1 then
    rec3 (s2.1,IntKind.i64.wrap (s2.2.1+1),())
   else
    (sY m f s2.2.1 r4.1.2.1).bind fun r5=>
    bif r5.2.2.1 !=0 then
     rec3 (s2.1,IntKind.i64.wrap (s2.2.1+1),())
    else
     (bif (r5.2.1.length:Int)==0 then
      (aB7 ((m.2.2.2.1.getD f.toNat zMt).2.2.2.1.length:Int) s2.2.1 (-1:Int) (0:Int)).bind fun r8=>
      bif decide (s2.1.length+[r8.1].length<rowMax) then
       some (.inl (s2.1++[r8.1],()))
      else none
     else some (.inl (s2.1,())):Option ((List Iq×Unit)⊕(List Iq×Unit))).bind fun q=>match q with
     | .inr r7=>some r7
     | .inl s6=>
      aA (uQ m f r5 s2 rec3) fuel (s6.1,((0:Int),()))
  else none
 else some ((idL s2.1),())
def aMx (fuel:Nat) (m:Im) (l:List (List Sh)) (f:Int):Option (List Iq×Unit):=
 bif decide (f<0) then
  some (([]:List Iq),())
 else bif decide (f≥(m.2.2.2.1.length:Int)) then
  some (([]:List Iq),())
 else bif decide (0≤f)&&decide (f<m.2.2.2.1.length) then
  bif ((m.2.2.2.1.getD f.toNat zMt).2.2.2.1.length:Int)==0 then
   some (([]:List Iq),())
  else bif decide (0≤f)&&decide (f<m.2.2.2.1.length) then
   bif decide (0≤f)&&decide (f<m.2.2.2.1.length) then
    (aB7 ((m.2.2.2.1.getD f.toNat zMt).2.2.2.1.length:Int) (-1:Int) (0:Int) (m.2.2.2.1.getD f.toNat zMt).2.2.2.2.2.1).bind fun r1=>
    aA (aA0 m l f fuel) fuel ([r1.1],((0:Int),()))
   else none
  else none
 else none
def aSS (n:Int):Bool:=
 decide (n<0)
def aLi (l:List Int) (_c:Unit):Prop:=(l.length≤lenMax∧∀x1:Int,x1∈l→True)∧True∧True
def aAA (l:List Int) (s1:Int×Unit) (rec2:(Int×Unit)→Option (Int×Unit)):Option (Int×Unit):=
 bif decide (s1.1<(l.length:Int)) then
  bif decide (0≤s1.1)&&decide (s1.1<l.length) then
   bif (aSS (l.getD s1.1.toNat 0)) then
    some (s1.1,())
   else rec2 (IntKind.i64.wrap (s1.1+1),())
  else none
 else some ((-1:Int),())
def aQs (fuel:Nat) (l:List Int) (_c:Unit):Option (Int×Unit):=
 aA (aAA l) fuel ((0:Int),())
def aGi (l:List Int) (_c:Unit):Prop:=(l.length≤lenMax∧∀x1:Int,x1∈l→True)∧True∧True
def aBR (l:List Int) (c:Unit):Option (Bool×Unit):=
 some (decide ((aAq l c)≥0),())
def aAh (m:Im) (s1:Int×Unit) (rec2:(Int×Unit)→Option (Int×Int×Unit)) (r3:List Iq×Unit) (s4:Int×Unit) (rec5:(Int×Unit)→Option (Int×Int×Unit)):Option (Int×Int×Unit):=
 bif decide (s4.1<(r3.1.length:Int)) then
  bif decide (0≤s4.1)&&decide (s4.1<r3.1.length) then
   (xT (r3.1.getD s4.1.toNat zIq) (m.2.2.2.1.getD s1.1.toNat zMt).2.2.2.2.2.2.1).bind fun r6=>
   bif r6.2.1 !=0 then
    some (s1.1,((6:Int),()))
   else bif !r6.1 then
    some (s1.1,((6:Int),()))
   else rec5 (IntKind.i64.wrap (s4.1+1),())
  else none
 else bif (nG (m.2.2.2.1.getD s1.1.toNat zMt).2.2.2.2.2.2.1 ()) then
  some (s1.1,((6:Int),()))
 else rec2 (IntKind.i64.wrap (s1.1+1),())
def qG (m:Im) (l:List (List Sh)) (fuel:Nat) (s1:Int×Unit) (rec2:(Int×Unit)→Option (Int×Int×Unit)):Option (Int×Int×Unit):=
 bif decide (s1.1<(m.2.2.2.1.length:Int)) then
  bif decide (0≤s1.1)&&decide (s1.1<m.2.2.2.1.length) then
   (yH m l s1.1).bind fun r3=>
   aA (aAh m s1 rec2 r3) fuel ((0:Int),())
  else none
 else some ((0:Int),((0:Int),()))
def aL4 (fuel:Nat) (m:Im) (l:List (List Sh)):Option (Int×Int×Unit):=
 aA (qG m l fuel) fuel ((0:Int),())
def aAB (m:Im) (r1:List Int×Int×Unit) (s2:Int×Int×Int×Unit) (rec3:(Int×Int×Int×Unit)→Option (Int×Int×Int×Unit)):Option (Int×Int×Int×Unit):=
 bif decide (s2.2.2.1<(m.2.2.2.2.1.length:Int)) then
  bif decide (0≤s2.2.2.1)&&decide (s2.2.2.1<m.2.2.2.2.1.length) then
   (bif decide (m.2.2.2.2.1.getD s2.2.2.1.toNat 0≥0) then
    some (.inl (decide (m.2.2.2.2.1.getD s2.2.2.1.toNat 0<(r1.1.length:Int)),()))
   else some (.inl (false,())):Option ((Bool×Unit)⊕(Int×Int×Int×Unit))).bind fun q=>match q with
   | .inr r5=>some r5
   | .inl s4=>
    bif s4.1 then
     bif decide (0≤m.2.2.2.2.1.getD s2.2.2.1.toNat 0)&&decide (m.2.2.2.2.1.getD s2.2.2.1.toNat 0<r1.1.length) then
      bif decide (0≤m.2.2.2.2.1.getD s2.2.2.1.toNat 0)&&decide (m.2.2.2.2.1.getD s2.2.2.1.toNat 0<m.2.2.2.1.length) then
       rec3 (max s2.1 (r1.1.getD (m.2.2.2.2.1.getD s2.2.2.1.toNat 0).toNat 0),max s2.2.1 (m.2.2.2.1.getD (m.2.2.2.2.1.getD s2.2.2.1.toNat 0).toNat zMt).2.2.2.2.2.1,IntKind.i64.wrap (s2.2.2.1+1),())
      else none
     else none
    else rec3 (s2.1,s2.2.1,IntKind.i64.wrap (s2.2.2.1+1),())
  else none
 else some (s2.1,(IntKind.i64.wrap ((m.2.1.length:Int)+s2.2.1),((0:Int),())))
def aMn (fuel:Nat) (m:Im) (l:List (List Sh)):Option (Int×Int×Int×Unit):=
 (kX m l).bind fun r1=>
 bif r1.2.1 !=0 then
  some ((0:Int),((0:Int),r1.2.1,()))
 else aA (aAB m r1) fuel ((0:Int),((0:Int),((0:Int),())))
def dW (m:Im):Option (List (List Sh)×Int×Unit):=
 bif (dS m) !=0 then
  some (([]:List (List Sh)),(dS m),())
 else
  (iS m).bind fun r1=>
  bif r1.2.2.2.1 !=0 then
   some (([]:List (List Sh)),r1.2.2.2.1,())
  else
   (jB m r1.1).bind fun r2=>
   bif r2.2.2.1 !=0 then
    some (([]:List (List Sh)),r2.2.2.1,())
   else
    (lR m r1.1).bind fun r3=>
    bif r3.2.1 !=0 then
     some (([]:List (List Sh)),r3.2.1,())
    else bif decide (r2.1>m.2.2.2.2.2.1) then
     some (([]:List (List Sh)),((7:Int),()))
    else bif decide (r2.2.1>m.2.2.2.2.2.2.1) then
     some (([]:List (List Sh)),((7:Int),()))
    else some (r1.1,((0:Int),()))
def aGA (b:List Int):Option (Im×List (List Sh)×Int×Unit):=
 (tV b).bind fun r1=>
 bif r1.2.1 !=0 then
  some ((([]:List Cl),(([]:List Tp),(([]:List Int),(([]:List Mt),(([]:List Int),((0:Int),((0:Int),()))))))),(([]:List (List Sh)),r1.2.1,()))
 else
  (dW r1.1).bind fun r2=>
  bif r2.2.1 !=0 then
   some ((([]:List Cl),(([]:List Tp),(([]:List Int),(([]:List Mt),(([]:List Int),((0:Int),((0:Int),()))))))),(([]:List (List Sh)),r2.2.1,()))
  else some (r1.1,r2.1,((0:Int),()))
def wN (m:Im) (r2:List Int×Unit) (s3:Int×Int×Unit) (rec4:(Int×Int×Unit)→Option (Int×Unit)):Option (Int×Unit):=
 bif decide (s3.2.1<(r2.1.length:Int)) then
  bif decide (0≤s3.2.1)&&decide (s3.2.1<r2.1.length) then
   bif decide (0≤r2.1.getD s3.2.1.toNat 0)&&decide (r2.1.getD s3.2.1.toNat 0<m.2.2.2.1.length) then
    bif decide ((m.2.2.2.1.getD (r2.1.getD s3.2.1.toNat 0).toNat zMt).2.2.2.2.2.1>s3.1) then
     bif decide (0≤s3.2.1)&&decide (s3.2.1<r2.1.length) then
      bif decide (0≤r2.1.getD s3.2.1.toNat 0)&&decide (r2.1.getD s3.2.1.toNat 0<m.2.2.2.1.length) then
       rec4 ((m.2.2.2.1.getD (r2.1.getD s3.2.1.toNat 0).toNat zMt).2.2.2.2.2.1,IntKind.i64.wrap (s3.2.1+1),())
      else none
     else none
    else rec4 (s3.1,IntKind.i64.wrap (s3.2.1+1),())
   else none
  else none
 else some (s3.1,())
def aJc (fuel:Nat) (m:Im) (i:Ins):Option (Int×Unit):=
 bif i.1==22 then
  (eU m i.2.1).bind fun r1=>
  some (IntKind.i64.wrap ((1:Int)+(r1.1.length:Int)),())
 else bif i.1==23 then
  some (IntKind.i64.wrap ((1:Int)+i.2.1),())
 else
  (jE m i).bind fun r2=>
  aA (wN m r2) fuel ((0:Int),((0:Int),()))
def awake16N:Option (Bool×Unit):=
 (dW (([]:List Cl),(([]:List Tp),(([]:List Int),([(([]:List Tp),(([]:List Tp),(((5:Int),((0:Int),())),([((33:Int),((0:Int),((0:Int),())))],((0:Int),((0:Int),(([0]:List Int),())))))))],(([0]:List Int),((3:Int),((0:Int),())))))))).bind fun r1=>
 (dW (([]:List Cl),(([]:List Tp),(([]:List Int),([(([]:List Tp),(([]:List Tp),(((5:Int),((0:Int),())),([((33:Int),((0:Int),((0:Int),())))],((0:Int),((0:Int),(([0]:List Int),())))))))],(([0]:List Int),((2:Int),((0:Int),())))))))).bind fun r2=>
 (jB (([]:List Cl),(([]:List Tp),(([]:List Int),([(([]:List Tp),(([]:List Tp),(((5:Int),((0:Int),())),([((33:Int),((0:Int),((0:Int),())))],((0:Int),((0:Int),(([0]:List Int),())))))))],(([0]:List Int),((2:Int),((0:Int),()))))))) r1.1).bind fun r3=>
 (aGA ([]:List Int)).bind fun r4=>
 bif r1.2.1==0 then
  bif r2.2.1==7 then
   bif r3.2.2.1==0 then
    bif r3.1==3 then
     bif r3.2.1==0 then
      bif r4.2.2.1==2 then
       bif (r1.1.length:Int)==1 then
        bif (rV (([]:List Cl),(([]:List Tp),(([]:List Int),([(([]:List Tp),(([]:List Tp),(((5:Int),((0:Int),())),([((33:Int),((0:Int),((0:Int),())))],((0:Int),((0:Int),(([0]:List Int),())))))))],(([0]:List Int),((2:Int),((0:Int),())))))))) then
         (qT (([]:List Cl),(([]:List Tp),(([]:List Int),([(([]:List Tp),(([]:List Tp),(((5:Int),((0:Int),())),([((33:Int),((0:Int),((0:Int),())))],((0:Int),((0:Int),(([0]:List Int),())))))))],(([0]:List Int),((2:Int),((0:Int),())))))))).bind fun r5=>
         bif (r5.1.length:Int)==1 then
          bif decide ((0:Int)<[(([]:List Tp),(([]:List Tp),(((5:Int),((0:Int),())),([((33:Int),((0:Int),((0:Int),())))],((0:Int),((0:Int),(([0]:List Int),())))))))].length) then
           bif decide ((0:Int)<([(([]:List Tp),(([]:List Tp),(((5:Int),((0:Int),())),([((33:Int),((0:Int),((0:Int),())))],((0:Int),((0:Int),(([0]:List Int),())))))))].getD 0 zMt).2.2.2.1.length) then
            (qN (([]:List Cl),(([]:List Tp),(([]:List Int),([(([]:List Tp),(([]:List Tp),(((5:Int),((0:Int),())),([((33:Int),((0:Int),((0:Int),())))],((0:Int),((0:Int),(([0]:List Int),())))))))],(([0]:List Int),((2:Int),((0:Int),()))))))) (([(([]:List Tp),(([]:List Tp),(((5:Int),((0:Int),())),([((33:Int),((0:Int),((0:Int),())))],((0:Int),((0:Int),(([0]:List Int),())))))))].getD 0 zMt).2.2.2.1.getD 0 dN)).bind fun r6=>
            some (r6.1==0,())
           else none
          else none
         else some (false,())
        else some (false,())
       else some (false,())
      else some (false,())
     else some (false,())
    else some (false,())
   else some (false,())
  else some (false,())
 else some (false,())
def aFJ (m:Im):Prop:=((m.1.length≤lenMax∧∀x1:Cl,x1∈m.1→(True∧((x1.2.1.length≤lenMax∧∀x2:Tp,x2∈x1.2.1→(True∧(True∧True)))∧((x1.2.2.1.length≤lenMax∧∀x2:Int,x2∈x1.2.2.1→True)∧True))))∧((m.2.1.length≤lenMax∧∀x1:Tp,x1∈m.2.1→(True∧(True∧True)))∧((m.2.2.1.length≤lenMax∧∀x1:Int,x1∈m.2.2.1→True)∧((m.2.2.2.1.length≤lenMax∧∀x1:Mt,x1∈m.2.2.2.1→((x1.1.length≤lenMax∧∀x2:Tp,x2∈x1.1→(True∧(True∧True)))∧((x1.2.1.length≤lenMax∧∀x2:Tp,x2∈x1.2.1→(True∧(True∧True)))∧((True∧(True∧True))∧((x1.2.2.2.1.length≤lenMax∧∀x2:Ins,x2∈x1.2.2.2.1→(True∧(True∧(True∧True))))∧(True∧(True∧((x1.2.2.2.2.2.2.1.length≤lenMax∧∀x2:Int,x2∈x1.2.2.2.2.2.2.1→True)∧True))))))))∧((m.2.2.2.2.1.length≤lenMax∧∀x1:Int,x1∈m.2.2.2.2.1→True)∧(True∧(True∧True)))))))∧True
def rO (m:Im) (s1:Int×Unit) (rec2:(Int×Unit)→Option (Bool×Unit)):Option (Bool×Unit):=
 bif decide (s1.1<(m.2.2.2.1.length:Int)) then
  bif decide (0≤s1.1)&&decide (s1.1<m.2.2.2.1.length) then
   bif decide (IntKind.i64.wrap ((IntKind.i64.wrap ((IntKind.i64.wrap (((m.2.2.2.1.getD s1.1.toNat zMt).1.length:Int)+((m.2.2.2.1.getD s1.1.toNat zMt).2.1.length:Int)))+((m.2.2.2.1.getD s1.1.toNat zMt).2.2.2.1.length:Int)))+((m.2.2.2.1.getD s1.1.toNat zMt).2.2.2.2.2.2.1.length:Int))>300) then
    some (false,())
   else rec2 (IntKind.i64.wrap (s1.1+1),())
  else none
 else some (true,())
def aIK (fuel:Nat) (m:Im):Option (Bool×Unit):=
 bif decide (IntKind.i64.wrap ((IntKind.i64.wrap ((IntKind.i64.wrap ((IntKind.i64.wrap ((m.1.length:Int)+(m.2.1.length:Int)))+(m.2.2.1.length:Int)))+(m.2.2.2.1.length:Int)))+(m.2.2.2.2.1.length:Int))>100) then
  some (false,())
 else aA (rO m) fuel ((0:Int),())
end
end Go.Pli

namespace Go.Pli
open Go Go.PM
noncomputable section
def uE (x:Mt) (n:Int):Option (Tp×Unit):=
 bif decide (([]:List Tp).length+x.1.length<rowMax) then
  bif decide ((([]:List Tp)++x.1).length+x.2.1.length<rowMax) then
   bif decide (n<0) then
    some (((0:Int),((0:Int),())),())
   else bif decide (n≥(((([]:List Tp)++x.1)++x.2.1).length:Int)) then
    some (((0:Int),((0:Int),())),())
   else bif decide (0≤n)&&decide (n<((([]:List Tp)++x.1)++x.2.1).length) then
    some (((([]:List Tp)++x.1)++x.2.1).getD n.toNat zTp,())
   else none
  else none
 else none
def zE (r3:List Int×Unit) (r4:List Int×Unit) (s5:Int×Unit) (rec6:(Int×Unit)→Option (Tp×Unit)):Option (Tp×Unit):=
 bif decide (s5.1<(r3.1.length:Int)) then
  bif decide (0≤s5.1)&&decide (s5.1<r3.1.length) then
   (rin r4.1 (r3.1.getD s5.1.toNat 0)).bind fun r7=>
   bif r7.1 then
    bif decide (0≤s5.1)&&decide (s5.1<r3.1.length) then
     some (((3:Int),r3.1.getD s5.1.toNat 0,()),())
    else none
   else rec6 (IntKind.i64.wrap (s5.1+1),())
  else none
 else some (((0:Int),((0:Int),())),())
def aOW (fuel:Nat) (l:List Cl) (a:Tp) (b:Tp):Option (Tp×Unit):=
 (uB l a b).bind fun r1=>
 bif r1.1 then
  some (b,())
 else
  (uB l b a).bind fun r2=>
  bif r2.1 then
   some (a,())
  else bif a.1 !=3 then
   some (((0:Int),((0:Int),())),())
  else bif b.1 !=3 then
   some (((0:Int),((0:Int),())),())
  else
   (jC l a.2.1).bind fun r3=>
   (jC l b.2.1).bind fun r4=>
   aA (zE r3 r4) fuel ((1:Int),())
def pY (x:Mt):Option (List Tp×Unit):=
 bif x.2.2.1.1==5 then
  some (([]:List Tp),())
 else some ([x.2.2.1],())
def zB (m:Im) (f:Int) (i:Ins):Option (List Tp×List Tp×Unit):=
 bif i.1==1 then
  some (([]:List Tp),([((1:Int),((0:Int),()))],()))
 else bif i.1==2 then
  some (([]:List Tp),([((4:Int),((0:Int),()))],()))
 else bif i.1==3 then
  bif decide (0≤f)&&decide (f<m.2.2.2.1.length) then
   (uE (m.2.2.2.1.getD f.toNat zMt) i.2.1).bind fun r1=>
   some (([]:List Tp),[r1.1],())
  else none
 else bif i.1==4 then
  bif decide (0≤f)&&decide (f<m.2.2.2.1.length) then
   (uE (m.2.2.2.1.getD f.toNat zMt) i.2.1).bind fun r2=>
   some ([r2.1],(([]:List Tp),()))
  else none
 else bif i.1==5 then
  some ([((0:Int),((0:Int),()))],(([]:List Tp),()))
 else bif i.1==19 then
  some ([((1:Int),((0:Int),()))],(([]:List Tp),()))
 else bif i.1==20 then
  some ([((4:Int),((0:Int),()))],([((1:Int),((0:Int),()))],()))
 else bif i.1==21 then
  some ([((4:Int),((0:Int),())),((4:Int),((0:Int),()))],([((1:Int),((0:Int),()))],()))
 else bif i.1==22 then
  some (([]:List Tp),([((3:Int),i.2.1,())],()))
 else bif i.1==23 then
  some ([((1:Int),((0:Int),()))],([((2:Int),((0:Int),()))],()))
 else bif i.1==24 then
  some ([((2:Int),((0:Int),())),((1:Int),((0:Int),()))],([((1:Int),((0:Int),()))],()))
 else bif i.1==25 then
  some ([((2:Int),((0:Int),())),((1:Int),((0:Int),())),((1:Int),((0:Int),()))],(([]:List Tp),()))
 else bif i.1==26 then
  some ([((2:Int),((0:Int),()))],([((1:Int),((0:Int),()))],()))
 else bif i.1==27 then
  (eU m i.2.1).bind fun r3=>
  bif decide (0≤i.2.2.1)&&decide (i.2.2.1≤IntKind.i64.wrap (i.2.2.1+1))&&decide (IntKind.i64.wrap (i.2.2.1+1)≤(r3.1.length:Int)) then
   some ([((3:Int),i.2.1,())],(r3.1.take (IntKind.i64.wrap (i.2.2.1+1)).toNat).drop i.2.2.1.toNat,())
  else none
 else bif i.1==28 then
  (eU m i.2.1).bind fun r4=>
  bif decide (0≤i.2.2.1)&&decide (i.2.2.1<r4.1.length) then
   some ([((3:Int),i.2.1,()),r4.1.getD i.2.2.1.toNat zTp],(([]:List Tp),()))
  else none
 else bif i.1==29 then
  bif decide (0≤i.2.1)&&decide (i.2.1<m.2.1.length) then
   some (([]:List Tp),[m.2.1.getD i.2.1.toNat zTp],())
  else none
 else bif i.1==30 then
  bif decide (0≤i.2.1)&&decide (i.2.1<m.2.1.length) then
   some ([m.2.1.getD i.2.1.toNat zTp],(([]:List Tp),()))
  else none
 else bif i.1==34 then
  some ([((4:Int),((0:Int),()))],([((3:Int),i.2.1,())],()))
 else bif i.1==33 then
  bif decide (0≤f)&&decide (f<m.2.2.2.1.length) then
   (pY (m.2.2.2.1.getD f.toNat zMt)).bind fun r5=>
   some (r5.1,(([]:List Tp),()))
  else none
 else bif i.1==31 then
  bif decide (0≤i.2.1)&&decide (i.2.1<m.2.2.2.1.length) then
   bif decide (0≤i.2.1)&&decide (i.2.1<m.2.2.2.1.length) then
    (pY (m.2.2.2.1.getD i.2.1.toNat zMt)).bind fun r6=>
    some ((m.2.2.2.1.getD i.2.1.toNat zMt).1,r6.1,())
   else none
  else none
 else bif i.1==32 then
  let r7:=aB9 m i.2.1 i.2.2.1
  bif decide (0≤r7.1)&&decide (r7.1<m.2.2.2.1.length) then
   bif decide ((1:Int)≤((m.2.2.2.1.getD r7.1.toNat zMt).1.length:Int))&&decide (((m.2.2.2.1.getD r7.1.toNat zMt).1.length:Int)≤((m.2.2.2.1.getD r7.1.toNat zMt).1.length:Int)) then
    bif decide ([((3:Int),i.2.1,())].length+(((m.2.2.2.1.getD r7.1.toNat zMt).1.take ((m.2.2.2.1.getD r7.1.toNat zMt).1.length:Int).toNat).drop 1).length<rowMax) then
     bif decide (0≤r7.1)&&decide (r7.1<m.2.2.2.1.length) then
      (pY (m.2.2.2.1.getD r7.1.toNat zMt)).bind fun r8=>
      some ([((3:Int),i.2.1,())]++(((m.2.2.2.1.getD r7.1.toNat zMt).1.take ((m.2.2.2.1.getD r7.1.toNat zMt).1.length:Int).toNat).drop 1),r8.1,())
     else none
    else none
   else none
  else none
 else bif decide (i.1≥7) then
  bif decide (i.1≤17) then
   some ([((1:Int),((0:Int),())),((1:Int),((0:Int),()))],([((1:Int),((0:Int),()))],()))
  else some (([]:List Tp),(([]:List Tp),()))
 else some (([]:List Tp),(([]:List Tp),()))
def uK (m:Im) (f:Int) (pc:Int) (s:List Tp) (s5:List Int×Unit) (s10:List Tp×List Tp×Unit) (s16:Int×Unit) (rec17:(Int×Unit)→Option (List Tp×List Int×Int×Unit)):Option (List Tp×List Int×Int×Unit):=
 bif decide (s16.1<(s10.1.length:Int)) then
  bif decide (0≤IntKind.i64.wrap ((IntKind.i64.wrap ((s.length:Int) - (s10.1.length:Int)))+s16.1))&&decide (IntKind.i64.wrap ((IntKind.i64.wrap ((s.length:Int) - (s10.1.length:Int)))+s16.1)<s.length) then
   bif decide (0≤s16.1)&&decide (s16.1<s10.1.length) then
    bif ((s10.1.getD s16.1.toNat zTp).1)==0 then
     rec17 (IntKind.i64.wrap (s16.1+1),())
    else bif ((s10.1.getD s16.1.toNat zTp).1)==4 then
     bif !(vK (s.getD (IntKind.i64.wrap ((IntKind.i64.wrap ((s.length:Int) - (s10.1.length:Int)))+s16.1)).toNat zTp)) then
      some (([]:List Tp),(([]:List Int),((4:Int),())))
     else bif (((m.2.2.2.1.getD f.toNat zMt).2.2.2.1.getD pc.toNat dN).1)==34 then
      bif ((s.getD (IntKind.i64.wrap ((IntKind.i64.wrap ((s.length:Int) - (s10.1.length:Int)))+s16.1)).toNat zTp).1)==2 then
       some (([]:List Tp),(([]:List Int),((4:Int),())))
      else rec17 (IntKind.i64.wrap (s16.1+1),())
     else rec17 (IntKind.i64.wrap (s16.1+1),())
    else
     (uB m.1 (s.getD (IntKind.i64.wrap ((IntKind.i64.wrap ((s.length:Int) - (s10.1.length:Int)))+s16.1)).toNat zTp) (s10.1.getD s16.1.toNat zTp)).bind fun r18=>
     bif !r18.1 then
      some (([]:List Tp),(([]:List Int),((4:Int),())))
     else rec17 (IntKind.i64.wrap (s16.1+1),())
   else none
  else none
 else bif decide ((0:Int)≤IntKind.i64.wrap ((s.length:Int) - (s10.1.length:Int)))&&decide (IntKind.i64.wrap ((s.length:Int) - (s10.1.length:Int))≤(s.length:Int)) then
  bif decide (([]:List Tp).length+((s.take (IntKind.i64.wrap ((s.length:Int) - (s10.1.length:Int))).toNat).drop 0).length<rowMax) then
   bif decide ((([]:List Tp)++((s.take (IntKind.i64.wrap ((s.length:Int) - (s10.1.length:Int))).toNat).drop 0)).length+s10.2.1.length<rowMax) then
    some ((([]:List Tp)++((s.take (IntKind.i64.wrap ((s.length:Int) - (s10.1.length:Int))).toNat).drop 0))++s10.2.1,s5.1,((0:Int),()))
   else none
  else none
 else none
def tY (fuel:Nat) (m:Im) (f:Int) (pc:Int) (s:List Tp):Option (List Tp×List Int×Int×Unit):=
 bif decide (f<0) then
  some (([]:List Tp),(([]:List Int),((1:Int),())))
 else bif decide (f≥(m.2.2.2.1.length:Int)) then
  some (([]:List Tp),(([]:List Int),((1:Int),())))
 else bif decide (pc<0) then
  some (([]:List Tp),(([]:List Int),((1:Int),())))
 else bif decide (0≤f)&&decide (f<m.2.2.2.1.length) then
  bif decide (pc≥((m.2.2.2.1.getD f.toNat zMt).2.2.2.1.length:Int)) then
   some (([]:List Tp),(([]:List Int),((1:Int),())))
  else bif decide (0≤f)&&decide (f<m.2.2.2.1.length) then
   bif decide (0≤pc)&&decide (pc<(m.2.2.2.1.getD f.toNat zMt).2.2.2.1.length) then
    (bif (((m.2.2.2.1.getD f.toNat zMt).2.2.2.1.getD pc.toNat dN).1)==18 then
     some (.inl ([((m.2.2.2.1.getD f.toNat zMt).2.2.2.1.getD pc.toNat dN).2.1],()))
    else some (.inl ([IntKind.i64.wrap (pc+1)],())):Option ((List Int×Unit)⊕(List Tp×List Int×Int×Unit))).bind fun q=>match q with
    | .inr r2=>some r2
    | .inl s1=>
     (bif (((m.2.2.2.1.getD f.toNat zMt).2.2.2.1.getD pc.toNat dN).1)==19 then
      bif decide (s1.1.length+[((m.2.2.2.1.getD f.toNat zMt).2.2.2.1.getD pc.toNat dN).2.1].length<rowMax) then
       some (.inl (s1.1++[((m.2.2.2.1.getD f.toNat zMt).2.2.2.1.getD pc.toNat dN).2.1],()))
      else none
     else some (.inl (s1.1,())):Option ((List Int×Unit)⊕(List Tp×List Int×Int×Unit))).bind fun q=>match q with
     | .inr r4=>some r4
     | .inl s3=>
      (bif (((m.2.2.2.1.getD f.toNat zMt).2.2.2.1.getD pc.toNat dN).1)==33 then
       some (.inl (([]:List Int),()))
      else some (.inl (s3.1,())):Option ((List Int×Unit)⊕(List Tp×List Int×Int×Unit))).bind fun q=>match q with
      | .inr r6=>some r6
      | .inl s5=>
       (bif decide ((s5.1.length:Int)>0) then
        bif decide ((0:Int)<s5.1.length) then
         bif decide (0≤f)&&decide (f<m.2.2.2.1.length) then
          bif decide (s5.1.getD 0 0≥((m.2.2.2.1.getD f.toNat zMt).2.2.2.1.length:Int)) then
           some (.inr (([]:List Tp),(([]:List Int),((4:Int),()))))
          else some (.inl ())
         else none
        else none
       else some (.inl ()):Option (Unit⊕(List Tp×List Int×Int×Unit))).bind fun q=>match q with
       | .inr r8=>some r8
       | .inl _=>
        (zB m f ((m.2.2.2.1.getD f.toNat zMt).2.2.2.1.getD pc.toNat dN)).bind fun r9=>
        ((bif (((m.2.2.2.1.getD f.toNat zMt).2.2.2.1.getD pc.toNat dN).1)==6 then
         some (.inl (decide ((s.length:Int)>0),()))
        else some (.inl (false,())):Option ((Bool×Unit)⊕((List Tp×List Tp×Unit)⊕(List Tp×List Int×Int×Unit)))).bind fun q=>match q with
        | .inr r13=>some r13
        | .inl s12=>
         bif s12.1 then
          bif decide (0≤IntKind.i64.wrap ((s.length:Int) - 1))&&decide (IntKind.i64.wrap ((s.length:Int) - 1)<s.length) then
           some (.inl ([((0:Int),((0:Int),()))],([s.getD (IntKind.i64.wrap ((s.length:Int) - 1)).toNat zTp,s.getD (IntKind.i64.wrap ((s.length:Int) - 1)).toNat zTp],())))
          else none
         else some (.inl (r9.1,r9.2.1,())):Option ((List Tp×List Tp×Unit)⊕(List Tp×List Int×Int×Unit))).bind fun q=>match q with
        | .inr r11=>some r11
        | .inl s10=>
         (bif (((m.2.2.2.1.getD f.toNat zMt).2.2.2.1.getD pc.toNat dN).1)==6 then
          bif (s.length:Int)==0 then
           some (.inr (([]:List Tp),(([]:List Int),((4:Int),()))))
          else bif decide ((s10.1.length:Int)>(s.length:Int)) then
           some (.inr (([]:List Tp),(([]:List Int),((4:Int),()))))
          else bif decide (IntKind.i64.wrap ((IntKind.i64.wrap ((s.length:Int) - (s10.1.length:Int)))+(s10.2.1.length:Int))>8) then
           some (.inr (([]:List Tp),(([]:List Int),((4:Int),()))))
          else some (.inl ())
         else bif decide ((s10.1.length:Int)>(s.length:Int)) then
          some (.inr (([]:List Tp),(([]:List Int),((4:Int),()))))
         else bif decide (IntKind.i64.wrap ((IntKind.i64.wrap ((s.length:Int) - (s10.1.length:Int)))+(s10.2.1.length:Int))>8) then
          some (.inr (([]:List Tp),(([]:List Int),((4:Int),()))))
         else some (.inl ()):Option (Unit⊕(List Tp×List Int×Int×Unit))).bind fun q=>match q with
         | .inr r15=>some r15
         | .inl _=>
          aA (uK m f pc s s5 s10) fuel ((0:Int),())
   else none
  else none
 else none
def oW (m:Im) (s6:Bool×Int×List Sh×Unit) (rec7:(Bool×Int×List Sh×Unit)→Option (List Sh×Bool×Unit)) (r5:List Tp×List Int×Int×Unit) (s8:List Tp×Int×Unit) (rec9:(List Tp×Int×Unit)→Option (List Sh×Bool×Unit)):Option (List Sh×Bool×Unit):=
 bif decide (s8.2.1<(r5.1.length:Int)) then
  bif decide (0≤r5.2.1.getD s6.2.1.toNat 0)&&decide (r5.2.1.getD s6.2.1.toNat 0<s6.2.2.1.length) then
   bif decide (0≤s8.2.1)&&decide (s8.2.1<(s6.2.2.1.getD (r5.2.1.getD s6.2.1.toNat 0).toNat zSh).2.1.length) then
    bif decide (0≤s8.2.1)&&decide (s8.2.1<r5.1.length) then
     (aCw m.1 ((s6.2.2.1.getD (r5.2.1.getD s6.2.1.toNat 0).toNat zSh).2.1.getD s8.2.1.toNat zTp) (r5.1.getD s8.2.1.toNat zTp)).bind fun r10=>
     bif r10.1.1==0 then
      some (([]:List Sh),false,())
     else bif decide (s8.1.length+[r10.1].length<rowMax) then
      rec9 (s8.1++[r10.1],IntKind.i64.wrap (s8.2.1+1),())
     else none
    else none
   else none
  else none
 else bif decide (0≤r5.2.1.getD s6.2.1.toNat 0)&&decide (r5.2.1.getD s6.2.1.toNat 0<s6.2.2.1.length) then
  bif !(yY s8.1 (s6.2.2.1.getD (r5.2.1.getD s6.2.1.toNat 0).toNat zSh).2.1) then
   bif decide (0≤r5.2.1.getD s6.2.1.toNat 0)&&decide (r5.2.1.getD s6.2.1.toNat 0<s6.2.2.1.length) then
    rec7 (true,IntKind.i64.wrap (s6.2.1+1),s6.2.2.1.set (r5.2.1.getD s6.2.1.toNat 0).toNat (true,s8.1,()),())
   else none
  else rec7 (s6.1,IntKind.i64.wrap (s6.2.1+1),s6.2.2.1,())
 else none
def pO (m:Im) (fuel:Nat) (s3:Bool×Int×List Sh×Unit) (rec4:(Bool×Int×List Sh×Unit)→Option (List Sh×Bool×Unit)) (r5:List Tp×List Int×Int×Unit) (s6:Bool×Int×List Sh×Unit) (rec7:(Bool×Int×List Sh×Unit)→Option (List Sh×Bool×Unit)):Option (List Sh×Bool×Unit):=
 bif decide (s6.2.1<(r5.2.1.length:Int)) then
  bif decide (0≤s6.2.1)&&decide (s6.2.1<r5.2.1.length) then
   bif decide (0≤r5.2.1.getD s6.2.1.toNat 0)&&decide (r5.2.1.getD s6.2.1.toNat 0<s6.2.2.1.length) then
    bif !(s6.2.2.1.getD (r5.2.1.getD s6.2.1.toNat 0).toNat zSh).1 then
     bif decide (0≤r5.2.1.getD s6.2.1.toNat 0)&&decide (r5.2.1.getD s6.2.1.toNat 0<s6.2.2.1.length) then
      rec7 (true,IntKind.i64.wrap (s6.2.1+1),s6.2.2.1.set (r5.2.1.getD s6.2.1.toNat 0).toNat (true,r5.1,()),())
     else none
    else bif decide (0≤r5.2.1.getD s6.2.1.toNat 0)&&decide (r5.2.1.getD s6.2.1.toNat 0<s6.2.2.1.length) then
     bif ((s6.2.2.1.getD (r5.2.1.getD s6.2.1.toNat 0).toNat zSh).2.1.length:Int) !=(r5.1.length:Int) then
      some (([]:List Sh),false,())
     else aA (oW m s6 rec7 r5) fuel (([]:List Tp),((0:Int),()))
    else none
   else none
  else none
 else rec4 (s6.1,IntKind.i64.wrap (s3.2.1 - 1),s6.2.2.1,())
def pK (m:Im) (f:Int) (fuel:Nat) (s1:Int×List Sh×Unit) (rec2:(Int×List Sh×Unit)→Option (List Sh×Bool×Unit)) (s3:Bool×Int×List Sh×Unit) (rec4:(Bool×Int×List Sh×Unit)→Option (List Sh×Bool×Unit)):Option (List Sh×Bool×Unit):=
 bif decide (s3.2.1≥0) then
  bif decide (0≤s3.2.1)&&decide (s3.2.1<s3.2.2.1.length) then
   bif !(s3.2.2.1.getD s3.2.1.toNat zSh).1 then
    rec4 (s3.1,IntKind.i64.wrap (s3.2.1 - 1),s3.2.2.1,())
   else bif decide (0≤s3.2.1)&&decide (s3.2.1<s3.2.2.1.length) then
    (oS m f s3.2.1 (s3.2.2.1.getD s3.2.1.toNat zSh).2.1).bind fun r5=>
    bif r5.2.2.1 !=0 then
     some (([]:List Sh),false,())
    else aA (pO m fuel s3 rec4 r5) fuel (s3.1,((0:Int),s3.2.2.1,()))
   else none
  else none
 else bif !s3.1 then
  some (s3.2.2.1,true,())
 else rec2 (IntKind.i64.wrap (s1.1+1),s3.2.2.1,())
def sU (m:Im) (f:Int) (fuel:Nat) (s1:Int×List Sh×Unit) (rec2:(Int×List Sh×Unit)→Option (List Sh×Bool×Unit)):Option (List Sh×Bool×Unit):=
 bif decide (s1.1<4000) then
  aA (pK m f fuel s1 rec2) fuel (false,(IntKind.i64.wrap (((m.2.2.2.1.getD f.toNat zMt).2.2.2.1.length:Int) - 1),s1.2.1,()))
 else some (([]:List Sh),false,())
def aHb (fuel:Nat) (m:Im) (f:Int):Option (List Sh×Bool×Unit):=
 bif decide (0≤f)&&decide (f<m.2.2.2.1.length) then
  bif decide (0≤((m.2.2.2.1.getD f.toNat zMt).2.2.2.1.length:Int))&&decide (((m.2.2.2.1.getD f.toNat zMt).2.2.2.1.length:Int)≤((m.2.2.2.1.getD f.toNat zMt).2.2.2.1.length:Int))&&decide (((m.2.2.2.1.getD f.toNat zMt).2.2.2.1.length:Int)<(rowMax:Int)) then
   bif ((m.2.2.2.1.getD f.toNat zMt).2.2.2.1.length:Int)==0 then
    some (([]:List Sh),false,())
   else bif decide ((0:Int)<(List.replicate ((m.2.2.2.1.getD f.toNat zMt).2.2.2.1.length:Int).toNat zSh).length) then
    aA (sU m f fuel) fuel ((0:Int),((List.replicate ((m.2.2.2.1.getD f.toNat zMt).2.2.2.1.length:Int).toNat zSh).set 0 (true,((List.replicate ((m.2.2.2.1.getD f.toNat zMt).2.2.2.1.length:Int).toNat zSh).getD 0 zSh).2),()))
   else none
  else none
 else none
def aCt (m:Im) (s1:List (List Sh)×Int×Unit) (rec2:(List (List Sh)×Int×Unit)→Option (List (List Sh)×Int×Unit)):Option (List (List Sh)×Int×Unit):=
 bif decide (s1.2.1<(m.2.2.2.1.length:Int)) then
  (pQ m s1.2.1).bind fun r3=>
  bif !r3.2.1 then
   some (([]:List (List Sh)),s1.2.1,())
  else bif decide (s1.1.length+[r3.1].length<rowMax) then
   rec2 (s1.1++[r3.1],IntKind.i64.wrap (s1.2.1+1),())
  else none
 else some (s1.1,((-1:Int),()))
def aQl (fuel:Nat) (m:Im):Option (List (List Sh)×Int×Unit):=
 aA (aCt m) fuel (([]:List (List Sh)),((0:Int),()))
def lQ (l:List (List Sh)) (f:Int) (s3:Int×Int×Unit) (rec4:(Int×Int×Unit)→Option ((Int×Unit)⊕(Int×Unit))):Option ((Int×Unit)⊕(Int×Unit)):=
 bif decide (f<(l.length:Int)) then
  bif decide (0≤f)&&decide (f<l.length) then
   bif decide (s3.2.1<((l.getD f.toNat ([]:List Sh)).length:Int)) then
    bif decide (0≤f)&&decide (f<l.length) then
     bif decide (0≤s3.2.1)&&decide (s3.2.1<(l.getD f.toNat ([]:List Sh)).length) then
      bif decide ((((l.getD f.toNat ([]:List Sh)).getD s3.2.1.toNat zSh).2.1.length:Int)>s3.1) then
       bif decide (0≤f)&&decide (f<l.length) then
        bif decide (0≤s3.2.1)&&decide (s3.2.1<(l.getD f.toNat ([]:List Sh)).length) then
         rec4 ((((l.getD f.toNat ([]:List Sh)).getD s3.2.1.toNat zSh).2.1.length:Int),IntKind.i64.wrap (s3.2.1+1),())
        else none
       else none
      else rec4 (s3.1,IntKind.i64.wrap (s3.2.1+1),())
     else none
    else none
   else some (.inl (s3.1,()))
  else none
 else some (.inl (s3.1,()))
def aIw (fuel:Nat) (m:Im) (l:List (List Sh)) (f:Int):Option (Int×Unit):=
 bif decide (f<0) then
  some ((0:Int),())
 else bif decide (f≥(m.2.2.2.1.length:Int)) then
  some ((0:Int),())
 else
  (aA (lQ l f) fuel ((0:Int),((0:Int),())):Option ((Int×Unit)⊕(Int×Unit))).bind fun q=>match q with
  | .inr r2=>some r2
  | .inl s1=>
   bif decide (0≤f)&&decide (f<m.2.2.2.1.length) then
    bif decide (0≤f)&&decide (f<m.2.2.2.1.length) then
     some (IntKind.i64.wrap ((IntKind.i64.wrap ((IntKind.i64.wrap ((3:Int)+((m.2.2.2.1.getD f.toNat zMt).1.length:Int)))+((m.2.2.2.1.getD f.toNat zMt).2.1.length:Int)))+s1.1),())
    else none
   else none
def rK (r1:List (List Int)×Unit) (r2:List (List Bool)×Unit) (s7:Int×List Int×Unit) (s9:Int×Int×Int×Unit) (s17:Int×Unit) (r19:Int×Unit) (s20:Int×Int×Unit) (rec21:(Int×Int×Unit)→Option ((Int×Int×Unit)⊕(List Int×Bool×Unit))):Option ((Int×Int×Unit)⊕(List Int×Bool×Unit)):=
 bif decide (0≤s9.2.2.1)&&decide (s9.2.2.1<r1.1.length) then
  bif decide (s20.2.1<((r1.1.getD s9.2.2.1.toNat ([]:List Int)).length:Int)) then
   bif decide (0≤s9.2.2.1)&&decide (s9.2.2.1<r1.1.length) then
    bif decide (0≤s20.2.1)&&decide (s20.2.1<(r1.1.getD s9.2.2.1.toNat ([]:List Int)).length) then
     bif decide (0≤(r1.1.getD s9.2.2.1.toNat ([]:List Int)).getD s20.2.1.toNat 0)&&decide ((r1.1.getD s9.2.2.1.toNat ([]:List Int)).getD s20.2.1.toNat 0<r2.1.length) then
      bif decide (0≤s9.2.2.1)&&decide (s9.2.2.1<(r2.1.getD ((r1.1.getD s9.2.2.1.toNat ([]:List Int)).getD s20.2.1.toNat 0).toNat ([]:List Bool)).length) then
       bif !((r2.1.getD ((r1.1.getD s9.2.2.1.toNat ([]:List Int)).getD s20.2.1.toNat 0).toNat ([]:List Bool)).getD s9.2.2.1.toNat false) then
        bif decide (0≤(r1.1.getD s9.2.2.1.toNat ([]:List Int)).getD s20.2.1.toNat 0)&&decide ((r1.1.getD s9.2.2.1.toNat ([]:List Int)).getD s20.2.1.toNat 0<s7.2.1.length) then
         bif decide (s7.2.1.getD ((r1.1.getD s9.2.2.1.toNat ([]:List Int)).getD s20.2.1.toNat 0).toNat 0>s20.1) then
          bif decide (0≤(r1.1.getD s9.2.2.1.toNat ([]:List Int)).getD s20.2.1.toNat 0)&&decide ((r1.1.getD s9.2.2.1.toNat ([]:List Int)).getD s20.2.1.toNat 0<s7.2.1.length) then
           rec21 (s7.2.1.getD ((r1.1.getD s9.2.2.1.toNat ([]:List Int)).getD s20.2.1.toNat 0).toNat 0,IntKind.i64.wrap (s20.2.1+1),())
          else none
         else rec21 (s20.1,IntKind.i64.wrap (s20.2.1+1),())
        else none
       else rec21 (s20.1,IntKind.i64.wrap (s20.2.1+1),())
      else none
     else none
    else none
   else none
  else some (.inl (IntKind.i64.wrap (s9.1+(IntKind.i64.wrap (s17.1*r19.1))),s20.1,()))
 else none
def sA (m:Im) (l:List (List Sh)) (fuel:Nat) (r1:List (List Int)×Unit) (r2:List (List Bool)×Unit) (s7:Int×List Int×Unit) (rec8:(Int×List Int×Unit)→Option (List Int×Bool×Unit)) (s9:Int×Int×Int×Unit) (rec10:(Int×Int×Int×Unit)→Option (List Int×Bool×Unit)):Option (List Int×Bool×Unit):=
 bif decide (s9.2.2.1<(m.2.2.2.1.length:Int)) then
  (((bif s9.2.2.1 !=s7.1 then
   bif decide (0≤s7.1)&&decide (s7.1<r2.1.length) then
    bif decide (0≤s9.2.2.1)&&decide (s9.2.2.1<(r2.1.getD s7.1.toNat ([]:List Bool)).length) then
     bif (r2.1.getD s7.1.toNat ([]:List Bool)).getD s9.2.2.1.toNat false then
      bif decide (0≤s9.2.2.1)&&decide (s9.2.2.1<r2.1.length) then
       bif decide (0≤s7.1)&&decide (s7.1<(r2.1.getD s9.2.2.1.toNat ([]:List Bool)).length) then
        some (.inl (!((r2.1.getD s9.2.2.1.toNat ([]:List Bool)).getD s7.1.toNat false),()))
       else none
      else none
     else some (.inl (true,()))
    else none
   else none
  else some (.inl (false,())):Option ((Bool×Unit)⊕((Bool×Unit)⊕((Int×Int×Unit)⊕(List Int×Bool×Unit))))).bind fun q=>match q with
  | .inr r16=>some r16
  | .inl s15=>
   bif s15.1 then
    some (.inr (.inl (s9.1,s9.2.1,())))
   else some (.inl (false,())):Option ((Bool×Unit)⊕((Int×Int×Unit)⊕(List Int×Bool×Unit)))).bind fun q=>match q with
  | .inr r14=>some r14
  | .inl _=>
   (bif decide (0≤s9.2.2.1)&&decide (s9.2.2.1<r2.1.length) then
    bif decide (0≤s9.2.2.1)&&decide (s9.2.2.1<(r2.1.getD s9.2.2.1.toNat ([]:List Bool)).length) then
     bif (r2.1.getD s9.2.2.1.toNat ([]:List Bool)).getD s9.2.2.1.toNat false then
      bif decide (0≤s9.2.2.1)&&decide (s9.2.2.1<m.2.2.2.1.length) then
       some (.inl ((m.2.2.2.1.getD s9.2.2.1.toNat zMt).2.2.2.2.1,()))
      else none
     else some (.inl ((1:Int),()))
    else none
   else none:Option ((Int×Unit)⊕((Int×Int×Unit)⊕(List Int×Bool×Unit)))).bind fun q=>match q with
   | .inr r18=>some r18
   | .inl s17=>
    (tP m l s9.2.2.1).bind fun r19=>
    aA (rK r1 r2 s7 s9 s17 r19) fuel (s9.2.1,((0:Int),())):Option ((Int×Int×Unit)⊕(List Int×Bool×Unit))).bind fun q=>match q with
  | .inr r12=>some r12
  | .inl s11=>
   rec10 (s11.1,s11.2.1,IntKind.i64.wrap (s9.2.2.1+1),())
 else bif decide (0≤s7.1)&&decide (s7.1<s7.2.1.length) then
  rec8 (IntKind.i64.wrap (s7.1+1),s7.2.1.set s7.1.toNat (IntKind.i64.wrap (s9.1+s9.2.1)),())
 else none
def rX (m:Im) (l:List (List Sh)) (fuel:Nat) (r1:List (List Int)×Unit) (r2:List (List Bool)×Unit) (s5:Int×List Int×Unit) (rec6:(Int×List Int×Unit)→Option (List Int×Bool×Unit)) (s7:Int×List Int×Unit) (rec8:(Int×List Int×Unit)→Option (List Int×Bool×Unit)):Option (List Int×Bool×Unit):=
 bif decide (s7.1<(m.2.2.2.1.length:Int)) then
  aA (sA m l fuel r1 r2 s7 rec8) fuel ((0:Int),((0:Int),((0:Int),())))
 else rec6 (IntKind.i64.wrap (s5.1+1),s7.2.1,())
def rS (m:Im) (l:List (List Sh)) (fuel:Nat) (r1:List (List Int)×Unit) (r2:List (List Bool)×Unit) (s5:Int×List Int×Unit) (rec6:(Int×List Int×Unit)→Option (List Int×Bool×Unit)):Option (List Int×Bool×Unit):=
 bif decide (s5.1<(m.2.2.2.1.length:Int)) then
  aA (rX m l fuel r1 r2 s5 rec6) fuel ((0:Int),s5.2.1,())
 else some (s5.2.1,true,())
def wW (m:Im) (l:List (List Sh)) (fuel:Nat) (r1:List (List Int)×Unit) (r2:List (List Bool)×Unit) (s3:Int×Unit) (rec4:(Int×Unit)→Option (List Int×Bool×Unit)):Option (List Int×Bool×Unit):=
 bif decide (s3.1<(m.2.2.2.1.length:Int)) then
  bif decide (0≤s3.1)&&decide (s3.1<r2.1.length) then
   bif decide (0≤s3.1)&&decide (s3.1<(r2.1.getD s3.1.toNat ([]:List Bool)).length) then
    bif (r2.1.getD s3.1.toNat ([]:List Bool)).getD s3.1.toNat false then
     bif decide (0≤s3.1)&&decide (s3.1<m.2.2.2.1.length) then
      bif decide ((m.2.2.2.1.getD s3.1.toNat zMt).2.2.2.2.1<1) then
       some (([]:List Int),false,())
      else rec4 (IntKind.i64.wrap (s3.1+1),())
     else none
    else rec4 (IntKind.i64.wrap (s3.1+1),())
   else none
  else none
 else bif decide (0≤(m.2.2.2.1.length:Int))&&decide ((m.2.2.2.1.length:Int)≤(m.2.2.2.1.length:Int))&&decide ((m.2.2.2.1.length:Int)<(rowMax:Int)) then
  aA (rS m l fuel r1 r2) fuel ((0:Int),(List.replicate m.2.2.2.1.length (0:Int),()))
 else none
def aI3 (fuel:Nat) (m:Im) (l:List (List Sh)):Option (List Int×Bool×Unit):=
 (qT m).bind fun r1=>
 (yZ r1.1).bind fun r2=>
 aA (wW m l fuel r1 r2) fuel ((0:Int),())
def wZ (m:Im) (s1:Int×Unit) (s3:Int×Unit) (rec4:(Int×Unit)→Option (Int×Unit)) (r5:List Tp×List Int×Int×Unit) (s6:Int×Unit) (rec7:(Int×Unit)→Option (Int×Unit)):Option (Int×Unit):=
 bif decide (s6.1<(r5.2.1.length:Int)) then
  bif decide (0≤s3.1)&&decide (s3.1<(m.2.2.2.1.getD s1.1.toNat zMt).2.2.2.2.2.2.1.length) then
   bif decide (0≤s3.1)&&decide (s3.1<(m.2.2.2.1.getD s1.1.toNat zMt).2.2.2.1.length) then
    (qN m ((m.2.2.2.1.getD s1.1.toNat zMt).2.2.2.1.getD s3.1.toNat dN)).bind fun r8=>
    bif decide (0≤s6.1)&&decide (s6.1<r5.2.1.length) then
     bif decide (0≤r5.2.1.getD s6.1.toNat 0)&&decide (r5.2.1.getD s6.1.toNat 0<(m.2.2.2.1.getD s1.1.toNat zMt).2.2.2.2.2.2.1.length) then
      bif decide ((m.2.2.2.1.getD s1.1.toNat zMt).2.2.2.2.2.2.1.getD s3.1.toNat 0<IntKind.i64.wrap (r8.1+((m.2.2.2.1.getD s1.1.toNat zMt).2.2.2.2.2.2.1.getD (r5.2.1.getD s6.1.toNat 0).toNat 0))) then
       some (s1.1,())
      else rec7 (IntKind.i64.wrap (s6.1+1),())
     else none
    else none
   else none
  else none
 else rec4 (IntKind.i64.wrap (s3.1+1),())
def vY (m:Im) (l:List (List Sh)) (fuel:Nat) (s1:Int×Unit) (rec2:(Int×Unit)→Option (Int×Unit)) (s3:Int×Unit) (rec4:(Int×Unit)→Option (Int×Unit)):Option (Int×Unit):=
 bif decide (s3.1<((m.2.2.2.1.getD s1.1.toNat zMt).2.2.2.1.length:Int)) then
  bif decide (0≤s1.1)&&decide (s1.1<l.length) then
   bif decide (0≤s3.1)&&decide (s3.1<(l.getD s1.1.toNat ([]:List Sh)).length) then
    bif !((l.getD s1.1.toNat ([]:List Sh)).getD s3.1.toNat zSh).1 then
     rec4 (IntKind.i64.wrap (s3.1+1),())
    else bif decide (0≤s1.1)&&decide (s1.1<l.length) then
     bif decide (0≤s3.1)&&decide (s3.1<(l.getD s1.1.toNat ([]:List Sh)).length) then
      (oS m s1.1 s3.1 ((l.getD s1.1.toNat ([]:List Sh)).getD s3.1.toNat zSh).2.1).bind fun r5=>
      aA (wZ m s1 s3 rec4 r5) fuel ((0:Int),())
     else none
    else none
   else none
  else none
 else rec2 (IntKind.i64.wrap (s1.1+1),())
def wD (m:Im) (l:List (List Sh)) (fuel:Nat) (s1:Int×Unit) (rec2:(Int×Unit)→Option (Int×Unit)):Option (Int×Unit):=
 bif decide (s1.1<(m.2.2.2.1.length:Int)) then
  bif decide (0≤s1.1)&&decide (s1.1<m.2.2.2.1.length) then
   bif decide ((0:Int)<(m.2.2.2.1.getD s1.1.toNat zMt).2.2.2.2.2.2.1.length) then
    bif decide ((m.2.2.2.1.getD s1.1.toNat zMt).2.2.2.2.2.2.1.getD 0 0>(m.2.2.2.1.getD s1.1.toNat zMt).2.2.2.2.2.1) then
     some (s1.1,())
    else aA (vY m l fuel s1 rec2) fuel ((0:Int),())
   else none
  else none
 else some ((-1:Int),())
def aII (fuel:Nat) (m:Im) (l:List (List Sh)):Option (Int×Unit):=
 aA (wD m l fuel) fuel ((0:Int),())
def sS (m:Im) (r1:List Int×Bool×Unit) (s2:Int×Int×Int×Unit) (rec3:(Int×Int×Int×Unit)→Option (Int×Int×Bool×Unit)):Option (Int×Int×Bool×Unit):=
 bif decide (s2.2.2.1<(m.2.2.2.2.1.length:Int)) then
  bif decide (0≤s2.2.2.1)&&decide (s2.2.2.1<m.2.2.2.2.1.length) then
   (bif decide (0≤m.2.2.2.2.1.getD s2.2.2.1.toNat 0)&&decide (m.2.2.2.2.1.getD s2.2.2.1.toNat 0<r1.1.length) then
    bif decide (r1.1.getD (m.2.2.2.2.1.getD s2.2.2.1.toNat 0).toNat 0>s2.1) then
     bif decide (0≤m.2.2.2.2.1.getD s2.2.2.1.toNat 0)&&decide (m.2.2.2.2.1.getD s2.2.2.1.toNat 0<r1.1.length) then
      some (.inl (r1.1.getD (m.2.2.2.2.1.getD s2.2.2.1.toNat 0).toNat 0,()))
     else none
    else some (.inl (s2.1,()))
   else none:Option ((Int×Unit)⊕(Int×Int×Bool×Unit))).bind fun q=>match q with
   | .inr r5=>some r5
   | .inl s4=>
    bif decide (0≤m.2.2.2.2.1.getD s2.2.2.1.toNat 0)&&decide (m.2.2.2.2.1.getD s2.2.2.1.toNat 0<m.2.2.2.1.length) then
     bif decide ((m.2.2.2.1.getD (m.2.2.2.2.1.getD s2.2.2.1.toNat 0).toNat zMt).2.2.2.2.2.1>s2.2.1) then
      bif decide (0≤m.2.2.2.2.1.getD s2.2.2.1.toNat 0)&&decide (m.2.2.2.2.1.getD s2.2.2.1.toNat 0<m.2.2.2.1.length) then
       rec3 (s4.1,(m.2.2.2.1.getD (m.2.2.2.2.1.getD s2.2.2.1.toNat 0).toNat zMt).2.2.2.2.2.1,IntKind.i64.wrap (s2.2.2.1+1),())
      else none
     else rec3 (s4.1,s2.2.1,IntKind.i64.wrap (s2.2.2.1+1),())
    else none
  else none
 else some (s2.1,(IntKind.i64.wrap ((m.2.1.length:Int)+s2.2.1),true,()))
def aHa (fuel:Nat) (m:Im) (l:List (List Sh)):Option (Int×Int×Bool×Unit):=
 (mR m l).bind fun r1=>
 bif !r1.2.1 then
  some ((0:Int),((0:Int),false,()))
 else aA (sS m r1) fuel ((0:Int),((0:Int),((0:Int),())))
def kE (m:Im):Option (List (List Sh)×Int×Unit):=
 bif (sC m) !=0 then
  some (([]:List (List Sh)),(sC m),())
 else
  (qX m).bind fun r1=>
  bif decide (r1.2.1≥0) then
   some (([]:List (List Sh)),((4:Int),()))
  else
   (iR m r1.1).bind fun r2=>
   bif !r2.2.2.1 then
    some (([]:List (List Sh)),((5:Int),()))
   else
    (oL m r1.1).bind fun r3=>
    bif decide (r3.1≥0) then
     some (([]:List (List Sh)),((6:Int),()))
    else bif decide (r2.1>m.2.2.2.2.2.1) then
     some (([]:List (List Sh)),((7:Int),()))
    else bif decide (r2.2.1>m.2.2.2.2.2.2.1) then
     some (([]:List (List Sh)),((7:Int),()))
    else some (r1.1,((0:Int),()))
def uV (m:Im):Option (Bool×Unit):=
 bif !(zC m) then
  awake16N.bind fun r1=>
  some (r1.1,())
 else
  (kE (m.1,m.2.1,m.2.2.1,m.2.2.2.1,m.2.2.2.2.1,((4096:Int),((4096:Int),())))).bind fun r2=>
  bif r2.2.1 !=0 then
   awake16N.bind fun r3=>
   some (r3.1,())
  else
   (iR (m.1,m.2.1,m.2.2.1,m.2.2.2.1,m.2.2.2.2.1,((4096:Int),((4096:Int),()))) r2.1).bind fun r4=>
   (dW (m.1,m.2.1,m.2.2.1,m.2.2.2.1,m.2.2.2.2.1,r4.1,r4.2.1,())).bind fun r5=>
   bif r5.2.1 !=0 then
    some (false,())
   else
    (bif decide (r4.1>0) then
     (dW (m.1,m.2.1,m.2.2.1,m.2.2.2.1,m.2.2.2.2.1,IntKind.i64.wrap (r4.1 - 1),r4.2.1,())).bind fun r8=>
     bif r8.2.1 !=7 then
      some (.inr (false,()))
     else some (.inl ((m.1,m.2.1,m.2.2.1,m.2.2.2.1,m.2.2.2.2.1,IntKind.i64.wrap ((IntKind.i64.wrap (r4.1 - 1))+1),r4.2.1,()),()))
    else some (.inl ((m.1,m.2.1,m.2.2.1,m.2.2.2.1,m.2.2.2.2.1,r4.1,r4.2.1,()),())):Option (((List Cl×List Tp×List Int×List Mt×List Int×Int×Int×Unit)×Unit)⊕(Bool×Unit))).bind fun q=>match q with
    | .inr r7=>some r7
    | .inl s6=>
     bif decide (r4.2.1>0) then
      (dW (s6.1.1,s6.1.2.1,s6.1.2.2.1,s6.1.2.2.2.1,s6.1.2.2.2.2.1,s6.1.2.2.2.2.2.1,IntKind.i64.wrap (s6.1.2.2.2.2.2.2.1 - 1),())).bind fun r9=>
      bif r9.2.1 !=7 then
       some (false,())
      else
       awake16N.bind fun r10=>
       some (r10.1,())
     else
      awake16N.bind fun r11=>
      some (r11.1,())
end
end Go.Pli
