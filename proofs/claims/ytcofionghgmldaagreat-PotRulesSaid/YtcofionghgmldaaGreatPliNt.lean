/- Who calls whom: what the functions come to, in plain Lean. -/
import Derived.Test.YtcofionghgmldaaGreatPliSp
namespace Go.Pli
open Go Go.PM
def ints (n:Nat):List Int:=(List.range n).map fun k:Nat=>(k:Int)
def leI (x y:Int):Bool:=decide (x≤y)
def mY (x:Int):List Int→List Int
 | []=>[x]
 | y::l=>bif leI x y then x::y::l else y::mY x l
def eZ:List Int→List Int
 | []=>[]
 | x::l=>mY x (eZ l)
def xA (l:List Int):List Int×Unit:=(eZ l,())
def dP:List Int→List Int
 | []=>[]
 | a::l=>match dP l with
  | []=>[a]
  | b::r=>bif a==b then b::r else a::b::r
def nM (m:Im):Int:=(m.2.2.2.1.length:Int)
def kV (m:Im) (c:Int):List Int:=(ints m.1.length).filter fun n=>dD m.1 n c
def vV (m:Im) (c:Int):Option (List Int×Unit):=bif cB m then some (kV m c,()) else none
def uE (m:Im) (c:Int):Option (List Int×Unit):=bif cB m then some (kV m c,()) else none
def gX (m:Im) (c n:Int):Bool:=(decide (0≤c)&&decide (c<(m.1.length:Int)))&&(decide (0≤n)&&decide (n<((bQ m c).2.2.1.length:Int)))
def dL (m:Im) (c n:Int):Int×Bool×Unit:=bif gX m c n then ((bQ m c).2.2.1.getD n.toNat 0,true,()) else (0,false,())
def xS (m:Im) (c n:Int):Int×Bool×Unit:=dL m c n
def pL (m:Im) (l:List Int) (n:Int):List Int:=(l.filter fun c=>(dL m c n).2.1).map fun c=>(dL m c n).1
def cO (m:Im) (i:Ins):List Int:=bif i.1==31 then[i.2.1] else bif i.1==32 then pL m (kV m i.2.1) i.2.2.1 else[]
def oT (m:Im) (i:Ins):Option (List Int×Unit):=bif cB m then some (cO m i,()) else none
def tV (m:Im) (i:Ins):Option (List Int×Unit):=bif cB m then some (cO m i,()) else none
def inM (m:Im) (f:Int):Bool:=sin f (nM m)
def oY (m:Im) (f:Int):List Int:=((aD m f).2.2.2.1.map (cO m)).flatten
def ofB (m:Im) (f:Int):List Int:=bif inM m f then dP (eZ (oY m f)) else[]
def cof (m:Im) (f:Int):Option (List Int×Unit):=bif cB m then some (ofB m f,()) else none
def vW (m:Im) (f g:Int):Bool:=(aD m f).2.2.2.1.any fun i=>(cO m i).contains g
def aP0 (m:Im):List (List Int):=(ints m.2.2.2.1.length).map fun f=>(ints m.2.2.2.1.length).filter fun g=>vW m f g
def zX (m:Im):Bool:=(ints m.2.2.2.1.length).all fun f=>(oY m f).all (inM m)
def aP1 (l:List (List Int)) (i j:Nat):Bool:=(l.getD i []).contains (j:Int)
def wP (l:List (List Int)):Nat→Nat→Nat→Bool
 | 0,i,j=>aP1 l i j
 | k+1,i,j=>wP l k i j || (wP l k i k&&wP l k k j)
def aOe (n:Nat) (f:Nat→Nat→Bool):List (List Bool):=(List.range n).map fun i=>(List.range n).map fun j=>f i j
end Go.Pli

namespace Go.Pli
open Go Go.PM
def aBw (m:Im) (c:Int) (s1:List Int×Int×Unit) (rec2:(List Int×Int×Unit)→Option (List Int×Unit)):Option (List Int×Unit):=
 bif decide (s1.2.1<(m.1.length:Int)) then
  bif (dD m.1 s1.2.1 c) then
   bif decide (s1.1.length+[s1.2.1].length<rowMax) then
    rec2 (s1.1++[s1.2.1],IntKind.i64.wrap (s1.2.1+1),())
   else none
  else rec2 (s1.1,IntKind.i64.wrap (s1.2.1+1),())
 else some ((idL s1.1),())
def aJj (fuel:Nat) (m:Im) (c:Int):Option (List Int×Unit):=
 aE (aBw m c) fuel (([]:List Int),((0:Int),()))
def aIG (m:Im) (c:Int) (n:Int):Option (Int×Bool×Unit):=
 bif decide (c<0) then
  some ((0:Int),false,())
 else bif decide (c≥(m.1.length:Int)) then
  some ((0:Int),false,())
 else bif decide (n<0) then
  some ((0:Int),false,())
 else bif decide (0≤c)&&decide (c<m.1.length) then
  bif decide (n≥((m.1.getD c.toNat zCl).2.2.1.length:Int)) then
   some ((0:Int),false,())
  else bif decide (0≤c)&&decide (c<m.1.length) then
   bif decide (0≤n)&&decide (n<(m.1.getD c.toNat zCl).2.2.1.length) then
    some ((m.1.getD c.toNat zCl).2.2.1.getD n.toNat 0,true,())
   else none
  else none
 else none
def aQj (m:Im) (i:Ins) (r1:List Int×Unit) (s2:List Int×Int×Unit) (rec3:(List Int×Int×Unit)→Option (List Int×Unit)):Option (List Int×Unit):=
 bif decide (s2.2.1<(r1.1.length:Int)) then
  bif decide (0≤s2.2.1)&&decide (s2.2.1<r1.1.length) then
   let r4:=dL m (r1.1.getD s2.2.1.toNat 0) i.2.2.1
   bif r4.2.1 then
    bif decide (s2.1.length+[r4.1].length<rowMax) then
     rec3 (s2.1++[r4.1],IntKind.i64.wrap (s2.2.1+1),())
    else none
   else rec3 (s2.1,IntKind.i64.wrap (s2.2.1+1),())
  else none
 else some (s2.1,())
def aID (fuel:Nat) (m:Im) (i:Ins):Option (List Int×Unit):=
 bif i.1==31 then
  bif decide (([]:List Int).length+[i.2.1].length<rowMax) then
   some (([]:List Int)++[i.2.1],())
  else none
 else bif i.1==32 then
  (vV m i.2.1).bind fun r1=>
  aE (aQj m i r1) fuel (([]:List Int),((0:Int),()))
 else some (([]:List Int),())
def aAx (m:Im) (c:Int) (s1:List Int×Int×Unit) (rec2:(List Int×Int×Unit)→Option (List Int×Unit)):Option (List Int×Unit):=
 bif decide (s1.2.1<(m.1.length:Int)) then
  (iT m.1 s1.2.1).bind fun r3=>
  (rin r3.1 c).bind fun r4=>
  bif r4.1 then
   bif decide (s1.1.length+[s1.2.1].length<rowMax) then
    rec2 (s1.1++[s1.2.1],IntKind.i64.wrap (s1.2.1+1),())
   else none
  else rec2 (s1.1,IntKind.i64.wrap (s1.2.1+1),())
 else some (s1.1,())
def aF1 (fuel:Nat) (m:Im) (c:Int):Option (List Int×Unit):=
 aE (aAx m c) fuel (([]:List Int),((0:Int),()))
def aMH (m:Im) (c:Int) (n:Int):Option (Int×Bool×Unit):=
 bif decide (c<0) then
  some ((0:Int),false,())
 else bif decide (c≥(m.1.length:Int)) then
  some ((0:Int),false,())
 else bif decide (n<0) then
  some ((0:Int),false,())
 else bif decide (0≤c)&&decide (c<m.1.length) then
  bif decide (n≥((m.1.getD c.toNat zCl).2.2.1.length:Int)) then
   some ((0:Int),false,())
  else bif decide (0≤c)&&decide (c<m.1.length) then
   bif decide (0≤n)&&decide (n<(m.1.getD c.toNat zCl).2.2.1.length) then
    some ((m.1.getD c.toNat zCl).2.2.1.getD n.toNat 0,true,())
   else none
  else none
 else none
def aMv (m:Im) (i:Ins) (r3:List Int×Unit) (s4:List Int×Int×Unit) (rec5:(List Int×Int×Unit)→Option (List Int×Unit)):Option (List Int×Unit):=
 bif decide (s4.2.1<(r3.1.length:Int)) then
  bif decide (0≤s4.2.1)&&decide (s4.2.1<r3.1.length) then
   let r6:=xS m (r3.1.getD s4.2.1.toNat 0) i.2.2.1
   bif r6.2.1 then
    bif decide (s4.1.length+[r6.1].length<rowMax) then
     rec5 (s4.1++[r6.1],IntKind.i64.wrap (s4.2.1+1),())
    else none
   else rec5 (s4.1,IntKind.i64.wrap (s4.2.1+1),())
  else none
 else some (s4.1,())
def aFH (fuel:Nat) (m:Im) (i:Ins):Option (List Int×Unit):=
 (bif i.1==31 then
  bif decide (([]:List Int).length+[i.2.1].length<rowMax) then
   some (.inl (([]:List Int)++[i.2.1],()))
  else none
 else some (.inl (([]:List Int),())):Option ((List Int×Unit)⊕(List Int×Unit))).bind fun q=>match q with
 | .inr r2=>some r2
 | .inl s1=>
  bif i.1==32 then
   (uE m i.2.1).bind fun r3=>
   aE (aMv m i r3) fuel (s1.1,((0:Int),()))
  else some (s1.1,())
end Go.Pli

namespace Go.Pli
open Go Go.PM
noncomputable def pick {α:Type} (f:Nat→Option α):Option α:=open Classical in if h:∃k,(f k).isSome then f h.choose else none
theorem aCE {α:Type} {f:Nat→Option α} {r:α} (h:pick f=some r):∃k,f k=some r:=by
 unfold pick at h
 split at h
 ·exact⟨_,h⟩
 ·cases h
def aRJ {α:Type} (f:Nat→Option α) (Q:α→Prop):Prop:=∃K,∀k,(∃r,f k=some r∧Q r)∨(f k=none∧k≤K)
theorem aCF {α:Type} {f:Nat→Option α} {Q:α→Prop} (h:aRJ f Q):∃r,pick f=some r∧Q r:=by
 obtain⟨K,h⟩:=h
 have hs:∃k,(f k).isSome:=by
  rcases h (K+1) with⟨r,hr,-⟩ | ⟨-,hk⟩
  ·exact⟨K+1,by rw[hr];rfl⟩
  ·omega
 unfold pick
 rw[dif_pos hs]
 have:=hs.choose_spec
 rcases h hs.choose with⟨r,hr,hq⟩ | ⟨hn,-⟩
 ·exact⟨r,hr,hq⟩
 ·rw[hn] at this;cases this
theorem aC7 {S R:Type} {L:S→(S→Option R)→Option R} {I:S→Prop} {μ:S→Nat} {Q:R→Prop}
  (h:∀s rec,I s→(∃r,L s rec=some r∧Q r)∨∃s',L s rec=rec s'∧I s'∧μ s'<μ s):∀(k:Nat) (s:S),I s→(∃r,aE L k s=some r∧Q r)∨(aE L k s=none∧k≤μ s)
 | 0,s,_=> .inr ⟨rfl,dG _⟩
 | k+1,s,hs=>by
  rw[aY]
  rcases h s (aE L k) hs with h1 | ⟨s',h1,hs',hm⟩
  ·exact .inl h1
  ·rw[h1]
   rcases aC7 h k s' hs' with h2 | ⟨h2,hk⟩
   ·exact .inl h2
   ·exact .inr ⟨h2,by omega⟩
end Go.Pli

namespace Go.Pli
open Go Go.PM
noncomputable section
def vP (f:List (List Int)×List Int×List Int×List Bool×List Int×Int×List (List Int)×Unit) (n:Int):Option ((List (List Int)×List Int×List Int×List Bool×List Int×Int×List (List Int)×Unit)×Unit):=
 bif decide (0≤n)&&decide (n<f.2.1.length) then
  bif decide (0≤n)&&decide (n<f.2.2.1.length) then
   bif decide (0≤n)&&decide (n<f.2.2.2.1.length) then
    bif decide (f.2.2.2.2.1.length+[n].length<rowMax)&&true then
     some ((f.1,f.2.1.set n.toNat (IntKind.i64.wrap (f.2.2.2.2.2.1+1)),f.2.2.1.set n.toNat (IntKind.i64.wrap (f.2.2.2.2.2.1+1)),f.2.2.2.1.set n.toNat true,f.2.2.2.2.1++[n],IntKind.i64.wrap (f.2.2.2.2.2.1+1),f.2.2.2.2.2.2),())
    else none
   else none
  else none
 else none
def aDE (f:List (List Int)×List Int×List Int×List Bool×List Int×Int×List (List Int)×Unit) (n:Int) (s1:List Int×List Bool×List Int×Unit) (rec2:(List Int×List Bool×List Int×Unit)→Option ((List (List Int)×List Int×List Int×List Bool×List Int×Int×List (List Int)×Unit)×Unit)):Option ((List (List Int)×List Int×List Int×List Bool×List Int×Int×List (List Int)×Unit)×Unit):=
 bif decide (0≤IntKind.i64.wrap ((s1.2.2.1.length:Int) - 1))&&decide (IntKind.i64.wrap ((s1.2.2.1.length:Int) - 1)<s1.2.2.1.length) then
  bif decide ((0:Int)≤IntKind.i64.wrap ((s1.2.2.1.length:Int) - 1))&&decide (IntKind.i64.wrap ((s1.2.2.1.length:Int) - 1)≤(s1.2.2.1.length:Int))&&true then
   bif decide (0≤s1.2.2.1.getD (IntKind.i64.wrap ((s1.2.2.1.length:Int) - 1)).toNat 0)&&decide (s1.2.2.1.getD (IntKind.i64.wrap ((s1.2.2.1.length:Int) - 1)).toNat 0<s1.2.1.length) then
    bif decide (s1.1.length+[s1.2.2.1.getD (IntKind.i64.wrap ((s1.2.2.1.length:Int) - 1)).toNat 0].length<rowMax)&&true then
     bif (s1.2.2.1.getD (IntKind.i64.wrap ((s1.2.2.1.length:Int) - 1)).toNat 0)==n then
      let r3:=xA (s1.1++[s1.2.2.1.getD (IntKind.i64.wrap ((s1.2.2.1.length:Int) - 1)).toNat 0])
      bif decide (f.2.2.2.2.2.2.1.length+[(idL r3.1)].length<rowMax)&&true then
       some ((f.1,f.2.1,f.2.2.1,(s1.2.1.set (s1.2.2.1.getD (IntKind.i64.wrap ((s1.2.2.1.length:Int) - 1)).toNat 0).toNat false,((s1.2.2.1.take (IntKind.i64.wrap ((s1.2.2.1.length:Int) - 1)).toNat).drop 0,f.2.2.2.2.2.1,f.2.2.2.2.2.2.1++[(idL r3.1)],()))),())
      else none
     else rec2 (s1.1++[s1.2.2.1.getD (IntKind.i64.wrap ((s1.2.2.1.length:Int) - 1)).toNat 0],(s1.2.1.set (s1.2.2.1.getD (IntKind.i64.wrap ((s1.2.2.1.length:Int) - 1)).toNat 0).toNat false,((s1.2.2.1.take (IntKind.i64.wrap ((s1.2.2.1.length:Int) - 1)).toNat).drop 0,())))
    else none
   else none
  else none
 else none
def yY (fuel:Nat) (f:List (List Int)×List Int×List Int×List Bool×List Int×Int×List (List Int)×Unit) (n:Int):Option ((List (List Int)×List Int×List Int×List Bool×List Int×Int×List (List Int)×Unit)×Unit):=
 bif decide (0≤n)&&decide (n<f.2.2.1.length) then
  bif decide (0≤n)&&decide (n<f.2.1.length) then
   bif (f.2.2.1.getD n.toNat 0) !=(f.2.1.getD n.toNat 0) then
    some (f,())
   else aE (aDE f n) fuel (([]:List Int),f.2.2.2.1,f.2.2.2.2.1,())
  else none
 else none
def vM (f:List (List Int)×List Int×List Int×List Bool×List Int×Int×List (List Int)×Unit) (n:Int):Option ((List (List Int)×List Int×List Int×List Bool×List Int×Int×List (List Int)×Unit)×Unit):=pick fun fuel=>yY fuel f n
theorem aPw (f:List (List Int)×List Int×List Int×List Bool×List Int×Int×List (List Int)×Unit) (n:Int) (r) (h:vM f n=some r):∃k,yY k f n=some r:=aCE h
def sI (s2:List Tp×List Int×List Int×List Bool×List Int×List (List Int)×(List (List Int)×Unit×Unit×Unit×Unit×Int×Unit×Unit)×Unit) (rec3:(List Tp×List Int×List Int×List Bool×List Int×List (List Int)×(List (List Int)×Unit×Unit×Unit×Unit×Int×Unit×Unit)×Unit)→Option ((List (List Int)×List Int×List Int×List Bool×List Int×Int×List (List Int)×Unit)×Unit)) (s4:List Tp×Int×List Int×Unit) (rec5:(List Tp×Int×List Int×Unit)→Option ((List (List Int)×List Int×List Int×List Bool×List Int×Int×List (List Int)×Unit)×Unit)):Option ((List (List Int)×List Int×List Int×List Bool×List Int×Int×List (List Int)×Unit)×Unit):=
 bif decide (0≤(s4.1.getD s4.2.1.toNat zTp).1)&&decide ((s4.1.getD s4.2.1.toNat zTp).1<s2.2.2.2.2.2.2.1.1.length) then
  bif decide ((s4.1.getD s4.2.1.toNat zTp).2.1<((s2.2.2.2.2.2.2.1.1.getD (s4.1.getD s4.2.1.toNat zTp).1.toNat ([]:List Int)).length:Int)) then
   bif decide (0≤(s4.1.getD s4.2.1.toNat zTp).1)&&decide ((s4.1.getD s4.2.1.toNat zTp).1<s2.2.2.2.2.2.2.1.1.length) then
    bif decide (0≤(s4.1.getD s4.2.1.toNat zTp).2.1)&&decide ((s4.1.getD s4.2.1.toNat zTp).2.1<(s2.2.2.2.2.2.2.1.1.getD (s4.1.getD s4.2.1.toNat zTp).1.toNat ([]:List Int)).length) then
     (bif decide ((s2.2.2.2.2.2.2.1.1.getD (s4.1.getD s4.2.1.toNat zTp).1.toNat ([]:List Int)).getD (s4.1.getD s4.2.1.toNat zTp).2.1.toNat 0<0) then
      some (.inl (true,()))
     else some (.inl (decide ((s2.2.2.2.2.2.2.1.1.getD (s4.1.getD s4.2.1.toNat zTp).1.toNat ([]:List Int)).getD (s4.1.getD s4.2.1.toNat zTp).2.1.toNat 0≥(s2.2.2.2.2.2.2.1.1.length:Int)),())):Option ((Bool×Unit)⊕((List (List Int)×List Int×List Int×List Bool×List Int×Int×List (List Int)×Unit)×Unit))).bind fun q=>match q with
     | .inr r7=>some r7
     | .inl s6=>
      bif s6.1 then
       rec5 (s4.1.set s4.2.1.toNat ((s4.1.getD s4.2.1.toNat zTp).1,IntKind.i64.wrap (((s4.1.getD s4.2.1.toNat zTp).2.1)+1),()),((s4.2.1.toNat:Int),s4.2.2.1,()))
      else bif decide (0≤(s2.2.2.2.2.2.2.1.1.getD (s4.1.getD s4.2.1.toNat zTp).1.toNat ([]:List Int)).getD (s4.1.getD s4.2.1.toNat zTp).2.1.toNat 0)&&decide ((s2.2.2.2.2.2.2.1.1.getD (s4.1.getD s4.2.1.toNat zTp).1.toNat ([]:List Int)).getD (s4.1.getD s4.2.1.toNat zTp).2.1.toNat 0<s2.2.1.length) then
       bif (s2.2.1.getD ((s2.2.2.2.2.2.2.1.1.getD (s4.1.getD s4.2.1.toNat zTp).1.toNat ([]:List Int)).getD (s4.1.getD s4.2.1.toNat zTp).2.1.toNat 0).toNat 0)==0 then
        bif decide ((s4.1.set s4.2.1.toNat ((s4.1.getD s4.2.1.toNat zTp).1,IntKind.i64.wrap (((s4.1.getD s4.2.1.toNat zTp).2.1)+1),())).length+[((s2.2.2.2.2.2.2.1.1.getD (s4.1.getD s4.2.1.toNat zTp).1.toNat ([]:List Int)).getD (s4.1.getD s4.2.1.toNat zTp).2.1.toNat 0,((0:Int),()))].length<rowMax)&&true then
         (vP (s2.2.2.2.2.2.2.1.1,s2.2.1,s4.2.2.1,s2.2.2.2.1,s2.2.2.2.2.1,s2.2.2.2.2.2.2.1.2.2.2.2.2.1,s2.2.2.2.2.2.1,()) ((s2.2.2.2.2.2.2.1.1.getD (s4.1.getD s4.2.1.toNat zTp).1.toNat ([]:List Int)).getD (s4.1.getD s4.2.1.toNat zTp).2.1.toNat 0)).bind fun r8=>
         rec3 ((s4.1.set s4.2.1.toNat ((s4.1.getD s4.2.1.toNat zTp).1,IntKind.i64.wrap (((s4.1.getD s4.2.1.toNat zTp).2.1)+1),()))++[((s2.2.2.2.2.2.2.1.1.getD (s4.1.getD s4.2.1.toNat zTp).1.toNat ([]:List Int)).getD (s4.1.getD s4.2.1.toNat zTp).2.1.toNat 0,((0:Int),()))],r8.1.2.1,r8.1.2.2.1,r8.1.2.2.2.1,r8.1.2.2.2.2.1,r8.1.2.2.2.2.2.2.1,(r8.1.1,(),(),(),(),r8.1.2.2.2.2.2.1,(),()),())
        else none
       else bif decide (0≤(s2.2.2.2.2.2.2.1.1.getD (s4.1.getD s4.2.1.toNat zTp).1.toNat ([]:List Int)).getD (s4.1.getD s4.2.1.toNat zTp).2.1.toNat 0)&&decide ((s2.2.2.2.2.2.2.1.1.getD (s4.1.getD s4.2.1.toNat zTp).1.toNat ([]:List Int)).getD (s4.1.getD s4.2.1.toNat zTp).2.1.toNat 0<s2.2.2.2.1.length) then
        bif s2.2.2.2.1.getD ((s2.2.2.2.2.2.2.1.1.getD (s4.1.getD s4.2.1.toNat zTp).1.toNat ([]:List Int)).getD (s4.1.getD s4.2.1.toNat zTp).2.1.toNat 0).toNat false then
         bif decide (0≤((s4.1.set s4.2.1.toNat ((s4.1.getD s4.2.1.toNat zTp).1,IntKind.i64.wrap (((s4.1.getD s4.2.1.toNat zTp).2.1)+1),())).getD s4.2.1.toNat zTp).1)&&decide (((s4.1.set s4.2.1.toNat ((s4.1.getD s4.2.1.toNat zTp).1,IntKind.i64.wrap (((s4.1.getD s4.2.1.toNat zTp).2.1)+1),())).getD s4.2.1.toNat zTp).1<s4.2.2.1.length) then
          bif decide (0≤(s2.2.2.2.2.2.2.1.1.getD (s4.1.getD s4.2.1.toNat zTp).1.toNat ([]:List Int)).getD (s4.1.getD s4.2.1.toNat zTp).2.1.toNat 0)&&decide ((s2.2.2.2.2.2.2.1.1.getD (s4.1.getD s4.2.1.toNat zTp).1.toNat ([]:List Int)).getD (s4.1.getD s4.2.1.toNat zTp).2.1.toNat 0<s2.2.1.length) then
           bif decide (0≤((s4.1.set s4.2.1.toNat ((s4.1.getD s4.2.1.toNat zTp).1,IntKind.i64.wrap (((s4.1.getD s4.2.1.toNat zTp).2.1)+1),())).getD s4.2.1.toNat zTp).1)&&decide (((s4.1.set s4.2.1.toNat ((s4.1.getD s4.2.1.toNat zTp).1,IntKind.i64.wrap (((s4.1.getD s4.2.1.toNat zTp).2.1)+1),())).getD s4.2.1.toNat zTp).1<s4.2.2.1.length) then
            rec5 (s4.1.set s4.2.1.toNat ((s4.1.getD s4.2.1.toNat zTp).1,IntKind.i64.wrap (((s4.1.getD s4.2.1.toNat zTp).2.1)+1),()),((s4.2.1.toNat:Int),s4.2.2.1.set ((s4.1.set s4.2.1.toNat ((s4.1.getD s4.2.1.toNat zTp).1,IntKind.i64.wrap (((s4.1.getD s4.2.1.toNat zTp).2.1)+1),())).getD s4.2.1.toNat zTp).1.toNat (min (s4.2.2.1.getD ((s4.1.set s4.2.1.toNat ((s4.1.getD s4.2.1.toNat zTp).1,IntKind.i64.wrap (((s4.1.getD s4.2.1.toNat zTp).2.1)+1),())).getD s4.2.1.toNat zTp).1.toNat 0) (s2.2.1.getD ((s2.2.2.2.2.2.2.1.1.getD (s4.1.getD s4.2.1.toNat zTp).1.toNat ([]:List Int)).getD (s4.1.getD s4.2.1.toNat zTp).2.1.toNat 0).toNat 0)),()))
           else none
          else none
         else none
        else rec5 (s4.1.set s4.2.1.toNat ((s4.1.getD s4.2.1.toNat zTp).1,IntKind.i64.wrap (((s4.1.getD s4.2.1.toNat zTp).2.1)+1),()),((s4.2.1.toNat:Int),s4.2.2.1,()))
       else none
      else none
    else none
   else none
  else bif decide ((0:Int)≤IntKind.i64.wrap ((s4.1.length:Int) - 1))&&decide (IntKind.i64.wrap ((s4.1.length:Int) - 1)≤(s4.1.length:Int))&&true then
   (vM (s2.2.2.2.2.2.2.1.1,s2.2.1,s4.2.2.1,s2.2.2.2.1,s2.2.2.2.2.1,s2.2.2.2.2.2.2.1.2.2.2.2.2.1,s2.2.2.2.2.2.1,()) (s4.1.getD s4.2.1.toNat zTp).1).bind fun r9=>
   bif decide ((((s4.1.take (IntKind.i64.wrap ((s4.1.length:Int) - 1)).toNat).drop 0).length:Int)>0) then
    bif decide (0≤IntKind.i64.wrap ((((s4.1.take (IntKind.i64.wrap ((s4.1.length:Int) - 1)).toNat).drop 0).length:Int) - 1))&&decide (IntKind.i64.wrap ((((s4.1.take (IntKind.i64.wrap ((s4.1.length:Int) - 1)).toNat).drop 0).length:Int) - 1)<((s4.1.take (IntKind.i64.wrap ((s4.1.length:Int) - 1)).toNat).drop 0).length) then
     bif decide (0≤(((s4.1.take (IntKind.i64.wrap ((s4.1.length:Int) - 1)).toNat).drop 0).getD (IntKind.i64.wrap ((((s4.1.take (IntKind.i64.wrap ((s4.1.length:Int) - 1)).toNat).drop 0).length:Int) - 1)).toNat zTp).1)&&decide ((((s4.1.take (IntKind.i64.wrap ((s4.1.length:Int) - 1)).toNat).drop 0).getD (IntKind.i64.wrap ((((s4.1.take (IntKind.i64.wrap ((s4.1.length:Int) - 1)).toNat).drop 0).length:Int) - 1)).toNat zTp).1<r9.1.2.2.1.length) then
      bif decide (0≤(s4.1.getD s4.2.1.toNat zTp).1)&&decide ((s4.1.getD s4.2.1.toNat zTp).1<r9.1.2.2.1.length) then
       bif decide (0≤(((s4.1.take (IntKind.i64.wrap ((s4.1.length:Int) - 1)).toNat).drop 0).getD (IntKind.i64.wrap ((((s4.1.take (IntKind.i64.wrap ((s4.1.length:Int) - 1)).toNat).drop 0).length:Int) - 1)).toNat zTp).1)&&decide ((((s4.1.take (IntKind.i64.wrap ((s4.1.length:Int) - 1)).toNat).drop 0).getD (IntKind.i64.wrap ((((s4.1.take (IntKind.i64.wrap ((s4.1.length:Int) - 1)).toNat).drop 0).length:Int) - 1)).toNat zTp).1<r9.1.2.2.1.length) then
        rec3 ((s4.1.take (IntKind.i64.wrap ((s4.1.length:Int) - 1)).toNat).drop 0,r9.1.2.1,(r9.1.2.2.1.set (((s4.1.take (IntKind.i64.wrap ((s4.1.length:Int) - 1)).toNat).drop 0).getD (IntKind.i64.wrap ((((s4.1.take (IntKind.i64.wrap ((s4.1.length:Int) - 1)).toNat).drop 0).length:Int) - 1)).toNat zTp).1.toNat (min (r9.1.2.2.1.getD (((s4.1.take (IntKind.i64.wrap ((s4.1.length:Int) - 1)).toNat).drop 0).getD (IntKind.i64.wrap ((((s4.1.take (IntKind.i64.wrap ((s4.1.length:Int) - 1)).toNat).drop 0).length:Int) - 1)).toNat zTp).1.toNat 0) (r9.1.2.2.1.getD (s4.1.getD s4.2.1.toNat zTp).1.toNat 0)),r9.1.2.2.2.1,r9.1.2.2.2.2.1,r9.1.2.2.2.2.2.2.1,(r9.1.1,(),(),(),(),r9.1.2.2.2.2.2.1,(),()),()))
       else none
      else none
     else none
    else none
   else rec3 ((s4.1.take (IntKind.i64.wrap ((s4.1.length:Int) - 1)).toNat).drop 0,r9.1.2.1,r9.1.2.2.1,r9.1.2.2.2.1,r9.1.2.2.2.2.1,r9.1.2.2.2.2.2.2.1,(r9.1.1,(),(),(),(),r9.1.2.2.2.2.2.1,(),()),())
  else none
 else none
def oR (fuel:Nat) (s2:List Tp×List Int×List Int×List Bool×List Int×List (List Int)×(List (List Int)×Unit×Unit×Unit×Unit×Int×Unit×Unit)×Unit) (rec3:(List Tp×List Int×List Int×List Bool×List Int×List (List Int)×(List (List Int)×Unit×Unit×Unit×Unit×Int×Unit×Unit)×Unit)→Option ((List (List Int)×List Int×List Int×List Bool×List Int×Int×List (List Int)×Unit)×Unit)):Option ((List (List Int)×List Int×List Int×List Bool×List Int×Int×List (List Int)×Unit)×Unit):=
 bif decide ((s2.1.length:Int)>0) then
  bif decide (0≤IntKind.i64.wrap ((s2.1.length:Int) - 1))&&decide (IntKind.i64.wrap ((s2.1.length:Int) - 1)<s2.1.length) then
   aE (sI s2 rec3) fuel (s2.1,(((IntKind.i64.wrap ((s2.1.length:Int) - 1)).toNat:Int),s2.2.2.1,()))
  else none
 else some ((s2.2.2.2.2.2.2.1.1,s2.2.1,s2.2.2.1,s2.2.2.2.1,s2.2.2.2.2.1,s2.2.2.2.2.2.2.1.2.2.2.2.2.1,s2.2.2.2.2.2.1,()),())
def qD (fuel:Nat) (f:List (List Int)×List Int×List Int×List Bool×List Int×Int×List (List Int)×Unit) (n:Int):Option ((List (List Int)×List Int×List Int×List Bool×List Int×Int×List (List Int)×Unit)×Unit):=
 (vP f n).bind fun r1=>
 aE (oR fuel) fuel (([(n,((0:Int),()))]:List Tp),r1.1.2.1,r1.1.2.2.1,r1.1.2.2.2.1,r1.1.2.2.2.2.1,r1.1.2.2.2.2.2.2.1,(r1.1.1,(),(),(),(),r1.1.2.2.2.2.2.1,(),()),())
def vO (f:List (List Int)×List Int×List Int×List Bool×List Int×Int×List (List Int)×Unit) (n:Int):Option ((List (List Int)×List Int×List Int×List Bool×List Int×Int×List (List Int)×Unit)×Unit):=pick fun fuel=>qD fuel f n
theorem aPF (f:List (List Int)×List Int×List Int×List Bool×List Int×Int×List (List Int)×Unit) (n:Int) (r) (h:vO f n=some r):∃k,qD k f n=some r:=aCE h
def aI3 (s:List Int):Option (List Int×Unit):=
 bif decide ((s.length:Int)=(s.length:Int))&&decide ((s.length:Int)=(s.length:Int))&&true then
  some (s,())
 else none
def aI6 (s:List (List Int)):Option (List (List Int)×Unit):=
 bif decide ((s.length:Int)=(s.length:Int))&&decide ((s.length:Int)=(s.length:Int))&&true then
  some (s,())
 else none
def xK (l:List (List Int)) (s1:Int×List Int×List Int×List Bool×List Int×List (List Int)×(List (List Int)×Unit×Unit×Unit×Unit×Int×Unit×Unit)×Unit) (rec2:(Int×List Int×List Int×List Bool×List Int×List (List Int)×(List (List Int)×Unit×Unit×Unit×Unit×Int×Unit×Unit)×Unit)→Option (List (List Int)×Unit)):Option (List (List Int)×Unit):=
 bif decide (s1.1<(l.length:Int)) then
  bif decide (0≤s1.1)&&decide (s1.1<s1.2.1.length) then
   bif (s1.2.1.getD s1.1.toNat 0)==0 then
    (vO (s1.2.2.2.2.2.2.1.1,s1.2.1,s1.2.2.1,s1.2.2.2.1,s1.2.2.2.2.1,s1.2.2.2.2.2.2.1.2.2.2.2.2.1,s1.2.2.2.2.2.1,()) s1.1).bind fun r3=>
    rec2 (IntKind.i64.wrap (s1.1+1),r3.1.2.1,r3.1.2.2.1,r3.1.2.2.2.1,r3.1.2.2.2.2.1,r3.1.2.2.2.2.2.2.1,(r3.1.1,(),(),(),(),r3.1.2.2.2.2.2.1,(),()),())
   else rec2 (IntKind.i64.wrap (s1.1+1),s1.2.1,s1.2.2.1,s1.2.2.2.1,s1.2.2.2.2.1,s1.2.2.2.2.2.1,s1.2.2.2.2.2.2.1,())
  else none
 else some ((idL s1.2.2.2.2.2.1),())
def rJ (fuel:Nat) (l:List (List Int)):Option (List (List Int)×Unit):=
 bif decide (0≤(l.length:Int))&&decide ((l.length:Int)≤(l.length:Int))&&decide ((l.length:Int)<(rowMax:Int)) then
  bif decide (0≤(l.length:Int))&&decide ((l.length:Int)≤(l.length:Int))&&decide ((l.length:Int)<(rowMax:Int)) then
   bif decide (0≤(l.length:Int))&&decide ((l.length:Int)≤(l.length:Int))&&decide ((l.length:Int)<(rowMax:Int)) then
    aE (xK l) fuel ((0:Int),(List.replicate l.length (0:Int),(List.replicate l.length (0:Int),List.replicate l.length false,(([]:List Int),(([]:List (List Int)),(l,(),(),(),(),((0:Int),(),())),())))))
   else none
  else none
 else none
def jR (l:List (List Int)):Option (List (List Int)×Unit):=pick fun fuel=>rJ fuel l
theorem aMd (l:List (List Int)) (r) (h:jR l=some r):∃k,rJ k l=some r:=aCE h
end
end Go.Pli

namespace Go.Pli
open Go Go.PM
abbrev Sh:=Bool×List Tp×Unit
abbrev zSh:Sh:=(false,[],())
abbrev Iq:=List Int×Int×Unit
abbrev zIq:Iq:=([],0,())
def aM (m:Im):Bool:=cB m&&jO m
def gA (l:List (List Sh)):Bool:=okL l&&l.all fun h=>okL h&&h.all fun s=>okL s.2.1
def vK (_:Unit) (n:Int):Option (List Tp×Unit):=bif decide (0≤n)&&Nat.blt n.toNat 1000000000 then some ([],()) else none
def nI (l:List (List Tp)):Option (List Tp×Unit):=bif Nat.blt l.flatten.length 1000000000&&okL l then some (l.flatten,()) else none
def aA1 (s:List Int) (v:Int):Int:=oM (fun x=>v==x) 0 s
def vT (s:List Int) (v:Int):Bool:=s.contains v
def cup (m:Im) (c:Int):Option (Int×Unit):=bif sin c (m.1.length:Int) then some (kup m.1 c,()) else none
def dT (m:Im) (c:Int):List Tp:=(((cF m.1 c).reverse).map fun s=>(bQ m s).2.1).flatten
def oV (m:Im) (c:Int):Option (List Tp×Unit):=bif cB m then some (dT m c,()) else none
def rE (m:Im) (c:Int):Int:=((1+(dT m c).length:Nat):Int)
def vS (m:Im) (c:Int):Option (Int×Unit):=bif cB m then some (rE m c,()) else none
def iZ (x:Mt) (n:Int):Tp:=bif decide (n<0) then zTp else (x.1++x.2.1).getD n.toNat zTp
def sQ (x:Mt) (n:Int):Option (Tp×Unit):=bif okL x.1&&okL x.2.1 then some (iZ x n,()) else none
def fP (l:List Cl) (a b:Tp):Tp:=
 bif cG l a b then b else bif cG l b a then a else bif a.1 !=3 || b.1 !=3 then zTp else
 match (bU l (kup l a.2.1)).find? fun c=>dD l b.2.1 c with
 | some c=>(3,c,())
 | none=>zTp
def lK (o:Int):Bool:=decide (o≥7)&&decide (o≤17)
abbrev tI:Tp:=(1,0,())
abbrev tA:Tp:=(2,0,())
abbrev tN:Tp:=(4,0,())
abbrev tR (c:Int):Tp:=(3,c,())
abbrev Eff:=List Tp×List Tp×Unit
def eI (o:Int):Eff×Bool×Unit:=
 bif o==2 then (([],[tN],()),true,())
 else bif o==5 then (([zTp],[],()),true,())
 else bif o==20 then (([tN],[tI],()),true,())
 else bif o==21 then (([tN,tN],[tI],()),true,())
 else bif o==24 then (([tA,tI],[tI],()),true,())
 else bif o==25 then (([tA,tI,tI],[],()),true,())
 else bif o==26 then (([tA],[tI],()),true,())
 else bif o==1 then (([],[tI],()),true,())
 else bif o==19 then (([tI],[],()),true,())
 else bif o==18 then (([],[],()),true,())
 else bif o==23 then (([tI],[tA],()),true,())
 else bif lK o then (([tI,tI],[tI],()),true,())
 else (([],[],()),false,())
def iB (x:Mt) (t:List Tp):Eff:=(t++x.1.drop t.length,bif x.2.2.1.1 !=5 then[x.2.2.1] else[],())
def sJ (x:Mt) (t:List Tp):Option (Eff×Unit):=bif okL x.1&&(okL t&&decide (t.length≤x.1.length)) then some (iB x t,()) else none
def eJ (m:Im) (x:Mt) (i:Ins):Eff:=
 bif (eI i.1).2.1 then (eI i.1).1
 else bif i.1==3 then ([],[iZ x i.2.1],())
 else bif i.1==4 then ([iZ x i.2.1],[],())
 else bif i.1==22 then ([],[tR i.2.1],())
 else bif i.1==27 then ([tR i.2.1],[(dT m i.2.1).getD i.2.2.1.toNat zTp],())
 else bif i.1==28 then ([tR i.2.1,(dT m i.2.1).getD i.2.2.1.toNat zTp],[],())
 else bif i.1==29 then ([],[m.2.1.getD i.2.1.toNat zTp],())
 else bif i.1==30 then ([m.2.1.getD i.2.1.toNat zTp],[],())
 else bif i.1==31 then iB (aD m i.2.1) []
 else bif i.1==32 then iB (aD m (dL m i.2.1 i.2.2.1).1) [tR i.2.1]
 else bif i.1==34 then ([tN],[tR i.2.1],())
 else bif i.1==33 then (bif x.2.2.1.1 !=5 then ([x.2.2.1],[],()) else ([],[],()))
 else ([],[],())
def fof (m:Im) (i:Ins) (f:Int):Option (Eff×Unit):=bif aM m&&(inM m f&&bZ m (aD m f) i) then some (eJ m (aD m f) i,()) else none
def dV (m:Im) (o:Int) (t w:Tp):Bool:=bif w.1==0 then true else bif w.1==4 then hZ t&&(o !=34 || t.1 !=2) else cG m.1 t w
def dS (i:Ins) (pc:Int):List Int:=
 bif i.1==18 then[i.2.1] else bif i.1==19 then[IntKind.i64.wrap (pc+1),i.2.1] else bif i.1==33 then[] else[IntKind.i64.wrap (pc+1)]
def aH (m:Im) (f pc:Int):Ins:=(aD m f).2.2.2.1.getD pc.toNat cR
def codeN (m:Im) (f:Int):Nat:=(aD m f).2.2.2.1.length
abbrev St4:=List Tp×List Int×Int×Unit
def mG (m:Im) (i:Ins) (e:Eff) (s:List Tp) (nx:List Int):St4:=
 bif decide (s.length<e.1.length) || decide (s.length - e.1.length+e.2.1.length>8) then ([],[],4,())
 else bif ((s.drop (s.length - e.1.length)).zip e.1).all fun p=>dV m i.1 p.1 p.2 then (s.take (s.length - e.1.length)++e.2.1,nx,0,())
 else ([],[],4,())
def aN (m:Im) (f pc:Int) (s:List Tp):St4:=
 bif !(inM m f&&sin pc (codeN m f:Int)) then ([],[],1,())
 else bif (dS (aH m f pc) pc).contains (codeN m f:Int) then ([],[],4,())
 else bif (aH m f pc).1==6 then (bif decide (s.length=0) || decide (s.length≥8) then ([],[],4,()) else (s++s.drop (s.length - 1),dS (aH m f pc) pc,0,()))
 else mG m (aH m f pc) (eJ m (aD m f) (aH m f pc)) s (dS (aH m f pc) pc)
def oP (m:Im) (f pc:Int) (s:List Tp):Option St4:=bif aM m&&okL s then some (aN m f pc s) else none
def bP (l:List Cl) (a s:List Tp):List Tp:=(a.zip s).map fun p=>fP l p.1 p.2
def cW (l:List Cl) (o:Sh) (s:List Tp):Sh×Bool×Bool×Unit:=
 bif !o.1 then ((true,s,()),true,true,())
 else bif decide (o.2.1.length≠s.length) then (o,false,false,())
 else bif (bP l o.2.1 s).any fun t=>t.1==0 then (o,false,false,())
 else ((true,bP l o.2.1 s,()),!(bP l o.2.1 s==o.2.1),true,())
def fM (l:List Cl) (a:List Tp):List Int→List Sh→List Bool→Bool×List Sh×List Bool×Unit
 | [],h,q=>(true,h,q,())
 | to::r,h,q=>
  bif !(cW l (h.getD to.toNat zSh) a).2.2.1 then (false,h,q,())
  else bif (cW l (h.getD to.toNat zSh) a).2.1 then fM l a r (h.set to.toNat (cW l (h.getD to.toNat zSh) a).1) (q.set to.toNat true)
  else fM l a r h q
def lF (m:Im) (f pc:Int) (h:List Sh) (q:List Bool):Bool×List Sh×List Bool×Unit:=
 bif (aN m f pc (h.getD pc.toNat zSh).2.1).2.2.1 !=0 then (false,h,q,())
 else fM m.1 (aN m f pc (h.getD pc.toNat zSh).2.1).1 (aN m f pc (h.getD pc.toNat zSh).2.1).2.1 h q
def rV (m:Im) (f pc:Int) (h:List Sh) (q:List Bool):Bool:=
 aM m&&(inM m f&&(sin pc (codeN m f:Int)&&(decide (h.length=codeN m f)&&(decide (q.length=codeN m f)&&h.all fun s=>okL s.2.1))))
def zV (m:Im) (f pc:Int) (h:List Sh) (q:List Bool):Option (Bool×List Sh×List Bool×Unit):=bif rV m f pc h q then some (lF m f pc h q) else none
def pI (m:Im) (f:Int):Nat→List Sh→List Bool→Option (List Sh×Int×Int×Unit)
 | 0,_,_=>none
 | n+1,h,q=>bif q.any id then (zV m f (q.findIdx id:Int) h (q.set (q.findIdx id) false)).bind fun r=>
   bif !r.1 then some ([],(q.findIdx id:Int),4,()) else pI m f n r.2.1 r.2.2.1
  else some (h,0,0,())
def wR (m:Im) (f:Int):Option (List Sh×Int×Int×Unit):=
 bif aM m&&inM m f then pI m f (100*codeN m f+2) ((List.replicate (codeN m f) zSh).set 0 (true,[],())) ((List.replicate (codeN m f) false).set 0 true) else none
def qL (m:Im):List Int→List (List Sh)→Option (List (List Sh)×Int×Int×Int×Unit)
 | [],out=>some (out,0,0,0,())
 | f::l,out=>(wR m f).bind fun r=>bif r.2.2.1 !=0 then some ([],f,r.2.1,r.2.2.1,()) else qL m l (out++[r.1])
def tG (m:Im):Option (List (List Sh)×Int×Int×Int×Unit):=bif aM m then qL m (ints m.2.2.2.1.length) [] else none
def kL (l:List Int):Int:=l.foldl max 0
def aP7 (l:List (List Sh)) (f:Int):Int:=bif sin f (l.length:Int) then kL ((l.getD f.toNat []).map fun s=>(s.2.1.length:Int)) else 0
def aDC (m:Im) (l:List (List Sh)) (f:Int):Int:=bif inM m f then ((3+(aD m f).1.length+(aD m f).2.1.length:Nat):Int)+aP7 l f else 0
def sP (to:Int) (part:List Int):Bool:=part.contains to
def aA3 (l:List Int) (c:List Int×Unit):Int:=oM (fun x=>sP x c.1) 0 l
def zB (l:List Int) (c:List Int×Unit):Bool:=l.any fun x=>sP x c.1
def sN (l:List (List Int)) (part:List Int):Bool:=part.any fun k=>sin k (l.length:Int)&&(l.getD k.toNat []).any fun to=>part.contains to
def sO (l:List (List Int)) (part:List Int):Option (Bool×Unit):=bif okL part then some (sN l part,()) else none
def aJz (part out:List Int):List Int→Int→Int
 | [],b=>b
 | to::r,b=>aJz part out r (bif !part.contains to&&decide (to<(out.length:Int)) then max b (out.getD to.toNat 0) else b)
def aGn (m:Im) (l:List (List Sh)) (ed:List (List Int)) (part out:List Int) (cyc:Bool):List Int→Int→Int→Option (Int×Int)
 | [],a,b=>some (a,b)
 | f::r,a,b=>bif decide ((bif cyc then (aD m f).2.2.2.2.1 else 1)<1) then none
  else aGn m l ed part out cyc r (IntKind.i64.wrap (a+IntKind.i64.wrap ((bif cyc then (aD m f).2.2.2.2.1 else 1)*aDC m l f))) (aJz part out (ed.getD f.toNat []) b)
def aE5 (v:Int):List Int→List Int→List Int
 | [],out=>out
 | f::r,out=>aE5 v r (out.set f.toNat v)
def aFv (m:Im) (l:List (List Sh)) (ed:List (List Int)):List (List Int)→List Int→List Int×Int×Unit
 | [],out=>(out,0,())
 | part::ps,out=>match aGn m l ed part out (sN ed part) part 0 0 with
  | none=>([],5,())
  | some a=>aFv m l ed ps (aE5 (IntKind.i64.wrap (a.1+a.2)) part out)
def gB (m:Im):List (List Int):=(ints m.2.2.2.1.length).map (ofB m)
def vR (m:Im):Bool:=(gB m).all fun e=>okL e&&e.all (inM m)
noncomputable def aIz (m:Im) (l:List (List Sh)):Option (List Int×Int×Unit):=bif aM m&&(gA l&&vR m) then (jR (gB m)).bind fun r=>bif okL r.1&&r.1.all (fun p=>okL p&&p.all (inM m)) then some (aFv m l (gB m) r.1 (List.replicate m.2.2.2.1.length 0)) else none else none
def inU (x:Int):Bool:=decide (0≤x)&&decide (x≤18446744073709551615)
def uP (x y:Int):Option (Int×Int×Unit):=bif inU x&&inU y then some (x*y/18446744073709551616,x*y % 18446744073709551616,()) else none
abbrev Sure:=Int×Bool×Unit
def lof (n:Int):Sure:=(n,decide (n> -4611686018427387904)&&decide (n<4611686018427387904),())
def fD (n:Int):Int:=bif decide (n<0) then IntKind.u64.wrap (IntKind.i64.wrap (0 - n)) else IntKind.u64.wrap n
def aAC (a b:Sure):Sure:=bif a.2.1&&b.2.1 then lof (IntKind.i64.wrap (a.1+b.1)) else (0,false,())
def yL (a b:Sure):Option (Sure×Unit):=some (aAC a b,())
def zW (a b:Sure):Sure:=
 bif a.2.1&&b.2.1 then (bif decide (fD a.1*fD b.1/18446744073709551616≠0) || decide (fD a.1*fD b.1 % 18446744073709551616≥4611686018427387904) then (0,false,()) else lof (IntKind.i64.wrap (a.1*b.1))) else (0,false,())
def yK (a b:Sure):Option (Sure×Unit):=some (zW a b,())
def pK:List (Int×Int)→Sure→Sure
 | [],a=>a
 | p::r,a=>pK r (aAC a (zW (lof p.1) (lof p.2)))
def aDt (most:Int) (s:Sure):Bool×Int×Unit:=bif !s.2.1 then (false,14,()) else (decide (s.1≤most),0,())
def oO (q:Iq) (v:List Int):Bool×Int×Unit:=bif decide (q.1.length≠v.length) then (false,14,()) else aDt q.2.1 (pK (q.1.zip v) (lof 0))
def vC (q:Iq) (v:List Int):Option (Bool×Int×Unit):=bif okL q.1 then some (oO q v) else none
def bT (l:List (List Sh)) (f pc:Int):Sh:=(l.getD f.toNat []).getD pc.toNat zSh
def oB (l:List (List Sh)) (f pc:Int):Option (Sh×Unit):=bif decide (0≤f)&&decide (0≤pc) then some (bT l f pc,()) else none
def eD (m:Im) (f:Int):Int:=(aD m f).2.2.2.2.2.1
def gL (m:Im) (i:Ins):Int:=
 bif i.1==22 then rE m i.2.1 else bif i.1==23 then IntKind.i64.wrap (1+max 0 (min i.2.1 255)) else kL (((cO m i).filter (inM m)).map (eD m))
def jT (m:Im) (i:Ins):Option (Int×Unit):=bif cB m then some (gL m i,()) else none
def sW (z:List Int) (a d:Int):List Int:=bif decide (a≥0) then z.set a.toNat (IntKind.i64.wrap (z.getD a.toNat 0+d)) else z
def cU (n a b c:Int):Iq:=(sW (sW (List.replicate n.toNat 0) a (-1)) b 1,c,())
def pS (n a b c:Int):Option (Iq×Unit):=bif decide (0≤n)&&(Nat.blt n.toNat 1000000&&(decide (a<n)&&decide (b<n))) then some (cU n a b c,()) else none
def gJ (m:Im) (l:List (List Sh)) (f pc:Int):List Iq:=
 bif !(bT l f pc).1 then[] else
 bif (aN m f pc (bT l f pc).2.1).2.2.1 !=0 then[] else
 (bif decide ((aN m f pc (bT l f pc).2.1).2.1.length=0) then[cU (codeN m f:Int) pc (-1) 0] else[])++
 (aN m f pc (bT l f pc).2.1).2.1.map fun to=>cU (codeN m f:Int) pc to (IntKind.i64.wrap (0 - gL m (aH m f pc)))
def eC (m:Im) (l:List (List Sh)) (f:Int):List Iq:=
 bif inM m f then cU (codeN m f:Int) (-1) 0 (eD m f)::((List.range (codeN m f)).map fun k:Nat=>gJ m l f (k:Int)).flatten else[]
def mP (m:Im) (l:List (List Sh)) (f:Int):Option (List Iq×Unit):=bif aM m&&gA l then some (eC m l f,()) else none
def uO (n:Int):Bool:=decide (n<0)
def aA0 (l:List Int) (_:Unit):Int:=oM uO 0 l
def zA (l:List Int) (_:Unit):Bool:=l.any uO
def iV (m:Im) (f:Int):List Int:=(aD m f).2.2.2.2.2.2.1
def aA7 (m:Im) (f:Int) (q:Iq):Bool:=decide ((oO q (iV m f)).2.1=0)&&(oO q (iV m f)).1
def xZ (m:Im) (l:List (List Sh)):List Int→Int×Int×Unit
 | []=>(0,0,())
 | f::r=>bif (eC m l f).all (aA7 m f) then (bif (iV m f).any uO then (f,6,()) else xZ m l r) else (f,6,())
def oC (m:Im) (l:List (List Sh)):Option (Int×Int×Unit):=bif aM m&&gA l then some (xZ m l (ints m.2.2.2.1.length)) else none
def aAQ (m:Im) (bd:List Int):List Int→Int→Int→Int×Int
 | [],s,h=>(s,h)
 | f::r,s,h=>bif decide (f≥0)&&decide (f<(bd.length:Int)) then aAQ m bd r (max s (bd.getD f.toNat 0)) (max h (eD m f)) else aAQ m bd r s h
def aNR (m:Im) (r:List Int×Int×Unit):Int×Int×Int×Unit:=
 bif r.2.1 !=0 then (0,0,r.2.1,()) else ((aAQ m r.1 m.2.2.2.2.1 0 0).1,IntKind.i64.wrap ((m.2.1.length:Int)+(aAQ m r.1 m.2.2.2.2.1 0 0).2),0,())
noncomputable def aD5 (m:Im) (l:List (List Sh)):Option (Int×Int×Int×Unit):=bif aM m then (aIz m l).bind fun r=>some (aNR m r) else none
def uG (m:Im) (i:Ins):Int:=bif i.1==22 then rE m i.2.1 else bif i.1==23 then IntKind.i64.wrap (1+i.2.1) else kL ((cO m i).map (eD m))
def pR (m:Im) (i:Ins):Option (Int×Unit):=bif cB m&&(cO m i).all (inM m) then some (uG m i,()) else none
end Go.Pli

namespace Go.Pli
open Go Go.PM
def tS (l:List Cl) (a b:Tp):Option (Tp×Unit):=bif okL l then some (fP l a b,()) else none
def nZ (m:Im) (f pc:Int) (s:List Tp):Option St4:=bif aM m&&okL s then some (aN m f pc s) else none
def jX (l:List Cl) (a:List Tp):List Int→Bool→List Sh→Option (Bool×List Sh)
 | [],t,h=>some (t,h)
 | to::r,t,h=>
  bif !(cW l (h.getD to.toNat zSh) a).2.2.1 then none
  else bif (cW l (h.getD to.toNat zSh) a).2.1 then jX l a r true (h.set to.toNat (cW l (h.getD to.toNat zSh) a).1)
  else jX l a r t h
def nA (m:Im) (f:Int) (pc:Nat) (t:Bool) (h:List Sh):Option (Bool×List Sh):=
 bif !(h.getD pc zSh).1 then some (t,h)
 else bif (aN m f (pc:Int) (h.getD pc zSh).2.1).2.2.1 !=0 then none
 else jX m.1 (aN m f (pc:Int) (h.getD pc zSh).2.1).1 (aN m f (pc:Int) (h.getD pc zSh).2.1).2.1 t h
def iK (m:Im) (f:Int):Nat→Bool→List Sh→Option (Bool×List Sh)
 | 0,t,h=>some (t,h)
 | pc+1,t,h=>(nA m f pc t h).bind fun r=>iK m f pc r.1 r.2
def gK (m:Im) (f:Int):Nat→List Sh→List Sh×Bool×Unit
 | 0,_=>([],false,())
 | n+1,h=>match iK m f (codeN m f) false h with
  | none=>([],false,())
  | some r=>bif r.1 then gK m f n r.2 else (r.2,true,())
def gI (m:Im) (f:Int):List Sh:=(List.replicate (codeN m f) zSh).set 0 (true,[],())
def tX (m:Im) (f:Int):Option (List Sh×Bool×Unit):=bif aM m&&inM m f then some (gK m f 4000 (gI m f)) else none
def sU (m:Im):List Int→List (List Sh)→List (List Sh)×Int×Unit
 | [],out=>(out,-1,())
 | f::l,out=>bif (gK m f 4000 (gI m f)).2.1 then sU m l (out++[(gK m f 4000 (gI m f)).1]) else ([],f,())
def jS (m:Im):Option (List (List Sh)×Int×Unit):=bif aM m then some (sU m (ints m.2.2.2.1.length) []) else none
end Go.Pli

namespace Go.Pli
open Go Go.PM
def wO (m:Im):Nat→Nat→Bool:=wP (aP0 m) m.2.2.2.1.length
end Go.Pli

namespace Go.Pli
open Go Go.PM
end Go.Pli

namespace Go.Pli
open Go Go.PM
def yJ (l:List Int):Int:=(l.drop 1).foldl max (l.getD 0 0)
def uV (l:List Int):Option (Int×Unit):=bif okL l&&decide (0<l.length) then some (yJ l,()) else none
def aCs (p q:Iq):Bool:=bif p.2.1==q.2.1 then tT p.1 q.1 else false
def uF (p q:Iq):Option (Bool×Unit):=bif okL p.1&&okL q.1 then some (aCs p q,()) else none
def tM (m:Im):Bool:=decide ((m.2.2.2.1.length:Int)≤12)&&(decide ((m.1.length:Int)≤8)&&(decide ((m.2.2.1.length:Int)≤16)&&(rM m==0)))
def pO (n a b c:Int):Option (Iq×Unit):=bif decide (0≤n)&&(Nat.blt n.toNat 1000000&&(decide (a<n)&&decide (b<n))) then some (cU n a b c,()) else none
def mM (c:Int) (pc:Nat):List Int→Bool→List Int→Bool×List Int
 | [],t,phi=>(t,phi)
 | to::r,t,phi=>
  bif decide (IntKind.i64.wrap (c+phi.getD to.toNat 0)>phi.getD pc 0) then mM c pc r true (phi.set pc (IntKind.i64.wrap (c+phi.getD to.toNat 0)))
  else mM c pc r t phi
def mL (m:Im) (l:List (List Sh)) (f:Int) (pc:Nat) (t:Bool) (phi:List Int):Bool×List Int:=
 bif !(bT l f (pc:Int)).1 then (t,phi)
 else mM (gL m (aH m f (pc:Int))) pc (aN m f (pc:Int) (bT l f (pc:Int)).2.1).2.1 t phi
def iG (m:Im) (l:List (List Sh)) (f:Int):List Nat→Bool→List Int→Bool×List Int
 | [],t,phi=>(t,phi)
 | pc::r,t,phi=>iG m l f r (mL m l f pc t phi).1 (mL m l f pc t phi).2
def yQ (m:Im) (l:List (List Sh)) (f:Int):Nat→List Int→List Int×Bool×Unit
 | 0,_=>([],false,())
 | k+1,phi=>
  bif (iG m l f (List.range (codeN m f)) false phi).1 then yQ m l f k (iG m l f (List.range (codeN m f)) false phi).2
  else ((iG m l f (List.range (codeN m f)) false phi).2,decide (yJ ((iG m l f (List.range (codeN m f)) false phi).2++[0])≤4096),())
def aHo (m:Im) (l:List (List Sh)) (f:Int):List Int×Bool×Unit:=yQ m l f (codeN m f+1) (List.replicate (codeN m f) 0)
def rQ (m:Im) (l:List (List Sh)) (f:Int):Option (List Int×Bool×Unit):=bif aM m&&(gA l&&inM m f) then some (aHo m l f) else none
def mI (x:Mt) (p:Int):Mt:=(x.1,x.2.1,x.2.2.1,x.2.2.2.1,x.2.2.2.2.1,p,x.2.2.2.2.2.2)
def aLq (x:Mt) (p:List Int):Mt:=(x.1,x.2.1,x.2.2.1,x.2.2.2.1,x.2.2.2.2.1,x.2.2.2.2.2.1,p,())
def dM (m:Im) (ms:List Mt):Im:=(m.1,m.2.1,m.2.2.1,ms,m.2.2.2.2)
def sH (m:Im) (l:List (List Sh)):List Int→List Mt→Option (Option (List Mt))
 | [],ms=>some (some ms)
 | f::r,ms=>(rQ (dM m ms) l f).bind fun q=>bif !q.2.1 then some none else sH m l r (ms.set f.toNat (aLq (ms.getD f.toNat zMt) q.1))
def mQ (ms:List Mt) (f:Int):List Mt:=bif decide (((ms.getD f.toNat zMt).2.2.2.2.2.2.1.length:Int)>0) then ms.set f.toNat (mI (ms.getD f.toNat zMt) ((ms.getD f.toNat zMt).2.2.2.2.2.2.1.getD 0 0)) else ms
def qC (ed:List (List Int)) (part:List Int):List Int→List Mt→Option (List Mt)
 | [],ms=>some ms
 | f::r,ms=>bif decide (((mQ ms f).getD f.toNat zMt).2.2.2.2.2.1>0)&&sN ed part then none else qC ed part r (mQ ms f)
def aBe (m:Im) (l:List (List Sh)) (ed:List (List Int)):List (List Int)→List Mt→Option (Option (List Mt))
 | [],ms=>some (some ms)
 | p::ps,ms=>(sH m l p ms).bind fun q=>match q with
  | none=>some none
  | some ms1=>match qC ed p p ms1 with
   | none=>some none
   | some ms2=>aBe m l ed ps ms2
def aIb (m:Im):Option (List Mt)→Im×Bool×Unit
 | none=>(zIm,false,())
 | some ms=>(dM m ms,true,())
noncomputable def rR (m:Im) (l:List (List Sh)):Option (Im×Bool×Unit):=
 bif aM m&&vR m then (jR (gB m)).bind fun r=>bif okL r.1&&r.1.all (fun p=>okL p&&p.all (inM m)) then
  (aBe m l (gB m) r.1 (m.2.2.2.1.map fun x=>mI x 0)).bind fun q=>some (aIb m q) else none else none
end Go.Pli

namespace Go.Pli
open Go Go.PM
noncomputable section
def aHH (_s:Unit) (n:Int):Option (List Tp×Unit):=
 bif decide (n<0) then
  none
 else bif decide (IntKind.i64.wrap (n - (IntKind.i64.wrap ((0:Int) - (([]:List Tp).length:Int))))>0) then
  bif decide (0<IntKind.i64.wrap (n - (IntKind.i64.wrap ((0:Int) - (([]:List Tp).length:Int)))))&&decide (IntKind.i64.wrap (n - (IntKind.i64.wrap ((0:Int) - (([]:List Tp).length:Int))))<(rowMax:Int)) then
   bif decide ((0:Int)≤(([]:List Tp).length:Int))&&decide ((([]:List Tp).length:Int)≤((List.replicate (IntKind.i64.wrap (n - (IntKind.i64.wrap ((0:Int) - (([]:List Tp).length:Int))))).toNat zTp).length:Int))&&true then
    some (((List.replicate (IntKind.i64.wrap (n - (IntKind.i64.wrap ((0:Int) - (([]:List Tp).length:Int))))).toNat zTp).take (([]:List Tp).length:Int).toNat).drop 0,())
   else none
  else none
 else some (([]:List Tp),())
def aBm (l:List (List Tp)) (s4:List Tp×Int×Unit) (rec5:(List Tp×Int×Unit)→Option (List Tp×Unit)):Option (List Tp×Unit):=
 bif decide (s4.2.1<(l.length:Int)) then
  bif decide (0≤s4.2.1)&&decide (s4.2.1<l.length) then
   bif decide (s4.1.length+(l.getD s4.2.1.toNat ([]:List Tp)).length<rowMax)&&true then
    rec5 (s4.1++(l.getD s4.2.1.toNat ([]:List Tp)),IntKind.i64.wrap (s4.2.1+1),())
   else none
  else none
 else some (s4.1,())
def aDR (l:List (List Tp)) (fuel:Nat) (s1:Int×Int×Unit) (rec2:(Int×Int×Unit)→Option (List Tp×Unit)):Option (List Tp×Unit):=
 bif decide (s1.2.1<(l.length:Int)) then
  bif decide (0≤s1.2.1)&&decide (s1.2.1<l.length) then
   bif decide (IntKind.i64.wrap (s1.1+((l.getD s1.2.1.toNat ([]:List Tp)).length:Int))<0) then
    none
   else rec2 (IntKind.i64.wrap (s1.1+((l.getD s1.2.1.toNat ([]:List Tp)).length:Int)),IntKind.i64.wrap (s1.2.1+1),())
  else none
 else
  (vK () s1.1).bind fun r3=>
  aE (aBm l) fuel (r3.1,((0:Int),()))
def aIQ (fuel:Nat) (l:List (List Tp)):Option (List Tp×Unit):=
 aE (aDR l fuel) fuel ((0:Int),((0:Int),()))
def aOY (s:List Int) (_v:Int):Prop:=(s.length≤lenMax∧∀x1:Int,x1∈s→True)∧True∧True
def aDq (s:List Int) (v:Int) (s1:Int×Unit) (rec2:(Int×Unit)→Option (Int×Unit)):Option (Int×Unit):=
 bif decide (s1.1<(s.length:Int)) then
  bif decide (0≤s1.1)&&decide (s1.1<s.length) then
   bif v==(s.getD s1.1.toNat 0) then
    some (s1.1,())
   else rec2 (IntKind.i64.wrap (s1.1+1),())
  else none
 else some ((-1:Int),())
def aOX (fuel:Nat) (s:List Int) (v:Int):Option (Int×Unit):=
 aE (aDq s v) fuel ((0:Int),())
def aQs (s:List Int) (_v:Int):Prop:=(s.length≤lenMax∧∀x1:Int,x1∈s→True)∧True∧True
def aIL (s:List Int) (v:Int):Option (Bool×Unit):=
 some (decide ((aA1 s v)≥0),())
def aIZ (s:List Iq):Option (List Iq×Unit):=
 bif decide ((s.length:Int)=(s.length:Int))&&decide ((s.length:Int)=(s.length:Int)) then
  some (s,())
 else none
def aIB (m:Im) (c:Int):Option (Int×Unit):=
 bif decide (0≤c)&&decide (c<m.1.length) then
  bif decide ((m.1.getD c.toNat zCl).1≥c) then
   some ((-1:Int),())
  else bif decide (0≤c)&&decide (c<m.1.length) then
   some ((m.1.getD c.toNat zCl).1,())
  else none
 else none
def aBv (m:Im) (s1:Int×List Tp×Unit) (rec2:(Int×List Tp×Unit)→Option (List Tp×Unit)):Option (List Tp×Unit):=
 bif decide (s1.1≥0) then
  bif decide (0≤s1.1)&&decide (s1.1<m.1.length) then
   (nI [(m.1.getD s1.1.toNat zCl).2.1,s1.2.1]).bind fun r3=>
   (cup m s1.1).bind fun r4=>
   rec2 (r4.1,r3.1,())
  else none
 else some (s1.2.1,())
def aJh (fuel:Nat) (m:Im) (c:Int):Option (List Tp×Unit):=
 bif decide (c≥(m.1.length:Int)) then
  some (([]:List Tp),())
 else aE (aBv m) fuel (c,(([]:List Tp),()))
def aIH (m:Im) (c:Int):Option (Int×Unit):=
 (oV m c).bind fun r1=>
 some (IntKind.i64.wrap ((1:Int)+(r1.1.length:Int)),())
def aIW (x:Mt) (n:Int):Option (Tp×Unit):=
 bif decide (n<0) then
  some (((0:Int),((0:Int),())),())
 else bif decide (n≥IntKind.i64.wrap ((x.1.length:Int)+(x.2.1.length:Int))) then
  some (((0:Int),((0:Int),())),())
 else bif decide (n<(x.1.length:Int)) then
  bif decide (0≤n)&&decide (n<x.1.length) then
   some (x.1.getD n.toNat zTp,())
  else none
 else bif decide (0≤IntKind.i64.wrap (n - (x.1.length:Int)))&&decide (IntKind.i64.wrap (n - (x.1.length:Int))<x.2.1.length) then
  some (x.2.1.getD (IntKind.i64.wrap (n - (x.1.length:Int))).toNat zTp,())
 else none
def aGE (o:Int):Option (Bool×Unit):=
 bif decide (o≥7) then
  some (decide (o≤17),())
 else some (false,())
def iJ:Tp:=
 ((1:Int),((0:Int),()))
def vQ:Tp:=
 ((2:Int),((0:Int),()))
def lX (c:Int):Tp:=
 ((3:Int),c,())
def gE (t:List Tp):List Tp:=
 t
def fI (t:Tp):List Tp:=
 [t]
def aIm (x:Mt) (t:List Tp):Option ((List Tp×List Tp×Unit)×Unit):=
 bif decide (0≤(t.length:Int))&&decide ((t.length:Int)≤(x.1.length:Int))&&decide ((x.1.length:Int)≤(x.1.length:Int)) then
  (nI [t,(x.1.take x.1.length).drop t.length]).bind fun r1=>
  bif x.2.2.1.1 !=5 then
   some ((r1.1,[x.2.2.1],()),())
  else some ((r1.1,(([]:List Tp),())),())
 else none
def aHW (o:Int):Option ((List Tp×List Tp×Unit)×Bool×Unit):=
 bif o==2 then
  some ((([]:List Tp),((gE [((4:Int),((0:Int),()))]),())),true,())
 else bif o==5 then
  some (((gE [((0:Int),((0:Int),()))]),(([]:List Tp),())),true,())
 else bif o==20 then
  some (((gE [((4:Int),((0:Int),()))]),(gE [iJ]),()),true,())
 else bif o==21 then
  some (((gE [((4:Int),((0:Int),())),((4:Int),((0:Int),()))]),(gE [iJ]),()),true,())
 else bif o==24 then
  some (((gE [vQ,iJ]),(gE [iJ]),()),true,())
 else bif o==25 then
  some (((gE [vQ,iJ,iJ]),(([]:List Tp),())),true,())
 else bif o==26 then
  some (((gE [vQ]),(gE [iJ]),()),true,())
 else bif o==1 then
  some ((([]:List Tp),(gE [iJ]),()),true,())
 else bif o==19 then
  some (((gE [iJ]),(([]:List Tp),())),true,())
 else bif o==18 then
  some ((([]:List Tp),(([]:List Tp),())),true,())
 else bif o==23 then
  some (((gE [iJ]),(gE [vQ]),()),true,())
 else bif (lK o) then
  some (((gE [iJ,iJ]),(gE [iJ]),()),true,())
 else some ((([]:List Tp),(([]:List Tp),())),false,())
def aHY (m:Im) (i:Ins) (f:Int):Option ((List Tp×List Tp×Unit)×Unit):=
 bif decide (0≤f)&&decide (f<m.2.2.2.1.length) then
  let r1:=eI i.1
  bif r1.2.1 then
   some (r1.1,())
  else bif i.1==3 then
   (sQ (m.2.2.2.1.getD f.toNat zMt) i.2.1).bind fun r2=>
   some ((([]:List Tp),(fI r2.1),()),())
  else bif i.1==4 then
   (sQ (m.2.2.2.1.getD f.toNat zMt) i.2.1).bind fun r3=>
   some (((fI r3.1),(([]:List Tp),())),())
  else bif i.1==22 then
   some ((([]:List Tp),(fI (lX i.2.1)),()),())
  else bif i.1==27 then
   (oV m i.2.1).bind fun r4=>
   bif decide (0≤i.2.2.1)&&decide (i.2.2.1<r4.1.length) then
    some (((fI (lX i.2.1)),(fI (r4.1.getD i.2.2.1.toNat zTp)),()),())
   else none
  else bif i.1==28 then
   (oV m i.2.1).bind fun r5=>
   bif decide (0≤i.2.2.1)&&decide (i.2.2.1<r5.1.length) then
    some (([(lX i.2.1),r5.1.getD i.2.2.1.toNat zTp],(([]:List Tp),())),())
   else none
  else bif i.1==29 then
   bif decide (0≤i.2.1)&&decide (i.2.1<m.2.1.length) then
    some ((([]:List Tp),(fI (m.2.1.getD i.2.1.toNat zTp)),()),())
   else none
  else bif i.1==30 then
   bif decide (0≤i.2.1)&&decide (i.2.1<m.2.1.length) then
    some (((fI (m.2.1.getD i.2.1.toNat zTp)),(([]:List Tp),())),())
   else none
  else bif i.1==31 then
   bif decide (0≤i.2.1)&&decide (i.2.1<m.2.2.2.1.length) then
    (sJ (m.2.2.2.1.getD i.2.1.toNat zMt) ([]:List Tp)).bind fun r6=>
    some (r6.1,())
   else none
  else bif i.1==32 then
   let r7:=dL m i.2.1 i.2.2.1
   bif decide (0≤r7.1)&&decide (r7.1<m.2.2.2.1.length) then
    (sJ (m.2.2.2.1.getD r7.1.toNat zMt) (fI (lX i.2.1))).bind fun r8=>
    some (r8.1,())
   else none
  else bif i.1==34 then
   some (((fI ((4:Int),((0:Int),()))),(fI (lX i.2.1)),()),())
  else bif i.1==33 then
   bif ((m.2.2.2.1.getD f.toNat zMt).2.2.1.1) !=5 then
    some (((fI (m.2.2.2.1.getD f.toNat zMt).2.2.1),(([]:List Tp),())),())
   else some ((([]:List Tp),(([]:List Tp),())),())
  else some ((([]:List Tp),(([]:List Tp),())),())
 else none
def aIk (m:Im) (o:Int) (t:Tp) (w:Tp):Option (Bool×Unit):=
 bif w.1==0 then
  some (true,())
 else bif w.1==4 then
  bif (hZ t) then
   bif o !=34 then
    some (true,())
   else some (t.1 !=2,())
  else some (false,())
 else some ((cG m.1 t w),())
def aHZ (i:Ins) (pc:Int):Option (List Int×Unit):=
 bif i.1==18 then
  some ([i.2.1],())
 else bif i.1==19 then
  some ([IntKind.i64.wrap (pc+1),i.2.1],())
 else bif i.1==33 then
  some (([]:List Int),())
 else some ([IntKind.i64.wrap (pc+1)],())
def aDB (m:Im) (f:Int) (pc:Int) (s:List Tp) (r2:(List Tp×List Tp×Unit)×Unit) (s3:List Int×Int×Unit) (rec4:(List Int×Int×Unit)→Option (List Tp×List Int×Int×Unit)):Option (List Tp×List Int×Int×Unit):=
 bif decide (s3.2.1<(r2.1.1.length:Int)) then
  bif decide (0≤s3.2.1)&&decide (s3.2.1<r2.1.1.length) then
   bif decide (0≤IntKind.i64.wrap ((IntKind.i64.wrap ((s.length:Int) - (r2.1.1.length:Int)))+s3.2.1))&&decide (IntKind.i64.wrap ((IntKind.i64.wrap ((s.length:Int) - (r2.1.1.length:Int)))+s3.2.1)<s.length) then
    bif !(dV m ((m.2.2.2.1.getD f.toNat zMt).2.2.2.1.getD pc.toNat cR).1 (s.getD (IntKind.i64.wrap ((IntKind.i64.wrap ((s.length:Int) - (r2.1.1.length:Int)))+s3.2.1)).toNat zTp) (r2.1.1.getD s3.2.1.toNat zTp)) then
     some (([]:List Tp),(([]:List Int),((4:Int),())))
    else rec4 (s3.1,IntKind.i64.wrap (s3.2.1+1),())
   else none
  else none
 else bif decide ((0:Int)≤IntKind.i64.wrap ((s.length:Int) - (r2.1.1.length:Int)))&&decide (IntKind.i64.wrap ((s.length:Int) - (r2.1.1.length:Int))≤(s.length:Int)) then
  (nI [(s.take (IntKind.i64.wrap ((s.length:Int) - (r2.1.1.length:Int))).toNat).drop 0,r2.1.2.1]).bind fun r5=>
  some (r5.1,s3.1,((0:Int),()))
 else none
def aHU (fuel:Nat) (m:Im) (f:Int) (pc:Int) (s:List Tp):Option (List Tp×List Int×Int×Unit):=
 bif decide (f<0) then
  some (([]:List Tp),(([]:List Int),((1:Int),())))
 else bif decide (f≥(m.2.2.2.1.length:Int)) then
  some (([]:List Tp),(([]:List Int),((1:Int),())))
 else bif decide (pc<0) then
  some (([]:List Tp),(([]:List Int),((1:Int),())))
 else bif decide (0≤f)&&decide (f<m.2.2.2.1.length) then
  bif decide (pc≥((m.2.2.2.1.getD f.toNat zMt).2.2.2.1.length:Int)) then
   some (([]:List Tp),(([]:List Int),((1:Int),())))
  else bif decide (0≤f)&&decide (f<m.2.2.2.1.length) then
   bif decide (0≤pc)&&decide (pc<(m.2.2.2.1.getD f.toNat zMt).2.2.2.1.length) then
    bif decide (0≤f)&&decide (f<m.2.2.2.1.length) then
     bif (vT (dS ((m.2.2.2.1.getD f.toNat zMt).2.2.2.1.getD pc.toNat cR) pc) ((m.2.2.2.1.getD f.toNat zMt).2.2.2.1.length:Int)) then
      some (([]:List Tp),(([]:List Int),((4:Int),())))
     else bif (((m.2.2.2.1.getD f.toNat zMt).2.2.2.1.getD pc.toNat cR).1)==6 then
      bif (s.length:Int)==0 then
       some (([]:List Tp),(([]:List Int),((4:Int),())))
      else bif decide ((s.length:Int)≥8) then
       some (([]:List Tp),(([]:List Int),((4:Int),())))
      else bif decide (0≤IntKind.i64.wrap ((s.length:Int) - 1))&&decide (IntKind.i64.wrap ((s.length:Int) - 1)≤(s.length:Int))&&decide ((s.length:Int)≤(s.length:Int)) then
       (nI [s,(s.take s.length).drop (IntKind.i64.wrap ((s.length:Int) - 1)).toNat]).bind fun r1=>
       some (r1.1,(dS ((m.2.2.2.1.getD f.toNat zMt).2.2.2.1.getD pc.toNat cR) pc),((0:Int),()))
      else none
     else
      (fof m ((m.2.2.2.1.getD f.toNat zMt).2.2.2.1.getD pc.toNat cR) f).bind fun r2=>
      bif decide (IntKind.i64.wrap ((s.length:Int) - (r2.1.1.length:Int))<0) then
       some (([]:List Tp),(([]:List Int),((4:Int),())))
      else bif decide (IntKind.i64.wrap ((IntKind.i64.wrap ((s.length:Int) - (r2.1.1.length:Int)))+(r2.1.2.1.length:Int))>8) then
       some (([]:List Tp),(([]:List Int),((4:Int),())))
      else aE (aDB m f pc s r2) fuel ((dS ((m.2.2.2.1.getD f.toNat zMt).2.2.2.1.getD pc.toNat cR) pc),((0:Int),()))
    else none
   else none
  else none
 else none
def aQe (_to:Int) (part:List Int):Prop:=True∧(part.length≤lenMax∧∀x1:Int,x1∈part→True)∧True
def aQd (to:Int) (part:List Int):Option (Bool×Unit):=
 some ((vT part to),())
def aO2 (l:List Int) (c:List Int×Unit):Prop:=(l.length≤lenMax∧∀x1:Int,x1∈l→True)∧((c.1.length≤lenMax∧∀x1:Int,x1∈c.1→True)∧True)∧True
def aDr (l:List Int) (c:List Int×Unit) (s1:Int×Unit) (rec2:(Int×Unit)→Option (Int×Unit)):Option (Int×Unit):=
 bif decide (s1.1<(l.length:Int)) then
  bif decide (0≤s1.1)&&decide (s1.1<l.length) then
   bif (sP (l.getD s1.1.toNat 0) c.1) then
    some (s1.1,())
   else rec2 (IntKind.i64.wrap (s1.1+1),())
  else none
 else some ((-1:Int),())
def aO1 (fuel:Nat) (l:List Int) (c:List Int×Unit):Option (Int×Unit):=
 aE (aDr l c) fuel ((0:Int),())
def aQv (l:List Int) (c:List Int×Unit):Prop:=(l.length≤lenMax∧∀x1:Int,x1∈l→True)∧((c.1.length≤lenMax∧∀x1:Int,x1∈c.1→True)∧True)∧True
def aIM (l:List Int) (c:List Int×Unit):Option (Bool×Unit):=
 some (decide ((aA3 l c)≥0),())
def aBk (l:List (List Int)) (part:List Int) (s1:Int×Unit) (rec2:(Int×Unit)→Option (Bool×Unit)):Option (Bool×Unit):=
 bif decide (s1.1<(part.length:Int)) then
  bif decide (0≤s1.1)&&decide (s1.1<part.length) then
   bif decide (part.getD s1.1.toNat 0<0) then
    rec2 (IntKind.i64.wrap (s1.1+1),())
   else bif decide (part.getD s1.1.toNat 0≥(l.length:Int)) then
    rec2 (IntKind.i64.wrap (s1.1+1),())
   else bif decide (0≤part.getD s1.1.toNat 0)&&decide (part.getD s1.1.toNat 0<l.length) then
    bif (zB (l.getD (part.getD s1.1.toNat 0).toNat ([]:List Int)) (part,())) then
     some (true,())
    else rec2 (IntKind.i64.wrap (s1.1+1),())
   else none
  else none
 else some (false,())
def aIA (fuel:Nat) (l:List (List Int)) (part:List Int):Option (Bool×Unit):=
 aE (aBk l part) fuel ((0:Int),())
def aGG (x:Int) (y:Int):Option (Int×Int×Unit):=
 some (IntKind.u64.wrap ((IntKind.u64.wrap ((IntKind.u64.wrap ((x.fdiv 4294967296)*(y.fdiv 4294967296)))+((IntKind.u64.wrap ((IntKind.u64.wrap ((x.fdiv 4294967296)*(IntKind.u64.wrap ((BitVec.ofInt 64 y&&&BitVec.ofInt 64 4294967295).toNat))))+((IntKind.u64.wrap ((IntKind.u64.wrap ((BitVec.ofInt 64 x&&&BitVec.ofInt 64 4294967295).toNat))*(IntKind.u64.wrap ((BitVec.ofInt 64 y&&&BitVec.ofInt 64 4294967295).toNat)))).fdiv 4294967296))).fdiv 4294967296)))+((IntKind.u64.wrap ((IntKind.u64.wrap ((BitVec.ofInt 64 (IntKind.u64.wrap ((IntKind.u64.wrap ((x.fdiv 4294967296)*(IntKind.u64.wrap ((BitVec.ofInt 64 y&&&BitVec.ofInt 64 4294967295).toNat))))+((IntKind.u64.wrap ((IntKind.u64.wrap ((BitVec.ofInt 64 x&&&BitVec.ofInt 64 4294967295).toNat))*(IntKind.u64.wrap ((BitVec.ofInt 64 y&&&BitVec.ofInt 64 4294967295).toNat)))).fdiv 4294967296)))&&&BitVec.ofInt 64 4294967295).toNat))+(IntKind.u64.wrap ((IntKind.u64.wrap ((BitVec.ofInt 64 x&&&BitVec.ofInt 64 4294967295).toNat))*(y.fdiv 4294967296))))).fdiv 4294967296)),IntKind.u64.wrap (x*y),())
def aHe (n:Int):Option ((Int×Bool×Unit)×Unit):=
 bif decide (n>(-4611686018427387904:Int)) then
  some ((n,decide (n<4611686018427387904),()),())
 else some ((n,false,()),())
def aG6 (n:Int):Option (Int×Unit):=
 bif decide (n<0) then
  some (IntKind.u64.wrap (IntKind.i64.wrap (0 - n)),())
 else some (IntKind.u64.wrap n,())
def aG7 (a:Int×Bool×Unit) (b:Int×Bool×Unit):Option ((Int×Bool×Unit)×Unit):=
 bif !a.2.1 then
  some (((0:Int),false,()),())
 else bif !b.2.1 then
  some (((0:Int),false,()),())
 else some ((lof (IntKind.i64.wrap (a.1+b.1))),())
def aG4 (a:Int×Bool×Unit) (b:Int×Bool×Unit):Option ((Int×Bool×Unit)×Unit):=
 bif !a.2.1 then
  some (((0:Int),false,()),())
 else bif !b.2.1 then
  some (((0:Int),false,()),())
 else
  (uP (fD a.1) (fD b.1)).bind fun r1=>
  bif r1.1 !=0 then
   some (((0:Int),false,()),())
  else bif decide (r1.2.1≥4611686018427387904) then
   some (((0:Int),false,()),())
  else some ((lof (IntKind.i64.wrap (a.1*b.1))),())
def aAY (q:Iq) (v:List Int) (s1:Int×(Int×Bool×Unit)×Unit) (rec2:(Int×(Int×Bool×Unit)×Unit)→Option (Bool×Int×Unit)):Option (Bool×Int×Unit):=
 bif decide (s1.1<(q.1.length:Int)) then
  bif decide (0≤s1.1)&&decide (s1.1<q.1.length) then
   bif decide (0≤s1.1)&&decide (s1.1<v.length) then
    (yK (lof (q.1.getD s1.1.toNat 0)) (lof (v.getD s1.1.toNat 0))).bind fun r3=>
    (yL s1.2.1 r3.1).bind fun r4=>
    rec2 (IntKind.i64.wrap (s1.1+1),r4.1,())
   else none
  else none
 else bif !s1.2.1.2.1 then
  some (false,((14:Int),()))
 else some (decide (s1.2.1.1≤q.2.1),((0:Int),()))
def aHk (fuel:Nat) (q:Iq) (v:List Int):Option (Bool×Int×Unit):=
 bif (q.1.length:Int) !=(v.length:Int) then
  some (false,((14:Int),()))
 else aE (aAY q v) fuel ((0:Int),((lof (0:Int)),()))
def aGb (l:List (List Sh)) (f:Int) (pc:Int):Option (Sh×Unit):=
 bif decide (f≥(l.length:Int)) then
  some ((false,(([]:List Tp),())),())
 else bif decide (0≤f)&&decide (f<l.length) then
  bif decide (pc≥((l.getD f.toNat ([]:List Sh)).length:Int)) then
   some ((false,(([]:List Tp),())),())
  else bif decide (0≤f)&&decide (f<l.length) then
   bif decide (0≤pc)&&decide (pc<(l.getD f.toNat ([]:List Sh)).length) then
    some ((l.getD f.toNat ([]:List Sh)).getD pc.toNat zSh,())
   else none
  else none
 else none
def aAI (m:Im) (r2:List Int×Unit) (s3:Int×Int×Unit) (rec4:(Int×Int×Unit)→Option (Int×Unit)):Option (Int×Unit):=
 bif decide (s3.2.1<(r2.1.length:Int)) then
  bif decide (0≤s3.2.1)&&decide (s3.2.1<r2.1.length) then
   bif decide (r2.1.getD s3.2.1.toNat 0≥0) then
    bif decide (r2.1.getD s3.2.1.toNat 0<(m.2.2.2.1.length:Int)) then
     bif decide (0≤r2.1.getD s3.2.1.toNat 0)&&decide (r2.1.getD s3.2.1.toNat 0<m.2.2.2.1.length) then
      rec4 (max s3.1 (m.2.2.2.1.getD (r2.1.getD s3.2.1.toNat 0).toNat zMt).2.2.2.2.2.1,IntKind.i64.wrap (s3.2.1+1),())
     else none
    else rec4 (s3.1,IntKind.i64.wrap (s3.2.1+1),())
   else rec4 (s3.1,IntKind.i64.wrap (s3.2.1+1),())
  else none
 else some (s3.1,())
def aGk (fuel:Nat) (m:Im) (i:Ins):Option (Int×Unit):=
 bif i.1==22 then
  (vS m i.2.1).bind fun r1=>
  some (r1.1,())
 else bif i.1==23 then
  some (IntKind.i64.wrap ((1:Int)+(max 0 (min i.2.1 255))),())
 else
  (oT m i).bind fun r2=>
  aE (aAI m r2) fuel ((0:Int),((0:Int),()))
def aGd (n:Int) (a:Int) (b:Int) (c:Int):Option (Iq×Unit):=
 bif decide (0≤n)&&decide (n≤n)&&decide (n<(rowMax:Int)) then
  bif decide (a≥0) then
   bif decide (0≤a)&&decide (a<(List.replicate n.toNat (0:Int)).length) then
    bif decide (0≤a)&&decide (a<(List.replicate n.toNat (0:Int)).length) then
     bif decide (b≥0) then
      bif decide (0≤b)&&decide (b<((List.replicate n.toNat (0:Int)).set a.toNat (IntKind.i64.wrap (((List.replicate n.toNat (0:Int)).getD a.toNat 0) - 1))).length) then
       bif decide (0≤b)&&decide (b<((List.replicate n.toNat (0:Int)).set a.toNat (IntKind.i64.wrap (((List.replicate n.toNat (0:Int)).getD a.toNat 0) - 1))).length) then
        some ((((List.replicate n.toNat (0:Int)).set a.toNat (IntKind.i64.wrap (((List.replicate n.toNat (0:Int)).getD a.toNat 0) - 1))).set b.toNat (IntKind.i64.wrap ((((List.replicate n.toNat (0:Int)).set a.toNat (IntKind.i64.wrap (((List.replicate n.toNat (0:Int)).getD a.toNat 0) - 1))).getD b.toNat 0)+1)),c,()),())
       else none
      else none
     else some (((List.replicate n.toNat (0:Int)).set a.toNat (IntKind.i64.wrap (((List.replicate n.toNat (0:Int)).getD a.toNat 0) - 1)),c,()),())
    else none
   else none
  else bif decide (b≥0) then
   bif decide (0≤b)&&decide (b<(List.replicate n.toNat (0:Int)).length) then
    bif decide (0≤b)&&decide (b<(List.replicate n.toNat (0:Int)).length) then
     some (((List.replicate n.toNat (0:Int)).set b.toNat (IntKind.i64.wrap (((List.replicate n.toNat (0:Int)).getD b.toNat 0)+1)),c,()),())
    else none
   else none
  else some ((List.replicate n.toNat (0:Int),c,()),())
 else none
def xW (m:Im) (f:Int) (r5:List Tp×List Int×Int×Unit) (s2:List Iq×Int×Unit) (rec3:(List Iq×Int×Unit)→Option (List Iq×Unit)) (s9:List Iq×Int×Unit) (rec10:(List Iq×Int×Unit)→Option (List Iq×Unit)):Option (List Iq×Unit):=
 bif decide (s9.2.1<(r5.2.1.length:Int)) then
  bif decide (0≤s9.2.1)&&decide (s9.2.1<r5.2.1.length) then
   (jT m ((m.2.2.2.1.getD f.toNat zMt).2.2.2.1.getD s2.2.1.toNat cR)).bind fun r11=>
   (pS ((m.2.2.2.1.getD f.toNat zMt).2.2.2.1.length:Int) s2.2.1 (r5.2.1.getD s9.2.1.toNat 0) (IntKind.i64.wrap (0 - r11.1))).bind fun r12=>
   bif decide (s9.1.length+[r12.1].length<rowMax) then
    rec10 (s9.1++[r12.1],IntKind.i64.wrap (s9.2.1+1),())
   else none
  else none
 else rec3 (s9.1,IntKind.i64.wrap (s2.2.1+1),())
def aAz (m:Im) (l:List (List Sh)) (f:Int) (fuel:Nat) (s2:List Iq×Int×Unit) (rec3:(List Iq×Int×Unit)→Option (List Iq×Unit)):Option (List Iq×Unit):=
 bif decide (s2.2.1<((m.2.2.2.1.getD f.toNat zMt).2.2.2.1.length:Int)) then
  bif decide (0≤s2.2.1)&&decide (s2.2.1<(m.2.2.2.1.getD f.toNat zMt).2.2.2.1.length) then
   (oB l f s2.2.1).bind fun r4=>
   bif !r4.1.1 then
    rec3 (s2.1,IntKind.i64.wrap (s2.2.1+1),())
   else
    (oP m f s2.2.1 r4.1.2.1).bind fun r5=>
    bif r5.2.2.1 !=0 then
     rec3 (s2.1,IntKind.i64.wrap (s2.2.1+1),())
    else
     (bif (r5.2.1.length:Int)==0 then
      (pS ((m.2.2.2.1.getD f.toNat zMt).2.2.2.1.length:Int) s2.2.1 (-1:Int) (0:Int)).bind fun r8=>
      bif decide (s2.1.length+[r8.1].length<rowMax) then
       some (.inl (s2.1++[r8.1],()))
      else none
     else some (.inl (s2.1,())):Option ((List Iq×Unit)⊕(List Iq×Unit))).bind fun q=>match q with
     | .inr r7=>some r7
     | .inl s6=>
      aE (xW m f r5 s2 rec3) fuel (s6.1,((0:Int),()))
  else none
 else some ((idL s2.1),())
def aGc (fuel:Nat) (m:Im) (l:List (List Sh)) (f:Int):Option (List Iq×Unit):=
 bif decide (f<0) then
  some (([]:List Iq),())
 else bif decide (f≥(m.2.2.2.1.length:Int)) then
  some (([]:List Iq),())
 else bif decide (0≤f)&&decide (f<m.2.2.2.1.length) then
  bif ((m.2.2.2.1.getD f.toNat zMt).2.2.2.1.length:Int)==0 then
   some (([]:List Iq),())
  else bif decide (0≤f)&&decide (f<m.2.2.2.1.length) then
   bif decide (0≤f)&&decide (f<m.2.2.2.1.length) then
    (pS ((m.2.2.2.1.getD f.toNat zMt).2.2.2.1.length:Int) (-1:Int) (0:Int) (m.2.2.2.1.getD f.toNat zMt).2.2.2.2.2.1).bind fun r1=>
    aE (aAz m l f fuel) fuel ([r1.1],((0:Int),()))
   else none
  else none
 else none
def aGf (n:Int):Bool:=
 decide (n<0)
def aOU (l:List Int) (_c:Unit):Prop:=(l.length≤lenMax∧∀x1:Int,x1∈l→True)∧True∧True
def aDp (l:List Int) (s1:Int×Unit) (rec2:(Int×Unit)→Option (Int×Unit)):Option (Int×Unit):=
 bif decide (s1.1<(l.length:Int)) then
  bif decide (0≤s1.1)&&decide (s1.1<l.length) then
   bif (aGf (l.getD s1.1.toNat 0)) then
    some (s1.1,())
   else rec2 (IntKind.i64.wrap (s1.1+1),())
  else none
 else some ((-1:Int),())
def aOT (fuel:Nat) (l:List Int) (_c:Unit):Option (Int×Unit):=
 aE (aDp l) fuel ((0:Int),())
def aQq (l:List Int) (_c:Unit):Prop:=(l.length≤lenMax∧∀x1:Int,x1∈l→True)∧True∧True
def aIJ (l:List Int) (c:Unit):Option (Bool×Unit):=
 some (decide ((aA0 l c)≥0),())
def aAJ (m:Im) (s1:Int×Unit) (rec2:(Int×Unit)→Option (Int×Int×Unit)) (r3:List Iq×Unit) (s4:Int×Unit) (rec5:(Int×Unit)→Option (Int×Int×Unit)):Option (Int×Int×Unit):=
 bif decide (s4.1<(r3.1.length:Int)) then
  bif decide (0≤s4.1)&&decide (s4.1<r3.1.length) then
   (vC (r3.1.getD s4.1.toNat zIq) (m.2.2.2.1.getD s1.1.toNat zMt).2.2.2.2.2.2.1).bind fun r6=>
   bif r6.2.1 !=0 then
    some (s1.1,((6:Int),()))
   else bif !r6.1 then
    some (s1.1,((6:Int),()))
   else rec5 (IntKind.i64.wrap (s4.1+1),())
  else none
 else bif (zA (m.2.2.2.1.getD s1.1.toNat zMt).2.2.2.2.2.2.1 ()) then
  some (s1.1,((6:Int),()))
 else rec2 (IntKind.i64.wrap (s1.1+1),())
def uM (m:Im) (l:List (List Sh)) (fuel:Nat) (s1:Int×Unit) (rec2:(Int×Unit)→Option (Int×Int×Unit)):Option (Int×Int×Unit):=
 bif decide (s1.1<(m.2.2.2.1.length:Int)) then
  bif decide (0≤s1.1)&&decide (s1.1<m.2.2.2.1.length) then
   (mP m l s1.1).bind fun r3=>
   aE (aAJ m s1 rec2 r3) fuel ((0:Int),())
  else none
 else some ((0:Int),((0:Int),()))
def aGm (fuel:Nat) (m:Im) (l:List (List Sh)):Option (Int×Int×Unit):=
 aE (uM m l fuel) fuel ((0:Int),())
def aAy (m:Im) (r2:List Int×Unit) (s3:Int×Int×Unit) (rec4:(Int×Int×Unit)→Option (Int×Unit)):Option (Int×Unit):=
 bif decide (s3.2.1<(r2.1.length:Int)) then
  bif decide (0≤s3.2.1)&&decide (s3.2.1<r2.1.length) then
   bif decide (0≤r2.1.getD s3.2.1.toNat 0)&&decide (r2.1.getD s3.2.1.toNat 0<m.2.2.2.1.length) then
    bif decide ((m.2.2.2.1.getD (r2.1.getD s3.2.1.toNat 0).toNat zMt).2.2.2.2.2.1>s3.1) then
     bif decide (0≤s3.2.1)&&decide (s3.2.1<r2.1.length) then
      bif decide (0≤r2.1.getD s3.2.1.toNat 0)&&decide (r2.1.getD s3.2.1.toNat 0<m.2.2.2.1.length) then
       rec4 ((m.2.2.2.1.getD (r2.1.getD s3.2.1.toNat 0).toNat zMt).2.2.2.2.2.1,IntKind.i64.wrap (s3.2.1+1),())
      else none
     else none
    else rec4 (s3.1,IntKind.i64.wrap (s3.2.1+1),())
   else none
  else none
 else some (s3.1,())
def aF4 (fuel:Nat) (m:Im) (i:Ins):Option (Int×Unit):=
 bif i.1==22 then
  (iH m i.2.1).bind fun r1=>
  some (IntKind.i64.wrap ((1:Int)+(r1.1.length:Int)),())
 else bif i.1==23 then
  some (IntKind.i64.wrap ((1:Int)+i.2.1),())
 else
  (tV m i).bind fun r2=>
  aE (aAy m r2) fuel ((0:Int),((0:Int),()))
end
end Go.Pli

namespace Go.Pli
open Go Go.PM
noncomputable section
def xU (x:Mt) (n:Int):Option (Tp×Unit):=
 bif decide (([]:List Tp).length+x.1.length<rowMax) then
  bif decide ((([]:List Tp)++x.1).length+x.2.1.length<rowMax) then
   bif decide (n<0) then
    some (((0:Int),((0:Int),())),())
   else bif decide (n≥(((([]:List Tp)++x.1)++x.2.1).length:Int)) then
    some (((0:Int),((0:Int),())),())
   else bif decide (0≤n)&&decide (n<((([]:List Tp)++x.1)++x.2.1).length) then
    some (((([]:List Tp)++x.1)++x.2.1).getD n.toNat zTp,())
   else none
  else none
 else none
def xI (r3:List Int×Unit) (r4:List Int×Unit) (s5:Int×Unit) (rec6:(Int×Unit)→Option (Tp×Unit)):Option (Tp×Unit):=
 bif decide (s5.1<(r3.1.length:Int)) then
  bif decide (0≤s5.1)&&decide (s5.1<r3.1.length) then
   (rin r4.1 (r3.1.getD s5.1.toNat 0)).bind fun r7=>
   bif r7.1 then
    bif decide (0≤s5.1)&&decide (s5.1<r3.1.length) then
     some (((3:Int),r3.1.getD s5.1.toNat 0,()),())
    else none
   else rec6 (IntKind.i64.wrap (s5.1+1),())
  else none
 else some (((0:Int),((0:Int),())),())
def aFp (fuel:Nat) (l:List Cl) (a:Tp) (b:Tp):Option (Tp×Unit):=
 (lH l a b).bind fun r1=>
 bif r1.1 then
  some (b,())
 else
  (lH l b a).bind fun r2=>
  bif r2.1 then
   some (a,())
  else bif a.1 !=3 then
   some (((0:Int),((0:Int),())),())
  else bif b.1 !=3 then
   some (((0:Int),((0:Int),())),())
  else
   (iT l a.2.1).bind fun r3=>
   (iT l b.2.1).bind fun r4=>
   aE (xI r3 r4) fuel ((1:Int),())
def tY (x:Mt):Option (List Tp×Unit):=
 bif x.2.2.1.1==5 then
  some (([]:List Tp),())
 else some ([x.2.2.1],())
def xR (m:Im) (f:Int) (i:Ins):Option (List Tp×List Tp×Unit):=
 bif i.1==1 then
  some (([]:List Tp),([((1:Int),((0:Int),()))],()))
 else bif i.1==2 then
  some (([]:List Tp),([((4:Int),((0:Int),()))],()))
 else bif i.1==3 then
  bif decide (0≤f)&&decide (f<m.2.2.2.1.length) then
   (xU (m.2.2.2.1.getD f.toNat zMt) i.2.1).bind fun r1=>
   some (([]:List Tp),[r1.1],())
  else none
 else bif i.1==4 then
  bif decide (0≤f)&&decide (f<m.2.2.2.1.length) then
   (xU (m.2.2.2.1.getD f.toNat zMt) i.2.1).bind fun r2=>
   some ([r2.1],(([]:List Tp),()))
  else none
 else bif i.1==5 then
  some ([((0:Int),((0:Int),()))],(([]:List Tp),()))
 else bif i.1==19 then
  some ([((1:Int),((0:Int),()))],(([]:List Tp),()))
 else bif i.1==20 then
  some ([((4:Int),((0:Int),()))],([((1:Int),((0:Int),()))],()))
 else bif i.1==21 then
  some ([((4:Int),((0:Int),())),((4:Int),((0:Int),()))],([((1:Int),((0:Int),()))],()))
 else bif i.1==22 then
  some (([]:List Tp),([((3:Int),i.2.1,())],()))
 else bif i.1==23 then
  some ([((1:Int),((0:Int),()))],([((2:Int),((0:Int),()))],()))
 else bif i.1==24 then
  some ([((2:Int),((0:Int),())),((1:Int),((0:Int),()))],([((1:Int),((0:Int),()))],()))
 else bif i.1==25 then
  some ([((2:Int),((0:Int),())),((1:Int),((0:Int),())),((1:Int),((0:Int),()))],(([]:List Tp),()))
 else bif i.1==26 then
  some ([((2:Int),((0:Int),()))],([((1:Int),((0:Int),()))],()))
 else bif i.1==27 then
  (iH m i.2.1).bind fun r3=>
  bif decide (0≤i.2.2.1)&&decide (i.2.2.1≤IntKind.i64.wrap (i.2.2.1+1))&&decide (IntKind.i64.wrap (i.2.2.1+1)≤(r3.1.length:Int)) then
   some ([((3:Int),i.2.1,())],(r3.1.take (IntKind.i64.wrap (i.2.2.1+1)).toNat).drop i.2.2.1.toNat,())
  else none
 else bif i.1==28 then
  (iH m i.2.1).bind fun r4=>
  bif decide (0≤i.2.2.1)&&decide (i.2.2.1<r4.1.length) then
   some ([((3:Int),i.2.1,()),r4.1.getD i.2.2.1.toNat zTp],(([]:List Tp),()))
  else none
 else bif i.1==29 then
  bif decide (0≤i.2.1)&&decide (i.2.1<m.2.1.length) then
   some (([]:List Tp),[m.2.1.getD i.2.1.toNat zTp],())
  else none
 else bif i.1==30 then
  bif decide (0≤i.2.1)&&decide (i.2.1<m.2.1.length) then
   some ([m.2.1.getD i.2.1.toNat zTp],(([]:List Tp),()))
  else none
 else bif i.1==34 then
  some ([((4:Int),((0:Int),()))],([((3:Int),i.2.1,())],()))
 else bif i.1==33 then
  bif decide (0≤f)&&decide (f<m.2.2.2.1.length) then
   (tY (m.2.2.2.1.getD f.toNat zMt)).bind fun r5=>
   some (r5.1,(([]:List Tp),()))
  else none
 else bif i.1==31 then
  bif decide (0≤i.2.1)&&decide (i.2.1<m.2.2.2.1.length) then
   bif decide (0≤i.2.1)&&decide (i.2.1<m.2.2.2.1.length) then
    (tY (m.2.2.2.1.getD i.2.1.toNat zMt)).bind fun r6=>
    some ((m.2.2.2.1.getD i.2.1.toNat zMt).1,r6.1,())
   else none
  else none
 else bif i.1==32 then
  let r7:=xS m i.2.1 i.2.2.1
  bif decide (0≤r7.1)&&decide (r7.1<m.2.2.2.1.length) then
   bif decide ((1:Int)≤((m.2.2.2.1.getD r7.1.toNat zMt).1.length:Int))&&decide (((m.2.2.2.1.getD r7.1.toNat zMt).1.length:Int)≤((m.2.2.2.1.getD r7.1.toNat zMt).1.length:Int)) then
    bif decide ([((3:Int),i.2.1,())].length+(((m.2.2.2.1.getD r7.1.toNat zMt).1.take ((m.2.2.2.1.getD r7.1.toNat zMt).1.length:Int).toNat).drop 1).length<rowMax) then
     bif decide (0≤r7.1)&&decide (r7.1<m.2.2.2.1.length) then
      (tY (m.2.2.2.1.getD r7.1.toNat zMt)).bind fun r8=>
      some ([((3:Int),i.2.1,())]++(((m.2.2.2.1.getD r7.1.toNat zMt).1.take ((m.2.2.2.1.getD r7.1.toNat zMt).1.length:Int).toNat).drop 1),r8.1,())
     else none
    else none
   else none
  else none
 else bif decide (i.1≥7) then
  bif decide (i.1≤17) then
   some ([((1:Int),((0:Int),())),((1:Int),((0:Int),()))],([((1:Int),((0:Int),()))],()))
  else some (([]:List Tp),(([]:List Tp),()))
 else some (([]:List Tp),(([]:List Tp),()))
def xN (m:Im) (f:Int) (pc:Int) (s:List Tp) (s5:List Int×Unit) (s10:List Tp×List Tp×Unit) (s16:Int×Unit) (rec17:(Int×Unit)→Option (List Tp×List Int×Int×Unit)):Option (List Tp×List Int×Int×Unit):=
 bif decide (s16.1<(s10.1.length:Int)) then
  bif decide (0≤IntKind.i64.wrap ((IntKind.i64.wrap ((s.length:Int) - (s10.1.length:Int)))+s16.1))&&decide (IntKind.i64.wrap ((IntKind.i64.wrap ((s.length:Int) - (s10.1.length:Int)))+s16.1)<s.length) then
   bif decide (0≤s16.1)&&decide (s16.1<s10.1.length) then
    bif ((s10.1.getD s16.1.toNat zTp).1)==0 then
     rec17 (IntKind.i64.wrap (s16.1+1),())
    else bif ((s10.1.getD s16.1.toNat zTp).1)==4 then
     bif !(rI (s.getD (IntKind.i64.wrap ((IntKind.i64.wrap ((s.length:Int) - (s10.1.length:Int)))+s16.1)).toNat zTp)) then
      some (([]:List Tp),(([]:List Int),((4:Int),())))
     else bif (((m.2.2.2.1.getD f.toNat zMt).2.2.2.1.getD pc.toNat cR).1)==34 then
      bif ((s.getD (IntKind.i64.wrap ((IntKind.i64.wrap ((s.length:Int) - (s10.1.length:Int)))+s16.1)).toNat zTp).1)==2 then
       some (([]:List Tp),(([]:List Int),((4:Int),())))
      else rec17 (IntKind.i64.wrap (s16.1+1),())
     else rec17 (IntKind.i64.wrap (s16.1+1),())
    else
     (lH m.1 (s.getD (IntKind.i64.wrap ((IntKind.i64.wrap ((s.length:Int) - (s10.1.length:Int)))+s16.1)).toNat zTp) (s10.1.getD s16.1.toNat zTp)).bind fun r18=>
     bif !r18.1 then
      some (([]:List Tp),(([]:List Int),((4:Int),())))
     else rec17 (IntKind.i64.wrap (s16.1+1),())
   else none
  else none
 else bif decide ((0:Int)≤IntKind.i64.wrap ((s.length:Int) - (s10.1.length:Int)))&&decide (IntKind.i64.wrap ((s.length:Int) - (s10.1.length:Int))≤(s.length:Int)) then
  bif decide (([]:List Tp).length+((s.take (IntKind.i64.wrap ((s.length:Int) - (s10.1.length:Int))).toNat).drop 0).length<rowMax) then
   bif decide ((([]:List Tp)++((s.take (IntKind.i64.wrap ((s.length:Int) - (s10.1.length:Int))).toNat).drop 0)).length+s10.2.1.length<rowMax) then
    some ((([]:List Tp)++((s.take (IntKind.i64.wrap ((s.length:Int) - (s10.1.length:Int))).toNat).drop 0))++s10.2.1,s5.1,((0:Int),()))
   else none
  else none
 else none
def tW (fuel:Nat) (m:Im) (f:Int) (pc:Int) (s:List Tp):Option (List Tp×List Int×Int×Unit):=
 bif decide (f<0) then
  some (([]:List Tp),(([]:List Int),((1:Int),())))
 else bif decide (f≥(m.2.2.2.1.length:Int)) then
  some (([]:List Tp),(([]:List Int),((1:Int),())))
 else bif decide (pc<0) then
  some (([]:List Tp),(([]:List Int),((1:Int),())))
 else bif decide (0≤f)&&decide (f<m.2.2.2.1.length) then
  bif decide (pc≥((m.2.2.2.1.getD f.toNat zMt).2.2.2.1.length:Int)) then
   some (([]:List Tp),(([]:List Int),((1:Int),())))
  else bif decide (0≤f)&&decide (f<m.2.2.2.1.length) then
   bif decide (0≤pc)&&decide (pc<(m.2.2.2.1.getD f.toNat zMt).2.2.2.1.length) then
    (bif (((m.2.2.2.1.getD f.toNat zMt).2.2.2.1.getD pc.toNat cR).1)==18 then
     some (.inl ([((m.2.2.2.1.getD f.toNat zMt).2.2.2.1.getD pc.toNat cR).2.1],()))
    else some (.inl ([IntKind.i64.wrap (pc+1)],())):Option ((List Int×Unit)⊕(List Tp×List Int×Int×Unit))).bind fun q=>match q with
    | .inr r2=>some r2
    | .inl s1=>
     (bif (((m.2.2.2.1.getD f.toNat zMt).2.2.2.1.getD pc.toNat cR).1)==19 then
      bif decide (s1.1.length+[((m.2.2.2.1.getD f.toNat zMt).2.2.2.1.getD pc.toNat cR).2.1].length<rowMax) then
       some (.inl (s1.1++[((m.2.2.2.1.getD f.toNat zMt).2.2.2.1.getD pc.toNat cR).2.1],()))
      else none
     else some (.inl (s1.1,())):Option ((List Int×Unit)⊕(List Tp×List Int×Int×Unit))).bind fun q=>match q with
     | .inr r4=>some r4
     | .inl s3=>
      (bif (((m.2.2.2.1.getD f.toNat zMt).2.2.2.1.getD pc.toNat cR).1)==33 then
       some (.inl (([]:List Int),()))
      else some (.inl (s3.1,())):Option ((List Int×Unit)⊕(List Tp×List Int×Int×Unit))).bind fun q=>match q with
      | .inr r6=>some r6
      | .inl s5=>
       (bif decide ((s5.1.length:Int)>0) then
        bif decide ((0:Int)<s5.1.length) then
         bif decide (0≤f)&&decide (f<m.2.2.2.1.length) then
          bif decide (s5.1.getD 0 0≥((m.2.2.2.1.getD f.toNat zMt).2.2.2.1.length:Int)) then
           some (.inr (([]:List Tp),(([]:List Int),((4:Int),()))))
          else some (.inl ())
         else none
        else none
       else some (.inl ()):Option (Unit⊕(List Tp×List Int×Int×Unit))).bind fun q=>match q with
       | .inr r8=>some r8
       | .inl _=>
        (xR m f ((m.2.2.2.1.getD f.toNat zMt).2.2.2.1.getD pc.toNat cR)).bind fun r9=>
        ((bif (((m.2.2.2.1.getD f.toNat zMt).2.2.2.1.getD pc.toNat cR).1)==6 then
         some (.inl (decide ((s.length:Int)>0),()))
        else some (.inl (false,())):Option ((Bool×Unit)⊕((List Tp×List Tp×Unit)⊕(List Tp×List Int×Int×Unit)))).bind fun q=>match q with
        | .inr r13=>some r13
        | .inl s12=>
         bif s12.1 then
          bif decide (0≤IntKind.i64.wrap ((s.length:Int) - 1))&&decide (IntKind.i64.wrap ((s.length:Int) - 1)<s.length) then
           some (.inl ([((0:Int),((0:Int),()))],([s.getD (IntKind.i64.wrap ((s.length:Int) - 1)).toNat zTp,s.getD (IntKind.i64.wrap ((s.length:Int) - 1)).toNat zTp],())))
          else none
         else some (.inl (r9.1,r9.2.1,())):Option ((List Tp×List Tp×Unit)⊕(List Tp×List Int×Int×Unit))).bind fun q=>match q with
        | .inr r11=>some r11
        | .inl s10=>
         (bif (((m.2.2.2.1.getD f.toNat zMt).2.2.2.1.getD pc.toNat cR).1)==6 then
          bif (s.length:Int)==0 then
           some (.inr (([]:List Tp),(([]:List Int),((4:Int),()))))
          else bif decide ((s10.1.length:Int)>(s.length:Int)) then
           some (.inr (([]:List Tp),(([]:List Int),((4:Int),()))))
          else bif decide (IntKind.i64.wrap ((IntKind.i64.wrap ((s.length:Int) - (s10.1.length:Int)))+(s10.2.1.length:Int))>8) then
           some (.inr (([]:List Tp),(([]:List Int),((4:Int),()))))
          else some (.inl ())
         else bif decide ((s10.1.length:Int)>(s.length:Int)) then
          some (.inr (([]:List Tp),(([]:List Int),((4:Int),()))))
         else bif decide (IntKind.i64.wrap ((IntKind.i64.wrap ((s.length:Int) - (s10.1.length:Int)))+(s10.2.1.length:Int))>8) then
          some (.inr (([]:List Tp),(([]:List Int),((4:Int),()))))
         else some (.inl ()):Option (Unit⊕(List Tp×List Int×Int×Unit))).bind fun q=>match q with
         | .inr r15=>some r15
         | .inl _=>
          aE (xN m f pc s s5 s10) fuel ((0:Int),())
   else none
  else none
 else none
def xQ (m:Im) (s6:Bool×Int×List Sh×Unit) (rec7:(Bool×Int×List Sh×Unit)→Option (List Sh×Bool×Unit)) (r5:List Tp×List Int×Int×Unit) (s8:List Tp×Int×Unit) (rec9:(List Tp×Int×Unit)→Option (List Sh×Bool×Unit)):Option (List Sh×Bool×Unit):=
 bif decide (s8.2.1<(r5.1.length:Int)) then
  bif decide (0≤r5.2.1.getD s6.2.1.toNat 0)&&decide (r5.2.1.getD s6.2.1.toNat 0<s6.2.2.1.length) then
   bif decide (0≤s8.2.1)&&decide (s8.2.1<(s6.2.2.1.getD (r5.2.1.getD s6.2.1.toNat 0).toNat zSh).2.1.length) then
    bif decide (0≤s8.2.1)&&decide (s8.2.1<r5.1.length) then
     (tS m.1 ((s6.2.2.1.getD (r5.2.1.getD s6.2.1.toNat 0).toNat zSh).2.1.getD s8.2.1.toNat zTp) (r5.1.getD s8.2.1.toNat zTp)).bind fun r10=>
     bif r10.1.1==0 then
      some (([]:List Sh),false,())
     else bif decide (s8.1.length+[r10.1].length<rowMax) then
      rec9 (s8.1++[r10.1],IntKind.i64.wrap (s8.2.1+1),())
     else none
    else none
   else none
  else none
 else bif decide (0≤r5.2.1.getD s6.2.1.toNat 0)&&decide (r5.2.1.getD s6.2.1.toNat 0<s6.2.2.1.length) then
  bif !(tP s8.1 (s6.2.2.1.getD (r5.2.1.getD s6.2.1.toNat 0).toNat zSh).2.1) then
   bif decide (0≤r5.2.1.getD s6.2.1.toNat 0)&&decide (r5.2.1.getD s6.2.1.toNat 0<s6.2.2.1.length) then
    rec7 (true,IntKind.i64.wrap (s6.2.1+1),s6.2.2.1.set (r5.2.1.getD s6.2.1.toNat 0).toNat (true,s8.1,()),())
   else none
  else rec7 (s6.1,IntKind.i64.wrap (s6.2.1+1),s6.2.2.1,())
 else none
def xP (m:Im) (fuel:Nat) (s3:Bool×Int×List Sh×Unit) (rec4:(Bool×Int×List Sh×Unit)→Option (List Sh×Bool×Unit)) (r5:List Tp×List Int×Int×Unit) (s6:Bool×Int×List Sh×Unit) (rec7:(Bool×Int×List Sh×Unit)→Option (List Sh×Bool×Unit)):Option (List Sh×Bool×Unit):=
 bif decide (s6.2.1<(r5.2.1.length:Int)) then
  bif decide (0≤s6.2.1)&&decide (s6.2.1<r5.2.1.length) then
   bif decide (0≤r5.2.1.getD s6.2.1.toNat 0)&&decide (r5.2.1.getD s6.2.1.toNat 0<s6.2.2.1.length) then
    bif !(s6.2.2.1.getD (r5.2.1.getD s6.2.1.toNat 0).toNat zSh).1 then
     bif decide (0≤r5.2.1.getD s6.2.1.toNat 0)&&decide (r5.2.1.getD s6.2.1.toNat 0<s6.2.2.1.length) then
      rec7 (true,IntKind.i64.wrap (s6.2.1+1),s6.2.2.1.set (r5.2.1.getD s6.2.1.toNat 0).toNat (true,r5.1,()),())
     else none
    else bif decide (0≤r5.2.1.getD s6.2.1.toNat 0)&&decide (r5.2.1.getD s6.2.1.toNat 0<s6.2.2.1.length) then
     bif ((s6.2.2.1.getD (r5.2.1.getD s6.2.1.toNat 0).toNat zSh).2.1.length:Int) !=(r5.1.length:Int) then
      some (([]:List Sh),false,())
     else aE (xQ m s6 rec7 r5) fuel (([]:List Tp),((0:Int),()))
    else none
   else none
  else none
 else rec4 (s6.1,IntKind.i64.wrap (s3.2.1 - 1),s6.2.2.1,())
def xO (m:Im) (f:Int) (fuel:Nat) (s1:Int×List Sh×Unit) (rec2:(Int×List Sh×Unit)→Option (List Sh×Bool×Unit)) (s3:Bool×Int×List Sh×Unit) (rec4:(Bool×Int×List Sh×Unit)→Option (List Sh×Bool×Unit)):Option (List Sh×Bool×Unit):=
 bif decide (s3.2.1≥0) then
  bif decide (0≤s3.2.1)&&decide (s3.2.1<s3.2.2.1.length) then
   bif !(s3.2.2.1.getD s3.2.1.toNat zSh).1 then
    rec4 (s3.1,IntKind.i64.wrap (s3.2.1 - 1),s3.2.2.1,())
   else bif decide (0≤s3.2.1)&&decide (s3.2.1<s3.2.2.1.length) then
    (nZ m f s3.2.1 (s3.2.2.1.getD s3.2.1.toNat zSh).2.1).bind fun r5=>
    bif r5.2.2.1 !=0 then
     some (([]:List Sh),false,())
    else aE (xP m fuel s3 rec4 r5) fuel (s3.1,((0:Int),s3.2.2.1,()))
   else none
  else none
 else bif !s3.1 then
  some (s3.2.2.1,true,())
 else rec2 (IntKind.i64.wrap (s1.1+1),s3.2.2.1,())
def aAl (m:Im) (f:Int) (fuel:Nat) (s1:Int×List Sh×Unit) (rec2:(Int×List Sh×Unit)→Option (List Sh×Bool×Unit)):Option (List Sh×Bool×Unit):=
 bif decide (s1.1<4000) then
  aE (xO m f fuel s1 rec2) fuel (false,(IntKind.i64.wrap (((m.2.2.2.1.getD f.toNat zMt).2.2.2.1.length:Int) - 1),s1.2.1,()))
 else some (([]:List Sh),false,())
def aFJ (fuel:Nat) (m:Im) (f:Int):Option (List Sh×Bool×Unit):=
 bif decide (0≤f)&&decide (f<m.2.2.2.1.length) then
  bif decide (0≤((m.2.2.2.1.getD f.toNat zMt).2.2.2.1.length:Int))&&decide (((m.2.2.2.1.getD f.toNat zMt).2.2.2.1.length:Int)≤((m.2.2.2.1.getD f.toNat zMt).2.2.2.1.length:Int))&&decide (((m.2.2.2.1.getD f.toNat zMt).2.2.2.1.length:Int)<(rowMax:Int)) then
   bif ((m.2.2.2.1.getD f.toNat zMt).2.2.2.1.length:Int)==0 then
    some (([]:List Sh),false,())
   else bif decide ((0:Int)<(List.replicate ((m.2.2.2.1.getD f.toNat zMt).2.2.2.1.length:Int).toNat zSh).length) then
    aE (aAl m f fuel) fuel ((0:Int),((List.replicate ((m.2.2.2.1.getD f.toNat zMt).2.2.2.1.length:Int).toNat zSh).set 0 (true,((List.replicate ((m.2.2.2.1.getD f.toNat zMt).2.2.2.1.length:Int).toNat zSh).getD 0 zSh).2),()))
   else none
  else none
 else none
def aAm (m:Im) (s1:List (List Sh)×Int×Unit) (rec2:(List (List Sh)×Int×Unit)→Option (List (List Sh)×Int×Unit)):Option (List (List Sh)×Int×Unit):=
 bif decide (s1.2.1<(m.2.2.2.1.length:Int)) then
  (tX m s1.2.1).bind fun r3=>
  bif !r3.2.1 then
   some (([]:List (List Sh)),s1.2.1,())
  else bif decide (s1.1.length+[r3.1].length<rowMax) then
   rec2 (s1.1++[r3.1],IntKind.i64.wrap (s1.2.1+1),())
  else none
 else some (s1.1,((-1:Int),()))
def aFL (fuel:Nat) (m:Im):Option (List (List Sh)×Int×Unit):=
 aE (aAm m) fuel (([]:List (List Sh)),((0:Int),()))
end
end Go.Pli

namespace Go.Pli
open Go Go.PM
noncomputable section
def aI0 (s:List Mt):Option (List Mt×Unit):=
 bif decide ((s.length:Int)=(s.length:Int))&&decide ((s.length:Int)=(s.length:Int))&&true then
  some (s,())
 else none
def aA5 (m:Im) (s4:Int×(List Cl×List Tp×List Int×Unit×List Int×Int×Int×Unit)×Unit) (s8:Int×List Mt×Unit) (rec9:(Int×List Mt×Unit)→Option (Im×Unit)):Option (Im×Unit):=
 bif decide (s8.1<(m.2.2.2.1.length:Int)) then
  bif decide (0≤s8.1)&&decide (s8.1<m.2.2.2.1.length) then
   (sT (m.2.2.2.1.getD s8.1.toNat zMt).1).bind fun r10=>
   (sT (m.2.2.2.1.getD s8.1.toNat zMt).2.1).bind fun r11=>
   (aBF (m.2.2.2.1.getD s8.1.toNat zMt).2.2.2.1).bind fun r12=>
   (wD (m.2.2.2.1.getD s8.1.toNat zMt).2.2.2.2.2.2.1).bind fun r13=>
   bif decide (s8.2.1.length+[(r10.1,r11.1,(m.2.2.2.1.getD s8.1.toNat zMt).2.2.1,r12.1,(m.2.2.2.1.getD s8.1.toNat zMt).2.2.2.2.1,(m.2.2.2.1.getD s8.1.toNat zMt).2.2.2.2.2.1,r13.1,())].length<rowMax)&&true then
    rec9 (IntKind.i64.wrap (s8.1+1),s8.2.1++[(r10.1,r11.1,(m.2.2.2.1.getD s8.1.toNat zMt).2.2.1,r12.1,(m.2.2.2.1.getD s8.1.toNat zMt).2.2.2.2.1,(m.2.2.2.1.getD s8.1.toNat zMt).2.2.2.2.2.1,r13.1,())],())
   else none
  else none
 else some (((idL s4.2.1.1),s4.2.1.2.1,s4.2.1.2.2.1,(idL s8.2.1),s4.2.1.2.2.2.2),())
def aA4 (m:Im) (fuel:Nat) (s4:Int×(List Cl×List Tp×List Int×Unit×List Int×Int×Int×Unit)×Unit) (rec5:(Int×(List Cl×List Tp×List Int×Unit×List Int×Int×Int×Unit)×Unit)→Option (Im×Unit)):Option (Im×Unit):=
 bif decide (s4.1<(m.1.length:Int)) then
  bif decide (0≤s4.1)&&decide (s4.1<m.1.length) then
   (sT (m.1.getD s4.1.toNat zCl).2.1).bind fun r6=>
   (wD (m.1.getD s4.1.toNat zCl).2.2.1).bind fun r7=>
   bif decide (s4.2.1.1.length+[((m.1.getD s4.1.toNat zCl).1,r6.1,r7.1,())].length<rowMax) then
    rec5 (IntKind.i64.wrap (s4.1+1),(s4.2.1.1++[((m.1.getD s4.1.toNat zCl).1,r6.1,r7.1,())],s4.2.1.2),())
   else none
  else none
 else aE (aA5 m s4) fuel ((0:Int),(([]:List Mt),()))
def aHC (fuel:Nat) (m:Im):Option (Im×Unit):=
 (sT m.2.1).bind fun r1=>
 (aBH m.2.2.1).bind fun r2=>
 (wD m.2.2.2.2.1).bind fun r3=>
 aE (aA4 m fuel) fuel ((0:Int),((([]:List Cl),r1.1,r2.1,(),r3.1,m.2.2.2.2.2),()))
def aBn (m:Im) (f:Int) (s1:List Int×Int×Unit) (rec2:(List Int×Int×Unit)→Option (List Int×Unit)):Option (List Int×Unit):=
 bif decide (s1.2.1<((m.2.2.2.1.getD f.toNat zMt).2.2.2.1.length:Int)) then
  bif decide (0≤s1.2.1)&&decide (s1.2.1<(m.2.2.2.1.getD f.toNat zMt).2.2.2.1.length) then
   (oT m ((m.2.2.2.1.getD f.toNat zMt).2.2.2.1.getD s1.2.1.toNat cR)).bind fun r3=>
   bif decide (s1.1.length+r3.1.length<rowMax)&&true then
    rec2 (s1.1++r3.1,IntKind.i64.wrap (s1.2.1+1),())
   else none
  else none
 else
  let r4:=xA s1.1
  some ((idL (dP r4.1)),())
def aIV (fuel:Nat) (m:Im) (f:Int):Option (List Int×Unit):=
 bif decide (f<0) then
  some (([]:List Int),())
 else bif decide (f≥(m.2.2.2.1.length:Int)) then
  some (([]:List Int),())
 else bif decide (0≤f)&&decide (f<m.2.2.2.1.length) then
  aE (aBn m f) fuel (([]:List Int),((0:Int),()))
 else none
def aAU (l:List Int) (s1:Int×Int×Unit) (rec2:(Int×Int×Unit)→Option (Int×Unit)):Option (Int×Unit):=
 bif decide (s1.2.1<(l.length:Int)) then
  bif decide (0≤s1.2.1)&&decide (s1.2.1<l.length) then
   rec2 (max s1.1 (l.getD s1.2.1.toNat 0),IntKind.i64.wrap (s1.2.1+1),())
  else none
 else some (s1.1,())
def aG3 (fuel:Nat) (l:List Int):Option (Int×Unit):=
 bif decide ((l.length:Int)<1) then
  none
 else bif decide ((0:Int)<l.length) then
  aE (aAU l) fuel (l.getD 0 0,((1:Int),()))
 else none
def aAD (m:Im) (f:Int) (s3:Bool×Int×List Int×Unit) (rec4:(Bool×Int×List Int×Unit)→Option (List Int×Bool×Unit)) (r6:List Tp×List Int×Int×Unit) (s7:Bool×Int×List Int×Unit) (rec8:(Bool×Int×List Int×Unit)→Option (List Int×Bool×Unit)):Option (List Int×Bool×Unit):=
 bif decide (s7.2.1<(r6.2.1.length:Int)) then
  bif decide (0≤s7.2.1)&&decide (s7.2.1<r6.2.1.length) then
   (jT m ((m.2.2.2.1.getD f.toNat zMt).2.2.2.1.getD s3.2.1.toNat cR)).bind fun r9=>
   bif decide (0≤r6.2.1.getD s7.2.1.toNat 0)&&decide (r6.2.1.getD s7.2.1.toNat 0<s7.2.2.1.length) then
    bif decide (0≤s3.2.1)&&decide (s3.2.1<s7.2.2.1.length) then
     bif decide (IntKind.i64.wrap (r9.1+(s7.2.2.1.getD (r6.2.1.getD s7.2.1.toNat 0).toNat 0))>s7.2.2.1.getD s3.2.1.toNat 0) then
      bif decide (0≤s3.2.1)&&decide (s3.2.1<s7.2.2.1.length) then
       rec8 (true,IntKind.i64.wrap (s7.2.1+1),s7.2.2.1.set s3.2.1.toNat (IntKind.i64.wrap (r9.1+(s7.2.2.1.getD (r6.2.1.getD s7.2.1.toNat 0).toNat 0))),())
      else none
     else rec8 (s7.1,IntKind.i64.wrap (s7.2.1+1),s7.2.2.1,())
    else none
   else none
  else none
 else rec4 (s7.1,IntKind.i64.wrap (s3.2.1+1),s7.2.2.1,())
def yB (m:Im) (l:List (List Sh)) (f:Int) (fuel:Nat) (s1:Int×List Int×Unit) (rec2:(Int×List Int×Unit)→Option (List Int×Bool×Unit)) (s3:Bool×Int×List Int×Unit) (rec4:(Bool×Int×List Int×Unit)→Option (List Int×Bool×Unit)):Option (List Int×Bool×Unit):=
 bif decide (s3.2.1<((m.2.2.2.1.getD f.toNat zMt).2.2.2.1.length:Int)) then
  bif decide (0≤s3.2.1)&&decide (s3.2.1<(m.2.2.2.1.getD f.toNat zMt).2.2.2.1.length) then
   (oB l f s3.2.1).bind fun r5=>
   bif !r5.1.1 then
    rec4 (s3.1,IntKind.i64.wrap (s3.2.1+1),s3.2.2.1,())
   else
    (oP m f s3.2.1 r5.1.2.1).bind fun r6=>
    aE (aAD m f s3 rec4 r6) fuel (s3.1,((0:Int),s3.2.2.1,()))
  else none
 else bif !s3.1 then
  bif decide (s3.2.2.1.length+([0]:List Int).length<rowMax)&&true then
   (uV (s3.2.2.1++([0]:List Int))).bind fun r10=>
   some (s3.2.2.1,decide (r10.1≤4096),())
  else none
 else rec2 (IntKind.i64.wrap (s1.1+1),s3.2.2.1,())
def yA (m:Im) (l:List (List Sh)) (f:Int) (fuel:Nat) (s1:Int×List Int×Unit) (rec2:(Int×List Int×Unit)→Option (List Int×Bool×Unit)):Option (List Int×Bool×Unit):=
 bif decide (s1.1<IntKind.i64.wrap (((m.2.2.2.1.getD f.toNat zMt).2.2.2.1.length:Int)+1)) then
  aE (yB m l f fuel s1 rec2) fuel (false,((0:Int),s1.2.1,()))
 else some (([]:List Int),false,())
def aGg (fuel:Nat) (m:Im) (l:List (List Sh)) (f:Int):Option (List Int×Bool×Unit):=
 bif decide (0≤f)&&decide (f<m.2.2.2.1.length) then
  bif decide (0≤((m.2.2.2.1.getD f.toNat zMt).2.2.2.1.length:Int))&&decide (((m.2.2.2.1.getD f.toNat zMt).2.2.2.1.length:Int)≤((m.2.2.2.1.getD f.toNat zMt).2.2.2.1.length:Int))&&decide (((m.2.2.2.1.getD f.toNat zMt).2.2.2.1.length:Int)<(rowMax:Int)) then
   aE (yA m l f fuel) fuel ((0:Int),(List.replicate ((m.2.2.2.1.getD f.toNat zMt).2.2.2.1.length:Int).toNat (0:Int),()))
  else none
 else none
def uK (s2:List (List Int)×Int×List Mt×Unit) (r5:List (List Int)×Unit) (s6:Int×List Mt×Unit) (rec7:(Int×List Mt×Unit)→Option (Im×Bool×Unit)) (s11:Int×List Mt×Unit) (rec12:(Int×List Mt×Unit)→Option (Im×Bool×Unit)):Option (Im×Bool×Unit):=
 bif decide (s11.1<((r5.1.getD s6.1.toNat ([]:List Int)).length:Int)) then
  bif decide (0≤s11.1)&&decide (s11.1<(r5.1.getD s6.1.toNat ([]:List Int)).length) then
   (bif decide (0≤(r5.1.getD s6.1.toNat ([]:List Int)).getD s11.1.toNat 0)&&decide ((r5.1.getD s6.1.toNat ([]:List Int)).getD s11.1.toNat 0<s11.2.1.length) then
    bif decide (((s11.2.1.getD ((r5.1.getD s6.1.toNat ([]:List Int)).getD s11.1.toNat 0).toNat zMt).2.2.2.2.2.2.1.length:Int)>0) then
     bif decide ((0:Int)<(s11.2.1.getD ((r5.1.getD s6.1.toNat ([]:List Int)).getD s11.1.toNat 0).toNat zMt).2.2.2.2.2.2.1.length) then
      bif decide (0≤(r5.1.getD s6.1.toNat ([]:List Int)).getD s11.1.toNat 0)&&decide ((r5.1.getD s6.1.toNat ([]:List Int)).getD s11.1.toNat 0<s11.2.1.length) then
       some (.inl (s11.2.1.set ((r5.1.getD s6.1.toNat ([]:List Int)).getD s11.1.toNat 0).toNat ((s11.2.1.getD ((r5.1.getD s6.1.toNat ([]:List Int)).getD s11.1.toNat 0).toNat zMt).1,((s11.2.1.getD ((r5.1.getD s6.1.toNat ([]:List Int)).getD s11.1.toNat 0).toNat zMt).2.1,((s11.2.1.getD ((r5.1.getD s6.1.toNat ([]:List Int)).getD s11.1.toNat 0).toNat zMt).2.2.1,((s11.2.1.getD ((r5.1.getD s6.1.toNat ([]:List Int)).getD s11.1.toNat 0).toNat zMt).2.2.2.1,((s11.2.1.getD ((r5.1.getD s6.1.toNat ([]:List Int)).getD s11.1.toNat 0).toNat zMt).2.2.2.2.1,((s11.2.1.getD ((r5.1.getD s6.1.toNat ([]:List Int)).getD s11.1.toNat 0).toNat zMt).2.2.2.2.2.2.1.getD 0 0,(s11.2.1.getD ((r5.1.getD s6.1.toNat ([]:List Int)).getD s11.1.toNat 0).toNat zMt).2.2.2.2.2.2)))))),()))
      else none
     else none
    else some (.inl (s11.2.1,()))
   else none:Option ((List Mt×Unit)⊕(Im×Bool×Unit))).bind fun q=>match q with
   | .inr r14=>some r14
   | .inl s13=>
    bif decide (0≤(r5.1.getD s6.1.toNat ([]:List Int)).getD s11.1.toNat 0)&&decide ((r5.1.getD s6.1.toNat ([]:List Int)).getD s11.1.toNat 0<s13.1.length) then
     bif decide ((s13.1.getD ((r5.1.getD s6.1.toNat ([]:List Int)).getD s11.1.toNat 0).toNat zMt).2.2.2.2.2.1>0) then
      (sO s2.1 (r5.1.getD s6.1.toNat ([]:List Int))).bind fun r15=>
      bif r15.1 then
       some ((([]:List Cl),(([]:List Tp),(([]:List Int),(([]:List Mt),(([]:List Int),((0:Int),((0:Int),()))))))),false,())
      else rec12 (IntKind.i64.wrap (s11.1+1),s13.1,())
     else rec12 (IntKind.i64.wrap (s11.1+1),s13.1,())
    else none
  else none
 else rec7 (IntKind.i64.wrap (s6.1+1),s11.2.1,())
def aAH (l:List (List Sh)) (fuel:Nat) (r1:Im×Unit) (s2:List (List Int)×Int×List Mt×Unit) (r5:List (List Int)×Unit) (s6:Int×List Mt×Unit) (rec7:(Int×List Mt×Unit)→Option (Im×Bool×Unit)) (s8:Int×List Mt×Unit) (rec9:(Int×List Mt×Unit)→Option (Im×Bool×Unit)):Option (Im×Bool×Unit):=
 bif decide (s8.1<((r5.1.getD s6.1.toNat ([]:List Int)).length:Int)) then
  bif decide (0≤s8.1)&&decide (s8.1<(r5.1.getD s6.1.toNat ([]:List Int)).length) then
   (rQ (r1.1.1,r1.1.2.1,r1.1.2.2.1,s8.2.1,r1.1.2.2.2.2) l ((r5.1.getD s6.1.toNat ([]:List Int)).getD s8.1.toNat 0)).bind fun r10=>
   bif !r10.2.1 then
    some ((([]:List Cl),(([]:List Tp),(([]:List Int),(([]:List Mt),(([]:List Int),((0:Int),((0:Int),()))))))),false,())
   else bif decide (0≤(r5.1.getD s6.1.toNat ([]:List Int)).getD s8.1.toNat 0)&&decide ((r5.1.getD s6.1.toNat ([]:List Int)).getD s8.1.toNat 0<s8.2.1.length) then
    rec9 (IntKind.i64.wrap (s8.1+1),(s8.2.1.set ((r5.1.getD s6.1.toNat ([]:List Int)).getD s8.1.toNat 0).toNat ((s8.2.1.getD ((r5.1.getD s6.1.toNat ([]:List Int)).getD s8.1.toNat 0).toNat zMt).1,((s8.2.1.getD ((r5.1.getD s6.1.toNat ([]:List Int)).getD s8.1.toNat 0).toNat zMt).2.1,((s8.2.1.getD ((r5.1.getD s6.1.toNat ([]:List Int)).getD s8.1.toNat 0).toNat zMt).2.2.1,((s8.2.1.getD ((r5.1.getD s6.1.toNat ([]:List Int)).getD s8.1.toNat 0).toNat zMt).2.2.2.1,((s8.2.1.getD ((r5.1.getD s6.1.toNat ([]:List Int)).getD s8.1.toNat 0).toNat zMt).2.2.2.2.1,((s8.2.1.getD ((r5.1.getD s6.1.toNat ([]:List Int)).getD s8.1.toNat 0).toNat zMt).2.2.2.2.2.1,r10.1,())))))),()))
   else none
  else none
 else aE (uK s2 r5 s6 rec7) fuel ((0:Int),s8.2.1,())
def yC (l:List (List Sh)) (fuel:Nat) (r1:Im×Unit) (s2:List (List Int)×Int×List Mt×Unit) (r5:List (List Int)×Unit) (s6:Int×List Mt×Unit) (rec7:(Int×List Mt×Unit)→Option (Im×Bool×Unit)):Option (Im×Bool×Unit):=
 bif decide (s6.1<(r5.1.length:Int)) then
  bif decide (0≤s6.1)&&decide (s6.1<r5.1.length) then
   aE (aAH l fuel r1 s2 r5 s6 rec7) fuel ((0:Int),s6.2.1,())
  else none
 else some ((r1.1.1,r1.1.2.1,r1.1.2.2.1,s6.2.1,r1.1.2.2.2.2),true,())
def aAG (l:List (List Sh)) (fuel:Nat) (r1:Im×Unit) (s2:List (List Int)×Int×List Mt×Unit) (rec3:(List (List Int)×Int×List Mt×Unit)→Option (Im×Bool×Unit)):Option (Im×Bool×Unit):=
 bif decide (s2.2.1<(r1.1.2.2.2.1.length:Int)) then
  (cof (r1.1.1,r1.1.2.1,r1.1.2.2.1,s2.2.2.1,r1.1.2.2.2.2) s2.2.1).bind fun r4=>
  bif decide (s2.1.length+[r4.1].length<rowMax) then
   bif decide (0≤s2.2.1)&&decide (s2.2.1<s2.2.2.1.length) then
    rec3 (s2.1++[r4.1],IntKind.i64.wrap (s2.2.1+1),s2.2.2.1.set s2.2.1.toNat ((s2.2.2.1.getD s2.2.1.toNat zMt).1,(s2.2.2.1.getD s2.2.1.toNat zMt).2.1,(s2.2.2.1.getD s2.2.1.toNat zMt).2.2.1,(s2.2.2.1.getD s2.2.1.toNat zMt).2.2.2.1,(s2.2.2.1.getD s2.2.1.toNat zMt).2.2.2.2.1,((0:Int),(s2.2.2.1.getD s2.2.1.toNat zMt).2.2.2.2.2.2)),())
   else none
  else none
 else
  (jR s2.1).bind fun r5=>
  aE (yC l fuel r1 s2 r5) fuel ((0:Int),s2.2.2.1,())
def aGi (fuel:Nat) (m:Im) (l:List (List Sh)):Option (Im×Bool×Unit):=
 (vI m).bind fun r1=>
 aE (aAG l fuel r1) fuel (([]:List (List Int)),((0:Int),r1.1.2.2.2.1,()))
def aF2 (p:Iq) (q:Iq):Option (Bool×Unit):=
 bif p.2.1==q.2.1 then
  some ((tT p.1 q.1),())
 else some (false,())
def aE7 (m:Im):Option (Bool×Unit):=
 bif decide ((m.2.2.2.1.length:Int)≤12) then
  bif decide ((m.1.length:Int)≤8) then
   bif decide ((m.2.2.1.length:Int)≤16) then
    some ((rM m)==0,())
   else some (false,())
  else some (false,())
 else some (false,())
def wQ (m:Im):Option (List (List Sh)×Bool×Unit):=
 bif !(tM m) then
  some (([]:List (List Sh)),false,())
 else
  (jS m).bind fun r1=>
  some (r1.1,decide (r1.2.1<0),())
def aFc (n:Int) (a:Int) (b:Int) (c:Int):Option (Iq×Unit):=
 bif decide (0≤n)&&decide (n≤n)&&decide (n<(rowMax:Int)) then
  bif decide (a≥0) then
   bif decide (0≤a)&&decide (a<(List.replicate n.toNat (0:Int)).length) then
    bif decide (0≤a)&&decide (a<(List.replicate n.toNat (0:Int)).length) then
     bif decide (b≥0) then
      bif decide (0≤b)&&decide (b<((List.replicate n.toNat (0:Int)).set a.toNat (IntKind.i64.wrap (((List.replicate n.toNat (0:Int)).getD a.toNat 0) - 1))).length) then
       bif decide (0≤b)&&decide (b<((List.replicate n.toNat (0:Int)).set a.toNat (IntKind.i64.wrap (((List.replicate n.toNat (0:Int)).getD a.toNat 0) - 1))).length) then
        some ((((List.replicate n.toNat (0:Int)).set a.toNat (IntKind.i64.wrap (((List.replicate n.toNat (0:Int)).getD a.toNat 0) - 1))).set b.toNat (IntKind.i64.wrap ((((List.replicate n.toNat (0:Int)).set a.toNat (IntKind.i64.wrap (((List.replicate n.toNat (0:Int)).getD a.toNat 0) - 1))).getD b.toNat 0)+1)),c,()),())
       else none
      else none
     else some (((List.replicate n.toNat (0:Int)).set a.toNat (IntKind.i64.wrap (((List.replicate n.toNat (0:Int)).getD a.toNat 0) - 1)),c,()),())
    else none
   else none
  else bif decide (b≥0) then
   bif decide (0≤b)&&decide (b<(List.replicate n.toNat (0:Int)).length) then
    bif decide (0≤b)&&decide (b<(List.replicate n.toNat (0:Int)).length) then
     some (((List.replicate n.toNat (0:Int)).set b.toNat (IntKind.i64.wrap (((List.replicate n.toNat (0:Int)).getD b.toNat 0)+1)),c,()),())
    else none
   else none
  else some ((List.replicate n.toNat (0:Int),c,()),())
 else none
def awake15N:Option (Bool×Unit):=
 (jS (([]:List Cl),(([]:List Tp),(([2]:List Int),([(([]:List Tp),(([]:List Tp),(((5:Int),((0:Int),())),([((1:Int),((0:Int),((0:Int),()))),((23:Int),((9:Int),((0:Int),()))),((5:Int),((0:Int),((0:Int),()))),((33:Int),((0:Int),((0:Int),())))],((0:Int),((0:Int),([0,0,0,0]:List Int),()))))))],(([]:List Int),((0:Int),((0:Int),())))))))).bind fun r1=>
 (oC (([]:List Cl),(([]:List Tp),(([2]:List Int),([(([]:List Tp),(([]:List Tp),(((5:Int),((0:Int),())),([((1:Int),((0:Int),((0:Int),()))),((23:Int),((9:Int),((0:Int),()))),((5:Int),((0:Int),((0:Int),()))),((33:Int),((0:Int),((0:Int),())))],((0:Int),((0:Int),([0,0,0,0]:List Int),()))))))],(([]:List Int),((0:Int),((0:Int),()))))))) r1.1).bind fun r2=>
 (rR (([]:List Cl),(([]:List Tp),(([2]:List Int),([(([]:List Tp),(([]:List Tp),(((5:Int),((0:Int),())),([((1:Int),((0:Int),((0:Int),()))),((23:Int),((9:Int),((0:Int),()))),((5:Int),((0:Int),((0:Int),()))),((33:Int),((0:Int),((0:Int),())))],((0:Int),((0:Int),([0,0,0,0]:List Int),()))))))],(([]:List Int),((0:Int),((0:Int),()))))))) r1.1).bind fun r3=>
 (oC r3.1 r1.1).bind fun r4=>
 bif decide (r1.2.1<0) then
  bif r2.2.1==6 then
   bif r3.2.1 then
    bif r4.2.1==0 then
     bif decide ((0:Int)<r3.1.2.2.2.1.length) then
      bif ((r3.1.2.2.2.1.getD 0 zMt).2.2.2.2.2.1)==10 then
       bif decide ((0:Int)<r3.1.2.2.2.1.length) then
        bif decide ((0:Int)<(r3.1.2.2.2.1.getD 0 zMt).2.2.2.2.2.2.1.length) then
         bif ((r3.1.2.2.2.1.getD 0 zMt).2.2.2.2.2.2.1.getD 0 0)==10 then
          bif decide ((0:Int)<r3.1.2.2.2.1.length) then
           bif decide ((2:Int)<(r3.1.2.2.2.1.getD 0 zMt).2.2.2.2.2.2.1.length) then
            bif ((r3.1.2.2.2.1.getD 0 zMt).2.2.2.2.2.2.1.getD 2 0)==0 then
             bif decide ((0:Int)<[(([]:List Tp),(([]:List Tp),(((5:Int),((0:Int),())),([((1:Int),((0:Int),((0:Int),()))),((23:Int),((9:Int),((0:Int),()))),((5:Int),((0:Int),((0:Int),()))),((33:Int),((0:Int),((0:Int),())))],((0:Int),((0:Int),([0,0,0,0]:List Int),()))))))].length) then
              bif decide ((1:Int)<([(([]:List Tp),(([]:List Tp),(((5:Int),((0:Int),())),([((1:Int),((0:Int),((0:Int),()))),((23:Int),((9:Int),((0:Int),()))),((5:Int),((0:Int),((0:Int),()))),((33:Int),((0:Int),((0:Int),())))],((0:Int),((0:Int),([0,0,0,0]:List Int),()))))))].getD 0 zMt).2.2.2.1.length) then
               (jT (([]:List Cl),(([]:List Tp),(([2]:List Int),([(([]:List Tp),(([]:List Tp),(((5:Int),((0:Int),())),([((1:Int),((0:Int),((0:Int),()))),((23:Int),((9:Int),((0:Int),()))),((5:Int),((0:Int),((0:Int),()))),((33:Int),((0:Int),((0:Int),())))],((0:Int),((0:Int),([0,0,0,0]:List Int),()))))))],(([]:List Int),((0:Int),((0:Int),()))))))) (([(([]:List Tp),(([]:List Tp),(((5:Int),((0:Int),())),([((1:Int),((0:Int),((0:Int),()))),((23:Int),((9:Int),((0:Int),()))),((5:Int),((0:Int),((0:Int),()))),((33:Int),((0:Int),((0:Int),())))],((0:Int),((0:Int),([0,0,0,0]:List Int),()))))))].getD 0 zMt).2.2.2.1.getD 1 cR)).bind fun r5=>
               bif r5.1==10 then
                (mP (([]:List Cl),(([]:List Tp),(([2]:List Int),([(([]:List Tp),(([]:List Tp),(((5:Int),((0:Int),())),([((1:Int),((0:Int),((0:Int),()))),((23:Int),((9:Int),((0:Int),()))),((5:Int),((0:Int),((0:Int),()))),((33:Int),((0:Int),((0:Int),())))],((0:Int),((0:Int),([0,0,0,0]:List Int),()))))))],(([]:List Int),((0:Int),((0:Int),()))))))) r1.1 (0:Int)).bind fun r6=>
                bif (r6.1.length:Int)==5 then
                 bif (rM (([]:List Cl),(([]:List Tp),(([2]:List Int),([(([]:List Tp),(([]:List Tp),(((5:Int),((0:Int),())),([((1:Int),((0:Int),((0:Int),()))),((23:Int),((9:Int),((0:Int),()))),((5:Int),((0:Int),((0:Int),()))),((33:Int),((0:Int),((0:Int),())))],((0:Int),((0:Int),([0,0,0,0]:List Int),()))))))],(([]:List Int),((0:Int),((0:Int),()))))))))==0 then
                  bif decide ((0:Int)<[(([]:List Tp),(([]:List Tp),(((5:Int),((0:Int),())),([((1:Int),((0:Int),((0:Int),()))),((23:Int),((9:Int),((0:Int),()))),((5:Int),((0:Int),((0:Int),()))),((33:Int),((0:Int),((0:Int),())))],((0:Int),((0:Int),([0,0,0,0]:List Int),()))))))].length) then
                   bif decide ((0:Int)<([(([]:List Tp),(([]:List Tp),(((5:Int),((0:Int),())),([((1:Int),((0:Int),((0:Int),()))),((23:Int),((9:Int),((0:Int),()))),((5:Int),((0:Int),((0:Int),()))),((33:Int),((0:Int),((0:Int),())))],((0:Int),((0:Int),([0,0,0,0]:List Int),()))))))].getD 0 zMt).2.2.2.1.length) then
                    (pR (([]:List Cl),(([]:List Tp),(([2]:List Int),([(([]:List Tp),(([]:List Tp),(((5:Int),((0:Int),())),([((1:Int),((0:Int),((0:Int),()))),((23:Int),((9:Int),((0:Int),()))),((5:Int),((0:Int),((0:Int),()))),((33:Int),((0:Int),((0:Int),())))],((0:Int),((0:Int),([0,0,0,0]:List Int),()))))))],(([]:List Int),((0:Int),((0:Int),()))))))) (([(([]:List Tp),(([]:List Tp),(((5:Int),((0:Int),())),([((1:Int),((0:Int),((0:Int),()))),((23:Int),((9:Int),((0:Int),()))),((5:Int),((0:Int),((0:Int),()))),((33:Int),((0:Int),((0:Int),())))],((0:Int),((0:Int),([0,0,0,0]:List Int),()))))))].getD 0 zMt).2.2.2.1.getD 0 cR)).bind fun r7=>
                    some (r7.1==0,())
                   else none
                  else none
                 else some (false,())
                else some (false,())
               else some (false,())
              else none
             else none
            else some (false,())
           else none
          else none
         else some (false,())
        else none
       else none
      else some (false,())
     else none
    else some (false,())
   else some (false,())
  else some (false,())
 else some (false,())
def xY (m:Im) (f:Int) (r9:List Tp×List Int×Int×Unit) (s7:List Iq×Int×Unit) (rec8:(List Iq×Int×Unit)→Option (Bool×Unit)) (s13:List Iq×Int×Unit) (rec14:(List Iq×Int×Unit)→Option (Bool×Unit)):Option (Bool×Unit):=
 bif decide (s13.2.1<(r9.2.1.length:Int)) then
  bif decide (0≤s13.2.1)&&decide (s13.2.1<r9.2.1.length) then
   bif decide (0≤s7.2.1)&&decide (s7.2.1<(m.2.2.2.1.getD f.toNat zMt).2.2.2.1.length) then
    (pR m ((m.2.2.2.1.getD f.toNat zMt).2.2.2.1.getD s7.2.1.toNat cR)).bind fun r15=>
    (pO ((m.2.2.2.1.getD f.toNat zMt).2.2.2.1.length:Int) s7.2.1 (r9.2.1.getD s13.2.1.toNat 0) (IntKind.i64.wrap (0 - r15.1))).bind fun r16=>
    bif decide (s13.1.length+[r16.1].length<rowMax) then
     rec14 (s13.1++[r16.1],IntKind.i64.wrap (s13.2.1+1),())
    else none
   else none
  else none
 else rec8 (s13.1,IntKind.i64.wrap (s7.2.1+1),())
def xX (r3:List Iq×Unit) (s7:List Iq×Int×Unit) (s17:Int×Unit) (rec18:(Int×Unit)→Option (Bool×Unit)):Option (Bool×Unit):=
 bif decide (s17.1<(r3.1.length:Int)) then
  bif decide (0≤s17.1)&&decide (s17.1<r3.1.length) then
   bif decide (0≤s17.1)&&decide (s17.1<s7.1.length) then
    (uF (r3.1.getD s17.1.toNat zIq) (s7.1.getD s17.1.toNat zIq)).bind fun r19=>
    bif !r19.1 then
     some (false,())
    else rec18 (IntKind.i64.wrap (s17.1+1),())
   else none
  else none
 else
  awake15N.bind fun r20=>
  some (r20.1,())
def aAB (m:Im) (f:Int) (fuel:Nat) (r1:List (List Sh)×Bool×Unit) (r3:List Iq×Unit) (s7:List Iq×Int×Unit) (rec8:(List Iq×Int×Unit)→Option (Bool×Unit)):Option (Bool×Unit):=
 bif decide (s7.2.1<((m.2.2.2.1.getD f.toNat zMt).2.2.2.1.length:Int)) then
  bif decide (0≤f)&&decide (f<r1.1.length) then
   bif decide (0≤s7.2.1)&&decide (s7.2.1<(r1.1.getD f.toNat ([]:List Sh)).length) then
    bif !((r1.1.getD f.toNat ([]:List Sh)).getD s7.2.1.toNat zSh).1 then
     rec8 (s7.1,IntKind.i64.wrap (s7.2.1+1),())
    else bif decide (0≤f)&&decide (f<r1.1.length) then
     bif decide (0≤s7.2.1)&&decide (s7.2.1<(r1.1.getD f.toNat ([]:List Sh)).length) then
      (nZ m f s7.2.1 ((r1.1.getD f.toNat ([]:List Sh)).getD s7.2.1.toNat zSh).2.1).bind fun r9=>
      (bif (r9.2.1.length:Int)==0 then
       (pO ((m.2.2.2.1.getD f.toNat zMt).2.2.2.1.length:Int) s7.2.1 (-1:Int) (0:Int)).bind fun r12=>
       bif decide (s7.1.length+[r12.1].length<rowMax) then
        some (.inl (s7.1++[r12.1],()))
       else none
      else some (.inl (s7.1,())):Option ((List Iq×Unit)⊕(Bool×Unit))).bind fun q=>match q with
      | .inr r11=>some r11
      | .inl s10=>
       aE (xY m f r9 s7 rec8) fuel (s10.1,((0:Int),()))
     else none
    else none
   else none
  else none
 else bif (r3.1.length:Int) !=(s7.1.length:Int) then
  some (false,())
 else aE (xX r3 s7) fuel ((0:Int),())
def aCB (fuel:Nat) (m:Im) (f:Int):Option (Bool×Unit):=
 (wQ m).bind fun r1=>
 bif !r1.2.1 then
  awake15N.bind fun r2=>
  some (r2.1,())
 else
  (mP m r1.1 f).bind fun r3=>
  bif decide (f<0) then
   awake15N.bind fun r4=>
   bif r4.1 then
    some ((r3.1.length:Int)==0,())
   else some (false,())
  else bif decide (f≥(m.2.2.2.1.length:Int)) then
   awake15N.bind fun r5=>
   bif r5.1 then
    some ((r3.1.length:Int)==0,())
   else some (false,())
  else bif decide (0≤f)&&decide (f<m.2.2.2.1.length) then
   (pO ((m.2.2.2.1.getD f.toNat zMt).2.2.2.1.length:Int) (-1:Int) (0:Int) (m.2.2.2.1.getD f.toNat zMt).2.2.2.2.2.1).bind fun r6=>
   aE (aAB m f fuel r1 r3) fuel ([r6.1],((0:Int),()))
  else none
end
end Go.Pli

namespace Go.Pli
open Go Go.PM
end Go.Pli

namespace Go.Pli
open Go Go.PM
noncomputable section
end
end Go.Pli
