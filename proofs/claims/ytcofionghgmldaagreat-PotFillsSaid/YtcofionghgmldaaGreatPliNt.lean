/- Who calls whom: what the functions come to, in plain Lean. -/
import Derived.Test.YtcofionghgmldaaGreatPliSp
namespace Go.Pli
open Go Go.PM
def ints (n:Nat):List Int:=(List.range n).map fun k:Nat=>(k:Int)
def leI (x y:Int):Bool:=decide (x≤y)
def oC (x:Int):List Int→List Int
 | []=>[x]
 | y::l=>bif leI x y then x::y::l else y::oC x l
def fT:List Int→List Int
 | []=>[]
 | x::l=>oC x (fT l)
def yC (l:List Int):List Int×Unit:=(fT l,())
def dN:List Int→List Int
 | []=>[]
 | a::l=>match dN l with
  | []=>[a]
  | b::r=>bif a==b then b::r else a::b::r
def nM (m:Im):Int:=(m.2.2.2.1.length:Int)
def lW (m:Im) (c:Int):List Int:=(ints m.1.length).filter fun n=>dH m.1 n c
def xA (m:Im) (c:Int):Option (List Int×Unit):=bif cN m then some (lW m c,()) else none
def vM (m:Im) (c:Int):Option (List Int×Unit):=bif cN m then some (lW m c,()) else none
def iG (m:Im) (c n:Int):Bool:=(decide (0≤c)&&decide (c<(m.1.length:Int)))&&(decide (0≤n)&&decide (n<((bZ m c).2.2.1.length:Int)))
def dQ (m:Im) (c n:Int):Int×Bool×Unit:=bif iG m c n then ((bZ m c).2.2.1.getD n.toNat 0,true,()) else (0,false,())
def yT (m:Im) (c n:Int):Int×Bool×Unit:=dQ m c n
def qM (m:Im) (l:List Int) (n:Int):List Int:=(l.filter fun c=>(dQ m c n).2.1).map fun c=>(dQ m c n).1
def bX (m:Im) (i:Ins):List Int:=bif i.1==31 then[i.2.1] else bif i.1==32 then qM m (lW m i.2.1) i.2.2.1 else[]
def pY (m:Im) (i:Ins):Option (List Int×Unit):=bif cN m then some (bX m i,()) else none
def vD (m:Im) (i:Ins):Option (List Int×Unit):=bif cN m then some (bX m i,()) else none
def inM (m:Im) (f:Int):Bool:=sin f (nM m)
def qC (m:Im) (f:Int):List Int:=((aD m f).2.2.2.1.map (bX m)).flatten
def ofB (m:Im) (f:Int):List Int:=bif inM m f then dN (fT (qC m f)) else[]
def cof (m:Im) (f:Int):Option (List Int×Unit):=bif cN m then some (ofB m f,()) else none
def qA (m:Im) (f g:Int):Bool:=(aD m f).2.2.2.1.any fun i=>(bX m i).contains g
def gM (m:Im):List (List Int):=(ints m.2.2.2.1.length).map fun f=>(ints m.2.2.2.1.length).filter fun g=>qA m f g
def uT (m:Im):Bool:=(ints m.2.2.2.1.length).all fun f=>(qC m f).all (inM m)
def wV (l:List (List Int)) (i j:Nat):Bool:=(l.getD i []).contains (j:Int)
def eM (l:List (List Int)):Nat→Nat→Nat→Bool
 | 0,i,j=>wV l i j
 | k+1,i,j=>eM l k i j || (eM l k i k&&eM l k k j)
def aPP (n:Nat) (f:Nat→Nat→Bool):List (List Bool):=(List.range n).map fun i=>(List.range n).map fun j=>f i j
end Go.Pli

namespace Go.Pli
open Go Go.PM
def aCd (m:Im) (c:Int) (s1:List Int×Int×Unit) (rec2:(List Int×Int×Unit)→Option (List Int×Unit)):Option (List Int×Unit):=
 bif decide (s1.2.1<(m.1.length:Int)) then
  bif (dH m.1 s1.2.1 c) then
   bif decide (s1.1.length+[s1.2.1].length<rowMax) then
    rec2 (s1.1++[s1.2.1],IntKind.i64.wrap (s1.2.1+1),())
   else none
  else rec2 (s1.1,IntKind.i64.wrap (s1.2.1+1),())
 else some ((idL s1.1),())
def aKn (fuel:Nat) (m:Im) (c:Int):Option (List Int×Unit):=
 aE (aCd m c) fuel (([]:List Int),((0:Int),()))
def aJK (m:Im) (c:Int) (n:Int):Option (Int×Bool×Unit):=
 bif decide (c<0) then
  some ((0:Int),false,())
 else bif decide (c≥(m.1.length:Int)) then
  some ((0:Int),false,())
 else bif decide (n<0) then
  some ((0:Int),false,())
 else bif decide (0≤c)&&decide (c<m.1.length) then
  bif decide (n≥((m.1.getD c.toNat zCl).2.2.1.length:Int)) then
   some ((0:Int),false,())
  else bif decide (0≤c)&&decide (c<m.1.length) then
   bif decide (0≤n)&&decide (n<(m.1.getD c.toNat zCl).2.2.1.length) then
    some ((m.1.getD c.toNat zCl).2.2.1.getD n.toNat 0,true,())
   else none
  else none
 else none
def aR0 (m:Im) (i:Ins) (r1:List Int×Unit) (s2:List Int×Int×Unit) (rec3:(List Int×Int×Unit)→Option (List Int×Unit)):Option (List Int×Unit):=
 bif decide (s2.2.1<(r1.1.length:Int)) then
  bif decide (0≤s2.2.1)&&decide (s2.2.1<r1.1.length) then
   let r4:=dQ m (r1.1.getD s2.2.1.toNat 0) i.2.2.1
   bif r4.2.1 then
    bif decide (s2.1.length+[r4.1].length<rowMax) then
     rec3 (s2.1++[r4.1],IntKind.i64.wrap (s2.2.1+1),())
    else none
   else rec3 (s2.1,IntKind.i64.wrap (s2.2.1+1),())
  else none
 else some (s2.1,())
def aJH (fuel:Nat) (m:Im) (i:Ins):Option (List Int×Unit):=
 bif i.1==31 then
  bif decide (([]:List Int).length+[i.2.1].length<rowMax) then
   some (([]:List Int)++[i.2.1],())
  else none
 else bif i.1==32 then
  (xA m i.2.1).bind fun r1=>
  aE (aR0 m i r1) fuel (([]:List Int),((0:Int),()))
 else some (([]:List Int),())
def aBb (m:Im) (c:Int) (s1:List Int×Int×Unit) (rec2:(List Int×Int×Unit)→Option (List Int×Unit)):Option (List Int×Unit):=
 bif decide (s1.2.1<(m.1.length:Int)) then
  (jO m.1 s1.2.1).bind fun r3=>
  (rin r3.1 c).bind fun r4=>
  bif r4.1 then
   bif decide (s1.1.length+[s1.2.1].length<rowMax) then
    rec2 (s1.1++[s1.2.1],IntKind.i64.wrap (s1.2.1+1),())
   else none
  else rec2 (s1.1,IntKind.i64.wrap (s1.2.1+1),())
 else some (s1.1,())
def aGZ (fuel:Nat) (m:Im) (c:Int):Option (List Int×Unit):=
 aE (aBb m c) fuel (([]:List Int),((0:Int),()))
def aN3 (m:Im) (c:Int) (n:Int):Option (Int×Bool×Unit):=
 bif decide (c<0) then
  some ((0:Int),false,())
 else bif decide (c≥(m.1.length:Int)) then
  some ((0:Int),false,())
 else bif decide (n<0) then
  some ((0:Int),false,())
 else bif decide (0≤c)&&decide (c<m.1.length) then
  bif decide (n≥((m.1.getD c.toNat zCl).2.2.1.length:Int)) then
   some ((0:Int),false,())
  else bif decide (0≤c)&&decide (c<m.1.length) then
   bif decide (0≤n)&&decide (n<(m.1.getD c.toNat zCl).2.2.1.length) then
    some ((m.1.getD c.toNat zCl).2.2.1.getD n.toNat 0,true,())
   else none
  else none
 else none
def aNR (m:Im) (i:Ins) (r3:List Int×Unit) (s4:List Int×Int×Unit) (rec5:(List Int×Int×Unit)→Option (List Int×Unit)):Option (List Int×Unit):=
 bif decide (s4.2.1<(r3.1.length:Int)) then
  bif decide (0≤s4.2.1)&&decide (s4.2.1<r3.1.length) then
   let r6:=yT m (r3.1.getD s4.2.1.toNat 0) i.2.2.1
   bif r6.2.1 then
    bif decide (s4.1.length+[r6.1].length<rowMax) then
     rec5 (s4.1++[r6.1],IntKind.i64.wrap (s4.2.1+1),())
    else none
   else rec5 (s4.1,IntKind.i64.wrap (s4.2.1+1),())
  else none
 else some (s4.1,())
def aGE (fuel:Nat) (m:Im) (i:Ins):Option (List Int×Unit):=
 (bif i.1==31 then
  bif decide (([]:List Int).length+[i.2.1].length<rowMax) then
   some (.inl (([]:List Int)++[i.2.1],()))
  else none
 else some (.inl (([]:List Int),())):Option ((List Int×Unit)⊕(List Int×Unit))).bind fun q=>match q with
 | .inr r2=>some r2
 | .inl s1=>
  bif i.1==32 then
   (vM m i.2.1).bind fun r3=>
   aE (aNR m i r3) fuel (s1.1,((0:Int),()))
  else some (s1.1,())
end Go.Pli

namespace Go.Pli
open Go Go.PM
noncomputable def pick {α:Type} (f:Nat→Option α):Option α:=open Classical in if h:∃k,(f k).isSome then f h.choose else none
theorem aDm {α:Type} {f:Nat→Option α} {r:α} (h:pick f=some r):∃k,f k=some r:=by
 unfold pick at h
 split at h
 ·exact⟨_,h⟩
 ·cases h
def aTs {α:Type} (f:Nat→Option α) (Q:α→Prop):Prop:=∃K,∀k,(∃r,f k=some r∧Q r)∨(f k=none∧k≤K)
theorem aDn {α:Type} {f:Nat→Option α} {Q:α→Prop} (h:aTs f Q):∃r,pick f=some r∧Q r:=by
 obtain⟨K,h⟩:=h
 have hs:∃k,(f k).isSome:=by
  rcases h (K+1) with⟨r,hr,-⟩ | ⟨-,hk⟩
  ·exact⟨K+1,by rw[hr];rfl⟩
  ·omega
 unfold pick
 rw[dif_pos hs]
 have:=hs.choose_spec
 rcases h hs.choose with⟨r,hr,hq⟩ | ⟨hn,-⟩
 ·exact⟨r,hr,hq⟩
 ·rw[hn] at this;cases this
theorem aDZ {S R:Type} {L:S→(S→Option R)→Option R} {I:S→Prop} {μ:S→Nat} {Q:R→Prop}
  (h:∀s rec,I s→(∃r,L s rec=some r∧Q r)∨∃s',L s rec=rec s'∧I s'∧μ s'<μ s):∀(k:Nat) (s:S),I s→(∃r,aE L k s=some r∧Q r)∨(aE L k s=none∧k≤μ s)
 | 0,s,_=> .inr ⟨rfl,dL _⟩
 | k+1,s,hs=>by
  rw[aZ]
  rcases h s (aE L k) hs with h1 | ⟨s',h1,hs',hm⟩
  ·exact .inl h1
  ·rw[h1]
   rcases aDZ h k s' hs' with h2 | ⟨h2,hk⟩
   ·exact .inl h2
   ·exact .inr ⟨h2,by omega⟩
end Go.Pli

namespace Go.Pli
open Go Go.PM
noncomputable section
def wT (f:List (List Int)×List Int×List Int×List Bool×List Int×Int×List (List Int)×Unit) (n:Int):Option ((List (List Int)×List Int×List Int×List Bool×List Int×Int×List (List Int)×Unit)×Unit):=
 bif decide (0≤n)&&decide (n<f.2.1.length) then
  bif decide (0≤n)&&decide (n<f.2.2.1.length) then
   bif decide (0≤n)&&decide (n<f.2.2.2.1.length) then
    bif decide (f.2.2.2.2.1.length+[n].length<rowMax)&&true then
     some ((f.1,f.2.1.set n.toNat (IntKind.i64.wrap (f.2.2.2.2.2.1+1)),f.2.2.1.set n.toNat (IntKind.i64.wrap (f.2.2.2.2.2.1+1)),f.2.2.2.1.set n.toNat true,f.2.2.2.2.1++[n],IntKind.i64.wrap (f.2.2.2.2.2.1+1),f.2.2.2.2.2.2),())
    else none
   else none
  else none
 else none
def aEw (f:List (List Int)×List Int×List Int×List Bool×List Int×Int×List (List Int)×Unit) (n:Int) (s1:List Int×List Bool×List Int×Unit) (rec2:(List Int×List Bool×List Int×Unit)→Option ((List (List Int)×List Int×List Int×List Bool×List Int×Int×List (List Int)×Unit)×Unit)):Option ((List (List Int)×List Int×List Int×List Bool×List Int×Int×List (List Int)×Unit)×Unit):=
 bif decide (0≤IntKind.i64.wrap ((s1.2.2.1.length:Int) - 1))&&decide (IntKind.i64.wrap ((s1.2.2.1.length:Int) - 1)<s1.2.2.1.length) then
  bif decide ((0:Int)≤IntKind.i64.wrap ((s1.2.2.1.length:Int) - 1))&&decide (IntKind.i64.wrap ((s1.2.2.1.length:Int) - 1)≤(s1.2.2.1.length:Int))&&true then
   bif decide (0≤s1.2.2.1.getD (IntKind.i64.wrap ((s1.2.2.1.length:Int) - 1)).toNat 0)&&decide (s1.2.2.1.getD (IntKind.i64.wrap ((s1.2.2.1.length:Int) - 1)).toNat 0<s1.2.1.length) then
    bif decide (s1.1.length+[s1.2.2.1.getD (IntKind.i64.wrap ((s1.2.2.1.length:Int) - 1)).toNat 0].length<rowMax)&&true then
     bif (s1.2.2.1.getD (IntKind.i64.wrap ((s1.2.2.1.length:Int) - 1)).toNat 0)==n then
      let r3:=yC (s1.1++[s1.2.2.1.getD (IntKind.i64.wrap ((s1.2.2.1.length:Int) - 1)).toNat 0])
      bif decide (f.2.2.2.2.2.2.1.length+[(idL r3.1)].length<rowMax)&&true then
       some ((f.1,f.2.1,f.2.2.1,(s1.2.1.set (s1.2.2.1.getD (IntKind.i64.wrap ((s1.2.2.1.length:Int) - 1)).toNat 0).toNat false,((s1.2.2.1.take (IntKind.i64.wrap ((s1.2.2.1.length:Int) - 1)).toNat).drop 0,f.2.2.2.2.2.1,f.2.2.2.2.2.2.1++[(idL r3.1)],()))),())
      else none
     else rec2 (s1.1++[s1.2.2.1.getD (IntKind.i64.wrap ((s1.2.2.1.length:Int) - 1)).toNat 0],(s1.2.1.set (s1.2.2.1.getD (IntKind.i64.wrap ((s1.2.2.1.length:Int) - 1)).toNat 0).toNat false,((s1.2.2.1.take (IntKind.i64.wrap ((s1.2.2.1.length:Int) - 1)).toNat).drop 0,())))
    else none
   else none
  else none
 else none
def zY (fuel:Nat) (f:List (List Int)×List Int×List Int×List Bool×List Int×Int×List (List Int)×Unit) (n:Int):Option ((List (List Int)×List Int×List Int×List Bool×List Int×Int×List (List Int)×Unit)×Unit):=
 bif decide (0≤n)&&decide (n<f.2.2.1.length) then
  bif decide (0≤n)&&decide (n<f.2.1.length) then
   bif (f.2.2.1.getD n.toNat 0) !=(f.2.1.getD n.toNat 0) then
    some (f,())
   else aE (aEw f n) fuel (([]:List Int),f.2.2.2.1,f.2.2.2.2.1,())
  else none
 else none
def wQ (f:List (List Int)×List Int×List Int×List Bool×List Int×Int×List (List Int)×Unit) (n:Int):Option ((List (List Int)×List Int×List Int×List Bool×List Int×Int×List (List Int)×Unit)×Unit):=pick fun fuel=>zY fuel f n
theorem aRa (f:List (List Int)×List Int×List Int×List Bool×List Int×Int×List (List Int)×Unit) (n:Int) (r) (h:wQ f n=some r):∃k,zY k f n=some r:=aDm h
def tX (s2:List Tp×List Int×List Int×List Bool×List Int×List (List Int)×(List (List Int)×Unit×Unit×Unit×Unit×Int×Unit×Unit)×Unit) (rec3:(List Tp×List Int×List Int×List Bool×List Int×List (List Int)×(List (List Int)×Unit×Unit×Unit×Unit×Int×Unit×Unit)×Unit)→Option ((List (List Int)×List Int×List Int×List Bool×List Int×Int×List (List Int)×Unit)×Unit)) (s4:List Tp×Int×List Int×Unit) (rec5:(List Tp×Int×List Int×Unit)→Option ((List (List Int)×List Int×List Int×List Bool×List Int×Int×List (List Int)×Unit)×Unit)):Option ((List (List Int)×List Int×List Int×List Bool×List Int×Int×List (List Int)×Unit)×Unit):=
 bif decide (0≤(s4.1.getD s4.2.1.toNat zTp).1)&&decide ((s4.1.getD s4.2.1.toNat zTp).1<s2.2.2.2.2.2.2.1.1.length) then
  bif decide ((s4.1.getD s4.2.1.toNat zTp).2.1<((s2.2.2.2.2.2.2.1.1.getD (s4.1.getD s4.2.1.toNat zTp).1.toNat ([]:List Int)).length:Int)) then
   bif decide (0≤(s4.1.getD s4.2.1.toNat zTp).1)&&decide ((s4.1.getD s4.2.1.toNat zTp).1<s2.2.2.2.2.2.2.1.1.length) then
    bif decide (0≤(s4.1.getD s4.2.1.toNat zTp).2.1)&&decide ((s4.1.getD s4.2.1.toNat zTp).2.1<(s2.2.2.2.2.2.2.1.1.getD (s4.1.getD s4.2.1.toNat zTp).1.toNat ([]:List Int)).length) then
     (bif decide ((s2.2.2.2.2.2.2.1.1.getD (s4.1.getD s4.2.1.toNat zTp).1.toNat ([]:List Int)).getD (s4.1.getD s4.2.1.toNat zTp).2.1.toNat 0<0) then
      some (.inl (true,()))
     else some (.inl (decide ((s2.2.2.2.2.2.2.1.1.getD (s4.1.getD s4.2.1.toNat zTp).1.toNat ([]:List Int)).getD (s4.1.getD s4.2.1.toNat zTp).2.1.toNat 0≥(s2.2.2.2.2.2.2.1.1.length:Int)),())):Option ((Bool×Unit)⊕((List (List Int)×List Int×List Int×List Bool×List Int×Int×List (List Int)×Unit)×Unit))).bind fun q=>match q with
     | .inr r7=>some r7
     | .inl s6=>
      bif s6.1 then
       rec5 (s4.1.set s4.2.1.toNat ((s4.1.getD s4.2.1.toNat zTp).1,IntKind.i64.wrap (((s4.1.getD s4.2.1.toNat zTp).2.1)+1),()),((s4.2.1.toNat:Int),s4.2.2.1,()))
      else bif decide (0≤(s2.2.2.2.2.2.2.1.1.getD (s4.1.getD s4.2.1.toNat zTp).1.toNat ([]:List Int)).getD (s4.1.getD s4.2.1.toNat zTp).2.1.toNat 0)&&decide ((s2.2.2.2.2.2.2.1.1.getD (s4.1.getD s4.2.1.toNat zTp).1.toNat ([]:List Int)).getD (s4.1.getD s4.2.1.toNat zTp).2.1.toNat 0<s2.2.1.length) then
       bif (s2.2.1.getD ((s2.2.2.2.2.2.2.1.1.getD (s4.1.getD s4.2.1.toNat zTp).1.toNat ([]:List Int)).getD (s4.1.getD s4.2.1.toNat zTp).2.1.toNat 0).toNat 0)==0 then
        bif decide ((s4.1.set s4.2.1.toNat ((s4.1.getD s4.2.1.toNat zTp).1,IntKind.i64.wrap (((s4.1.getD s4.2.1.toNat zTp).2.1)+1),())).length+[((s2.2.2.2.2.2.2.1.1.getD (s4.1.getD s4.2.1.toNat zTp).1.toNat ([]:List Int)).getD (s4.1.getD s4.2.1.toNat zTp).2.1.toNat 0,((0:Int),()))].length<rowMax)&&true then
         (wT (s2.2.2.2.2.2.2.1.1,s2.2.1,s4.2.2.1,s2.2.2.2.1,s2.2.2.2.2.1,s2.2.2.2.2.2.2.1.2.2.2.2.2.1,s2.2.2.2.2.2.1,()) ((s2.2.2.2.2.2.2.1.1.getD (s4.1.getD s4.2.1.toNat zTp).1.toNat ([]:List Int)).getD (s4.1.getD s4.2.1.toNat zTp).2.1.toNat 0)).bind fun r8=>
         rec3 ((s4.1.set s4.2.1.toNat ((s4.1.getD s4.2.1.toNat zTp).1,IntKind.i64.wrap (((s4.1.getD s4.2.1.toNat zTp).2.1)+1),()))++[((s2.2.2.2.2.2.2.1.1.getD (s4.1.getD s4.2.1.toNat zTp).1.toNat ([]:List Int)).getD (s4.1.getD s4.2.1.toNat zTp).2.1.toNat 0,((0:Int),()))],r8.1.2.1,r8.1.2.2.1,r8.1.2.2.2.1,r8.1.2.2.2.2.1,r8.1.2.2.2.2.2.2.1,(r8.1.1,(),(),(),(),r8.1.2.2.2.2.2.1,(),()),())
        else none
       else bif decide (0≤(s2.2.2.2.2.2.2.1.1.getD (s4.1.getD s4.2.1.toNat zTp).1.toNat ([]:List Int)).getD (s4.1.getD s4.2.1.toNat zTp).2.1.toNat 0)&&decide ((s2.2.2.2.2.2.2.1.1.getD (s4.1.getD s4.2.1.toNat zTp).1.toNat ([]:List Int)).getD (s4.1.getD s4.2.1.toNat zTp).2.1.toNat 0<s2.2.2.2.1.length) then
        bif s2.2.2.2.1.getD ((s2.2.2.2.2.2.2.1.1.getD (s4.1.getD s4.2.1.toNat zTp).1.toNat ([]:List Int)).getD (s4.1.getD s4.2.1.toNat zTp).2.1.toNat 0).toNat false then
         bif decide (0≤((s4.1.set s4.2.1.toNat ((s4.1.getD s4.2.1.toNat zTp).1,IntKind.i64.wrap (((s4.1.getD s4.2.1.toNat zTp).2.1)+1),())).getD s4.2.1.toNat zTp).1)&&decide (((s4.1.set s4.2.1.toNat ((s4.1.getD s4.2.1.toNat zTp).1,IntKind.i64.wrap (((s4.1.getD s4.2.1.toNat zTp).2.1)+1),())).getD s4.2.1.toNat zTp).1<s4.2.2.1.length) then
          bif decide (0≤(s2.2.2.2.2.2.2.1.1.getD (s4.1.getD s4.2.1.toNat zTp).1.toNat ([]:List Int)).getD (s4.1.getD s4.2.1.toNat zTp).2.1.toNat 0)&&decide ((s2.2.2.2.2.2.2.1.1.getD (s4.1.getD s4.2.1.toNat zTp).1.toNat ([]:List Int)).getD (s4.1.getD s4.2.1.toNat zTp).2.1.toNat 0<s2.2.1.length) then
           bif decide (0≤((s4.1.set s4.2.1.toNat ((s4.1.getD s4.2.1.toNat zTp).1,IntKind.i64.wrap (((s4.1.getD s4.2.1.toNat zTp).2.1)+1),())).getD s4.2.1.toNat zTp).1)&&decide (((s4.1.set s4.2.1.toNat ((s4.1.getD s4.2.1.toNat zTp).1,IntKind.i64.wrap (((s4.1.getD s4.2.1.toNat zTp).2.1)+1),())).getD s4.2.1.toNat zTp).1<s4.2.2.1.length) then
            rec5 (s4.1.set s4.2.1.toNat ((s4.1.getD s4.2.1.toNat zTp).1,IntKind.i64.wrap (((s4.1.getD s4.2.1.toNat zTp).2.1)+1),()),((s4.2.1.toNat:Int),s4.2.2.1.set ((s4.1.set s4.2.1.toNat ((s4.1.getD s4.2.1.toNat zTp).1,IntKind.i64.wrap (((s4.1.getD s4.2.1.toNat zTp).2.1)+1),())).getD s4.2.1.toNat zTp).1.toNat (min (s4.2.2.1.getD ((s4.1.set s4.2.1.toNat ((s4.1.getD s4.2.1.toNat zTp).1,IntKind.i64.wrap (((s4.1.getD s4.2.1.toNat zTp).2.1)+1),())).getD s4.2.1.toNat zTp).1.toNat 0) (s2.2.1.getD ((s2.2.2.2.2.2.2.1.1.getD (s4.1.getD s4.2.1.toNat zTp).1.toNat ([]:List Int)).getD (s4.1.getD s4.2.1.toNat zTp).2.1.toNat 0).toNat 0)),()))
           else none
          else none
         else none
        else rec5 (s4.1.set s4.2.1.toNat ((s4.1.getD s4.2.1.toNat zTp).1,IntKind.i64.wrap (((s4.1.getD s4.2.1.toNat zTp).2.1)+1),()),((s4.2.1.toNat:Int),s4.2.2.1,()))
       else none
      else none
    else none
   else none
  else bif decide ((0:Int)≤IntKind.i64.wrap ((s4.1.length:Int) - 1))&&decide (IntKind.i64.wrap ((s4.1.length:Int) - 1)≤(s4.1.length:Int))&&true then
   (wQ (s2.2.2.2.2.2.2.1.1,s2.2.1,s4.2.2.1,s2.2.2.2.1,s2.2.2.2.2.1,s2.2.2.2.2.2.2.1.2.2.2.2.2.1,s2.2.2.2.2.2.1,()) (s4.1.getD s4.2.1.toNat zTp).1).bind fun r9=>
   bif decide ((((s4.1.take (IntKind.i64.wrap ((s4.1.length:Int) - 1)).toNat).drop 0).length:Int)>0) then
    bif decide (0≤IntKind.i64.wrap ((((s4.1.take (IntKind.i64.wrap ((s4.1.length:Int) - 1)).toNat).drop 0).length:Int) - 1))&&decide (IntKind.i64.wrap ((((s4.1.take (IntKind.i64.wrap ((s4.1.length:Int) - 1)).toNat).drop 0).length:Int) - 1)<((s4.1.take (IntKind.i64.wrap ((s4.1.length:Int) - 1)).toNat).drop 0).length) then
     bif decide (0≤(((s4.1.take (IntKind.i64.wrap ((s4.1.length:Int) - 1)).toNat).drop 0).getD (IntKind.i64.wrap ((((s4.1.take (IntKind.i64.wrap ((s4.1.length:Int) - 1)).toNat).drop 0).length:Int) - 1)).toNat zTp).1)&&decide ((((s4.1.take (IntKind.i64.wrap ((s4.1.length:Int) - 1)).toNat).drop 0).getD (IntKind.i64.wrap ((((s4.1.take (IntKind.i64.wrap ((s4.1.length:Int) - 1)).toNat).drop 0).length:Int) - 1)).toNat zTp).1<r9.1.2.2.1.length) then
      bif decide (0≤(s4.1.getD s4.2.1.toNat zTp).1)&&decide ((s4.1.getD s4.2.1.toNat zTp).1<r9.1.2.2.1.length) then
       bif decide (0≤(((s4.1.take (IntKind.i64.wrap ((s4.1.length:Int) - 1)).toNat).drop 0).getD (IntKind.i64.wrap ((((s4.1.take (IntKind.i64.wrap ((s4.1.length:Int) - 1)).toNat).drop 0).length:Int) - 1)).toNat zTp).1)&&decide ((((s4.1.take (IntKind.i64.wrap ((s4.1.length:Int) - 1)).toNat).drop 0).getD (IntKind.i64.wrap ((((s4.1.take (IntKind.i64.wrap ((s4.1.length:Int) - 1)).toNat).drop 0).length:Int) - 1)).toNat zTp).1<r9.1.2.2.1.length) then
        rec3 ((s4.1.take (IntKind.i64.wrap ((s4.1.length:Int) - 1)).toNat).drop 0,r9.1.2.1,(r9.1.2.2.1.set (((s4.1.take (IntKind.i64.wrap ((s4.1.length:Int) - 1)).toNat).drop 0).getD (IntKind.i64.wrap ((((s4.1.take (IntKind.i64.wrap ((s4.1.length:Int) - 1)).toNat).drop 0).length:Int) - 1)).toNat zTp).1.toNat (min (r9.1.2.2.1.getD (((s4.1.take (IntKind.i64.wrap ((s4.1.length:Int) - 1)).toNat).drop 0).getD (IntKind.i64.wrap ((((s4.1.take (IntKind.i64.wrap ((s4.1.length:Int) - 1)).toNat).drop 0).length:Int) - 1)).toNat zTp).1.toNat 0) (r9.1.2.2.1.getD (s4.1.getD s4.2.1.toNat zTp).1.toNat 0)),r9.1.2.2.2.1,r9.1.2.2.2.2.1,r9.1.2.2.2.2.2.2.1,(r9.1.1,(),(),(),(),r9.1.2.2.2.2.2.1,(),()),()))
       else none
      else none
     else none
    else none
   else rec3 ((s4.1.take (IntKind.i64.wrap ((s4.1.length:Int) - 1)).toNat).drop 0,r9.1.2.1,r9.1.2.2.1,r9.1.2.2.2.1,r9.1.2.2.2.2.1,r9.1.2.2.2.2.2.2.1,(r9.1.1,(),(),(),(),r9.1.2.2.2.2.2.1,(),()),())
  else none
 else none
def pV (fuel:Nat) (s2:List Tp×List Int×List Int×List Bool×List Int×List (List Int)×(List (List Int)×Unit×Unit×Unit×Unit×Int×Unit×Unit)×Unit) (rec3:(List Tp×List Int×List Int×List Bool×List Int×List (List Int)×(List (List Int)×Unit×Unit×Unit×Unit×Int×Unit×Unit)×Unit)→Option ((List (List Int)×List Int×List Int×List Bool×List Int×Int×List (List Int)×Unit)×Unit)):Option ((List (List Int)×List Int×List Int×List Bool×List Int×Int×List (List Int)×Unit)×Unit):=
 bif decide ((s2.1.length:Int)>0) then
  bif decide (0≤IntKind.i64.wrap ((s2.1.length:Int) - 1))&&decide (IntKind.i64.wrap ((s2.1.length:Int) - 1)<s2.1.length) then
   aE (tX s2 rec3) fuel (s2.1,(((IntKind.i64.wrap ((s2.1.length:Int) - 1)).toNat:Int),s2.2.2.1,()))
  else none
 else some ((s2.2.2.2.2.2.2.1.1,s2.2.1,s2.2.2.1,s2.2.2.2.1,s2.2.2.2.2.1,s2.2.2.2.2.2.2.1.2.2.2.2.2.1,s2.2.2.2.2.2.1,()),())
def rI (fuel:Nat) (f:List (List Int)×List Int×List Int×List Bool×List Int×Int×List (List Int)×Unit) (n:Int):Option ((List (List Int)×List Int×List Int×List Bool×List Int×Int×List (List Int)×Unit)×Unit):=
 (wT f n).bind fun r1=>
 aE (pV fuel) fuel (([(n,((0:Int),()))]:List Tp),r1.1.2.1,r1.1.2.2.1,r1.1.2.2.2.1,r1.1.2.2.2.2.1,r1.1.2.2.2.2.2.2.1,(r1.1.1,(),(),(),(),r1.1.2.2.2.2.2.1,(),()),())
def wS (f:List (List Int)×List Int×List Int×List Bool×List Int×Int×List (List Int)×Unit) (n:Int):Option ((List (List Int)×List Int×List Int×List Bool×List Int×Int×List (List Int)×Unit)×Unit):=pick fun fuel=>rI fuel f n
theorem aRn (f:List (List Int)×List Int×List Int×List Bool×List Int×Int×List (List Int)×Unit) (n:Int) (r) (h:wS f n=some r):∃k,rI k f n=some r:=aDm h
def aJ7 (s:List Int):Option (List Int×Unit):=
 bif decide ((s.length:Int)=(s.length:Int))&&decide ((s.length:Int)=(s.length:Int))&&true then
  some (s,())
 else none
def aKa (s:List (List Int)):Option (List (List Int)×Unit):=
 bif decide ((s.length:Int)=(s.length:Int))&&decide ((s.length:Int)=(s.length:Int))&&true then
  some (s,())
 else none
def yL (l:List (List Int)) (s1:Int×List Int×List Int×List Bool×List Int×List (List Int)×(List (List Int)×Unit×Unit×Unit×Unit×Int×Unit×Unit)×Unit) (rec2:(Int×List Int×List Int×List Bool×List Int×List (List Int)×(List (List Int)×Unit×Unit×Unit×Unit×Int×Unit×Unit)×Unit)→Option (List (List Int)×Unit)):Option (List (List Int)×Unit):=
 bif decide (s1.1<(l.length:Int)) then
  bif decide (0≤s1.1)&&decide (s1.1<s1.2.1.length) then
   bif (s1.2.1.getD s1.1.toNat 0)==0 then
    (wS (s1.2.2.2.2.2.2.1.1,s1.2.1,s1.2.2.1,s1.2.2.2.1,s1.2.2.2.2.1,s1.2.2.2.2.2.2.1.2.2.2.2.2.1,s1.2.2.2.2.2.1,()) s1.1).bind fun r3=>
    rec2 (IntKind.i64.wrap (s1.1+1),r3.1.2.1,r3.1.2.2.1,r3.1.2.2.2.1,r3.1.2.2.2.2.1,r3.1.2.2.2.2.2.2.1,(r3.1.1,(),(),(),(),r3.1.2.2.2.2.2.1,(),()),())
   else rec2 (IntKind.i64.wrap (s1.1+1),s1.2.1,s1.2.2.1,s1.2.2.2.1,s1.2.2.2.2.1,s1.2.2.2.2.2.1,s1.2.2.2.2.2.2.1,())
  else none
 else some ((idL s1.2.2.2.2.2.1),())
def sS (fuel:Nat) (l:List (List Int)):Option (List (List Int)×Unit):=
 bif decide (0≤(l.length:Int))&&decide ((l.length:Int)≤(l.length:Int))&&decide ((l.length:Int)<(rowMax:Int)) then
  bif decide (0≤(l.length:Int))&&decide ((l.length:Int)≤(l.length:Int))&&decide ((l.length:Int)<(rowMax:Int)) then
   bif decide (0≤(l.length:Int))&&decide ((l.length:Int)≤(l.length:Int))&&decide ((l.length:Int)<(rowMax:Int)) then
    aE (yL l) fuel ((0:Int),(List.replicate l.length (0:Int),(List.replicate l.length (0:Int),List.replicate l.length false,(([]:List Int),(([]:List (List Int)),(l,(),(),(),(),((0:Int),(),())),())))))
   else none
  else none
 else none
def kM (l:List (List Int)):Option (List (List Int)×Unit):=pick fun fuel=>sS fuel l
theorem aNy (l:List (List Int)) (r) (h:kM l=some r):∃k,sS k l=some r:=aDm h
end
end Go.Pli

namespace Go.Pli
open Go Go.PM
abbrev Sh:=Bool×List Tp×Unit
abbrev zSh:Sh:=(false,[],())
abbrev Iq:=List Int×Int×Unit
abbrev zIq:Iq:=([],0,())
def aJ (m:Im):Bool:=cN m&&kJ m
def eN (l:List (List Sh)):Bool:=okL l&&l.all fun h=>okL h&&h.all fun s=>okL s.2.1
def wO (_:Unit) (n:Int):Option (List Tp×Unit):=bif decide (0≤n)&&Nat.blt n.toNat 1000000000 then some ([],()) else none
def oN (l:List (List Tp)):Option (List Tp×Unit):=bif Nat.blt l.flatten.length 1000000000&&okL l then some (l.flatten,()) else none
def aBJ (s:List Int) (v:Int):Int:=pQ (fun x=>v==x) 0 s
def wY (s:List Int) (v:Int):Bool:=s.contains v
def cup (m:Im) (c:Int):Option (Int×Unit):=bif sin c (m.1.length:Int) then some (kup m.1 c,()) else none
def dP (m:Im) (c:Int):List Tp:=(((cG m.1 c).reverse).map fun s=>(bZ m s).2.1).flatten
def pZ (m:Im) (c:Int):Option (List Tp×Unit):=bif cN m then some (dP m c,()) else none
def qN (m:Im) (c:Int):Int:=((1+(dP m c).length:Nat):Int)
def wX (m:Im) (c:Int):Option (Int×Unit):=bif cN m then some (qN m c,()) else none
def jS (x:Mt) (n:Int):Tp:=bif decide (n<0) then zTp else (x.1++x.2.1).getD n.toNat zTp
def uE (x:Mt) (n:Int):Option (Tp×Unit):=bif okL x.1&&okL x.2.1 then some (jS x n,()) else none
def gJ (l:List Cl) (a b:Tp):Tp:=
 bif cR l a b then b else bif cR l b a then a else bif a.1 !=3 || b.1 !=3 then zTp else
 match (cH l (kup l a.2.1)).find? fun c=>dH l b.2.1 c with
 | some c=>(3,c,())
 | none=>zTp
def mR (o:Int):Bool:=decide (o≥7)&&decide (o≤17)
abbrev tI:Tp:=(1,0,())
abbrev tA:Tp:=(2,0,())
abbrev tN:Tp:=(4,0,())
abbrev tR (c:Int):Tp:=(3,c,())
abbrev Eff:=List Tp×List Tp×Unit
def eP (o:Int):Eff×Bool×Unit:=
 bif o==2 then (([],[tN],()),true,())
 else bif o==5 then (([zTp],[],()),true,())
 else bif o==20 then (([tN],[tI],()),true,())
 else bif o==21 then (([tN,tN],[tI],()),true,())
 else bif o==24 then (([tA,tI],[tI],()),true,())
 else bif o==25 then (([tA,tI,tI],[],()),true,())
 else bif o==26 then (([tA],[tI],()),true,())
 else bif o==1 then (([],[tI],()),true,())
 else bif o==19 then (([tI],[],()),true,())
 else bif o==18 then (([],[],()),true,())
 else bif o==23 then (([tI],[tA],()),true,())
 else bif mR o then (([tI,tI],[tI],()),true,())
 else (([],[],()),false,())
def iU (x:Mt) (t:List Tp):Eff:=(t++x.1.drop t.length,bif x.2.2.1.1 !=5 then[x.2.2.1] else[],())
def tY (x:Mt) (t:List Tp):Option (Eff×Unit):=bif okL x.1&&(okL t&&decide (t.length≤x.1.length)) then some (iU x t,()) else none
def eQ (m:Im) (x:Mt) (i:Ins):Eff:=
 bif (eP i.1).2.1 then (eP i.1).1
 else bif i.1==3 then ([],[jS x i.2.1],())
 else bif i.1==4 then ([jS x i.2.1],[],())
 else bif i.1==22 then ([],[tR i.2.1],())
 else bif i.1==27 then ([tR i.2.1],[(dP m i.2.1).getD i.2.2.1.toNat zTp],())
 else bif i.1==28 then ([tR i.2.1,(dP m i.2.1).getD i.2.2.1.toNat zTp],[],())
 else bif i.1==29 then ([],[m.2.1.getD i.2.1.toNat zTp],())
 else bif i.1==30 then ([m.2.1.getD i.2.1.toNat zTp],[],())
 else bif i.1==31 then iU (aD m i.2.1) []
 else bif i.1==32 then iU (aD m (dQ m i.2.1 i.2.2.1).1) [tR i.2.1]
 else bif i.1==34 then ([tN],[tR i.2.1],())
 else bif i.1==33 then (bif x.2.2.1.1 !=5 then ([x.2.2.1],[],()) else ([],[],()))
 else ([],[],())
def fof (m:Im) (i:Ins) (f:Int):Option (Eff×Unit):=bif aJ m&&(inM m f&&cM m (aD m f) i) then some (eQ m (aD m f) i,()) else none
def eC (m:Im) (o:Int) (t w:Tp):Bool:=bif w.1==0 then true else bif w.1==4 then iS t&&(o !=34 || t.1 !=2) else cR m.1 t w
def eB (i:Ins) (pc:Int):List Int:=
 bif i.1==18 then[i.2.1] else bif i.1==19 then[IntKind.i64.wrap (pc+1),i.2.1] else bif i.1==33 then[] else[IntKind.i64.wrap (pc+1)]
def aG (m:Im) (f pc:Int):Ins:=(aD m f).2.2.2.1.getD pc.toNat zIns
def codeN (m:Im) (f:Int):Nat:=(aD m f).2.2.2.1.length
abbrev St4:=List Tp×List Int×Int×Unit
def nP (m:Im) (i:Ins) (e:Eff) (s:List Tp) (nx:List Int):St4:=
 bif decide (s.length<e.1.length) || decide (s.length - e.1.length+e.2.1.length>8) then ([],[],4,())
 else bif ((s.drop (s.length - e.1.length)).zip e.1).all fun p=>eC m i.1 p.1 p.2 then (s.take (s.length - e.1.length)++e.2.1,nx,0,())
 else ([],[],4,())
def aQ (m:Im) (f pc:Int) (s:List Tp):St4:=
 bif !(inM m f&&sin pc (codeN m f:Int)) then ([],[],1,())
 else bif (eB (aG m f pc) pc).contains (codeN m f:Int) then ([],[],4,())
 else bif (aG m f pc).1==6 then (bif decide (s.length=0) || decide (s.length≥8) then ([],[],4,()) else (s++s.drop (s.length - 1),eB (aG m f pc) pc,0,()))
 else nP m (aG m f pc) (eQ m (aD m f) (aG m f pc)) s (eB (aG m f pc) pc)
def pT (m:Im) (f pc:Int) (s:List Tp):Option St4:=bif aJ m&&okL s then some (aQ m f pc s) else none
def cC (l:List Cl) (a s:List Tp):List Tp:=(a.zip s).map fun p=>gJ l p.1 p.2
def dC (l:List Cl) (o:Sh) (s:List Tp):Sh×Bool×Bool×Unit:=
 bif !o.1 then ((true,s,()),true,true,())
 else bif decide (o.2.1.length≠s.length) then (o,false,false,())
 else bif (cC l o.2.1 s).any fun t=>t.1==0 then (o,false,false,())
 else ((true,cC l o.2.1 s,()),!(cC l o.2.1 s==o.2.1),true,())
def gG (l:List Cl) (a:List Tp):List Int→List Sh→List Bool→Bool×List Sh×List Bool×Unit
 | [],h,q=>(true,h,q,())
 | to::r,h,q=>
  bif !(dC l (h.getD to.toNat zSh) a).2.2.1 then (false,h,q,())
  else bif (dC l (h.getD to.toNat zSh) a).2.1 then gG l a r (h.set to.toNat (dC l (h.getD to.toNat zSh) a).1) (q.set to.toNat true)
  else gG l a r h q
def mI (m:Im) (f pc:Int) (h:List Sh) (q:List Bool):Bool×List Sh×List Bool×Unit:=
 bif (aQ m f pc (h.getD pc.toNat zSh).2.1).2.2.1 !=0 then (false,h,q,())
 else gG m.1 (aQ m f pc (h.getD pc.toNat zSh).2.1).1 (aQ m f pc (h.getD pc.toNat zSh).2.1).2.1 h q
def tH (m:Im) (f pc:Int) (h:List Sh) (q:List Bool):Bool:=
 aJ m&&(inM m f&&(sin pc (codeN m f:Int)&&(decide (h.length=codeN m f)&&(decide (q.length=codeN m f)&&h.all fun s=>okL s.2.1))))
def aAC (m:Im) (f pc:Int) (h:List Sh) (q:List Bool):Option (Bool×List Sh×List Bool×Unit):=bif tH m f pc h q then some (mI m f pc h q) else none
def qH (m:Im) (f:Int):Nat→List Sh→List Bool→Option (List Sh×Int×Int×Unit)
 | 0,_,_=>none
 | n+1,h,q=>bif q.any id then (aAC m f (q.findIdx id:Int) h (q.set (q.findIdx id) false)).bind fun r=>
   bif !r.1 then some ([],(q.findIdx id:Int),4,()) else qH m f n r.2.1 r.2.2.1
  else some (h,0,0,())
def xT (m:Im) (f:Int):Option (List Sh×Int×Int×Unit):=
 bif aJ m&&inM m f then qH m f (100*codeN m f+2) ((List.replicate (codeN m f) zSh).set 0 (true,[],())) ((List.replicate (codeN m f) false).set 0 true) else none
def rP (m:Im):List Int→List (List Sh)→Option (List (List Sh)×Int×Int×Int×Unit)
 | [],out=>some (out,0,0,0,())
 | f::l,out=>(xT m f).bind fun r=>bif r.2.2.1 !=0 then some ([],f,r.2.1,r.2.2.1,()) else rP m l (out++[r.1])
def uU (m:Im):Option (List (List Sh)×Int×Int×Int×Unit):=bif aJ m then rP m (ints m.2.2.2.1.length) [] else none
def lL (l:List Int):Int:=l.foldl max 0
def aRN (l:List (List Sh)) (f:Int):Int:=bif sin f (l.length:Int) then lL ((l.getD f.toNat []).map fun s=>(s.2.1.length:Int)) else 0
def aEu (m:Im) (l:List (List Sh)) (f:Int):Int:=bif inM m f then ((3+(aD m f).1.length+(aD m f).2.1.length:Nat):Int)+aRN l f else 0
def uD (to:Int) (part:List Int):Bool:=part.contains to
def aBL (l:List Int) (c:List Int×Unit):Int:=pQ (fun x=>uD x c.1) 0 l
def aAd (l:List Int) (c:List Int×Unit):Bool:=l.any fun x=>uD x c.1
def jG (l:List (List Int)) (part:List Int):Bool:=part.any fun k=>sin k (l.length:Int)&&(l.getD k.toNat []).any fun to=>part.contains to
def uC (l:List (List Int)) (part:List Int):Option (Bool×Unit):=bif okL part then some (jG l part,()) else none
def aKD (part out:List Int):List Int→Int→Int
 | [],b=>b
 | to::r,b=>aKD part out r (bif !part.contains to&&decide (to<(out.length:Int)) then max b (out.getD to.toNat 0) else b)
def aHo (m:Im) (l:List (List Sh)) (ed:List (List Int)) (part out:List Int) (cyc:Bool):List Int→Int→Int→Option (Int×Int)
 | [],a,b=>some (a,b)
 | f::r,a,b=>bif decide ((bif cyc then (aD m f).2.2.2.2.1 else 1)<1) then none
  else aHo m l ed part out cyc r (IntKind.i64.wrap (a+IntKind.i64.wrap ((bif cyc then (aD m f).2.2.2.2.1 else 1)*aEu m l f))) (aKD part out (ed.getD f.toNat []) b)
def aFZ (v:Int):List Int→List Int→List Int
 | [],out=>out
 | f::r,out=>aFZ v r (out.set f.toNat v)
def aGr (m:Im) (l:List (List Sh)) (ed:List (List Int)):List (List Int)→List Int→List Int×Int×Unit
 | [],out=>(out,0,())
 | part::ps,out=>match aHo m l ed part out (jG ed part) part 0 0 with
  | none=>([],5,())
  | some a=>aGr m l ed ps (aFZ (IntKind.i64.wrap (a.1+a.2)) part out)
def fG (m:Im):List (List Int):=(ints m.2.2.2.1.length).map (ofB m)
def wW (m:Im):Bool:=(fG m).all fun e=>okL e&&e.all (inM m)
noncomputable def aJD (m:Im) (l:List (List Sh)):Option (List Int×Int×Unit):=bif aJ m&&(eN l&&wW m) then (kM (fG m)).bind fun r=>bif okL r.1&&r.1.all (fun p=>okL p&&p.all (inM m)) then some (aGr m l (fG m) r.1 (List.replicate m.2.2.2.1.length 0)) else none else none
def inU (x:Int):Bool:=decide (0≤x)&&decide (x≤18446744073709551615)
def vV (x y:Int):Option (Int×Int×Unit):=bif inU x&&inU y then some (x*y/18446744073709551616,x*y % 18446744073709551616,()) else none
abbrev Sure:=Int×Bool×Unit
def lof (n:Int):Sure:=(n,decide (n> -4611686018427387904)&&decide (n<4611686018427387904),())
def fX (n:Int):Int:=bif decide (n<0) then IntKind.u64.wrap (IntKind.i64.wrap (0 - n)) else IntKind.u64.wrap n
def aBl (a b:Sure):Sure:=bif a.2.1&&b.2.1 then lof (IntKind.i64.wrap (a.1+b.1)) else (0,false,())
def zL (a b:Sure):Option (Sure×Unit):=some (aBl a b,())
def aAD (a b:Sure):Sure:=
 bif a.2.1&&b.2.1 then (bif decide (fX a.1*fX b.1/18446744073709551616≠0) || decide (fX a.1*fX b.1 % 18446744073709551616≥4611686018427387904) then (0,false,()) else lof (IntKind.i64.wrap (a.1*b.1))) else (0,false,())
def zK (a b:Sure):Option (Sure×Unit):=some (aAD a b,())
def qK:List (Int×Int)→Sure→Sure
 | [],a=>a
 | p::r,a=>qK r (aBl a (aAD (lof p.1) (lof p.2)))
def aEl (most:Int) (s:Sure):Bool×Int×Unit:=bif !s.2.1 then (false,14,()) else (decide (s.1≤most),0,())
def pS (q:Iq) (v:List Int):Bool×Int×Unit:=bif decide (q.1.length≠v.length) then (false,14,()) else aEl q.2.1 (qK (q.1.zip v) (lof 0))
def wG (q:Iq) (v:List Int):Option (Bool×Int×Unit):=bif okL q.1 then some (pS q v) else none
def bS (l:List (List Sh)) (f pc:Int):Sh:=(l.getD f.toNat []).getD pc.toNat zSh
def pE (l:List (List Sh)) (f pc:Int):Option (Sh×Unit):=bif decide (0≤f)&&decide (0≤pc) then some (bS l f pc,()) else none
def eA (m:Im) (f:Int):Int:=(aD m f).2.2.2.2.2.1
def iH (m:Im) (i:Ins):Int:=
 bif i.1==22 then qN m i.2.1 else bif i.1==23 then IntKind.i64.wrap (1+max 0 (min i.2.1 255)) else lL (((bX m i).filter (inM m)).map (eA m))
def mP (m:Im) (i:Ins):Option (Int×Unit):=bif cN m then some (iH m i,()) else none
def aCr (z:List Int) (a d:Int):List Int:=bif decide (a≥0) then z.set a.toNat (IntKind.i64.wrap (z.getD a.toNat 0+d)) else z
def fA (n a b c:Int):Iq:=(aCr (aCr (List.replicate n.toNat 0) a (-1)) b 1,c,())
def qV (n a b c:Int):Option (Iq×Unit):=bif decide (0≤n)&&(Nat.blt n.toNat 1000000&&(decide (a<n)&&decide (b<n))) then some (fA n a b c,()) else none
def nT (m:Im) (l:List (List Sh)) (f pc:Int):List Iq:=
 bif !(bS l f pc).1 then[] else
 bif (aQ m f pc (bS l f pc).2.1).2.2.1 !=0 then[] else
 (bif decide ((aQ m f pc (bS l f pc).2.1).2.1.length=0) then[fA (codeN m f:Int) pc (-1) 0] else[])++
 (aQ m f pc (bS l f pc).2.1).2.1.map fun to=>fA (codeN m f:Int) pc to (IntKind.i64.wrap (0 - iH m (aG m f pc)))
def mK (m:Im) (l:List (List Sh)) (f:Int):List Iq:=
 bif inM m f then fA (codeN m f:Int) (-1) 0 (eA m f)::((List.range (codeN m f)).map fun k:Nat=>nT m l f (k:Int)).flatten else[]
def sZ (m:Im) (l:List (List Sh)) (f:Int):Option (List Iq×Unit):=bif aJ m&&eN l then some (mK m l f,()) else none
def vU (n:Int):Bool:=decide (n<0)
def aBI (l:List Int) (_:Unit):Int:=pQ vU 0 l
def aAc (l:List Int) (_:Unit):Bool:=l.any vU
def eF (m:Im) (f:Int):List Int:=(aD m f).2.2.2.2.2.2.1
def aBP (m:Im) (f:Int) (q:Iq):Bool:=decide ((pS q (eF m f)).2.1=0)&&(pS q (eF m f)).1
def yY (m:Im) (l:List (List Sh)):List Int→Int×Int×Unit
 | []=>(0,0,())
 | f::r=>bif (mK m l f).all (aBP m f) then (bif (eF m f).any vU then (f,6,()) else yY m l r) else (f,6,())
def pG (m:Im) (l:List (List Sh)):Option (Int×Int×Unit):=bif aJ m&&eN l then some (yY m l (ints m.2.2.2.1.length)) else none
def aBy (m:Im) (bd:List Int):List Int→Int→Int→Int×Int
 | [],s,h=>(s,h)
 | f::r,s,h=>bif decide (f≥0)&&decide (f<(bd.length:Int)) then aBy m bd r (max s (bd.getD f.toNat 0)) (max h (eA m f)) else aBy m bd r s h
def aPm (m:Im) (r:List Int×Int×Unit):Int×Int×Int×Unit:=
 bif r.2.1 !=0 then (0,0,r.2.1,()) else ((aBy m r.1 m.2.2.2.2.1 0 0).1,IntKind.i64.wrap ((m.2.1.length:Int)+(aBy m r.1 m.2.2.2.2.1 0 0).2),0,())
noncomputable def aEW (m:Im) (l:List (List Sh)):Option (Int×Int×Int×Unit):=bif aJ m then (aJD m l).bind fun r=>some (aPm m r) else none
def mO (m:Im) (i:Ins):Int:=bif i.1==22 then qN m i.2.1 else bif i.1==23 then IntKind.i64.wrap (1+i.2.1) else lL ((bX m i).map (eA m))
def sX (m:Im) (i:Ins):Option (Int×Unit):=bif cN m&&(bX m i).all (inM m) then some (mO m i,()) else none
end Go.Pli

namespace Go.Pli
open Go Go.PM
def vB (l:List Cl) (a b:Tp):Option (Tp×Unit):=bif okL l then some (gJ l a b,()) else none
def pB (m:Im) (f pc:Int) (s:List Tp):Option St4:=bif aJ m&&okL s then some (aQ m f pc s) else none
def kV (l:List Cl) (a:List Tp):List Int→Bool→List Sh→Option (Bool×List Sh)
 | [],t,h=>some (t,h)
 | to::r,t,h=>
  bif !(dC l (h.getD to.toNat zSh) a).2.2.1 then none
  else bif (dC l (h.getD to.toNat zSh) a).2.1 then kV l a r true (h.set to.toNat (dC l (h.getD to.toNat zSh) a).1)
  else kV l a r t h
def oE (m:Im) (f:Int) (pc:Nat) (t:Bool) (h:List Sh):Option (Bool×List Sh):=
 bif !(h.getD pc zSh).1 then some (t,h)
 else bif (aQ m f (pc:Int) (h.getD pc zSh).2.1).2.2.1 !=0 then none
 else kV m.1 (aQ m f (pc:Int) (h.getD pc zSh).2.1).1 (aQ m f (pc:Int) (h.getD pc zSh).2.1).2.1 t h
def jE (m:Im) (f:Int):Nat→Bool→List Sh→Option (Bool×List Sh)
 | 0,t,h=>some (t,h)
 | pc+1,t,h=>(oE m f pc t h).bind fun r=>jE m f pc r.1 r.2
def hZ (m:Im) (f:Int):Nat→List Sh→List Sh×Bool×Unit
 | 0,_=>([],false,())
 | n+1,h=>match jE m f (codeN m f) false h with
  | none=>([],false,())
  | some r=>bif r.1 then hZ m f n r.2 else (r.2,true,())
def hU (m:Im) (f:Int):List Sh:=(List.replicate (codeN m f) zSh).set 0 (true,[],())
def vF (m:Im) (f:Int):Option (List Sh×Bool×Unit):=bif aJ m&&inM m f then some (hZ m f 4000 (hU m f)) else none
def uI (m:Im):List Int→List (List Sh)→List (List Sh)×Int×Unit
 | [],out=>(out,-1,())
 | f::l,out=>bif (hZ m f 4000 (hU m f)).2.1 then uI m l (out++[(hZ m f 4000 (hU m f)).1]) else ([],f,())
def kN (m:Im):Option (List (List Sh)×Int×Unit):=bif aJ m then some (uI m (ints m.2.2.2.1.length) []) else none
end Go.Pli

namespace Go.Pli
open Go Go.PM
def xR (m:Im):Nat→Nat→Bool:=eM (gM m) m.2.2.2.1.length
end Go.Pli

namespace Go.Pli
open Go Go.PM
def aAj (m:Im) (l:List (List Sh)) (f:Int) (pc:Nat):Bool:=
 (bS l f (pc:Int)).1&&(aQ m f (pc:Int) (bS l f (pc:Int)).2.1).2.1.any fun to=>decide ((eF m f).getD pc 0<IntKind.i64.wrap (mO m (aG m f (pc:Int))+(eF m f).getD to.toNat 0))
def nF (m:Im) (l:List (List Sh)) (f:Int):Bool:=decide ((eF m f).getD 0 0>eA m f) || (List.range (codeN m f)).any (aAj m l f)
def tC (m:Im) (l:List (List Sh)):Int:=match (ints m.2.2.2.1.length).find? (nF m l) with
 | some f=>f
 | none=> -1
def zJ (m:Im) (l:List (List Sh)):Bool:=eN l&&(decide (l.length=m.2.2.2.1.length)&&(ints m.2.2.2.1.length).all fun f=>decide ((l.getD f.toNat []).length=codeN m f))
def qU (m:Im) (l:List (List Sh)):Option (Int×Unit):=bif aJ m&&zJ m l then some (tC m l,()) else none
end Go.Pli

namespace Go.Pli
open Go Go.PM
def rA (l:List Int):Int:=(l.drop 1).foldl max (l.getD 0 0)
def wB (l:List Int):Option (Int×Unit):=bif okL l&&decide (0<l.length) then some (rA l,()) else none
def uY (m:Im):Bool:=decide ((m.2.2.2.1.length:Int)≤12)&&(decide ((m.1.length:Int)≤8)&&(decide ((m.2.2.1.length:Int)≤16)&&(sV m==0)))
def eE (c:Int) (pc:Nat):List Int→Bool→List Int→Bool×List Int
 | [],t,phi=>(t,phi)
 | to::r,t,phi=>
  bif decide (IntKind.i64.wrap (c+phi.getD to.toNat 0)>phi.getD pc 0) then eE c pc r true (phi.set pc (IntKind.i64.wrap (c+phi.getD to.toNat 0)))
  else eE c pc r t phi
def jN (m:Im) (l:List (List Sh)) (f:Int) (pc:Nat) (t:Bool) (phi:List Int):Bool×List Int:=
 bif !(bS l f (pc:Int)).1 then (t,phi)
 else eE (iH m (aG m f (pc:Int))) pc (aQ m f (pc:Int) (bS l f (pc:Int)).2.1).2.1 t phi
def eK (m:Im) (l:List (List Sh)) (f:Int):List Nat→Bool→List Int→Bool×List Int
 | [],t,phi=>(t,phi)
 | pc::r,t,phi=>eK m l f r (jN m l f pc t phi).1 (jN m l f pc t phi).2
def kQ (m:Im) (l:List (List Sh)) (f:Int):Nat→List Int→List Int×Bool×Unit
 | 0,_=>([],false,())
 | k+1,phi=>
  bif (eK m l f (List.range (codeN m f)) false phi).1 then kQ m l f k (eK m l f (List.range (codeN m f)) false phi).2
  else ((eK m l f (List.range (codeN m f)) false phi).2,decide (rA ((eK m l f (List.range (codeN m f)) false phi).2++[0])≤4096),())
def fY (m:Im) (l:List (List Sh)) (f:Int):List Int×Bool×Unit:=kQ m l f (codeN m f+1) (List.replicate (codeN m f) 0)
def pF (m:Im) (l:List (List Sh)) (f:Int):Option (List Int×Bool×Unit):=bif aJ m&&(eN l&&inM m f) then some (fY m l f) else none
def hY (x:Mt) (p:Int):Mt:=(x.1,x.2.1,x.2.2.1,x.2.2.2.1,x.2.2.2.2.1,p,x.2.2.2.2.2.2)
def lH (x:Mt) (p:List Int):Mt:=(x.1,x.2.1,x.2.2.1,x.2.2.2.1,x.2.2.2.2.1,x.2.2.2.2.2.1,p,())
def aL (m:Im) (ms:List Mt):Im:=(m.1,m.2.1,m.2.2.1,ms,m.2.2.2.2)
def oG (m:Im) (l:List (List Sh)):List Int→List Mt→Option (Option (List Mt))
 | [],ms=>some (some ms)
 | f::r,ms=>(pF (aL m ms) l f).bind fun q=>bif !q.2.1 then some none else oG m l r (ms.set f.toNat (lH (ms.getD f.toNat zMt) q.1))
def fV (ms:List Mt) (f:Int):List Mt:=bif decide (((ms.getD f.toNat zMt).2.2.2.2.2.2.1.length:Int)>0) then ms.set f.toNat (hY (ms.getD f.toNat zMt) ((ms.getD f.toNat zMt).2.2.2.2.2.2.1.getD 0 0)) else ms
def nD (ed:List (List Int)) (part:List Int):List Int→List Mt→Option (List Mt)
 | [],ms=>some ms
 | f::r,ms=>bif decide (((fV ms f).getD f.toNat zMt).2.2.2.2.2.1>0)&&jG ed part then none else nD ed part r (fV ms f)
def oF (m:Im) (l:List (List Sh)) (ed:List (List Int)):List (List Int)→List Mt→Option (Option (List Mt))
 | [],ms=>some (some ms)
 | p::ps,ms=>(oG m l p ms).bind fun q=>match q with
  | none=>some none
  | some ms1=>match nD ed p p ms1 with
   | none=>some none
   | some ms2=>oF m l ed ps ms2
def aEB (m:Im):Option (List Mt)→Im×Bool×Unit
 | none=>(zIm,false,())
 | some ms=>(aL m ms,true,())
noncomputable def lI (m:Im) (l:List (List Sh)):Option (Im×Bool×Unit):=
 bif aJ m&&wW m then (kM (fG m)).bind fun r=>bif okL r.1&&r.1.all (fun p=>okL p&&p.all (inM m)) then
  (oF m l (fG m) r.1 (m.2.2.2.1.map fun x=>hY x 0)).bind fun q=>some (aEB m q) else none else none
end Go.Pli

namespace Go.Pli
open Go Go.PM
noncomputable section
def aIG (_s:Unit) (n:Int):Option (List Tp×Unit):=
 bif decide (n<0) then
  none
 else bif decide (IntKind.i64.wrap (n - (IntKind.i64.wrap ((0:Int) - (([]:List Tp).length:Int))))>0) then
  bif decide (0<IntKind.i64.wrap (n - (IntKind.i64.wrap ((0:Int) - (([]:List Tp).length:Int)))))&&decide (IntKind.i64.wrap (n - (IntKind.i64.wrap ((0:Int) - (([]:List Tp).length:Int))))<(rowMax:Int)) then
   bif decide ((0:Int)≤(([]:List Tp).length:Int))&&decide ((([]:List Tp).length:Int)≤((List.replicate (IntKind.i64.wrap (n - (IntKind.i64.wrap ((0:Int) - (([]:List Tp).length:Int))))).toNat zTp).length:Int))&&true then
    some (((List.replicate (IntKind.i64.wrap (n - (IntKind.i64.wrap ((0:Int) - (([]:List Tp).length:Int))))).toNat zTp).take (([]:List Tp).length:Int).toNat).drop 0,())
   else none
  else none
 else some (([]:List Tp),())
def aB3 (l:List (List Tp)) (s4:List Tp×Int×Unit) (rec5:(List Tp×Int×Unit)→Option (List Tp×Unit)):Option (List Tp×Unit):=
 bif decide (s4.2.1<(l.length:Int)) then
  bif decide (0≤s4.2.1)&&decide (s4.2.1<l.length) then
   bif decide (s4.1.length+(l.getD s4.2.1.toNat ([]:List Tp)).length<rowMax)&&true then
    rec5 (s4.1++(l.getD s4.2.1.toNat ([]:List Tp)),IntKind.i64.wrap (s4.2.1+1),())
   else none
  else none
 else some (s4.1,())
def aEL (l:List (List Tp)) (fuel:Nat) (s1:Int×Int×Unit) (rec2:(Int×Int×Unit)→Option (List Tp×Unit)):Option (List Tp×Unit):=
 bif decide (s1.2.1<(l.length:Int)) then
  bif decide (0≤s1.2.1)&&decide (s1.2.1<l.length) then
   bif decide (IntKind.i64.wrap (s1.1+((l.getD s1.2.1.toNat ([]:List Tp)).length:Int))<0) then
    none
   else rec2 (IntKind.i64.wrap (s1.1+((l.getD s1.2.1.toNat ([]:List Tp)).length:Int)),IntKind.i64.wrap (s1.2.1+1),())
  else none
 else
  (wO () s1.1).bind fun r3=>
  aE (aB3 l) fuel (r3.1,((0:Int),()))
def aJU (fuel:Nat) (l:List (List Tp)):Option (List Tp×Unit):=
 aE (aEL l fuel) fuel ((0:Int),((0:Int),()))
def aQB (s:List Int) (_v:Int):Prop:=(s.length≤lenMax∧∀x1:Int,x1∈s→True)∧True∧True
def aEi (s:List Int) (v:Int) (s1:Int×Unit) (rec2:(Int×Unit)→Option (Int×Unit)):Option (Int×Unit):=
 bif decide (s1.1<(s.length:Int)) then
  bif decide (0≤s1.1)&&decide (s1.1<s.length) then
   bif v==(s.getD s1.1.toNat 0) then
    some (s1.1,())
   else rec2 (IntKind.i64.wrap (s1.1+1),())
  else none
 else some ((-1:Int),())
def aQA (fuel:Nat) (s:List Int) (v:Int):Option (Int×Unit):=
 aE (aEi s v) fuel ((0:Int),())
def aSa (s:List Int) (_v:Int):Prop:=(s.length≤lenMax∧∀x1:Int,x1∈s→True)∧True∧True
def aJP (s:List Int) (v:Int):Option (Bool×Unit):=
 some (decide ((aBJ s v)≥0),())
def aJ3 (s:List Iq):Option (List Iq×Unit):=
 bif decide ((s.length:Int)=(s.length:Int))&&decide ((s.length:Int)=(s.length:Int)) then
  some (s,())
 else none
def aJF (m:Im) (c:Int):Option (Int×Unit):=
 bif decide (0≤c)&&decide (c<m.1.length) then
  bif decide ((m.1.getD c.toNat zCl).1≥c) then
   some ((-1:Int),())
  else bif decide (0≤c)&&decide (c<m.1.length) then
   some ((m.1.getD c.toNat zCl).1,())
  else none
 else none
def aCb (m:Im) (s1:Int×List Tp×Unit) (rec2:(Int×List Tp×Unit)→Option (List Tp×Unit)):Option (List Tp×Unit):=
 bif decide (s1.1≥0) then
  bif decide (0≤s1.1)&&decide (s1.1<m.1.length) then
   (oN [(m.1.getD s1.1.toNat zCl).2.1,s1.2.1]).bind fun r3=>
   (cup m s1.1).bind fun r4=>
   rec2 (r4.1,r3.1,())
  else none
 else some (s1.2.1,())
def aKl (fuel:Nat) (m:Im) (c:Int):Option (List Tp×Unit):=
 bif decide (c≥(m.1.length:Int)) then
  some (([]:List Tp),())
 else aE (aCb m) fuel (c,(([]:List Tp),()))
def aJL (m:Im) (c:Int):Option (Int×Unit):=
 (pZ m c).bind fun r1=>
 some (IntKind.i64.wrap ((1:Int)+(r1.1.length:Int)),())
def aJ0 (x:Mt) (n:Int):Option (Tp×Unit):=
 bif decide (n<0) then
  some (((0:Int),((0:Int),())),())
 else bif decide (n≥IntKind.i64.wrap ((x.1.length:Int)+(x.2.1.length:Int))) then
  some (((0:Int),((0:Int),())),())
 else bif decide (n<(x.1.length:Int)) then
  bif decide (0≤n)&&decide (n<x.1.length) then
   some (x.1.getD n.toNat zTp,())
  else none
 else bif decide (0≤IntKind.i64.wrap (n - (x.1.length:Int)))&&decide (IntKind.i64.wrap (n - (x.1.length:Int))<x.2.1.length) then
  some (x.2.1.getD (IntKind.i64.wrap (n - (x.1.length:Int))).toNat zTp,())
 else none
def aHE (o:Int):Option (Bool×Unit):=
 bif decide (o≥7) then
  some (decide (o≤17),())
 else some (false,())
def jD:Tp:=
 ((1:Int),((0:Int),()))
def wU:Tp:=
 ((2:Int),((0:Int),()))
def nB (c:Int):Tp:=
 ((3:Int),c,())
def gX (t:List Tp):List Tp:=
 t
def gC (t:Tp):List Tp:=
 [t]
def aJo (x:Mt) (t:List Tp):Option ((List Tp×List Tp×Unit)×Unit):=
 bif decide (0≤(t.length:Int))&&decide ((t.length:Int)≤(x.1.length:Int))&&decide ((x.1.length:Int)≤(x.1.length:Int)) then
  (oN [t,(x.1.take x.1.length).drop t.length]).bind fun r1=>
  bif x.2.2.1.1 !=5 then
   some ((r1.1,[x.2.2.1],()),())
  else some ((r1.1,(([]:List Tp),())),())
 else none
def aIV (o:Int):Option ((List Tp×List Tp×Unit)×Bool×Unit):=
 bif o==2 then
  some ((([]:List Tp),((gX [((4:Int),((0:Int),()))]),())),true,())
 else bif o==5 then
  some (((gX [((0:Int),((0:Int),()))]),(([]:List Tp),())),true,())
 else bif o==20 then
  some (((gX [((4:Int),((0:Int),()))]),(gX [jD]),()),true,())
 else bif o==21 then
  some (((gX [((4:Int),((0:Int),())),((4:Int),((0:Int),()))]),(gX [jD]),()),true,())
 else bif o==24 then
  some (((gX [wU,jD]),(gX [jD]),()),true,())
 else bif o==25 then
  some (((gX [wU,jD,jD]),(([]:List Tp),())),true,())
 else bif o==26 then
  some (((gX [wU]),(gX [jD]),()),true,())
 else bif o==1 then
  some ((([]:List Tp),(gX [jD]),()),true,())
 else bif o==19 then
  some (((gX [jD]),(([]:List Tp),())),true,())
 else bif o==18 then
  some ((([]:List Tp),(([]:List Tp),())),true,())
 else bif o==23 then
  some (((gX [jD]),(gX [wU]),()),true,())
 else bif (mR o) then
  some (((gX [jD,jD]),(gX [jD]),()),true,())
 else some ((([]:List Tp),(([]:List Tp),())),false,())
def aIX (m:Im) (i:Ins) (f:Int):Option ((List Tp×List Tp×Unit)×Unit):=
 bif decide (0≤f)&&decide (f<m.2.2.2.1.length) then
  let r1:=eP i.1
  bif r1.2.1 then
   some (r1.1,())
  else bif i.1==3 then
   (uE (m.2.2.2.1.getD f.toNat zMt) i.2.1).bind fun r2=>
   some ((([]:List Tp),(gC r2.1),()),())
  else bif i.1==4 then
   (uE (m.2.2.2.1.getD f.toNat zMt) i.2.1).bind fun r3=>
   some (((gC r3.1),(([]:List Tp),())),())
  else bif i.1==22 then
   some ((([]:List Tp),(gC (nB i.2.1)),()),())
  else bif i.1==27 then
   (pZ m i.2.1).bind fun r4=>
   bif decide (0≤i.2.2.1)&&decide (i.2.2.1<r4.1.length) then
    some (((gC (nB i.2.1)),(gC (r4.1.getD i.2.2.1.toNat zTp)),()),())
   else none
  else bif i.1==28 then
   (pZ m i.2.1).bind fun r5=>
   bif decide (0≤i.2.2.1)&&decide (i.2.2.1<r5.1.length) then
    some (([(nB i.2.1),r5.1.getD i.2.2.1.toNat zTp],(([]:List Tp),())),())
   else none
  else bif i.1==29 then
   bif decide (0≤i.2.1)&&decide (i.2.1<m.2.1.length) then
    some ((([]:List Tp),(gC (m.2.1.getD i.2.1.toNat zTp)),()),())
   else none
  else bif i.1==30 then
   bif decide (0≤i.2.1)&&decide (i.2.1<m.2.1.length) then
    some (((gC (m.2.1.getD i.2.1.toNat zTp)),(([]:List Tp),())),())
   else none
  else bif i.1==31 then
   bif decide (0≤i.2.1)&&decide (i.2.1<m.2.2.2.1.length) then
    (tY (m.2.2.2.1.getD i.2.1.toNat zMt) ([]:List Tp)).bind fun r6=>
    some (r6.1,())
   else none
  else bif i.1==32 then
   let r7:=dQ m i.2.1 i.2.2.1
   bif decide (0≤r7.1)&&decide (r7.1<m.2.2.2.1.length) then
    (tY (m.2.2.2.1.getD r7.1.toNat zMt) (gC (nB i.2.1))).bind fun r8=>
    some (r8.1,())
   else none
  else bif i.1==34 then
   some (((gC ((4:Int),((0:Int),()))),(gC (nB i.2.1)),()),())
  else bif i.1==33 then
   bif ((m.2.2.2.1.getD f.toNat zMt).2.2.1.1) !=5 then
    some (((gC (m.2.2.2.1.getD f.toNat zMt).2.2.1),(([]:List Tp),())),())
   else some ((([]:List Tp),(([]:List Tp),())),())
  else some ((([]:List Tp),(([]:List Tp),())),())
 else none
def aJm (m:Im) (o:Int) (t:Tp) (w:Tp):Option (Bool×Unit):=
 bif w.1==0 then
  some (true,())
 else bif w.1==4 then
  bif (iS t) then
   bif o !=34 then
    some (true,())
   else some (t.1 !=2,())
  else some (false,())
 else some ((cR m.1 t w),())
def aIY (i:Ins) (pc:Int):Option (List Int×Unit):=
 bif i.1==18 then
  some ([i.2.1],())
 else bif i.1==19 then
  some ([IntKind.i64.wrap (pc+1),i.2.1],())
 else bif i.1==33 then
  some (([]:List Int),())
 else some ([IntKind.i64.wrap (pc+1)],())
def aEt (m:Im) (f:Int) (pc:Int) (s:List Tp) (r2:(List Tp×List Tp×Unit)×Unit) (s3:List Int×Int×Unit) (rec4:(List Int×Int×Unit)→Option (List Tp×List Int×Int×Unit)):Option (List Tp×List Int×Int×Unit):=
 bif decide (s3.2.1<(r2.1.1.length:Int)) then
  bif decide (0≤s3.2.1)&&decide (s3.2.1<r2.1.1.length) then
   bif decide (0≤IntKind.i64.wrap ((IntKind.i64.wrap ((s.length:Int) - (r2.1.1.length:Int)))+s3.2.1))&&decide (IntKind.i64.wrap ((IntKind.i64.wrap ((s.length:Int) - (r2.1.1.length:Int)))+s3.2.1)<s.length) then
    bif !(eC m ((m.2.2.2.1.getD f.toNat zMt).2.2.2.1.getD pc.toNat zIns).1 (s.getD (IntKind.i64.wrap ((IntKind.i64.wrap ((s.length:Int) - (r2.1.1.length:Int)))+s3.2.1)).toNat zTp) (r2.1.1.getD s3.2.1.toNat zTp)) then
     some (([]:List Tp),(([]:List Int),((4:Int),())))
    else rec4 (s3.1,IntKind.i64.wrap (s3.2.1+1),())
   else none
  else none
 else bif decide ((0:Int)≤IntKind.i64.wrap ((s.length:Int) - (r2.1.1.length:Int)))&&decide (IntKind.i64.wrap ((s.length:Int) - (r2.1.1.length:Int))≤(s.length:Int)) then
  (oN [(s.take (IntKind.i64.wrap ((s.length:Int) - (r2.1.1.length:Int))).toNat).drop 0,r2.1.2.1]).bind fun r5=>
  some (r5.1,s3.1,((0:Int),()))
 else none
def aIT (fuel:Nat) (m:Im) (f:Int) (pc:Int) (s:List Tp):Option (List Tp×List Int×Int×Unit):=
 bif decide (f<0) then
  some (([]:List Tp),(([]:List Int),((1:Int),())))
 else bif decide (f≥(m.2.2.2.1.length:Int)) then
  some (([]:List Tp),(([]:List Int),((1:Int),())))
 else bif decide (pc<0) then
  some (([]:List Tp),(([]:List Int),((1:Int),())))
 else bif decide (0≤f)&&decide (f<m.2.2.2.1.length) then
  bif decide (pc≥((m.2.2.2.1.getD f.toNat zMt).2.2.2.1.length:Int)) then
   some (([]:List Tp),(([]:List Int),((1:Int),())))
  else bif decide (0≤f)&&decide (f<m.2.2.2.1.length) then
   bif decide (0≤pc)&&decide (pc<(m.2.2.2.1.getD f.toNat zMt).2.2.2.1.length) then
    bif decide (0≤f)&&decide (f<m.2.2.2.1.length) then
     bif (wY (eB ((m.2.2.2.1.getD f.toNat zMt).2.2.2.1.getD pc.toNat zIns) pc) ((m.2.2.2.1.getD f.toNat zMt).2.2.2.1.length:Int)) then
      some (([]:List Tp),(([]:List Int),((4:Int),())))
     else bif (((m.2.2.2.1.getD f.toNat zMt).2.2.2.1.getD pc.toNat zIns).1)==6 then
      bif (s.length:Int)==0 then
       some (([]:List Tp),(([]:List Int),((4:Int),())))
      else bif decide ((s.length:Int)≥8) then
       some (([]:List Tp),(([]:List Int),((4:Int),())))
      else bif decide (0≤IntKind.i64.wrap ((s.length:Int) - 1))&&decide (IntKind.i64.wrap ((s.length:Int) - 1)≤(s.length:Int))&&decide ((s.length:Int)≤(s.length:Int)) then
       (oN [s,(s.take s.length).drop (IntKind.i64.wrap ((s.length:Int) - 1)).toNat]).bind fun r1=>
       some (r1.1,(eB ((m.2.2.2.1.getD f.toNat zMt).2.2.2.1.getD pc.toNat zIns) pc),((0:Int),()))
      else none
     else
      (fof m ((m.2.2.2.1.getD f.toNat zMt).2.2.2.1.getD pc.toNat zIns) f).bind fun r2=>
      bif decide (IntKind.i64.wrap ((s.length:Int) - (r2.1.1.length:Int))<0) then
       some (([]:List Tp),(([]:List Int),((4:Int),())))
      else bif decide (IntKind.i64.wrap ((IntKind.i64.wrap ((s.length:Int) - (r2.1.1.length:Int)))+(r2.1.2.1.length:Int))>8) then
       some (([]:List Tp),(([]:List Int),((4:Int),())))
      else aE (aEt m f pc s r2) fuel ((eB ((m.2.2.2.1.getD f.toNat zMt).2.2.2.1.getD pc.toNat zIns) pc),((0:Int),()))
    else none
   else none
  else none
 else none
def aRV (_to:Int) (part:List Int):Prop:=True∧(part.length≤lenMax∧∀x1:Int,x1∈part→True)∧True
def aRU (to:Int) (part:List Int):Option (Bool×Unit):=
 some ((wY part to),())
def aQF (l:List Int) (c:List Int×Unit):Prop:=(l.length≤lenMax∧∀x1:Int,x1∈l→True)∧((c.1.length≤lenMax∧∀x1:Int,x1∈c.1→True)∧True)∧True
def aEj (l:List Int) (c:List Int×Unit) (s1:Int×Unit) (rec2:(Int×Unit)→Option (Int×Unit)):Option (Int×Unit):=
 bif decide (s1.1<(l.length:Int)) then
  bif decide (0≤s1.1)&&decide (s1.1<l.length) then
   bif (uD (l.getD s1.1.toNat 0) c.1) then
    some (s1.1,())
   else rec2 (IntKind.i64.wrap (s1.1+1),())
  else none
 else some ((-1:Int),())
def aQE (fuel:Nat) (l:List Int) (c:List Int×Unit):Option (Int×Unit):=
 aE (aEj l c) fuel ((0:Int),())
def aSd (l:List Int) (c:List Int×Unit):Prop:=(l.length≤lenMax∧∀x1:Int,x1∈l→True)∧((c.1.length≤lenMax∧∀x1:Int,x1∈c.1→True)∧True)∧True
def aJQ (l:List Int) (c:List Int×Unit):Option (Bool×Unit):=
 some (decide ((aBL l c)≥0),())
def aB1 (l:List (List Int)) (part:List Int) (s1:Int×Unit) (rec2:(Int×Unit)→Option (Bool×Unit)):Option (Bool×Unit):=
 bif decide (s1.1<(part.length:Int)) then
  bif decide (0≤s1.1)&&decide (s1.1<part.length) then
   bif decide (part.getD s1.1.toNat 0<0) then
    rec2 (IntKind.i64.wrap (s1.1+1),())
   else bif decide (part.getD s1.1.toNat 0≥(l.length:Int)) then
    rec2 (IntKind.i64.wrap (s1.1+1),())
   else bif decide (0≤part.getD s1.1.toNat 0)&&decide (part.getD s1.1.toNat 0<l.length) then
    bif (aAd (l.getD (part.getD s1.1.toNat 0).toNat ([]:List Int)) (part,())) then
     some (true,())
    else rec2 (IntKind.i64.wrap (s1.1+1),())
   else none
  else none
 else some (false,())
def aJE (fuel:Nat) (l:List (List Int)) (part:List Int):Option (Bool×Unit):=
 aE (aB1 l part) fuel ((0:Int),())
def aHF (x:Int) (y:Int):Option (Int×Int×Unit):=
 some (IntKind.u64.wrap ((IntKind.u64.wrap ((IntKind.u64.wrap ((x.fdiv 4294967296)*(y.fdiv 4294967296)))+((IntKind.u64.wrap ((IntKind.u64.wrap ((x.fdiv 4294967296)*(IntKind.u64.wrap ((BitVec.ofInt 64 y&&&BitVec.ofInt 64 4294967295).toNat))))+((IntKind.u64.wrap ((IntKind.u64.wrap ((BitVec.ofInt 64 x&&&BitVec.ofInt 64 4294967295).toNat))*(IntKind.u64.wrap ((BitVec.ofInt 64 y&&&BitVec.ofInt 64 4294967295).toNat)))).fdiv 4294967296))).fdiv 4294967296)))+((IntKind.u64.wrap ((IntKind.u64.wrap ((BitVec.ofInt 64 (IntKind.u64.wrap ((IntKind.u64.wrap ((x.fdiv 4294967296)*(IntKind.u64.wrap ((BitVec.ofInt 64 y&&&BitVec.ofInt 64 4294967295).toNat))))+((IntKind.u64.wrap ((IntKind.u64.wrap ((BitVec.ofInt 64 x&&&BitVec.ofInt 64 4294967295).toNat))*(IntKind.u64.wrap ((BitVec.ofInt 64 y&&&BitVec.ofInt 64 4294967295).toNat)))).fdiv 4294967296)))&&&BitVec.ofInt 64 4294967295).toNat))+(IntKind.u64.wrap ((IntKind.u64.wrap ((BitVec.ofInt 64 x&&&BitVec.ofInt 64 4294967295).toNat))*(y.fdiv 4294967296))))).fdiv 4294967296)),IntKind.u64.wrap (x*y),())
def aIc (n:Int):Option ((Int×Bool×Unit)×Unit):=
 bif decide (n>(-4611686018427387904:Int)) then
  some ((n,decide (n<4611686018427387904),()),())
 else some ((n,false,()),())
def aH5 (n:Int):Option (Int×Unit):=
 bif decide (n<0) then
  some (IntKind.u64.wrap (IntKind.i64.wrap (0 - n)),())
 else some (IntKind.u64.wrap n,())
def aH6 (a:Int×Bool×Unit) (b:Int×Bool×Unit):Option ((Int×Bool×Unit)×Unit):=
 bif !a.2.1 then
  some (((0:Int),false,()),())
 else bif !b.2.1 then
  some (((0:Int),false,()),())
 else some ((lof (IntKind.i64.wrap (a.1+b.1))),())
def aH3 (a:Int×Bool×Unit) (b:Int×Bool×Unit):Option ((Int×Bool×Unit)×Unit):=
 bif !a.2.1 then
  some (((0:Int),false,()),())
 else bif !b.2.1 then
  some (((0:Int),false,()),())
 else
  (vV (fX a.1) (fX b.1)).bind fun r1=>
  bif r1.1 !=0 then
   some (((0:Int),false,()),())
  else bif decide (r1.2.1≥4611686018427387904) then
   some (((0:Int),false,()),())
  else some ((lof (IntKind.i64.wrap (a.1*b.1))),())
def aBG (q:Iq) (v:List Int) (s1:Int×(Int×Bool×Unit)×Unit) (rec2:(Int×(Int×Bool×Unit)×Unit)→Option (Bool×Int×Unit)):Option (Bool×Int×Unit):=
 bif decide (s1.1<(q.1.length:Int)) then
  bif decide (0≤s1.1)&&decide (s1.1<q.1.length) then
   bif decide (0≤s1.1)&&decide (s1.1<v.length) then
    (zK (lof (q.1.getD s1.1.toNat 0)) (lof (v.getD s1.1.toNat 0))).bind fun r3=>
    (zL s1.2.1 r3.1).bind fun r4=>
    rec2 (IntKind.i64.wrap (s1.1+1),r4.1,())
   else none
  else none
 else bif !s1.2.1.2.1 then
  some (false,((14:Int),()))
 else some (decide (s1.2.1.1≤q.2.1),((0:Int),()))
def aIi (fuel:Nat) (q:Iq) (v:List Int):Option (Bool×Int×Unit):=
 bif (q.1.length:Int) !=(v.length:Int) then
  some (false,((14:Int),()))
 else aE (aBG q v) fuel ((0:Int),((lof (0:Int)),()))
def aG7 (l:List (List Sh)) (f:Int) (pc:Int):Option (Sh×Unit):=
 bif decide (f≥(l.length:Int)) then
  some ((false,(([]:List Tp),())),())
 else bif decide (0≤f)&&decide (f<l.length) then
  bif decide (pc≥((l.getD f.toNat ([]:List Sh)).length:Int)) then
   some ((false,(([]:List Tp),())),())
  else bif decide (0≤f)&&decide (f<l.length) then
   bif decide (0≤pc)&&decide (pc<(l.getD f.toNat ([]:List Sh)).length) then
    some ((l.getD f.toNat ([]:List Sh)).getD pc.toNat zSh,())
   else none
  else none
 else none
def aBr (m:Im) (r2:List Int×Unit) (s3:Int×Int×Unit) (rec4:(Int×Int×Unit)→Option (Int×Unit)):Option (Int×Unit):=
 bif decide (s3.2.1<(r2.1.length:Int)) then
  bif decide (0≤s3.2.1)&&decide (s3.2.1<r2.1.length) then
   bif decide (r2.1.getD s3.2.1.toNat 0≥0) then
    bif decide (r2.1.getD s3.2.1.toNat 0<(m.2.2.2.1.length:Int)) then
     bif decide (0≤r2.1.getD s3.2.1.toNat 0)&&decide (r2.1.getD s3.2.1.toNat 0<m.2.2.2.1.length) then
      rec4 (max s3.1 (m.2.2.2.1.getD (r2.1.getD s3.2.1.toNat 0).toNat zMt).2.2.2.2.2.1,IntKind.i64.wrap (s3.2.1+1),())
     else none
    else rec4 (s3.1,IntKind.i64.wrap (s3.2.1+1),())
   else rec4 (s3.1,IntKind.i64.wrap (s3.2.1+1),())
  else none
 else some (s3.1,())
def aHj (fuel:Nat) (m:Im) (i:Ins):Option (Int×Unit):=
 bif i.1==22 then
  (wX m i.2.1).bind fun r1=>
  some (r1.1,())
 else bif i.1==23 then
  some (IntKind.i64.wrap ((1:Int)+(max 0 (min i.2.1 255))),())
 else
  (pY m i).bind fun r2=>
  aE (aBr m r2) fuel ((0:Int),((0:Int),()))
def aHa (n:Int) (a:Int) (b:Int) (c:Int):Option (Iq×Unit):=
 bif decide (0≤n)&&decide (n≤n)&&decide (n<(rowMax:Int)) then
  bif decide (a≥0) then
   bif decide (0≤a)&&decide (a<(List.replicate n.toNat (0:Int)).length) then
    bif decide (0≤a)&&decide (a<(List.replicate n.toNat (0:Int)).length) then
     bif decide (b≥0) then
      bif decide (0≤b)&&decide (b<((List.replicate n.toNat (0:Int)).set a.toNat (IntKind.i64.wrap (((List.replicate n.toNat (0:Int)).getD a.toNat 0) - 1))).length) then
       bif decide (0≤b)&&decide (b<((List.replicate n.toNat (0:Int)).set a.toNat (IntKind.i64.wrap (((List.replicate n.toNat (0:Int)).getD a.toNat 0) - 1))).length) then
        some ((((List.replicate n.toNat (0:Int)).set a.toNat (IntKind.i64.wrap (((List.replicate n.toNat (0:Int)).getD a.toNat 0) - 1))).set b.toNat (IntKind.i64.wrap ((((List.replicate n.toNat (0:Int)).set a.toNat (IntKind.i64.wrap (((List.replicate n.toNat (0:Int)).getD a.toNat 0) - 1))).getD b.toNat 0)+1)),c,()),())
       else none
      else none
     else some (((List.replicate n.toNat (0:Int)).set a.toNat (IntKind.i64.wrap (((List.replicate n.toNat (0:Int)).getD a.toNat 0) - 1)),c,()),())
    else none
   else none
  else bif decide (b≥0) then
   bif decide (0≤b)&&decide (b<(List.replicate n.toNat (0:Int)).length) then
    bif decide (0≤b)&&decide (b<(List.replicate n.toNat (0:Int)).length) then
     some (((List.replicate n.toNat (0:Int)).set b.toNat (IntKind.i64.wrap (((List.replicate n.toNat (0:Int)).getD b.toNat 0)+1)),c,()),())
    else none
   else none
  else some ((List.replicate n.toNat (0:Int),c,()),())
 else none
def yX (m:Im) (f:Int) (r5:List Tp×List Int×Int×Unit) (s2:List Iq×Int×Unit) (rec3:(List Iq×Int×Unit)→Option (List Iq×Unit)) (s9:List Iq×Int×Unit) (rec10:(List Iq×Int×Unit)→Option (List Iq×Unit)):Option (List Iq×Unit):=
 bif decide (s9.2.1<(r5.2.1.length:Int)) then
  bif decide (0≤s9.2.1)&&decide (s9.2.1<r5.2.1.length) then
   (mP m ((m.2.2.2.1.getD f.toNat zMt).2.2.2.1.getD s2.2.1.toNat zIns)).bind fun r11=>
   (qV ((m.2.2.2.1.getD f.toNat zMt).2.2.2.1.length:Int) s2.2.1 (r5.2.1.getD s9.2.1.toNat 0) (IntKind.i64.wrap (0 - r11.1))).bind fun r12=>
   bif decide (s9.1.length+[r12.1].length<rowMax) then
    rec10 (s9.1++[r12.1],IntKind.i64.wrap (s9.2.1+1),())
   else none
  else none
 else rec3 (s9.1,IntKind.i64.wrap (s2.2.1+1),())
def aBi (m:Im) (l:List (List Sh)) (f:Int) (fuel:Nat) (s2:List Iq×Int×Unit) (rec3:(List Iq×Int×Unit)→Option (List Iq×Unit)):Option (List Iq×Unit):=
 bif decide (s2.2.1<((m.2.2.2.1.getD f.toNat zMt).2.2.2.1.length:Int)) then
  bif decide (0≤s2.2.1)&&decide (s2.2.1<(m.2.2.2.1.getD f.toNat zMt).2.2.2.1.length) then
   (pE l f s2.2.1).bind fun r4=>
   bif !r4.1.1 then
    rec3 (s2.1,IntKind.i64.wrap (s2.2.1+1),())
   else
    (pT m f s2.2.1 r4.1.2.1).bind fun r5=>
    bif r5.2.2.1 !=0 then
     rec3 (s2.1,IntKind.i64.wrap (s2.2.1+1),())
    else
     (bif (r5.2.1.length:Int)==0 then
      (qV ((m.2.2.2.1.getD f.toNat zMt).2.2.2.1.length:Int) s2.2.1 (-1:Int) (0:Int)).bind fun r8=>
      bif decide (s2.1.length+[r8.1].length<rowMax) then
       some (.inl (s2.1++[r8.1],()))
      else none
     else some (.inl (s2.1,())):Option ((List Iq×Unit)⊕(List Iq×Unit))).bind fun q=>match q with
     | .inr r7=>some r7
     | .inl s6=>
      aE (yX m f r5 s2 rec3) fuel (s6.1,((0:Int),()))
  else none
 else some ((idL s2.1),())
def aG9 (fuel:Nat) (m:Im) (l:List (List Sh)) (f:Int):Option (List Iq×Unit):=
 bif decide (f<0) then
  some (([]:List Iq),())
 else bif decide (f≥(m.2.2.2.1.length:Int)) then
  some (([]:List Iq),())
 else bif decide (0≤f)&&decide (f<m.2.2.2.1.length) then
  bif ((m.2.2.2.1.getD f.toNat zMt).2.2.2.1.length:Int)==0 then
   some (([]:List Iq),())
  else bif decide (0≤f)&&decide (f<m.2.2.2.1.length) then
   bif decide (0≤f)&&decide (f<m.2.2.2.1.length) then
    (qV ((m.2.2.2.1.getD f.toNat zMt).2.2.2.1.length:Int) (-1:Int) (0:Int) (m.2.2.2.1.getD f.toNat zMt).2.2.2.2.2.1).bind fun r1=>
    aE (aBi m l f fuel) fuel ([r1.1],((0:Int),()))
   else none
  else none
 else none
def aHd (n:Int):Bool:=
 decide (n<0)
def aQx (l:List Int) (_c:Unit):Prop:=(l.length≤lenMax∧∀x1:Int,x1∈l→True)∧True∧True
def aEh (l:List Int) (s1:Int×Unit) (rec2:(Int×Unit)→Option (Int×Unit)):Option (Int×Unit):=
 bif decide (s1.1<(l.length:Int)) then
  bif decide (0≤s1.1)&&decide (s1.1<l.length) then
   bif (aHd (l.getD s1.1.toNat 0)) then
    some (s1.1,())
   else rec2 (IntKind.i64.wrap (s1.1+1),())
  else none
 else some ((-1:Int),())
def aQw (fuel:Nat) (l:List Int) (_c:Unit):Option (Int×Unit):=
 aE (aEh l) fuel ((0:Int),())
def aR8 (l:List Int) (_c:Unit):Prop:=(l.length≤lenMax∧∀x1:Int,x1∈l→True)∧True∧True
def aJN (l:List Int) (c:Unit):Option (Bool×Unit):=
 some (decide ((aBI l c)≥0),())
def aBs (m:Im) (s1:Int×Unit) (rec2:(Int×Unit)→Option (Int×Int×Unit)) (r3:List Iq×Unit) (s4:Int×Unit) (rec5:(Int×Unit)→Option (Int×Int×Unit)):Option (Int×Int×Unit):=
 bif decide (s4.1<(r3.1.length:Int)) then
  bif decide (0≤s4.1)&&decide (s4.1<r3.1.length) then
   (wG (r3.1.getD s4.1.toNat zIq) (m.2.2.2.1.getD s1.1.toNat zMt).2.2.2.2.2.2.1).bind fun r6=>
   bif r6.2.1 !=0 then
    some (s1.1,((6:Int),()))
   else bif !r6.1 then
    some (s1.1,((6:Int),()))
   else rec5 (IntKind.i64.wrap (s4.1+1),())
  else none
 else bif (aAc (m.2.2.2.1.getD s1.1.toNat zMt).2.2.2.2.2.2.1 ()) then
  some (s1.1,((6:Int),()))
 else rec2 (IntKind.i64.wrap (s1.1+1),())
def vS (m:Im) (l:List (List Sh)) (fuel:Nat) (s1:Int×Unit) (rec2:(Int×Unit)→Option (Int×Int×Unit)):Option (Int×Int×Unit):=
 bif decide (s1.1<(m.2.2.2.1.length:Int)) then
  bif decide (0≤s1.1)&&decide (s1.1<m.2.2.2.1.length) then
   (sZ m l s1.1).bind fun r3=>
   aE (aBs m s1 rec2 r3) fuel ((0:Int),())
  else none
 else some ((0:Int),((0:Int),()))
def aHl (fuel:Nat) (m:Im) (l:List (List Sh)):Option (Int×Int×Unit):=
 aE (vS m l fuel) fuel ((0:Int),())
def aBf (m:Im) (r2:List Int×Unit) (s3:Int×Int×Unit) (rec4:(Int×Int×Unit)→Option (Int×Unit)):Option (Int×Unit):=
 bif decide (s3.2.1<(r2.1.length:Int)) then
  bif decide (0≤s3.2.1)&&decide (s3.2.1<r2.1.length) then
   bif decide (0≤r2.1.getD s3.2.1.toNat 0)&&decide (r2.1.getD s3.2.1.toNat 0<m.2.2.2.1.length) then
    bif decide ((m.2.2.2.1.getD (r2.1.getD s3.2.1.toNat 0).toNat zMt).2.2.2.2.2.1>s3.1) then
     bif decide (0≤s3.2.1)&&decide (s3.2.1<r2.1.length) then
      bif decide (0≤r2.1.getD s3.2.1.toNat 0)&&decide (r2.1.getD s3.2.1.toNat 0<m.2.2.2.1.length) then
       rec4 ((m.2.2.2.1.getD (r2.1.getD s3.2.1.toNat 0).toNat zMt).2.2.2.2.2.1,IntKind.i64.wrap (s3.2.1+1),())
      else none
     else none
    else rec4 (s3.1,IntKind.i64.wrap (s3.2.1+1),())
   else none
  else none
 else some (s3.1,())
def aG2 (fuel:Nat) (m:Im) (i:Ins):Option (Int×Unit):=
 bif i.1==22 then
  (jA m i.2.1).bind fun r1=>
  some (IntKind.i64.wrap ((1:Int)+(r1.1.length:Int)),())
 else bif i.1==23 then
  some (IntKind.i64.wrap ((1:Int)+i.2.1),())
 else
  (vD m i).bind fun r2=>
  aE (aBf m r2) fuel ((0:Int),((0:Int),()))
end
end Go.Pli

namespace Go.Pli
open Go Go.PM
noncomputable section
def yV (x:Mt) (n:Int):Option (Tp×Unit):=
 bif decide (([]:List Tp).length+x.1.length<rowMax) then
  bif decide ((([]:List Tp)++x.1).length+x.2.1.length<rowMax) then
   bif decide (n<0) then
    some (((0:Int),((0:Int),())),())
   else bif decide (n≥(((([]:List Tp)++x.1)++x.2.1).length:Int)) then
    some (((0:Int),((0:Int),())),())
   else bif decide (0≤n)&&decide (n<((([]:List Tp)++x.1)++x.2.1).length) then
    some (((([]:List Tp)++x.1)++x.2.1).getD n.toNat zTp,())
   else none
  else none
 else none
def yJ (r3:List Int×Unit) (r4:List Int×Unit) (s5:Int×Unit) (rec6:(Int×Unit)→Option (Tp×Unit)):Option (Tp×Unit):=
 bif decide (s5.1<(r3.1.length:Int)) then
  bif decide (0≤s5.1)&&decide (s5.1<r3.1.length) then
   (rin r4.1 (r3.1.getD s5.1.toNat 0)).bind fun r7=>
   bif r7.1 then
    bif decide (0≤s5.1)&&decide (s5.1<r3.1.length) then
     some (((3:Int),r3.1.getD s5.1.toNat 0,()),())
    else none
   else rec6 (IntKind.i64.wrap (s5.1+1),())
  else none
 else some (((0:Int),((0:Int),())),())
def aGk (fuel:Nat) (l:List Cl) (a:Tp) (b:Tp):Option (Tp×Unit):=
 (mL l a b).bind fun r1=>
 bif r1.1 then
  some (b,())
 else
  (mL l b a).bind fun r2=>
  bif r2.1 then
   some (a,())
  else bif a.1 !=3 then
   some (((0:Int),((0:Int),())),())
  else bif b.1 !=3 then
   some (((0:Int),((0:Int),())),())
  else
   (jO l a.2.1).bind fun r3=>
   (jO l b.2.1).bind fun r4=>
   aE (yJ r3 r4) fuel ((1:Int),())
def vG (x:Mt):Option (List Tp×Unit):=
 bif x.2.2.1.1==5 then
  some (([]:List Tp),())
 else some ([x.2.2.1],())
def yS (m:Im) (f:Int) (i:Ins):Option (List Tp×List Tp×Unit):=
 bif i.1==1 then
  some (([]:List Tp),([((1:Int),((0:Int),()))],()))
 else bif i.1==2 then
  some (([]:List Tp),([((4:Int),((0:Int),()))],()))
 else bif i.1==3 then
  bif decide (0≤f)&&decide (f<m.2.2.2.1.length) then
   (yV (m.2.2.2.1.getD f.toNat zMt) i.2.1).bind fun r1=>
   some (([]:List Tp),[r1.1],())
  else none
 else bif i.1==4 then
  bif decide (0≤f)&&decide (f<m.2.2.2.1.length) then
   (yV (m.2.2.2.1.getD f.toNat zMt) i.2.1).bind fun r2=>
   some ([r2.1],(([]:List Tp),()))
  else none
 else bif i.1==5 then
  some ([((0:Int),((0:Int),()))],(([]:List Tp),()))
 else bif i.1==19 then
  some ([((1:Int),((0:Int),()))],(([]:List Tp),()))
 else bif i.1==20 then
  some ([((4:Int),((0:Int),()))],([((1:Int),((0:Int),()))],()))
 else bif i.1==21 then
  some ([((4:Int),((0:Int),())),((4:Int),((0:Int),()))],([((1:Int),((0:Int),()))],()))
 else bif i.1==22 then
  some (([]:List Tp),([((3:Int),i.2.1,())],()))
 else bif i.1==23 then
  some ([((1:Int),((0:Int),()))],([((2:Int),((0:Int),()))],()))
 else bif i.1==24 then
  some ([((2:Int),((0:Int),())),((1:Int),((0:Int),()))],([((1:Int),((0:Int),()))],()))
 else bif i.1==25 then
  some ([((2:Int),((0:Int),())),((1:Int),((0:Int),())),((1:Int),((0:Int),()))],(([]:List Tp),()))
 else bif i.1==26 then
  some ([((2:Int),((0:Int),()))],([((1:Int),((0:Int),()))],()))
 else bif i.1==27 then
  (jA m i.2.1).bind fun r3=>
  bif decide (0≤i.2.2.1)&&decide (i.2.2.1≤IntKind.i64.wrap (i.2.2.1+1))&&decide (IntKind.i64.wrap (i.2.2.1+1)≤(r3.1.length:Int)) then
   some ([((3:Int),i.2.1,())],(r3.1.take (IntKind.i64.wrap (i.2.2.1+1)).toNat).drop i.2.2.1.toNat,())
  else none
 else bif i.1==28 then
  (jA m i.2.1).bind fun r4=>
  bif decide (0≤i.2.2.1)&&decide (i.2.2.1<r4.1.length) then
   some ([((3:Int),i.2.1,()),r4.1.getD i.2.2.1.toNat zTp],(([]:List Tp),()))
  else none
 else bif i.1==29 then
  bif decide (0≤i.2.1)&&decide (i.2.1<m.2.1.length) then
   some (([]:List Tp),[m.2.1.getD i.2.1.toNat zTp],())
  else none
 else bif i.1==30 then
  bif decide (0≤i.2.1)&&decide (i.2.1<m.2.1.length) then
   some ([m.2.1.getD i.2.1.toNat zTp],(([]:List Tp),()))
  else none
 else bif i.1==34 then
  some ([((4:Int),((0:Int),()))],([((3:Int),i.2.1,())],()))
 else bif i.1==33 then
  bif decide (0≤f)&&decide (f<m.2.2.2.1.length) then
   (vG (m.2.2.2.1.getD f.toNat zMt)).bind fun r5=>
   some (r5.1,(([]:List Tp),()))
  else none
 else bif i.1==31 then
  bif decide (0≤i.2.1)&&decide (i.2.1<m.2.2.2.1.length) then
   bif decide (0≤i.2.1)&&decide (i.2.1<m.2.2.2.1.length) then
    (vG (m.2.2.2.1.getD i.2.1.toNat zMt)).bind fun r6=>
    some ((m.2.2.2.1.getD i.2.1.toNat zMt).1,r6.1,())
   else none
  else none
 else bif i.1==32 then
  let r7:=yT m i.2.1 i.2.2.1
  bif decide (0≤r7.1)&&decide (r7.1<m.2.2.2.1.length) then
   bif decide ((1:Int)≤((m.2.2.2.1.getD r7.1.toNat zMt).1.length:Int))&&decide (((m.2.2.2.1.getD r7.1.toNat zMt).1.length:Int)≤((m.2.2.2.1.getD r7.1.toNat zMt).1.length:Int)) then
    bif decide ([((3:Int),i.2.1,())].length+(((m.2.2.2.1.getD r7.1.toNat zMt).1.take ((m.2.2.2.1.getD r7.1.toNat zMt).1.length:Int).toNat).drop 1).length<rowMax) then
     bif decide (0≤r7.1)&&decide (r7.1<m.2.2.2.1.length) then
      (vG (m.2.2.2.1.getD r7.1.toNat zMt)).bind fun r8=>
      some ([((3:Int),i.2.1,())]++(((m.2.2.2.1.getD r7.1.toNat zMt).1.take ((m.2.2.2.1.getD r7.1.toNat zMt).1.length:Int).toNat).drop 1),r8.1,())
     else none
    else none
   else none
  else none
 else bif decide (i.1≥7) then
  bif decide (i.1≤17) then
   some ([((1:Int),((0:Int),())),((1:Int),((0:Int),()))],([((1:Int),((0:Int),()))],()))
  else some (([]:List Tp),(([]:List Tp),()))
 else some (([]:List Tp),(([]:List Tp),()))
def yO (m:Im) (f:Int) (pc:Int) (s:List Tp) (s5:List Int×Unit) (s10:List Tp×List Tp×Unit) (s16:Int×Unit) (rec17:(Int×Unit)→Option (List Tp×List Int×Int×Unit)):Option (List Tp×List Int×Int×Unit):=
 bif decide (s16.1<(s10.1.length:Int)) then
  bif decide (0≤IntKind.i64.wrap ((IntKind.i64.wrap ((s.length:Int) - (s10.1.length:Int)))+s16.1))&&decide (IntKind.i64.wrap ((IntKind.i64.wrap ((s.length:Int) - (s10.1.length:Int)))+s16.1)<s.length) then
   bif decide (0≤s16.1)&&decide (s16.1<s10.1.length) then
    bif ((s10.1.getD s16.1.toNat zTp).1)==0 then
     rec17 (IntKind.i64.wrap (s16.1+1),())
    else bif ((s10.1.getD s16.1.toNat zTp).1)==4 then
     bif !(sR (s.getD (IntKind.i64.wrap ((IntKind.i64.wrap ((s.length:Int) - (s10.1.length:Int)))+s16.1)).toNat zTp)) then
      some (([]:List Tp),(([]:List Int),((4:Int),())))
     else bif (((m.2.2.2.1.getD f.toNat zMt).2.2.2.1.getD pc.toNat zIns).1)==34 then
      bif ((s.getD (IntKind.i64.wrap ((IntKind.i64.wrap ((s.length:Int) - (s10.1.length:Int)))+s16.1)).toNat zTp).1)==2 then
       some (([]:List Tp),(([]:List Int),((4:Int),())))
      else rec17 (IntKind.i64.wrap (s16.1+1),())
     else rec17 (IntKind.i64.wrap (s16.1+1),())
    else
     (mL m.1 (s.getD (IntKind.i64.wrap ((IntKind.i64.wrap ((s.length:Int) - (s10.1.length:Int)))+s16.1)).toNat zTp) (s10.1.getD s16.1.toNat zTp)).bind fun r18=>
     bif !r18.1 then
      some (([]:List Tp),(([]:List Int),((4:Int),())))
     else rec17 (IntKind.i64.wrap (s16.1+1),())
   else none
  else none
 else bif decide ((0:Int)≤IntKind.i64.wrap ((s.length:Int) - (s10.1.length:Int)))&&decide (IntKind.i64.wrap ((s.length:Int) - (s10.1.length:Int))≤(s.length:Int)) then
  bif decide (([]:List Tp).length+((s.take (IntKind.i64.wrap ((s.length:Int) - (s10.1.length:Int))).toNat).drop 0).length<rowMax) then
   bif decide ((([]:List Tp)++((s.take (IntKind.i64.wrap ((s.length:Int) - (s10.1.length:Int))).toNat).drop 0)).length+s10.2.1.length<rowMax) then
    some ((([]:List Tp)++((s.take (IntKind.i64.wrap ((s.length:Int) - (s10.1.length:Int))).toNat).drop 0))++s10.2.1,s5.1,((0:Int),()))
   else none
  else none
 else none
def vE (fuel:Nat) (m:Im) (f:Int) (pc:Int) (s:List Tp):Option (List Tp×List Int×Int×Unit):=
 bif decide (f<0) then
  some (([]:List Tp),(([]:List Int),((1:Int),())))
 else bif decide (f≥(m.2.2.2.1.length:Int)) then
  some (([]:List Tp),(([]:List Int),((1:Int),())))
 else bif decide (pc<0) then
  some (([]:List Tp),(([]:List Int),((1:Int),())))
 else bif decide (0≤f)&&decide (f<m.2.2.2.1.length) then
  bif decide (pc≥((m.2.2.2.1.getD f.toNat zMt).2.2.2.1.length:Int)) then
   some (([]:List Tp),(([]:List Int),((1:Int),())))
  else bif decide (0≤f)&&decide (f<m.2.2.2.1.length) then
   bif decide (0≤pc)&&decide (pc<(m.2.2.2.1.getD f.toNat zMt).2.2.2.1.length) then
    (bif (((m.2.2.2.1.getD f.toNat zMt).2.2.2.1.getD pc.toNat zIns).1)==18 then
     some (.inl ([((m.2.2.2.1.getD f.toNat zMt).2.2.2.1.getD pc.toNat zIns).2.1],()))
    else some (.inl ([IntKind.i64.wrap (pc+1)],())):Option ((List Int×Unit)⊕(List Tp×List Int×Int×Unit))).bind fun q=>match q with
    | .inr r2=>some r2
    | .inl s1=>
     (bif (((m.2.2.2.1.getD f.toNat zMt).2.2.2.1.getD pc.toNat zIns).1)==19 then
      bif decide (s1.1.length+[((m.2.2.2.1.getD f.toNat zMt).2.2.2.1.getD pc.toNat zIns).2.1].length<rowMax) then
       some (.inl (s1.1++[((m.2.2.2.1.getD f.toNat zMt).2.2.2.1.getD pc.toNat zIns).2.1],()))
      else none
     else some (.inl (s1.1,())):Option ((List Int×Unit)⊕(List Tp×List Int×Int×Unit))).bind fun q=>match q with
     | .inr r4=>some r4
     | .inl s3=>
      (bif (((m.2.2.2.1.getD f.toNat zMt).2.2.2.1.getD pc.toNat zIns).1)==33 then
       some (.inl (([]:List Int),()))
      else some (.inl (s3.1,())):Option ((List Int×Unit)⊕(List Tp×List Int×Int×Unit))).bind fun q=>match q with
      | .inr r6=>some r6
      | .inl s5=>
       (bif decide ((s5.1.length:Int)>0) then
        bif decide ((0:Int)<s5.1.length) then
         bif decide (0≤f)&&decide (f<m.2.2.2.1.length) then
          bif decide (s5.1.getD 0 0≥((m.2.2.2.1.getD f.toNat zMt).2.2.2.1.length:Int)) then
           some (.inr (([]:List Tp),(([]:List Int),((4:Int),()))))
          else some (.inl ())
         else none
        else none
       else some (.inl ()):Option (Unit⊕(List Tp×List Int×Int×Unit))).bind fun q=>match q with
       | .inr r8=>some r8
       | .inl _=>
        (yS m f ((m.2.2.2.1.getD f.toNat zMt).2.2.2.1.getD pc.toNat zIns)).bind fun r9=>
        ((bif (((m.2.2.2.1.getD f.toNat zMt).2.2.2.1.getD pc.toNat zIns).1)==6 then
         some (.inl (decide ((s.length:Int)>0),()))
        else some (.inl (false,())):Option ((Bool×Unit)⊕((List Tp×List Tp×Unit)⊕(List Tp×List Int×Int×Unit)))).bind fun q=>match q with
        | .inr r13=>some r13
        | .inl s12=>
         bif s12.1 then
          bif decide (0≤IntKind.i64.wrap ((s.length:Int) - 1))&&decide (IntKind.i64.wrap ((s.length:Int) - 1)<s.length) then
           some (.inl ([((0:Int),((0:Int),()))],([s.getD (IntKind.i64.wrap ((s.length:Int) - 1)).toNat zTp,s.getD (IntKind.i64.wrap ((s.length:Int) - 1)).toNat zTp],())))
          else none
         else some (.inl (r9.1,r9.2.1,())):Option ((List Tp×List Tp×Unit)⊕(List Tp×List Int×Int×Unit))).bind fun q=>match q with
        | .inr r11=>some r11
        | .inl s10=>
         (bif (((m.2.2.2.1.getD f.toNat zMt).2.2.2.1.getD pc.toNat zIns).1)==6 then
          bif (s.length:Int)==0 then
           some (.inr (([]:List Tp),(([]:List Int),((4:Int),()))))
          else bif decide ((s10.1.length:Int)>(s.length:Int)) then
           some (.inr (([]:List Tp),(([]:List Int),((4:Int),()))))
          else bif decide (IntKind.i64.wrap ((IntKind.i64.wrap ((s.length:Int) - (s10.1.length:Int)))+(s10.2.1.length:Int))>8) then
           some (.inr (([]:List Tp),(([]:List Int),((4:Int),()))))
          else some (.inl ())
         else bif decide ((s10.1.length:Int)>(s.length:Int)) then
          some (.inr (([]:List Tp),(([]:List Int),((4:Int),()))))
         else bif decide (IntKind.i64.wrap ((IntKind.i64.wrap ((s.length:Int) - (s10.1.length:Int)))+(s10.2.1.length:Int))>8) then
          some (.inr (([]:List Tp),(([]:List Int),((4:Int),()))))
         else some (.inl ()):Option (Unit⊕(List Tp×List Int×Int×Unit))).bind fun q=>match q with
         | .inr r15=>some r15
         | .inl _=>
          aE (yO m f pc s s5 s10) fuel ((0:Int),())
   else none
  else none
 else none
def yR (m:Im) (s6:Bool×Int×List Sh×Unit) (rec7:(Bool×Int×List Sh×Unit)→Option (List Sh×Bool×Unit)) (r5:List Tp×List Int×Int×Unit) (s8:List Tp×Int×Unit) (rec9:(List Tp×Int×Unit)→Option (List Sh×Bool×Unit)):Option (List Sh×Bool×Unit):=
 bif decide (s8.2.1<(r5.1.length:Int)) then
  bif decide (0≤r5.2.1.getD s6.2.1.toNat 0)&&decide (r5.2.1.getD s6.2.1.toNat 0<s6.2.2.1.length) then
   bif decide (0≤s8.2.1)&&decide (s8.2.1<(s6.2.2.1.getD (r5.2.1.getD s6.2.1.toNat 0).toNat zSh).2.1.length) then
    bif decide (0≤s8.2.1)&&decide (s8.2.1<r5.1.length) then
     (vB m.1 ((s6.2.2.1.getD (r5.2.1.getD s6.2.1.toNat 0).toNat zSh).2.1.getD s8.2.1.toNat zTp) (r5.1.getD s8.2.1.toNat zTp)).bind fun r10=>
     bif r10.1.1==0 then
      some (([]:List Sh),false,())
     else bif decide (s8.1.length+[r10.1].length<rowMax) then
      rec9 (s8.1++[r10.1],IntKind.i64.wrap (s8.2.1+1),())
     else none
    else none
   else none
  else none
 else bif decide (0≤r5.2.1.getD s6.2.1.toNat 0)&&decide (r5.2.1.getD s6.2.1.toNat 0<s6.2.2.1.length) then
  bif !(kK s8.1 (s6.2.2.1.getD (r5.2.1.getD s6.2.1.toNat 0).toNat zSh).2.1) then
   bif decide (0≤r5.2.1.getD s6.2.1.toNat 0)&&decide (r5.2.1.getD s6.2.1.toNat 0<s6.2.2.1.length) then
    rec7 (true,IntKind.i64.wrap (s6.2.1+1),s6.2.2.1.set (r5.2.1.getD s6.2.1.toNat 0).toNat (true,s8.1,()),())
   else none
  else rec7 (s6.1,IntKind.i64.wrap (s6.2.1+1),s6.2.2.1,())
 else none
def yQ (m:Im) (fuel:Nat) (s3:Bool×Int×List Sh×Unit) (rec4:(Bool×Int×List Sh×Unit)→Option (List Sh×Bool×Unit)) (r5:List Tp×List Int×Int×Unit) (s6:Bool×Int×List Sh×Unit) (rec7:(Bool×Int×List Sh×Unit)→Option (List Sh×Bool×Unit)):Option (List Sh×Bool×Unit):=
 bif decide (s6.2.1<(r5.2.1.length:Int)) then
  bif decide (0≤s6.2.1)&&decide (s6.2.1<r5.2.1.length) then
   bif decide (0≤r5.2.1.getD s6.2.1.toNat 0)&&decide (r5.2.1.getD s6.2.1.toNat 0<s6.2.2.1.length) then
    bif !(s6.2.2.1.getD (r5.2.1.getD s6.2.1.toNat 0).toNat zSh).1 then
     bif decide (0≤r5.2.1.getD s6.2.1.toNat 0)&&decide (r5.2.1.getD s6.2.1.toNat 0<s6.2.2.1.length) then
      rec7 (true,IntKind.i64.wrap (s6.2.1+1),s6.2.2.1.set (r5.2.1.getD s6.2.1.toNat 0).toNat (true,r5.1,()),())
     else none
    else bif decide (0≤r5.2.1.getD s6.2.1.toNat 0)&&decide (r5.2.1.getD s6.2.1.toNat 0<s6.2.2.1.length) then
     bif ((s6.2.2.1.getD (r5.2.1.getD s6.2.1.toNat 0).toNat zSh).2.1.length:Int) !=(r5.1.length:Int) then
      some (([]:List Sh),false,())
     else aE (yR m s6 rec7 r5) fuel (([]:List Tp),((0:Int),()))
    else none
   else none
  else none
 else rec4 (s6.1,IntKind.i64.wrap (s3.2.1 - 1),s6.2.2.1,())
def yP (m:Im) (f:Int) (fuel:Nat) (s1:Int×List Sh×Unit) (rec2:(Int×List Sh×Unit)→Option (List Sh×Bool×Unit)) (s3:Bool×Int×List Sh×Unit) (rec4:(Bool×Int×List Sh×Unit)→Option (List Sh×Bool×Unit)):Option (List Sh×Bool×Unit):=
 bif decide (s3.2.1≥0) then
  bif decide (0≤s3.2.1)&&decide (s3.2.1<s3.2.2.1.length) then
   bif !(s3.2.2.1.getD s3.2.1.toNat zSh).1 then
    rec4 (s3.1,IntKind.i64.wrap (s3.2.1 - 1),s3.2.2.1,())
   else bif decide (0≤s3.2.1)&&decide (s3.2.1<s3.2.2.1.length) then
    (pB m f s3.2.1 (s3.2.2.1.getD s3.2.1.toNat zSh).2.1).bind fun r5=>
    bif r5.2.2.1 !=0 then
     some (([]:List Sh),false,())
    else aE (yQ m fuel s3 rec4 r5) fuel (s3.1,((0:Int),s3.2.2.1,()))
   else none
  else none
 else bif !s3.1 then
  some (s3.2.2.1,true,())
 else rec2 (IntKind.i64.wrap (s1.1+1),s3.2.2.1,())
def aAV (m:Im) (f:Int) (fuel:Nat) (s1:Int×List Sh×Unit) (rec2:(Int×List Sh×Unit)→Option (List Sh×Bool×Unit)):Option (List Sh×Bool×Unit):=
 bif decide (s1.1<4000) then
  aE (yP m f fuel s1 rec2) fuel (false,(IntKind.i64.wrap (((m.2.2.2.1.getD f.toNat zMt).2.2.2.1.length:Int) - 1),s1.2.1,()))
 else some (([]:List Sh),false,())
def aGG (fuel:Nat) (m:Im) (f:Int):Option (List Sh×Bool×Unit):=
 bif decide (0≤f)&&decide (f<m.2.2.2.1.length) then
  bif decide (0≤((m.2.2.2.1.getD f.toNat zMt).2.2.2.1.length:Int))&&decide (((m.2.2.2.1.getD f.toNat zMt).2.2.2.1.length:Int)≤((m.2.2.2.1.getD f.toNat zMt).2.2.2.1.length:Int))&&decide (((m.2.2.2.1.getD f.toNat zMt).2.2.2.1.length:Int)<(rowMax:Int)) then
   bif ((m.2.2.2.1.getD f.toNat zMt).2.2.2.1.length:Int)==0 then
    some (([]:List Sh),false,())
   else bif decide ((0:Int)<(List.replicate ((m.2.2.2.1.getD f.toNat zMt).2.2.2.1.length:Int).toNat zSh).length) then
    aE (aAV m f fuel) fuel ((0:Int),((List.replicate ((m.2.2.2.1.getD f.toNat zMt).2.2.2.1.length:Int).toNat zSh).set 0 (true,((List.replicate ((m.2.2.2.1.getD f.toNat zMt).2.2.2.1.length:Int).toNat zSh).getD 0 zSh).2),()))
   else none
  else none
 else none
def aAW (m:Im) (s1:List (List Sh)×Int×Unit) (rec2:(List (List Sh)×Int×Unit)→Option (List (List Sh)×Int×Unit)):Option (List (List Sh)×Int×Unit):=
 bif decide (s1.2.1<(m.2.2.2.1.length:Int)) then
  (vF m s1.2.1).bind fun r3=>
  bif !r3.2.1 then
   some (([]:List (List Sh)),s1.2.1,())
  else bif decide (s1.1.length+[r3.1].length<rowMax) then
   rec2 (s1.1++[r3.1],IntKind.i64.wrap (s1.2.1+1),())
  else none
 else some (s1.1,((-1:Int),()))
def aGI (fuel:Nat) (m:Im):Option (List (List Sh)×Int×Unit):=
 aE (aAW m) fuel (([]:List (List Sh)),((0:Int),()))
def aBe (m:Im) (s1:Int×Unit) (s3:Int×Unit) (rec4:(Int×Unit)→Option (Int×Unit)) (r5:List Tp×List Int×Int×Unit) (s6:Int×Unit) (rec7:(Int×Unit)→Option (Int×Unit)):Option (Int×Unit):=
 bif decide (s6.1<(r5.2.1.length:Int)) then
  bif decide (0≤s3.1)&&decide (s3.1<(m.2.2.2.1.getD s1.1.toNat zMt).2.2.2.2.2.2.1.length) then
   bif decide (0≤s3.1)&&decide (s3.1<(m.2.2.2.1.getD s1.1.toNat zMt).2.2.2.1.length) then
    (sX m ((m.2.2.2.1.getD s1.1.toNat zMt).2.2.2.1.getD s3.1.toNat zIns)).bind fun r8=>
    bif decide (0≤s6.1)&&decide (s6.1<r5.2.1.length) then
     bif decide (0≤r5.2.1.getD s6.1.toNat 0)&&decide (r5.2.1.getD s6.1.toNat 0<(m.2.2.2.1.getD s1.1.toNat zMt).2.2.2.2.2.2.1.length) then
      bif decide ((m.2.2.2.1.getD s1.1.toNat zMt).2.2.2.2.2.2.1.getD s3.1.toNat 0<IntKind.i64.wrap (r8.1+((m.2.2.2.1.getD s1.1.toNat zMt).2.2.2.2.2.2.1.getD (r5.2.1.getD s6.1.toNat 0).toNat 0))) then
       some (s1.1,())
      else rec7 (IntKind.i64.wrap (s6.1+1),())
     else none
    else none
   else none
  else none
 else rec4 (IntKind.i64.wrap (s3.1+1),())
def aBd (m:Im) (l:List (List Sh)) (fuel:Nat) (s1:Int×Unit) (rec2:(Int×Unit)→Option (Int×Unit)) (s3:Int×Unit) (rec4:(Int×Unit)→Option (Int×Unit)):Option (Int×Unit):=
 bif decide (s3.1<((m.2.2.2.1.getD s1.1.toNat zMt).2.2.2.1.length:Int)) then
  bif decide (0≤s1.1)&&decide (s1.1<l.length) then
   bif decide (0≤s3.1)&&decide (s3.1<(l.getD s1.1.toNat ([]:List Sh)).length) then
    bif !((l.getD s1.1.toNat ([]:List Sh)).getD s3.1.toNat zSh).1 then
     rec4 (IntKind.i64.wrap (s3.1+1),())
    else bif decide (0≤s1.1)&&decide (s1.1<l.length) then
     bif decide (0≤s3.1)&&decide (s3.1<(l.getD s1.1.toNat ([]:List Sh)).length) then
      (pB m s1.1 s3.1 ((l.getD s1.1.toNat ([]:List Sh)).getD s3.1.toNat zSh).2.1).bind fun r5=>
      aE (aBe m s1 s3 rec4 r5) fuel ((0:Int),())
     else none
    else none
   else none
  else none
 else rec2 (IntKind.i64.wrap (s1.1+1),())
def aBc (m:Im) (l:List (List Sh)) (fuel:Nat) (s1:Int×Unit) (rec2:(Int×Unit)→Option (Int×Unit)):Option (Int×Unit):=
 bif decide (s1.1<(m.2.2.2.1.length:Int)) then
  bif decide (0≤s1.1)&&decide (s1.1<m.2.2.2.1.length) then
   bif decide ((0:Int)<(m.2.2.2.1.getD s1.1.toNat zMt).2.2.2.2.2.2.1.length) then
    bif decide ((m.2.2.2.1.getD s1.1.toNat zMt).2.2.2.2.2.2.1.getD 0 0>(m.2.2.2.1.getD s1.1.toNat zMt).2.2.2.2.2.1) then
     some (s1.1,())
    else aE (aBd m l fuel s1 rec2) fuel ((0:Int),())
   else none
  else none
 else some ((-1:Int),())
def aG0 (fuel:Nat) (m:Im) (l:List (List Sh)):Option (Int×Unit):=
 aE (aBc m l fuel) fuel ((0:Int),())
end
end Go.Pli

namespace Go.Pli
open Go Go.PM
noncomputable section
def aJ4 (s:List Mt):Option (List Mt×Unit):=
 bif decide ((s.length:Int)=(s.length:Int))&&decide ((s.length:Int)=(s.length:Int))&&true then
  some (s,())
 else none
def aBN (m:Im) (s4:Int×(List Cl×List Tp×List Int×Unit×List Int×Int×Int×Unit)×Unit) (s8:Int×List Mt×Unit) (rec9:(Int×List Mt×Unit)→Option (Im×Unit)):Option (Im×Unit):=
 bif decide (s8.1<(m.2.2.2.1.length:Int)) then
  bif decide (0≤s8.1)&&decide (s8.1<m.2.2.2.1.length) then
   (uH (m.2.2.2.1.getD s8.1.toNat zMt).1).bind fun r10=>
   (uH (m.2.2.2.1.getD s8.1.toNat zMt).2.1).bind fun r11=>
   (aCn (m.2.2.2.1.getD s8.1.toNat zMt).2.2.2.1).bind fun r12=>
   (xH (m.2.2.2.1.getD s8.1.toNat zMt).2.2.2.2.2.2.1).bind fun r13=>
   bif decide (s8.2.1.length+[(r10.1,r11.1,(m.2.2.2.1.getD s8.1.toNat zMt).2.2.1,r12.1,(m.2.2.2.1.getD s8.1.toNat zMt).2.2.2.2.1,(m.2.2.2.1.getD s8.1.toNat zMt).2.2.2.2.2.1,r13.1,())].length<rowMax)&&true then
    rec9 (IntKind.i64.wrap (s8.1+1),s8.2.1++[(r10.1,r11.1,(m.2.2.2.1.getD s8.1.toNat zMt).2.2.1,r12.1,(m.2.2.2.1.getD s8.1.toNat zMt).2.2.2.2.1,(m.2.2.2.1.getD s8.1.toNat zMt).2.2.2.2.2.1,r13.1,())],())
   else none
  else none
 else some (((idL s4.2.1.1),s4.2.1.2.1,s4.2.1.2.2.1,(idL s8.2.1),s4.2.1.2.2.2.2),())
def aBM (m:Im) (fuel:Nat) (s4:Int×(List Cl×List Tp×List Int×Unit×List Int×Int×Int×Unit)×Unit) (rec5:(Int×(List Cl×List Tp×List Int×Unit×List Int×Int×Int×Unit)×Unit)→Option (Im×Unit)):Option (Im×Unit):=
 bif decide (s4.1<(m.1.length:Int)) then
  bif decide (0≤s4.1)&&decide (s4.1<m.1.length) then
   (uH (m.1.getD s4.1.toNat zCl).2.1).bind fun r6=>
   (xH (m.1.getD s4.1.toNat zCl).2.2.1).bind fun r7=>
   bif decide (s4.2.1.1.length+[((m.1.getD s4.1.toNat zCl).1,r6.1,r7.1,())].length<rowMax) then
    rec5 (IntKind.i64.wrap (s4.1+1),(s4.2.1.1++[((m.1.getD s4.1.toNat zCl).1,r6.1,r7.1,())],s4.2.1.2),())
   else none
  else none
 else aE (aBN m s4) fuel ((0:Int),(([]:List Mt),()))
def aIB (fuel:Nat) (m:Im):Option (Im×Unit):=
 (uH m.2.1).bind fun r1=>
 (aCp m.2.2.1).bind fun r2=>
 (xH m.2.2.2.2.1).bind fun r3=>
 aE (aBM m fuel) fuel ((0:Int),((([]:List Cl),r1.1,r2.1,(),r3.1,m.2.2.2.2.2),()))
def aB4 (m:Im) (f:Int) (s1:List Int×Int×Unit) (rec2:(List Int×Int×Unit)→Option (List Int×Unit)):Option (List Int×Unit):=
 bif decide (s1.2.1<((m.2.2.2.1.getD f.toNat zMt).2.2.2.1.length:Int)) then
  bif decide (0≤s1.2.1)&&decide (s1.2.1<(m.2.2.2.1.getD f.toNat zMt).2.2.2.1.length) then
   (pY m ((m.2.2.2.1.getD f.toNat zMt).2.2.2.1.getD s1.2.1.toNat zIns)).bind fun r3=>
   bif decide (s1.1.length+r3.1.length<rowMax)&&true then
    rec2 (s1.1++r3.1,IntKind.i64.wrap (s1.2.1+1),())
   else none
  else none
 else
  let r4:=yC s1.1
  some ((idL (dN r4.1)),())
def aJZ (fuel:Nat) (m:Im) (f:Int):Option (List Int×Unit):=
 bif decide (f<0) then
  some (([]:List Int),())
 else bif decide (f≥(m.2.2.2.1.length:Int)) then
  some (([]:List Int),())
 else bif decide (0≤f)&&decide (f<m.2.2.2.1.length) then
  aE (aB4 m f) fuel (([]:List Int),((0:Int),()))
 else none
def aBC (l:List Int) (s1:Int×Int×Unit) (rec2:(Int×Int×Unit)→Option (Int×Unit)):Option (Int×Unit):=
 bif decide (s1.2.1<(l.length:Int)) then
  bif decide (0≤s1.2.1)&&decide (s1.2.1<l.length) then
   rec2 (max s1.1 (l.getD s1.2.1.toNat 0),IntKind.i64.wrap (s1.2.1+1),())
  else none
 else some (s1.1,())
def aH2 (fuel:Nat) (l:List Int):Option (Int×Unit):=
 bif decide ((l.length:Int)<1) then
  none
 else bif decide ((0:Int)<l.length) then
  aE (aBC l) fuel (l.getD 0 0,((1:Int),()))
 else none
def aBm (m:Im) (f:Int) (s3:Bool×Int×List Int×Unit) (rec4:(Bool×Int×List Int×Unit)→Option (List Int×Bool×Unit)) (r6:List Tp×List Int×Int×Unit) (s7:Bool×Int×List Int×Unit) (rec8:(Bool×Int×List Int×Unit)→Option (List Int×Bool×Unit)):Option (List Int×Bool×Unit):=
 bif decide (s7.2.1<(r6.2.1.length:Int)) then
  bif decide (0≤s7.2.1)&&decide (s7.2.1<r6.2.1.length) then
   (mP m ((m.2.2.2.1.getD f.toNat zMt).2.2.2.1.getD s3.2.1.toNat zIns)).bind fun r9=>
   bif decide (0≤r6.2.1.getD s7.2.1.toNat 0)&&decide (r6.2.1.getD s7.2.1.toNat 0<s7.2.2.1.length) then
    bif decide (0≤s3.2.1)&&decide (s3.2.1<s7.2.2.1.length) then
     bif decide (IntKind.i64.wrap (r9.1+(s7.2.2.1.getD (r6.2.1.getD s7.2.1.toNat 0).toNat 0))>s7.2.2.1.getD s3.2.1.toNat 0) then
      bif decide (0≤s3.2.1)&&decide (s3.2.1<s7.2.2.1.length) then
       rec8 (true,IntKind.i64.wrap (s7.2.1+1),s7.2.2.1.set s3.2.1.toNat (IntKind.i64.wrap (r9.1+(s7.2.2.1.getD (r6.2.1.getD s7.2.1.toNat 0).toNat 0))),())
      else none
     else rec8 (s7.1,IntKind.i64.wrap (s7.2.1+1),s7.2.2.1,())
    else none
   else none
  else none
 else rec4 (s7.1,IntKind.i64.wrap (s3.2.1+1),s7.2.2.1,())
def zA (m:Im) (l:List (List Sh)) (f:Int) (fuel:Nat) (s1:Int×List Int×Unit) (rec2:(Int×List Int×Unit)→Option (List Int×Bool×Unit)) (s3:Bool×Int×List Int×Unit) (rec4:(Bool×Int×List Int×Unit)→Option (List Int×Bool×Unit)):Option (List Int×Bool×Unit):=
 bif decide (s3.2.1<((m.2.2.2.1.getD f.toNat zMt).2.2.2.1.length:Int)) then
  bif decide (0≤s3.2.1)&&decide (s3.2.1<(m.2.2.2.1.getD f.toNat zMt).2.2.2.1.length) then
   (pE l f s3.2.1).bind fun r5=>
   bif !r5.1.1 then
    rec4 (s3.1,IntKind.i64.wrap (s3.2.1+1),s3.2.2.1,())
   else
    (pT m f s3.2.1 r5.1.2.1).bind fun r6=>
    aE (aBm m f s3 rec4 r6) fuel (s3.1,((0:Int),s3.2.2.1,()))
  else none
 else bif !s3.1 then
  bif decide (s3.2.2.1.length+([0]:List Int).length<rowMax)&&true then
   (wB (s3.2.2.1++([0]:List Int))).bind fun r10=>
   some (s3.2.2.1,decide (r10.1≤4096),())
  else none
 else rec2 (IntKind.i64.wrap (s1.1+1),s3.2.2.1,())
def yZ (m:Im) (l:List (List Sh)) (f:Int) (fuel:Nat) (s1:Int×List Int×Unit) (rec2:(Int×List Int×Unit)→Option (List Int×Bool×Unit)):Option (List Int×Bool×Unit):=
 bif decide (s1.1<IntKind.i64.wrap (((m.2.2.2.1.getD f.toNat zMt).2.2.2.1.length:Int)+1)) then
  aE (zA m l f fuel s1 rec2) fuel (false,((0:Int),s1.2.1,()))
 else some (([]:List Int),false,())
def aHe (fuel:Nat) (m:Im) (l:List (List Sh)) (f:Int):Option (List Int×Bool×Unit):=
 bif decide (0≤f)&&decide (f<m.2.2.2.1.length) then
  bif decide (0≤((m.2.2.2.1.getD f.toNat zMt).2.2.2.1.length:Int))&&decide (((m.2.2.2.1.getD f.toNat zMt).2.2.2.1.length:Int)≤((m.2.2.2.1.getD f.toNat zMt).2.2.2.1.length:Int))&&decide (((m.2.2.2.1.getD f.toNat zMt).2.2.2.1.length:Int)<(rowMax:Int)) then
   aE (yZ m l f fuel) fuel ((0:Int),(List.replicate ((m.2.2.2.1.getD f.toNat zMt).2.2.2.1.length:Int).toNat (0:Int),()))
  else none
 else none
def vQ (s2:List (List Int)×Int×List Mt×Unit) (r5:List (List Int)×Unit) (s6:Int×List Mt×Unit) (rec7:(Int×List Mt×Unit)→Option (Im×Bool×Unit)) (s11:Int×List Mt×Unit) (rec12:(Int×List Mt×Unit)→Option (Im×Bool×Unit)):Option (Im×Bool×Unit):=
 bif decide (s11.1<((r5.1.getD s6.1.toNat ([]:List Int)).length:Int)) then
  bif decide (0≤s11.1)&&decide (s11.1<(r5.1.getD s6.1.toNat ([]:List Int)).length) then
   (bif decide (0≤(r5.1.getD s6.1.toNat ([]:List Int)).getD s11.1.toNat 0)&&decide ((r5.1.getD s6.1.toNat ([]:List Int)).getD s11.1.toNat 0<s11.2.1.length) then
    bif decide (((s11.2.1.getD ((r5.1.getD s6.1.toNat ([]:List Int)).getD s11.1.toNat 0).toNat zMt).2.2.2.2.2.2.1.length:Int)>0) then
     bif decide ((0:Int)<(s11.2.1.getD ((r5.1.getD s6.1.toNat ([]:List Int)).getD s11.1.toNat 0).toNat zMt).2.2.2.2.2.2.1.length) then
      bif decide (0≤(r5.1.getD s6.1.toNat ([]:List Int)).getD s11.1.toNat 0)&&decide ((r5.1.getD s6.1.toNat ([]:List Int)).getD s11.1.toNat 0<s11.2.1.length) then
       some (.inl (s11.2.1.set ((r5.1.getD s6.1.toNat ([]:List Int)).getD s11.1.toNat 0).toNat ((s11.2.1.getD ((r5.1.getD s6.1.toNat ([]:List Int)).getD s11.1.toNat 0).toNat zMt).1,((s11.2.1.getD ((r5.1.getD s6.1.toNat ([]:List Int)).getD s11.1.toNat 0).toNat zMt).2.1,((s11.2.1.getD ((r5.1.getD s6.1.toNat ([]:List Int)).getD s11.1.toNat 0).toNat zMt).2.2.1,((s11.2.1.getD ((r5.1.getD s6.1.toNat ([]:List Int)).getD s11.1.toNat 0).toNat zMt).2.2.2.1,((s11.2.1.getD ((r5.1.getD s6.1.toNat ([]:List Int)).getD s11.1.toNat 0).toNat zMt).2.2.2.2.1,((s11.2.1.getD ((r5.1.getD s6.1.toNat ([]:List Int)).getD s11.1.toNat 0).toNat zMt).2.2.2.2.2.2.1.getD 0 0,(s11.2.1.getD ((r5.1.getD s6.1.toNat ([]:List Int)).getD s11.1.toNat 0).toNat zMt).2.2.2.2.2.2)))))),()))
      else none
     else none
    else some (.inl (s11.2.1,()))
   else none:Option ((List Mt×Unit)⊕(Im×Bool×Unit))).bind fun q=>match q with
   | .inr r14=>some r14
   | .inl s13=>
    bif decide (0≤(r5.1.getD s6.1.toNat ([]:List Int)).getD s11.1.toNat 0)&&decide ((r5.1.getD s6.1.toNat ([]:List Int)).getD s11.1.toNat 0<s13.1.length) then
     bif decide ((s13.1.getD ((r5.1.getD s6.1.toNat ([]:List Int)).getD s11.1.toNat 0).toNat zMt).2.2.2.2.2.1>0) then
      (uC s2.1 (r5.1.getD s6.1.toNat ([]:List Int))).bind fun r15=>
      bif r15.1 then
       some ((([]:List Cl),(([]:List Tp),(([]:List Int),(([]:List Mt),(([]:List Int),((0:Int),((0:Int),()))))))),false,())
      else rec12 (IntKind.i64.wrap (s11.1+1),s13.1,())
     else rec12 (IntKind.i64.wrap (s11.1+1),s13.1,())
    else none
  else none
 else rec7 (IntKind.i64.wrap (s6.1+1),s11.2.1,())
def aBq (l:List (List Sh)) (fuel:Nat) (r1:Im×Unit) (s2:List (List Int)×Int×List Mt×Unit) (r5:List (List Int)×Unit) (s6:Int×List Mt×Unit) (rec7:(Int×List Mt×Unit)→Option (Im×Bool×Unit)) (s8:Int×List Mt×Unit) (rec9:(Int×List Mt×Unit)→Option (Im×Bool×Unit)):Option (Im×Bool×Unit):=
 bif decide (s8.1<((r5.1.getD s6.1.toNat ([]:List Int)).length:Int)) then
  bif decide (0≤s8.1)&&decide (s8.1<(r5.1.getD s6.1.toNat ([]:List Int)).length) then
   (pF (r1.1.1,r1.1.2.1,r1.1.2.2.1,s8.2.1,r1.1.2.2.2.2) l ((r5.1.getD s6.1.toNat ([]:List Int)).getD s8.1.toNat 0)).bind fun r10=>
   bif !r10.2.1 then
    some ((([]:List Cl),(([]:List Tp),(([]:List Int),(([]:List Mt),(([]:List Int),((0:Int),((0:Int),()))))))),false,())
   else bif decide (0≤(r5.1.getD s6.1.toNat ([]:List Int)).getD s8.1.toNat 0)&&decide ((r5.1.getD s6.1.toNat ([]:List Int)).getD s8.1.toNat 0<s8.2.1.length) then
    rec9 (IntKind.i64.wrap (s8.1+1),(s8.2.1.set ((r5.1.getD s6.1.toNat ([]:List Int)).getD s8.1.toNat 0).toNat ((s8.2.1.getD ((r5.1.getD s6.1.toNat ([]:List Int)).getD s8.1.toNat 0).toNat zMt).1,((s8.2.1.getD ((r5.1.getD s6.1.toNat ([]:List Int)).getD s8.1.toNat 0).toNat zMt).2.1,((s8.2.1.getD ((r5.1.getD s6.1.toNat ([]:List Int)).getD s8.1.toNat 0).toNat zMt).2.2.1,((s8.2.1.getD ((r5.1.getD s6.1.toNat ([]:List Int)).getD s8.1.toNat 0).toNat zMt).2.2.2.1,((s8.2.1.getD ((r5.1.getD s6.1.toNat ([]:List Int)).getD s8.1.toNat 0).toNat zMt).2.2.2.2.1,((s8.2.1.getD ((r5.1.getD s6.1.toNat ([]:List Int)).getD s8.1.toNat 0).toNat zMt).2.2.2.2.2.1,r10.1,())))))),()))
   else none
  else none
 else aE (vQ s2 r5 s6 rec7) fuel ((0:Int),s8.2.1,())
def zB (l:List (List Sh)) (fuel:Nat) (r1:Im×Unit) (s2:List (List Int)×Int×List Mt×Unit) (r5:List (List Int)×Unit) (s6:Int×List Mt×Unit) (rec7:(Int×List Mt×Unit)→Option (Im×Bool×Unit)):Option (Im×Bool×Unit):=
 bif decide (s6.1<(r5.1.length:Int)) then
  bif decide (0≤s6.1)&&decide (s6.1<r5.1.length) then
   aE (aBq l fuel r1 s2 r5 s6 rec7) fuel ((0:Int),s6.2.1,())
  else none
 else some ((r1.1.1,r1.1.2.1,r1.1.2.2.1,s6.2.1,r1.1.2.2.2.2),true,())
def aBp (l:List (List Sh)) (fuel:Nat) (r1:Im×Unit) (s2:List (List Int)×Int×List Mt×Unit) (rec3:(List (List Int)×Int×List Mt×Unit)→Option (Im×Bool×Unit)):Option (Im×Bool×Unit):=
 bif decide (s2.2.1<(r1.1.2.2.2.1.length:Int)) then
  (cof (r1.1.1,r1.1.2.1,r1.1.2.2.1,s2.2.2.1,r1.1.2.2.2.2) s2.2.1).bind fun r4=>
  bif decide (s2.1.length+[r4.1].length<rowMax) then
   bif decide (0≤s2.2.1)&&decide (s2.2.1<s2.2.2.1.length) then
    rec3 (s2.1++[r4.1],IntKind.i64.wrap (s2.2.1+1),s2.2.2.1.set s2.2.1.toNat ((s2.2.2.1.getD s2.2.1.toNat zMt).1,(s2.2.2.1.getD s2.2.1.toNat zMt).2.1,(s2.2.2.1.getD s2.2.1.toNat zMt).2.2.1,(s2.2.2.1.getD s2.2.1.toNat zMt).2.2.2.1,(s2.2.2.1.getD s2.2.1.toNat zMt).2.2.2.2.1,((0:Int),(s2.2.2.1.getD s2.2.1.toNat zMt).2.2.2.2.2.2)),())
   else none
  else none
 else
  (kM s2.1).bind fun r5=>
  aE (zB l fuel r1 s2 r5) fuel ((0:Int),s2.2.2.1,())
def aHh (fuel:Nat) (m:Im) (l:List (List Sh)):Option (Im×Bool×Unit):=
 (wL m).bind fun r1=>
 aE (aBp l fuel r1) fuel (([]:List (List Int)),((0:Int),r1.1.2.2.2.1,()))
def aF1 (m:Im):Option (Bool×Unit):=
 bif decide ((m.2.2.2.1.length:Int)≤12) then
  bif decide ((m.1.length:Int)≤8) then
   bif decide ((m.2.2.1.length:Int)≤16) then
    some ((sV m)==0,())
   else some (false,())
  else some (false,())
 else some (false,())
def xS (m:Im):Option (List (List Sh)×Bool×Unit):=
 bif !(uY m) then
  some (([]:List (List Sh)),false,())
 else
  (kN m).bind fun r1=>
  some (r1.1,decide (r1.2.1<0),())
def awake15N:Option (Bool×Unit):=
 (kN (([]:List Cl),(([]:List Tp),(([2]:List Int),([(([]:List Tp),(([]:List Tp),(((5:Int),((0:Int),())),([((1:Int),((0:Int),((0:Int),()))),((23:Int),((9:Int),((0:Int),()))),((5:Int),((0:Int),((0:Int),()))),((33:Int),((0:Int),((0:Int),())))],((0:Int),((0:Int),([0,0,0,0]:List Int),()))))))],(([]:List Int),((0:Int),((0:Int),())))))))).bind fun r1=>
 (pG (([]:List Cl),(([]:List Tp),(([2]:List Int),([(([]:List Tp),(([]:List Tp),(((5:Int),((0:Int),())),([((1:Int),((0:Int),((0:Int),()))),((23:Int),((9:Int),((0:Int),()))),((5:Int),((0:Int),((0:Int),()))),((33:Int),((0:Int),((0:Int),())))],((0:Int),((0:Int),([0,0,0,0]:List Int),()))))))],(([]:List Int),((0:Int),((0:Int),()))))))) r1.1).bind fun r2=>
 (lI (([]:List Cl),(([]:List Tp),(([2]:List Int),([(([]:List Tp),(([]:List Tp),(((5:Int),((0:Int),())),([((1:Int),((0:Int),((0:Int),()))),((23:Int),((9:Int),((0:Int),()))),((5:Int),((0:Int),((0:Int),()))),((33:Int),((0:Int),((0:Int),())))],((0:Int),((0:Int),([0,0,0,0]:List Int),()))))))],(([]:List Int),((0:Int),((0:Int),()))))))) r1.1).bind fun r3=>
 (pG r3.1 r1.1).bind fun r4=>
 bif decide (r1.2.1<0) then
  bif r2.2.1==6 then
   bif r3.2.1 then
    bif r4.2.1==0 then
     bif decide ((0:Int)<r3.1.2.2.2.1.length) then
      bif ((r3.1.2.2.2.1.getD 0 zMt).2.2.2.2.2.1)==10 then
       bif decide ((0:Int)<r3.1.2.2.2.1.length) then
        bif decide ((0:Int)<(r3.1.2.2.2.1.getD 0 zMt).2.2.2.2.2.2.1.length) then
         bif ((r3.1.2.2.2.1.getD 0 zMt).2.2.2.2.2.2.1.getD 0 0)==10 then
          bif decide ((0:Int)<r3.1.2.2.2.1.length) then
           bif decide ((2:Int)<(r3.1.2.2.2.1.getD 0 zMt).2.2.2.2.2.2.1.length) then
            bif ((r3.1.2.2.2.1.getD 0 zMt).2.2.2.2.2.2.1.getD 2 0)==0 then
             bif decide ((0:Int)<[(([]:List Tp),(([]:List Tp),(((5:Int),((0:Int),())),([((1:Int),((0:Int),((0:Int),()))),((23:Int),((9:Int),((0:Int),()))),((5:Int),((0:Int),((0:Int),()))),((33:Int),((0:Int),((0:Int),())))],((0:Int),((0:Int),([0,0,0,0]:List Int),()))))))].length) then
              bif decide ((1:Int)<([(([]:List Tp),(([]:List Tp),(((5:Int),((0:Int),())),([((1:Int),((0:Int),((0:Int),()))),((23:Int),((9:Int),((0:Int),()))),((5:Int),((0:Int),((0:Int),()))),((33:Int),((0:Int),((0:Int),())))],((0:Int),((0:Int),([0,0,0,0]:List Int),()))))))].getD 0 zMt).2.2.2.1.length) then
               (mP (([]:List Cl),(([]:List Tp),(([2]:List Int),([(([]:List Tp),(([]:List Tp),(((5:Int),((0:Int),())),([((1:Int),((0:Int),((0:Int),()))),((23:Int),((9:Int),((0:Int),()))),((5:Int),((0:Int),((0:Int),()))),((33:Int),((0:Int),((0:Int),())))],((0:Int),((0:Int),([0,0,0,0]:List Int),()))))))],(([]:List Int),((0:Int),((0:Int),()))))))) (([(([]:List Tp),(([]:List Tp),(((5:Int),((0:Int),())),([((1:Int),((0:Int),((0:Int),()))),((23:Int),((9:Int),((0:Int),()))),((5:Int),((0:Int),((0:Int),()))),((33:Int),((0:Int),((0:Int),())))],((0:Int),((0:Int),([0,0,0,0]:List Int),()))))))].getD 0 zMt).2.2.2.1.getD 1 zIns)).bind fun r5=>
               bif r5.1==10 then
                (sZ (([]:List Cl),(([]:List Tp),(([2]:List Int),([(([]:List Tp),(([]:List Tp),(((5:Int),((0:Int),())),([((1:Int),((0:Int),((0:Int),()))),((23:Int),((9:Int),((0:Int),()))),((5:Int),((0:Int),((0:Int),()))),((33:Int),((0:Int),((0:Int),())))],((0:Int),((0:Int),([0,0,0,0]:List Int),()))))))],(([]:List Int),((0:Int),((0:Int),()))))))) r1.1 (0:Int)).bind fun r6=>
                bif (r6.1.length:Int)==5 then
                 bif (sV (([]:List Cl),(([]:List Tp),(([2]:List Int),([(([]:List Tp),(([]:List Tp),(((5:Int),((0:Int),())),([((1:Int),((0:Int),((0:Int),()))),((23:Int),((9:Int),((0:Int),()))),((5:Int),((0:Int),((0:Int),()))),((33:Int),((0:Int),((0:Int),())))],((0:Int),((0:Int),([0,0,0,0]:List Int),()))))))],(([]:List Int),((0:Int),((0:Int),()))))))))==0 then
                  bif decide ((0:Int)<[(([]:List Tp),(([]:List Tp),(((5:Int),((0:Int),())),([((1:Int),((0:Int),((0:Int),()))),((23:Int),((9:Int),((0:Int),()))),((5:Int),((0:Int),((0:Int),()))),((33:Int),((0:Int),((0:Int),())))],((0:Int),((0:Int),([0,0,0,0]:List Int),()))))))].length) then
                   bif decide ((0:Int)<([(([]:List Tp),(([]:List Tp),(((5:Int),((0:Int),())),([((1:Int),((0:Int),((0:Int),()))),((23:Int),((9:Int),((0:Int),()))),((5:Int),((0:Int),((0:Int),()))),((33:Int),((0:Int),((0:Int),())))],((0:Int),((0:Int),([0,0,0,0]:List Int),()))))))].getD 0 zMt).2.2.2.1.length) then
                    (sX (([]:List Cl),(([]:List Tp),(([2]:List Int),([(([]:List Tp),(([]:List Tp),(((5:Int),((0:Int),())),([((1:Int),((0:Int),((0:Int),()))),((23:Int),((9:Int),((0:Int),()))),((5:Int),((0:Int),((0:Int),()))),((33:Int),((0:Int),((0:Int),())))],((0:Int),((0:Int),([0,0,0,0]:List Int),()))))))],(([]:List Int),((0:Int),((0:Int),()))))))) (([(([]:List Tp),(([]:List Tp),(((5:Int),((0:Int),())),([((1:Int),((0:Int),((0:Int),()))),((23:Int),((9:Int),((0:Int),()))),((5:Int),((0:Int),((0:Int),()))),((33:Int),((0:Int),((0:Int),())))],((0:Int),((0:Int),([0,0,0,0]:List Int),()))))))].getD 0 zMt).2.2.2.1.getD 0 zIns)).bind fun r7=>
                    some (r7.1==0,())
                   else none
                  else none
                 else some (false,())
                else some (false,())
               else some (false,())
              else none
             else none
            else some (false,())
           else none
          else none
         else some (false,())
        else none
       else none
      else some (false,())
     else none
    else some (false,())
   else some (false,())
  else some (false,())
 else some (false,())
end
end Go.Pli

namespace Go.Pli
open Go Go.PM
noncomputable section
end
end Go.Pli

namespace Go.Pli
open Go Go.PM
noncomputable section
def aBk (m:Im) (g:Int) (p:Int) (r1:List (List Sh)×Bool×Unit) (r3:Im×Bool×Unit) (s6:Int×List Mt×Unit) (rec7:(Int×List Mt×Unit)→Option (Bool×Unit)):Option (Bool×Unit):=
 bif decide (s6.1<(s6.2.1.length:Int)) then
  bif decide (0≤s6.1)&&decide (s6.1<r3.1.2.2.2.1.length) then
   bif decide (0≤s6.1)&&decide (s6.1<m.2.2.2.1.length) then
    bif ((r3.1.2.2.2.1.getD s6.1.toNat zMt).2.2.2.2.2.2.1.length:Int) !=((m.2.2.2.1.getD s6.1.toNat zMt).2.2.2.1.length:Int) then
     some (false,())
    else bif decide (0≤s6.1)&&decide (s6.1<r3.1.2.2.2.1.length) then
     bif decide (0≤s6.1)&&decide (s6.1<r3.1.2.2.2.1.length) then
      bif decide ((0:Int)<(r3.1.2.2.2.1.getD s6.1.toNat zMt).2.2.2.2.2.2.1.length) then
       bif ((r3.1.2.2.2.1.getD s6.1.toNat zMt).2.2.2.2.2.1) !=((r3.1.2.2.2.1.getD s6.1.toNat zMt).2.2.2.2.2.2.1.getD 0 0) then
        some (false,())
       else bif decide (0≤s6.1)&&decide (s6.1<m.2.2.2.1.length) then
        bif decide (0≤s6.1)&&decide (s6.1<m.2.2.2.1.length) then
         bif decide (0≤s6.1)&&decide (s6.1<s6.2.1.length) then
          bif decide (0≤s6.1)&&decide (s6.1<(s6.2.1.set s6.1.toNat ((s6.2.1.getD s6.1.toNat zMt).1,(s6.2.1.getD s6.1.toNat zMt).2.1,(s6.2.1.getD s6.1.toNat zMt).2.2.1,(s6.2.1.getD s6.1.toNat zMt).2.2.2.1,(s6.2.1.getD s6.1.toNat zMt).2.2.2.2.1,(s6.2.1.getD s6.1.toNat zMt).2.2.2.2.2.1,(m.2.2.2.1.getD s6.1.toNat zMt).2.2.2.2.2.2)).length) then
           rec7 (IntKind.i64.wrap (s6.1+1),(s6.2.1.set s6.1.toNat ((s6.2.1.getD s6.1.toNat zMt).1,(s6.2.1.getD s6.1.toNat zMt).2.1,(s6.2.1.getD s6.1.toNat zMt).2.2.1,(s6.2.1.getD s6.1.toNat zMt).2.2.2.1,(s6.2.1.getD s6.1.toNat zMt).2.2.2.2.1,(s6.2.1.getD s6.1.toNat zMt).2.2.2.2.2.1,(m.2.2.2.1.getD s6.1.toNat zMt).2.2.2.2.2.2)).set s6.1.toNat (((s6.2.1.set s6.1.toNat ((s6.2.1.getD s6.1.toNat zMt).1,(s6.2.1.getD s6.1.toNat zMt).2.1,(s6.2.1.getD s6.1.toNat zMt).2.2.1,(s6.2.1.getD s6.1.toNat zMt).2.2.2.1,(s6.2.1.getD s6.1.toNat zMt).2.2.2.2.1,(s6.2.1.getD s6.1.toNat zMt).2.2.2.2.2.1,(m.2.2.2.1.getD s6.1.toNat zMt).2.2.2.2.2.2)).getD s6.1.toNat zMt).1,((s6.2.1.set s6.1.toNat ((s6.2.1.getD s6.1.toNat zMt).1,(s6.2.1.getD s6.1.toNat zMt).2.1,(s6.2.1.getD s6.1.toNat zMt).2.2.1,(s6.2.1.getD s6.1.toNat zMt).2.2.2.1,(s6.2.1.getD s6.1.toNat zMt).2.2.2.2.1,(s6.2.1.getD s6.1.toNat zMt).2.2.2.2.2.1,(m.2.2.2.1.getD s6.1.toNat zMt).2.2.2.2.2.2)).getD s6.1.toNat zMt).2.1,((s6.2.1.set s6.1.toNat ((s6.2.1.getD s6.1.toNat zMt).1,(s6.2.1.getD s6.1.toNat zMt).2.1,(s6.2.1.getD s6.1.toNat zMt).2.2.1,(s6.2.1.getD s6.1.toNat zMt).2.2.2.1,(s6.2.1.getD s6.1.toNat zMt).2.2.2.2.1,(s6.2.1.getD s6.1.toNat zMt).2.2.2.2.2.1,(m.2.2.2.1.getD s6.1.toNat zMt).2.2.2.2.2.2)).getD s6.1.toNat zMt).2.2.1,((s6.2.1.set s6.1.toNat ((s6.2.1.getD s6.1.toNat zMt).1,(s6.2.1.getD s6.1.toNat zMt).2.1,(s6.2.1.getD s6.1.toNat zMt).2.2.1,(s6.2.1.getD s6.1.toNat zMt).2.2.2.1,(s6.2.1.getD s6.1.toNat zMt).2.2.2.2.1,(s6.2.1.getD s6.1.toNat zMt).2.2.2.2.2.1,(m.2.2.2.1.getD s6.1.toNat zMt).2.2.2.2.2.2)).getD s6.1.toNat zMt).2.2.2.1,((s6.2.1.set s6.1.toNat ((s6.2.1.getD s6.1.toNat zMt).1,(s6.2.1.getD s6.1.toNat zMt).2.1,(s6.2.1.getD s6.1.toNat zMt).2.2.1,(s6.2.1.getD s6.1.toNat zMt).2.2.2.1,(s6.2.1.getD s6.1.toNat zMt).2.2.2.2.1,(s6.2.1.getD s6.1.toNat zMt).2.2.2.2.2.1,(m.2.2.2.1.getD s6.1.toNat zMt).2.2.2.2.2.2)).getD s6.1.toNat zMt).2.2.2.2.1,(m.2.2.2.1.getD s6.1.toNat zMt).2.2.2.2.2.1,((s6.2.1.set s6.1.toNat ((s6.2.1.getD s6.1.toNat zMt).1,(s6.2.1.getD s6.1.toNat zMt).2.1,(s6.2.1.getD s6.1.toNat zMt).2.2.1,(s6.2.1.getD s6.1.toNat zMt).2.2.2.1,(s6.2.1.getD s6.1.toNat zMt).2.2.2.2.1,(s6.2.1.getD s6.1.toNat zMt).2.2.2.2.2.1,(m.2.2.2.1.getD s6.1.toNat zMt).2.2.2.2.2.2)).getD s6.1.toNat zMt).2.2.2.2.2.2),())
          else none
         else none
        else none
       else none
      else none
     else none
    else none
   else none
  else none
 else bif !(pC (r3.1.1,r3.1.2.1,r3.1.2.2.1,s6.2.1,r3.1.2.2.2.2) m) then
  awake15N.bind fun r8=>
  bif r8.1 then
   some ((pC (r3.1.1,r3.1.2.1,r3.1.2.2.1,s6.2.1,r3.1.2.2.2.2) m),())
  else some (false,())
 else bif (r3.1.2.2.2.1.length:Int)==0 then
  awake15N.bind fun r9=>
  bif r9.1 then
   some ((pC (r3.1.1,r3.1.2.1,r3.1.2.2.1,s6.2.1,r3.1.2.2.2.2) m),())
  else some (false,())
 else bif !decide ((r3.1.2.2.2.1.length:Int)=0) then
  bif decide (0≤(IntKind.i64.wrap g).tmod (r3.1.2.2.2.1.length:Int))&&decide ((IntKind.i64.wrap g).tmod (r3.1.2.2.2.1.length:Int)<r3.1.2.2.2.1.length) then
   bif !decide (((r3.1.2.2.2.1.getD ((IntKind.i64.wrap g).tmod (r3.1.2.2.2.1.length:Int)).toNat zMt).2.2.2.2.2.2.1.length:Int)=0) then
    bif decide (0≤(IntKind.i64.wrap g).tmod (r3.1.2.2.2.1.length:Int))&&decide ((IntKind.i64.wrap g).tmod (r3.1.2.2.2.1.length:Int)<r3.1.2.2.2.1.length) then
     bif decide (0≤(IntKind.i64.wrap p).tmod ((r3.1.2.2.2.1.getD ((IntKind.i64.wrap g).tmod (r3.1.2.2.2.1.length:Int)).toNat zMt).2.2.2.2.2.2.1.length:Int))&&decide ((IntKind.i64.wrap p).tmod ((r3.1.2.2.2.1.getD ((IntKind.i64.wrap g).tmod (r3.1.2.2.2.1.length:Int)).toNat zMt).2.2.2.2.2.2.1.length:Int)<(r3.1.2.2.2.1.getD ((IntKind.i64.wrap g).tmod (r3.1.2.2.2.1.length:Int)).toNat zMt).2.2.2.2.2.2.1.length) then
      bif ((r3.1.2.2.2.1.getD ((IntKind.i64.wrap g).tmod (r3.1.2.2.2.1.length:Int)).toNat zMt).2.2.2.2.2.2.1.getD ((IntKind.i64.wrap p).tmod ((r3.1.2.2.2.1.getD ((IntKind.i64.wrap g).tmod (r3.1.2.2.2.1.length:Int)).toNat zMt).2.2.2.2.2.2.1.length:Int)).toNat 0)==0 then
       awake15N.bind fun r10=>
       some (r10.1,())
      else bif decide (([]:List Mt).length+r3.1.2.2.2.1.length<rowMax)&&true then
       bif decide (0≤(IntKind.i64.wrap g).tmod (r3.1.2.2.2.1.length:Int))&&decide ((IntKind.i64.wrap g).tmod (r3.1.2.2.2.1.length:Int)<r3.1.2.2.2.1.length) then
        bif decide (([]:List Int).length+(r3.1.2.2.2.1.getD ((IntKind.i64.wrap g).tmod (r3.1.2.2.2.1.length:Int)).toNat zMt).2.2.2.2.2.2.1.length<rowMax)&&true then
         bif decide (0≤(IntKind.i64.wrap g).tmod (r3.1.2.2.2.1.length:Int))&&decide ((IntKind.i64.wrap g).tmod (r3.1.2.2.2.1.length:Int)<(([]:List Mt)++r3.1.2.2.2.1).length) then
          bif decide (0≤(IntKind.i64.wrap g).tmod (r3.1.2.2.2.1.length:Int))&&decide ((IntKind.i64.wrap g).tmod (r3.1.2.2.2.1.length:Int)<(([]:List Mt)++r3.1.2.2.2.1).length) then
           bif Nat.beq (((IntKind.i64.wrap g).tmod (r3.1.2.2.2.1.length:Int)).toNat) (((IntKind.i64.wrap g).tmod (r3.1.2.2.2.1.length:Int)).toNat)&&true then
            bif Nat.beq (((IntKind.i64.wrap g).tmod (r3.1.2.2.2.1.length:Int)).toNat) (((IntKind.i64.wrap g).tmod (r3.1.2.2.2.1.length:Int)).toNat)&&true then
             bif decide (0≤(IntKind.i64.wrap p).tmod ((r3.1.2.2.2.1.getD ((IntKind.i64.wrap g).tmod (r3.1.2.2.2.1.length:Int)).toNat zMt).2.2.2.2.2.2.1.length:Int))&&decide ((IntKind.i64.wrap p).tmod ((r3.1.2.2.2.1.getD ((IntKind.i64.wrap g).tmod (r3.1.2.2.2.1.length:Int)).toNat zMt).2.2.2.2.2.2.1.length:Int)<(([]:List Int)++((r3.1.2.2.2.1.getD ((IntKind.i64.wrap g).tmod (r3.1.2.2.2.1.length:Int)).toNat zMt).2.2.2.2.2.2.1)).length) then
              bif Nat.beq (((IntKind.i64.wrap g).tmod (r3.1.2.2.2.1.length:Int)).toNat) (((IntKind.i64.wrap g).tmod (r3.1.2.2.2.1.length:Int)).toNat)&&true then
               bif Nat.beq (((IntKind.i64.wrap g).tmod (r3.1.2.2.2.1.length:Int)).toNat) (((IntKind.i64.wrap g).tmod (r3.1.2.2.2.1.length:Int)).toNat)&&true then
                bif decide (0≤(IntKind.i64.wrap p).tmod ((r3.1.2.2.2.1.getD ((IntKind.i64.wrap g).tmod (r3.1.2.2.2.1.length:Int)).toNat zMt).2.2.2.2.2.2.1.length:Int))&&decide ((IntKind.i64.wrap p).tmod ((r3.1.2.2.2.1.getD ((IntKind.i64.wrap g).tmod (r3.1.2.2.2.1.length:Int)).toNat zMt).2.2.2.2.2.2.1.length:Int)<(([]:List Int)++((r3.1.2.2.2.1.getD ((IntKind.i64.wrap g).tmod (r3.1.2.2.2.1.length:Int)).toNat zMt).2.2.2.2.2.2.1)).length) then
                 bif Nat.beq (((IntKind.i64.wrap g).tmod (r3.1.2.2.2.1.length:Int)).toNat) (((IntKind.i64.wrap g).tmod (r3.1.2.2.2.1.length:Int)).toNat)&&true then
                  awake15N.bind fun r11=>
                  bif r11.1 then
                   (qU (r3.1.1,r3.1.2.1,r3.1.2.2.1,((([]:List Mt)++r3.1.2.2.2.1).set ((IntKind.i64.wrap g).tmod (r3.1.2.2.2.1.length:Int)).toNat (((([]:List Mt)++r3.1.2.2.2.1).getD ((IntKind.i64.wrap g).tmod (r3.1.2.2.2.1.length:Int)).toNat zMt).1,(((([]:List Mt)++r3.1.2.2.2.1).getD ((IntKind.i64.wrap g).tmod (r3.1.2.2.2.1.length:Int)).toNat zMt).2.1,(((([]:List Mt)++r3.1.2.2.2.1).getD ((IntKind.i64.wrap g).tmod (r3.1.2.2.2.1.length:Int)).toNat zMt).2.2.1,(((([]:List Mt)++r3.1.2.2.2.1).getD ((IntKind.i64.wrap g).tmod (r3.1.2.2.2.1.length:Int)).toNat zMt).2.2.2.1,(((([]:List Mt)++r3.1.2.2.2.1).getD ((IntKind.i64.wrap g).tmod (r3.1.2.2.2.1.length:Int)).toNat zMt).2.2.2.2.1,(((([]:List Mt)++r3.1.2.2.2.1).getD ((IntKind.i64.wrap g).tmod (r3.1.2.2.2.1.length:Int)).toNat zMt).2.2.2.2.2.1,((([]:List Int)++((r3.1.2.2.2.1.getD ((IntKind.i64.wrap g).tmod (r3.1.2.2.2.1.length:Int)).toNat zMt).2.2.2.2.2.2.1)).set ((IntKind.i64.wrap p).tmod ((r3.1.2.2.2.1.getD ((IntKind.i64.wrap g).tmod (r3.1.2.2.2.1.length:Int)).toNat zMt).2.2.2.2.2.2.1.length:Int)).toNat (IntKind.i64.wrap (((([]:List Int)++((r3.1.2.2.2.1.getD ((IntKind.i64.wrap g).tmod (r3.1.2.2.2.1.length:Int)).toNat zMt).2.2.2.2.2.2.1)).getD ((IntKind.i64.wrap p).tmod ((r3.1.2.2.2.1.getD ((IntKind.i64.wrap g).tmod (r3.1.2.2.2.1.length:Int)).toNat zMt).2.2.2.2.2.2.1.length:Int)).toNat 0) - 1)),()))))))),r3.1.2.2.2.2)) r1.1).bind fun r12=>
                   some (r12.1==((IntKind.i64.wrap g).tmod (r3.1.2.2.2.1.length:Int)),())
                  else some (false,())
                 else none
                else none
               else none
              else none
             else none
            else none
           else none
          else none
         else none
        else none
       else none
      else none
     else none
    else none
   else none
  else none
 else none
def aDj (fuel:Nat) (m:Im) (g:Int) (p:Int):Option (Bool×Unit):=
 (xS m).bind fun r1=>
 bif !r1.2.1 then
  awake15N.bind fun r2=>
  some (r2.1,())
 else
  (lI m r1.1).bind fun r3=>
  bif !r3.2.1 then
   awake15N.bind fun r4=>
   bif r4.1 then
    some ((r3.1.2.2.2.1.length:Int)==0,())
   else some (false,())
  else bif (r3.1.2.2.2.1.length:Int) !=(m.2.2.2.1.length:Int) then
   some (false,())
  else
   (qU r3.1 r1.1).bind fun r5=>
   bif decide (r5.1≥0) then
    some (false,())
   else bif decide (([]:List Mt).length+r3.1.2.2.2.1.length<rowMax)&&true then
    aE (aBk m g p r1 r3) fuel ((0:Int),(([]:List Mt)++r3.1.2.2.2.1,()))
   else none
end
end Go.Pli

namespace Go.Pli
open Go Go.PM
end Go.Pli

namespace Go.Pli
open Go Go.PM
noncomputable section
end
end Go.Pli
