/- Who calls whom: what the functions come to, in plain Lean. -/
import Derived.Test.YtcofionghgmldaaGreatPliSp
namespace Go.Pli
open Go Go.PM
def ints (n:Nat):List Int:=(List.range n).map fun k:Nat=>(k:Int)
def leI (x y:Int):Bool:=decide (x≤y)
def nW (x:Int):List Int→List Int
 | []=>[x]
 | y::l=>bif leI x y then x::y::l else y::nW x l
def fN:List Int→List Int
 | []=>[]
 | x::l=>nW x (fN l)
def xY (l:List Int):List Int×Unit:=(fN l,())
def dO:List Int→List Int
 | []=>[]
 | a::l=>match dO l with
  | []=>[a]
  | b::r=>bif a==b then b::r else a::b::r
def nM (m:Im):Int:=(m.2.2.2.1.length:Int)
def lT (m:Im) (c:Int):List Int:=(ints m.1.length).filter fun n=>dI m.1 n c
def wY (m:Im) (c:Int):Option (List Int×Unit):=bif bW m then some (lT m c,()) else none
def vK (m:Im) (c:Int):Option (List Int×Unit):=bif bW m then some (lT m c,()) else none
def iH (m:Im) (c n:Int):Bool:=(decide (0≤c)&&decide (c<(m.1.length:Int)))&&(decide (0≤n)&&decide (n<((bX m c).2.2.1.length:Int)))
def dR (m:Im) (c n:Int):Int×Bool×Unit:=bif iH m c n then ((bX m c).2.2.1.getD n.toNat 0,true,()) else (0,false,())
def yQ (m:Im) (c n:Int):Int×Bool×Unit:=dR m c n
def qL (m:Im) (l:List Int) (n:Int):List Int:=(l.filter fun c=>(dR m c n).2.1).map fun c=>(dR m c n).1
def bK (m:Im) (i:Ins):List Int:=bif i.1==31 then[i.2.1] else bif i.1==32 then qL m (lT m i.2.1) i.2.2.1 else[]
def pW (m:Im) (i:Ins):Option (List Int×Unit):=bif bW m then some (bK m i,()) else none
def oZ (m:Im) (i:Ins):Option (List Int×Unit):=bif bW m then some (bK m i,()) else none
def inM (m:Im) (f:Int):Bool:=sin f (nM m)
def pZ (m:Im) (f:Int):List Int:=((aD m f).2.2.2.1.map (bK m)).flatten
def ofB (m:Im) (f:Int):List Int:=bif inM m f then dO (fN (pZ m f)) else[]
def cof (m:Im) (f:Int):Option (List Int×Unit):=bif bW m then some (ofB m f,()) else none
def hU (m:Im) (f g:Int):Bool:=(aD m f).2.2.2.1.any fun i=>(bK m i).contains g
def vE (m:Im) (f g:Int):Option (Bool×Unit):=bif bW m&&inM m f then some (hU m f g,()) else none
def cM (m:Im):List (List Int):=(ints m.2.2.2.1.length).map fun f=>(ints m.2.2.2.1.length).filter fun g=>hU m f g
def vD (m:Im):Option (List (List Int)×Unit):=bif bW m then some (cM m,()) else none
def uN (m:Im):Bool:=(ints m.2.2.2.1.length).all fun f=>(pZ m f).all (inM m)
def oG (l:List (List Int)) (i j:Nat):Bool:=(l.getD i []).contains (j:Int)
def bE (l:List (List Int)):Nat→Nat→Nat→Bool
 | 0,i,j=>oG l i j
 | k+1,i,j=>bE l k i j || (bE l k i k&&bE l k k j)
def dD (n:Nat) (f:Nat→Nat→Bool):List (List Bool):=(List.range n).map fun i=>(List.range n).map fun j=>f i j
def sE (l:List (List Int)):Bool:=Nat.ble l.length 1000&&l.all fun r=>Nat.ble r.length 1000
def oY (l:List (List Int)):Option (List (List Bool)×Unit):=bif sE l then some (dD l.length (bE l l.length),()) else none
end Go.Pli

namespace Go.Pli
open Go Go.PM
def aB4 (m:Im) (c:Int) (s1:List Int×Int×Unit) (rec2:(List Int×Int×Unit)→Option (List Int×Unit)):Option (List Int×Unit):=
 bif decide (s1.2.1<(m.1.length:Int)) then
  bif (dI m.1 s1.2.1 c) then
   bif decide (s1.1.length+[s1.2.1].length<rowMax) then
    rec2 (s1.1++[s1.2.1],IntKind.i64.wrap (s1.2.1+1),())
   else none
  else rec2 (s1.1,IntKind.i64.wrap (s1.2.1+1),())
 else some ((idL s1.1),())
def aKq (fuel:Nat) (m:Im) (c:Int):Option (List Int×Unit):=
 aE (aB4 m c) fuel (([]:List Int),((0:Int),()))
def aJO (m:Im) (c:Int) (n:Int):Option (Int×Bool×Unit):=
 bif decide (c<0) then
  some ((0:Int),false,())
 else bif decide (c≥(m.1.length:Int)) then
  some ((0:Int),false,())
 else bif decide (n<0) then
  some ((0:Int),false,())
 else bif decide (0≤c)&&decide (c<m.1.length) then
  bif decide (n≥((m.1.getD c.toNat zCl).2.2.1.length:Int)) then
   some ((0:Int),false,())
  else bif decide (0≤c)&&decide (c<m.1.length) then
   bif decide (0≤n)&&decide (n<(m.1.getD c.toNat zCl).2.2.1.length) then
    some ((m.1.getD c.toNat zCl).2.2.1.getD n.toNat 0,true,())
   else none
  else none
 else none
def aRE (m:Im) (i:Ins) (r1:List Int×Unit) (s2:List Int×Int×Unit) (rec3:(List Int×Int×Unit)→Option (List Int×Unit)):Option (List Int×Unit):=
 bif decide (s2.2.1<(r1.1.length:Int)) then
  bif decide (0≤s2.2.1)&&decide (s2.2.1<r1.1.length) then
   let r4:=dR m (r1.1.getD s2.2.1.toNat 0) i.2.2.1
   bif r4.2.1 then
    bif decide (s2.1.length+[r4.1].length<rowMax) then
     rec3 (s2.1++[r4.1],IntKind.i64.wrap (s2.2.1+1),())
    else none
   else rec3 (s2.1,IntKind.i64.wrap (s2.2.1+1),())
  else none
 else some (s2.1,())
def aJK (fuel:Nat) (m:Im) (i:Ins):Option (List Int×Unit):=
 bif i.1==31 then
  bif decide (([]:List Int).length+[i.2.1].length<rowMax) then
   some (([]:List Int)++[i.2.1],())
  else none
 else bif i.1==32 then
  (wY m i.2.1).bind fun r1=>
  aE (aRE m i r1) fuel (([]:List Int),((0:Int),()))
 else some (([]:List Int),())
def aA4 (m:Im) (c:Int) (s1:List Int×Int×Unit) (rec2:(List Int×Int×Unit)→Option (List Int×Unit)):Option (List Int×Unit):=
 bif decide (s1.2.1<(m.1.length:Int)) then
  (jN m.1 s1.2.1).bind fun r3=>
  (rin r3.1 c).bind fun r4=>
  bif r4.1 then
   bif decide (s1.1.length+[s1.2.1].length<rowMax) then
    rec2 (s1.1++[s1.2.1],IntKind.i64.wrap (s1.2.1+1),())
   else none
  else rec2 (s1.1,IntKind.i64.wrap (s1.2.1+1),())
 else some (s1.1,())
def aGW (fuel:Nat) (m:Im) (c:Int):Option (List Int×Unit):=
 aE (aA4 m c) fuel (([]:List Int),((0:Int),()))
def aNN (m:Im) (c:Int) (n:Int):Option (Int×Bool×Unit):=
 bif decide (c<0) then
  some ((0:Int),false,())
 else bif decide (c≥(m.1.length:Int)) then
  some ((0:Int),false,())
 else bif decide (n<0) then
  some ((0:Int),false,())
 else bif decide (0≤c)&&decide (c<m.1.length) then
  bif decide (n≥((m.1.getD c.toNat zCl).2.2.1.length:Int)) then
   some ((0:Int),false,())
  else bif decide (0≤c)&&decide (c<m.1.length) then
   bif decide (0≤n)&&decide (n<(m.1.getD c.toNat zCl).2.2.1.length) then
    some ((m.1.getD c.toNat zCl).2.2.1.getD n.toNat 0,true,())
   else none
  else none
 else none
def aNx (m:Im) (i:Ins) (r3:List Int×Unit) (s4:List Int×Int×Unit) (rec5:(List Int×Int×Unit)→Option (List Int×Unit)):Option (List Int×Unit):=
 bif decide (s4.2.1<(r3.1.length:Int)) then
  bif decide (0≤s4.2.1)&&decide (s4.2.1<r3.1.length) then
   let r6:=yQ m (r3.1.getD s4.2.1.toNat 0) i.2.2.1
   bif r6.2.1 then
    bif decide (s4.1.length+[r6.1].length<rowMax) then
     rec5 (s4.1++[r6.1],IntKind.i64.wrap (s4.2.1+1),())
    else none
   else rec5 (s4.1,IntKind.i64.wrap (s4.2.1+1),())
  else none
 else some (s4.1,())
def aGA (fuel:Nat) (m:Im) (i:Ins):Option (List Int×Unit):=
 (bif i.1==31 then
  bif decide (([]:List Int).length+[i.2.1].length<rowMax) then
   some (.inl (([]:List Int)++[i.2.1],()))
  else none
 else some (.inl (([]:List Int),())):Option ((List Int×Unit)⊕(List Int×Unit))).bind fun q=>match q with
 | .inr r2=>some r2
 | .inl s1=>
  bif i.1==32 then
   (vK m i.2.1).bind fun r3=>
   aE (aNx m i r3) fuel (s1.1,((0:Int),()))
  else some (s1.1,())
def aAS (m:Im) (f:Int) (g:Int) (s1:Int×Unit) (rec2:(Int×Unit)→Option (Bool×Unit)):Option (Bool×Unit):=
 bif decide (0≤f)&&decide (f<m.2.2.2.1.length) then
  bif decide (s1.1<((m.2.2.2.1.getD f.toNat zMt).2.2.2.1.length:Int)) then
   bif decide (0≤f)&&decide (f<m.2.2.2.1.length) then
    bif decide (0≤s1.1)&&decide (s1.1<(m.2.2.2.1.getD f.toNat zMt).2.2.2.1.length) then
     (oZ m ((m.2.2.2.1.getD f.toNat zMt).2.2.2.1.getD s1.1.toNat zIns)).bind fun r3=>
     (rin r3.1 g).bind fun r4=>
     bif r4.1 then
      some (true,())
     else rec2 (IntKind.i64.wrap (s1.1+1),())
    else none
   else none
  else some (false,())
 else none
def aGE (fuel:Nat) (m:Im) (f:Int) (g:Int):Option (Bool×Unit):=
 aE (aAS m f g) fuel ((0:Int),())
def aAR (m:Im) (s1:List (List Int)×Int×Unit) (rec2:(List (List Int)×Int×Unit)→Option (List (List Int)×Unit)) (s3:List Int×Int×Unit) (rec4:(List Int×Int×Unit)→Option (List (List Int)×Unit)):Option (List (List Int)×Unit):=
 bif decide (s3.2.1<(m.2.2.2.1.length:Int)) then
  (vE m s1.2.1 s3.2.1).bind fun r5=>
  bif r5.1 then
   bif decide (s3.1.length+[s3.2.1].length<rowMax) then
    rec4 (s3.1++[s3.2.1],IntKind.i64.wrap (s3.2.1+1),())
   else none
  else rec4 (s3.1,IntKind.i64.wrap (s3.2.1+1),())
 else bif decide (s1.1.length+[s3.1].length<rowMax)&&true then
  rec2 (s1.1++[s3.1],IntKind.i64.wrap (s1.2.1+1),())
 else none
def aAQ (m:Im) (fuel:Nat) (s1:List (List Int)×Int×Unit) (rec2:(List (List Int)×Int×Unit)→Option (List (List Int)×Unit)):Option (List (List Int)×Unit):=
 bif decide (s1.2.1<(m.2.2.2.1.length:Int)) then
  aE (aAR m s1 rec2) fuel (([]:List Int),((0:Int),()))
 else some (s1.1,())
def aGD (fuel:Nat) (m:Im):Option (List (List Int)×Unit):=
 aE (aAQ m fuel) fuel (([]:List (List Int)),((0:Int),()))
def aAO (l:List (List Int)) (s1:Int×List (List Bool)×Unit) (rec2:(Int×List (List Bool)×Unit)→Option (List (List Bool)×Unit)) (s3:Int×List (List Bool)×Unit) (rec4:(Int×List (List Bool)×Unit)→Option (List (List Bool)×Unit)):Option (List (List Bool)×Unit):=
 bif decide (0≤s1.1)&&decide (s1.1<l.length) then
  bif decide (s3.1<((l.getD s1.1.toNat ([]:List Int)).length:Int)) then
   bif decide (0≤s1.1)&&decide (s1.1<l.length) then
    bif decide (0≤s3.1)&&decide (s3.1<(l.getD s1.1.toNat ([]:List Int)).length) then
     bif decide ((l.getD s1.1.toNat ([]:List Int)).getD s3.1.toNat 0≥0) then
      bif decide (0≤s1.1)&&decide (s1.1<l.length) then
       bif decide (0≤s3.1)&&decide (s3.1<(l.getD s1.1.toNat ([]:List Int)).length) then
        bif decide ((l.getD s1.1.toNat ([]:List Int)).getD s3.1.toNat 0<(l.length:Int)) then
         bif decide (0≤s1.1)&&decide (s1.1<s3.2.1.length) then
          bif decide (0≤s1.1)&&decide (s1.1<l.length) then
           bif decide (0≤s3.1)&&decide (s3.1<(l.getD s1.1.toNat ([]:List Int)).length) then
            bif decide (0≤(l.getD s1.1.toNat ([]:List Int)).getD s3.1.toNat 0)&&decide ((l.getD s1.1.toNat ([]:List Int)).getD s3.1.toNat 0<(s3.2.1.getD s1.1.toNat ([]:List Bool)).length) then
             rec4 (IntKind.i64.wrap (s3.1+1),(s3.2.1.set s1.1.toNat ((s3.2.1.getD s1.1.toNat ([]:List Bool)).set ((l.getD s1.1.toNat ([]:List Int)).getD s3.1.toNat 0).toNat true),()))
            else none
           else none
          else none
         else none
        else rec4 (IntKind.i64.wrap (s3.1+1),s3.2.1,())
       else none
      else none
     else rec4 (IntKind.i64.wrap (s3.1+1),s3.2.1,())
    else none
   else none
  else rec2 (IntKind.i64.wrap (s1.1+1),s3.2.1,())
 else none
def aC4 (l:List (List Int)) (s5:Int×List (List Bool)×Unit) (s7:Int×List (List Bool)×Unit) (rec8:(Int×List (List Bool)×Unit)→Option (List (List Bool)×Unit)) (s9:Int×List (List Bool)×Unit) (rec10:(Int×List (List Bool)×Unit)→Option (List (List Bool)×Unit)):Option (List (List Bool)×Unit):=
 bif decide (s9.1<(l.length:Int)) then
  bif decide (0≤s7.1)&&decide (s7.1<s9.2.1.length) then
   bif decide (0≤s7.1)&&decide (s7.1<s9.2.1.length) then
    bif decide (0≤s9.1)&&decide (s9.1<(s9.2.1.getD s7.1.toNat ([]:List Bool)).length) then
     bif (s9.2.1.getD s7.1.toNat ([]:List Bool)).getD s9.1.toNat false then
      bif decide (0≤s9.1)&&decide (s9.1<(s9.2.1.getD s7.1.toNat ([]:List Bool)).length) then
       rec10 (IntKind.i64.wrap (s9.1+1),(s9.2.1.set s7.1.toNat ((s9.2.1.getD s7.1.toNat ([]:List Bool)).set s9.1.toNat true),()))
      else none
     else bif decide (0≤s7.1)&&decide (s7.1<s9.2.1.length) then
      bif decide (0≤s5.1)&&decide (s5.1<(s9.2.1.getD s7.1.toNat ([]:List Bool)).length) then
       bif (s9.2.1.getD s7.1.toNat ([]:List Bool)).getD s5.1.toNat false then
        bif decide (0≤s5.1)&&decide (s5.1<s9.2.1.length) then
         bif decide (0≤s9.1)&&decide (s9.1<(s9.2.1.getD s5.1.toNat ([]:List Bool)).length) then
          bif decide (0≤s9.1)&&decide (s9.1<(s9.2.1.getD s7.1.toNat ([]:List Bool)).length) then
           rec10 (IntKind.i64.wrap (s9.1+1),(s9.2.1.set s7.1.toNat ((s9.2.1.getD s7.1.toNat ([]:List Bool)).set s9.1.toNat ((s9.2.1.getD s5.1.toNat ([]:List Bool)).getD s9.1.toNat false)),()))
          else none
         else none
        else none
       else bif decide (0≤s9.1)&&decide (s9.1<(s9.2.1.getD s7.1.toNat ([]:List Bool)).length) then
        rec10 (IntKind.i64.wrap (s9.1+1),(s9.2.1.set s7.1.toNat ((s9.2.1.getD s7.1.toNat ([]:List Bool)).set s9.1.toNat false),()))
       else none
      else none
     else none
    else none
   else none
  else none
 else rec8 (IntKind.i64.wrap (s7.1+1),s9.2.1,())
def aAN (l:List (List Int)) (fuel:Nat) (s5:Int×List (List Bool)×Unit) (rec6:(Int×List (List Bool)×Unit)→Option (List (List Bool)×Unit)) (s7:Int×List (List Bool)×Unit) (rec8:(Int×List (List Bool)×Unit)→Option (List (List Bool)×Unit)):Option (List (List Bool)×Unit):=
 bif decide (s7.1<(l.length:Int)) then
  aE (aC4 l s5 s7 rec8) fuel ((0:Int),s7.2.1,())
 else rec6 (IntKind.i64.wrap (s5.1+1),s7.2.1,())
def aAM (l:List (List Int)) (fuel:Nat) (s5:Int×List (List Bool)×Unit) (rec6:(Int×List (List Bool)×Unit)→Option (List (List Bool)×Unit)):Option (List (List Bool)×Unit):=
 bif decide (s5.1<(l.length:Int)) then
  aE (aAN l fuel s5 rec6) fuel ((0:Int),s5.2.1,())
 else some (s5.2.1,())
def aC3 (l:List (List Int)) (fuel:Nat) (s1:Int×List (List Bool)×Unit) (rec2:(Int×List (List Bool)×Unit)→Option (List (List Bool)×Unit)):Option (List (List Bool)×Unit):=
 bif decide (s1.1<(l.length:Int)) then
  bif decide (0≤(l.length:Int))&&decide ((l.length:Int)≤(l.length:Int))&&decide ((l.length:Int)<(rowMax:Int)) then
   bif decide (0≤s1.1)&&decide (s1.1<s1.2.1.length) then
    aE (aAO l s1 rec2) fuel ((0:Int),s1.2.1.set s1.1.toNat (List.replicate l.length false),())
   else none
  else none
 else aE (aAM l fuel) fuel ((0:Int),s1.2.1,())
def aGy (fuel:Nat) (l:List (List Int)):Option (List (List Bool)×Unit):=
 bif decide (0≤(l.length:Int))&&decide ((l.length:Int)≤(l.length:Int))&&decide ((l.length:Int)<(rowMax:Int)) then
  aE (aC3 l fuel) fuel ((0:Int),(List.replicate l.length ([]:List Bool),()))
 else none
end Go.Pli

namespace Go.Pli
open Go Go.PM
noncomputable def pick {α:Type} (f:Nat→Option α):Option α:=open Classical in if h:∃k,(f k).isSome then f h.choose else none
theorem aDh {α:Type} {f:Nat→Option α} {r:α} (h:pick f=some r):∃k,f k=some r:=by
 unfold pick at h
 split at h
 ·exact⟨_,h⟩
 ·cases h
def aS6 {α:Type} (f:Nat→Option α) (Q:α→Prop):Prop:=∃K,∀k,(∃r,f k=some r∧Q r)∨(f k=none∧k≤K)
theorem aDi {α:Type} {f:Nat→Option α} {Q:α→Prop} (h:aS6 f Q):∃r,pick f=some r∧Q r:=by
 obtain⟨K,h⟩:=h
 have hs:∃k,(f k).isSome:=by
  rcases h (K+1) with⟨r,hr,-⟩ | ⟨-,hk⟩
  ·exact⟨K+1,by rw[hr];rfl⟩
  ·omega
 unfold pick
 rw[dif_pos hs]
 have:=hs.choose_spec
 rcases h hs.choose with⟨r,hr,hq⟩ | ⟨hn,-⟩
 ·exact⟨r,hr,hq⟩
 ·rw[hn] at this;cases this
theorem aDP {S R:Type} {L:S→(S→Option R)→Option R} {I:S→Prop} {μ:S→Nat} {Q:R→Prop}
  (h:∀s rec,I s→(∃r,L s rec=some r∧Q r)∨∃s',L s rec=rec s'∧I s'∧μ s'<μ s):∀(k:Nat) (s:S),I s→(∃r,aE L k s=some r∧Q r)∨(aE L k s=none∧k≤μ s)
 | 0,s,_=> .inr ⟨rfl,dL _⟩
 | k+1,s,hs=>by
  rw[aY]
  rcases h s (aE L k) hs with h1 | ⟨s',h1,hs',hm⟩
  ·exact .inl h1
  ·rw[h1]
   rcases aDP h k s' hs' with h2 | ⟨h2,hk⟩
   ·exact .inl h2
   ·exact .inr ⟨h2,by omega⟩
end Go.Pli

namespace Go.Pli
open Go Go.PM
noncomputable section
def wR (f:List (List Int)×List Int×List Int×List Bool×List Int×Int×List (List Int)×Unit) (n:Int):Option ((List (List Int)×List Int×List Int×List Bool×List Int×Int×List (List Int)×Unit)×Unit):=
 bif decide (0≤n)&&decide (n<f.2.1.length) then
  bif decide (0≤n)&&decide (n<f.2.2.1.length) then
   bif decide (0≤n)&&decide (n<f.2.2.2.1.length) then
    bif decide (f.2.2.2.2.1.length+[n].length<rowMax)&&true then
     some ((f.1,f.2.1.set n.toNat (IntKind.i64.wrap (f.2.2.2.2.2.1+1)),f.2.2.1.set n.toNat (IntKind.i64.wrap (f.2.2.2.2.2.1+1)),f.2.2.2.1.set n.toNat true,f.2.2.2.2.1++[n],IntKind.i64.wrap (f.2.2.2.2.2.1+1),f.2.2.2.2.2.2),())
    else none
   else none
  else none
 else none
def aEk (f:List (List Int)×List Int×List Int×List Bool×List Int×Int×List (List Int)×Unit) (n:Int) (s1:List Int×List Bool×List Int×Unit) (rec2:(List Int×List Bool×List Int×Unit)→Option ((List (List Int)×List Int×List Int×List Bool×List Int×Int×List (List Int)×Unit)×Unit)):Option ((List (List Int)×List Int×List Int×List Bool×List Int×Int×List (List Int)×Unit)×Unit):=
 bif decide (0≤IntKind.i64.wrap ((s1.2.2.1.length:Int) - 1))&&decide (IntKind.i64.wrap ((s1.2.2.1.length:Int) - 1)<s1.2.2.1.length) then
  bif decide ((0:Int)≤IntKind.i64.wrap ((s1.2.2.1.length:Int) - 1))&&decide (IntKind.i64.wrap ((s1.2.2.1.length:Int) - 1)≤(s1.2.2.1.length:Int))&&true then
   bif decide (0≤s1.2.2.1.getD (IntKind.i64.wrap ((s1.2.2.1.length:Int) - 1)).toNat 0)&&decide (s1.2.2.1.getD (IntKind.i64.wrap ((s1.2.2.1.length:Int) - 1)).toNat 0<s1.2.1.length) then
    bif decide (s1.1.length+[s1.2.2.1.getD (IntKind.i64.wrap ((s1.2.2.1.length:Int) - 1)).toNat 0].length<rowMax)&&true then
     bif (s1.2.2.1.getD (IntKind.i64.wrap ((s1.2.2.1.length:Int) - 1)).toNat 0)==n then
      let r3:=xY (s1.1++[s1.2.2.1.getD (IntKind.i64.wrap ((s1.2.2.1.length:Int) - 1)).toNat 0])
      bif decide (f.2.2.2.2.2.2.1.length+[(idL r3.1)].length<rowMax)&&true then
       some ((f.1,f.2.1,f.2.2.1,(s1.2.1.set (s1.2.2.1.getD (IntKind.i64.wrap ((s1.2.2.1.length:Int) - 1)).toNat 0).toNat false,((s1.2.2.1.take (IntKind.i64.wrap ((s1.2.2.1.length:Int) - 1)).toNat).drop 0,f.2.2.2.2.2.1,f.2.2.2.2.2.2.1++[(idL r3.1)],()))),())
      else none
     else rec2 (s1.1++[s1.2.2.1.getD (IntKind.i64.wrap ((s1.2.2.1.length:Int) - 1)).toNat 0],(s1.2.1.set (s1.2.2.1.getD (IntKind.i64.wrap ((s1.2.2.1.length:Int) - 1)).toNat 0).toNat false,((s1.2.2.1.take (IntKind.i64.wrap ((s1.2.2.1.length:Int) - 1)).toNat).drop 0,())))
    else none
   else none
  else none
 else none
def zU (fuel:Nat) (f:List (List Int)×List Int×List Int×List Bool×List Int×Int×List (List Int)×Unit) (n:Int):Option ((List (List Int)×List Int×List Int×List Bool×List Int×Int×List (List Int)×Unit)×Unit):=
 bif decide (0≤n)&&decide (n<f.2.2.1.length) then
  bif decide (0≤n)&&decide (n<f.2.1.length) then
   bif (f.2.2.1.getD n.toNat 0) !=(f.2.1.getD n.toNat 0) then
    some (f,())
   else aE (aEk f n) fuel (([]:List Int),f.2.2.2.1,f.2.2.2.2.1,())
  else none
 else none
def wO (f:List (List Int)×List Int×List Int×List Bool×List Int×Int×List (List Int)×Unit) (n:Int):Option ((List (List Int)×List Int×List Int×List Bool×List Int×Int×List (List Int)×Unit)×Unit):=pick fun fuel=>zU fuel f n
theorem aQN (f:List (List Int)×List Int×List Int×List Bool×List Int×Int×List (List Int)×Unit) (n:Int) (r) (h:wO f n=some r):∃k,zU k f n=some r:=aDh h
def tM (s2:List Tp×List Int×List Int×List Bool×List Int×List (List Int)×(List (List Int)×Unit×Unit×Unit×Unit×Int×Unit×Unit)×Unit) (rec3:(List Tp×List Int×List Int×List Bool×List Int×List (List Int)×(List (List Int)×Unit×Unit×Unit×Unit×Int×Unit×Unit)×Unit)→Option ((List (List Int)×List Int×List Int×List Bool×List Int×Int×List (List Int)×Unit)×Unit)) (s4:List Tp×Int×List Int×Unit) (rec5:(List Tp×Int×List Int×Unit)→Option ((List (List Int)×List Int×List Int×List Bool×List Int×Int×List (List Int)×Unit)×Unit)):Option ((List (List Int)×List Int×List Int×List Bool×List Int×Int×List (List Int)×Unit)×Unit):=
 bif decide (0≤(s4.1.getD s4.2.1.toNat zTp).1)&&decide ((s4.1.getD s4.2.1.toNat zTp).1<s2.2.2.2.2.2.2.1.1.length) then
  bif decide ((s4.1.getD s4.2.1.toNat zTp).2.1<((s2.2.2.2.2.2.2.1.1.getD (s4.1.getD s4.2.1.toNat zTp).1.toNat ([]:List Int)).length:Int)) then
   bif decide (0≤(s4.1.getD s4.2.1.toNat zTp).1)&&decide ((s4.1.getD s4.2.1.toNat zTp).1<s2.2.2.2.2.2.2.1.1.length) then
    bif decide (0≤(s4.1.getD s4.2.1.toNat zTp).2.1)&&decide ((s4.1.getD s4.2.1.toNat zTp).2.1<(s2.2.2.2.2.2.2.1.1.getD (s4.1.getD s4.2.1.toNat zTp).1.toNat ([]:List Int)).length) then
     (bif decide ((s2.2.2.2.2.2.2.1.1.getD (s4.1.getD s4.2.1.toNat zTp).1.toNat ([]:List Int)).getD (s4.1.getD s4.2.1.toNat zTp).2.1.toNat 0<0) then
      some (.inl (true,()))
     else some (.inl (decide ((s2.2.2.2.2.2.2.1.1.getD (s4.1.getD s4.2.1.toNat zTp).1.toNat ([]:List Int)).getD (s4.1.getD s4.2.1.toNat zTp).2.1.toNat 0≥(s2.2.2.2.2.2.2.1.1.length:Int)),())):Option ((Bool×Unit)⊕((List (List Int)×List Int×List Int×List Bool×List Int×Int×List (List Int)×Unit)×Unit))).bind fun q=>match q with
     | .inr r7=>some r7
     | .inl s6=>
      bif s6.1 then
       rec5 (s4.1.set s4.2.1.toNat ((s4.1.getD s4.2.1.toNat zTp).1,IntKind.i64.wrap (((s4.1.getD s4.2.1.toNat zTp).2.1)+1),()),((s4.2.1.toNat:Int),s4.2.2.1,()))
      else bif decide (0≤(s2.2.2.2.2.2.2.1.1.getD (s4.1.getD s4.2.1.toNat zTp).1.toNat ([]:List Int)).getD (s4.1.getD s4.2.1.toNat zTp).2.1.toNat 0)&&decide ((s2.2.2.2.2.2.2.1.1.getD (s4.1.getD s4.2.1.toNat zTp).1.toNat ([]:List Int)).getD (s4.1.getD s4.2.1.toNat zTp).2.1.toNat 0<s2.2.1.length) then
       bif (s2.2.1.getD ((s2.2.2.2.2.2.2.1.1.getD (s4.1.getD s4.2.1.toNat zTp).1.toNat ([]:List Int)).getD (s4.1.getD s4.2.1.toNat zTp).2.1.toNat 0).toNat 0)==0 then
        bif decide ((s4.1.set s4.2.1.toNat ((s4.1.getD s4.2.1.toNat zTp).1,IntKind.i64.wrap (((s4.1.getD s4.2.1.toNat zTp).2.1)+1),())).length+[((s2.2.2.2.2.2.2.1.1.getD (s4.1.getD s4.2.1.toNat zTp).1.toNat ([]:List Int)).getD (s4.1.getD s4.2.1.toNat zTp).2.1.toNat 0,((0:Int),()))].length<rowMax)&&true then
         (wR (s2.2.2.2.2.2.2.1.1,s2.2.1,s4.2.2.1,s2.2.2.2.1,s2.2.2.2.2.1,s2.2.2.2.2.2.2.1.2.2.2.2.2.1,s2.2.2.2.2.2.1,()) ((s2.2.2.2.2.2.2.1.1.getD (s4.1.getD s4.2.1.toNat zTp).1.toNat ([]:List Int)).getD (s4.1.getD s4.2.1.toNat zTp).2.1.toNat 0)).bind fun r8=>
         rec3 ((s4.1.set s4.2.1.toNat ((s4.1.getD s4.2.1.toNat zTp).1,IntKind.i64.wrap (((s4.1.getD s4.2.1.toNat zTp).2.1)+1),()))++[((s2.2.2.2.2.2.2.1.1.getD (s4.1.getD s4.2.1.toNat zTp).1.toNat ([]:List Int)).getD (s4.1.getD s4.2.1.toNat zTp).2.1.toNat 0,((0:Int),()))],r8.1.2.1,r8.1.2.2.1,r8.1.2.2.2.1,r8.1.2.2.2.2.1,r8.1.2.2.2.2.2.2.1,(r8.1.1,(),(),(),(),r8.1.2.2.2.2.2.1,(),()),())
        else none
       else bif decide (0≤(s2.2.2.2.2.2.2.1.1.getD (s4.1.getD s4.2.1.toNat zTp).1.toNat ([]:List Int)).getD (s4.1.getD s4.2.1.toNat zTp).2.1.toNat 0)&&decide ((s2.2.2.2.2.2.2.1.1.getD (s4.1.getD s4.2.1.toNat zTp).1.toNat ([]:List Int)).getD (s4.1.getD s4.2.1.toNat zTp).2.1.toNat 0<s2.2.2.2.1.length) then
        bif s2.2.2.2.1.getD ((s2.2.2.2.2.2.2.1.1.getD (s4.1.getD s4.2.1.toNat zTp).1.toNat ([]:List Int)).getD (s4.1.getD s4.2.1.toNat zTp).2.1.toNat 0).toNat false then
         bif decide (0≤((s4.1.set s4.2.1.toNat ((s4.1.getD s4.2.1.toNat zTp).1,IntKind.i64.wrap (((s4.1.getD s4.2.1.toNat zTp).2.1)+1),())).getD s4.2.1.toNat zTp).1)&&decide (((s4.1.set s4.2.1.toNat ((s4.1.getD s4.2.1.toNat zTp).1,IntKind.i64.wrap (((s4.1.getD s4.2.1.toNat zTp).2.1)+1),())).getD s4.2.1.toNat zTp).1<s4.2.2.1.length) then
          bif decide (0≤(s2.2.2.2.2.2.2.1.1.getD (s4.1.getD s4.2.1.toNat zTp).1.toNat ([]:List Int)).getD (s4.1.getD s4.2.1.toNat zTp).2.1.toNat 0)&&decide ((s2.2.2.2.2.2.2.1.1.getD (s4.1.getD s4.2.1.toNat zTp).1.toNat ([]:List Int)).getD (s4.1.getD s4.2.1.toNat zTp).2.1.toNat 0<s2.2.1.length) then
           bif decide (0≤((s4.1.set s4.2.1.toNat ((s4.1.getD s4.2.1.toNat zTp).1,IntKind.i64.wrap (((s4.1.getD s4.2.1.toNat zTp).2.1)+1),())).getD s4.2.1.toNat zTp).1)&&decide (((s4.1.set s4.2.1.toNat ((s4.1.getD s4.2.1.toNat zTp).1,IntKind.i64.wrap (((s4.1.getD s4.2.1.toNat zTp).2.1)+1),())).getD s4.2.1.toNat zTp).1<s4.2.2.1.length) then
            rec5 (s4.1.set s4.2.1.toNat ((s4.1.getD s4.2.1.toNat zTp).1,IntKind.i64.wrap (((s4.1.getD s4.2.1.toNat zTp).2.1)+1),()),((s4.2.1.toNat:Int),s4.2.2.1.set ((s4.1.set s4.2.1.toNat ((s4.1.getD s4.2.1.toNat zTp).1,IntKind.i64.wrap (((s4.1.getD s4.2.1.toNat zTp).2.1)+1),())).getD s4.2.1.toNat zTp).1.toNat (min (s4.2.2.1.getD ((s4.1.set s4.2.1.toNat ((s4.1.getD s4.2.1.toNat zTp).1,IntKind.i64.wrap (((s4.1.getD s4.2.1.toNat zTp).2.1)+1),())).getD s4.2.1.toNat zTp).1.toNat 0) (s2.2.1.getD ((s2.2.2.2.2.2.2.1.1.getD (s4.1.getD s4.2.1.toNat zTp).1.toNat ([]:List Int)).getD (s4.1.getD s4.2.1.toNat zTp).2.1.toNat 0).toNat 0)),()))
           else none
          else none
         else none
        else rec5 (s4.1.set s4.2.1.toNat ((s4.1.getD s4.2.1.toNat zTp).1,IntKind.i64.wrap (((s4.1.getD s4.2.1.toNat zTp).2.1)+1),()),((s4.2.1.toNat:Int),s4.2.2.1,()))
       else none
      else none
    else none
   else none
  else bif decide ((0:Int)≤IntKind.i64.wrap ((s4.1.length:Int) - 1))&&decide (IntKind.i64.wrap ((s4.1.length:Int) - 1)≤(s4.1.length:Int))&&true then
   (wO (s2.2.2.2.2.2.2.1.1,s2.2.1,s4.2.2.1,s2.2.2.2.1,s2.2.2.2.2.1,s2.2.2.2.2.2.2.1.2.2.2.2.2.1,s2.2.2.2.2.2.1,()) (s4.1.getD s4.2.1.toNat zTp).1).bind fun r9=>
   bif decide ((((s4.1.take (IntKind.i64.wrap ((s4.1.length:Int) - 1)).toNat).drop 0).length:Int)>0) then
    bif decide (0≤IntKind.i64.wrap ((((s4.1.take (IntKind.i64.wrap ((s4.1.length:Int) - 1)).toNat).drop 0).length:Int) - 1))&&decide (IntKind.i64.wrap ((((s4.1.take (IntKind.i64.wrap ((s4.1.length:Int) - 1)).toNat).drop 0).length:Int) - 1)<((s4.1.take (IntKind.i64.wrap ((s4.1.length:Int) - 1)).toNat).drop 0).length) then
     bif decide (0≤(((s4.1.take (IntKind.i64.wrap ((s4.1.length:Int) - 1)).toNat).drop 0).getD (IntKind.i64.wrap ((((s4.1.take (IntKind.i64.wrap ((s4.1.length:Int) - 1)).toNat).drop 0).length:Int) - 1)).toNat zTp).1)&&decide ((((s4.1.take (IntKind.i64.wrap ((s4.1.length:Int) - 1)).toNat).drop 0).getD (IntKind.i64.wrap ((((s4.1.take (IntKind.i64.wrap ((s4.1.length:Int) - 1)).toNat).drop 0).length:Int) - 1)).toNat zTp).1<r9.1.2.2.1.length) then
      bif decide (0≤(s4.1.getD s4.2.1.toNat zTp).1)&&decide ((s4.1.getD s4.2.1.toNat zTp).1<r9.1.2.2.1.length) then
       bif decide (0≤(((s4.1.take (IntKind.i64.wrap ((s4.1.length:Int) - 1)).toNat).drop 0).getD (IntKind.i64.wrap ((((s4.1.take (IntKind.i64.wrap ((s4.1.length:Int) - 1)).toNat).drop 0).length:Int) - 1)).toNat zTp).1)&&decide ((((s4.1.take (IntKind.i64.wrap ((s4.1.length:Int) - 1)).toNat).drop 0).getD (IntKind.i64.wrap ((((s4.1.take (IntKind.i64.wrap ((s4.1.length:Int) - 1)).toNat).drop 0).length:Int) - 1)).toNat zTp).1<r9.1.2.2.1.length) then
        rec3 ((s4.1.take (IntKind.i64.wrap ((s4.1.length:Int) - 1)).toNat).drop 0,r9.1.2.1,(r9.1.2.2.1.set (((s4.1.take (IntKind.i64.wrap ((s4.1.length:Int) - 1)).toNat).drop 0).getD (IntKind.i64.wrap ((((s4.1.take (IntKind.i64.wrap ((s4.1.length:Int) - 1)).toNat).drop 0).length:Int) - 1)).toNat zTp).1.toNat (min (r9.1.2.2.1.getD (((s4.1.take (IntKind.i64.wrap ((s4.1.length:Int) - 1)).toNat).drop 0).getD (IntKind.i64.wrap ((((s4.1.take (IntKind.i64.wrap ((s4.1.length:Int) - 1)).toNat).drop 0).length:Int) - 1)).toNat zTp).1.toNat 0) (r9.1.2.2.1.getD (s4.1.getD s4.2.1.toNat zTp).1.toNat 0)),r9.1.2.2.2.1,r9.1.2.2.2.2.1,r9.1.2.2.2.2.2.2.1,(r9.1.1,(),(),(),(),r9.1.2.2.2.2.2.1,(),()),()))
       else none
      else none
     else none
    else none
   else rec3 ((s4.1.take (IntKind.i64.wrap ((s4.1.length:Int) - 1)).toNat).drop 0,r9.1.2.1,r9.1.2.2.1,r9.1.2.2.2.1,r9.1.2.2.2.2.1,r9.1.2.2.2.2.2.2.1,(r9.1.1,(),(),(),(),r9.1.2.2.2.2.2.1,(),()),())
  else none
 else none
def pT (fuel:Nat) (s2:List Tp×List Int×List Int×List Bool×List Int×List (List Int)×(List (List Int)×Unit×Unit×Unit×Unit×Int×Unit×Unit)×Unit) (rec3:(List Tp×List Int×List Int×List Bool×List Int×List (List Int)×(List (List Int)×Unit×Unit×Unit×Unit×Int×Unit×Unit)×Unit)→Option ((List (List Int)×List Int×List Int×List Bool×List Int×Int×List (List Int)×Unit)×Unit)):Option ((List (List Int)×List Int×List Int×List Bool×List Int×Int×List (List Int)×Unit)×Unit):=
 bif decide ((s2.1.length:Int)>0) then
  bif decide (0≤IntKind.i64.wrap ((s2.1.length:Int) - 1))&&decide (IntKind.i64.wrap ((s2.1.length:Int) - 1)<s2.1.length) then
   aE (tM s2 rec3) fuel (s2.1,(((IntKind.i64.wrap ((s2.1.length:Int) - 1)).toNat:Int),s2.2.2.1,()))
  else none
 else some ((s2.2.2.2.2.2.2.1.1,s2.2.1,s2.2.2.1,s2.2.2.2.1,s2.2.2.2.2.1,s2.2.2.2.2.2.2.1.2.2.2.2.2.1,s2.2.2.2.2.2.1,()),())
def rC (fuel:Nat) (f:List (List Int)×List Int×List Int×List Bool×List Int×Int×List (List Int)×Unit) (n:Int):Option ((List (List Int)×List Int×List Int×List Bool×List Int×Int×List (List Int)×Unit)×Unit):=
 (wR f n).bind fun r1=>
 aE (pT fuel) fuel (([(n,((0:Int),()))]:List Tp),r1.1.2.1,r1.1.2.2.1,r1.1.2.2.2.1,r1.1.2.2.2.2.1,r1.1.2.2.2.2.2.2.1,(r1.1.1,(),(),(),(),r1.1.2.2.2.2.2.1,(),()),())
def wQ (f:List (List Int)×List Int×List Int×List Bool×List Int×Int×List (List Int)×Unit) (n:Int):Option ((List (List Int)×List Int×List Int×List Bool×List Int×Int×List (List Int)×Unit)×Unit):=pick fun fuel=>rC fuel f n
theorem aQY (f:List (List Int)×List Int×List Int×List Bool×List Int×Int×List (List Int)×Unit) (n:Int) (r) (h:wQ f n=some r):∃k,rC k f n=some r:=aDh h
def aKa (s:List Int):Option (List Int×Unit):=
 bif decide ((s.length:Int)=(s.length:Int))&&decide ((s.length:Int)=(s.length:Int))&&true then
  some (s,())
 else none
def aKd (s:List (List Int)):Option (List (List Int)×Unit):=
 bif decide ((s.length:Int)=(s.length:Int))&&decide ((s.length:Int)=(s.length:Int))&&true then
  some (s,())
 else none
def yH (l:List (List Int)) (s1:Int×List Int×List Int×List Bool×List Int×List (List Int)×(List (List Int)×Unit×Unit×Unit×Unit×Int×Unit×Unit)×Unit) (rec2:(Int×List Int×List Int×List Bool×List Int×List (List Int)×(List (List Int)×Unit×Unit×Unit×Unit×Int×Unit×Unit)×Unit)→Option (List (List Int)×Unit)):Option (List (List Int)×Unit):=
 bif decide (s1.1<(l.length:Int)) then
  bif decide (0≤s1.1)&&decide (s1.1<s1.2.1.length) then
   bif (s1.2.1.getD s1.1.toNat 0)==0 then
    (wQ (s1.2.2.2.2.2.2.1.1,s1.2.1,s1.2.2.1,s1.2.2.2.1,s1.2.2.2.2.1,s1.2.2.2.2.2.2.1.2.2.2.2.2.1,s1.2.2.2.2.2.1,()) s1.1).bind fun r3=>
    rec2 (IntKind.i64.wrap (s1.1+1),r3.1.2.1,r3.1.2.2.1,r3.1.2.2.2.1,r3.1.2.2.2.2.1,r3.1.2.2.2.2.2.2.1,(r3.1.1,(),(),(),(),r3.1.2.2.2.2.2.1,(),()),())
   else rec2 (IntKind.i64.wrap (s1.1+1),s1.2.1,s1.2.2.1,s1.2.2.2.1,s1.2.2.2.2.1,s1.2.2.2.2.2.1,s1.2.2.2.2.2.2.1,())
  else none
 else some ((idL s1.2.2.2.2.2.1),())
def sM (fuel:Nat) (l:List (List Int)):Option (List (List Int)×Unit):=
 bif decide (0≤(l.length:Int))&&decide ((l.length:Int)≤(l.length:Int))&&decide ((l.length:Int)<(rowMax:Int)) then
  bif decide (0≤(l.length:Int))&&decide ((l.length:Int)≤(l.length:Int))&&decide ((l.length:Int)<(rowMax:Int)) then
   bif decide (0≤(l.length:Int))&&decide ((l.length:Int)≤(l.length:Int))&&decide ((l.length:Int)<(rowMax:Int)) then
    aE (yH l) fuel ((0:Int),(List.replicate l.length (0:Int),(List.replicate l.length (0:Int),List.replicate l.length false,(([]:List Int),(([]:List (List Int)),(l,(),(),(),(),((0:Int),(),())),())))))
   else none
  else none
 else none
def jL (l:List (List Int)):Option (List (List Int)×Unit):=pick fun fuel=>sM fuel l
theorem aNe (l:List (List Int)) (r) (h:jL l=some r):∃k,sM k l=some r:=aDh h
end
end Go.Pli

namespace Go.Pli
open Go Go.PM
abbrev Sh:=Bool×List Tp×Unit
abbrev zSh:Sh:=(false,[],())
abbrev Iq:=List Int×Int×Unit
abbrev zIq:Iq:=([],0,())
def aK (m:Im):Bool:=bW m&&kJ m
def fC (l:List (List Sh)):Bool:=okL l&&l.all fun h=>okL h&&h.all fun s=>okL s.2.1
def wM (_:Unit) (n:Int):Option (List Tp×Unit):=bif decide (0≤n)&&Nat.blt n.toNat 1000000000 then some ([],()) else none
def oI (l:List (List Tp)):Option (List Tp×Unit):=bif Nat.blt l.flatten.length 1000000000&&okL l then some (l.flatten,()) else none
def aBC (s:List Int) (v:Int):Int:=pO (fun x=>v==x) 0 s
def wW (s:List Int) (v:Int):Bool:=s.contains v
def cup (m:Im) (c:Int):Option (Int×Unit):=bif sin c (m.1.length:Int) then some (kup m.1 c,()) else none
def dQ (m:Im) (c:Int):List Tp:=(((cB m.1 c).reverse).map fun s=>(bX m s).2.1).flatten
def pX (m:Im) (c:Int):Option (List Tp×Unit):=bif bW m then some (dQ m c,()) else none
def qM (m:Im) (c:Int):Int:=((1+(dQ m c).length:Nat):Int)
def wV (m:Im) (c:Int):Option (Int×Unit):=bif bW m then some (qM m c,()) else none
def jT (x:Mt) (n:Int):Tp:=bif decide (n<0) then zTp else (x.1++x.2.1).getD n.toNat zTp
def tV (x:Mt) (n:Int):Option (Tp×Unit):=bif okL x.1&&okL x.2.1 then some (jT x n,()) else none
def gE (l:List Cl) (a b:Tp):Tp:=
 bif cK l a b then b else bif cK l b a then a else bif a.1 !=3 || b.1 !=3 then zTp else
 match (cC l (kup l a.2.1)).find? fun c=>dI l b.2.1 c with
 | some c=>(3,c,())
 | none=>zTp
def mK (o:Int):Bool:=decide (o≥7)&&decide (o≤17)
abbrev tI:Tp:=(1,0,())
abbrev tA:Tp:=(2,0,())
abbrev tN:Tp:=(4,0,())
abbrev tR (c:Int):Tp:=(3,c,())
abbrev Eff:=List Tp×List Tp×Unit
def eL (o:Int):Eff×Bool×Unit:=
 bif o==2 then (([],[tN],()),true,())
 else bif o==5 then (([zTp],[],()),true,())
 else bif o==20 then (([tN],[tI],()),true,())
 else bif o==21 then (([tN,tN],[tI],()),true,())
 else bif o==24 then (([tA,tI],[tI],()),true,())
 else bif o==25 then (([tA,tI,tI],[],()),true,())
 else bif o==26 then (([tA],[tI],()),true,())
 else bif o==1 then (([],[tI],()),true,())
 else bif o==19 then (([tI],[],()),true,())
 else bif o==18 then (([],[],()),true,())
 else bif o==23 then (([tI],[tA],()),true,())
 else bif mK o then (([tI,tI],[tI],()),true,())
 else (([],[],()),false,())
def iT (x:Mt) (t:List Tp):Eff:=(t++x.1.drop t.length,bif x.2.2.1.1 !=5 then[x.2.2.1] else[],())
def tO (x:Mt) (t:List Tp):Option (Eff×Unit):=bif okL x.1&&(okL t&&decide (t.length≤x.1.length)) then some (iT x t,()) else none
def eM (m:Im) (x:Mt) (i:Ins):Eff:=
 bif (eL i.1).2.1 then (eL i.1).1
 else bif i.1==3 then ([],[jT x i.2.1],())
 else bif i.1==4 then ([jT x i.2.1],[],())
 else bif i.1==22 then ([],[tR i.2.1],())
 else bif i.1==27 then ([tR i.2.1],[(dQ m i.2.1).getD i.2.2.1.toNat zTp],())
 else bif i.1==28 then ([tR i.2.1,(dQ m i.2.1).getD i.2.2.1.toNat zTp],[],())
 else bif i.1==29 then ([],[m.2.1.getD i.2.1.toNat zTp],())
 else bif i.1==30 then ([m.2.1.getD i.2.1.toNat zTp],[],())
 else bif i.1==31 then iT (aD m i.2.1) []
 else bif i.1==32 then iT (aD m (dR m i.2.1 i.2.2.1).1) [tR i.2.1]
 else bif i.1==34 then ([tN],[tR i.2.1],())
 else bif i.1==33 then (bif x.2.2.1.1 !=5 then ([x.2.2.1],[],()) else ([],[],()))
 else ([],[],())
def fof (m:Im) (i:Ins) (f:Int):Option (Eff×Unit):=bif aK m&&(inM m f&&cG m (aD m f) i) then some (eM m (aD m f) i,()) else none
def dZ (m:Im) (o:Int) (t w:Tp):Bool:=bif w.1==0 then true else bif w.1==4 then iR t&&(o !=34 || t.1 !=2) else cK m.1 t w
def dX (i:Ins) (pc:Int):List Int:=
 bif i.1==18 then[i.2.1] else bif i.1==19 then[IntKind.i64.wrap (pc+1),i.2.1] else bif i.1==33 then[] else[IntKind.i64.wrap (pc+1)]
def aG (m:Im) (f pc:Int):Ins:=(aD m f).2.2.2.1.getD pc.toNat zIns
def codeN (m:Im) (f:Int):Nat:=(aD m f).2.2.2.1.length
abbrev St4:=List Tp×List Int×Int×Unit
def nG (m:Im) (i:Ins) (e:Eff) (s:List Tp) (nx:List Int):St4:=
 bif decide (s.length<e.1.length) || decide (s.length - e.1.length+e.2.1.length>8) then ([],[],4,())
 else bif ((s.drop (s.length - e.1.length)).zip e.1).all fun p=>dZ m i.1 p.1 p.2 then (s.take (s.length - e.1.length)++e.2.1,nx,0,())
 else ([],[],4,())
def aO (m:Im) (f pc:Int) (s:List Tp):St4:=
 bif !(inM m f&&sin pc (codeN m f:Int)) then ([],[],1,())
 else bif (dX (aG m f pc) pc).contains (codeN m f:Int) then ([],[],4,())
 else bif (aG m f pc).1==6 then (bif decide (s.length=0) || decide (s.length≥8) then ([],[],4,()) else (s++s.drop (s.length - 1),dX (aG m f pc) pc,0,()))
 else nG m (aG m f pc) (eM m (aD m f) (aG m f pc)) s (dX (aG m f pc) pc)
def pR (m:Im) (f pc:Int) (s:List Tp):Option St4:=bif aK m&&okL s then some (aO m f pc s) else none
def bY (l:List Cl) (a s:List Tp):List Tp:=(a.zip s).map fun p=>gE l p.1 p.2
def dB (l:List Cl) (o:Sh) (s:List Tp):Sh×Bool×Bool×Unit:=
 bif !o.1 then ((true,s,()),true,true,())
 else bif decide (o.2.1.length≠s.length) then (o,false,false,())
 else bif (bY l o.2.1 s).any fun t=>t.1==0 then (o,false,false,())
 else ((true,bY l o.2.1 s,()),!(bY l o.2.1 s==o.2.1),true,())
def gB (l:List Cl) (a:List Tp):List Int→List Sh→List Bool→Bool×List Sh×List Bool×Unit
 | [],h,q=>(true,h,q,())
 | to::r,h,q=>
  bif !(dB l (h.getD to.toNat zSh) a).2.2.1 then (false,h,q,())
  else bif (dB l (h.getD to.toNat zSh) a).2.1 then gB l a r (h.set to.toNat (dB l (h.getD to.toNat zSh) a).1) (q.set to.toNat true)
  else gB l a r h q
def mE (m:Im) (f pc:Int) (h:List Sh) (q:List Bool):Bool×List Sh×List Bool×Unit:=
 bif (aO m f pc (h.getD pc.toNat zSh).2.1).2.2.1 !=0 then (false,h,q,())
 else gB m.1 (aO m f pc (h.getD pc.toNat zSh).2.1).1 (aO m f pc (h.getD pc.toNat zSh).2.1).2.1 h q
def sZ (m:Im) (f pc:Int) (h:List Sh) (q:List Bool):Bool:=
 aK m&&(inM m f&&(sin pc (codeN m f:Int)&&(decide (h.length=codeN m f)&&(decide (q.length=codeN m f)&&h.all fun s=>okL s.2.1))))
def aAv (m:Im) (f pc:Int) (h:List Sh) (q:List Bool):Option (Bool×List Sh×List Bool×Unit):=bif sZ m f pc h q then some (mE m f pc h q) else none
def qI (m:Im) (f:Int):Nat→List Sh→List Bool→Option (List Sh×Int×Int×Unit)
 | 0,_,_=>none
 | n+1,h,q=>bif q.any id then (aAv m f (q.findIdx id:Int) h (q.set (q.findIdx id) false)).bind fun r=>
   bif !r.1 then some ([],(q.findIdx id:Int),4,()) else qI m f n r.2.1 r.2.2.1
  else some (h,0,0,())
def xQ (m:Im) (f:Int):Option (List Sh×Int×Int×Unit):=
 bif aK m&&inM m f then qI m f (100*codeN m f+2) ((List.replicate (codeN m f) zSh).set 0 (true,[],())) ((List.replicate (codeN m f) false).set 0 true) else none
def rK (m:Im):List Int→List (List Sh)→Option (List (List Sh)×Int×Int×Int×Unit)
 | [],out=>some (out,0,0,0,())
 | f::l,out=>(xQ m f).bind fun r=>bif r.2.2.1 !=0 then some ([],f,r.2.1,r.2.2.1,()) else rK m l (out++[r.1])
def uO (m:Im):Option (List (List Sh)×Int×Int×Int×Unit):=bif aK m then rK m (ints m.2.2.2.1.length) [] else none
def lI (l:List Int):Int:=l.foldl max 0
def aRr (l:List (List Sh)) (f:Int):Int:=bif sin f (l.length:Int) then lI ((l.getD f.toNat []).map fun s=>(s.2.1.length:Int)) else 0
def aEi (m:Im) (l:List (List Sh)) (f:Int):Int:=bif inM m f then ((3+(aD m f).1.length+(aD m f).2.1.length:Nat):Int)+aRr l f else 0
def tU (to:Int) (part:List Int):Bool:=part.contains to
def aBE (l:List Int) (c:List Int×Unit):Int:=pO (fun x=>tU x c.1) 0 l
def zX (l:List Int) (c:List Int×Unit):Bool:=l.any fun x=>tU x c.1
def jE (l:List (List Int)) (part:List Int):Bool:=part.any fun k=>sin k (l.length:Int)&&(l.getD k.toNat []).any fun to=>part.contains to
def tT (l:List (List Int)) (part:List Int):Option (Bool×Unit):=bif okL part then some (jE l part,()) else none
def aKG (part out:List Int):List Int→Int→Int
 | [],b=>b
 | to::r,b=>aKG part out r (bif !part.contains to&&decide (to<(out.length:Int)) then max b (out.getD to.toNat 0) else b)
def aHl (m:Im) (l:List (List Sh)) (ed:List (List Int)) (part out:List Int) (cyc:Bool):List Int→Int→Int→Option (Int×Int)
 | [],a,b=>some (a,b)
 | f::r,a,b=>bif decide ((bif cyc then (aD m f).2.2.2.2.1 else 1)<1) then none
  else aHl m l ed part out cyc r (IntKind.i64.wrap (a+IntKind.i64.wrap ((bif cyc then (aD m f).2.2.2.2.1 else 1)*aEi m l f))) (aKG part out (ed.getD f.toNat []) b)
def aFS (v:Int):List Int→List Int→List Int
 | [],out=>out
 | f::r,out=>aFS v r (out.set f.toNat v)
def aGm (m:Im) (l:List (List Sh)) (ed:List (List Int)):List (List Int)→List Int→List Int×Int×Unit
 | [],out=>(out,0,())
 | part::ps,out=>match aHl m l ed part out (jE ed part) part 0 0 with
  | none=>([],5,())
  | some a=>aGm m l ed ps (aFS (IntKind.i64.wrap (a.1+a.2)) part out)
def fE (m:Im):List (List Int):=(ints m.2.2.2.1.length).map (ofB m)
def wT (m:Im):Bool:=(fE m).all fun e=>okL e&&e.all (inM m)
noncomputable def aJG (m:Im) (l:List (List Sh)):Option (List Int×Int×Unit):=bif aK m&&(fC l&&wT m) then (jL (fE m)).bind fun r=>bif okL r.1&&r.1.all (fun p=>okL p&&p.all (inM m)) then some (aGm m l (fE m) r.1 (List.replicate m.2.2.2.1.length 0)) else none else none
def inU (x:Int):Bool:=decide (0≤x)&&decide (x≤18446744073709551615)
def vT (x y:Int):Option (Int×Int×Unit):=bif inU x&&inU y then some (x*y/18446744073709551616,x*y % 18446744073709551616,()) else none
abbrev Sure:=Int×Bool×Unit
def lof (n:Int):Sure:=(n,decide (n> -4611686018427387904)&&decide (n<4611686018427387904),())
def fQ (n:Int):Int:=bif decide (n<0) then IntKind.u64.wrap (IntKind.i64.wrap (0 - n)) else IntKind.u64.wrap n
def aBb (a b:Sure):Sure:=bif a.2.1&&b.2.1 then lof (IntKind.i64.wrap (a.1+b.1)) else (0,false,())
def zH (a b:Sure):Option (Sure×Unit):=some (aBb a b,())
def aAw (a b:Sure):Sure:=
 bif a.2.1&&b.2.1 then (bif decide (fQ a.1*fQ b.1/18446744073709551616≠0) || decide (fQ a.1*fQ b.1 % 18446744073709551616≥4611686018427387904) then (0,false,()) else lof (IntKind.i64.wrap (a.1*b.1))) else (0,false,())
def zG (a b:Sure):Option (Sure×Unit):=some (aAw a b,())
def qK:List (Int×Int)→Sure→Sure
 | [],a=>a
 | p::r,a=>qK r (aBb a (aAw (lof p.1) (lof p.2)))
def aD9 (most:Int) (s:Sure):Bool×Int×Unit:=bif !s.2.1 then (false,14,()) else (decide (s.1≤most),0,())
def pQ (q:Iq) (v:List Int):Bool×Int×Unit:=bif decide (q.1.length≠v.length) then (false,14,()) else aD9 q.2.1 (qK (q.1.zip v) (lof 0))
def wF (q:Iq) (v:List Int):Option (Bool×Int×Unit):=bif okL q.1 then some (pQ q v) else none
def cE (l:List (List Sh)) (f pc:Int):Sh:=(l.getD f.toNat []).getD pc.toNat zSh
def pC (l:List (List Sh)) (f pc:Int):Option (Sh×Unit):=bif decide (0≤f)&&decide (0≤pc) then some (cE l f pc,()) else none
def eH (m:Im) (f:Int):Int:=(aD m f).2.2.2.2.2.1
def iI (m:Im) (i:Ins):Int:=
 bif i.1==22 then qM m i.2.1 else bif i.1==23 then IntKind.i64.wrap (1+max 0 (min i.2.1 255)) else lI (((bK m i).filter (inM m)).map (eH m))
def kN (m:Im) (i:Ins):Option (Int×Unit):=bif bW m then some (iI m i,()) else none
def aCh (z:List Int) (a d:Int):List Int:=bif decide (a≥0) then z.set a.toNat (IntKind.i64.wrap (z.getD a.toNat 0+d)) else z
def eX (n a b c:Int):Iq:=(aCh (aCh (List.replicate n.toNat 0) a (-1)) b 1,c,())
def qR (n a b c:Int):Option (Iq×Unit):=bif decide (0≤n)&&(Nat.blt n.toNat 1000000&&(decide (a<n)&&decide (b<n))) then some (eX n a b c,()) else none
def nK (m:Im) (l:List (List Sh)) (f pc:Int):List Iq:=
 bif !(cE l f pc).1 then[] else
 bif (aO m f pc (cE l f pc).2.1).2.2.1 !=0 then[] else
 (bif decide ((aO m f pc (cE l f pc).2.1).2.1.length=0) then[eX (codeN m f:Int) pc (-1) 0] else[])++
 (aO m f pc (cE l f pc).2.1).2.1.map fun to=>eX (codeN m f:Int) pc to (IntKind.i64.wrap (0 - iI m (aG m f pc)))
def mG (m:Im) (l:List (List Sh)) (f:Int):List Iq:=
 bif inM m f then eX (codeN m f:Int) (-1) 0 (eH m f)::((List.range (codeN m f)).map fun k:Nat=>nK m l f (k:Int)).flatten else[]
def sT (m:Im) (l:List (List Sh)) (f:Int):Option (List Iq×Unit):=bif aK m&&fC l then some (mG m l f,()) else none
def vS (n:Int):Bool:=decide (n<0)
def aBB (l:List Int) (_:Unit):Int:=pO vS 0 l
def zW (l:List Int) (_:Unit):Bool:=l.any vS
def jP (m:Im) (f:Int):List Int:=(aD m f).2.2.2.2.2.2.1
def aBI (m:Im) (f:Int) (q:Iq):Bool:=decide ((pQ q (jP m f)).2.1=0)&&(pQ q (jP m f)).1
def yV (m:Im) (l:List (List Sh)):List Int→Int×Int×Unit
 | []=>(0,0,())
 | f::r=>bif (mG m l f).all (aBI m f) then (bif (jP m f).any vS then (f,6,()) else yV m l r) else (f,6,())
def pE (m:Im) (l:List (List Sh)):Option (Int×Int×Unit):=bif aK m&&fC l then some (yV m l (ints m.2.2.2.1.length)) else none
def aBp (m:Im) (bd:List Int):List Int→Int→Int→Int×Int
 | [],s,h=>(s,h)
 | f::r,s,h=>bif decide (f≥0)&&decide (f<(bd.length:Int)) then aBp m bd r (max s (bd.getD f.toNat 0)) (max h (eH m f)) else aBp m bd r s h
def aO0 (m:Im) (r:List Int×Int×Unit):Int×Int×Int×Unit:=
 bif r.2.1 !=0 then (0,0,r.2.1,()) else ((aBp m r.1 m.2.2.2.2.1 0 0).1,IntKind.i64.wrap ((m.2.1.length:Int)+(aBp m r.1 m.2.2.2.2.1 0 0).2),0,())
noncomputable def aEN (m:Im) (l:List (List Sh)):Option (Int×Int×Int×Unit):=bif aK m then (aJG m l).bind fun r=>some (aO0 m r) else none
def nO (m:Im) (i:Ins):Int:=bif i.1==22 then qM m i.2.1 else bif i.1==23 then IntKind.i64.wrap (1+i.2.1) else lI ((bK m i).map (eH m))
def sR (m:Im) (i:Ins):Option (Int×Unit):=bif bW m&&(bK m i).all (inM m) then some (nO m i,()) else none
end Go.Pli

namespace Go.Pli
open Go Go.PM
def uY (l:List Cl) (a b:Tp):Option (Tp×Unit):=bif okL l then some (gE l a b,()) else none
def pA (m:Im) (f pc:Int) (s:List Tp):Option St4:=bif aK m&&okL s then some (aO m f pc s) else none
def kT (l:List Cl) (a:List Tp):List Int→Bool→List Sh→Option (Bool×List Sh)
 | [],t,h=>some (t,h)
 | to::r,t,h=>
  bif !(dB l (h.getD to.toNat zSh) a).2.2.1 then none
  else bif (dB l (h.getD to.toNat zSh) a).2.1 then kT l a r true (h.set to.toNat (dB l (h.getD to.toNat zSh) a).1)
  else kT l a r t h
def nY (m:Im) (f:Int) (pc:Nat) (t:Bool) (h:List Sh):Option (Bool×List Sh):=
 bif !(h.getD pc zSh).1 then some (t,h)
 else bif (aO m f (pc:Int) (h.getD pc zSh).2.1).2.2.1 !=0 then none
 else kT m.1 (aO m f (pc:Int) (h.getD pc zSh).2.1).1 (aO m f (pc:Int) (h.getD pc zSh).2.1).2.1 t h
def jC (m:Im) (f:Int):Nat→Bool→List Sh→Option (Bool×List Sh)
 | 0,t,h=>some (t,h)
 | pc+1,t,h=>(nY m f pc t h).bind fun r=>jC m f pc r.1 r.2
def hC (m:Im) (f:Int):Nat→List Sh→List Sh×Bool×Unit
 | 0,_=>([],false,())
 | n+1,h=>match jC m f (codeN m f) false h with
  | none=>([],false,())
  | some r=>bif r.1 then hC m f n r.2 else (r.2,true,())
def gY (m:Im) (f:Int):List Sh:=(List.replicate (codeN m f) zSh).set 0 (true,[],())
def vB (m:Im) (f:Int):Option (List Sh×Bool×Unit):=bif aK m&&inM m f then some (hC m f 4000 (gY m f)) else none
def tZ (m:Im):List Int→List (List Sh)→List (List Sh)×Int×Unit
 | [],out=>(out,-1,())
 | f::l,out=>bif (hC m f 4000 (gY m f)).2.1 then tZ m l (out++[(hC m f 4000 (gY m f)).1]) else ([],f,())
def kM (m:Im):Option (List (List Sh)×Int×Unit):=bif aK m then some (tZ m (ints m.2.2.2.1.length) []) else none
end Go.Pli

namespace Go.Pli
open Go Go.PM
def xO (m:Im):Nat→Nat→Bool:=bE (cM m) m.2.2.2.1.length
end Go.Pli

namespace Go.Pli
open Go Go.PM
end Go.Pli

namespace Go.Pli
open Go Go.PM
def qW (l:List Int):Int:=(l.drop 1).foldl max (l.getD 0 0)
def vZ (l:List Int):Option (Int×Unit):=bif okL l&&decide (0<l.length) then some (qW l,()) else none
def uU (m:Im):Bool:=decide ((m.2.2.2.1.length:Int)≤12)&&(decide ((m.1.length:Int)≤8)&&(decide ((m.2.2.1.length:Int)≤16)&&(sP m==0)))
def eC (c:Int) (pc:Nat):List Int→Bool→List Int→Bool×List Int
 | [],t,phi=>(t,phi)
 | to::r,t,phi=>
  bif decide (IntKind.i64.wrap (c+phi.getD to.toNat 0)>phi.getD pc 0) then eC c pc r true (phi.set pc (IntKind.i64.wrap (c+phi.getD to.toNat 0)))
  else eC c pc r t phi
def jM (m:Im) (l:List (List Sh)) (f:Int) (pc:Nat) (t:Bool) (phi:List Int):Bool×List Int:=
 bif !(cE l f (pc:Int)).1 then (t,phi)
 else eC (iI m (aG m f (pc:Int))) pc (aO m f (pc:Int) (cE l f (pc:Int)).2.1).2.1 t phi
def eG (m:Im) (l:List (List Sh)) (f:Int):List Nat→Bool→List Int→Bool×List Int
 | [],t,phi=>(t,phi)
 | pc::r,t,phi=>eG m l f r (jM m l f pc t phi).1 (jM m l f pc t phi).2
def kP (m:Im) (l:List (List Sh)) (f:Int):Nat→List Int→List Int×Bool×Unit
 | 0,_=>([],false,())
 | k+1,phi=>
  bif (eG m l f (List.range (codeN m f)) false phi).1 then kP m l f k (eG m l f (List.range (codeN m f)) false phi).2
  else ((eG m l f (List.range (codeN m f)) false phi).2,decide (qW ((eG m l f (List.range (codeN m f)) false phi).2++[0])≤4096),())
def fR (m:Im) (l:List (List Sh)) (f:Int):List Int×Bool×Unit:=kP m l f (codeN m f+1) (List.replicate (codeN m f) 0)
def pD (m:Im) (l:List (List Sh)) (f:Int):Option (List Int×Bool×Unit):=bif aK m&&(fC l&&inM m f) then some (fR m l f) else none
def gZ (x:Mt) (p:Int):Mt:=(x.1,x.2.1,x.2.2.1,x.2.2.2.1,x.2.2.2.2.1,p,x.2.2.2.2.2.2)
def sI (x:Mt) (p:List Int):Mt:=(x.1,x.2.1,x.2.2.1,x.2.2.2.1,x.2.2.2.2.1,x.2.2.2.2.2.1,p,())
def aN (m:Im) (ms:List Mt):Im:=(m.1,m.2.1,m.2.2.1,ms,m.2.2.2.2)
def oA (m:Im) (l:List (List Sh)):List Int→List Mt→Option (Option (List Mt))
 | [],ms=>some (some ms)
 | f::r,ms=>(pD (aN m ms) l f).bind fun q=>bif !q.2.1 then some none else oA m l r (ms.set f.toNat (sI (ms.getD f.toNat zMt) q.1))
def fO (ms:List Mt) (f:Int):List Mt:=bif decide (((ms.getD f.toNat zMt).2.2.2.2.2.2.1.length:Int)>0) then ms.set f.toNat (gZ (ms.getD f.toNat zMt) ((ms.getD f.toNat zMt).2.2.2.2.2.2.1.getD 0 0)) else ms
def mY (ed:List (List Int)) (part:List Int):List Int→List Mt→Option (List Mt)
 | [],ms=>some ms
 | f::r,ms=>bif decide (((fO ms f).getD f.toNat zMt).2.2.2.2.2.1>0)&&jE ed part then none else mY ed part r (fO ms f)
def nZ (m:Im) (l:List (List Sh)) (ed:List (List Int)):List (List Int)→List Mt→Option (Option (List Mt))
 | [],ms=>some (some ms)
 | p::ps,ms=>(oA m l p ms).bind fun q=>match q with
  | none=>some none
  | some ms1=>match mY ed p p ms1 with
   | none=>some none
   | some ms2=>nZ m l ed ps ms2
def aEo (m:Im):Option (List Mt)→Im×Bool×Unit
 | none=>(zIm,false,())
 | some ms=>(aN m ms,true,())
noncomputable def lF (m:Im) (l:List (List Sh)):Option (Im×Bool×Unit):=
 bif aK m&&wT m then (jL (fE m)).bind fun r=>bif okL r.1&&r.1.all (fun p=>okL p&&p.all (inM m)) then
  (nZ m l (fE m) r.1 (m.2.2.2.1.map fun x=>gZ x 0)).bind fun q=>some (aEo m q) else none else none
end Go.Pli

namespace Go.Pli
open Go Go.PM
noncomputable section
def aIK (_s:Unit) (n:Int):Option (List Tp×Unit):=
 bif decide (n<0) then
  none
 else bif decide (IntKind.i64.wrap (n - (IntKind.i64.wrap ((0:Int) - (([]:List Tp).length:Int))))>0) then
  bif decide (0<IntKind.i64.wrap (n - (IntKind.i64.wrap ((0:Int) - (([]:List Tp).length:Int)))))&&decide (IntKind.i64.wrap (n - (IntKind.i64.wrap ((0:Int) - (([]:List Tp).length:Int))))<(rowMax:Int)) then
   bif decide ((0:Int)≤(([]:List Tp).length:Int))&&decide ((([]:List Tp).length:Int)≤((List.replicate (IntKind.i64.wrap (n - (IntKind.i64.wrap ((0:Int) - (([]:List Tp).length:Int))))).toNat zTp).length:Int))&&true then
    some (((List.replicate (IntKind.i64.wrap (n - (IntKind.i64.wrap ((0:Int) - (([]:List Tp).length:Int))))).toNat zTp).take (([]:List Tp).length:Int).toNat).drop 0,())
   else none
  else none
 else some (([]:List Tp),())
def aBV (l:List (List Tp)) (s4:List Tp×Int×Unit) (rec5:(List Tp×Int×Unit)→Option (List Tp×Unit)):Option (List Tp×Unit):=
 bif decide (s4.2.1<(l.length:Int)) then
  bif decide (0≤s4.2.1)&&decide (s4.2.1<l.length) then
   bif decide (s4.1.length+(l.getD s4.2.1.toNat ([]:List Tp)).length<rowMax)&&true then
    rec5 (s4.1++(l.getD s4.2.1.toNat ([]:List Tp)),IntKind.i64.wrap (s4.2.1+1),())
   else none
  else none
 else some (s4.1,())
def aEA (l:List (List Tp)) (fuel:Nat) (s1:Int×Int×Unit) (rec2:(Int×Int×Unit)→Option (List Tp×Unit)):Option (List Tp×Unit):=
 bif decide (s1.2.1<(l.length:Int)) then
  bif decide (0≤s1.2.1)&&decide (s1.2.1<l.length) then
   bif decide (IntKind.i64.wrap (s1.1+((l.getD s1.2.1.toNat ([]:List Tp)).length:Int))<0) then
    none
   else rec2 (IntKind.i64.wrap (s1.1+((l.getD s1.2.1.toNat ([]:List Tp)).length:Int)),IntKind.i64.wrap (s1.2.1+1),())
  else none
 else
  (wM () s1.1).bind fun r3=>
  aE (aBV l) fuel (r3.1,((0:Int),()))
def aJX (fuel:Nat) (l:List (List Tp)):Option (List Tp×Unit):=
 aE (aEA l fuel) fuel ((0:Int),((0:Int),()))
def aQf (s:List Int) (_v:Int):Prop:=(s.length≤lenMax∧∀x1:Int,x1∈s→True)∧True∧True
def aD6 (s:List Int) (v:Int) (s1:Int×Unit) (rec2:(Int×Unit)→Option (Int×Unit)):Option (Int×Unit):=
 bif decide (s1.1<(s.length:Int)) then
  bif decide (0≤s1.1)&&decide (s1.1<s.length) then
   bif v==(s.getD s1.1.toNat 0) then
    some (s1.1,())
   else rec2 (IntKind.i64.wrap (s1.1+1),())
  else none
 else some ((-1:Int),())
def aQe (fuel:Nat) (s:List Int) (v:Int):Option (Int×Unit):=
 aE (aD6 s v) fuel ((0:Int),())
def aRP (s:List Int) (_v:Int):Prop:=(s.length≤lenMax∧∀x1:Int,x1∈s→True)∧True∧True
def aJS (s:List Int) (v:Int):Option (Bool×Unit):=
 some (decide ((aBC s v)≥0),())
def aJ6 (s:List Iq):Option (List Iq×Unit):=
 bif decide ((s.length:Int)=(s.length:Int))&&decide ((s.length:Int)=(s.length:Int)) then
  some (s,())
 else none
def aJI (m:Im) (c:Int):Option (Int×Unit):=
 bif decide (0≤c)&&decide (c<m.1.length) then
  bif decide ((m.1.getD c.toNat zCl).1≥c) then
   some ((-1:Int),())
  else bif decide (0≤c)&&decide (c<m.1.length) then
   some ((m.1.getD c.toNat zCl).1,())
  else none
 else none
def aB3 (m:Im) (s1:Int×List Tp×Unit) (rec2:(Int×List Tp×Unit)→Option (List Tp×Unit)):Option (List Tp×Unit):=
 bif decide (s1.1≥0) then
  bif decide (0≤s1.1)&&decide (s1.1<m.1.length) then
   (oI [(m.1.getD s1.1.toNat zCl).2.1,s1.2.1]).bind fun r3=>
   (cup m s1.1).bind fun r4=>
   rec2 (r4.1,r3.1,())
  else none
 else some (s1.2.1,())
def aKo (fuel:Nat) (m:Im) (c:Int):Option (List Tp×Unit):=
 bif decide (c≥(m.1.length:Int)) then
  some (([]:List Tp),())
 else aE (aB3 m) fuel (c,(([]:List Tp),()))
def aJP (m:Im) (c:Int):Option (Int×Unit):=
 (pX m c).bind fun r1=>
 some (IntKind.i64.wrap ((1:Int)+(r1.1.length:Int)),())
def aJ3 (x:Mt) (n:Int):Option (Tp×Unit):=
 bif decide (n<0) then
  some (((0:Int),((0:Int),())),())
 else bif decide (n≥IntKind.i64.wrap ((x.1.length:Int)+(x.2.1.length:Int))) then
  some (((0:Int),((0:Int),())),())
 else bif decide (n<(x.1.length:Int)) then
  bif decide (0≤n)&&decide (n<x.1.length) then
   some (x.1.getD n.toNat zTp,())
  else none
 else bif decide (0≤IntKind.i64.wrap (n - (x.1.length:Int)))&&decide (IntKind.i64.wrap (n - (x.1.length:Int))<x.2.1.length) then
  some (x.2.1.getD (IntKind.i64.wrap (n - (x.1.length:Int))).toNat zTp,())
 else none
def aHD (o:Int):Option (Bool×Unit):=
 bif decide (o≥7) then
  some (decide (o≤17),())
 else some (false,())
def jB:Tp:=
 ((1:Int),((0:Int),()))
def wS:Tp:=
 ((2:Int),((0:Int),()))
def mX (c:Int):Tp:=
 ((3:Int),c,())
def gU (t:List Tp):List Tp:=
 t
def fV (t:Tp):List Tp:=
 [t]
def aJs (x:Mt) (t:List Tp):Option ((List Tp×List Tp×Unit)×Unit):=
 bif decide (0≤(t.length:Int))&&decide ((t.length:Int)≤(x.1.length:Int))&&decide ((x.1.length:Int)≤(x.1.length:Int)) then
  (oI [t,(x.1.take x.1.length).drop t.length]).bind fun r1=>
  bif x.2.2.1.1 !=5 then
   some ((r1.1,[x.2.2.1],()),())
  else some ((r1.1,(([]:List Tp),())),())
 else none
def aIZ (o:Int):Option ((List Tp×List Tp×Unit)×Bool×Unit):=
 bif o==2 then
  some ((([]:List Tp),((gU [((4:Int),((0:Int),()))]),())),true,())
 else bif o==5 then
  some (((gU [((0:Int),((0:Int),()))]),(([]:List Tp),())),true,())
 else bif o==20 then
  some (((gU [((4:Int),((0:Int),()))]),(gU [jB]),()),true,())
 else bif o==21 then
  some (((gU [((4:Int),((0:Int),())),((4:Int),((0:Int),()))]),(gU [jB]),()),true,())
 else bif o==24 then
  some (((gU [wS,jB]),(gU [jB]),()),true,())
 else bif o==25 then
  some (((gU [wS,jB,jB]),(([]:List Tp),())),true,())
 else bif o==26 then
  some (((gU [wS]),(gU [jB]),()),true,())
 else bif o==1 then
  some ((([]:List Tp),(gU [jB]),()),true,())
 else bif o==19 then
  some (((gU [jB]),(([]:List Tp),())),true,())
 else bif o==18 then
  some ((([]:List Tp),(([]:List Tp),())),true,())
 else bif o==23 then
  some (((gU [jB]),(gU [wS]),()),true,())
 else bif (mK o) then
  some (((gU [jB,jB]),(gU [jB]),()),true,())
 else some ((([]:List Tp),(([]:List Tp),())),false,())
def aI2 (m:Im) (i:Ins) (f:Int):Option ((List Tp×List Tp×Unit)×Unit):=
 bif decide (0≤f)&&decide (f<m.2.2.2.1.length) then
  let r1:=eL i.1
  bif r1.2.1 then
   some (r1.1,())
  else bif i.1==3 then
   (tV (m.2.2.2.1.getD f.toNat zMt) i.2.1).bind fun r2=>
   some ((([]:List Tp),(fV r2.1),()),())
  else bif i.1==4 then
   (tV (m.2.2.2.1.getD f.toNat zMt) i.2.1).bind fun r3=>
   some (((fV r3.1),(([]:List Tp),())),())
  else bif i.1==22 then
   some ((([]:List Tp),(fV (mX i.2.1)),()),())
  else bif i.1==27 then
   (pX m i.2.1).bind fun r4=>
   bif decide (0≤i.2.2.1)&&decide (i.2.2.1<r4.1.length) then
    some (((fV (mX i.2.1)),(fV (r4.1.getD i.2.2.1.toNat zTp)),()),())
   else none
  else bif i.1==28 then
   (pX m i.2.1).bind fun r5=>
   bif decide (0≤i.2.2.1)&&decide (i.2.2.1<r5.1.length) then
    some (([(mX i.2.1),r5.1.getD i.2.2.1.toNat zTp],(([]:List Tp),())),())
   else none
  else bif i.1==29 then
   bif decide (0≤i.2.1)&&decide (i.2.1<m.2.1.length) then
    some ((([]:List Tp),(fV (m.2.1.getD i.2.1.toNat zTp)),()),())
   else none
  else bif i.1==30 then
   bif decide (0≤i.2.1)&&decide (i.2.1<m.2.1.length) then
    some (((fV (m.2.1.getD i.2.1.toNat zTp)),(([]:List Tp),())),())
   else none
  else bif i.1==31 then
   bif decide (0≤i.2.1)&&decide (i.2.1<m.2.2.2.1.length) then
    (tO (m.2.2.2.1.getD i.2.1.toNat zMt) ([]:List Tp)).bind fun r6=>
    some (r6.1,())
   else none
  else bif i.1==32 then
   let r7:=dR m i.2.1 i.2.2.1
   bif decide (0≤r7.1)&&decide (r7.1<m.2.2.2.1.length) then
    (tO (m.2.2.2.1.getD r7.1.toNat zMt) (fV (mX i.2.1))).bind fun r8=>
    some (r8.1,())
   else none
  else bif i.1==34 then
   some (((fV ((4:Int),((0:Int),()))),(fV (mX i.2.1)),()),())
  else bif i.1==33 then
   bif ((m.2.2.2.1.getD f.toNat zMt).2.2.1.1) !=5 then
    some (((fV (m.2.2.2.1.getD f.toNat zMt).2.2.1),(([]:List Tp),())),())
   else some ((([]:List Tp),(([]:List Tp),())),())
  else some ((([]:List Tp),(([]:List Tp),())),())
 else none
def aJq (m:Im) (o:Int) (t:Tp) (w:Tp):Option (Bool×Unit):=
 bif w.1==0 then
  some (true,())
 else bif w.1==4 then
  bif (iR t) then
   bif o !=34 then
    some (true,())
   else some (t.1 !=2,())
  else some (false,())
 else some ((cK m.1 t w),())
def aI3 (i:Ins) (pc:Int):Option (List Int×Unit):=
 bif i.1==18 then
  some ([i.2.1],())
 else bif i.1==19 then
  some ([IntKind.i64.wrap (pc+1),i.2.1],())
 else bif i.1==33 then
  some (([]:List Int),())
 else some ([IntKind.i64.wrap (pc+1)],())
def aEh (m:Im) (f:Int) (pc:Int) (s:List Tp) (r2:(List Tp×List Tp×Unit)×Unit) (s3:List Int×Int×Unit) (rec4:(List Int×Int×Unit)→Option (List Tp×List Int×Int×Unit)):Option (List Tp×List Int×Int×Unit):=
 bif decide (s3.2.1<(r2.1.1.length:Int)) then
  bif decide (0≤s3.2.1)&&decide (s3.2.1<r2.1.1.length) then
   bif decide (0≤IntKind.i64.wrap ((IntKind.i64.wrap ((s.length:Int) - (r2.1.1.length:Int)))+s3.2.1))&&decide (IntKind.i64.wrap ((IntKind.i64.wrap ((s.length:Int) - (r2.1.1.length:Int)))+s3.2.1)<s.length) then
    bif !(dZ m ((m.2.2.2.1.getD f.toNat zMt).2.2.2.1.getD pc.toNat zIns).1 (s.getD (IntKind.i64.wrap ((IntKind.i64.wrap ((s.length:Int) - (r2.1.1.length:Int)))+s3.2.1)).toNat zTp) (r2.1.1.getD s3.2.1.toNat zTp)) then
     some (([]:List Tp),(([]:List Int),((4:Int),())))
    else rec4 (s3.1,IntKind.i64.wrap (s3.2.1+1),())
   else none
  else none
 else bif decide ((0:Int)≤IntKind.i64.wrap ((s.length:Int) - (r2.1.1.length:Int)))&&decide (IntKind.i64.wrap ((s.length:Int) - (r2.1.1.length:Int))≤(s.length:Int)) then
  (oI [(s.take (IntKind.i64.wrap ((s.length:Int) - (r2.1.1.length:Int))).toNat).drop 0,r2.1.2.1]).bind fun r5=>
  some (r5.1,s3.1,((0:Int),()))
 else none
def aIX (fuel:Nat) (m:Im) (f:Int) (pc:Int) (s:List Tp):Option (List Tp×List Int×Int×Unit):=
 bif decide (f<0) then
  some (([]:List Tp),(([]:List Int),((1:Int),())))
 else bif decide (f≥(m.2.2.2.1.length:Int)) then
  some (([]:List Tp),(([]:List Int),((1:Int),())))
 else bif decide (pc<0) then
  some (([]:List Tp),(([]:List Int),((1:Int),())))
 else bif decide (0≤f)&&decide (f<m.2.2.2.1.length) then
  bif decide (pc≥((m.2.2.2.1.getD f.toNat zMt).2.2.2.1.length:Int)) then
   some (([]:List Tp),(([]:List Int),((1:Int),())))
  else bif decide (0≤f)&&decide (f<m.2.2.2.1.length) then
   bif decide (0≤pc)&&decide (pc<(m.2.2.2.1.getD f.toNat zMt).2.2.2.1.length) then
    bif decide (0≤f)&&decide (f<m.2.2.2.1.length) then
     bif (wW (dX ((m.2.2.2.1.getD f.toNat zMt).2.2.2.1.getD pc.toNat zIns) pc) ((m.2.2.2.1.getD f.toNat zMt).2.2.2.1.length:Int)) then
      some (([]:List Tp),(([]:List Int),((4:Int),())))
     else bif (((m.2.2.2.1.getD f.toNat zMt).2.2.2.1.getD pc.toNat zIns).1)==6 then
      bif (s.length:Int)==0 then
       some (([]:List Tp),(([]:List Int),((4:Int),())))
      else bif decide ((s.length:Int)≥8) then
       some (([]:List Tp),(([]:List Int),((4:Int),())))
      else bif decide (0≤IntKind.i64.wrap ((s.length:Int) - 1))&&decide (IntKind.i64.wrap ((s.length:Int) - 1)≤(s.length:Int))&&decide ((s.length:Int)≤(s.length:Int)) then
       (oI [s,(s.take s.length).drop (IntKind.i64.wrap ((s.length:Int) - 1)).toNat]).bind fun r1=>
       some (r1.1,(dX ((m.2.2.2.1.getD f.toNat zMt).2.2.2.1.getD pc.toNat zIns) pc),((0:Int),()))
      else none
     else
      (fof m ((m.2.2.2.1.getD f.toNat zMt).2.2.2.1.getD pc.toNat zIns) f).bind fun r2=>
      bif decide (IntKind.i64.wrap ((s.length:Int) - (r2.1.1.length:Int))<0) then
       some (([]:List Tp),(([]:List Int),((4:Int),())))
      else bif decide (IntKind.i64.wrap ((IntKind.i64.wrap ((s.length:Int) - (r2.1.1.length:Int)))+(r2.1.2.1.length:Int))>8) then
       some (([]:List Tp),(([]:List Int),((4:Int),())))
      else aE (aEh m f pc s r2) fuel ((dX ((m.2.2.2.1.getD f.toNat zMt).2.2.2.1.getD pc.toNat zIns) pc),((0:Int),()))
    else none
   else none
  else none
 else none
def aRz (_to:Int) (part:List Int):Prop:=True∧(part.length≤lenMax∧∀x1:Int,x1∈part→True)∧True
def aRy (to:Int) (part:List Int):Option (Bool×Unit):=
 some ((wW part to),())
def aQj (l:List Int) (c:List Int×Unit):Prop:=(l.length≤lenMax∧∀x1:Int,x1∈l→True)∧((c.1.length≤lenMax∧∀x1:Int,x1∈c.1→True)∧True)∧True
def aD7 (l:List Int) (c:List Int×Unit) (s1:Int×Unit) (rec2:(Int×Unit)→Option (Int×Unit)):Option (Int×Unit):=
 bif decide (s1.1<(l.length:Int)) then
  bif decide (0≤s1.1)&&decide (s1.1<l.length) then
   bif (tU (l.getD s1.1.toNat 0) c.1) then
    some (s1.1,())
   else rec2 (IntKind.i64.wrap (s1.1+1),())
  else none
 else some ((-1:Int),())
def aQi (fuel:Nat) (l:List Int) (c:List Int×Unit):Option (Int×Unit):=
 aE (aD7 l c) fuel ((0:Int),())
def aRS (l:List Int) (c:List Int×Unit):Prop:=(l.length≤lenMax∧∀x1:Int,x1∈l→True)∧((c.1.length≤lenMax∧∀x1:Int,x1∈c.1→True)∧True)∧True
def aJT (l:List Int) (c:List Int×Unit):Option (Bool×Unit):=
 some (decide ((aBE l c)≥0),())
def aBT (l:List (List Int)) (part:List Int) (s1:Int×Unit) (rec2:(Int×Unit)→Option (Bool×Unit)):Option (Bool×Unit):=
 bif decide (s1.1<(part.length:Int)) then
  bif decide (0≤s1.1)&&decide (s1.1<part.length) then
   bif decide (part.getD s1.1.toNat 0<0) then
    rec2 (IntKind.i64.wrap (s1.1+1),())
   else bif decide (part.getD s1.1.toNat 0≥(l.length:Int)) then
    rec2 (IntKind.i64.wrap (s1.1+1),())
   else bif decide (0≤part.getD s1.1.toNat 0)&&decide (part.getD s1.1.toNat 0<l.length) then
    bif (zX (l.getD (part.getD s1.1.toNat 0).toNat ([]:List Int)) (part,())) then
     some (true,())
    else rec2 (IntKind.i64.wrap (s1.1+1),())
   else none
  else none
 else some (false,())
def aJH (fuel:Nat) (l:List (List Int)) (part:List Int):Option (Bool×Unit):=
 aE (aBT l part) fuel ((0:Int),())
def aHE (x:Int) (y:Int):Option (Int×Int×Unit):=
 some (IntKind.u64.wrap ((IntKind.u64.wrap ((IntKind.u64.wrap ((x.fdiv 4294967296)*(y.fdiv 4294967296)))+((IntKind.u64.wrap ((IntKind.u64.wrap ((x.fdiv 4294967296)*(IntKind.u64.wrap ((BitVec.ofInt 64 y&&&BitVec.ofInt 64 4294967295).toNat))))+((IntKind.u64.wrap ((IntKind.u64.wrap ((BitVec.ofInt 64 x&&&BitVec.ofInt 64 4294967295).toNat))*(IntKind.u64.wrap ((BitVec.ofInt 64 y&&&BitVec.ofInt 64 4294967295).toNat)))).fdiv 4294967296))).fdiv 4294967296)))+((IntKind.u64.wrap ((IntKind.u64.wrap ((BitVec.ofInt 64 (IntKind.u64.wrap ((IntKind.u64.wrap ((x.fdiv 4294967296)*(IntKind.u64.wrap ((BitVec.ofInt 64 y&&&BitVec.ofInt 64 4294967295).toNat))))+((IntKind.u64.wrap ((IntKind.u64.wrap ((BitVec.ofInt 64 x&&&BitVec.ofInt 64 4294967295).toNat))*(IntKind.u64.wrap ((BitVec.ofInt 64 y&&&BitVec.ofInt 64 4294967295).toNat)))).fdiv 4294967296)))&&&BitVec.ofInt 64 4294967295).toNat))+(IntKind.u64.wrap ((IntKind.u64.wrap ((BitVec.ofInt 64 x&&&BitVec.ofInt 64 4294967295).toNat))*(y.fdiv 4294967296))))).fdiv 4294967296)),IntKind.u64.wrap (x*y),())
def aIe (n:Int):Option ((Int×Bool×Unit)×Unit):=
 bif decide (n>(-4611686018427387904:Int)) then
  some ((n,decide (n<4611686018427387904),()),())
 else some ((n,false,()),())
def aH7 (n:Int):Option (Int×Unit):=
 bif decide (n<0) then
  some (IntKind.u64.wrap (IntKind.i64.wrap (0 - n)),())
 else some (IntKind.u64.wrap n,())
def aH8 (a:Int×Bool×Unit) (b:Int×Bool×Unit):Option ((Int×Bool×Unit)×Unit):=
 bif !a.2.1 then
  some (((0:Int),false,()),())
 else bif !b.2.1 then
  some (((0:Int),false,()),())
 else some ((lof (IntKind.i64.wrap (a.1+b.1))),())
def aH4 (a:Int×Bool×Unit) (b:Int×Bool×Unit):Option ((Int×Bool×Unit)×Unit):=
 bif !a.2.1 then
  some (((0:Int),false,()),())
 else bif !b.2.1 then
  some (((0:Int),false,()),())
 else
  (vT (fQ a.1) (fQ b.1)).bind fun r1=>
  bif r1.1 !=0 then
   some (((0:Int),false,()),())
  else bif decide (r1.2.1≥4611686018427387904) then
   some (((0:Int),false,()),())
  else some ((lof (IntKind.i64.wrap (a.1*b.1))),())
def aBy (q:Iq) (v:List Int) (s1:Int×(Int×Bool×Unit)×Unit) (rec2:(Int×(Int×Bool×Unit)×Unit)→Option (Bool×Int×Unit)):Option (Bool×Int×Unit):=
 bif decide (s1.1<(q.1.length:Int)) then
  bif decide (0≤s1.1)&&decide (s1.1<q.1.length) then
   bif decide (0≤s1.1)&&decide (s1.1<v.length) then
    (zG (lof (q.1.getD s1.1.toNat 0)) (lof (v.getD s1.1.toNat 0))).bind fun r3=>
    (zH s1.2.1 r3.1).bind fun r4=>
    rec2 (IntKind.i64.wrap (s1.1+1),r4.1,())
   else none
  else none
 else bif !s1.2.1.2.1 then
  some (false,((14:Int),()))
 else some (decide (s1.2.1.1≤q.2.1),((0:Int),()))
def aIk (fuel:Nat) (q:Iq) (v:List Int):Option (Bool×Int×Unit):=
 bif (q.1.length:Int) !=(v.length:Int) then
  some (false,((14:Int),()))
 else aE (aBy q v) fuel ((0:Int),((lof (0:Int)),()))
def aG5 (l:List (List Sh)) (f:Int) (pc:Int):Option (Sh×Unit):=
 bif decide (f≥(l.length:Int)) then
  some ((false,(([]:List Tp),())),())
 else bif decide (0≤f)&&decide (f<l.length) then
  bif decide (pc≥((l.getD f.toNat ([]:List Sh)).length:Int)) then
   some ((false,(([]:List Tp),())),())
  else bif decide (0≤f)&&decide (f<l.length) then
   bif decide (0≤pc)&&decide (pc<(l.getD f.toNat ([]:List Sh)).length) then
    some ((l.getD f.toNat ([]:List Sh)).getD pc.toNat zSh,())
   else none
  else none
 else none
def aBh (m:Im) (r2:List Int×Unit) (s3:Int×Int×Unit) (rec4:(Int×Int×Unit)→Option (Int×Unit)):Option (Int×Unit):=
 bif decide (s3.2.1<(r2.1.length:Int)) then
  bif decide (0≤s3.2.1)&&decide (s3.2.1<r2.1.length) then
   bif decide (r2.1.getD s3.2.1.toNat 0≥0) then
    bif decide (r2.1.getD s3.2.1.toNat 0<(m.2.2.2.1.length:Int)) then
     bif decide (0≤r2.1.getD s3.2.1.toNat 0)&&decide (r2.1.getD s3.2.1.toNat 0<m.2.2.2.1.length) then
      rec4 (max s3.1 (m.2.2.2.1.getD (r2.1.getD s3.2.1.toNat 0).toNat zMt).2.2.2.2.2.1,IntKind.i64.wrap (s3.2.1+1),())
     else none
    else rec4 (s3.1,IntKind.i64.wrap (s3.2.1+1),())
   else rec4 (s3.1,IntKind.i64.wrap (s3.2.1+1),())
  else none
 else some (s3.1,())
def aHg (fuel:Nat) (m:Im) (i:Ins):Option (Int×Unit):=
 bif i.1==22 then
  (wV m i.2.1).bind fun r1=>
  some (r1.1,())
 else bif i.1==23 then
  some (IntKind.i64.wrap ((1:Int)+(max 0 (min i.2.1 255))),())
 else
  (pW m i).bind fun r2=>
  aE (aBh m r2) fuel ((0:Int),((0:Int),()))
def aG8 (n:Int) (a:Int) (b:Int) (c:Int):Option (Iq×Unit):=
 bif decide (0≤n)&&decide (n≤n)&&decide (n<(rowMax:Int)) then
  bif decide (a≥0) then
   bif decide (0≤a)&&decide (a<(List.replicate n.toNat (0:Int)).length) then
    bif decide (0≤a)&&decide (a<(List.replicate n.toNat (0:Int)).length) then
     bif decide (b≥0) then
      bif decide (0≤b)&&decide (b<((List.replicate n.toNat (0:Int)).set a.toNat (IntKind.i64.wrap (((List.replicate n.toNat (0:Int)).getD a.toNat 0) - 1))).length) then
       bif decide (0≤b)&&decide (b<((List.replicate n.toNat (0:Int)).set a.toNat (IntKind.i64.wrap (((List.replicate n.toNat (0:Int)).getD a.toNat 0) - 1))).length) then
        some ((((List.replicate n.toNat (0:Int)).set a.toNat (IntKind.i64.wrap (((List.replicate n.toNat (0:Int)).getD a.toNat 0) - 1))).set b.toNat (IntKind.i64.wrap ((((List.replicate n.toNat (0:Int)).set a.toNat (IntKind.i64.wrap (((List.replicate n.toNat (0:Int)).getD a.toNat 0) - 1))).getD b.toNat 0)+1)),c,()),())
       else none
      else none
     else some (((List.replicate n.toNat (0:Int)).set a.toNat (IntKind.i64.wrap (((List.replicate n.toNat (0:Int)).getD a.toNat 0) - 1)),c,()),())
    else none
   else none
  else bif decide (b≥0) then
   bif decide (0≤b)&&decide (b<(List.replicate n.toNat (0:Int)).length) then
    bif decide (0≤b)&&decide (b<(List.replicate n.toNat (0:Int)).length) then
     some (((List.replicate n.toNat (0:Int)).set b.toNat (IntKind.i64.wrap (((List.replicate n.toNat (0:Int)).getD b.toNat 0)+1)),c,()),())
    else none
   else none
  else some ((List.replicate n.toNat (0:Int),c,()),())
 else none
def yU (m:Im) (f:Int) (r5:List Tp×List Int×Int×Unit) (s2:List Iq×Int×Unit) (rec3:(List Iq×Int×Unit)→Option (List Iq×Unit)) (s9:List Iq×Int×Unit) (rec10:(List Iq×Int×Unit)→Option (List Iq×Unit)):Option (List Iq×Unit):=
 bif decide (s9.2.1<(r5.2.1.length:Int)) then
  bif decide (0≤s9.2.1)&&decide (s9.2.1<r5.2.1.length) then
   (kN m ((m.2.2.2.1.getD f.toNat zMt).2.2.2.1.getD s2.2.1.toNat zIns)).bind fun r11=>
   (qR ((m.2.2.2.1.getD f.toNat zMt).2.2.2.1.length:Int) s2.2.1 (r5.2.1.getD s9.2.1.toNat 0) (IntKind.i64.wrap (0 - r11.1))).bind fun r12=>
   bif decide (s9.1.length+[r12.1].length<rowMax) then
    rec10 (s9.1++[r12.1],IntKind.i64.wrap (s9.2.1+1),())
   else none
  else none
 else rec3 (s9.1,IntKind.i64.wrap (s2.2.1+1),())
def aA6 (m:Im) (l:List (List Sh)) (f:Int) (fuel:Nat) (s2:List Iq×Int×Unit) (rec3:(List Iq×Int×Unit)→Option (List Iq×Unit)):Option (List Iq×Unit):=
 bif decide (s2.2.1<((m.2.2.2.1.getD f.toNat zMt).2.2.2.1.length:Int)) then
  bif decide (0≤s2.2.1)&&decide (s2.2.1<(m.2.2.2.1.getD f.toNat zMt).2.2.2.1.length) then
   (pC l f s2.2.1).bind fun r4=>
   bif !r4.1.1 then
    rec3 (s2.1,IntKind.i64.wrap (s2.2.1+1),())
   else
    (pR m f s2.2.1 r4.1.2.1).bind fun r5=>
    bif r5.2.2.1 !=0 then
     rec3 (s2.1,IntKind.i64.wrap (s2.2.1+1),())
    else
     (bif (r5.2.1.length:Int)==0 then
      (qR ((m.2.2.2.1.getD f.toNat zMt).2.2.2.1.length:Int) s2.2.1 (-1:Int) (0:Int)).bind fun r8=>
      bif decide (s2.1.length+[r8.1].length<rowMax) then
       some (.inl (s2.1++[r8.1],()))
      else none
     else some (.inl (s2.1,())):Option ((List Iq×Unit)⊕(List Iq×Unit))).bind fun q=>match q with
     | .inr r7=>some r7
     | .inl s6=>
      aE (yU m f r5 s2 rec3) fuel (s6.1,((0:Int),()))
  else none
 else some ((idL s2.1),())
def aG7 (fuel:Nat) (m:Im) (l:List (List Sh)) (f:Int):Option (List Iq×Unit):=
 bif decide (f<0) then
  some (([]:List Iq),())
 else bif decide (f≥(m.2.2.2.1.length:Int)) then
  some (([]:List Iq),())
 else bif decide (0≤f)&&decide (f<m.2.2.2.1.length) then
  bif ((m.2.2.2.1.getD f.toNat zMt).2.2.2.1.length:Int)==0 then
   some (([]:List Iq),())
  else bif decide (0≤f)&&decide (f<m.2.2.2.1.length) then
   bif decide (0≤f)&&decide (f<m.2.2.2.1.length) then
    (qR ((m.2.2.2.1.getD f.toNat zMt).2.2.2.1.length:Int) (-1:Int) (0:Int) (m.2.2.2.1.getD f.toNat zMt).2.2.2.2.2.1).bind fun r1=>
    aE (aA6 m l f fuel) fuel ([r1.1],((0:Int),()))
   else none
  else none
 else none
def aHa (n:Int):Bool:=
 decide (n<0)
def aQb (l:List Int) (_c:Unit):Prop:=(l.length≤lenMax∧∀x1:Int,x1∈l→True)∧True∧True
def aD5 (l:List Int) (s1:Int×Unit) (rec2:(Int×Unit)→Option (Int×Unit)):Option (Int×Unit):=
 bif decide (s1.1<(l.length:Int)) then
  bif decide (0≤s1.1)&&decide (s1.1<l.length) then
   bif (aHa (l.getD s1.1.toNat 0)) then
    some (s1.1,())
   else rec2 (IntKind.i64.wrap (s1.1+1),())
  else none
 else some ((-1:Int),())
def aQa (fuel:Nat) (l:List Int) (_c:Unit):Option (Int×Unit):=
 aE (aD5 l) fuel ((0:Int),())
def aRN (l:List Int) (_c:Unit):Prop:=(l.length≤lenMax∧∀x1:Int,x1∈l→True)∧True∧True
def aJQ (l:List Int) (c:Unit):Option (Bool×Unit):=
 some (decide ((aBB l c)≥0),())
def aBi (m:Im) (s1:Int×Unit) (rec2:(Int×Unit)→Option (Int×Int×Unit)) (r3:List Iq×Unit) (s4:Int×Unit) (rec5:(Int×Unit)→Option (Int×Int×Unit)):Option (Int×Int×Unit):=
 bif decide (s4.1<(r3.1.length:Int)) then
  bif decide (0≤s4.1)&&decide (s4.1<r3.1.length) then
   (wF (r3.1.getD s4.1.toNat zIq) (m.2.2.2.1.getD s1.1.toNat zMt).2.2.2.2.2.2.1).bind fun r6=>
   bif r6.2.1 !=0 then
    some (s1.1,((6:Int),()))
   else bif !r6.1 then
    some (s1.1,((6:Int),()))
   else rec5 (IntKind.i64.wrap (s4.1+1),())
  else none
 else bif (zW (m.2.2.2.1.getD s1.1.toNat zMt).2.2.2.2.2.2.1 ()) then
  some (s1.1,((6:Int),()))
 else rec2 (IntKind.i64.wrap (s1.1+1),())
def vQ (m:Im) (l:List (List Sh)) (fuel:Nat) (s1:Int×Unit) (rec2:(Int×Unit)→Option (Int×Int×Unit)):Option (Int×Int×Unit):=
 bif decide (s1.1<(m.2.2.2.1.length:Int)) then
  bif decide (0≤s1.1)&&decide (s1.1<m.2.2.2.1.length) then
   (sT m l s1.1).bind fun r3=>
   aE (aBi m s1 rec2 r3) fuel ((0:Int),())
  else none
 else some ((0:Int),((0:Int),()))
def aHi (fuel:Nat) (m:Im) (l:List (List Sh)):Option (Int×Int×Unit):=
 aE (vQ m l fuel) fuel ((0:Int),())
def aA5 (m:Im) (r2:List Int×Unit) (s3:Int×Int×Unit) (rec4:(Int×Int×Unit)→Option (Int×Unit)):Option (Int×Unit):=
 bif decide (s3.2.1<(r2.1.length:Int)) then
  bif decide (0≤s3.2.1)&&decide (s3.2.1<r2.1.length) then
   bif decide (0≤r2.1.getD s3.2.1.toNat 0)&&decide (r2.1.getD s3.2.1.toNat 0<m.2.2.2.1.length) then
    bif decide ((m.2.2.2.1.getD (r2.1.getD s3.2.1.toNat 0).toNat zMt).2.2.2.2.2.1>s3.1) then
     bif decide (0≤s3.2.1)&&decide (s3.2.1<r2.1.length) then
      bif decide (0≤r2.1.getD s3.2.1.toNat 0)&&decide (r2.1.getD s3.2.1.toNat 0<m.2.2.2.1.length) then
       rec4 ((m.2.2.2.1.getD (r2.1.getD s3.2.1.toNat 0).toNat zMt).2.2.2.2.2.1,IntKind.i64.wrap (s3.2.1+1),())
      else none
     else none
    else rec4 (s3.1,IntKind.i64.wrap (s3.2.1+1),())
   else none
  else none
 else some (s3.1,())
def aGY (fuel:Nat) (m:Im) (i:Ins):Option (Int×Unit):=
 bif i.1==22 then
  (iZ m i.2.1).bind fun r1=>
  some (IntKind.i64.wrap ((1:Int)+(r1.1.length:Int)),())
 else bif i.1==23 then
  some (IntKind.i64.wrap ((1:Int)+i.2.1),())
 else
  (oZ m i).bind fun r2=>
  aE (aA5 m r2) fuel ((0:Int),((0:Int),()))
end
end Go.Pli

namespace Go.Pli
open Go Go.PM
noncomputable section
def yS (x:Mt) (n:Int):Option (Tp×Unit):=
 bif decide (([]:List Tp).length+x.1.length<rowMax) then
  bif decide ((([]:List Tp)++x.1).length+x.2.1.length<rowMax) then
   bif decide (n<0) then
    some (((0:Int),((0:Int),())),())
   else bif decide (n≥(((([]:List Tp)++x.1)++x.2.1).length:Int)) then
    some (((0:Int),((0:Int),())),())
   else bif decide (0≤n)&&decide (n<((([]:List Tp)++x.1)++x.2.1).length) then
    some (((([]:List Tp)++x.1)++x.2.1).getD n.toNat zTp,())
   else none
  else none
 else none
def yF (r3:List Int×Unit) (r4:List Int×Unit) (s5:Int×Unit) (rec6:(Int×Unit)→Option (Tp×Unit)):Option (Tp×Unit):=
 bif decide (s5.1<(r3.1.length:Int)) then
  bif decide (0≤s5.1)&&decide (s5.1<r3.1.length) then
   (rin r4.1 (r3.1.getD s5.1.toNat 0)).bind fun r7=>
   bif r7.1 then
    bif decide (0≤s5.1)&&decide (s5.1<r3.1.length) then
     some (((3:Int),r3.1.getD s5.1.toNat 0,()),())
    else none
   else rec6 (IntKind.i64.wrap (s5.1+1),())
  else none
 else some (((0:Int),((0:Int),())),())
def aGf (fuel:Nat) (l:List Cl) (a:Tp) (b:Tp):Option (Tp×Unit):=
 (mH l a b).bind fun r1=>
 bif r1.1 then
  some (b,())
 else
  (mH l b a).bind fun r2=>
  bif r2.1 then
   some (a,())
  else bif a.1 !=3 then
   some (((0:Int),((0:Int),())),())
  else bif b.1 !=3 then
   some (((0:Int),((0:Int),())),())
  else
   (jN l a.2.1).bind fun r3=>
   (jN l b.2.1).bind fun r4=>
   aE (yF r3 r4) fuel ((1:Int),())
def vC (x:Mt):Option (List Tp×Unit):=
 bif x.2.2.1.1==5 then
  some (([]:List Tp),())
 else some ([x.2.2.1],())
def yP (m:Im) (f:Int) (i:Ins):Option (List Tp×List Tp×Unit):=
 bif i.1==1 then
  some (([]:List Tp),([((1:Int),((0:Int),()))],()))
 else bif i.1==2 then
  some (([]:List Tp),([((4:Int),((0:Int),()))],()))
 else bif i.1==3 then
  bif decide (0≤f)&&decide (f<m.2.2.2.1.length) then
   (yS (m.2.2.2.1.getD f.toNat zMt) i.2.1).bind fun r1=>
   some (([]:List Tp),[r1.1],())
  else none
 else bif i.1==4 then
  bif decide (0≤f)&&decide (f<m.2.2.2.1.length) then
   (yS (m.2.2.2.1.getD f.toNat zMt) i.2.1).bind fun r2=>
   some ([r2.1],(([]:List Tp),()))
  else none
 else bif i.1==5 then
  some ([((0:Int),((0:Int),()))],(([]:List Tp),()))
 else bif i.1==19 then
  some ([((1:Int),((0:Int),()))],(([]:List Tp),()))
 else bif i.1==20 then
  some ([((4:Int),((0:Int),()))],([((1:Int),((0:Int),()))],()))
 else bif i.1==21 then
  some ([((4:Int),((0:Int),())),((4:Int),((0:Int),()))],([((1:Int),((0:Int),()))],()))
 else bif i.1==22 then
  some (([]:List Tp),([((3:Int),i.2.1,())],()))
 else bif i.1==23 then
  some ([((1:Int),((0:Int),()))],([((2:Int),((0:Int),()))],()))
 else bif i.1==24 then
  some ([((2:Int),((0:Int),())),((1:Int),((0:Int),()))],([((1:Int),((0:Int),()))],()))
 else bif i.1==25 then
  some ([((2:Int),((0:Int),())),((1:Int),((0:Int),())),((1:Int),((0:Int),()))],(([]:List Tp),()))
 else bif i.1==26 then
  some ([((2:Int),((0:Int),()))],([((1:Int),((0:Int),()))],()))
 else bif i.1==27 then
  (iZ m i.2.1).bind fun r3=>
  bif decide (0≤i.2.2.1)&&decide (i.2.2.1≤IntKind.i64.wrap (i.2.2.1+1))&&decide (IntKind.i64.wrap (i.2.2.1+1)≤(r3.1.length:Int)) then
   some ([((3:Int),i.2.1,())],(r3.1.take (IntKind.i64.wrap (i.2.2.1+1)).toNat).drop i.2.2.1.toNat,())
  else none
 else bif i.1==28 then
  (iZ m i.2.1).bind fun r4=>
  bif decide (0≤i.2.2.1)&&decide (i.2.2.1<r4.1.length) then
   some ([((3:Int),i.2.1,()),r4.1.getD i.2.2.1.toNat zTp],(([]:List Tp),()))
  else none
 else bif i.1==29 then
  bif decide (0≤i.2.1)&&decide (i.2.1<m.2.1.length) then
   some (([]:List Tp),[m.2.1.getD i.2.1.toNat zTp],())
  else none
 else bif i.1==30 then
  bif decide (0≤i.2.1)&&decide (i.2.1<m.2.1.length) then
   some ([m.2.1.getD i.2.1.toNat zTp],(([]:List Tp),()))
  else none
 else bif i.1==34 then
  some ([((4:Int),((0:Int),()))],([((3:Int),i.2.1,())],()))
 else bif i.1==33 then
  bif decide (0≤f)&&decide (f<m.2.2.2.1.length) then
   (vC (m.2.2.2.1.getD f.toNat zMt)).bind fun r5=>
   some (r5.1,(([]:List Tp),()))
  else none
 else bif i.1==31 then
  bif decide (0≤i.2.1)&&decide (i.2.1<m.2.2.2.1.length) then
   bif decide (0≤i.2.1)&&decide (i.2.1<m.2.2.2.1.length) then
    (vC (m.2.2.2.1.getD i.2.1.toNat zMt)).bind fun r6=>
    some ((m.2.2.2.1.getD i.2.1.toNat zMt).1,r6.1,())
   else none
  else none
 else bif i.1==32 then
  let r7:=yQ m i.2.1 i.2.2.1
  bif decide (0≤r7.1)&&decide (r7.1<m.2.2.2.1.length) then
   bif decide ((1:Int)≤((m.2.2.2.1.getD r7.1.toNat zMt).1.length:Int))&&decide (((m.2.2.2.1.getD r7.1.toNat zMt).1.length:Int)≤((m.2.2.2.1.getD r7.1.toNat zMt).1.length:Int)) then
    bif decide ([((3:Int),i.2.1,())].length+(((m.2.2.2.1.getD r7.1.toNat zMt).1.take ((m.2.2.2.1.getD r7.1.toNat zMt).1.length:Int).toNat).drop 1).length<rowMax) then
     bif decide (0≤r7.1)&&decide (r7.1<m.2.2.2.1.length) then
      (vC (m.2.2.2.1.getD r7.1.toNat zMt)).bind fun r8=>
      some ([((3:Int),i.2.1,())]++(((m.2.2.2.1.getD r7.1.toNat zMt).1.take ((m.2.2.2.1.getD r7.1.toNat zMt).1.length:Int).toNat).drop 1),r8.1,())
     else none
    else none
   else none
  else none
 else bif decide (i.1≥7) then
  bif decide (i.1≤17) then
   some ([((1:Int),((0:Int),())),((1:Int),((0:Int),()))],([((1:Int),((0:Int),()))],()))
  else some (([]:List Tp),(([]:List Tp),()))
 else some (([]:List Tp),(([]:List Tp),()))
def yL (m:Im) (f:Int) (pc:Int) (s:List Tp) (s5:List Int×Unit) (s10:List Tp×List Tp×Unit) (s16:Int×Unit) (rec17:(Int×Unit)→Option (List Tp×List Int×Int×Unit)):Option (List Tp×List Int×Int×Unit):=
 bif decide (s16.1<(s10.1.length:Int)) then
  bif decide (0≤IntKind.i64.wrap ((IntKind.i64.wrap ((s.length:Int) - (s10.1.length:Int)))+s16.1))&&decide (IntKind.i64.wrap ((IntKind.i64.wrap ((s.length:Int) - (s10.1.length:Int)))+s16.1)<s.length) then
   bif decide (0≤s16.1)&&decide (s16.1<s10.1.length) then
    bif ((s10.1.getD s16.1.toNat zTp).1)==0 then
     rec17 (IntKind.i64.wrap (s16.1+1),())
    else bif ((s10.1.getD s16.1.toNat zTp).1)==4 then
     bif !(sL (s.getD (IntKind.i64.wrap ((IntKind.i64.wrap ((s.length:Int) - (s10.1.length:Int)))+s16.1)).toNat zTp)) then
      some (([]:List Tp),(([]:List Int),((4:Int),())))
     else bif (((m.2.2.2.1.getD f.toNat zMt).2.2.2.1.getD pc.toNat zIns).1)==34 then
      bif ((s.getD (IntKind.i64.wrap ((IntKind.i64.wrap ((s.length:Int) - (s10.1.length:Int)))+s16.1)).toNat zTp).1)==2 then
       some (([]:List Tp),(([]:List Int),((4:Int),())))
      else rec17 (IntKind.i64.wrap (s16.1+1),())
     else rec17 (IntKind.i64.wrap (s16.1+1),())
    else
     (mH m.1 (s.getD (IntKind.i64.wrap ((IntKind.i64.wrap ((s.length:Int) - (s10.1.length:Int)))+s16.1)).toNat zTp) (s10.1.getD s16.1.toNat zTp)).bind fun r18=>
     bif !r18.1 then
      some (([]:List Tp),(([]:List Int),((4:Int),())))
     else rec17 (IntKind.i64.wrap (s16.1+1),())
   else none
  else none
 else bif decide ((0:Int)≤IntKind.i64.wrap ((s.length:Int) - (s10.1.length:Int)))&&decide (IntKind.i64.wrap ((s.length:Int) - (s10.1.length:Int))≤(s.length:Int)) then
  bif decide (([]:List Tp).length+((s.take (IntKind.i64.wrap ((s.length:Int) - (s10.1.length:Int))).toNat).drop 0).length<rowMax) then
   bif decide ((([]:List Tp)++((s.take (IntKind.i64.wrap ((s.length:Int) - (s10.1.length:Int))).toNat).drop 0)).length+s10.2.1.length<rowMax) then
    some ((([]:List Tp)++((s.take (IntKind.i64.wrap ((s.length:Int) - (s10.1.length:Int))).toNat).drop 0))++s10.2.1,s5.1,((0:Int),()))
   else none
  else none
 else none
def vA (fuel:Nat) (m:Im) (f:Int) (pc:Int) (s:List Tp):Option (List Tp×List Int×Int×Unit):=
 bif decide (f<0) then
  some (([]:List Tp),(([]:List Int),((1:Int),())))
 else bif decide (f≥(m.2.2.2.1.length:Int)) then
  some (([]:List Tp),(([]:List Int),((1:Int),())))
 else bif decide (pc<0) then
  some (([]:List Tp),(([]:List Int),((1:Int),())))
 else bif decide (0≤f)&&decide (f<m.2.2.2.1.length) then
  bif decide (pc≥((m.2.2.2.1.getD f.toNat zMt).2.2.2.1.length:Int)) then
   some (([]:List Tp),(([]:List Int),((1:Int),())))
  else bif decide (0≤f)&&decide (f<m.2.2.2.1.length) then
   bif decide (0≤pc)&&decide (pc<(m.2.2.2.1.getD f.toNat zMt).2.2.2.1.length) then
    (bif (((m.2.2.2.1.getD f.toNat zMt).2.2.2.1.getD pc.toNat zIns).1)==18 then
     some (.inl ([((m.2.2.2.1.getD f.toNat zMt).2.2.2.1.getD pc.toNat zIns).2.1],()))
    else some (.inl ([IntKind.i64.wrap (pc+1)],())):Option ((List Int×Unit)⊕(List Tp×List Int×Int×Unit))).bind fun q=>match q with
    | .inr r2=>some r2
    | .inl s1=>
     (bif (((m.2.2.2.1.getD f.toNat zMt).2.2.2.1.getD pc.toNat zIns).1)==19 then
      bif decide (s1.1.length+[((m.2.2.2.1.getD f.toNat zMt).2.2.2.1.getD pc.toNat zIns).2.1].length<rowMax) then
       some (.inl (s1.1++[((m.2.2.2.1.getD f.toNat zMt).2.2.2.1.getD pc.toNat zIns).2.1],()))
      else none
     else some (.inl (s1.1,())):Option ((List Int×Unit)⊕(List Tp×List Int×Int×Unit))).bind fun q=>match q with
     | .inr r4=>some r4
     | .inl s3=>
      (bif (((m.2.2.2.1.getD f.toNat zMt).2.2.2.1.getD pc.toNat zIns).1)==33 then
       some (.inl (([]:List Int),()))
      else some (.inl (s3.1,())):Option ((List Int×Unit)⊕(List Tp×List Int×Int×Unit))).bind fun q=>match q with
      | .inr r6=>some r6
      | .inl s5=>
       (bif decide ((s5.1.length:Int)>0) then
        bif decide ((0:Int)<s5.1.length) then
         bif decide (0≤f)&&decide (f<m.2.2.2.1.length) then
          bif decide (s5.1.getD 0 0≥((m.2.2.2.1.getD f.toNat zMt).2.2.2.1.length:Int)) then
           some (.inr (([]:List Tp),(([]:List Int),((4:Int),()))))
          else some (.inl ())
         else none
        else none
       else some (.inl ()):Option (Unit⊕(List Tp×List Int×Int×Unit))).bind fun q=>match q with
       | .inr r8=>some r8
       | .inl _=>
        (yP m f ((m.2.2.2.1.getD f.toNat zMt).2.2.2.1.getD pc.toNat zIns)).bind fun r9=>
        ((bif (((m.2.2.2.1.getD f.toNat zMt).2.2.2.1.getD pc.toNat zIns).1)==6 then
         some (.inl (decide ((s.length:Int)>0),()))
        else some (.inl (false,())):Option ((Bool×Unit)⊕((List Tp×List Tp×Unit)⊕(List Tp×List Int×Int×Unit)))).bind fun q=>match q with
        | .inr r13=>some r13
        | .inl s12=>
         bif s12.1 then
          bif decide (0≤IntKind.i64.wrap ((s.length:Int) - 1))&&decide (IntKind.i64.wrap ((s.length:Int) - 1)<s.length) then
           some (.inl ([((0:Int),((0:Int),()))],([s.getD (IntKind.i64.wrap ((s.length:Int) - 1)).toNat zTp,s.getD (IntKind.i64.wrap ((s.length:Int) - 1)).toNat zTp],())))
          else none
         else some (.inl (r9.1,r9.2.1,())):Option ((List Tp×List Tp×Unit)⊕(List Tp×List Int×Int×Unit))).bind fun q=>match q with
        | .inr r11=>some r11
        | .inl s10=>
         (bif (((m.2.2.2.1.getD f.toNat zMt).2.2.2.1.getD pc.toNat zIns).1)==6 then
          bif (s.length:Int)==0 then
           some (.inr (([]:List Tp),(([]:List Int),((4:Int),()))))
          else bif decide ((s10.1.length:Int)>(s.length:Int)) then
           some (.inr (([]:List Tp),(([]:List Int),((4:Int),()))))
          else bif decide (IntKind.i64.wrap ((IntKind.i64.wrap ((s.length:Int) - (s10.1.length:Int)))+(s10.2.1.length:Int))>8) then
           some (.inr (([]:List Tp),(([]:List Int),((4:Int),()))))
          else some (.inl ())
         else bif decide ((s10.1.length:Int)>(s.length:Int)) then
          some (.inr (([]:List Tp),(([]:List Int),((4:Int),()))))
         else bif decide (IntKind.i64.wrap ((IntKind.i64.wrap ((s.length:Int) - (s10.1.length:Int)))+(s10.2.1.length:Int))>8) then
          some (.inr (([]:List Tp),(([]:List Int),((4:Int),()))))
         else some (.inl ()):Option (Unit⊕(List Tp×List Int×Int×Unit))).bind fun q=>match q with
         | .inr r15=>some r15
         | .inl _=>
          aE (yL m f pc s s5 s10) fuel ((0:Int),())
   else none
  else none
 else none
def yO (m:Im) (s6:Bool×Int×List Sh×Unit) (rec7:(Bool×Int×List Sh×Unit)→Option (List Sh×Bool×Unit)) (r5:List Tp×List Int×Int×Unit) (s8:List Tp×Int×Unit) (rec9:(List Tp×Int×Unit)→Option (List Sh×Bool×Unit)):Option (List Sh×Bool×Unit):=
 bif decide (s8.2.1<(r5.1.length:Int)) then
  bif decide (0≤r5.2.1.getD s6.2.1.toNat 0)&&decide (r5.2.1.getD s6.2.1.toNat 0<s6.2.2.1.length) then
   bif decide (0≤s8.2.1)&&decide (s8.2.1<(s6.2.2.1.getD (r5.2.1.getD s6.2.1.toNat 0).toNat zSh).2.1.length) then
    bif decide (0≤s8.2.1)&&decide (s8.2.1<r5.1.length) then
     (uY m.1 ((s6.2.2.1.getD (r5.2.1.getD s6.2.1.toNat 0).toNat zSh).2.1.getD s8.2.1.toNat zTp) (r5.1.getD s8.2.1.toNat zTp)).bind fun r10=>
     bif r10.1.1==0 then
      some (([]:List Sh),false,())
     else bif decide (s8.1.length+[r10.1].length<rowMax) then
      rec9 (s8.1++[r10.1],IntKind.i64.wrap (s8.2.1+1),())
     else none
    else none
   else none
  else none
 else bif decide (0≤r5.2.1.getD s6.2.1.toNat 0)&&decide (r5.2.1.getD s6.2.1.toNat 0<s6.2.2.1.length) then
  bif !(uW s8.1 (s6.2.2.1.getD (r5.2.1.getD s6.2.1.toNat 0).toNat zSh).2.1) then
   bif decide (0≤r5.2.1.getD s6.2.1.toNat 0)&&decide (r5.2.1.getD s6.2.1.toNat 0<s6.2.2.1.length) then
    rec7 (true,IntKind.i64.wrap (s6.2.1+1),s6.2.2.1.set (r5.2.1.getD s6.2.1.toNat 0).toNat (true,s8.1,()),())
   else none
  else rec7 (s6.1,IntKind.i64.wrap (s6.2.1+1),s6.2.2.1,())
 else none
def yN (m:Im) (fuel:Nat) (s3:Bool×Int×List Sh×Unit) (rec4:(Bool×Int×List Sh×Unit)→Option (List Sh×Bool×Unit)) (r5:List Tp×List Int×Int×Unit) (s6:Bool×Int×List Sh×Unit) (rec7:(Bool×Int×List Sh×Unit)→Option (List Sh×Bool×Unit)):Option (List Sh×Bool×Unit):=
 bif decide (s6.2.1<(r5.2.1.length:Int)) then
  bif decide (0≤s6.2.1)&&decide (s6.2.1<r5.2.1.length) then
   bif decide (0≤r5.2.1.getD s6.2.1.toNat 0)&&decide (r5.2.1.getD s6.2.1.toNat 0<s6.2.2.1.length) then
    bif !(s6.2.2.1.getD (r5.2.1.getD s6.2.1.toNat 0).toNat zSh).1 then
     bif decide (0≤r5.2.1.getD s6.2.1.toNat 0)&&decide (r5.2.1.getD s6.2.1.toNat 0<s6.2.2.1.length) then
      rec7 (true,IntKind.i64.wrap (s6.2.1+1),s6.2.2.1.set (r5.2.1.getD s6.2.1.toNat 0).toNat (true,r5.1,()),())
     else none
    else bif decide (0≤r5.2.1.getD s6.2.1.toNat 0)&&decide (r5.2.1.getD s6.2.1.toNat 0<s6.2.2.1.length) then
     bif ((s6.2.2.1.getD (r5.2.1.getD s6.2.1.toNat 0).toNat zSh).2.1.length:Int) !=(r5.1.length:Int) then
      some (([]:List Sh),false,())
     else aE (yO m s6 rec7 r5) fuel (([]:List Tp),((0:Int),()))
    else none
   else none
  else none
 else rec4 (s6.1,IntKind.i64.wrap (s3.2.1 - 1),s6.2.2.1,())
def yM (m:Im) (f:Int) (fuel:Nat) (s1:Int×List Sh×Unit) (rec2:(Int×List Sh×Unit)→Option (List Sh×Bool×Unit)) (s3:Bool×Int×List Sh×Unit) (rec4:(Bool×Int×List Sh×Unit)→Option (List Sh×Bool×Unit)):Option (List Sh×Bool×Unit):=
 bif decide (s3.2.1≥0) then
  bif decide (0≤s3.2.1)&&decide (s3.2.1<s3.2.2.1.length) then
   bif !(s3.2.2.1.getD s3.2.1.toNat zSh).1 then
    rec4 (s3.1,IntKind.i64.wrap (s3.2.1 - 1),s3.2.2.1,())
   else bif decide (0≤s3.2.1)&&decide (s3.2.1<s3.2.2.1.length) then
    (pA m f s3.2.1 (s3.2.2.1.getD s3.2.1.toNat zSh).2.1).bind fun r5=>
    bif r5.2.2.1 !=0 then
     some (([]:List Sh),false,())
    else aE (yN m fuel s3 rec4 r5) fuel (s3.1,((0:Int),s3.2.2.1,()))
   else none
  else none
 else bif !s3.1 then
  some (s3.2.2.1,true,())
 else rec2 (IntKind.i64.wrap (s1.1+1),s3.2.2.1,())
def aAP (m:Im) (f:Int) (fuel:Nat) (s1:Int×List Sh×Unit) (rec2:(Int×List Sh×Unit)→Option (List Sh×Bool×Unit)):Option (List Sh×Bool×Unit):=
 bif decide (s1.1<4000) then
  aE (yM m f fuel s1 rec2) fuel (false,(IntKind.i64.wrap (((m.2.2.2.1.getD f.toNat zMt).2.2.2.1.length:Int) - 1),s1.2.1,()))
 else some (([]:List Sh),false,())
def aGC (fuel:Nat) (m:Im) (f:Int):Option (List Sh×Bool×Unit):=
 bif decide (0≤f)&&decide (f<m.2.2.2.1.length) then
  bif decide (0≤((m.2.2.2.1.getD f.toNat zMt).2.2.2.1.length:Int))&&decide (((m.2.2.2.1.getD f.toNat zMt).2.2.2.1.length:Int)≤((m.2.2.2.1.getD f.toNat zMt).2.2.2.1.length:Int))&&decide (((m.2.2.2.1.getD f.toNat zMt).2.2.2.1.length:Int)<(rowMax:Int)) then
   bif ((m.2.2.2.1.getD f.toNat zMt).2.2.2.1.length:Int)==0 then
    some (([]:List Sh),false,())
   else bif decide ((0:Int)<(List.replicate ((m.2.2.2.1.getD f.toNat zMt).2.2.2.1.length:Int).toNat zSh).length) then
    aE (aAP m f fuel) fuel ((0:Int),((List.replicate ((m.2.2.2.1.getD f.toNat zMt).2.2.2.1.length:Int).toNat zSh).set 0 (true,((List.replicate ((m.2.2.2.1.getD f.toNat zMt).2.2.2.1.length:Int).toNat zSh).getD 0 zSh).2),()))
   else none
  else none
 else none
def aAT (m:Im) (s1:List (List Sh)×Int×Unit) (rec2:(List (List Sh)×Int×Unit)→Option (List (List Sh)×Int×Unit)):Option (List (List Sh)×Int×Unit):=
 bif decide (s1.2.1<(m.2.2.2.1.length:Int)) then
  (vB m s1.2.1).bind fun r3=>
  bif !r3.2.1 then
   some (([]:List (List Sh)),s1.2.1,())
  else bif decide (s1.1.length+[r3.1].length<rowMax) then
   rec2 (s1.1++[r3.1],IntKind.i64.wrap (s1.2.1+1),())
  else none
 else some (s1.1,((-1:Int),()))
def aGG (fuel:Nat) (m:Im):Option (List (List Sh)×Int×Unit):=
 aE (aAT m) fuel (([]:List (List Sh)),((0:Int),()))
end
end Go.Pli

namespace Go.Pli
open Go Go.PM
noncomputable section
def aJ7 (s:List Mt):Option (List Mt×Unit):=
 bif decide ((s.length:Int)=(s.length:Int))&&decide ((s.length:Int)=(s.length:Int))&&true then
  some (s,())
 else none
def aBG (m:Im) (s4:Int×(List Cl×List Tp×List Int×Unit×List Int×Int×Int×Unit)×Unit) (s8:Int×List Mt×Unit) (rec9:(Int×List Mt×Unit)→Option (Im×Unit)):Option (Im×Unit):=
 bif decide (s8.1<(m.2.2.2.1.length:Int)) then
  bif decide (0≤s8.1)&&decide (s8.1<m.2.2.2.1.length) then
   (tY (m.2.2.2.1.getD s8.1.toNat zMt).1).bind fun r10=>
   (tY (m.2.2.2.1.getD s8.1.toNat zMt).2.1).bind fun r11=>
   (aCd (m.2.2.2.1.getD s8.1.toNat zMt).2.2.2.1).bind fun r12=>
   (xF (m.2.2.2.1.getD s8.1.toNat zMt).2.2.2.2.2.2.1).bind fun r13=>
   bif decide (s8.2.1.length+[(r10.1,r11.1,(m.2.2.2.1.getD s8.1.toNat zMt).2.2.1,r12.1,(m.2.2.2.1.getD s8.1.toNat zMt).2.2.2.2.1,(m.2.2.2.1.getD s8.1.toNat zMt).2.2.2.2.2.1,r13.1,())].length<rowMax)&&true then
    rec9 (IntKind.i64.wrap (s8.1+1),s8.2.1++[(r10.1,r11.1,(m.2.2.2.1.getD s8.1.toNat zMt).2.2.1,r12.1,(m.2.2.2.1.getD s8.1.toNat zMt).2.2.2.2.1,(m.2.2.2.1.getD s8.1.toNat zMt).2.2.2.2.2.1,r13.1,())],())
   else none
  else none
 else some (((idL s4.2.1.1),s4.2.1.2.1,s4.2.1.2.2.1,(idL s8.2.1),s4.2.1.2.2.2.2),())
def aBF (m:Im) (fuel:Nat) (s4:Int×(List Cl×List Tp×List Int×Unit×List Int×Int×Int×Unit)×Unit) (rec5:(Int×(List Cl×List Tp×List Int×Unit×List Int×Int×Int×Unit)×Unit)→Option (Im×Unit)):Option (Im×Unit):=
 bif decide (s4.1<(m.1.length:Int)) then
  bif decide (0≤s4.1)&&decide (s4.1<m.1.length) then
   (tY (m.1.getD s4.1.toNat zCl).2.1).bind fun r6=>
   (xF (m.1.getD s4.1.toNat zCl).2.2.1).bind fun r7=>
   bif decide (s4.2.1.1.length+[((m.1.getD s4.1.toNat zCl).1,r6.1,r7.1,())].length<rowMax) then
    rec5 (IntKind.i64.wrap (s4.1+1),(s4.2.1.1++[((m.1.getD s4.1.toNat zCl).1,r6.1,r7.1,())],s4.2.1.2),())
   else none
  else none
 else aE (aBG m s4) fuel ((0:Int),(([]:List Mt),()))
def aIF (fuel:Nat) (m:Im):Option (Im×Unit):=
 (tY m.2.1).bind fun r1=>
 (aCf m.2.2.1).bind fun r2=>
 (xF m.2.2.2.2.1).bind fun r3=>
 aE (aBF m fuel) fuel ((0:Int),((([]:List Cl),r1.1,r2.1,(),r3.1,m.2.2.2.2.2),()))
def aBW (m:Im) (f:Int) (s1:List Int×Int×Unit) (rec2:(List Int×Int×Unit)→Option (List Int×Unit)):Option (List Int×Unit):=
 bif decide (s1.2.1<((m.2.2.2.1.getD f.toNat zMt).2.2.2.1.length:Int)) then
  bif decide (0≤s1.2.1)&&decide (s1.2.1<(m.2.2.2.1.getD f.toNat zMt).2.2.2.1.length) then
   (pW m ((m.2.2.2.1.getD f.toNat zMt).2.2.2.1.getD s1.2.1.toNat zIns)).bind fun r3=>
   bif decide (s1.1.length+r3.1.length<rowMax)&&true then
    rec2 (s1.1++r3.1,IntKind.i64.wrap (s1.2.1+1),())
   else none
  else none
 else
  let r4:=xY s1.1
  some ((idL (dO r4.1)),())
def aJ2 (fuel:Nat) (m:Im) (f:Int):Option (List Int×Unit):=
 bif decide (f<0) then
  some (([]:List Int),())
 else bif decide (f≥(m.2.2.2.1.length:Int)) then
  some (([]:List Int),())
 else bif decide (0≤f)&&decide (f<m.2.2.2.1.length) then
  aE (aBW m f) fuel (([]:List Int),((0:Int),()))
 else none
def aBt (l:List Int) (s1:Int×Int×Unit) (rec2:(Int×Int×Unit)→Option (Int×Unit)):Option (Int×Unit):=
 bif decide (s1.2.1<(l.length:Int)) then
  bif decide (0≤s1.2.1)&&decide (s1.2.1<l.length) then
   rec2 (max s1.1 (l.getD s1.2.1.toNat 0),IntKind.i64.wrap (s1.2.1+1),())
  else none
 else some (s1.1,())
def aH2 (fuel:Nat) (l:List Int):Option (Int×Unit):=
 bif decide ((l.length:Int)<1) then
  none
 else bif decide ((0:Int)<l.length) then
  aE (aBt l) fuel (l.getD 0 0,((1:Int),()))
 else none
def aBc (m:Im) (f:Int) (s3:Bool×Int×List Int×Unit) (rec4:(Bool×Int×List Int×Unit)→Option (List Int×Bool×Unit)) (r6:List Tp×List Int×Int×Unit) (s7:Bool×Int×List Int×Unit) (rec8:(Bool×Int×List Int×Unit)→Option (List Int×Bool×Unit)):Option (List Int×Bool×Unit):=
 bif decide (s7.2.1<(r6.2.1.length:Int)) then
  bif decide (0≤s7.2.1)&&decide (s7.2.1<r6.2.1.length) then
   (kN m ((m.2.2.2.1.getD f.toNat zMt).2.2.2.1.getD s3.2.1.toNat zIns)).bind fun r9=>
   bif decide (0≤r6.2.1.getD s7.2.1.toNat 0)&&decide (r6.2.1.getD s7.2.1.toNat 0<s7.2.2.1.length) then
    bif decide (0≤s3.2.1)&&decide (s3.2.1<s7.2.2.1.length) then
     bif decide (IntKind.i64.wrap (r9.1+(s7.2.2.1.getD (r6.2.1.getD s7.2.1.toNat 0).toNat 0))>s7.2.2.1.getD s3.2.1.toNat 0) then
      bif decide (0≤s3.2.1)&&decide (s3.2.1<s7.2.2.1.length) then
       rec8 (true,IntKind.i64.wrap (s7.2.1+1),s7.2.2.1.set s3.2.1.toNat (IntKind.i64.wrap (r9.1+(s7.2.2.1.getD (r6.2.1.getD s7.2.1.toNat 0).toNat 0))),())
      else none
     else rec8 (s7.1,IntKind.i64.wrap (s7.2.1+1),s7.2.2.1,())
    else none
   else none
  else none
 else rec4 (s7.1,IntKind.i64.wrap (s3.2.1+1),s7.2.2.1,())
def yX (m:Im) (l:List (List Sh)) (f:Int) (fuel:Nat) (s1:Int×List Int×Unit) (rec2:(Int×List Int×Unit)→Option (List Int×Bool×Unit)) (s3:Bool×Int×List Int×Unit) (rec4:(Bool×Int×List Int×Unit)→Option (List Int×Bool×Unit)):Option (List Int×Bool×Unit):=
 bif decide (s3.2.1<((m.2.2.2.1.getD f.toNat zMt).2.2.2.1.length:Int)) then
  bif decide (0≤s3.2.1)&&decide (s3.2.1<(m.2.2.2.1.getD f.toNat zMt).2.2.2.1.length) then
   (pC l f s3.2.1).bind fun r5=>
   bif !r5.1.1 then
    rec4 (s3.1,IntKind.i64.wrap (s3.2.1+1),s3.2.2.1,())
   else
    (pR m f s3.2.1 r5.1.2.1).bind fun r6=>
    aE (aBc m f s3 rec4 r6) fuel (s3.1,((0:Int),s3.2.2.1,()))
  else none
 else bif !s3.1 then
  bif decide (s3.2.2.1.length+([0]:List Int).length<rowMax)&&true then
   (vZ (s3.2.2.1++([0]:List Int))).bind fun r10=>
   some (s3.2.2.1,decide (r10.1≤4096),())
  else none
 else rec2 (IntKind.i64.wrap (s1.1+1),s3.2.2.1,())
def yW (m:Im) (l:List (List Sh)) (f:Int) (fuel:Nat) (s1:Int×List Int×Unit) (rec2:(Int×List Int×Unit)→Option (List Int×Bool×Unit)):Option (List Int×Bool×Unit):=
 bif decide (s1.1<IntKind.i64.wrap (((m.2.2.2.1.getD f.toNat zMt).2.2.2.1.length:Int)+1)) then
  aE (yX m l f fuel s1 rec2) fuel (false,((0:Int),s1.2.1,()))
 else some (([]:List Int),false,())
def aHb (fuel:Nat) (m:Im) (l:List (List Sh)) (f:Int):Option (List Int×Bool×Unit):=
 bif decide (0≤f)&&decide (f<m.2.2.2.1.length) then
  bif decide (0≤((m.2.2.2.1.getD f.toNat zMt).2.2.2.1.length:Int))&&decide (((m.2.2.2.1.getD f.toNat zMt).2.2.2.1.length:Int)≤((m.2.2.2.1.getD f.toNat zMt).2.2.2.1.length:Int))&&decide (((m.2.2.2.1.getD f.toNat zMt).2.2.2.1.length:Int)<(rowMax:Int)) then
   aE (yW m l f fuel) fuel ((0:Int),(List.replicate ((m.2.2.2.1.getD f.toNat zMt).2.2.2.1.length:Int).toNat (0:Int),()))
  else none
 else none
def vO (s2:List (List Int)×Int×List Mt×Unit) (r5:List (List Int)×Unit) (s6:Int×List Mt×Unit) (rec7:(Int×List Mt×Unit)→Option (Im×Bool×Unit)) (s11:Int×List Mt×Unit) (rec12:(Int×List Mt×Unit)→Option (Im×Bool×Unit)):Option (Im×Bool×Unit):=
 bif decide (s11.1<((r5.1.getD s6.1.toNat ([]:List Int)).length:Int)) then
  bif decide (0≤s11.1)&&decide (s11.1<(r5.1.getD s6.1.toNat ([]:List Int)).length) then
   (bif decide (0≤(r5.1.getD s6.1.toNat ([]:List Int)).getD s11.1.toNat 0)&&decide ((r5.1.getD s6.1.toNat ([]:List Int)).getD s11.1.toNat 0<s11.2.1.length) then
    bif decide (((s11.2.1.getD ((r5.1.getD s6.1.toNat ([]:List Int)).getD s11.1.toNat 0).toNat zMt).2.2.2.2.2.2.1.length:Int)>0) then
     bif decide ((0:Int)<(s11.2.1.getD ((r5.1.getD s6.1.toNat ([]:List Int)).getD s11.1.toNat 0).toNat zMt).2.2.2.2.2.2.1.length) then
      bif decide (0≤(r5.1.getD s6.1.toNat ([]:List Int)).getD s11.1.toNat 0)&&decide ((r5.1.getD s6.1.toNat ([]:List Int)).getD s11.1.toNat 0<s11.2.1.length) then
       some (.inl (s11.2.1.set ((r5.1.getD s6.1.toNat ([]:List Int)).getD s11.1.toNat 0).toNat ((s11.2.1.getD ((r5.1.getD s6.1.toNat ([]:List Int)).getD s11.1.toNat 0).toNat zMt).1,((s11.2.1.getD ((r5.1.getD s6.1.toNat ([]:List Int)).getD s11.1.toNat 0).toNat zMt).2.1,((s11.2.1.getD ((r5.1.getD s6.1.toNat ([]:List Int)).getD s11.1.toNat 0).toNat zMt).2.2.1,((s11.2.1.getD ((r5.1.getD s6.1.toNat ([]:List Int)).getD s11.1.toNat 0).toNat zMt).2.2.2.1,((s11.2.1.getD ((r5.1.getD s6.1.toNat ([]:List Int)).getD s11.1.toNat 0).toNat zMt).2.2.2.2.1,((s11.2.1.getD ((r5.1.getD s6.1.toNat ([]:List Int)).getD s11.1.toNat 0).toNat zMt).2.2.2.2.2.2.1.getD 0 0,(s11.2.1.getD ((r5.1.getD s6.1.toNat ([]:List Int)).getD s11.1.toNat 0).toNat zMt).2.2.2.2.2.2)))))),()))
      else none
     else none
    else some (.inl (s11.2.1,()))
   else none:Option ((List Mt×Unit)⊕(Im×Bool×Unit))).bind fun q=>match q with
   | .inr r14=>some r14
   | .inl s13=>
    bif decide (0≤(r5.1.getD s6.1.toNat ([]:List Int)).getD s11.1.toNat 0)&&decide ((r5.1.getD s6.1.toNat ([]:List Int)).getD s11.1.toNat 0<s13.1.length) then
     bif decide ((s13.1.getD ((r5.1.getD s6.1.toNat ([]:List Int)).getD s11.1.toNat 0).toNat zMt).2.2.2.2.2.1>0) then
      (tT s2.1 (r5.1.getD s6.1.toNat ([]:List Int))).bind fun r15=>
      bif r15.1 then
       some ((([]:List Cl),(([]:List Tp),(([]:List Int),(([]:List Mt),(([]:List Int),((0:Int),((0:Int),()))))))),false,())
      else rec12 (IntKind.i64.wrap (s11.1+1),s13.1,())
     else rec12 (IntKind.i64.wrap (s11.1+1),s13.1,())
    else none
  else none
 else rec7 (IntKind.i64.wrap (s6.1+1),s11.2.1,())
def aBg (l:List (List Sh)) (fuel:Nat) (r1:Im×Unit) (s2:List (List Int)×Int×List Mt×Unit) (r5:List (List Int)×Unit) (s6:Int×List Mt×Unit) (rec7:(Int×List Mt×Unit)→Option (Im×Bool×Unit)) (s8:Int×List Mt×Unit) (rec9:(Int×List Mt×Unit)→Option (Im×Bool×Unit)):Option (Im×Bool×Unit):=
 bif decide (s8.1<((r5.1.getD s6.1.toNat ([]:List Int)).length:Int)) then
  bif decide (0≤s8.1)&&decide (s8.1<(r5.1.getD s6.1.toNat ([]:List Int)).length) then
   (pD (r1.1.1,r1.1.2.1,r1.1.2.2.1,s8.2.1,r1.1.2.2.2.2) l ((r5.1.getD s6.1.toNat ([]:List Int)).getD s8.1.toNat 0)).bind fun r10=>
   bif !r10.2.1 then
    some ((([]:List Cl),(([]:List Tp),(([]:List Int),(([]:List Mt),(([]:List Int),((0:Int),((0:Int),()))))))),false,())
   else bif decide (0≤(r5.1.getD s6.1.toNat ([]:List Int)).getD s8.1.toNat 0)&&decide ((r5.1.getD s6.1.toNat ([]:List Int)).getD s8.1.toNat 0<s8.2.1.length) then
    rec9 (IntKind.i64.wrap (s8.1+1),(s8.2.1.set ((r5.1.getD s6.1.toNat ([]:List Int)).getD s8.1.toNat 0).toNat ((s8.2.1.getD ((r5.1.getD s6.1.toNat ([]:List Int)).getD s8.1.toNat 0).toNat zMt).1,((s8.2.1.getD ((r5.1.getD s6.1.toNat ([]:List Int)).getD s8.1.toNat 0).toNat zMt).2.1,((s8.2.1.getD ((r5.1.getD s6.1.toNat ([]:List Int)).getD s8.1.toNat 0).toNat zMt).2.2.1,((s8.2.1.getD ((r5.1.getD s6.1.toNat ([]:List Int)).getD s8.1.toNat 0).toNat zMt).2.2.2.1,((s8.2.1.getD ((r5.1.getD s6.1.toNat ([]:List Int)).getD s8.1.toNat 0).toNat zMt).2.2.2.2.1,((s8.2.1.getD ((r5.1.getD s6.1.toNat ([]:List Int)).getD s8.1.toNat 0).toNat zMt).2.2.2.2.2.1,r10.1,())))))),()))
   else none
  else none
 else aE (vO s2 r5 s6 rec7) fuel ((0:Int),s8.2.1,())
def yY (l:List (List Sh)) (fuel:Nat) (r1:Im×Unit) (s2:List (List Int)×Int×List Mt×Unit) (r5:List (List Int)×Unit) (s6:Int×List Mt×Unit) (rec7:(Int×List Mt×Unit)→Option (Im×Bool×Unit)):Option (Im×Bool×Unit):=
 bif decide (s6.1<(r5.1.length:Int)) then
  bif decide (0≤s6.1)&&decide (s6.1<r5.1.length) then
   aE (aBg l fuel r1 s2 r5 s6 rec7) fuel ((0:Int),s6.2.1,())
  else none
 else some ((r1.1.1,r1.1.2.1,r1.1.2.2.1,s6.2.1,r1.1.2.2.2.2),true,())
def aBf (l:List (List Sh)) (fuel:Nat) (r1:Im×Unit) (s2:List (List Int)×Int×List Mt×Unit) (rec3:(List (List Int)×Int×List Mt×Unit)→Option (Im×Bool×Unit)):Option (Im×Bool×Unit):=
 bif decide (s2.2.1<(r1.1.2.2.2.1.length:Int)) then
  (cof (r1.1.1,r1.1.2.1,r1.1.2.2.1,s2.2.2.1,r1.1.2.2.2.2) s2.2.1).bind fun r4=>
  bif decide (s2.1.length+[r4.1].length<rowMax) then
   bif decide (0≤s2.2.1)&&decide (s2.2.1<s2.2.2.1.length) then
    rec3 (s2.1++[r4.1],IntKind.i64.wrap (s2.2.1+1),s2.2.2.1.set s2.2.1.toNat ((s2.2.2.1.getD s2.2.1.toNat zMt).1,(s2.2.2.1.getD s2.2.1.toNat zMt).2.1,(s2.2.2.1.getD s2.2.1.toNat zMt).2.2.1,(s2.2.2.1.getD s2.2.1.toNat zMt).2.2.2.1,(s2.2.2.1.getD s2.2.1.toNat zMt).2.2.2.2.1,((0:Int),(s2.2.2.1.getD s2.2.1.toNat zMt).2.2.2.2.2.2)),())
   else none
  else none
 else
  (jL s2.1).bind fun r5=>
  aE (yY l fuel r1 s2 r5) fuel ((0:Int),s2.2.2.1,())
def aHe (fuel:Nat) (m:Im) (l:List (List Sh)):Option (Im×Bool×Unit):=
 (wK m).bind fun r1=>
 aE (aBf l fuel r1) fuel (([]:List (List Int)),((0:Int),r1.1.2.2.2.1,()))
def aFU (m:Im):Option (Bool×Unit):=
 bif decide ((m.2.2.2.1.length:Int)≤12) then
  bif decide ((m.1.length:Int)≤8) then
   bif decide ((m.2.2.1.length:Int)≤16) then
    some ((sP m)==0,())
   else some (false,())
  else some (false,())
 else some (false,())
def xP (m:Im):Option (List (List Sh)×Bool×Unit):=
 bif !(uU m) then
  some (([]:List (List Sh)),false,())
 else
  (kM m).bind fun r1=>
  some (r1.1,decide (r1.2.1<0),())
def awake15N:Option (Bool×Unit):=
 (kM (([]:List Cl),(([]:List Tp),(([2]:List Int),([(([]:List Tp),(([]:List Tp),(((5:Int),((0:Int),())),([((1:Int),((0:Int),((0:Int),()))),((23:Int),((9:Int),((0:Int),()))),((5:Int),((0:Int),((0:Int),()))),((33:Int),((0:Int),((0:Int),())))],((0:Int),((0:Int),([0,0,0,0]:List Int),()))))))],(([]:List Int),((0:Int),((0:Int),())))))))).bind fun r1=>
 (pE (([]:List Cl),(([]:List Tp),(([2]:List Int),([(([]:List Tp),(([]:List Tp),(((5:Int),((0:Int),())),([((1:Int),((0:Int),((0:Int),()))),((23:Int),((9:Int),((0:Int),()))),((5:Int),((0:Int),((0:Int),()))),((33:Int),((0:Int),((0:Int),())))],((0:Int),((0:Int),([0,0,0,0]:List Int),()))))))],(([]:List Int),((0:Int),((0:Int),()))))))) r1.1).bind fun r2=>
 (lF (([]:List Cl),(([]:List Tp),(([2]:List Int),([(([]:List Tp),(([]:List Tp),(((5:Int),((0:Int),())),([((1:Int),((0:Int),((0:Int),()))),((23:Int),((9:Int),((0:Int),()))),((5:Int),((0:Int),((0:Int),()))),((33:Int),((0:Int),((0:Int),())))],((0:Int),((0:Int),([0,0,0,0]:List Int),()))))))],(([]:List Int),((0:Int),((0:Int),()))))))) r1.1).bind fun r3=>
 (pE r3.1 r1.1).bind fun r4=>
 bif decide (r1.2.1<0) then
  bif r2.2.1==6 then
   bif r3.2.1 then
    bif r4.2.1==0 then
     bif decide ((0:Int)<r3.1.2.2.2.1.length) then
      bif ((r3.1.2.2.2.1.getD 0 zMt).2.2.2.2.2.1)==10 then
       bif decide ((0:Int)<r3.1.2.2.2.1.length) then
        bif decide ((0:Int)<(r3.1.2.2.2.1.getD 0 zMt).2.2.2.2.2.2.1.length) then
         bif ((r3.1.2.2.2.1.getD 0 zMt).2.2.2.2.2.2.1.getD 0 0)==10 then
          bif decide ((0:Int)<r3.1.2.2.2.1.length) then
           bif decide ((2:Int)<(r3.1.2.2.2.1.getD 0 zMt).2.2.2.2.2.2.1.length) then
            bif ((r3.1.2.2.2.1.getD 0 zMt).2.2.2.2.2.2.1.getD 2 0)==0 then
             bif decide ((0:Int)<[(([]:List Tp),(([]:List Tp),(((5:Int),((0:Int),())),([((1:Int),((0:Int),((0:Int),()))),((23:Int),((9:Int),((0:Int),()))),((5:Int),((0:Int),((0:Int),()))),((33:Int),((0:Int),((0:Int),())))],((0:Int),((0:Int),([0,0,0,0]:List Int),()))))))].length) then
              bif decide ((1:Int)<([(([]:List Tp),(([]:List Tp),(((5:Int),((0:Int),())),([((1:Int),((0:Int),((0:Int),()))),((23:Int),((9:Int),((0:Int),()))),((5:Int),((0:Int),((0:Int),()))),((33:Int),((0:Int),((0:Int),())))],((0:Int),((0:Int),([0,0,0,0]:List Int),()))))))].getD 0 zMt).2.2.2.1.length) then
               (kN (([]:List Cl),(([]:List Tp),(([2]:List Int),([(([]:List Tp),(([]:List Tp),(((5:Int),((0:Int),())),([((1:Int),((0:Int),((0:Int),()))),((23:Int),((9:Int),((0:Int),()))),((5:Int),((0:Int),((0:Int),()))),((33:Int),((0:Int),((0:Int),())))],((0:Int),((0:Int),([0,0,0,0]:List Int),()))))))],(([]:List Int),((0:Int),((0:Int),()))))))) (([(([]:List Tp),(([]:List Tp),(((5:Int),((0:Int),())),([((1:Int),((0:Int),((0:Int),()))),((23:Int),((9:Int),((0:Int),()))),((5:Int),((0:Int),((0:Int),()))),((33:Int),((0:Int),((0:Int),())))],((0:Int),((0:Int),([0,0,0,0]:List Int),()))))))].getD 0 zMt).2.2.2.1.getD 1 zIns)).bind fun r5=>
               bif r5.1==10 then
                (sT (([]:List Cl),(([]:List Tp),(([2]:List Int),([(([]:List Tp),(([]:List Tp),(((5:Int),((0:Int),())),([((1:Int),((0:Int),((0:Int),()))),((23:Int),((9:Int),((0:Int),()))),((5:Int),((0:Int),((0:Int),()))),((33:Int),((0:Int),((0:Int),())))],((0:Int),((0:Int),([0,0,0,0]:List Int),()))))))],(([]:List Int),((0:Int),((0:Int),()))))))) r1.1 (0:Int)).bind fun r6=>
                bif (r6.1.length:Int)==5 then
                 bif (sP (([]:List Cl),(([]:List Tp),(([2]:List Int),([(([]:List Tp),(([]:List Tp),(((5:Int),((0:Int),())),([((1:Int),((0:Int),((0:Int),()))),((23:Int),((9:Int),((0:Int),()))),((5:Int),((0:Int),((0:Int),()))),((33:Int),((0:Int),((0:Int),())))],((0:Int),((0:Int),([0,0,0,0]:List Int),()))))))],(([]:List Int),((0:Int),((0:Int),()))))))))==0 then
                  bif decide ((0:Int)<[(([]:List Tp),(([]:List Tp),(((5:Int),((0:Int),())),([((1:Int),((0:Int),((0:Int),()))),((23:Int),((9:Int),((0:Int),()))),((5:Int),((0:Int),((0:Int),()))),((33:Int),((0:Int),((0:Int),())))],((0:Int),((0:Int),([0,0,0,0]:List Int),()))))))].length) then
                   bif decide ((0:Int)<([(([]:List Tp),(([]:List Tp),(((5:Int),((0:Int),())),([((1:Int),((0:Int),((0:Int),()))),((23:Int),((9:Int),((0:Int),()))),((5:Int),((0:Int),((0:Int),()))),((33:Int),((0:Int),((0:Int),())))],((0:Int),((0:Int),([0,0,0,0]:List Int),()))))))].getD 0 zMt).2.2.2.1.length) then
                    (sR (([]:List Cl),(([]:List Tp),(([2]:List Int),([(([]:List Tp),(([]:List Tp),(((5:Int),((0:Int),())),([((1:Int),((0:Int),((0:Int),()))),((23:Int),((9:Int),((0:Int),()))),((5:Int),((0:Int),((0:Int),()))),((33:Int),((0:Int),((0:Int),())))],((0:Int),((0:Int),([0,0,0,0]:List Int),()))))))],(([]:List Int),((0:Int),((0:Int),()))))))) (([(([]:List Tp),(([]:List Tp),(((5:Int),((0:Int),())),([((1:Int),((0:Int),((0:Int),()))),((23:Int),((9:Int),((0:Int),()))),((5:Int),((0:Int),((0:Int),()))),((33:Int),((0:Int),((0:Int),())))],((0:Int),((0:Int),([0,0,0,0]:List Int),()))))))].getD 0 zMt).2.2.2.1.getD 0 zIns)).bind fun r7=>
                    some (r7.1==0,())
                   else none
                  else none
                 else some (false,())
                else some (false,())
               else some (false,())
              else none
             else none
            else some (false,())
           else none
          else none
         else some (false,())
        else none
       else none
      else some (false,())
     else none
    else some (false,())
   else some (false,())
  else some (false,())
 else some (false,())
end
end Go.Pli

namespace Go.Pli
open Go Go.PM
noncomputable section
def aBa (r3:Im×Bool×Unit) (r6:List (List Bool)×Unit) (s7:Int×Unit) (rec8:(Int×Unit)→Option (Bool×Unit)) (s9:Int×List (List Int)×Unit) (r12:List (List Bool)×Unit) (s13:Int×Unit) (rec14:(Int×Unit)→Option (Bool×Unit)):Option (Bool×Unit):=
 bif decide (s13.1<(s9.2.1.length:Int)) then
  bif decide (0≤s13.1)&&decide (s13.1<r12.1.length) then
   bif decide (0≤s13.1)&&decide (s13.1<(r12.1.getD s13.1.toNat ([]:List Bool)).length) then
    bif (r12.1.getD s13.1.toNat ([]:List Bool)).getD s13.1.toNat false then
     bif decide (0≤s7.1)&&decide (s7.1<r3.1.2.2.2.1.length) then
      bif decide (0≤s13.1)&&decide (s13.1<(r3.1.2.2.2.1.getD s7.1.toNat zMt).2.2.2.1.length) then
       (sR r3.1 ((r3.1.2.2.2.1.getD s7.1.toNat zMt).2.2.2.1.getD s13.1.toNat zIns)).bind fun r15=>
       bif decide (r15.1>0) then
        some (false,())
       else rec14 (IntKind.i64.wrap (s13.1+1),())
      else none
     else none
    else rec14 (IntKind.i64.wrap (s13.1+1),())
   else none
  else none
 else bif decide (0≤s7.1)&&decide (s7.1<r6.1.length) then
  bif decide (0≤s7.1)&&decide (s7.1<(r6.1.getD s7.1.toNat ([]:List Bool)).length) then
   bif (r6.1.getD s7.1.toNat ([]:List Bool)).getD s7.1.toNat false then
    bif decide (0≤s7.1)&&decide (s7.1<r3.1.2.2.2.1.length) then
     bif decide ((r3.1.2.2.2.1.getD s7.1.toNat zMt).2.2.2.2.2.1>0) then
      some (false,())
     else rec8 (IntKind.i64.wrap (s7.1+1),())
    else none
   else rec8 (IntKind.i64.wrap (s7.1+1),())
  else none
 else none
def aA9 (m:Im) (fuel:Nat) (r1:List (List Sh)×Bool×Unit) (r3:Im×Bool×Unit) (r6:List (List Bool)×Unit) (s7:Int×Unit) (rec8:(Int×Unit)→Option (Bool×Unit)) (s9:Int×List (List Int)×Unit) (rec10:(Int×List (List Int)×Unit)→Option (Bool×Unit)):Option (Bool×Unit):=
 bif decide (s9.1<(s9.2.1.length:Int)) then
  bif decide (0≤s7.1)&&decide (s7.1<r1.1.length) then
   bif decide (0≤s9.1)&&decide (s9.1<(r1.1.getD s7.1.toNat ([]:List Sh)).length) then
    bif ((r1.1.getD s7.1.toNat ([]:List Sh)).getD s9.1.toNat zSh).1 then
     bif decide (0≤s7.1)&&decide (s7.1<r1.1.length) then
      bif decide (0≤s9.1)&&decide (s9.1<(r1.1.getD s7.1.toNat ([]:List Sh)).length) then
       (pA m s7.1 s9.1 ((r1.1.getD s7.1.toNat ([]:List Sh)).getD s9.1.toNat zSh).2.1).bind fun r11=>
       bif decide (0≤s9.1)&&decide (s9.1<s9.2.1.length) then
        rec10 (IntKind.i64.wrap (s9.1+1),s9.2.1.set s9.1.toNat r11.2.1,())
       else none
      else none
     else none
    else rec10 (IntKind.i64.wrap (s9.1+1),s9.2.1,())
   else none
  else none
 else
  (oY s9.2.1).bind fun r12=>
  aE (aBa r3 r6 s7 rec8 s9 r12) fuel ((0:Int),())
def aA8 (m:Im) (fuel:Nat) (r1:List (List Sh)×Bool×Unit) (r3:Im×Bool×Unit) (r6:List (List Bool)×Unit) (s7:Int×Unit) (rec8:(Int×Unit)→Option (Bool×Unit)):Option (Bool×Unit):=
 bif decide (s7.1<(r3.1.2.2.2.1.length:Int)) then
  bif decide (0≤s7.1)&&decide (s7.1<r3.1.2.2.2.1.length) then
   bif decide (0≤((r3.1.2.2.2.1.getD s7.1.toNat zMt).2.2.2.1.length:Int))&&decide (((r3.1.2.2.2.1.getD s7.1.toNat zMt).2.2.2.1.length:Int)≤((r3.1.2.2.2.1.getD s7.1.toNat zMt).2.2.2.1.length:Int))&&decide (((r3.1.2.2.2.1.getD s7.1.toNat zMt).2.2.2.1.length:Int)<(rowMax:Int)) then
    aE (aA9 m fuel r1 r3 r6 s7 rec8) fuel ((0:Int),(List.replicate ((r3.1.2.2.2.1.getD s7.1.toNat zMt).2.2.2.1.length:Int).toNat ([]:List Int),()))
   else none
  else none
 else
  awake15N.bind fun r16=>
  some (r16.1,())
def aDe (fuel:Nat) (m:Im):Option (Bool×Unit):=
 (xP m).bind fun r1=>
 bif !r1.2.1 then
  awake15N.bind fun r2=>
  some (r2.1,())
 else
  (lF m r1.1).bind fun r3=>
  bif !r3.2.1 then
   awake15N.bind fun r4=>
   some (r4.1,())
  else bif (r3.1.2.2.2.1.length:Int) !=(m.2.2.2.1.length:Int) then
   some (false,())
  else
   (vD m).bind fun r5=>
   (oY r5.1).bind fun r6=>
   aE (aA8 m fuel r1 r3 r6) fuel ((0:Int),())
end
end Go.Pli

namespace Go.Pli
open Go Go.PM
end Go.Pli

namespace Go.Pli
open Go Go.PM
noncomputable section
end
end Go.Pli
