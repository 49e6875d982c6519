/- What functions of the program come to, in plain Lean. -/
import Derived.Test.YtcofionghgmldaaGreatPMDefs
import Derived.Laws.BitsAllLaws
import Derived.Laws.Bits64
import Derived.Laws.BitsLemmas
namespace Go.Pli
open Go Go.PM
def kN:Nat→Nat→List Int
 | 0,v=>[(v:Int)]
 | k+1,v=>if v<128 then[(v:Int)] else ((128+v % 128:Nat):Int)::kN k (v/128)
def enc (v:Nat):List Int:=kN 10 v
def aGK (b:List Int):Bool:=Nat.blt (b.length+20) rowMax
def put (b:List Int) (n:Int):Option (List Int×Unit):=bif aGK b then some (b++enc (IntKind.u64.wrap (max n 0)).toNat,()) else none
def sK:Nat→Nat→Nat→List Int→Option (Nat×Nat×Bool)
 | 0,_,_,_=>none
 | _+1,_,_,[]=>none
 | k+1,i,v,c::l=>if c<128 then some (v+128 ^ i*(c.toNat % 128),i+1,i==0 || decide (0<c)) else sK k (i+1) (v+128 ^ i*(c.toNat % 128)) l
def fK (l:List Int):Bool:=l.all fun c=>decide (0≤c)&&decide (c<256)
abbrev Rd:=List Int×Bool×Unit
def next (r:Rd):Option (Int×Bool×Rd×Unit):=
 bif fK (r.1.take 5) then (match sK 5 0 0 r.1 with
  | some (v,n,ok)=>some ((v:Int),ok,(r.1.drop n,r.2.1,()),())
  | none=>some (0,false,r,())) else none
def aNt (b:List Int):Option (Int×Int×Unit):=
 bif fK (b.take 5) then (match sK 5 0 0 b with
  | some (v,n,true)=>some ((v:Int),(n:Int),())
  | _=>some (0,0,())) else none
def rin (l:List Int) (x:Int):Option (Bool×Unit):=bif decide (l.length<9223372036854775807) then some (l.contains x,()) else none
def cR (o:Int):Int:=
 bif ([1,3,4,18,19,22,23,29,30,31,34]:List Int).contains o then 1
 else bif o==27 || (o==28 || o==32) then 2
 else bif decide (o<1) || decide (o>34) then -1 else 0
def wI (o:Int):Int:=cR o
abbrev Ins:=Int×Int×Int×Unit
def kV (n c a:Int):Bool:=bif decide (a≥c) then n==0 else decide (n≥0)&&decide (n≤255)
def dQ (i:Ins):Bool:=decide (cR i.1≥0)&&(kV i.2.1 (cR i.1) 0&&kV i.2.2.1 (cR i.1) 1)
def aCf (i:Ins):Bool:=dQ i
def aRq (b:List Int) (i:Ins):Option (List Int×Unit):=
 (put b i.1).bind fun r=>bif decide (cR i.1<1) then some r else (put r.1 i.2.1).bind fun r=>bif decide (cR i.1<2) then some r else put r.1 i.2.2.1
end Go.Pli

namespace Go.Pli
open Go Go.PM
theorem cD {n:Int} (h0: -9223372036854775808≤n) (h1:n<9223372036854775808):IntKind.i64.wrap n=n:=by
 rw[IntKind.wrap_i64];omega
theorem aN {k n:Nat} (h:k<n) (hn:n≤lenMax):IntKind.i64.wrap ((k:Int)+1)=((k+1:Nat):Int):=by
 simp only[lenMax] at hn
 rw[cD] <;> omega
theorem dlt {k n:Nat} (h:k<n):decide ((k:Int)<(n:Int))=true:=decide_eq_true (by omega)
theorem bB (n:Nat):decide ((n:Int)<(n:Int))=false:=decide_eq_false (by omega)
theorem dge (k:Nat):decide (0≤(k:Int))=true:=decide_eq_true (by omega)
theorem aVW (k:Nat):decide ((k:Int)≥0)=true:=decide_eq_true (by omega)
theorem aD {S R:Type} (L:S→(S→Option R)→Option R) (n:Nat) (s:S):aA L (n+1) s=L s (aA L n):=rfl
theorem dD {α σ R:Type} {L:σ→(σ→Option R)→Option R} {xs:List α} {st:Nat→σ} {p:α→Bool} {ex fin:Option R}
  (h1:∀(k:Nat) (x:α) (rec),xs[k]? =some x→k<xs.length→L (st k) rec=bif p x then rec (st (k+1)) else ex)
  (h2:∀rec,L (st xs.length) rec=fin):∀F:Nat,xs.length<F→aA L F (st 0)=bif xs.all p then fin else ex:=by
 have key:∀(l pre:List α) (F:Nat),xs=pre++l→l.length<F→aA L F (st pre.length)=bif l.all p then fin else ex:=by
  intro l
  induction l with
  | nil=>
   intro pre F hx hF
   obtain⟨F,rfl⟩:∃n,F=n+1:=⟨F - 1,by simp at hF;omega⟩
   rw[List.append_nil] at hx
   subst hx
   rw[aD,h2]
   rfl
  | cons x l ih=>
   intro pre F hx hF
   obtain⟨F,rfl⟩:∃n,F=n+1:=⟨F - 1,by simp at hF;omega⟩
   have hk:xs[pre.length]? =some x:=by rw[hx];simp
   have hl:pre.length<xs.length:=by rw[hx];simp
   rw[aD,h1 pre.length x _ hk hl]
   have:=ih (pre++[x]) F (by rw[hx];simp) (by simp only[List.length_cons] at hF;omega)
   simp only[List.length_append,List.length_cons,List.length_nil,Nat.zero_add] at this
   rw[this,List.all_cons]
   cases p x <;> rfl
 intro F hF
 exact key xs [] F rfl hF
def jK {α:Type} (p:α→Bool):Nat→List α→Int
 | _,[]=> -1
 | k,x::l=>bif p x then (k:Int) else jK p (k+1) l
theorem iA {α:Type} (p:α→Bool):∀(l:List α) (k:Nat),decide (jK p k l≥0)=l.any p
 | [],_=>rfl
 | x::l,k=>by
  simp only[jK,List.any_cons]
  by_cases hp:p x=true
  ·simp[hp]
  ·have hp:p x=false:=by simpa using hp
   simpa[hp] using iA p l (k+1)
theorem jG {α σ:Type} {L:σ→(σ→Option (Int×Unit))→Option (Int×Unit)} {xs:List α} {st:Nat→σ} {p:α→Bool}
  (h1:∀(k:Nat) (x:α) (rec),xs[k]? =some x→k<xs.length→L (st k) rec=bif p x then some ((k:Int),()) else rec (st (k+1)))
  (h2:∀rec,L (st xs.length) rec=some (-1,())):∀F:Nat,xs.length<F→aA L F (st 0)=some (jK p 0 xs,()):=by
 have key:∀(l pre:List α) (F:Nat),xs=pre++l→l.length<F→aA L F (st pre.length)=some (jK p pre.length l,()):=by
  intro l
  induction l with
  | nil=>
   intro pre F hx hF
   obtain⟨F,rfl⟩:∃n,F=n+1:=⟨F - 1,by simp at hF;omega⟩
   rw[List.append_nil] at hx
   subst hx
   rw[aD,h2]
   rfl
  | cons x l ih=>
   intro pre F hx hF
   obtain⟨F,rfl⟩:∃n,F=n+1:=⟨F - 1,by simp at hF;omega⟩
   have hk:xs[pre.length]? =some x:=by rw[hx];simp
   have hl:pre.length<xs.length:=by rw[hx];simp
   rw[aD,h1 pre.length x _ hk hl]
   have:=ih (pre++[x]) F (by rw[hx];simp) (by simp only[List.length_cons] at hF;omega)
   simp only[List.length_append,List.length_cons,List.length_nil,Nat.zero_add] at this
   simp only[jK,this]
   cases p x <;> rfl
 intro F hF
 exact key xs [] F rfl hF
theorem getD_some {α:Type} {xs:List α} {k:Nat} {x d:α} (h:xs[k]? =some x):xs.getD k d=x:=by simp[h]
end Go.Pli

namespace Go.Pli
open Go Go.PM
def aMQ (b:List Int):List Int×Bool×Unit:=
 (b,false,())
def aCg (r:List Int×Bool×Unit) (s1:Int×Int×Unit) (rec2:(Int×Int×Unit)→Option (Int×Bool×(List Int×Bool×Unit)×Unit)):Option (Int×Bool×(List Int×Bool×Unit)×Unit):=
 bif decide (s1.2.1<(r.1.length:Int)) then
  bif decide (0≤s1.2.1)&&decide (s1.2.1<r.1.length) then
   bif s1.2.1==5 then
    some ((0:Int),false,r,())
   else bif !decide (IntKind.i64.wrap ((7:Int)*s1.2.1)<0) then
    bif decide (r.1.getD s1.2.1.toNat 0<128) then
     bif decide (0≤IntKind.i64.wrap (s1.2.1+1))&&decide (IntKind.i64.wrap (s1.2.1+1)≤(r.1.length:Int))&&decide ((r.1.length:Int)≤(r.1.length:Int)) then
      bif s1.2.1==0 then
       some (IntKind.u64.wrap ((BitVec.ofInt 64 s1.1 ||| BitVec.ofInt 64 (IntKind.u64.wrap ((IntKind.u64.wrap ((r.1.getD s1.2.1.toNat 0).tmod 128))*2 ^ (min (IntKind.i64.wrap ((7:Int)*s1.2.1)).toNat 64)))).toNat),true,((r.1.take r.1.length).drop (IntKind.i64.wrap (s1.2.1+1)).toNat,r.2),())
      else some (IntKind.u64.wrap ((BitVec.ofInt 64 s1.1 ||| BitVec.ofInt 64 (IntKind.u64.wrap ((IntKind.u64.wrap ((r.1.getD s1.2.1.toNat 0).tmod 128))*2 ^ (min (IntKind.i64.wrap ((7:Int)*s1.2.1)).toNat 64)))).toNat),decide (r.1.getD s1.2.1.toNat 0>0),((r.1.take r.1.length).drop (IntKind.i64.wrap (s1.2.1+1)).toNat,r.2),())
     else none
    else rec2 (IntKind.u64.wrap ((BitVec.ofInt 64 s1.1 ||| BitVec.ofInt 64 (IntKind.u64.wrap ((IntKind.u64.wrap ((r.1.getD s1.2.1.toNat 0).tmod 128))*2 ^ (min (IntKind.i64.wrap ((7:Int)*s1.2.1)).toNat 64)))).toNat),IntKind.i64.wrap (s1.2.1+1),())
   else none
  else none
 else some ((0:Int),false,r,())
def aSY (fuel:Nat) (r:List Int×Bool×Unit):Option (Int×Bool×(List Int×Bool×Unit)×Unit):=
 aA (aCg r) fuel ((0:Int),((0:Int),()))
def dE (r:List Int×Bool×Unit) (n:Int):Option (Int×(List Int×Bool×Unit)×Unit):=
 bif r.2.1 then
  some ((0:Int),r,())
 else
  (next r).bind fun r1=>
  bif !r1.2.1 then
   some ((0:Int),(r1.2.2.1.1,true,()),())
  else bif decide (n<0) then
   some ((0:Int),(r1.2.2.1.1,true,()),())
  else bif decide (r1.1>IntKind.u64.wrap n) then
   some ((0:Int),(r1.2.2.1.1,true,()),())
  else some (IntKind.i64.wrap r1.1,r1.2.2.1,())
def xU (r:List Int×Bool×Unit):Option (Int×(List Int×Bool×Unit)×Unit):=
 (dE r (4294967295:Int)).bind fun r1=>
 some (IntKind.i32.wrap ((BitVec.ofInt 32 (IntKind.i32.wrap ((IntKind.u32.wrap r1.1).fdiv 2)) ^^^ BitVec.ofInt 32 (IntKind.i32.wrap (0 - (IntKind.i32.wrap (IntKind.u32.wrap ((BitVec.ofInt 32 (IntKind.u32.wrap r1.1)&&&BitVec.ofInt 32 1).toNat)))))).toNat),r1.2.1,())
def aOg (r:List Int×Bool×Unit):Option (Bool×(List Int×Bool×Unit)×Unit):=
 bif !r.2.1 then
  some ((r.1.length:Int)==0,r,())
 else some (false,r,())
def aId (l:List Int) (x:Int) (s1:Int×Unit) (rec2:(Int×Unit)→Option (Bool×Unit)):Option (Bool×Unit):=
 bif decide (s1.1<(l.length:Int)) then
  bif decide (0≤s1.1)&&decide (s1.1<l.length) then
   bif (l.getD s1.1.toNat 0)==x then
    some (true,())
   else rec2 (IntKind.i64.wrap (s1.1+1),())
  else none
 else some (false,())
def aVP (fuel:Nat) (l:List Int) (x:Int):Option (Bool×Unit):=
 aA (aId l x) fuel ((0:Int),())
def aPw (o:Int):Option (Int×Unit):=
 bif decide (o<1) then
  some ((-1:Int),())
 else bif decide (o>34) then
  some ((-1:Int),())
 else
  (rin ([1,3,4,18,19,22,23,29,30,31,34]:List Int) o).bind fun r1=>
  bif r1.1 then
   some ((1:Int),())
  else bif o==27 then
   some ((2:Int),())
  else bif o==28 then
   some ((2:Int),())
  else bif o==32 then
   some ((2:Int),())
  else some ((0:Int),())
def aQh (o:Int):Option (Int×Unit):=
 (bif o==1 then
  some (.inl (true,()))
 else bif o==3 then
  some (.inl (true,()))
 else bif o==4 then
  some (.inl (true,()))
 else bif o==18 then
  some (.inl (true,()))
 else bif o==19 then
  some (.inl (true,()))
 else bif o==22 then
  some (.inl (true,()))
 else bif o==23 then
  some (.inl (true,()))
 else bif o==29 then
  some (.inl (true,()))
 else bif o==30 then
  some (.inl (true,()))
 else bif o==31 then
  some (.inl (true,()))
 else some (.inl (o==34,())):Option ((Bool×Unit)⊕(Int×Unit))).bind fun q=>match q with
 | .inr r2=>some r2
 | .inl s1=>
  bif s1.1 then
   some ((1:Int),())
  else bif o==27 then
   some ((2:Int),())
  else bif o==28 then
   some ((2:Int),())
  else bif o==32 then
   some ((2:Int),())
  else bif decide (o<1) then
   some ((-1:Int),())
  else bif decide (o>34) then
   some ((-1:Int),())
  else some ((0:Int),())
def aMi (n:Int) (c:Int) (a:Int):Option (Bool×Unit):=
 bif decide (a≥c) then
  some (n==0,())
 else bif decide (n≥0) then
  some (decide (n≤255),())
 else some (false,())
def aPb (i:Int×Int×Int×Unit):Option (Bool×Unit):=
 bif decide ((cR i.1)≥0) then
  bif (kV i.2.1 (cR i.1) (0:Int)) then
   some ((kV i.2.2.1 (cR i.1) (1:Int)),())
  else some (false,())
 else some (false,())
def aIj (r:List Int×Bool×Unit):Option ((Int×Int×Int×Unit)×(List Int×Bool×Unit)×Unit):=
 (dE r (34:Int)).bind fun r1=>
 bif decide ((cR r1.1)>0) then
  (dE r1.2.1 (255:Int)).bind fun r2=>
  bif decide ((cR r1.1)>1) then
   (dE r2.2.1 (255:Int)).bind fun r3=>
   some ((r1.1,r2.1,r3.1,()),r3.2.1,())
  else some ((r1.1,r2.1,((0:Int),())),r2.2.1,())
 else bif decide ((cR r1.1)>1) then
  (dE r1.2.1 (255:Int)).bind fun r4=>
  some ((r1.1,((0:Int),r4.1,())),r4.2.1,())
 else some ((r1.1,((0:Int),((0:Int),()))),r1.2.1,())
def aMa (i:Int×Int×Int×Unit):Option (Bool×Unit):=
 (bif decide ((wI i.1)<0) then
  some (.inr (false,()))
 else bif decide ((wI i.1)<1) then
  bif i.2.1 !=0 then
   some (.inr (false,()))
  else bif decide ((wI i.1)<2) then
   bif i.2.2.1 !=0 then
    some (.inr (false,()))
   else some (.inl ())
  else some (.inl ())
 else bif decide ((wI i.1)<2) then
  bif i.2.2.1 !=0 then
   some (.inr (false,()))
  else some (.inl ())
 else some (.inl ()):Option (Unit⊕(Bool×Unit))).bind fun q=>match q with
 | .inr r2=>some r2
 | .inl _=>
  bif decide (i.2.1≥0) then
   bif decide (i.2.1≤255) then
    bif decide (i.2.2.1≥0) then
     some (decide (i.2.2.1≤255),())
    else some (false,())
   else some (false,())
  else some (false,())
def aBp (l:List (Int×Int×Int×Unit)) (s3:List Int×Int×Int×Unit) (rec4:(List Int×Int×Int×Unit)→Option ((List Int×Int×Unit)⊕(Bool×Unit))):Option ((List Int×Int×Unit)⊕(Bool×Unit)):=
 bif decide (s3.2.2.1<(l.length:Int)) then
  bif decide (s3.2.2.1<60) then
   bif decide (0≤s3.2.2.1)&&decide (s3.2.2.1<l.length) then
    bif (dQ (l.getD s3.2.2.1.toNat ((0:Int),((0:Int),((0:Int),()))))) then
     bif decide (0≤s3.2.2.1)&&decide (s3.2.2.1<l.length) then
      (aRq s3.1 (l.getD s3.2.2.1.toNat ((0:Int),((0:Int),((0:Int),()))))).bind fun r5=>
      rec4 (r5.1,IntKind.i64.wrap (s3.2.1+1),IntKind.i64.wrap (s3.2.2.1+1),())
     else none
    else rec4 (s3.1,s3.2.1,IntKind.i64.wrap (s3.2.2.1+1),())
   else none
  else some (.inl (s3.1,s3.2.1,()))
 else some (.inl (s3.1,s3.2.1,()))
end Go.Pli

namespace Go.Pli
open Go Go.PM
abbrev Tp:=Int×Int×Unit
abbrev Cl:=Int×List Tp×List Int×Unit
abbrev Mt:=List Tp×List Tp×Tp×List Ins×Int×Int×List Int×Unit
abbrev Im:=List Cl×List Tp×List Int×List Mt×List Int×Int×Int×Unit
abbrev zTp:Tp:=(0,0,())
abbrev dN:Ins:=(0,0,0,())
abbrev zCl:Cl:=(0,[],[],())
abbrev zMt:Mt:=([],[],zTp,[],0,0,[],())
abbrev zIm:Im:=([],[],[],[],[],0,0,())
def idL {α:Type} (s:List α):List α:=s
def eqL {α:Type} [BEq α] (a b:List α):Bool:=a==b
def aR (n m:Int):Bool:=decide (0≤n)&&decide (n≤m)
def ityp (t:Tp):Bool:=aR t.1 5&&(t.2.1==0 || (t.1==3&&aR t.2.1 7))
def aCV (t:Tp):Bool:= !ityp t
def cQ (l:List Tp) (m:Int):Bool:=decide ((l.length:Int)≤m)&&l.all ityp
def aAI (n m:Int):Bool:= !aR n m
def eO (l:List Int) (c m:Int):Bool:=decide ((l.length:Int)≤c)&&l.all fun n=>aR n m
def imethod (x:Mt):Bool:=
 cQ x.1 4&&(cQ x.2.1 8&&(ityp x.2.2.1&&(decide ((x.2.2.2.1.length:Int)≤64)&&(x.2.2.2.1.all dQ&&(aR x.2.2.2.2.1 8&&(aR x.2.2.2.2.2.1 4096&&eO x.2.2.2.2.2.2.1 64 4096))))))
def iclass (x:Cl):Bool:=decide (-1≤x.1)&&(decide (x.1<8)&&(cQ x.2.1 8&&eO x.2.2.1 4 11))
def yX (x:Cl):Bool:= !iclass x
def xV (x:Mt):Bool:= !imethod x
def bC (m:Im):Bool:=
 decide ((m.1.length:Int)≤8)&&(cQ m.2.1 8&&(decide ((m.2.2.1.length:Int)≤16)&&(decide ((m.2.2.2.1.length:Int)≤12)&&(m.1.all iclass&&(m.2.2.2.1.all imethod&&
  (eO m.2.2.2.2.1 12 11&&(aR m.2.2.2.2.2.1 4096&&aR m.2.2.2.2.2.2.1 4096)))))))
def sW (l:List Cl) (_:Unit):Int:=jK yX 0 l
def rC (l:List Mt) (_:Unit):Int:=jK xV 0 l
def sQ (l:List Tp) (_:Unit):Int:=jK aCV 0 l
def wH (l:List Int) (c:Int×Unit):Int:=jK (fun n=>aAI n c.1) 0 l
def lF (l:List Cl) (_:Unit):Bool:=l.any yX
def kB (l:List Mt) (_:Unit):Bool:=l.any xV
def lC (l:List Tp) (_:Unit):Bool:=l.any aCV
def mH (l:List Int) (c:Int×Unit):Bool:=l.any fun n=>aAI n c.1
def nD (n a b:Int):Bool:=decide (a≤n)&&decide (n≤b)
def pG (l:List Int) (c m:Int):Bool:=eO l c m
def wV (t:Tp):Bool:=ityp t
def kA (l:List Tp) (c:Int):Bool:=cQ l c
def rV (m:Im):Bool:=bC m
def dY (t:Tp) (n:Int):Bool:=bif t.1==1 || t.1==2 then t.2.1==0 else t.1==3&&(decide (0≤t.2.1)&&decide (t.2.1<n))
def aAL (t:Tp) (n:Int):Bool:=dY t n
def gW (t:Tp):Bool:=t.1==2 || (t.1==3 || t.1==4)
def vK (t:Tp):Bool:=gW t
def bX (l:List Cl) (c:Int):Int:=(l.getD c.toNat zCl).1
def kup (l:List Cl) (c:Int):Int:=bif decide (c<0) || (decide (c≥(l.length:Int)) || decide (bX l c≥c)) then -1 else bX l c
def rT (l:List Cl):Nat→Int→List Int
 | 0,_=>[]
 | n+1,c=>bif decide (c<0) then[] else c::rT l n (kup l c)
def bQ (l:List Cl) (c:Int):List Int:=rT l (c.toNat+1) c
def bZ (l:List Cl) (a b:Int):Bool:=decide (0≤b)&&(decide (b<(l.length:Int))&&(decide (a<(l.length:Int))&&(bQ l a).contains b))
def cP (l:List Cl) (a b:Tp):Bool:=bif a.1==4 then gW b else bif a.1==3&&b.1==3 then bZ l a.2.1 b.2.1 else a==b&&(a.1==1 || a.1==2)
def okL {α:Type} (l:List α):Bool:=Nat.blt l.length 1000000
def aY (l:List Cl) (c:Int):List Int:=bif decide (c<(l.length:Int)) then bQ l c else[]
def jC (l:List Cl) (c:Int):Option (List Int×Unit):=bif okL l then some (aY l c,()) else none
def aCC (l:List Cl) (a b:Tp):Bool:=bif a.1==4 then gW b else bif a.1==3 then b.1==3&&(aY l a.2.1).contains b.2.1 else a==b&&(a.1==1 || a.1==2)
def uB (l:List Cl) (a b:Tp):Option (Bool×Unit):=bif okL l then some (aCC l a b,()) else none
def yY (a b:List Tp):Bool:=a==b
def aFw (m:Im):Option (Im×Unit):=bif bC m then some (m,()) else none
def sin (n c:Int):Bool:=decide (0≤n)&&decide (n<c)
def cZ (m:Im) (l:List Tp):Bool:=l.all fun t=>dY t (m.1.length:Int)
def nP (m:Im) (l:List Tp):Bool:=cZ m l
def oE (m:Im) (l:List (List Tp)):Bool:=l.all (cZ m)
def bH (m:Im) (c:Int):Cl:=m.1.getD c.toNat zCl
def aC (m:Im) (f:Int):Mt:=m.2.2.2.1.getD f.toNat zMt
def bK:List Nat→Nat
 | []=>0
 | n::l=>n+bK l
def dR (m:Im) (c:Int):Nat:=bK ((bQ m.1 c).map fun s=>(bH m s).2.1.length)
def bR (m:Im) (c:Int):List Int:=bif decide (0≤bX m.1 c) then (bH m (bX m.1 c)).2.2.1 else[]
def aEE (a b:Mt):Bool:=decide (0<a.1.length)&&(decide (0<b.1.length)&&(a.1.drop 1==b.1.drop 1&&a.2.2.1==b.2.2.1))
def aB2 (a b:Mt):Bool:=aEE a b
def aAl (m:Im) (c f:Int):Bool:=decide (0<(aC m f).1.length)&&cP m.1 (3,c,()) ((aC m f).1.getD 0 zTp)
def rD (m:Im) (c:Int) (n:Nat) (f:Int):Bool:=
 sin f (m.2.2.2.1.length:Int)&&(aAl m c f&&(!decide (n<(bR m c).length) || aEE (aC m f) (aC m ((bR m c).getD n 0))))
def mX {α:Type} (p:Nat→α→Bool):Nat→List α→Bool
 | _,[]=>true
 | k,x::l=>p k x&&mX p (k+1) l
def cO (m:Im) (c:Int):Bool:=
 decide (bX m.1 c<c)&&(cZ m (bH m c).2.1&&(decide (dR m c≤8)&&(decide ((bR m c).length≤(bH m c).2.2.1.length)&&mX (rD m c) 0 (bH m c).2.2.1)))
def ahead (m:Im) (c:Int):Bool:=(List.range c.toNat).all fun k=>cO m (k:Int)
def lW (m:Im) (c:Int):Bool:=bC m&&(decide (0≤c)&&(decide (c<(m.1.length:Int))&&ahead m c))
def mY (m:Im):Bool:=(List.range m.1.length).all fun k=>cO m (k:Int)
def gO (m:Im) (c:Int):Nat:=bK ((bQ m.1 (bX m.1 c)).map fun s=>(bH m s).2.1.length)
def pN (m:Im) (c:Int):Option (Int×List Int×Unit):=bif lW m c&&decide (bX m.1 c<c) then some ((gO m c:Int),bR m c,()) else none
def aCN (m:Im) (c f:Int):Option (Bool×Unit):=bif sin f (m.2.2.2.1.length:Int) then some (aAl m c f,()) else none
def rW (m:Im) (c:Int):Option (Bool×Unit):=bif lW m c then some (cO m c,()) else none
def eU (m:Im) (c:Int):Option (List Tp×Unit):=bif bC m then some ((((aY m.1 c).reverse).map fun s=>(bH m s).2.1).flatten,()) else none
def tL (m:Im) (c:Int):Option (Bool×Unit):=bif lW m c then some (cO m c,()) else none
def qR (c:Int) (m:Im):Option (Int×Unit):=bif bC m&&(mY m&&sin c (m.1.length:Int)) then some ((dR m c:Int),()) else none
def bI (m:Im) (x:Mt) (i:Ins):Bool:=
 bif i.1==1 then sin i.2.1 (m.2.2.1.length:Int)
 else bif i.1==3 || i.1==4 then sin i.2.1 ((x.1.length+x.2.1.length:Nat):Int)
 else bif i.1==18 || i.1==19 then sin i.2.1 (x.2.2.2.1.length:Int)
 else bif i.1==22 || i.1==34 then sin i.2.1 (m.1.length:Int)
 else bif i.1==27 || i.1==28 then sin i.2.1 (m.1.length:Int)&&sin i.2.2.1 (dR m i.2.1:Int)
 else bif i.1==29 || i.1==30 then sin i.2.1 (m.2.1.length:Int)
 else bif i.1==31 then sin i.2.1 (m.2.2.2.1.length:Int)
 else bif i.1==32 then sin i.2.1 (m.1.length:Int)&&sin i.2.2.1 ((bH m i.2.1).2.2.1.length:Int)
 else true
def nA (m:Im) (x:Mt):Bool:=bC m&&(mY m&&imethod x)
def zD (m:Im) (x:Mt) (i:Ins) (f:Im×Unit):Option (Bool×Unit):=bif nA m x&&f.1==m then some (bI m x i,()) else none
def tZ (m:Im) (x:Mt) (i:Ins):Option (Bool×Unit):=bif nA m x&&dQ i then some (bI m x i,()) else none
def cJ (m:Im) (x:Mt):Bool:=
 cZ m x.1&&(cZ m x.2.1&&((x.2.2.1==(5,0,()) || dY x.2.2.1 (m.1.length:Int))&&(decide (x.2.2.2.1.length≠0)&&(decide (x.2.2.2.2.2.2.1.length=x.2.2.2.1.length)&&
  (decide (x.1.length+x.2.1.length≤8)&&x.2.2.2.1.all (bI m x))))))
def tW (m:Im) (x:Mt):Option (Bool×Unit):=bif nA m x then some (cJ m x,()) else none
def qK (m:Im) (x:Mt):Option (Bool×Unit):=bif nA m x then some (cJ m x,()) else none
def sentry1 (t:Tp):Bool:=t.1==1&&t.2.1==0
def tT (t:Tp) (_:Unit):Bool:= !sentry1 t
def sX (l:List Tp) (_:Unit×Unit):Int:=jK (fun t=>tT t ()) 0 l
def iZ (l:List Tp) (_:Unit×Unit):Bool:=l.any fun t=>tT t ()
def gV (m:Im) (f:Int):Bool:=sin f (m.2.2.2.1.length:Int)&&((sentry1 (aC m f).2.2.1 || (aC m f).2.2.1.1==5)&&(aC m f).1.all sentry1)
def aFi (m:Im) (f:Int):Option (Bool×Unit):=some (gV m f,())
def jQ (m:Im):Bool:=cZ m m.2.1&&(mY m&&(m.2.2.2.1.all (cJ m)&&m.2.2.2.2.1.all (gV m)))
def dS (m:Im):Int:=bif bC m then (bif jQ m then 0 else 3) else 2
def sC (m:Im):Int:=dS m
def pR {α:Type} (f:Rd→Option (α×Rd×Unit)):Nat→Rd→Option (List α×Rd×Unit)
 | 0,r=>some ([],r,())
 | n+1,r=>(f r).bind fun q=>(pR f n q.2.1).bind fun p=>some (q.1::p.1,p.2.1,())
def oQ (r:Rd):Option (Tp×Rd×Unit):=
 (dE r 5).bind fun a=>bif a.1==3 then (dE a.2.1 7).bind fun b=>some ((a.1,b.1,()),b.2.1,()) else some ((a.1,0,()),a.2.1,())
def nO {α:Type} (f:Rd→Option (α×Rd×Unit)) (r:Rd) (m:Int):Option (List α×Rd×Unit):=(dE r m).bind fun a=>pR f a.1.toNat a.2.1
def fD (r:Rd) (m:Int):Option (List Tp×Rd×Unit):=bif decide (m≤1000) then nO oQ r m else none
def iK (r:Rd) (c m:Int):Option (List Int×Rd×Unit):=bif decide (c≤1000) then nO (fun r=>dE r m) r c else none
def jJ (r:Rd):Option (Mt×Rd×Unit):=
 (fD r 4).bind fun a=>(fD a.2.1 8).bind fun b=>(oQ b.2.1).bind fun c=>(nO aIj c.2.1 64).bind fun d=>(dE d.2.1 8).bind fun e=>(dE e.2.1 4096).bind fun f=>
 (iK f.2.1 64 4096).bind fun g=>some ((a.1,b.1,c.1,d.1,e.1,f.1,g.1,()),g.2.1,())
def aAR (r:Rd):Option (Cl×Rd×Unit):=
 (dE r 8).bind fun a=>(fD a.2.1 8).bind fun b=>(iK b.2.1 4 11).bind fun c=>some ((IntKind.i64.wrap (a.1 - 1),b.1,c.1,()),c.2.1,())
def aPo (r:Rd):Option (Im×Rd×Unit):=
 (nO aAR r 8).bind fun a=>(fD a.2.1 8).bind fun b=>(nO xU b.2.1 16).bind fun c=>(nO jJ c.2.1 12).bind fun d=>(iK d.2.1 12 11).bind fun e=>
 (dE e.2.1 4096).bind fun f=>(dE f.2.1 4096).bind fun g=>some ((a.1,b.1,c.1,d.1,e.1,f.1,g.1,()),g.2.1,())
def tV (b:List Int):Option (Im×Int×Unit):=
 bif decide ((b.length:Int)>8192) || (decide ((b.length:Int)<4) || !((strOfNums (b.take 4)).toList==(⟨#[112,108,105,109]⟩:ByteArray).toList)) then some (zIm,2,())
 else (aPo (aMQ (b.drop 4))).bind fun q=>(aOg q.2.1).bind fun f=>bif !f.1 || !bC q.1 then some (zIm,2,()) else some (q.1,0,())
def aPW (m:Im):Nat:=m.1.length+m.2.1.length+m.2.2.1.length+m.2.2.2.1.length+m.2.2.2.2.1.length
end Go.Pli

namespace Go.Pli
open Go Go.PM
def aHS (l:List Cl) (_c:Unit):Prop:=(l.length≤lenMax∧∀x1:Cl,x1∈l→(True∧((x1.2.1.length≤lenMax∧∀x2:Tp,x2∈x1.2.1→(True∧(True∧True)))∧((x1.2.2.1.length≤lenMax∧∀x2:Int,x2∈x1.2.2.1→True)∧True))))∧True∧True
def vB (l:List Cl) (s1:Int×Unit) (rec2:(Int×Unit)→Option (Int×Unit)):Option (Int×Unit):=
 bif decide (s1.1<(l.length:Int)) then
  bif decide (0≤s1.1)&&decide (s1.1<l.length) then
   bif (yX (l.getD s1.1.toNat zCl)) then
    some (s1.1,())
   else rec2 (IntKind.i64.wrap (s1.1+1),())
  else none
 else some ((-1:Int),())
def aK0 (fuel:Nat) (l:List Cl) (_c:Unit):Option (Int×Unit):=
 aA (vB l) fuel ((0:Int),())
def aD1 (l:List Cl) (_c:Unit):Prop:=(l.length≤lenMax∧∀x1:Cl,x1∈l→(True∧((x1.2.1.length≤lenMax∧∀x2:Tp,x2∈x1.2.1→(True∧(True∧True)))∧((x1.2.2.1.length≤lenMax∧∀x2:Int,x2∈x1.2.2.1→True)∧True))))∧True∧True
def xY (l:List Cl) (c:Unit):Option (Bool×Unit):=
 some (decide ((sW l c)≥0),())
def aGn (l:List Mt) (_c:Unit):Prop:=(l.length≤lenMax∧∀x1:Mt,x1∈l→((x1.1.length≤lenMax∧∀x2:Tp,x2∈x1.1→(True∧(True∧True)))∧((x1.2.1.length≤lenMax∧∀x2:Tp,x2∈x1.2.1→(True∧(True∧True)))∧((True∧(True∧True))∧((x1.2.2.2.1.length≤lenMax∧∀x2:Ins,x2∈x1.2.2.2.1→(True∧(True∧(True∧True))))∧(True∧(True∧((x1.2.2.2.2.2.2.1.length≤lenMax∧∀x2:Int,x2∈x1.2.2.2.2.2.2.1→True)∧True))))))))∧True∧True
def sI (l:List Mt) (s1:Int×Unit) (rec2:(Int×Unit)→Option (Int×Unit)):Option (Int×Unit):=
 bif decide (s1.1<(l.length:Int)) then
  bif decide (0≤s1.1)&&decide (s1.1<l.length) then
   bif (xV (l.getD s1.1.toNat zMt)) then
    some (s1.1,())
   else rec2 (IntKind.i64.wrap (s1.1+1),())
  else none
 else some ((-1:Int),())
def aIP (fuel:Nat) (l:List Mt) (_c:Unit):Option (Int×Unit):=
 aA (sI l) fuel ((0:Int),())
def aC5 (l:List Mt) (_c:Unit):Prop:=(l.length≤lenMax∧∀x1:Mt,x1∈l→((x1.1.length≤lenMax∧∀x2:Tp,x2∈x1.1→(True∧(True∧True)))∧((x1.2.1.length≤lenMax∧∀x2:Tp,x2∈x1.2.1→(True∧(True∧True)))∧((True∧(True∧True))∧((x1.2.2.2.1.length≤lenMax∧∀x2:Ins,x2∈x1.2.2.2.1→(True∧(True∧(True∧True))))∧(True∧(True∧((x1.2.2.2.2.2.2.1.length≤lenMax∧∀x2:Int,x2∈x1.2.2.2.2.2.2.1→True)∧True))))))))∧True∧True
def vV (l:List Mt) (c:Unit):Option (Bool×Unit):=
 some (decide ((rC l c)≥0),())
def aHM (l:List Tp) (_c:Unit):Prop:=(l.length≤lenMax∧∀x1:Tp,x1∈l→(True∧(True∧True)))∧True∧True
def uI (l:List Tp) (s1:Int×Unit) (rec2:(Int×Unit)→Option (Int×Unit)):Option (Int×Unit):=
 bif decide (s1.1<(l.length:Int)) then
  bif decide (0≤s1.1)&&decide (s1.1<l.length) then
   bif (aCV (l.getD s1.1.toNat zTp)) then
    some (s1.1,())
   else rec2 (IntKind.i64.wrap (s1.1+1),())
  else none
 else some ((-1:Int),())
def aLB (fuel:Nat) (l:List Tp) (_c:Unit):Option (Int×Unit):=
 aA (uI l) fuel ((0:Int),())
def aEe (l:List Tp) (_c:Unit):Prop:=(l.length≤lenMax∧∀x1:Tp,x1∈l→(True∧(True∧True)))∧True∧True
def yR (l:List Tp) (c:Unit):Option (Bool×Unit):=
 some (decide ((sQ l c)≥0),())
def aH0 (l:List Tp) (_c:Unit×Unit):Prop:=(l.length≤lenMax∧∀x1:Tp,x1∈l→(True∧(True∧True)))∧(True∧True)∧True
def vL (l:List Tp) (c:Unit×Unit) (s1:Int×Unit) (rec2:(Int×Unit)→Option (Int×Unit)):Option (Int×Unit):=
 bif decide (s1.1<(l.length:Int)) then
  bif decide (0≤s1.1)&&decide (s1.1<l.length) then
   bif (tT (l.getD s1.1.toNat zTp) c.1) then
    some (s1.1,())
   else rec2 (IntKind.i64.wrap (s1.1+1),())
  else none
 else some ((-1:Int),())
def aK3 (fuel:Nat) (l:List Tp) (c:Unit×Unit):Option (Int×Unit):=
 aA (vL l c) fuel ((0:Int),())
def aEd (l:List Tp) (_c:Unit×Unit):Prop:=(l.length≤lenMax∧∀x1:Tp,x1∈l→(True∧(True∧True)))∧(True∧True)∧True
def yD (l:List Tp) (c:Unit×Unit):Option (Bool×Unit):=
 some (decide ((sX l c)≥0),())
def aKd (l:List Int) (_c:Int×Unit):Prop:=(l.length≤lenMax∧∀x1:Int,x1∈l→True)∧(True∧True)∧True
def xJ (l:List Int) (c:Int×Unit) (s1:Int×Unit) (rec2:(Int×Unit)→Option (Int×Unit)):Option (Int×Unit):=
 bif decide (s1.1<(l.length:Int)) then
  bif decide (0≤s1.1)&&decide (s1.1<l.length) then
   bif (aAI (l.getD s1.1.toNat 0) c.1) then
    some (s1.1,())
   else rec2 (IntKind.i64.wrap (s1.1+1),())
  else none
 else some ((-1:Int),())
def aND (fuel:Nat) (l:List Int) (c:Int×Unit):Option (Int×Unit):=
 aA (xJ l c) fuel ((0:Int),())
def aFQ (l:List Int) (_c:Int×Unit):Prop:=(l.length≤lenMax∧∀x1:Int,x1∈l→True)∧(True∧True)∧True
def aA6 (l:List Int) (c:Int×Unit):Option (Bool×Unit):=
 some (decide ((wH l c)≥0),())
def aP2 (s:List Cl):Option (List Cl×Unit):=
 bif decide ((s.length:Int)=(s.length:Int))&&decide ((s.length:Int)=(s.length:Int)) then
  some (s,())
 else none
def aOX (s:List Mt):Option (List Mt×Unit):=
 bif decide ((s.length:Int)=(s.length:Int))&&decide ((s.length:Int)=(s.length:Int)) then
  some (s,())
 else none
def aQq (s:List Tp):Option (List Tp×Unit):=
 bif decide ((s.length:Int)=(s.length:Int))&&decide ((s.length:Int)=(s.length:Int)) then
  some (s,())
 else none
def aOr (s:List Int):Option (List Int×Unit):=
 bif decide ((s.length:Int)=(s.length:Int))&&decide ((s.length:Int)=(s.length:Int)) then
  some (s,())
 else none
def aP3 (s:List Ins):Option (List Ins×Unit):=
 bif decide ((s.length:Int)=(s.length:Int))&&decide ((s.length:Int)=(s.length:Int)) then
  some (s,())
 else none
def aO8 (s:List Int):Option (List Int×Unit):=
 bif decide ((s.length:Int)=(s.length:Int))&&decide ((s.length:Int)=(s.length:Int)) then
  some (s,())
 else none
def qO (s:List Tp):Option (List Tp×Unit):=
 bif decide (([]:List Tp).length+s.length<rowMax) then
  some (([]:List Tp)++s,())
 else none
def aC1 (s:List Int):Option (List Int×Unit):=
 bif decide (([]:List Int).length+s.length<rowMax) then
  some (([]:List Int)++s,())
 else none
def aCL (s:List Int):Option (List Int×Unit):=
 bif decide (([]:List Int).length+s.length<rowMax) then
  some (([]:List Int)++s,())
 else none
def aCz (s:List Ins):Option (List Ins×Unit):=
 bif decide (([]:List Ins).length+s.length<rowMax) then
  some (([]:List Ins)++s,())
 else none
def aDP (s:List Tp):Option (List Tp×Unit):=
 (qO s).bind fun r1=>
 some ((idL r1.1),())
def aMX (s:List Int):Option (List Int×Unit):=
 (aC1 s).bind fun r1=>
 some ((idL r1.1),())
def aGe (s:List Int):Option (List Int×Unit):=
 (aCL s).bind fun r1=>
 some ((idL r1.1),())
def aMU (s:List Ins):Option (List Ins×Unit):=
 (aCz s).bind fun r1=>
 some ((idL r1.1),())
def aVm (a:List Tp) (b:List Tp):Prop:=(a.length≤lenMax∧∀x1:Tp,x1∈a→(True∧(True∧True)))∧(b.length≤lenMax∧∀x1:Tp,x1∈b→(True∧(True∧True)))∧True
def aIk (a:List Tp) (b:List Tp) (s1:Int×Unit) (rec2:(Int×Unit)→Option (Bool×Unit)):Option (Bool×Unit):=
 bif decide (s1.1<(a.length:Int)) then
  bif decide (0≤s1.1)&&decide (s1.1<a.length) then
   bif decide (0≤s1.1)&&decide (s1.1<b.length) then
    bif !((((a.getD s1.1.toNat zTp).1)==((b.getD s1.1.toNat zTp).1))&&((((a.getD s1.1.toNat zTp).2.1)==((b.getD s1.1.toNat zTp).2.1))&&true)) then
     some (false,())
    else rec2 (IntKind.i64.wrap (s1.1+1),())
   else none
  else none
 else some (true,())
def aUy (fuel:Nat) (a:List Tp) (b:List Tp):Option (Bool×Unit):=
 bif (a.length:Int) !=(b.length:Int) then
  some (false,())
 else aA (aIk a b) fuel ((0:Int),())
def aKo (n:Int) (m:Int):Option (Bool×Unit):=
 bif decide (n≥0) then
  some (decide (n≤m),())
 else some (false,())
def aSZ (t:Tp):Option (Bool×Unit):=
 bif (aR t.1 (5:Int)) then
  bif t.2.1==0 then
   some (true,())
  else bif t.1==3 then
   some ((aR t.2.1 (7:Int)),())
  else some (false,())
 else some (false,())
def aUC (t:Tp):Option (Bool×Unit):=
 some (!(ityp t),())
def aL0 (l:List Tp) (m:Int):Option (Bool×Unit):=
 bif decide ((l.length:Int)≤m) then
  some (!(lC l ()),())
 else some (false,())
def aUE (n:Int) (m:Int):Option (Bool×Unit):=
 some (!(aR n m),())
def aPX (l:List Int) (c:Int) (m:Int):Option (Bool×Unit):=
 bif decide ((l.length:Int)≤c) then
  some (!(mH l (m,())),())
 else some (false,())
def wB (x:Mt) (s1:Int×Unit) (rec2:(Int×Unit)→Option (Bool×Unit)):Option (Bool×Unit):=
 bif decide (s1.1<(x.2.2.2.1.length:Int)) then
  bif decide (0≤s1.1)&&decide (s1.1<x.2.2.2.1.length) then
   bif !(dQ (x.2.2.2.1.getD s1.1.toNat dN)) then
    some (false,())
   else rec2 (IntKind.i64.wrap (s1.1+1),())
  else none
 else bif (aR x.2.2.2.2.1 (8:Int)) then
  bif (aR x.2.2.2.2.2.1 (4096:Int)) then
   some ((eO x.2.2.2.2.2.2.1 (64:Int) (4096:Int)),())
  else some (false,())
 else some (false,())
def aJH (fuel:Nat) (x:Mt):Option (Bool×Unit):=
 bif !(cQ x.1 (4:Int)) then
  some (false,())
 else bif !(cQ x.2.1 (8:Int)) then
  some (false,())
 else bif !(ityp x.2.2.1) then
  some (false,())
 else bif decide ((x.2.2.2.1.length:Int)>64) then
  some (false,())
 else aA (wB x) fuel ((0:Int),())
def aL1 (x:Cl):Option (Bool×Unit):=
 bif decide (x.1≥(-1:Int)) then
  bif decide (x.1<8) then
   bif (cQ x.2.1 (8:Int)) then
    some ((eO x.2.2.1 (4:Int) (11:Int)),())
   else some (false,())
  else some (false,())
 else some (false,())
def aTa (x:Cl):Option (Bool×Unit):=
 some (!(iclass x),())
def aUh (x:Mt):Option (Bool×Unit):=
 some (!(imethod x),())
def aPZ (m:Im):Option (Bool×Unit):=
 bif decide ((m.1.length:Int)>8) then
  some (false,())
 else bif !(cQ m.2.1 (8:Int)) then
  some (false,())
 else bif decide ((m.2.2.1.length:Int)>16) then
  some (false,())
 else bif decide ((m.2.2.2.1.length:Int)>12) then
  some (false,())
 else bif (lF m.1 ()) then
  some (false,())
 else bif (kB m.2.2.2.1 ()) then
  some (false,())
 else bif (eO m.2.2.2.2.1 (12:Int) (11:Int)) then
  bif (aR m.2.2.2.2.2.1 (4096:Int)) then
   some ((aR m.2.2.2.2.2.2.1 (4096:Int)),())
  else some (false,())
 else some (false,())
def aR5 (r:List Int×Bool×Unit):Option (Tp×(List Int×Bool×Unit)×Unit):=
 (dE r (5:Int)).bind fun r1=>
 bif r1.1==3 then
  (dE r1.2.1 (7:Int)).bind fun r2=>
  some ((r1.1,r2.1,()),r2.2.1,())
 else some ((r1.1,((0:Int),())),r1.2.1,())
def sT (r1:Int×(List Int×Bool×Unit)×Unit) (s2:List Tp×Int×(List Int×Bool×Unit)×Unit) (rec3:(List Tp×Int×(List Int×Bool×Unit)×Unit)→Option (List Tp×(List Int×Bool×Unit)×Unit)):Option (List Tp×(List Int×Bool×Unit)×Unit):=
 bif decide (s2.2.1<r1.1) then
  (oQ s2.2.2.1).bind fun r4=>
  bif decide (s2.1.length+[r4.1].length<rowMax) then
   rec3 (s2.1++[r4.1],IntKind.i64.wrap (s2.2.1+1),r4.2.1,())
  else none
 else some ((idL s2.1),s2.2.2.1,())
def aBk (fuel:Nat) (r:List Int×Bool×Unit) (m:Int):Option (List Tp×(List Int×Bool×Unit)×Unit):=
 (dE r m).bind fun r1=>
 aA (sT r1) fuel (([]:List Tp),((0:Int),r1.2.1,()))
def vX (m:Int) (r1:Int×(List Int×Bool×Unit)×Unit) (s2:List Int×Int×(List Int×Bool×Unit)×Unit) (rec3:(List Int×Int×(List Int×Bool×Unit)×Unit)→Option (List Int×(List Int×Bool×Unit)×Unit)):Option (List Int×(List Int×Bool×Unit)×Unit):=
 bif decide (s2.2.1<r1.1) then
  (dE s2.2.2.1 m).bind fun r4=>
  bif decide (s2.1.length+[r4.1].length<rowMax) then
   rec3 (s2.1++[r4.1],IntKind.i64.wrap (s2.2.1+1),r4.2.1,())
  else none
 else some ((idL s2.1),s2.2.2.1,())
def aDY (fuel:Nat) (r:List Int×Bool×Unit) (c:Int) (m:Int):Option (List Int×(List Int×Bool×Unit)×Unit):=
 (dE r c).bind fun r1=>
 aA (vX m r1) fuel (([]:List Int),((0:Int),r1.2.1,()))
def qW (r4:Int×(List Int×Bool×Unit)×Unit) (s5:Int×(List Int×Bool×Unit)×(List Tp×List Tp×Int×Int×List Ins×Int×Int×List Int×Unit)×Unit) (rec6:(Int×(List Int×Bool×Unit)×(List Tp×List Tp×Int×Int×List Ins×Int×Int×List Int×Unit)×Unit)→Option (Mt×(List Int×Bool×Unit)×Unit)):Option (Mt×(List Int×Bool×Unit)×Unit):=
 bif decide (s5.1<r4.1) then
  (aIj s5.2.1).bind fun r7=>
  bif decide (s5.2.2.1.2.2.2.2.1.length+[r7.1].length<rowMax) then
   rec6 (IntKind.i64.wrap (s5.1+1),r7.2.1,(s5.2.2.1.1,s5.2.2.1.2.1,s5.2.2.1.2.2.1,s5.2.2.1.2.2.2.1,s5.2.2.1.2.2.2.2.1++[r7.1],s5.2.2.1.2.2.2.2.2),())
  else none
 else
  (dE s5.2.1 (8:Int)).bind fun r8=>
  (dE r8.2.1 (4096:Int)).bind fun r9=>
  (iK r9.2.1 (64:Int) (4096:Int)).bind fun r10=>
  some ((s5.2.2.1.1,s5.2.2.1.2.1,(s5.2.2.1.2.2.1,s5.2.2.1.2.2.2.1,()),(idL s5.2.2.1.2.2.2.2.1),r8.1,r9.1,r10.1,()),r10.2.1,())
def aAK (fuel:Nat) (r:List Int×Bool×Unit):Option (Mt×(List Int×Bool×Unit)×Unit):=
 (fD r (4:Int)).bind fun r1=>
 (fD r1.2.1 (8:Int)).bind fun r2=>
 (oQ r2.2.1).bind fun r3=>
 (dE r3.2.1 (64:Int)).bind fun r4=>
 aA (qW r4) fuel ((0:Int),r4.2.1,(r1.1,r2.1,r3.1.1,r3.1.2.1,(([]:List Ins),((0:Int),((0:Int),(([]:List Int),()))))),())
def rN (r12:Int×(List Int×Bool×Unit)×Unit) (s13:Int×(List Int×Bool×Unit)×(List Cl×List Tp×List Int×List Mt×List Int×Int×Int×Unit)×Unit) (rec14:(Int×(List Int×Bool×Unit)×(List Cl×List Tp×List Int×List Mt×List Int×Int×Int×Unit)×Unit)→Option (Im×Int×Unit)):Option (Im×Int×Unit):=
 bif decide (s13.1<r12.1) then
  (jJ s13.2.1).bind fun r15=>
  bif decide (s13.2.2.1.2.2.2.1.length+[r15.1].length<rowMax) then
   rec14 (IntKind.i64.wrap (s13.1+1),r15.2.1,(s13.2.2.1.1,s13.2.2.1.2.1,s13.2.2.1.2.2.1,s13.2.2.1.2.2.2.1++[r15.1],s13.2.2.1.2.2.2.2),())
  else none
 else
  (iK s13.2.1 (12:Int) (11:Int)).bind fun r16=>
  (dE r16.2.1 (4096:Int)).bind fun r17=>
  (dE r17.2.1 (4096:Int)).bind fun r18=>
  (aOg r18.2.1).bind fun r19=>
  bif !r19.1 then
   some ((([]:List Cl),(([]:List Tp),(([]:List Int),(([]:List Mt),(([]:List Int),((0:Int),((0:Int),()))))))),((2:Int),()))
  else bif !(bC (s13.2.2.1.1,s13.2.2.1.2.1,s13.2.2.1.2.2.1,s13.2.2.1.2.2.2.1,r16.1,r17.1,r18.1,())) then
   some ((([]:List Cl),(([]:List Tp),(([]:List Int),(([]:List Mt),(([]:List Int),((0:Int),((0:Int),()))))))),((2:Int),()))
  else
   (aFw (s13.2.2.1.1,s13.2.2.1.2.1,s13.2.2.1.2.2.1,s13.2.2.1.2.2.2.1,r16.1,r17.1,r18.1,())).bind fun r20=>
   some (r20.1,((0:Int),()))
def sF (fuel:Nat) (r8:Int×(List Int×Bool×Unit)×Unit) (s9:Int×(List Int×Bool×Unit)×(List Cl×List Tp×List Int×List Mt×List Int×Int×Int×Unit)×Unit) (rec10:(Int×(List Int×Bool×Unit)×(List Cl×List Tp×List Int×List Mt×List Int×Int×Int×Unit)×Unit)→Option (Im×Int×Unit)):Option (Im×Int×Unit):=
 bif decide (s9.1<r8.1) then
  (xU s9.2.1).bind fun r11=>
  bif decide (s9.2.2.1.2.2.1.length+[r11.1].length<rowMax) then
   rec10 (IntKind.i64.wrap (s9.1+1),r11.2.1,(s9.2.2.1.1,s9.2.2.1.2.1,s9.2.2.1.2.2.1++[r11.1],s9.2.2.1.2.2.2),())
  else none
 else
  (dE s9.2.1 (12:Int)).bind fun r12=>
  aA (rN r12) fuel ((0:Int),r12.2.1,s9.2.2.1,())
def wK (fuel:Nat) (r1:Int×(List Int×Bool×Unit)×Unit) (s2:Int×(List Int×Bool×Unit)×(List Cl×List Tp×List Int×List Mt×List Int×Int×Int×Unit)×Unit) (rec3:(Int×(List Int×Bool×Unit)×(List Cl×List Tp×List Int×List Mt×List Int×Int×Int×Unit)×Unit)→Option (Im×Int×Unit)):Option (Im×Int×Unit):=
 bif decide (s2.1<r1.1) then
  (dE s2.2.1 (8:Int)).bind fun r4=>
  (fD r4.2.1 (8:Int)).bind fun r5=>
  (iK r5.2.1 (4:Int) (11:Int)).bind fun r6=>
  bif decide (s2.2.2.1.1.length+[(IntKind.i64.wrap (r4.1 - 1),r5.1,r6.1,())].length<rowMax) then
   rec3 (IntKind.i64.wrap (s2.1+1),r6.2.1,(s2.2.2.1.1++[(IntKind.i64.wrap (r4.1 - 1),r5.1,r6.1,())],s2.2.2.1.2),())
  else none
 else
  (fD s2.2.1 (8:Int)).bind fun r7=>
  (dE r7.2.1 (16:Int)).bind fun r8=>
  aA (sF fuel r8) fuel ((0:Int),r8.2.1,(s2.2.2.1.1,r7.1,s2.2.2.1.2.2),())
def aEm (fuel:Nat) (b:List Int):Option (Im×Int×Unit):=
 bif decide ((b.length:Int)>8192) then
  some ((([]:List Cl),(([]:List Tp),(([]:List Int),(([]:List Mt),(([]:List Int),((0:Int),((0:Int),()))))))),((2:Int),()))
 else bif decide ((b.length:Int)<4) then
  some ((([]:List Cl),(([]:List Tp),(([]:List Int),(([]:List Mt),(([]:List Int),((0:Int),((0:Int),()))))))),((2:Int),()))
 else bif decide ((4:Int)≤(b.length:Int)) then
  bif !((strOfNums ((b.take 4).drop 0)).toList==(⟨#[112,108,105,109]⟩:ByteArray).toList) then
   some ((([]:List Cl),(([]:List Tp),(([]:List Int),(([]:List Mt),(([]:List Int),((0:Int),((0:Int),()))))))),((2:Int),()))
  else bif decide ((4:Int)≤(b.length:Int))&&decide ((b.length:Int)≤(b.length:Int)) then
   (dE (aMQ ((b.take b.length).drop 4)) (8:Int)).bind fun r1=>
   aA (wK fuel r1) fuel ((0:Int),r1.2.1,((([]:List Cl),(([]:List Tp),(([]:List Int),(([]:List Mt),(([]:List Int),((0:Int),((0:Int),()))))))),()))
  else none
 else none
def aCQ (m:Im) (s8:Int×(List Cl×List Tp×List Int×List Mt×List Int×Int×Int×Unit)×Unit) (rec9:(Int×(List Cl×List Tp×List Int×List Mt×List Int×Int×Int×Unit)×Unit)→Option (Im×Unit)):Option (Im×Unit):=
 bif decide (s8.1<(m.2.2.2.1.length:Int)) then
  bif decide (0≤s8.1)&&decide (s8.1<m.2.2.2.1.length) then
   (aDP (m.2.2.2.1.getD s8.1.toNat zMt).1).bind fun r10=>
   (aDP (m.2.2.2.1.getD s8.1.toNat zMt).2.1).bind fun r11=>
   (aMU (m.2.2.2.1.getD s8.1.toNat zMt).2.2.2.1).bind fun r12=>
   (aGe (m.2.2.2.1.getD s8.1.toNat zMt).2.2.2.2.2.2.1).bind fun r13=>
   bif decide (s8.2.1.2.2.2.1.length+[(r10.1,r11.1,(m.2.2.2.1.getD s8.1.toNat zMt).2.2.1,r12.1,(m.2.2.2.1.getD s8.1.toNat zMt).2.2.2.2.1,(m.2.2.2.1.getD s8.1.toNat zMt).2.2.2.2.2.1,r13.1,())].length<rowMax) then
    rec9 (IntKind.i64.wrap (s8.1+1),(s8.2.1.1,s8.2.1.2.1,s8.2.1.2.2.1,s8.2.1.2.2.2.1++[(r10.1,r11.1,(m.2.2.2.1.getD s8.1.toNat zMt).2.2.1,r12.1,(m.2.2.2.1.getD s8.1.toNat zMt).2.2.2.2.1,(m.2.2.2.1.getD s8.1.toNat zMt).2.2.2.2.2.1,r13.1,())],s8.2.1.2.2.2.2),())
   else none
  else none
 else some (((idL s8.2.1.1),s8.2.1.2.1,s8.2.1.2.2.1,(idL s8.2.1.2.2.2.1),s8.2.1.2.2.2.2),())
def aCx (m:Im) (fuel:Nat) (s4:Int×(List Cl×List Tp×List Int×List Mt×List Int×Int×Int×Unit)×Unit) (rec5:(Int×(List Cl×List Tp×List Int×List Mt×List Int×Int×Int×Unit)×Unit)→Option (Im×Unit)):Option (Im×Unit):=
 bif decide (s4.1<(m.1.length:Int)) then
  bif decide (0≤s4.1)&&decide (s4.1<m.1.length) then
   (aDP (m.1.getD s4.1.toNat zCl).2.1).bind fun r6=>
   (aGe (m.1.getD s4.1.toNat zCl).2.2.1).bind fun r7=>
   bif decide (s4.2.1.1.length+[((m.1.getD s4.1.toNat zCl).1,r6.1,r7.1,())].length<rowMax) then
    rec5 (IntKind.i64.wrap (s4.1+1),(s4.2.1.1++[((m.1.getD s4.1.toNat zCl).1,r6.1,r7.1,())],s4.2.1.2),())
   else none
  else none
 else aA (aCQ m) fuel ((0:Int),s4.2.1,())
def aOo (fuel:Nat) (m:Im):Option (Im×Unit):=
 (aDP m.2.1).bind fun r1=>
 (aMX m.2.2.1).bind fun r2=>
 (aGe m.2.2.2.2.1).bind fun r3=>
 aA (aCx m fuel) fuel ((0:Int),((([]:List Cl),r1.1,r2.1,(([]:List Mt),r3.1,m.2.2.2.2.2)),()))
def aPu (t:Tp) (n:Int):Option (Bool×Unit):=
 (bif t.1==1 then
  some (.inl (true,()))
 else some (.inl (t.1==2,())):Option ((Bool×Unit)⊕(Bool×Unit))).bind fun q=>match q with
 | .inr r2=>some r2
 | .inl s1=>
  bif s1.1 then
   some (t.2.1==0,())
  else bif t.1==3 then
   bif decide (t.2.1≥0) then
    some (decide (t.2.1<n),())
   else some (false,())
  else some (false,())
def aMy (t:Tp):Option (Bool×Unit):=
 bif t.1==2 then
  some (true,())
 else bif t.1==3 then
  some (true,())
 else some (t.1==4,())
def aUX (l:List Cl) (c:Int):Option (Int×Unit):=
 bif decide (c<0) then
  some ((-1:Int),())
 else bif decide (c≥(l.length:Int)) then
  some ((-1:Int),())
 else bif decide (0≤c)&&decide (c<l.length) then
  bif decide ((l.getD c.toNat zCl).1≥c) then
   some ((-1:Int),())
  else bif decide (0≤c)&&decide (c<l.length) then
   some ((l.getD c.toNat zCl).1,())
  else none
 else none
def zU (l:List Cl) (b:Int) (s1:Int×Unit) (rec2:(Int×Unit)→Option (Bool×Unit)):Option (Bool×Unit):=
 bif decide (s1.1≥0) then
  bif s1.1==b then
   some (true,())
  else rec2 ((kup l s1.1),())
 else some (false,())
def aMH (fuel:Nat) (l:List Cl) (a:Int) (b:Int):Option (Bool×Unit):=
 bif decide (b<0) then
  some (false,())
 else bif decide (b≥(l.length:Int)) then
  some (false,())
 else bif decide (a≥(l.length:Int)) then
  some (false,())
 else aA (zU l b) fuel (a,())
def aSU (l:List Cl) (a:Tp) (b:Tp):Option (Bool×Unit):=
 bif a.1==4 then
  some ((gW b),())
 else bif a.1==3 then
  bif b.1==3 then
   some ((bZ l a.2.1 b.2.1),())
  else bif (a.1==b.1)&&((a.2.1==b.2.1)&&true) then
   bif a.1==1 then
    some (true,())
   else some (a.1==2,())
  else some (false,())
 else bif (a.1==b.1)&&((a.2.1==b.2.1)&&true) then
  bif a.1==1 then
   some (true,())
  else some (a.1==2,())
 else some (false,())
def pU (l:List Cl) (s1:Int×List Int×Unit) (rec2:(Int×List Int×Unit)→Option (List Int×Unit)):Option (List Int×Unit):=
 bif decide (s1.1≥0) then
  bif decide (s1.1<(l.length:Int)) then
   bif decide (s1.2.1.length+[s1.1].length<rowMax) then
    bif decide (0≤s1.1)&&decide (s1.1<l.length) then
     bif decide ((l.getD s1.1.toNat zCl).1≥s1.1) then
      rec2 ((-1:Int),s1.2.1++[s1.1],())
     else rec2 ((l.getD s1.1.toNat zCl).1,s1.2.1++[s1.1],())
    else none
   else none
  else some (s1.2.1,())
 else some (s1.2.1,())
def aMw (fuel:Nat) (l:List Cl) (c:Int):Option (List Int×Unit):=
 aA (pU l) fuel (c,(([]:List Int),()))
def aLH (t:Tp):Option (Bool×Unit):=
 bif t.1==2 then
  some (true,())
 else bif t.1==3 then
  some (true,())
 else some (t.1==4,())
def aPm (t:Tp) (n:Int):Option (Bool×Unit):=
 bif t.1==1 then
  bif t.2.1==0 then
   some (true,())
  else bif t.1==3 then
   bif decide (t.2.1≥0) then
    some (decide (t.2.1<n),())
   else some (false,())
  else some (false,())
 else bif t.1==2 then
  bif t.2.1==0 then
   some (true,())
  else bif t.1==3 then
   bif decide (t.2.1≥0) then
    some (decide (t.2.1<n),())
   else some (false,())
  else some (false,())
 else bif t.1==3 then
  bif decide (t.2.1≥0) then
   some (decide (t.2.1<n),())
  else some (false,())
 else some (false,())
def aSX (l:List Cl) (a:Tp) (b:Tp):Option (Bool×Unit):=
 bif a.1==4 then
  some ((vK b),())
 else bif a.1==3 then
  bif b.1==3 then
   (jC l a.2.1).bind fun r1=>
   (rin r1.1 b.2.1).bind fun r2=>
   some (r2.1,())
  else some (false,())
 else bif a.1==1 then
  some ((a.1==b.1)&&((a.2.1==b.2.1)&&true),())
 else bif a.1==2 then
  some ((a.1==b.1)&&((a.2.1==b.2.1)&&true),())
 else some (false,())
def aOA (a:List Tp) (b:List Tp):Prop:=(a.length≤lenMax∧∀x1:Tp,x1∈a→(True∧(True∧True)))∧(b.length≤lenMax∧∀x1:Tp,x1∈b→(True∧(True∧True)))∧True
def aQQ (a:List Tp) (b:List Tp) (s1:Int×Unit) (rec2:(Int×Unit)→Option (Bool×Unit)):Option (Bool×Unit):=
 bif decide (s1.1<(a.length:Int)) then
  bif decide (0≤s1.1)&&decide (s1.1<a.length) then
   bif decide (0≤s1.1)&&decide (s1.1<b.length) then
    bif !((((a.getD s1.1.toNat zTp).1)==((b.getD s1.1.toNat zTp).1))&&((((a.getD s1.1.toNat zTp).2.1)==((b.getD s1.1.toNat zTp).2.1))&&true)) then
     some (false,())
    else rec2 (IntKind.i64.wrap (s1.1+1),())
   else none
  else none
 else some (true,())
def aT9 (fuel:Nat) (a:List Tp) (b:List Tp):Option (Bool×Unit):=
 bif (a.length:Int) !=(b.length:Int) then
  some (false,())
 else aA (aQQ a b) fuel ((0:Int),())
def aSW (n:Int) (a:Int) (b:Int):Option (Bool×Unit):=
 bif decide (n≥a) then
  some (decide (n≤b),())
 else some (false,())
def aPB (l:List Int) (_c:Int) (_m:Int):Prop:=(l.length≤lenMax∧∀x1:Int,x1∈l→True)∧True∧True∧True
def aAM (l:List Int) (m:Int) (s1:Int×Unit) (rec2:(Int×Unit)→Option (Bool×Unit)):Option (Bool×Unit):=
 bif decide (s1.1<(l.length:Int)) then
  bif decide (0≤s1.1)&&decide (s1.1<l.length) then
   bif !(nD (l.getD s1.1.toNat 0) (0:Int) m) then
    some (false,())
   else rec2 (IntKind.i64.wrap (s1.1+1),())
  else none
 else some (true,())
def aMb (fuel:Nat) (l:List Int) (c:Int) (m:Int):Option (Bool×Unit):=
 bif decide ((l.length:Int)>c) then
  some (false,())
 else aA (aAM l m) fuel ((0:Int),())
def aOu (t:Tp):Option (Bool×Unit):=
 bif (nD t.1 (0:Int) (5:Int)) then
  bif t.2.1==0 then
   some (true,())
  else bif t.1==3 then
   some ((nD t.2.1 (0:Int) (7:Int)),())
  else some (false,())
 else some (false,())
def aNs (l:List Tp) (_c:Int):Prop:=(l.length≤lenMax∧∀x1:Tp,x1∈l→(True∧(True∧True)))∧True∧True
def wX (l:List Tp) (s1:Int×Unit) (rec2:(Int×Unit)→Option (Bool×Unit)):Option (Bool×Unit):=
 bif decide (s1.1<(l.length:Int)) then
  bif decide (0≤s1.1)&&decide (s1.1<l.length) then
   bif !(wV (l.getD s1.1.toNat zTp)) then
    some (false,())
   else rec2 (IntKind.i64.wrap (s1.1+1),())
  else none
 else some (true,())
def aI0 (fuel:Nat) (l:List Tp) (c:Int):Option (Bool×Unit):=
 bif decide ((l.length:Int)>c) then
  some (false,())
 else aA (wX l) fuel ((0:Int),())
def aOk (m:Im):Prop:=((m.1.length≤lenMax∧∀x1:Cl,x1∈m.1→(True∧((x1.2.1.length≤lenMax∧∀x2:Tp,x2∈x1.2.1→(True∧(True∧True)))∧((x1.2.2.1.length≤lenMax∧∀x2:Int,x2∈x1.2.2.1→True)∧True))))∧((m.2.1.length≤lenMax∧∀x1:Tp,x1∈m.2.1→(True∧(True∧True)))∧((m.2.2.1.length≤lenMax∧∀x1:Int,x1∈m.2.2.1→True)∧((m.2.2.2.1.length≤lenMax∧∀x1:Mt,x1∈m.2.2.2.1→((x1.1.length≤lenMax∧∀x2:Tp,x2∈x1.1→(True∧(True∧True)))∧((x1.2.1.length≤lenMax∧∀x2:Tp,x2∈x1.2.1→(True∧(True∧True)))∧((True∧(True∧True))∧((x1.2.2.2.1.length≤lenMax∧∀x2:Ins,x2∈x1.2.2.2.1→(True∧(True∧(True∧True))))∧(True∧(True∧((x1.2.2.2.2.2.2.1.length≤lenMax∧∀x2:Int,x2∈x1.2.2.2.2.2.2.1→True)∧True))))))))∧((m.2.2.2.2.1.length≤lenMax∧∀x1:Int,x1∈m.2.2.2.2.1→True)∧(True∧(True∧True)))))))∧True
def zZ (m:Im) (s3:Int×Unit) (rec4:(Int×Unit)→Option (Bool×Unit)) (s5:Int×Unit) (rec6:(Int×Unit)→Option (Bool×Unit)):Option (Bool×Unit):=
 bif decide (s5.1<((m.2.2.2.1.getD s3.1.toNat zMt).2.2.2.1.length:Int)) then
  bif decide (0≤s5.1)&&decide (s5.1<(m.2.2.2.1.getD s3.1.toNat zMt).2.2.2.1.length) then
   bif !(aCf ((m.2.2.2.1.getD s3.1.toNat zMt).2.2.2.1.getD s5.1.toNat dN)) then
    some (false,())
   else rec6 (IntKind.i64.wrap (s5.1+1),())
  else none
 else rec4 (IntKind.i64.wrap (s3.1+1),())
def zL (m:Im) (fuel:Nat) (s3:Int×Unit) (rec4:(Int×Unit)→Option (Bool×Unit)):Option (Bool×Unit):=
 bif decide (s3.1<(m.2.2.2.1.length:Int)) then
  bif decide (0≤s3.1)&&decide (s3.1<m.2.2.2.1.length) then
   bif !(kA (m.2.2.2.1.getD s3.1.toNat zMt).1 (4:Int)) then
    some (false,())
   else bif !(kA (m.2.2.2.1.getD s3.1.toNat zMt).2.1 (8:Int)) then
    some (false,())
   else bif !(wV (m.2.2.2.1.getD s3.1.toNat zMt).2.2.1) then
    some (false,())
   else bif decide (((m.2.2.2.1.getD s3.1.toNat zMt).2.2.2.1.length:Int)>64) then
    some (false,())
   else bif !(nD (m.2.2.2.1.getD s3.1.toNat zMt).2.2.2.2.1 (0:Int) (8:Int)) then
    some (false,())
   else bif !(nD (m.2.2.2.1.getD s3.1.toNat zMt).2.2.2.2.2.1 (0:Int) (4096:Int)) then
    some (false,())
   else bif !(pG (m.2.2.2.1.getD s3.1.toNat zMt).2.2.2.2.2.2.1 (64:Int) (4096:Int)) then
    some (false,())
   else aA (zZ m s3 rec4) fuel ((0:Int),())
  else none
 else some (true,())
def zF (m:Im) (fuel:Nat) (s1:Int×Unit) (rec2:(Int×Unit)→Option (Bool×Unit)):Option (Bool×Unit):=
 bif decide (s1.1<(m.1.length:Int)) then
  bif decide (0≤s1.1)&&decide (s1.1<m.1.length) then
   bif !(nD (m.1.getD s1.1.toNat zCl).1 (-1:Int) (7:Int)) then
    some (false,())
   else bif !(kA (m.1.getD s1.1.toNat zCl).2.1 (8:Int)) then
    some (false,())
   else bif !(pG (m.1.getD s1.1.toNat zCl).2.2.1 (4:Int) (11:Int)) then
    some (false,())
   else rec2 (IntKind.i64.wrap (s1.1+1),())
  else none
 else aA (zL m fuel) fuel ((0:Int),())
def aLG (fuel:Nat) (m:Im):Option (Bool×Unit):=
 bif decide ((m.1.length:Int)>8) then
  some (false,())
 else bif decide ((m.2.2.1.length:Int)>16) then
  some (false,())
 else bif decide ((m.2.2.2.1.length:Int)>12) then
  some (false,())
 else bif !(kA m.2.1 (8:Int)) then
  some (false,())
 else bif !(pG m.2.2.2.2.1 (12:Int) (11:Int)) then
  some (false,())
 else bif !(nD m.2.2.2.2.2.1 (0:Int) (4096:Int)) then
  some (false,())
 else bif !(nD m.2.2.2.2.2.2.1 (0:Int) (4096:Int)) then
  some (false,())
 else aA (zF m fuel) fuel ((0:Int),())
def sO (m:Im) (r1:List Int×Unit) (s2:List Tp×Int×Unit) (rec3:(List Tp×Int×Unit)→Option (List Tp×Unit)):Option (List Tp×Unit):=
 bif decide (s2.2.1≥0) then
  bif decide (0≤s2.2.1)&&decide (s2.2.1<r1.1.length) then
   bif decide (0≤r1.1.getD s2.2.1.toNat 0)&&decide (r1.1.getD s2.2.1.toNat 0<m.1.length) then
    bif decide (s2.1.length+(m.1.getD (r1.1.getD s2.2.1.toNat 0).toNat zCl).2.1.length<rowMax) then
     rec3 (s2.1++((m.1.getD (r1.1.getD s2.2.1.toNat 0).toNat zCl).2.1),IntKind.i64.wrap (s2.2.1 - 1),())
    else none
   else none
  else none
 else some (s2.1,())
def aHm (fuel:Nat) (m:Im) (c:Int):Option (List Tp×Unit):=
 (jC m.1 c).bind fun r1=>
 aA (sO m r1) fuel (([]:List Tp),(IntKind.i64.wrap ((r1.1.length:Int) - 1),()))
def aQI (m:Im) (l:List Tp):Prop:=((m.1.length≤lenMax∧∀x1:Cl,x1∈m.1→(True∧((x1.2.1.length≤lenMax∧∀x2:Tp,x2∈x1.2.1→(True∧(True∧True)))∧((x1.2.2.1.length≤lenMax∧∀x2:Int,x2∈x1.2.2.1→True)∧True))))∧((m.2.1.length≤lenMax∧∀x1:Tp,x1∈m.2.1→(True∧(True∧True)))∧((m.2.2.1.length≤lenMax∧∀x1:Int,x1∈m.2.2.1→True)∧((m.2.2.2.1.length≤lenMax∧∀x1:Mt,x1∈m.2.2.2.1→((x1.1.length≤lenMax∧∀x2:Tp,x2∈x1.1→(True∧(True∧True)))∧((x1.2.1.length≤lenMax∧∀x2:Tp,x2∈x1.2.1→(True∧(True∧True)))∧((True∧(True∧True))∧((x1.2.2.2.1.length≤lenMax∧∀x2:Ins,x2∈x1.2.2.2.1→(True∧(True∧(True∧True))))∧(True∧(True∧((x1.2.2.2.2.2.2.1.length≤lenMax∧∀x2:Int,x2∈x1.2.2.2.2.2.2.1→True)∧True))))))))∧((m.2.2.2.2.1.length≤lenMax∧∀x1:Int,x1∈m.2.2.2.2.1→True)∧(True∧(True∧True)))))))∧(l.length≤lenMax∧∀x1:Tp,x1∈l→(True∧(True∧True)))∧True
def aAZ (m:Im) (l:List Tp) (s1:Int×Unit) (rec2:(Int×Unit)→Option (Bool×Unit)):Option (Bool×Unit):=
 bif decide (s1.1<(l.length:Int)) then
  bif decide (0≤s1.1)&&decide (s1.1<l.length) then
   bif !(aAL (l.getD s1.1.toNat zTp) (m.1.length:Int)) then
    some (false,())
   else rec2 (IntKind.i64.wrap (s1.1+1),())
  else none
 else some (true,())
def aL3 (fuel:Nat) (m:Im) (l:List Tp):Option (Bool×Unit):=
 aA (aAZ m l) fuel ((0:Int),())
def wL (m:Im) (c:Int) (s2:List Int×Unit) (s4:Int×Unit) (rec5:(Int×Unit)→Option (Bool×Unit)):Option (Bool×Unit):=
 bif decide (s4.1<((m.1.getD c.toNat zCl).2.2.1.length:Int)) then
  (bif decide (0≤s4.1)&&decide (s4.1<(m.1.getD c.toNat zCl).2.2.1.length) then
   bif decide ((m.1.getD c.toNat zCl).2.2.1.getD s4.1.toNat 0≥(m.2.2.2.1.length:Int)) then
    some (.inr (false,()))
   else bif decide (0≤s4.1)&&decide (s4.1<(m.1.getD c.toNat zCl).2.2.1.length) then
    bif decide (0≤(m.1.getD c.toNat zCl).2.2.1.getD s4.1.toNat 0)&&decide ((m.1.getD c.toNat zCl).2.2.1.getD s4.1.toNat 0<m.2.2.2.1.length) then
     bif ((m.2.2.2.1.getD ((m.1.getD c.toNat zCl).2.2.1.getD s4.1.toNat 0).toNat zMt).1.length:Int)==0 then
      some (.inr (false,()))
     else bif decide ((0:Int)<(m.2.2.2.1.getD ((m.1.getD c.toNat zCl).2.2.1.getD s4.1.toNat 0).toNat zMt).1.length) then
      (uB m.1 ((3:Int),c,()) ((m.2.2.2.1.getD ((m.1.getD c.toNat zCl).2.2.1.getD s4.1.toNat 0).toNat zMt).1.getD 0 zTp)).bind fun r8=>
      bif !r8.1 then
       some (.inr (false,()))
      else bif decide (s4.1<(s2.1.length:Int)) then
       bif decide (0≤s4.1)&&decide (s4.1<s2.1.length) then
        bif decide (0≤s2.1.getD s4.1.toNat 0)&&decide (s2.1.getD s4.1.toNat 0<m.2.2.2.1.length) then
         bif decide ((1:Int)≤((m.2.2.2.1.getD ((m.1.getD c.toNat zCl).2.2.1.getD s4.1.toNat 0).toNat zMt).1.length:Int))&&decide (((m.2.2.2.1.getD ((m.1.getD c.toNat zCl).2.2.1.getD s4.1.toNat 0).toNat zMt).1.length:Int)≤((m.2.2.2.1.getD ((m.1.getD c.toNat zCl).2.2.1.getD s4.1.toNat 0).toNat zMt).1.length:Int)) then
          bif decide ((1:Int)≤((m.2.2.2.1.getD (s2.1.getD s4.1.toNat 0).toNat zMt).1.length:Int))&&decide (((m.2.2.2.1.getD (s2.1.getD s4.1.toNat 0).toNat zMt).1.length:Int)≤((m.2.2.2.1.getD (s2.1.getD s4.1.toNat 0).toNat zMt).1.length:Int)) then
           bif !(yY (((m.2.2.2.1.getD ((m.1.getD c.toNat zCl).2.2.1.getD s4.1.toNat 0).toNat zMt).1.take ((m.2.2.2.1.getD ((m.1.getD c.toNat zCl).2.2.1.getD s4.1.toNat 0).toNat zMt).1.length:Int).toNat).drop 1) (((m.2.2.2.1.getD (s2.1.getD s4.1.toNat 0).toNat zMt).1.take ((m.2.2.2.1.getD (s2.1.getD s4.1.toNat 0).toNat zMt).1.length:Int).toNat).drop 1)) then
            some (.inr (false,()))
           else bif !((((m.2.2.2.1.getD ((m.1.getD c.toNat zCl).2.2.1.getD s4.1.toNat 0).toNat zMt).2.2.1.1)==((m.2.2.2.1.getD (s2.1.getD s4.1.toNat 0).toNat zMt).2.2.1.1))&&((((m.2.2.2.1.getD ((m.1.getD c.toNat zCl).2.2.1.getD s4.1.toNat 0).toNat zMt).2.2.1.2.1)==((m.2.2.2.1.getD (s2.1.getD s4.1.toNat 0).toNat zMt).2.2.1.2.1))&&true)) then
            some (.inr (false,()))
           else some (.inl ())
          else none
         else none
        else none
       else none
      else some (.inl ())
     else none
    else none
   else none
  else none:Option (Unit⊕(Bool×Unit))).bind fun q=>match q with
  | .inr r7=>some r7
  | .inl _=>
   rec5 (IntKind.i64.wrap (s4.1+1),())
 else some (true,())
def aJf (fuel:Nat) (m:Im) (c:Int):Option (Bool×Unit):=
 bif decide (0≤c)&&decide (c<m.1.length) then
  bif decide ((m.1.getD c.toNat zCl).1≥c) then
   some (false,())
  else bif !(nP m (m.1.getD c.toNat zCl).2.1) then
   some (false,())
  else
   (eU m c).bind fun r1=>
   bif decide ((r1.1.length:Int)>8) then
    some (false,())
   else
    (bif decide ((m.1.getD c.toNat zCl).1≥0) then
     bif decide (0≤(m.1.getD c.toNat zCl).1)&&decide ((m.1.getD c.toNat zCl).1<m.1.length) then
      some (.inl ((m.1.getD (m.1.getD c.toNat zCl).1.toNat zCl).2.2.1,()))
     else none
    else some (.inl (([]:List Int),())):Option ((List Int×Unit)⊕(Bool×Unit))).bind fun q=>match q with
    | .inr r3=>some r3
    | .inl s2=>
     bif decide (((m.1.getD c.toNat zCl).2.2.1.length:Int)<(s2.1.length:Int)) then
      some (false,())
     else aA (wL m c s2) fuel ((0:Int),())
 else none
def aIn (m:Im) (x:Mt) (i:Ins):Option (Bool×Unit):=
 bif i.1==1 then
  some (decide (i.2.1<(m.2.2.1.length:Int)),())
 else
  (bif i.1==3 then
   some (.inl (true,()))
  else some (.inl (i.1==4,())):Option ((Bool×Unit)⊕(Bool×Unit))).bind fun q=>match q with
  | .inr r2=>some r2
  | .inl s1=>
   bif s1.1 then
    some (decide (i.2.1<IntKind.i64.wrap ((x.1.length:Int)+(x.2.1.length:Int))),())
   else
    (bif i.1==18 then
     some (.inl (true,()))
    else some (.inl (i.1==19,())):Option ((Bool×Unit)⊕(Bool×Unit))).bind fun q=>match q with
    | .inr r4=>some r4
    | .inl s3=>
     bif s3.1 then
      some (decide (i.2.1<(x.2.2.2.1.length:Int)),())
     else
      (bif i.1==22 then
       some (.inl (true,()))
      else some (.inl (i.1==34,())):Option ((Bool×Unit)⊕(Bool×Unit))).bind fun q=>match q with
      | .inr r6=>some r6
      | .inl s5=>
       bif s5.1 then
        some (decide (i.2.1<(m.1.length:Int)),())
       else
        (bif i.1==27 then
         some (.inl (true,()))
        else some (.inl (i.1==28,())):Option ((Bool×Unit)⊕(Bool×Unit))).bind fun q=>match q with
        | .inr r8=>some r8
        | .inl s7=>
         bif s7.1 then
          bif decide (i.2.1<(m.1.length:Int)) then
           (eU m i.2.1).bind fun r9=>
           some (decide (i.2.2.1<(r9.1.length:Int)),())
          else some (false,())
         else
          (bif i.1==29 then
           some (.inl (true,()))
          else some (.inl (i.1==30,())):Option ((Bool×Unit)⊕(Bool×Unit))).bind fun q=>match q with
          | .inr r11=>some r11
          | .inl s10=>
           bif s10.1 then
            some (decide (i.2.1<(m.2.1.length:Int)),())
           else bif i.1==31 then
            some (decide (i.2.1<(m.2.2.2.1.length:Int)),())
           else bif i.1==32 then
            bif decide (i.2.1<(m.1.length:Int)) then
             bif decide (0≤i.2.1)&&decide (i.2.1<m.1.length) then
              some (decide (i.2.2.1<((m.1.getD i.2.1.toNat zCl).2.2.1.length:Int)),())
             else none
            else some (false,())
           else some (true,())
def sZ (m:Im) (x:Mt) (s3:Int×Unit) (rec4:(Int×Unit)→Option (Bool×Unit)):Option (Bool×Unit):=
 bif decide (s3.1<(x.2.2.2.1.length:Int)) then
  bif decide (0≤s3.1)&&decide (s3.1<x.2.2.2.1.length) then
   (tZ m x (x.2.2.2.1.getD s3.1.toNat dN)).bind fun r5=>
   bif !r5.1 then
    some (false,())
   else rec4 (IntKind.i64.wrap (s3.1+1),())
  else none
 else some (true,())
def aG1 (fuel:Nat) (m:Im) (x:Mt):Option (Bool×Unit):=
 (bif !(nP m x.1) then
  some (.inr (false,()))
 else bif !(nP m x.2.1) then
  some (.inr (false,()))
 else bif !((x.2.2.1.1==5)&&((x.2.2.1.2.1==0)&&true)) then
  bif !(aAL x.2.2.1 (m.1.length:Int)) then
   some (.inr (false,()))
  else bif (x.2.2.2.1.length:Int)==0 then
   some (.inr (false,()))
  else bif (x.2.2.2.2.2.2.1.length:Int) !=(x.2.2.2.1.length:Int) then
   some (.inr (false,()))
  else bif decide (IntKind.i64.wrap ((x.1.length:Int)+(x.2.1.length:Int))>8) then
   some (.inr (false,()))
  else some (.inl ())
 else bif (x.2.2.2.1.length:Int)==0 then
  some (.inr (false,()))
 else bif (x.2.2.2.2.2.2.1.length:Int) !=(x.2.2.2.1.length:Int) then
  some (.inr (false,()))
 else bif decide (IntKind.i64.wrap ((x.1.length:Int)+(x.2.1.length:Int))>8) then
  some (.inr (false,()))
 else some (.inl ()):Option (Unit⊕(Bool×Unit))).bind fun q=>match q with
 | .inr r2=>some r2
 | .inl _=>
  aA (sZ m x) fuel ((0:Int),())
def aPS (m:Im):Prop:=((m.1.length≤lenMax∧∀x1:Cl,x1∈m.1→(True∧((x1.2.1.length≤lenMax∧∀x2:Tp,x2∈x1.2.1→(True∧(True∧True)))∧((x1.2.2.1.length≤lenMax∧∀x2:Int,x2∈x1.2.2.1→True)∧True))))∧((m.2.1.length≤lenMax∧∀x1:Tp,x1∈m.2.1→(True∧(True∧True)))∧((m.2.2.1.length≤lenMax∧∀x1:Int,x1∈m.2.2.1→True)∧((m.2.2.2.1.length≤lenMax∧∀x1:Mt,x1∈m.2.2.2.1→((x1.1.length≤lenMax∧∀x2:Tp,x2∈x1.1→(True∧(True∧True)))∧((x1.2.1.length≤lenMax∧∀x2:Tp,x2∈x1.2.1→(True∧(True∧True)))∧((True∧(True∧True))∧((x1.2.2.2.1.length≤lenMax∧∀x2:Ins,x2∈x1.2.2.2.1→(True∧(True∧(True∧True))))∧(True∧(True∧((x1.2.2.2.2.2.2.1.length≤lenMax∧∀x2:Int,x2∈x1.2.2.2.2.2.2.1→True)∧True))))))))∧((m.2.2.2.2.1.length≤lenMax∧∀x1:Int,x1∈m.2.2.2.2.1→True)∧(True∧(True∧True)))))))∧True
def pT (m:Im) (s3:Bool×Int×Unit) (rec4:(Bool×Int×Unit)→Option ((Bool×Unit)⊕(Int×Unit))):Option ((Bool×Unit)⊕(Int×Unit)):=
 bif decide (s3.2.1<(m.1.length:Int)) then
  bif s3.1 then
   (tL m s3.2.1).bind fun r5=>
   rec4 (r5.1,IntKind.i64.wrap (s3.2.1+1),())
  else some (.inl (s3.1,()))
 else some (.inl (s3.1,()))
def oF (m:Im) (s8:Bool×Int×Unit) (rec9:(Bool×Int×Unit)→Option ((Bool×Unit)⊕(Int×Unit))):Option ((Bool×Unit)⊕(Int×Unit)):=
 bif decide (s8.2.1<(m.2.2.2.1.length:Int)) then
  bif s8.1 then
   bif decide (0≤s8.2.1)&&decide (s8.2.1<m.2.2.2.1.length) then
    (qK m (m.2.2.2.1.getD s8.2.1.toNat zMt)).bind fun r10=>
    rec9 (r10.1,IntKind.i64.wrap (s8.2.1+1),())
   else none
  else some (.inl (s8.1,()))
 else some (.inl (s8.1,()))
def vD (m:Im) (s11:Bool×Int×Unit) (rec12:(Bool×Int×Unit)→Option (Int×Unit)) (s15:Bool×Int×Unit) (rec16:(Bool×Int×Unit)→Option (Int×Unit)):Option (Int×Unit):=
 bif decide (0≤m.2.2.2.2.1.getD s11.2.1.toNat 0)&&decide (m.2.2.2.2.1.getD s11.2.1.toNat 0<m.2.2.2.1.length) then
  bif decide (s15.2.1<((m.2.2.2.1.getD (m.2.2.2.2.1.getD s11.2.1.toNat 0).toNat zMt).1.length:Int)) then
   bif s15.1 then
    bif decide (0≤m.2.2.2.2.1.getD s11.2.1.toNat 0)&&decide (m.2.2.2.2.1.getD s11.2.1.toNat 0<m.2.2.2.1.length) then
     bif decide (0≤s15.2.1)&&decide (s15.2.1<(m.2.2.2.1.getD (m.2.2.2.2.1.getD s11.2.1.toNat 0).toNat zMt).1.length) then
      rec16 ((((m.2.2.2.1.getD (m.2.2.2.2.1.getD s11.2.1.toNat 0).toNat zMt).1.getD s15.2.1.toNat zTp).1)==1,IntKind.i64.wrap (s15.2.1+1),())
     else none
    else none
   else rec12 (s15.1,IntKind.i64.wrap (s11.2.1+1),())
  else rec12 (s15.1,IntKind.i64.wrap (s11.2.1+1),())
 else none
def qM (m:Im) (fuel:Nat) (s11:Bool×Int×Unit) (rec12:(Bool×Int×Unit)→Option (Int×Unit)):Option (Int×Unit):=
 bif decide (s11.2.1<(m.2.2.2.2.1.length:Int)) then
  bif s11.1 then
   bif decide (0≤s11.2.1)&&decide (s11.2.1<m.2.2.2.2.1.length) then
    bif decide (m.2.2.2.2.1.getD s11.2.1.toNat 0≥(m.2.2.2.1.length:Int)) then
     some ((3:Int),())
    else
     (bif decide (0≤m.2.2.2.2.1.getD s11.2.1.toNat 0)&&decide (m.2.2.2.2.1.getD s11.2.1.toNat 0<m.2.2.2.1.length) then
      bif ((m.2.2.2.1.getD (m.2.2.2.2.1.getD s11.2.1.toNat 0).toNat zMt).2.2.1.1)==1 then
       some (.inl (true,()))
      else bif decide (0≤m.2.2.2.2.1.getD s11.2.1.toNat 0)&&decide (m.2.2.2.2.1.getD s11.2.1.toNat 0<m.2.2.2.1.length) then
       some (.inl (((m.2.2.2.1.getD (m.2.2.2.2.1.getD s11.2.1.toNat 0).toNat zMt).2.2.1.1)==5,()))
      else none
     else none:Option ((Bool×Unit)⊕(Int×Unit))).bind fun q=>match q with
     | .inr r14=>some r14
     | .inl s13=>
      aA (vD m s11 rec12) fuel (s13.1,((0:Int),()))
   else none
  else bif !s11.1 then
   some ((3:Int),())
  else some ((0:Int),())
 else bif !s11.1 then
  some ((3:Int),())
 else some ((0:Int),())
def aLE (fuel:Nat) (m:Im):Option (Int×Unit):=
 bif !(rV m) then
  some ((2:Int),())
 else
  (aA (pT m) fuel ((nP m m.2.1),((0:Int),())):Option ((Bool×Unit)⊕(Int×Unit))).bind fun q=>match q with
  | .inr r2=>some r2
  | .inl s1=>
   (aA (oF m) fuel (s1.1,((0:Int),())):Option ((Bool×Unit)⊕(Int×Unit))).bind fun q=>match q with
   | .inr r7=>some r7
   | .inl s6=>
    aA (qM m fuel) fuel (s6.1,((0:Int),()))
def aUx (n:Int) (c:Int):Option (Bool×Unit):=
 bif decide (n≥0) then
  some (decide (n<c),())
 else some (false,())
def aUd (m:Im) (l:List (List Tp)):Prop:=((m.1.length≤lenMax∧∀x1:Cl,x1∈m.1→(True∧((x1.2.1.length≤lenMax∧∀x2:Tp,x2∈x1.2.1→(True∧(True∧True)))∧((x1.2.2.1.length≤lenMax∧∀x2:Int,x2∈x1.2.2.1→True)∧True))))∧((m.2.1.length≤lenMax∧∀x1:Tp,x1∈m.2.1→(True∧(True∧True)))∧((m.2.2.1.length≤lenMax∧∀x1:Int,x1∈m.2.2.1→True)∧((m.2.2.2.1.length≤lenMax∧∀x1:Mt,x1∈m.2.2.2.1→((x1.1.length≤lenMax∧∀x2:Tp,x2∈x1.1→(True∧(True∧True)))∧((x1.2.1.length≤lenMax∧∀x2:Tp,x2∈x1.2.1→(True∧(True∧True)))∧((True∧(True∧True))∧((x1.2.2.2.1.length≤lenMax∧∀x2:Ins,x2∈x1.2.2.2.1→(True∧(True∧(True∧True))))∧(True∧(True∧((x1.2.2.2.2.2.2.1.length≤lenMax∧∀x2:Int,x2∈x1.2.2.2.2.2.2.1→True)∧True))))))))∧((m.2.2.2.2.1.length≤lenMax∧∀x1:Int,x1∈m.2.2.2.2.1→True)∧(True∧(True∧True)))))))∧(l.length≤lenMax∧∀x1:List Tp,x1∈l→(x1.length≤lenMax∧∀x2:Tp,x2∈x1→(True∧(True∧True))))∧True
def aKl (m:Im) (l:List (List Tp)) (s1:Int×Unit) (rec2:(Int×Unit)→Option (Bool×Unit)) (s3:Int×Unit) (rec4:(Int×Unit)→Option (Bool×Unit)):Option (Bool×Unit):=
 bif decide (s3.1<((l.getD s1.1.toNat ([]:List Tp)).length:Int)) then
  bif decide (0≤s3.1)&&decide (s3.1<(l.getD s1.1.toNat ([]:List Tp)).length) then
   bif !(dY ((l.getD s1.1.toNat ([]:List Tp)).getD s3.1.toNat zTp) (m.1.length:Int)) then
    some (false,())
   else rec4 (IntKind.i64.wrap (s3.1+1),())
  else none
 else rec2 (IntKind.i64.wrap (s1.1+1),())
def aE6 (m:Im) (l:List (List Tp)) (fuel:Nat) (s1:Int×Unit) (rec2:(Int×Unit)→Option (Bool×Unit)):Option (Bool×Unit):=
 bif decide (s1.1<(l.length:Int)) then
  bif decide (0≤s1.1)&&decide (s1.1<l.length) then
   aA (aKl m l s1 rec2) fuel ((0:Int),())
  else none
 else some (true,())
def aST (fuel:Nat) (m:Im) (l:List (List Tp)):Option (Bool×Unit):=
 aA (aE6 m l fuel) fuel ((0:Int),())
def zO (m:Im) (s1:List Int×Unit) (s3:Int×Int×Unit) (rec4:(Int×Int×Unit)→Option (Int×List Int×Unit)):Option (Int×List Int×Unit):=
 bif decide (s3.2.1≥0) then
  bif decide (0≤s3.2.1)&&decide (s3.2.1<m.1.length) then
   bif decide (0≤s3.2.1)&&decide (s3.2.1<m.1.length) then
    rec4 (IntKind.i64.wrap (s3.1+((m.1.getD s3.2.1.toNat zCl).2.1.length:Int)),(m.1.getD s3.2.1.toNat zCl).1,())
   else none
  else none
 else some (s3.1,s1.1,())
def aMr (fuel:Nat) (m:Im) (c:Int):Option (Int×List Int×Unit):=
 (bif decide (0≤c)&&decide (c<m.1.length) then
  bif decide ((m.1.getD c.toNat zCl).1≥0) then
   bif decide (0≤(m.1.getD c.toNat zCl).1)&&decide ((m.1.getD c.toNat zCl).1<m.1.length) then
    some (.inl ((m.1.getD (m.1.getD c.toNat zCl).1.toNat zCl).2.2.1,()))
   else none
  else some (.inl (([]:List Int),()))
 else none:Option ((List Int×Unit)⊕(Int×List Int×Unit))).bind fun q=>match q with
 | .inr r2=>some r2
 | .inl s1=>
  bif decide (0≤c)&&decide (c<m.1.length) then
   aA (zO m s1) fuel ((0:Int),(m.1.getD c.toNat zCl).1,())
  else none
def aOl (m:Im) (c:Int) (f:Int):Option (Bool×Unit):=
 bif decide (0≤f)&&decide (f<m.2.2.2.1.length) then
  bif decide (((m.2.2.2.1.getD f.toNat zMt).1.length:Int)>0) then
   bif decide ((0:Int)<(m.2.2.2.1.getD f.toNat zMt).1.length) then
    some ((cP m.1 ((3:Int),c,()) ((m.2.2.2.1.getD f.toNat zMt).1.getD 0 zTp)),())
   else none
  else some (false,())
 else none
def aLL (a:Mt) (b:Mt):Option (Bool×Unit):=
 bif decide ((a.1.length:Int)>0) then
  bif decide ((b.1.length:Int)>0) then
   bif decide ((1:Int)≤(a.1.length:Int))&&decide ((a.1.length:Int)≤(a.1.length:Int)) then
    bif decide ((1:Int)≤(b.1.length:Int))&&decide ((b.1.length:Int)≤(b.1.length:Int)) then
     bif (eqL ((a.1.take a.1.length).drop 1) ((b.1.take b.1.length).drop 1)) then
      some ((a.2.2.1.1==b.2.2.1.1)&&((a.2.2.1.2.1==b.2.2.1.2.1)&&true),())
     else some (false,())
    else none
   else none
  else some (false,())
 else some (false,())
def aAp (m:Im) (c:Int) (r1:Int×List Int×Unit) (s2:Int×Unit) (rec3:(Int×Unit)→Option (Bool×Unit)):Option (Bool×Unit):=
 bif decide (s2.1<((m.1.getD c.toNat zCl).2.2.1.length:Int)) then
  bif decide (0≤s2.1)&&decide (s2.1<(m.1.getD c.toNat zCl).2.2.1.length) then
   bif !(sin ((m.1.getD c.toNat zCl).2.2.1.getD s2.1.toNat 0) (m.2.2.2.1.length:Int)) then
    some (false,())
   else
    (aCN m c ((m.1.getD c.toNat zCl).2.2.1.getD s2.1.toNat 0)).bind fun r4=>
    bif !r4.1 then
     some (false,())
    else bif decide (s2.1<(r1.2.1.length:Int)) then
     bif decide (0≤(m.1.getD c.toNat zCl).2.2.1.getD s2.1.toNat 0)&&decide ((m.1.getD c.toNat zCl).2.2.1.getD s2.1.toNat 0<m.2.2.2.1.length) then
      bif decide (0≤s2.1)&&decide (s2.1<r1.2.1.length) then
       bif decide (0≤r1.2.1.getD s2.1.toNat 0)&&decide (r1.2.1.getD s2.1.toNat 0<m.2.2.2.1.length) then
        bif !(aB2 (m.2.2.2.1.getD ((m.1.getD c.toNat zCl).2.2.1.getD s2.1.toNat 0).toNat zMt) (m.2.2.2.1.getD (r1.2.1.getD s2.1.toNat 0).toNat zMt)) then
         some (false,())
        else rec3 (IntKind.i64.wrap (s2.1+1),())
       else none
      else none
     else none
    else rec3 (IntKind.i64.wrap (s2.1+1),())
  else none
 else some (true,())
def aMJ (fuel:Nat) (m:Im) (c:Int):Option (Bool×Unit):=
 bif decide (0≤c)&&decide (c<m.1.length) then
  bif decide ((m.1.getD c.toNat zCl).1≥c) then
   some (false,())
  else bif !(oE m [(m.1.getD c.toNat zCl).2.1]) then
   some (false,())
  else
   (pN m c).bind fun r1=>
   bif decide (IntKind.i64.wrap (r1.1+((m.1.getD c.toNat zCl).2.1.length:Int))>8) then
    some (false,())
   else bif decide (((m.1.getD c.toNat zCl).2.2.1.length:Int)<(r1.2.1.length:Int)) then
    some (false,())
   else aA (aAp m c r1) fuel ((0:Int),())
 else none
def aJ0 (c:Int) (m:Im):Option (Int×Unit):=
 (pN m c).bind fun r1=>
 bif decide (0≤c)&&decide (c<m.1.length) then
  some (IntKind.i64.wrap (r1.1+((m.1.getD c.toNat zCl).2.1.length:Int)),())
 else none
def aMg (m:Im) (x:Mt) (i:Ins) (f:Im×Unit):Option (Bool×Unit):=
 bif i.1==1 then
  some ((sin i.2.1 (m.2.2.1.length:Int)),())
 else
  (bif i.1==3 then
   some (.inl (true,()))
  else some (.inl (i.1==4,())):Option ((Bool×Unit)⊕(Bool×Unit))).bind fun q=>match q with
  | .inr r2=>some r2
  | .inl s1=>
   bif s1.1 then
    some ((sin i.2.1 (IntKind.i64.wrap ((x.1.length:Int)+(x.2.1.length:Int)))),())
   else
    (bif i.1==18 then
     some (.inl (true,()))
    else some (.inl (i.1==19,())):Option ((Bool×Unit)⊕(Bool×Unit))).bind fun q=>match q with
    | .inr r4=>some r4
    | .inl s3=>
     bif s3.1 then
      some ((sin i.2.1 (x.2.2.2.1.length:Int)),())
     else
      (bif i.1==22 then
       some (.inl (true,()))
      else some (.inl (i.1==34,())):Option ((Bool×Unit)⊕(Bool×Unit))).bind fun q=>match q with
      | .inr r6=>some r6
      | .inl s5=>
       bif s5.1 then
        some ((sin i.2.1 (m.1.length:Int)),())
       else
        (bif i.1==27 then
         some (.inl (true,()))
        else some (.inl (i.1==28,())):Option ((Bool×Unit)⊕(Bool×Unit))).bind fun q=>match q with
        | .inr r8=>some r8
        | .inl s7=>
         bif s7.1 then
          bif (sin i.2.1 (m.1.length:Int)) then
           (qR i.2.1 f.1).bind fun r9=>
           some ((sin i.2.2.1 r9.1),())
          else some (false,())
         else
          (bif i.1==29 then
           some (.inl (true,()))
          else some (.inl (i.1==30,())):Option ((Bool×Unit)⊕(Bool×Unit))).bind fun q=>match q with
          | .inr r11=>some r11
          | .inl s10=>
           bif s10.1 then
            some ((sin i.2.1 (m.2.1.length:Int)),())
           else bif i.1==31 then
            some ((sin i.2.1 (m.2.2.2.1.length:Int)),())
           else bif i.1==32 then
            bif (sin i.2.1 (m.1.length:Int)) then
             bif decide (0≤i.2.1)&&decide (i.2.1<m.1.length) then
              some ((sin i.2.2.1 ((m.1.getD i.2.1.toNat zCl).2.2.1.length:Int)),())
             else none
            else some (false,())
           else some (true,())
def wJ (m:Im) (x:Mt) (s3:Int×Unit) (rec4:(Int×Unit)→Option (Bool×Unit)):Option (Bool×Unit):=
 bif decide (s3.1<(x.2.2.2.1.length:Int)) then
  bif decide (0≤s3.1)&&decide (s3.1<x.2.2.2.1.length) then
   (zD m x (x.2.2.2.1.getD s3.1.toNat dN) (m,())).bind fun r5=>
   bif !r5.1 then
    some (false,())
   else rec4 (IntKind.i64.wrap (s3.1+1),())
  else none
 else some (true,())
def aIA (fuel:Nat) (m:Im) (x:Mt):Option (Bool×Unit):=
 (bif !(oE m [x.1,x.2.1]) then
  some (.inr (false,()))
 else bif !((x.2.2.1.1==5)&&((x.2.2.1.2.1==0)&&true)) then
  bif !(oE m [[x.2.2.1]]) then
   some (.inr (false,()))
  else some (.inl ())
 else some (.inl ()):Option (Unit⊕(Bool×Unit))).bind fun q=>match q with
 | .inr r2=>some r2
 | .inl _=>
  bif (x.2.2.2.1.length:Int)==0 then
   some (false,())
  else bif (x.2.2.2.2.2.2.1.length:Int) !=(x.2.2.2.1.length:Int) then
   some (false,())
  else bif decide (IntKind.i64.wrap ((x.1.length:Int)+(x.2.1.length:Int))>8) then
   some (false,())
  else aA (wJ m x) fuel ((0:Int),())
def aID (t:Tp):Option (Bool×Unit):=
 some ((t.1==1)&&((t.2.1==0)&&true),())
def aRo (t:Tp) (_f:Unit):Option (Bool×Unit):=
 some (!(sentry1 t),())
def aMq (m:Im) (f:Int):Option (Bool×Unit):=
 bif !(sin f (m.2.2.2.1.length:Int)) then
  some (false,())
 else bif decide (0≤f)&&decide (f<m.2.2.2.1.length) then
  bif (sentry1 (m.2.2.2.1.getD f.toNat zMt).2.2.1) then
   some (!(iZ (m.2.2.2.1.getD f.toNat zMt).1 ((),())),())
  else bif ((m.2.2.2.1.getD f.toNat zMt).2.2.1.1)==5 then
   some (!(iZ (m.2.2.2.1.getD f.toNat zMt).1 ((),())),())
  else some (false,())
 else none
def aQN (m:Im):Prop:=((m.1.length≤lenMax∧∀x1:Cl,x1∈m.1→(True∧((x1.2.1.length≤lenMax∧∀x2:Tp,x2∈x1.2.1→(True∧(True∧True)))∧((x1.2.2.1.length≤lenMax∧∀x2:Int,x2∈x1.2.2.1→True)∧True))))∧((m.2.1.length≤lenMax∧∀x1:Tp,x1∈m.2.1→(True∧(True∧True)))∧((m.2.2.1.length≤lenMax∧∀x1:Int,x1∈m.2.2.1→True)∧((m.2.2.2.1.length≤lenMax∧∀x1:Mt,x1∈m.2.2.2.1→((x1.1.length≤lenMax∧∀x2:Tp,x2∈x1.1→(True∧(True∧True)))∧((x1.2.1.length≤lenMax∧∀x2:Tp,x2∈x1.2.1→(True∧(True∧True)))∧((True∧(True∧True))∧((x1.2.2.2.1.length≤lenMax∧∀x2:Ins,x2∈x1.2.2.2.1→(True∧(True∧(True∧True))))∧(True∧(True∧((x1.2.2.2.2.2.2.1.length≤lenMax∧∀x2:Int,x2∈x1.2.2.2.2.2.2.1→True)∧True))))))))∧((m.2.2.2.2.1.length≤lenMax∧∀x1:Int,x1∈m.2.2.2.2.1→True)∧(True∧(True∧True)))))))∧True
def aAj (m:Im) (s7:Int×Unit) (rec8:(Int×Unit)→Option (Int×Unit)):Option (Int×Unit):=
 bif decide (s7.1<(m.2.2.2.2.1.length:Int)) then
  bif decide (0≤s7.1)&&decide (s7.1<m.2.2.2.2.1.length) then
   (aFi m (m.2.2.2.2.1.getD s7.1.toNat 0)).bind fun r9=>
   bif !r9.1 then
    some ((3:Int),())
   else rec8 (IntKind.i64.wrap (s7.1+1),())
  else none
 else some ((0:Int),())
def vA (m:Im) (fuel:Nat) (s4:Int×Unit) (rec5:(Int×Unit)→Option (Int×Unit)):Option (Int×Unit):=
 bif decide (s4.1<(m.2.2.2.1.length:Int)) then
  bif decide (0≤s4.1)&&decide (s4.1<m.2.2.2.1.length) then
   (tW m (m.2.2.2.1.getD s4.1.toNat zMt)).bind fun r6=>
   bif !r6.1 then
    some ((3:Int),())
   else rec5 (IntKind.i64.wrap (s4.1+1),())
  else none
 else aA (aAj m) fuel ((0:Int),())
def lZ (m:Im) (fuel:Nat) (s1:Int×Unit) (rec2:(Int×Unit)→Option (Int×Unit)):Option (Int×Unit):=
 bif decide (s1.1<(m.1.length:Int)) then
  (rW m s1.1).bind fun r3=>
  bif !r3.1 then
   some ((3:Int),())
  else rec2 (IntKind.i64.wrap (s1.1+1),())
 else aA (vA m fuel) fuel ((0:Int),())
def aML (fuel:Nat) (m:Im):Option (Int×Unit):=
 bif !(bC m) then
  some ((2:Int),())
 else bif !(oE m [m.2.1]) then
  some ((3:Int),())
 else aA (lZ m fuel) fuel ((0:Int),())
end Go.Pli
