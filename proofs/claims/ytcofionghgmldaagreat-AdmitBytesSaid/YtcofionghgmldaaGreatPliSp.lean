/- What functions of the program come to, in plain Lean. -/
import Derived.Test.YtcofionghgmldaaGreatPMDefs
import Derived.Laws.BitsAllLaws
import Derived.Laws.Bits64
import Derived.Laws.BitsLemmas
namespace Go.Pli
open Go Go.PM
def eI:Nat→Nat→List Int
 | 0,v=>[(v:Int)]
 | k+1,v=>if v<128 then[(v:Int)] else ((128+v % 128:Nat):Int)::eI k (v/128)
def enc (v:Nat):List Int:=eI 10 v
def aFN (b:List Int):Bool:=Nat.blt (b.length+20) rowMax
def put (b:List Int) (n:Int):Option (List Int×Unit):=bif aFN b then some (b++enc (IntKind.u64.wrap (max n 0)).toNat,()) else none
def dN (n:Int):Option (List Int×Unit):=bif Nat.blt n.toNat 9223372036854775808 then some (enc n.toNat,()) else none
def kD:Nat→Nat→Nat→List Int→Option (Nat×Nat×Bool)
 | 0,_,_,_=>none
 | _+1,_,_,[]=>none
 | k+1,i,v,c::l=>if c<128 then some (v+128 ^ i*(c.toNat % 128),i+1,i==0 || decide (0<c)) else kD k (i+1) (v+128 ^ i*(c.toNat % 128)) l
def bC (l:List Int):Bool:=l.all fun c=>decide (0≤c)&&decide (c<256)
abbrev Rd:=List Int×Bool×Unit
def next (r:Rd):Option (Int×Bool×Rd×Unit):=
 bif bC (r.1.take 5) then (match kD 5 0 0 r.1 with
  | some (v,n,ok)=>some ((v:Int),ok,(r.1.drop n,r.2.1,()),())
  | none=>some (0,false,r,())) else none
def aFO (b:List Int):Option (Int×Int×Unit):=
 bif bC (b.take 5) then (match kD 5 0 0 b with
  | some (v,n,true)=>some ((v:Int),(n:Int),())
  | _=>some (0,0,())) else none
def rin (l:List Int) (x:Int):Option (Bool×Unit):=bif decide (l.length<9223372036854775807) then some (l.contains x,()) else none
def bD (o:Int):Int:=
 bif ([1,3,4,18,19,22,23,29,30,31,34]:List Int).contains o then 1
 else bif o==27 || (o==28 || o==32) then 2
 else bif decide (o<1) || decide (o>34) then -1 else 0
def mF (o:Int):Int:=bD o
abbrev Ins:=Int×Int×Int×Unit
def lA (n c a:Int):Bool:=bif decide (a≥c) then n==0 else decide (n≥0)&&decide (n≤255)
def dV (i:Ins):Bool:=decide (bD i.1≥0)&&(lA i.2.1 (bD i.1) 0&&lA i.2.2.1 (bD i.1) 1)
def aBb (i:Ins):Bool:=dV i
def aG5 (b:List Int) (i:Ins):Option (List Int×Unit):=
 (put b i.1).bind fun r=>bif decide (bD i.1<1) then some r else (put r.1 i.2.1).bind fun r=>bif decide (bD i.1<2) then some r else put r.1 i.2.2.1
end Go.Pli

namespace Go.Pli
open Go Go.PM
theorem bV {n:Int} (h0: -9223372036854775808≤n) (h1:n<9223372036854775808):IntKind.i64.wrap n=n:=by
 rw[IntKind.wrap_i64];omega
theorem aQ {k n:Nat} (h:k<n) (hn:n≤lenMax):IntKind.i64.wrap ((k:Int)+1)=((k+1:Nat):Int):=by
 simp only[lenMax] at hn;rw[bV] <;> omega
theorem dlt {k n:Nat} (h:k<n):decide ((k:Int)<(n:Int))=true:=aH (by omega)
theorem aU (n:Nat):decide ((n:Int)<(n:Int))=false:=aT (by omega)
theorem dge (k:Nat):decide (0≤(k:Int))=true:=aH (by omega)
theorem aYw (k:Nat):decide ((k:Int)≥0)=true:=aH (by omega)
theorem aZ {S R:Type} (L:S→(S→Option R)→Option R) (n:Nat) (s:S):aD L (n+1) s=L s (aD L n):=rfl
theorem gV {α σ R:Type} {L:σ→(σ→Option R)→Option R} {xs:List α} {st:Nat→σ} {p:α→Bool} {ex fin:Option R}
  (h1:∀(k:Nat) (x:α) (rec),xs[k]? =some x→k<xs.length→L (st k) rec=bif p x then rec (st (k+1)) else ex)
  (h2:∀rec,L (st xs.length) rec=fin):∀F:Nat,xs.length<F→aD L F (st 0)=bif xs.all p then fin else ex:=by
 have key:∀(l pre:List α) (F:Nat),xs=pre++l→l.length<F→aD L F (st pre.length)=bif l.all p then fin else ex:=by
  intro l
  induction l with
  | nil=>
   intro pre F hx hF;obtain⟨F,rfl⟩:∃n,F=n+1:=⟨F - 1,by simp at hF;omega⟩;rw[bZ] at hx;subst hx;rw[aZ,h2];rfl
  | cons x l ih=>
   intro pre F hx hF;obtain⟨F,rfl⟩:∃n,F=n+1:=⟨F - 1,by simp at hF;omega⟩;have hk:xs[pre.length]? =some x:=by rw[hx];simp
   have hl:pre.length<xs.length:=by rw[hx];simp
   rw[aZ,h1 pre.length x _ hk hl];have:=ih (pre++[x]) F (by rw[hx];simp) (by simp only[aJ] at hF;omega);simp only[aS,aJ,bJ,cG] at this;rw[this,fA];cases p x <;> rfl
 intro F hF;exact key xs [] F rfl hF
def lM {α:Type} (p:α→Bool):Nat→List α→Int
 | _,[]=> -1
 | k,x::l=>bif p x then (k:Int) else lM p (k+1) l
theorem sE {α:Type} (p:α→Bool):∀(l:List α) (k:Nat),decide (lM p k l≥0)=l.any p
 | [],_=>rfl
 | x::l,k=>by
  simp only[lM,List.any_cons];by_cases hp:p x=true
  ·simp[hp]
  ·have hp:p x=false:=by simpa using hp
   simpa[hp] using sE p l (k+1)
theorem uE {α σ:Type} {L:σ→(σ→Option (Int×Unit))→Option (Int×Unit)} {xs:List α} {st:Nat→σ} {p:α→Bool}
  (h1:∀(k:Nat) (x:α) (rec),xs[k]? =some x→k<xs.length→L (st k) rec=bif p x then some ((k:Int),()) else rec (st (k+1)))
  (h2:∀rec,L (st xs.length) rec=some (-1,())):∀F:Nat,xs.length<F→aD L F (st 0)=some (lM p 0 xs,()):=by
 have key:∀(l pre:List α) (F:Nat),xs=pre++l→l.length<F→aD L F (st pre.length)=some (lM p pre.length l,()):=by
  intro l
  induction l with
  | nil=>
   intro pre F hx hF;obtain⟨F,rfl⟩:∃n,F=n+1:=⟨F - 1,by simp at hF;omega⟩;rw[bZ] at hx;subst hx;rw[aZ,h2];rfl
  | cons x l ih=>
   intro pre F hx hF;obtain⟨F,rfl⟩:∃n,F=n+1:=⟨F - 1,by simp at hF;omega⟩;have hk:xs[pre.length]? =some x:=by rw[hx];simp
   have hl:pre.length<xs.length:=by rw[hx];simp
   rw[aZ,h1 pre.length x _ hk hl];have:=ih (pre++[x]) F (by rw[hx];simp) (by simp only[aJ] at hF;omega);simp only[aS,aJ,bJ,cG] at this;simp only[lM,this];cases p x <;> rfl
 intro F hF;exact key xs [] F rfl hF
theorem getD_some {α:Type} {xs:List α} {k:Nat} {x d:α} (h:xs[k]? =some x):xs.getD k d=x:=by simp[h]
theorem aPh {α:Type} [BEq α] [LawfulBEq α] (d:α):∀(a b:List α),a.length=b.length→(∀k,k<a.length→(a.getD k d==b.getD k d)=true)→a=b:=by
 intro a b hl h;apply tC hl;intro k h1 h2;have:=h k h1;simpa[h1,h2] using this
end Go.Pli

namespace Go.Pli
open Go Go.PM
def zK (b:List Int):List Int×Bool×Unit:=
 (b,false,())
def aBx (r:List Int×Bool×Unit) (s1:Int×Int×Unit) (rec2:(Int×Int×Unit)→Option (Int×Bool×(List Int×Bool×Unit)×Unit)):Option (Int×Bool×(List Int×Bool×Unit)×Unit):=
 bif decide (s1.2.1<(r.1.length:Int)) then
  bif decide (0≤s1.2.1)&&decide (s1.2.1<r.1.length) then
   bif s1.2.1==5 then
    some ((0:Int),false,r,())
   else bif !decide (IntKind.i64.wrap ((7:Int)*s1.2.1)<0) then
    bif decide (r.1.getD s1.2.1.toNat 0<128) then
     bif decide (0≤IntKind.i64.wrap (s1.2.1+1))&&decide (IntKind.i64.wrap (s1.2.1+1)≤(r.1.length:Int))&&decide ((r.1.length:Int)≤(r.1.length:Int)) then
      bif s1.2.1==0 then
       some (IntKind.u64.wrap ((BitVec.ofInt 64 s1.1 ||| BitVec.ofInt 64 (IntKind.u64.wrap ((IntKind.u64.wrap ((r.1.getD s1.2.1.toNat 0).tmod 128))*2 ^ (min (IntKind.i64.wrap ((7:Int)*s1.2.1)).toNat 64)))).toNat),true,((r.1.take r.1.length).drop (IntKind.i64.wrap (s1.2.1+1)).toNat,r.2),())
      else some (IntKind.u64.wrap ((BitVec.ofInt 64 s1.1 ||| BitVec.ofInt 64 (IntKind.u64.wrap ((IntKind.u64.wrap ((r.1.getD s1.2.1.toNat 0).tmod 128))*2 ^ (min (IntKind.i64.wrap ((7:Int)*s1.2.1)).toNat 64)))).toNat),decide (r.1.getD s1.2.1.toNat 0>0),((r.1.take r.1.length).drop (IntKind.i64.wrap (s1.2.1+1)).toNat,r.2),())
     else none
    else rec2 (IntKind.u64.wrap ((BitVec.ofInt 64 s1.1 ||| BitVec.ofInt 64 (IntKind.u64.wrap ((IntKind.u64.wrap ((r.1.getD s1.2.1.toNat 0).tmod 128))*2 ^ (min (IntKind.i64.wrap ((7:Int)*s1.2.1)).toNat 64)))).toNat),IntKind.i64.wrap (s1.2.1+1),())
   else none
  else none
 else some ((0:Int),false,r,())
def aLB (fuel:Nat) (r:List Int×Bool×Unit):Option (Int×Bool×(List Int×Bool×Unit)×Unit):=
 aD (aBx r) fuel ((0:Int),((0:Int),()))
def bS (r:List Int×Bool×Unit) (n:Int):Option (Int×(List Int×Bool×Unit)×Unit):=
 bif r.2.1 then
  some ((0:Int),r,())
 else
  (next r).bind fun r1=>
  bif !r1.2.1 then
   some ((0:Int),(r1.2.2.1.1,true,()),())
  else bif decide (n<0) then
   some ((0:Int),(r1.2.2.1.1,true,()),())
  else bif decide (r1.1>IntKind.u64.wrap n) then
   some ((0:Int),(r1.2.2.1.1,true,()),())
  else some (IntKind.i64.wrap r1.1,r1.2.2.1,())
def kQ (r:List Int×Bool×Unit):Option (Int×(List Int×Bool×Unit)×Unit):=
 (bS r (4294967295:Int)).bind fun r1=>
 some (IntKind.i32.wrap ((BitVec.ofInt 32 (IntKind.i32.wrap ((IntKind.u32.wrap r1.1).fdiv 2)) ^^^ BitVec.ofInt 32 (IntKind.i32.wrap (0 - (IntKind.i32.wrap (IntKind.u32.wrap ((BitVec.ofInt 32 (IntKind.u32.wrap r1.1)&&&BitVec.ofInt 32 1).toNat)))))).toNat),r1.2.1,())
def aAp (r:List Int×Bool×Unit):Option (Bool×(List Int×Bool×Unit)×Unit):=
 bif !r.2.1 then
  some ((r.1.length:Int)==0,r,())
 else some (false,r,())
def yN (s3:Int×List Int×Unit) (rec4:(Int×List Int×Unit)→Option (List Int×Unit)):Option (List Int×Unit):=
 bif decide (s3.1≥128) then
  bif decide (s3.2.1.length+[IntKind.u8.wrap (IntKind.i64.wrap ((128:Int)+(s3.1.tmod 128)))].length<rowMax) then
   rec4 (IntKind.i64.wrap (s3.1.tdiv 128),(s3.2.1++[IntKind.u8.wrap (IntKind.i64.wrap ((128:Int)+(s3.1.tmod 128)))],()))
  else none
 else bif decide (s3.2.1.length+[IntKind.u8.wrap s3.1].length<rowMax) then
  some (s3.2.1++[IntKind.u8.wrap s3.1],())
 else none
def aKk (fuel:Nat) (n:Int):Option (List Int×Unit):=
 (bif decide (n<0) then
  some (.inl ((0:Int),()))
 else some (.inl (n,())):Option ((Int×Unit)⊕(List Int×Unit))).bind fun q=>match q with
 | .inr r2=>some r2
 | .inl s1=>
  aD yN fuel (s1.1,(([]:List Int),()))
def yK (n:Int):Option (List Int×Unit):=
 bif decide (n<0) then
  (dN (IntKind.i64.wrap ((IntKind.i64.wrap ((-2:Int)*(IntKind.i64.wrap n))) - 1))).bind fun r1=>
  some (r1.1,())
 else
  (dN (IntKind.i64.wrap ((2:Int)*(IntKind.i64.wrap n)))).bind fun r2=>
  some (r2.1,())
def aCV (l:List Int) (x:Int) (s1:Int×Unit) (rec2:(Int×Unit)→Option (Bool×Unit)):Option (Bool×Unit):=
 bif decide (s1.1<(l.length:Int)) then
  bif decide (0≤s1.1)&&decide (s1.1<l.length) then
   bif (l.getD s1.1.toNat 0)==x then
    some (true,())
   else rec2 (IntKind.i64.wrap (s1.1+1),())
  else none
 else some (false,())
def aSx (fuel:Nat) (l:List Int) (x:Int):Option (Bool×Unit):=
 aD (aCV l x) fuel ((0:Int),())
def aKm (o:Int):Option (Int×Unit):=
 bif decide (o<1) then
  some ((-1:Int),())
 else bif decide (o>34) then
  some ((-1:Int),())
 else
  (rin ([1,3,4,18,19,22,23,29,30,31,34]:List Int) o).bind fun r1=>
  bif r1.1 then
   some ((1:Int),())
  else bif o==27 then
   some ((2:Int),())
  else bif o==28 then
   some ((2:Int),())
  else bif o==32 then
   some ((2:Int),())
  else some ((0:Int),())
def aMR (o:Int):Option (Int×Unit):=
 (bif o==1 then
  some (.inl (true,()))
 else bif o==3 then
  some (.inl (true,()))
 else bif o==4 then
  some (.inl (true,()))
 else bif o==18 then
  some (.inl (true,()))
 else bif o==19 then
  some (.inl (true,()))
 else bif o==22 then
  some (.inl (true,()))
 else bif o==23 then
  some (.inl (true,()))
 else bif o==29 then
  some (.inl (true,()))
 else bif o==30 then
  some (.inl (true,()))
 else bif o==31 then
  some (.inl (true,()))
 else some (.inl (o==34,())):Option ((Bool×Unit)⊕(Int×Unit))).bind fun q=>match q with
 | .inr r2=>some r2
 | .inl s1=>
  bif s1.1 then
   some ((1:Int),())
  else bif o==27 then
   some ((2:Int),())
  else bif o==28 then
   some ((2:Int),())
  else bif o==32 then
   some ((2:Int),())
  else bif decide (o<1) then
   some ((-1:Int),())
  else bif decide (o>34) then
   some ((-1:Int),())
  else some ((0:Int),())
def aIt (n:Int) (c:Int) (a:Int):Option (Bool×Unit):=
 bif decide (a≥c) then
  some (n==0,())
 else bif decide (n≥0) then
  some (decide (n≤255),())
 else some (false,())
def aMK (i:Int×Int×Int×Unit):Option (Bool×Unit):=
 bif decide ((bD i.1)≥0) then
  bif (lA i.2.1 (bD i.1) (0:Int)) then
   some ((lA i.2.2.1 (bD i.1) (1:Int)),())
  else some (false,())
 else some (false,())
def mN (r:List Int×Bool×Unit):Option ((Int×Int×Int×Unit)×(List Int×Bool×Unit)×Unit):=
 (bS r (34:Int)).bind fun r1=>
 bif decide ((bD r1.1)>0) then
  (bS r1.2.1 (255:Int)).bind fun r2=>
  bif decide ((bD r1.1)>1) then
   (bS r2.2.1 (255:Int)).bind fun r3=>
   some ((r1.1,r2.1,r3.1,()),r3.2.1,())
  else some ((r1.1,r2.1,((0:Int),())),r2.2.1,())
 else bif decide ((bD r1.1)>1) then
  (bS r1.2.1 (255:Int)).bind fun r4=>
  some ((r1.1,((0:Int),r4.1,())),r4.2.1,())
 else some ((r1.1,((0:Int),((0:Int),()))),r1.2.1,())
def aKb (i:Int×Int×Int×Unit):Option (Bool×Unit):=
 (bif decide ((mF i.1)<0) then
  some (.inr (false,()))
 else bif decide ((mF i.1)<1) then
  bif i.2.1 !=0 then
   some (.inr (false,()))
  else bif decide ((mF i.1)<2) then
   bif i.2.2.1 !=0 then
    some (.inr (false,()))
   else some (.inl ())
  else some (.inl ())
 else bif decide ((mF i.1)<2) then
  bif i.2.2.1 !=0 then
   some (.inr (false,()))
  else some (.inl ())
 else some (.inl ()):Option (Unit⊕(Bool×Unit))).bind fun q=>match q with
 | .inr r2=>some r2
 | .inl _=>
  bif decide (i.2.1≥0) then
   bif decide (i.2.1≤255) then
    bif decide (i.2.2.1≥0) then
     some (decide (i.2.2.1≤255),())
    else some (false,())
   else some (false,())
  else some (false,())
def aG9 (l:List (Int×Int×Int×Unit)) (s3:List Int×Int×Int×Unit) (rec4:(List Int×Int×Int×Unit)→Option ((List Int×Int×Unit)⊕(Bool×Unit))):Option ((List Int×Int×Unit)⊕(Bool×Unit)):=
 bif decide (s3.2.2.1<(l.length:Int)) then
  bif decide (s3.2.2.1<60) then
   bif decide (0≤s3.2.2.1)&&decide (s3.2.2.1<l.length) then
    bif (dV (l.getD s3.2.2.1.toNat ((0:Int),((0:Int),((0:Int),()))))) then
     bif decide (0≤s3.2.2.1)&&decide (s3.2.2.1<l.length) then
      (aG5 s3.1 (l.getD s3.2.2.1.toNat ((0:Int),((0:Int),((0:Int),()))))).bind fun r5=>
      rec4 (r5.1,IntKind.i64.wrap (s3.2.1+1),IntKind.i64.wrap (s3.2.2.1+1),())
     else none
    else rec4 (s3.1,s3.2.1,IntKind.i64.wrap (s3.2.2.1+1),())
   else none
  else some (.inl (s3.1,s3.2.1,()))
 else some (.inl (s3.1,s3.2.1,()))
end Go.Pli

namespace Go.Pli
open Go Go.PM
abbrev Tp:=Int×Int×Unit
abbrev Cl:=Int×List Tp×List Int×Unit
abbrev Mt:=List Tp×List Tp×Tp×List Ins×Int×Int×List Int×Unit
abbrev Im:=List Cl×List Tp×List Int×List Mt×List Int×Int×Int×Unit
abbrev zTp:Tp:=(0,0,())
abbrev cC:Ins:=(0,0,0,())
abbrev zCl:Cl:=(0,[],[],())
abbrev zMt:Mt:=([],[],zTp,[],0,0,[],())
abbrev zIm:Im:=([],[],[],[],[],0,0,())
def idL {α:Type} (s:List α):List α:=s
def eqL {α:Type} [BEq α] (a b:List α):Bool:=a==b
def cY (n m:Int):Bool:=decide (0≤n)&&decide (n≤m)
def ityp (t:Tp):Bool:=cY t.1 5&&(t.2.1==0 || (t.1==3&&cY t.2.1 7))
def aAa (t:Tp):Bool:= !ityp t
def dH (l:List Tp) (m:Int):Bool:=decide ((l.length:Int)≤m)&&l.all ityp
def wO (n m:Int):Bool:= !cY n m
def eG (l:List Int) (c m:Int):Bool:=decide ((l.length:Int)≤c)&&l.all fun n=>cY n m
def imethod (x:Mt):Bool:=
 dH x.1 4&&(dH x.2.1 8&&(ityp x.2.2.1&&(decide ((x.2.2.2.1.length:Int)≤64)&&(x.2.2.2.1.all dV&&(cY x.2.2.2.2.1 8&&(cY x.2.2.2.2.2.1 4096&&eG x.2.2.2.2.2.2.1 64 4096))))))
def iclass (x:Cl):Bool:=decide (-1≤x.1)&&(decide (x.1<8)&&(dH x.2.1 8&&eG x.2.2.1 4 11))
def aAg (x:Cl):Bool:= !iclass x
def aAf (x:Mt):Bool:= !imethod x
def bI (m:Im):Bool:=
 decide ((m.1.length:Int)≤8)&&(dH m.2.1 8&&(decide ((m.2.2.1.length:Int)≤16)&&(decide ((m.2.2.2.1.length:Int)≤12)&&(m.1.all iclass&&(m.2.2.2.1.all imethod&&
  (eG m.2.2.2.2.1 12 11&&(cY m.2.2.2.2.2.1 4096&&cY m.2.2.2.2.2.2.1 4096)))))))
def aD3 (l:List Cl) (_:Unit):Int:=lM aAg 0 l
def aDZ (l:List Mt) (_:Unit):Int:=lM aAf 0 l
def aDW (l:List Tp) (_:Unit):Int:=lM aAa 0 l
def aDX (l:List Int) (c:Int×Unit):Int:=lM (fun n=>wO n c.1) 0 l
def aB7 (l:List Cl) (_:Unit):Bool:=l.any aAg
def aB5 (l:List Mt) (_:Unit):Bool:=l.any aAf
def aB2 (l:List Tp) (_:Unit):Bool:=l.any aAa
def aB3 (l:List Int) (c:Int×Unit):Bool:=l.any fun n=>wO n c.1
def jS (n a b:Int):Bool:=decide (a≤n)&&decide (n≤b)
def rT (l:List Int) (c m:Int):Bool:=eG l c m
def tT (t:Tp):Bool:=ityp t
def oM (l:List Tp) (c:Int):Bool:=dH l c
def jT (m:Im):Bool:=bI m
def fE (t:Tp) (n:Int):Bool:=bif t.1==1 || t.1==2 then t.2.1==0 else t.1==3&&(decide (0≤t.2.1)&&decide (t.2.1<n))
def vV (t:Tp) (n:Int):Bool:=fE t n
def jY (t:Tp):Bool:=t.1==2 || (t.1==3 || t.1==4)
def vT (t:Tp):Bool:=jY t
def bX (l:List Cl) (c:Int):Int:=(l.getD c.toNat zCl).1
def kup (l:List Cl) (c:Int):Int:=bif decide (c<0) || (decide (c≥(l.length:Int)) || decide (bX l c≥c)) then -1 else bX l c
def uT (l:List Cl):Nat→Int→List Int
 | 0,_=>[]
 | n+1,c=>bif decide (c<0) then[] else c::uT l n (kup l c)
def cI (l:List Cl) (c:Int):List Int:=uT l (c.toNat+1) c
def dL (l:List Cl) (a b:Int):Bool:=decide (0≤b)&&(decide (b<(l.length:Int))&&(decide (a<(l.length:Int))&&(cI l a).contains b))
def cN (l:List Cl) (a b:Tp):Bool:=bif a.1==4 then jY b else bif a.1==3&&b.1==3 then dL l a.2.1 b.2.1 else a==b&&(a.1==1 || a.1==2)
def okL {α:Type} (l:List α):Bool:=Nat.blt l.length 1000000
def cP (l:List Cl) (c:Int):List Int:=bif decide (c<(l.length:Int)) then cI l c else[]
def lF (l:List Cl) (c:Int):Option (List Int×Unit):=bif okL l then some (cP l c,()) else none
def yJ (l:List Cl) (a b:Tp):Bool:=bif a.1==4 then jY b else bif a.1==3 then b.1==3&&(cP l a.2.1).contains b.2.1 else a==b&&(a.1==1 || a.1==2)
def oL (l:List Cl) (a b:Tp):Option (Bool×Unit):=bif okL l then some (yJ l a b,()) else none
def kN (a b:List Tp):Bool:=a==b
def tS (a b:List Int):Bool:=a==b
def pY (a b:Im):Bool:=a==b
def aBO (m:Im):Option (Im×Unit):=bif bI m then some (m,()) else none
def sin (n c:Int):Bool:=decide (0≤n)&&decide (n<c)
def eC (m:Im) (l:List Tp):Bool:=l.all fun t=>fE t (m.1.length:Int)
def pZ (m:Im) (l:List Tp):Bool:=eC m l
def kM (m:Im) (l:List (List Tp)):Bool:=l.all (eC m)
def bF (m:Im) (c:Int):Cl:=m.1.getD c.toNat zCl
def aE (m:Im) (f:Int):Mt:=m.2.2.2.1.getD f.toNat zMt
def bK:List Nat→Nat
 | []=>0
 | n::l=>n+bK l
def gZ (m:Im) (c:Int):Nat:=bK ((cI m.1 c).map fun s=>(bF m s).2.1.length)
def dU (m:Im) (c:Int):List Int:=bif decide (0≤bX m.1 c) then (bF m (bX m.1 c)).2.2.1 else[]
def aCi (a b:Mt):Bool:=decide (0<a.1.length)&&(decide (0<b.1.length)&&(a.1.drop 1==b.1.drop 1&&a.2.2.1==b.2.2.1))
def aA7 (a b:Mt):Bool:=aCi a b
def wT (m:Im) (c f:Int):Bool:=decide (0<(aE m f).1.length)&&cN m.1 (3,c,()) ((aE m f).1.getD 0 zTp)
def pR (m:Im) (c:Int) (n:Nat) (f:Int):Bool:=
 sin f (m.2.2.2.1.length:Int)&&(wT m c f&&(!decide (n<(dU m c).length) || aCi (aE m f) (aE m ((dU m c).getD n 0))))
def iW {α:Type} (p:Nat→α→Bool):Nat→List α→Bool
 | _,[]=>true
 | k,x::l=>p k x&&iW p (k+1) l
def eN (m:Im) (c:Int):Bool:=
 decide (bX m.1 c<c)&&(eC m (bF m c).2.1&&(decide (gZ m c≤8)&&(decide ((dU m c).length≤(bF m c).2.2.1.length)&&iW (pR m c) 0 (bF m c).2.2.1)))
def ahead (m:Im) (c:Int):Bool:=(List.range c.toNat).all fun k=>eN m (k:Int)
def jD (m:Im) (c:Int):Bool:=bI m&&(decide (0≤c)&&(decide (c<(m.1.length:Int))&&ahead m c))
def kG (m:Im):Bool:=(List.range m.1.length).all fun k=>eN m (k:Int)
def nB (m:Im) (c:Int):Nat:=bK ((cI m.1 (bX m.1 c)).map fun s=>(bF m s).2.1.length)
def rN (m:Im) (c:Int):Option (Int×List Int×Unit):=bif jD m c&&decide (bX m.1 c<c) then some ((nB m c:Int),dU m c,()) else none
def yF (m:Im) (c f:Int):Option (Bool×Unit):=bif sin f (m.2.2.2.1.length:Int) then some (wT m c f,()) else none
def tM (m:Im) (c:Int):Option (Bool×Unit):=bif jD m c then some (eN m c,()) else none
def kO (m:Im) (c:Int):Option (List Tp×Unit):=bif bI m then some ((((cP m.1 c).reverse).map fun s=>(bF m s).2.1).flatten,()) else none
def yZ (m:Im) (c:Int):Option (Bool×Unit):=bif jD m c then some (eN m c,()) else none
def vP (c:Int) (m:Im):Option (Int×Unit):=bif bI m&&(kG m&&sin c (m.1.length:Int)) then some ((gZ m c:Int),()) else none
def cL (m:Im) (x:Mt) (i:Ins):Bool:=
 bif i.1==1 then sin i.2.1 (m.2.2.1.length:Int)
 else bif i.1==3 || i.1==4 then sin i.2.1 ((x.1.length+x.2.1.length:Nat):Int)
 else bif i.1==18 || i.1==19 then sin i.2.1 (x.2.2.2.1.length:Int)
 else bif i.1==22 || i.1==34 then sin i.2.1 (m.1.length:Int)
 else bif i.1==27 || i.1==28 then sin i.2.1 (m.1.length:Int)&&sin i.2.2.1 (gZ m i.2.1:Int)
 else bif i.1==29 || i.1==30 then sin i.2.1 (m.2.1.length:Int)
 else bif i.1==31 then sin i.2.1 (m.2.2.2.1.length:Int)
 else bif i.1==32 then sin i.2.1 (m.1.length:Int)&&sin i.2.2.1 ((bF m i.2.1).2.2.1.length:Int)
 else true
def jU (m:Im) (x:Mt):Bool:=bI m&&(kG m&&imethod x)
def yE (m:Im) (x:Mt) (i:Ins) (f:Im×Unit):Option (Bool×Unit):=bif jU m x&&f.1==m then some (cL m x i,()) else none
def yX (m:Im) (x:Mt) (i:Ins):Option (Bool×Unit):=bif jU m x&&dV i then some (cL m x i,()) else none
def fD (m:Im) (x:Mt):Bool:=
 eC m x.1&&(eC m x.2.1&&((x.2.2.1==(5,0,()) || fE x.2.2.1 (m.1.length:Int))&&(decide (x.2.2.2.1.length≠0)&&(decide (x.2.2.2.2.2.2.1.length=x.2.2.2.1.length)&&
  (decide (x.1.length+x.2.1.length≤8)&&x.2.2.2.1.all (cL m x))))))
def yD (m:Im) (x:Mt):Option (Bool×Unit):=bif jU m x then some (fD m x,()) else none
def yY (m:Im) (x:Mt):Option (Bool×Unit):=bif jU m x then some (fD m x,()) else none
def sentry1 (t:Tp):Bool:=t.1==1&&t.2.1==0
def yG (t:Tp) (_:Unit):Bool:= !sentry1 t
def aD1 (l:List Tp) (_:Unit×Unit):Int:=lM (fun t=>yG t ()) 0 l
def aAw (l:List Tp) (_:Unit×Unit):Bool:=l.any fun t=>yG t ()
def kA (m:Im) (f:Int):Bool:=sin f (m.2.2.2.1.length:Int)&&((sentry1 (aE m f).2.2.1 || (aE m f).2.2.1.1==5)&&(aE m f).1.all sentry1)
def aCL (m:Im) (f:Int):Option (Bool×Unit):=some (kA m f,())
def kL (m:Im):Bool:=eC m m.2.1&&(kG m&&(m.2.2.2.1.all (fD m)&&m.2.2.2.2.1.all (kA m)))
def gA (m:Im):Int:=bif bI m then (bif kL m then 0 else 3) else 2
def tU (m:Im):Int:=gA m
def zgl (n:Int):Nat:=(if n<0 then -2*n - 1 else 2*n).toNat
def kB (i:Ins):List Int:=enc i.1.toNat++((bif decide (bD i.1<1) then[] else enc i.2.1.toNat)++(bif decide (bD i.1<2) then[] else enc i.2.2.1.toNat))
def gK (t:Tp):List Int:=enc t.1.toNat++(bif t.1==3 then enc t.2.1.toNat else[])
def eD {α:Type} (f:α→List Int):List α→List Int
 | []=>[]
 | x::l=>f x++eD f l
def dW (l:List Tp):List Int:=enc l.length++eD gK l
def bQ (n:Int):List Int:=enc n.toNat
def kV (l:List Int):List Int:=enc l.length++eD bQ l
def mT (x:Mt):List Int:=dW x.1++(dW x.2.1++(gK x.2.2.1++(enc x.2.2.2.1.length++(eD kB x.2.2.2.1++(bQ x.2.2.2.2.1++(bQ x.2.2.2.2.2.1++kV x.2.2.2.2.2.2.1))))))
def jL (c:Cl):List Int:=bQ (c.1+1)++(dW c.2.1++kV c.2.2.1)
def mR (n:Int):List Int:=enc (zgl n)
def uM (m:Im):List Int:=
 enc m.1.length++(eD jL m.1++(dW m.2.1++(enc m.2.2.1.length++(eD mR m.2.2.1++(enc m.2.2.2.1.length++(eD mT m.2.2.2.1++(kV m.2.2.2.2.1++(bQ m.2.2.2.2.2.1++bQ m.2.2.2.2.2.2.1))))))))
def mark:List Int:=[112,108,105,109]
def eY (m:Im):List Int:=mark++uM m
def lL (l:List Int):Bool:=l.all fun n=>decide (-2147483648≤n)&&decide (n≤2147483647)
def tV (t:Tp):Option (List Int×Unit):=bif ityp t then some (gK t,()) else none
def mG (l:List Tp):Option (List Int×Unit):=bif dH l 8 then some (dW l,()) else none
def oN (l:List Int):Option (List Int×Unit):=bif eG l 64 4096 then some (kV l,()) else none
def gU (m:Im):Option (List Int×Unit):=bif bI m&&lL m.2.2.1 then some (eY m,()) else none
def jC {α:Type} (f:Rd→Option (α×Rd×Unit)):Nat→Rd→Option (List α×Rd×Unit)
 | 0,r=>some ([],r,())
 | n+1,r=>(f r).bind fun q=>(jC f n q.2.1).bind fun p=>some (q.1::p.1,p.2.1,())
def lO (r:Rd):Option (Tp×Rd×Unit):=
 (bS r 5).bind fun a=>bif a.1==3 then (bS a.2.1 7).bind fun b=>some ((a.1,b.1,()),b.2.1,()) else some ((a.1,0,()),a.2.1,())
def kR {α:Type} (f:Rd→Option (α×Rd×Unit)) (r:Rd) (m:Int):Option (List α×Rd×Unit):=(bS r m).bind fun a=>jC f a.1.toNat a.2.1
def hZ (r:Rd) (m:Int):Option (List Tp×Rd×Unit):=bif decide (m≤1000) then kR lO r m else none
def iJ (r:Rd) (c m:Int):Option (List Int×Rd×Unit):=bif decide (c≤1000) then kR (fun r=>bS r m) r c else none
def lP (r:Rd):Option (Mt×Rd×Unit):=
 (hZ r 4).bind fun a=>(hZ a.2.1 8).bind fun b=>(lO b.2.1).bind fun c=>(kR mN c.2.1 64).bind fun d=>(bS d.2.1 8).bind fun e=>(bS e.2.1 4096).bind fun f=>
 (iJ f.2.1 64 4096).bind fun g=>some ((a.1,b.1,c.1,d.1,e.1,f.1,g.1,()),g.2.1,())
def sF (r:Rd):Option (Cl×Rd×Unit):=
 (bS r 8).bind fun a=>(hZ a.2.1 8).bind fun b=>(iJ b.2.1 4 11).bind fun c=>some ((IntKind.i64.wrap (a.1 - 1),b.1,c.1,()),c.2.1,())
def aAl (r:Rd):Option (Im×Rd×Unit):=
 (kR sF r 8).bind fun a=>(hZ a.2.1 8).bind fun b=>(kR kQ b.2.1 16).bind fun c=>(kR lP c.2.1 12).bind fun d=>(iJ d.2.1 12 11).bind fun e=>
 (bS e.2.1 4096).bind fun f=>(bS f.2.1 4096).bind fun g=>some ((a.1,b.1,c.1,d.1,e.1,f.1,g.1,()),g.2.1,())
def pA (b:List Int):Option (Im×Int×Unit):=
 bif decide ((b.length:Int)>8192) || (decide ((b.length:Int)<4) || !((strOfNums (b.take 4)).toList==(⟨#[112,108,105,109]⟩:ByteArray).toList)) then some (zIm,2,())
 else (aAl (zK (b.drop 4))).bind fun q=>(aAp q.2.1).bind fun f=>bif !f.1 || !bI q.1 then some (zIm,2,()) else some (q.1,0,())
def aIF (m:Im):Nat:=m.1.length+m.2.1.length+m.2.2.1.length+m.2.2.2.1.length+m.2.2.2.2.1.length
end Go.Pli

namespace Go.Pli
open Go Go.PM
def aWC (l:List Cl) (_c:Unit):Prop:=(l.length≤lenMax∧∀x1:Cl,x1∈l→(True∧((x1.2.1.length≤lenMax∧∀x2:Tp,x2∈x1.2.1→(True∧(True∧True)))∧((x1.2.2.1.length≤lenMax∧∀x2:Int,x2∈x1.2.2.1→True)∧True))))∧True∧True
def aHi (l:List Cl) (s1:Int×Unit) (rec2:(Int×Unit)→Option (Int×Unit)):Option (Int×Unit):=
 bif decide (s1.1<(l.length:Int)) then
  bif decide (0≤s1.1)&&decide (s1.1<l.length) then
   bif (aAg (l.getD s1.1.toNat zCl)) then
    some (s1.1,())
   else rec2 (IntKind.i64.wrap (s1.1+1),())
  else none
 else some ((-1:Int),())
def aWB (fuel:Nat) (l:List Cl) (_c:Unit):Option (Int×Unit):=
 aD (aHi l) fuel ((0:Int),())
def aZg (l:List Cl) (_c:Unit):Prop:=(l.length≤lenMax∧∀x1:Cl,x1∈l→(True∧((x1.2.1.length≤lenMax∧∀x2:Tp,x2∈x1.2.1→(True∧(True∧True)))∧((x1.2.2.1.length≤lenMax∧∀x2:Int,x2∈x1.2.2.1→True)∧True))))∧True∧True
def aOg (l:List Cl) (c:Unit):Option (Bool×Unit):=
 some (decide ((aD3 l c)≥0),())
def aWm (l:List Mt) (_c:Unit):Prop:=(l.length≤lenMax∧∀x1:Mt,x1∈l→((x1.1.length≤lenMax∧∀x2:Tp,x2∈x1.1→(True∧(True∧True)))∧((x1.2.1.length≤lenMax∧∀x2:Tp,x2∈x1.2.1→(True∧(True∧True)))∧((True∧(True∧True))∧((x1.2.2.2.1.length≤lenMax∧∀x2:Ins,x2∈x1.2.2.2.1→(True∧(True∧(True∧True))))∧(True∧(True∧((x1.2.2.2.2.2.2.1.length≤lenMax∧∀x2:Int,x2∈x1.2.2.2.2.2.2.1→True)∧True))))))))∧True∧True
def aHe (l:List Mt) (s1:Int×Unit) (rec2:(Int×Unit)→Option (Int×Unit)):Option (Int×Unit):=
 bif decide (s1.1<(l.length:Int)) then
  bif decide (0≤s1.1)&&decide (s1.1<l.length) then
   bif (aAf (l.getD s1.1.toNat zMt)) then
    some (s1.1,())
   else rec2 (IntKind.i64.wrap (s1.1+1),())
  else none
 else some ((-1:Int),())
def aWl (fuel:Nat) (l:List Mt) (_c:Unit):Option (Int×Unit):=
 aD (aHe l) fuel ((0:Int),())
def aY5 (l:List Mt) (_c:Unit):Prop:=(l.length≤lenMax∧∀x1:Mt,x1∈l→((x1.1.length≤lenMax∧∀x2:Tp,x2∈x1.1→(True∧(True∧True)))∧((x1.2.1.length≤lenMax∧∀x2:Tp,x2∈x1.2.1→(True∧(True∧True)))∧((True∧(True∧True))∧((x1.2.2.2.1.length≤lenMax∧∀x2:Ins,x2∈x1.2.2.2.1→(True∧(True∧(True∧True))))∧(True∧(True∧((x1.2.2.2.2.2.2.1.length≤lenMax∧∀x2:Int,x2∈x1.2.2.2.2.2.2.1→True)∧True))))))))∧True∧True
def aOc (l:List Mt) (c:Unit):Option (Bool×Unit):=
 some (decide ((aDZ l c)≥0),())
def aWa (l:List Tp) (_c:Unit):Prop:=(l.length≤lenMax∧∀x1:Tp,x1∈l→(True∧(True∧True)))∧True∧True
def aHb (l:List Tp) (s1:Int×Unit) (rec2:(Int×Unit)→Option (Int×Unit)):Option (Int×Unit):=
 bif decide (s1.1<(l.length:Int)) then
  bif decide (0≤s1.1)&&decide (s1.1<l.length) then
   bif (aAa (l.getD s1.1.toNat zTp)) then
    some (s1.1,())
   else rec2 (IntKind.i64.wrap (s1.1+1),())
  else none
 else some ((-1:Int),())
def aV9 (fuel:Nat) (l:List Tp) (_c:Unit):Option (Int×Unit):=
 aD (aHb l) fuel ((0:Int),())
def aYW (l:List Tp) (_c:Unit):Prop:=(l.length≤lenMax∧∀x1:Tp,x1∈l→(True∧(True∧True)))∧True∧True
def aN9 (l:List Tp) (c:Unit):Option (Bool×Unit):=
 some (decide ((aDW l c)≥0),())
def aWu (l:List Tp) (_c:Unit×Unit):Prop:=(l.length≤lenMax∧∀x1:Tp,x1∈l→(True∧(True∧True)))∧(True∧True)∧True
def aHg (l:List Tp) (c:Unit×Unit) (s1:Int×Unit) (rec2:(Int×Unit)→Option (Int×Unit)):Option (Int×Unit):=
 bif decide (s1.1<(l.length:Int)) then
  bif decide (0≤s1.1)&&decide (s1.1<l.length) then
   bif (yG (l.getD s1.1.toNat zTp) c.1) then
    some (s1.1,())
   else rec2 (IntKind.i64.wrap (s1.1+1),())
  else none
 else some ((-1:Int),())
def aWt (fuel:Nat) (l:List Tp) (c:Unit×Unit):Option (Int×Unit):=
 aD (aHg l c) fuel ((0:Int),())
def aZa (l:List Tp) (_c:Unit×Unit):Prop:=(l.length≤lenMax∧∀x1:Tp,x1∈l→(True∧(True∧True)))∧(True∧True)∧True
def aOe (l:List Tp) (c:Unit×Unit):Option (Bool×Unit):=
 some (decide ((aD1 l c)≥0),())
def aWe (l:List Int) (_c:Int×Unit):Prop:=(l.length≤lenMax∧∀x1:Int,x1∈l→True)∧(True∧True)∧True
def aHc (l:List Int) (c:Int×Unit) (s1:Int×Unit) (rec2:(Int×Unit)→Option (Int×Unit)):Option (Int×Unit):=
 bif decide (s1.1<(l.length:Int)) then
  bif decide (0≤s1.1)&&decide (s1.1<l.length) then
   bif (wO (l.getD s1.1.toNat 0) c.1) then
    some (s1.1,())
   else rec2 (IntKind.i64.wrap (s1.1+1),())
  else none
 else some ((-1:Int),())
def aWd (fuel:Nat) (l:List Int) (c:Int×Unit):Option (Int×Unit):=
 aD (aHc l c) fuel ((0:Int),())
def aYZ (l:List Int) (_c:Int×Unit):Prop:=(l.length≤lenMax∧∀x1:Int,x1∈l→True)∧(True∧True)∧True
def aOa (l:List Int) (c:Int×Unit):Option (Bool×Unit):=
 some (decide ((aDX l c)≥0),())
def aOC (s:List Cl):Option (List Cl×Unit):=
 bif decide ((s.length:Int)=(s.length:Int))&&decide ((s.length:Int)=(s.length:Int)) then
  some (s,())
 else none
def aOx (s:List Mt):Option (List Mt×Unit):=
 bif decide ((s.length:Int)=(s.length:Int))&&decide ((s.length:Int)=(s.length:Int)) then
  some (s,())
 else none
def aOu (s:List Tp):Option (List Tp×Unit):=
 bif decide ((s.length:Int)=(s.length:Int))&&decide ((s.length:Int)=(s.length:Int)) then
  some (s,())
 else none
def aOA (s:List Int):Option (List Int×Unit):=
 bif decide ((s.length:Int)=(s.length:Int))&&decide ((s.length:Int)=(s.length:Int)) then
  some (s,())
 else none
def aOt (s:List Ins):Option (List Ins×Unit):=
 bif decide ((s.length:Int)=(s.length:Int))&&decide ((s.length:Int)=(s.length:Int)) then
  some (s,())
 else none
def aOy (s:List Int):Option (List Int×Unit):=
 bif decide ((s.length:Int)=(s.length:Int))&&decide ((s.length:Int)=(s.length:Int)) then
  some (s,())
 else none
def xC (s:List Tp):Option (List Tp×Unit):=
 bif decide (([]:List Tp).length+s.length<rowMax) then
  some (([]:List Tp)++s,())
 else none
def aEC (s:List Int):Option (List Int×Unit):=
 bif decide (([]:List Int).length+s.length<rowMax) then
  some (([]:List Int)++s,())
 else none
def aED (s:List Int):Option (List Int×Unit):=
 bif decide (([]:List Int).length+s.length<rowMax) then
  some (([]:List Int)++s,())
 else none
def aEB (s:List Ins):Option (List Ins×Unit):=
 bif decide (([]:List Ins).length+s.length<rowMax) then
  some (([]:List Ins)++s,())
 else none
def xI (s:List Tp):Option (List Tp×Unit):=
 (xC s).bind fun r1=>
 some ((idL r1.1),())
def aEV (s:List Int):Option (List Int×Unit):=
 (aEC s).bind fun r1=>
 some ((idL r1.1),())
def aAE (s:List Int):Option (List Int×Unit):=
 (aED s).bind fun r1=>
 some ((idL r1.1),())
def aET (s:List Ins):Option (List Ins×Unit):=
 (aEB s).bind fun r1=>
 some ((idL r1.1),())
def aYc (a:List Tp) (b:List Tp):Prop:=(a.length≤lenMax∧∀x1:Tp,x1∈a→(True∧(True∧True)))∧(b.length≤lenMax∧∀x1:Tp,x1∈b→(True∧(True∧True)))∧True
def aEn (a:List Tp) (b:List Tp) (s1:Int×Unit) (rec2:(Int×Unit)→Option (Bool×Unit)):Option (Bool×Unit):=
 bif decide (s1.1<(a.length:Int)) then
  bif decide (0≤s1.1)&&decide (s1.1<a.length) then
   bif decide (0≤s1.1)&&decide (s1.1<b.length) then
    bif !((((a.getD s1.1.toNat zTp).1)==((b.getD s1.1.toNat zTp).1))&&((((a.getD s1.1.toNat zTp).2.1)==((b.getD s1.1.toNat zTp).2.1))&&true)) then
     some (false,())
    else rec2 (IntKind.i64.wrap (s1.1+1),())
   else none
  else none
 else some (true,())
def aNI (fuel:Nat) (a:List Tp) (b:List Tp):Option (Bool×Unit):=
 bif (a.length:Int) !=(b.length:Int) then
  some (false,())
 else aD (aEn a b) fuel ((0:Int),())
def aYf (a:List Int) (b:List Int):Prop:=(a.length≤lenMax∧∀x1:Int,x1∈a→True)∧(b.length≤lenMax∧∀x1:Int,x1∈b→True)∧True
def aEo (a:List Int) (b:List Int) (s1:Int×Unit) (rec2:(Int×Unit)→Option (Bool×Unit)):Option (Bool×Unit):=
 bif decide (s1.1<(a.length:Int)) then
  bif decide (0≤s1.1)&&decide (s1.1<a.length) then
   bif decide (0≤s1.1)&&decide (s1.1<b.length) then
    bif (a.getD s1.1.toNat 0) !=(b.getD s1.1.toNat 0) then
     some (false,())
    else rec2 (IntKind.i64.wrap (s1.1+1),())
   else none
  else none
 else some (true,())
def aNJ (fuel:Nat) (a:List Int) (b:List Int):Option (Bool×Unit):=
 bif (a.length:Int) !=(b.length:Int) then
  some (false,())
 else aD (aEo a b) fuel ((0:Int),())
def aMw (n:Int) (m:Int):Option (Bool×Unit):=
 bif decide (n≥0) then
  some (decide (n≤m),())
 else some (false,())
def aMz (t:Tp):Option (Bool×Unit):=
 bif (cY t.1 (5:Int)) then
  bif t.2.1==0 then
   some (true,())
  else bif t.1==3 then
   some ((cY t.2.1 (7:Int)),())
  else some (false,())
 else some (false,())
def aVO (t:Tp):Option (Bool×Unit):=
 some (!(ityp t),())
def aMx (l:List Tp) (m:Int):Option (Bool×Unit):=
 bif decide ((l.length:Int)≤m) then
  some (!(aB2 l ()),())
 else some (false,())
def aVZ (n:Int) (m:Int):Option (Bool×Unit):=
 some (!(cY n m),())
def aME (l:List Int) (c:Int) (m:Int):Option (Bool×Unit):=
 bif decide ((l.length:Int)≤c) then
  some (!(aB3 l (m,())),())
 else some (false,())
def aD4 (x:Mt) (s1:Int×Unit) (rec2:(Int×Unit)→Option (Bool×Unit)):Option (Bool×Unit):=
 bif decide (s1.1<(x.2.2.2.1.length:Int)) then
  bif decide (0≤s1.1)&&decide (s1.1<x.2.2.2.1.length) then
   bif !(dV (x.2.2.2.1.getD s1.1.toNat cC)) then
    some (false,())
   else rec2 (IntKind.i64.wrap (s1.1+1),())
  else none
 else bif (cY x.2.2.2.2.1 (8:Int)) then
  bif (cY x.2.2.2.2.2.1 (4096:Int)) then
   some ((eG x.2.2.2.2.2.2.1 (64:Int) (4096:Int)),())
  else some (false,())
 else some (false,())
def aMJ (fuel:Nat) (x:Mt):Option (Bool×Unit):=
 bif !(dH x.1 (4:Int)) then
  some (false,())
 else bif !(dH x.2.1 (8:Int)) then
  some (false,())
 else bif !(ityp x.2.2.1) then
  some (false,())
 else bif decide ((x.2.2.2.1.length:Int)>64) then
  some (false,())
 else aD (aD4 x) fuel ((0:Int),())
def aMO (x:Cl):Option (Bool×Unit):=
 bif decide (x.1≥(-1:Int)) then
  bif decide (x.1<8) then
   bif (dH x.2.1 (8:Int)) then
    some ((eG x.2.2.1 (4:Int) (11:Int)),())
   else some (false,())
  else some (false,())
 else some (false,())
def aWR (x:Cl):Option (Bool×Unit):=
 some (!(iclass x),())
def aWO (x:Mt):Option (Bool×Unit):=
 some (!(imethod x),())
def aMM (m:Im):Option (Bool×Unit):=
 bif decide ((m.1.length:Int)>8) then
  some (false,())
 else bif !(dH m.2.1 (8:Int)) then
  some (false,())
 else bif decide ((m.2.2.1.length:Int)>16) then
  some (false,())
 else bif decide ((m.2.2.2.1.length:Int)>12) then
  some (false,())
 else bif (aB7 m.1 ()) then
  some (false,())
 else bif (aB5 m.2.2.2.1 ()) then
  some (false,())
 else bif (eG m.2.2.2.2.1 (12:Int) (11:Int)) then
  bif (cY m.2.2.2.2.2.1 (4096:Int)) then
   some ((cY m.2.2.2.2.2.2.1 (4096:Int)),())
  else some (false,())
 else some (false,())
def aXi (r:List Int×Bool×Unit):Option (Tp×(List Int×Bool×Unit)×Unit):=
 (bS r (5:Int)).bind fun r1=>
 bif r1.1==3 then
  (bS r1.2.1 (7:Int)).bind fun r2=>
  some ((r1.1,r2.1,()),r2.2.1,())
 else some ((r1.1,((0:Int),())),r1.2.1,())
def aEc (r1:Int×(List Int×Bool×Unit)×Unit) (s2:List Tp×Int×(List Int×Bool×Unit)×Unit) (rec3:(List Tp×Int×(List Int×Bool×Unit)×Unit)→Option (List Tp×(List Int×Bool×Unit)×Unit)):Option (List Tp×(List Int×Bool×Unit)×Unit):=
 bif decide (s2.2.1<r1.1) then
  (lO s2.2.2.1).bind fun r4=>
  bif decide (s2.1.length+[r4.1].length<rowMax) then
   rec3 (s2.1++[r4.1],IntKind.i64.wrap (s2.2.1+1),r4.2.1,())
  else none
 else some ((idL s2.1),s2.2.2.1,())
def aHp (fuel:Nat) (r:List Int×Bool×Unit) (m:Int):Option (List Tp×(List Int×Bool×Unit)×Unit):=
 (bS r m).bind fun r1=>
 aD (aEc r1) fuel (([]:List Tp),((0:Int),r1.2.1,()))
def aEd (m:Int) (r1:Int×(List Int×Bool×Unit)×Unit) (s2:List Int×Int×(List Int×Bool×Unit)×Unit) (rec3:(List Int×Int×(List Int×Bool×Unit)×Unit)→Option (List Int×(List Int×Bool×Unit)×Unit)):Option (List Int×(List Int×Bool×Unit)×Unit):=
 bif decide (s2.2.1<r1.1) then
  (bS s2.2.2.1 m).bind fun r4=>
  bif decide (s2.1.length+[r4.1].length<rowMax) then
   rec3 (s2.1++[r4.1],IntKind.i64.wrap (s2.2.1+1),r4.2.1,())
  else none
 else some ((idL s2.1),s2.2.2.1,())
def aHr (fuel:Nat) (r:List Int×Bool×Unit) (c:Int) (m:Int):Option (List Int×(List Int×Bool×Unit)×Unit):=
 (bS r c).bind fun r1=>
 aD (aEd m r1) fuel (([]:List Int),((0:Int),r1.2.1,()))
def aEe (r4:Int×(List Int×Bool×Unit)×Unit) (s5:Int×(List Int×Bool×Unit)×(List Tp×List Tp×Int×Int×List Ins×Int×Int×List Int×Unit)×Unit) (rec6:(Int×(List Int×Bool×Unit)×(List Tp×List Tp×Int×Int×List Ins×Int×Int×List Int×Unit)×Unit)→Option (Mt×(List Int×Bool×Unit)×Unit)):Option (Mt×(List Int×Bool×Unit)×Unit):=
 bif decide (s5.1<r4.1) then
  (mN s5.2.1).bind fun r7=>
  bif decide (s5.2.2.1.2.2.2.2.1.length+[r7.1].length<rowMax) then
   rec6 (IntKind.i64.wrap (s5.1+1),r7.2.1,(s5.2.2.1.1,s5.2.2.1.2.1,s5.2.2.1.2.2.1,s5.2.2.1.2.2.2.1,s5.2.2.1.2.2.2.2.1++[r7.1],s5.2.2.1.2.2.2.2.2),())
  else none
 else
  (bS s5.2.1 (8:Int)).bind fun r8=>
  (bS r8.2.1 (4096:Int)).bind fun r9=>
  (iJ r9.2.1 (64:Int) (4096:Int)).bind fun r10=>
  some ((s5.2.2.1.1,s5.2.2.1.2.1,(s5.2.2.1.2.2.1,s5.2.2.1.2.2.2.1,()),(idL s5.2.2.1.2.2.2.2.1),r8.1,r9.1,r10.1,()),r10.2.1,())
def aHs (fuel:Nat) (r:List Int×Bool×Unit):Option (Mt×(List Int×Bool×Unit)×Unit):=
 (hZ r (4:Int)).bind fun r1=>
 (hZ r1.2.1 (8:Int)).bind fun r2=>
 (lO r2.2.1).bind fun r3=>
 (bS r3.2.1 (64:Int)).bind fun r4=>
 aD (aEe r4) fuel ((0:Int),r4.2.1,(r1.1,r2.1,r3.1.1,r3.1.2.1,(([]:List Ins),((0:Int),((0:Int),(([]:List Int),()))))),())
def aBN (r12:Int×(List Int×Bool×Unit)×Unit) (s13:Int×(List Int×Bool×Unit)×(List Cl×List Tp×List Int×List Mt×List Int×Int×Int×Unit)×Unit) (rec14:(Int×(List Int×Bool×Unit)×(List Cl×List Tp×List Int×List Mt×List Int×Int×Int×Unit)×Unit)→Option (Im×Int×Unit)):Option (Im×Int×Unit):=
 bif decide (s13.1<r12.1) then
  (lP s13.2.1).bind fun r15=>
  bif decide (s13.2.2.1.2.2.2.1.length+[r15.1].length<rowMax) then
   rec14 (IntKind.i64.wrap (s13.1+1),r15.2.1,(s13.2.2.1.1,s13.2.2.1.2.1,s13.2.2.1.2.2.1,s13.2.2.1.2.2.2.1++[r15.1],s13.2.2.1.2.2.2.2),())
  else none
 else
  (iJ s13.2.1 (12:Int) (11:Int)).bind fun r16=>
  (bS r16.2.1 (4096:Int)).bind fun r17=>
  (bS r17.2.1 (4096:Int)).bind fun r18=>
  (aAp r18.2.1).bind fun r19=>
  bif !r19.1 then
   some ((([]:List Cl),(([]:List Tp),(([]:List Int),(([]:List Mt),(([]:List Int),((0:Int),((0:Int),()))))))),((2:Int),()))
  else bif !(bI (s13.2.2.1.1,s13.2.2.1.2.1,s13.2.2.1.2.2.1,s13.2.2.1.2.2.2.1,r16.1,r17.1,r18.1,())) then
   some ((([]:List Cl),(([]:List Tp),(([]:List Int),(([]:List Mt),(([]:List Int),((0:Int),((0:Int),()))))))),((2:Int),()))
  else
   (aBO (s13.2.2.1.1,s13.2.2.1.2.1,s13.2.2.1.2.2.1,s13.2.2.1.2.2.2.1,r16.1,r17.1,r18.1,())).bind fun r20=>
   some (r20.1,((0:Int),()))
def aBM (fuel:Nat) (r8:Int×(List Int×Bool×Unit)×Unit) (s9:Int×(List Int×Bool×Unit)×(List Cl×List Tp×List Int×List Mt×List Int×Int×Int×Unit)×Unit) (rec10:(Int×(List Int×Bool×Unit)×(List Cl×List Tp×List Int×List Mt×List Int×Int×Int×Unit)×Unit)→Option (Im×Int×Unit)):Option (Im×Int×Unit):=
 bif decide (s9.1<r8.1) then
  (kQ s9.2.1).bind fun r11=>
  bif decide (s9.2.2.1.2.2.1.length+[r11.1].length<rowMax) then
   rec10 (IntKind.i64.wrap (s9.1+1),r11.2.1,(s9.2.2.1.1,s9.2.2.1.2.1,s9.2.2.1.2.2.1++[r11.1],s9.2.2.1.2.2.2),())
  else none
 else
  (bS s9.2.1 (12:Int)).bind fun r12=>
  aD (aBN r12) fuel ((0:Int),r12.2.1,s9.2.2.1,())
def aD5 (fuel:Nat) (r1:Int×(List Int×Bool×Unit)×Unit) (s2:Int×(List Int×Bool×Unit)×(List Cl×List Tp×List Int×List Mt×List Int×Int×Int×Unit)×Unit) (rec3:(Int×(List Int×Bool×Unit)×(List Cl×List Tp×List Int×List Mt×List Int×Int×Int×Unit)×Unit)→Option (Im×Int×Unit)):Option (Im×Int×Unit):=
 bif decide (s2.1<r1.1) then
  (bS s2.2.1 (8:Int)).bind fun r4=>
  (hZ r4.2.1 (8:Int)).bind fun r5=>
  (iJ r5.2.1 (4:Int) (11:Int)).bind fun r6=>
  bif decide (s2.2.2.1.1.length+[(IntKind.i64.wrap (r4.1 - 1),r5.1,r6.1,())].length<rowMax) then
   rec3 (IntKind.i64.wrap (s2.1+1),r6.2.1,(s2.2.2.1.1++[(IntKind.i64.wrap (r4.1 - 1),r5.1,r6.1,())],s2.2.2.1.2),())
  else none
 else
  (hZ s2.2.1 (8:Int)).bind fun r7=>
  (bS r7.2.1 (16:Int)).bind fun r8=>
  aD (aBM fuel r8) fuel ((0:Int),r8.2.1,(s2.2.2.1.1,r7.1,s2.2.2.1.2.2),())
def aHj (fuel:Nat) (b:List Int):Option (Im×Int×Unit):=
 bif decide ((b.length:Int)>8192) then
  some ((([]:List Cl),(([]:List Tp),(([]:List Int),(([]:List Mt),(([]:List Int),((0:Int),((0:Int),()))))))),((2:Int),()))
 else bif decide ((b.length:Int)<4) then
  some ((([]:List Cl),(([]:List Tp),(([]:List Int),(([]:List Mt),(([]:List Int),((0:Int),((0:Int),()))))))),((2:Int),()))
 else bif decide ((4:Int)≤(b.length:Int)) then
  bif !((strOfNums ((b.take 4).drop 0)).toList==(⟨#[112,108,105,109]⟩:ByteArray).toList) then
   some ((([]:List Cl),(([]:List Tp),(([]:List Int),(([]:List Mt),(([]:List Int),((0:Int),((0:Int),()))))))),((2:Int),()))
  else bif decide ((4:Int)≤(b.length:Int))&&decide ((b.length:Int)≤(b.length:Int)) then
   (bS (zK ((b.take b.length).drop 4)) (8:Int)).bind fun r1=>
   aD (aD5 fuel r1) fuel ((0:Int),r1.2.1,((([]:List Cl),(([]:List Tp),(([]:List Int),(([]:List Mt),(([]:List Int),((0:Int),((0:Int),()))))))),()))
  else none
 else none
def aD7 (m:Im) (s8:Int×(List Cl×List Tp×List Int×List Mt×List Int×Int×Int×Unit)×Unit) (rec9:(Int×(List Cl×List Tp×List Int×List Mt×List Int×Int×Int×Unit)×Unit)→Option (Im×Unit)):Option (Im×Unit):=
 bif decide (s8.1<(m.2.2.2.1.length:Int)) then
  bif decide (0≤s8.1)&&decide (s8.1<m.2.2.2.1.length) then
   (xI (m.2.2.2.1.getD s8.1.toNat zMt).1).bind fun r10=>
   (xI (m.2.2.2.1.getD s8.1.toNat zMt).2.1).bind fun r11=>
   (aET (m.2.2.2.1.getD s8.1.toNat zMt).2.2.2.1).bind fun r12=>
   (aAE (m.2.2.2.1.getD s8.1.toNat zMt).2.2.2.2.2.2.1).bind fun r13=>
   bif decide (s8.2.1.2.2.2.1.length+[(r10.1,r11.1,(m.2.2.2.1.getD s8.1.toNat zMt).2.2.1,r12.1,(m.2.2.2.1.getD s8.1.toNat zMt).2.2.2.2.1,(m.2.2.2.1.getD s8.1.toNat zMt).2.2.2.2.2.1,r13.1,())].length<rowMax) then
    rec9 (IntKind.i64.wrap (s8.1+1),(s8.2.1.1,s8.2.1.2.1,s8.2.1.2.2.1,s8.2.1.2.2.2.1++[(r10.1,r11.1,(m.2.2.2.1.getD s8.1.toNat zMt).2.2.1,r12.1,(m.2.2.2.1.getD s8.1.toNat zMt).2.2.2.2.1,(m.2.2.2.1.getD s8.1.toNat zMt).2.2.2.2.2.1,r13.1,())],s8.2.1.2.2.2.2),())
   else none
  else none
 else some (((idL s8.2.1.1),s8.2.1.2.1,s8.2.1.2.2.1,(idL s8.2.1.2.2.2.1),s8.2.1.2.2.2.2),())
def aD6 (m:Im) (fuel:Nat) (s4:Int×(List Cl×List Tp×List Int×List Mt×List Int×Int×Int×Unit)×Unit) (rec5:(Int×(List Cl×List Tp×List Int×List Mt×List Int×Int×Int×Unit)×Unit)→Option (Im×Unit)):Option (Im×Unit):=
 bif decide (s4.1<(m.1.length:Int)) then
  bif decide (0≤s4.1)&&decide (s4.1<m.1.length) then
   (xI (m.1.getD s4.1.toNat zCl).2.1).bind fun r6=>
   (aAE (m.1.getD s4.1.toNat zCl).2.2.1).bind fun r7=>
   bif decide (s4.2.1.1.length+[((m.1.getD s4.1.toNat zCl).1,r6.1,r7.1,())].length<rowMax) then
    rec5 (IntKind.i64.wrap (s4.1+1),(s4.2.1.1++[((m.1.getD s4.1.toNat zCl).1,r6.1,r7.1,())],s4.2.1.2),())
   else none
  else none
 else aD (aD7 m) fuel ((0:Int),s4.2.1,())
def aMN (fuel:Nat) (m:Im):Option (Im×Unit):=
 (xI m.2.1).bind fun r1=>
 (aEV m.2.2.1).bind fun r2=>
 (aAE m.2.2.2.2.1).bind fun r3=>
 aD (aD6 m fuel) fuel ((0:Int),((([]:List Cl),r1.1,r2.1,(([]:List Mt),r3.1,m.2.2.2.2.2)),()))
def aMs (t:Tp) (n:Int):Option (Bool×Unit):=
 (bif t.1==1 then
  some (.inl (true,()))
 else some (.inl (t.1==2,())):Option ((Bool×Unit)⊕(Bool×Unit))).bind fun q=>match q with
 | .inr r2=>some r2
 | .inl s1=>
  bif s1.1 then
   some (t.2.1==0,())
  else bif t.1==3 then
   bif decide (t.2.1≥0) then
    some (decide (t.2.1<n),())
   else some (false,())
  else some (false,())
def aMr (t:Tp):Option (Bool×Unit):=
 bif t.1==2 then
  some (true,())
 else bif t.1==3 then
  some (true,())
 else some (t.1==4,())
def aMn (l:List Cl) (c:Int):Option (Int×Unit):=
 bif decide (c<0) then
  some ((-1:Int),())
 else bif decide (c≥(l.length:Int)) then
  some ((-1:Int),())
 else bif decide (0≤c)&&decide (c<l.length) then
  bif decide ((l.getD c.toNat zCl).1≥c) then
   some ((-1:Int),())
  else bif decide (0≤c)&&decide (c<l.length) then
   some ((l.getD c.toNat zCl).1,())
  else none
 else none
def aDS (l:List Cl) (b:Int) (s1:Int×Unit) (rec2:(Int×Unit)→Option (Bool×Unit)):Option (Bool×Unit):=
 bif decide (s1.1≥0) then
  bif s1.1==b then
   some (true,())
  else rec2 ((kup l s1.1),())
 else some (false,())
def aMu (fuel:Nat) (l:List Cl) (a:Int) (b:Int):Option (Bool×Unit):=
 bif decide (b<0) then
  some (false,())
 else bif decide (b≥(l.length:Int)) then
  some (false,())
 else bif decide (a≥(l.length:Int)) then
  some (false,())
 else aD (aDS l b) fuel (a,())
def aMo (l:List Cl) (a:Tp) (b:Tp):Option (Bool×Unit):=
 bif a.1==4 then
  some ((jY b),())
 else bif a.1==3 then
  bif b.1==3 then
   some ((dL l a.2.1 b.2.1),())
  else bif (a.1==b.1)&&((a.2.1==b.2.1)&&true) then
   bif a.1==1 then
    some (true,())
   else some (a.1==2,())
  else some (false,())
 else bif (a.1==b.1)&&((a.2.1==b.2.1)&&true) then
  bif a.1==1 then
   some (true,())
  else some (a.1==2,())
 else some (false,())
def yO (l:List Cl) (s1:Int×List Int×Unit) (rec2:(Int×List Int×Unit)→Option (List Int×Unit)):Option (List Int×Unit):=
 bif decide (s1.1≥0) then
  bif decide (s1.1<(l.length:Int)) then
   bif decide (s1.2.1.length+[s1.1].length<rowMax) then
    bif decide (0≤s1.1)&&decide (s1.1<l.length) then
     bif decide ((l.getD s1.1.toNat zCl).1≥s1.1) then
      rec2 ((-1:Int),s1.2.1++[s1.1],())
     else rec2 ((l.getD s1.1.toNat zCl).1,s1.2.1++[s1.1],())
    else none
   else none
  else some (s1.2.1,())
 else some (s1.2.1,())
def aKp (fuel:Nat) (l:List Cl) (c:Int):Option (List Int×Unit):=
 aD (yO l) fuel (c,(([]:List Int),()))
def aJ8 (t:Tp):Option (Bool×Unit):=
 bif t.1==2 then
  some (true,())
 else bif t.1==3 then
  some (true,())
 else some (t.1==4,())
def aKi (t:Tp) (n:Int):Option (Bool×Unit):=
 bif t.1==1 then
  bif t.2.1==0 then
   some (true,())
  else bif t.1==3 then
   bif decide (t.2.1≥0) then
    some (decide (t.2.1<n),())
   else some (false,())
  else some (false,())
 else bif t.1==2 then
  bif t.2.1==0 then
   some (true,())
  else bif t.1==3 then
   bif decide (t.2.1≥0) then
    some (decide (t.2.1<n),())
   else some (false,())
  else some (false,())
 else bif t.1==3 then
  bif decide (t.2.1≥0) then
   some (decide (t.2.1<n),())
  else some (false,())
 else some (false,())
def aJU (l:List Cl) (a:Tp) (b:Tp):Option (Bool×Unit):=
 bif a.1==4 then
  some ((vT b),())
 else bif a.1==3 then
  bif b.1==3 then
   (lF l a.2.1).bind fun r1=>
   (rin r1.1 b.2.1).bind fun r2=>
   some (r2.1,())
  else some (false,())
 else bif a.1==1 then
  some ((a.1==b.1)&&((a.2.1==b.2.1)&&true),())
 else bif a.1==2 then
  some ((a.1==b.1)&&((a.2.1==b.2.1)&&true),())
 else some (false,())
def aR6 (a:List Tp) (b:List Tp):Prop:=(a.length≤lenMax∧∀x1:Tp,x1∈a→(True∧(True∧True)))∧(b.length≤lenMax∧∀x1:Tp,x1∈b→(True∧(True∧True)))∧True
def aR7 (a:List Tp) (b:List Tp) (s1:Int×Unit) (rec2:(Int×Unit)→Option (Bool×Unit)):Option (Bool×Unit):=
 bif decide (s1.1<(a.length:Int)) then
  bif decide (0≤s1.1)&&decide (s1.1<a.length) then
   bif decide (0≤s1.1)&&decide (s1.1<b.length) then
    bif !((((a.getD s1.1.toNat zTp).1)==((b.getD s1.1.toNat zTp).1))&&((((a.getD s1.1.toNat zTp).2.1)==((b.getD s1.1.toNat zTp).2.1))&&true)) then
     some (false,())
    else rec2 (IntKind.i64.wrap (s1.1+1),())
   else none
  else none
 else some (true,())
def aR5 (fuel:Nat) (a:List Tp) (b:List Tp):Option (Bool×Unit):=
 bif (a.length:Int) !=(b.length:Int) then
  some (false,())
 else aD (aR7 a b) fuel ((0:Int),())
def aSq (a:List Int) (b:List Int):Prop:=(a.length≤lenMax∧∀x1:Int,x1∈a→True)∧(b.length≤lenMax∧∀x1:Int,x1∈b→True)∧True
def aSr (a:List Int) (b:List Int) (s1:Int×Unit) (rec2:(Int×Unit)→Option (Bool×Unit)):Option (Bool×Unit):=
 bif decide (s1.1<(a.length:Int)) then
  bif decide (0≤s1.1)&&decide (s1.1<a.length) then
   bif decide (0≤s1.1)&&decide (s1.1<b.length) then
    bif (a.getD s1.1.toNat 0) !=(b.getD s1.1.toNat 0) then
     some (false,())
    else rec2 (IntKind.i64.wrap (s1.1+1),())
   else none
  else none
 else some (true,())
def aSp (fuel:Nat) (a:List Int) (b:List Int):Option (Bool×Unit):=
 bif (a.length:Int) !=(b.length:Int) then
  some (false,())
 else aD (aSr a b) fuel ((0:Int),())
def aKR (n:Int) (a:Int) (b:Int):Option (Bool×Unit):=
 bif decide (n≥a) then
  some (decide (n≤b),())
 else some (false,())
def aTu (l:List Int) (_c:Int) (_m:Int):Prop:=(l.length≤lenMax∧∀x1:Int,x1∈l→True)∧True∧True∧True
def aDg (l:List Int) (m:Int) (s1:Int×Unit) (rec2:(Int×Unit)→Option (Bool×Unit)):Option (Bool×Unit):=
 bif decide (s1.1<(l.length:Int)) then
  bif decide (0≤s1.1)&&decide (s1.1<l.length) then
   bif !(jS (l.getD s1.1.toNat 0) (0:Int) m) then
    some (false,())
   else rec2 (IntKind.i64.wrap (s1.1+1),())
  else none
 else some (true,())
def aKQ (fuel:Nat) (l:List Int) (c:Int) (m:Int):Option (Bool×Unit):=
 bif decide ((l.length:Int)>c) then
  some (false,())
 else aD (aDg l m) fuel ((0:Int),())
def aKF (t:Tp):Option (Bool×Unit):=
 bif (jS t.1 (0:Int) (5:Int)) then
  bif t.2.1==0 then
   some (true,())
  else bif t.1==3 then
   some ((jS t.2.1 (0:Int) (7:Int)),())
  else some (false,())
 else some (false,())
def aS7 (l:List Tp) (_c:Int):Prop:=(l.length≤lenMax∧∀x1:Tp,x1∈l→(True∧(True∧True)))∧True∧True
def aC9 (l:List Tp) (s1:Int×Unit) (rec2:(Int×Unit)→Option (Bool×Unit)):Option (Bool×Unit):=
 bif decide (s1.1<(l.length:Int)) then
  bif decide (0≤s1.1)&&decide (s1.1<l.length) then
   bif !(tT (l.getD s1.1.toNat zTp)) then
    some (false,())
   else rec2 (IntKind.i64.wrap (s1.1+1),())
  else none
 else some (true,())
def aKD (fuel:Nat) (l:List Tp) (c:Int):Option (Bool×Unit):=
 bif decide ((l.length:Int)>c) then
  some (false,())
 else aD (aC9 l) fuel ((0:Int),())
def aTz (m:Im):Prop:=((m.1.length≤lenMax∧∀x1:Cl,x1∈m.1→(True∧((x1.2.1.length≤lenMax∧∀x2:Tp,x2∈x1.2.1→(True∧(True∧True)))∧((x1.2.2.1.length≤lenMax∧∀x2:Int,x2∈x1.2.2.1→True)∧True))))∧((m.2.1.length≤lenMax∧∀x1:Tp,x1∈m.2.1→(True∧(True∧True)))∧((m.2.2.1.length≤lenMax∧∀x1:Int,x1∈m.2.2.1→True)∧((m.2.2.2.1.length≤lenMax∧∀x1:Mt,x1∈m.2.2.2.1→((x1.1.length≤lenMax∧∀x2:Tp,x2∈x1.1→(True∧(True∧True)))∧((x1.2.1.length≤lenMax∧∀x2:Tp,x2∈x1.2.1→(True∧(True∧True)))∧((True∧(True∧True))∧((x1.2.2.2.1.length≤lenMax∧∀x2:Ins,x2∈x1.2.2.2.1→(True∧(True∧(True∧True))))∧(True∧(True∧((x1.2.2.2.2.2.2.1.length≤lenMax∧∀x2:Int,x2∈x1.2.2.2.2.2.2.1→True)∧True))))))))∧((m.2.2.2.2.1.length≤lenMax∧∀x1:Int,x1∈m.2.2.2.2.1→True)∧(True∧(True∧True)))))))∧True
def aDk (m:Im) (s3:Int×Unit) (rec4:(Int×Unit)→Option (Bool×Unit)) (s5:Int×Unit) (rec6:(Int×Unit)→Option (Bool×Unit)):Option (Bool×Unit):=
 bif decide (s5.1<((m.2.2.2.1.getD s3.1.toNat zMt).2.2.2.1.length:Int)) then
  bif decide (0≤s5.1)&&decide (s5.1<(m.2.2.2.1.getD s3.1.toNat zMt).2.2.2.1.length) then
   bif !(aBb ((m.2.2.2.1.getD s3.1.toNat zMt).2.2.2.1.getD s5.1.toNat cC)) then
    some (false,())
   else rec6 (IntKind.i64.wrap (s5.1+1),())
  else none
 else rec4 (IntKind.i64.wrap (s3.1+1),())
def aDj (m:Im) (fuel:Nat) (s3:Int×Unit) (rec4:(Int×Unit)→Option (Bool×Unit)):Option (Bool×Unit):=
 bif decide (s3.1<(m.2.2.2.1.length:Int)) then
  bif decide (0≤s3.1)&&decide (s3.1<m.2.2.2.1.length) then
   bif !(oM (m.2.2.2.1.getD s3.1.toNat zMt).1 (4:Int)) then
    some (false,())
   else bif !(oM (m.2.2.2.1.getD s3.1.toNat zMt).2.1 (8:Int)) then
    some (false,())
   else bif !(tT (m.2.2.2.1.getD s3.1.toNat zMt).2.2.1) then
    some (false,())
   else bif decide (((m.2.2.2.1.getD s3.1.toNat zMt).2.2.2.1.length:Int)>64) then
    some (false,())
   else bif !(jS (m.2.2.2.1.getD s3.1.toNat zMt).2.2.2.2.1 (0:Int) (8:Int)) then
    some (false,())
   else bif !(jS (m.2.2.2.1.getD s3.1.toNat zMt).2.2.2.2.2.1 (0:Int) (4096:Int)) then
    some (false,())
   else bif !(rT (m.2.2.2.1.getD s3.1.toNat zMt).2.2.2.2.2.2.1 (64:Int) (4096:Int)) then
    some (false,())
   else aD (aDk m s3 rec4) fuel ((0:Int),())
  else none
 else some (true,())
def aDi (m:Im) (fuel:Nat) (s1:Int×Unit) (rec2:(Int×Unit)→Option (Bool×Unit)):Option (Bool×Unit):=
 bif decide (s1.1<(m.1.length:Int)) then
  bif decide (0≤s1.1)&&decide (s1.1<m.1.length) then
   bif !(jS (m.1.getD s1.1.toNat zCl).1 (-1:Int) (7:Int)) then
    some (false,())
   else bif !(oM (m.1.getD s1.1.toNat zCl).2.1 (8:Int)) then
    some (false,())
   else bif !(rT (m.1.getD s1.1.toNat zCl).2.2.1 (4:Int) (11:Int)) then
    some (false,())
   else rec2 (IntKind.i64.wrap (s1.1+1),())
  else none
 else aD (aDj m fuel) fuel ((0:Int),())
def aKT (fuel:Nat) (m:Im):Option (Bool×Unit):=
 bif decide ((m.1.length:Int)>8) then
  some (false,())
 else bif decide ((m.2.2.1.length:Int)>16) then
  some (false,())
 else bif decide ((m.2.2.2.1.length:Int)>12) then
  some (false,())
 else bif !(oM m.2.1 (8:Int)) then
  some (false,())
 else bif !(rT m.2.2.2.2.1 (12:Int) (11:Int)) then
  some (false,())
 else bif !(jS m.2.2.2.2.2.1 (0:Int) (4096:Int)) then
  some (false,())
 else bif !(jS m.2.2.2.2.2.2.1 (0:Int) (4096:Int)) then
  some (false,())
 else aD (aDi m fuel) fuel ((0:Int),())
def aFX (l:List Int) (s2:List Int×Int×Unit) (rec3:(List Int×Int×Unit)→Option (List Int×Unit)):Option (List Int×Unit):=
 bif decide (s2.2.1<(l.length:Int)) then
  bif decide (0≤s2.2.1)&&decide (s2.2.1<l.length) then
   (dN (l.getD s2.2.1.toNat 0)).bind fun r4=>
   bif decide (s2.1.length+r4.1.length<rowMax) then
    rec3 (s2.1++r4.1,IntKind.i64.wrap (s2.2.1+1),())
   else none
  else none
 else some (s2.1,())
def aKN (fuel:Nat) (l:List Int):Option (List Int×Unit):=
 (dN (l.length:Int)).bind fun r1=>
 aD (aFX l) fuel (r1.1,((0:Int),()))
def aKM (t:Tp):Option (List Int×Unit):=
 bif t.1==3 then
  (dN (3:Int)).bind fun r1=>
  (dN t.2.1).bind fun r2=>
  bif decide (r1.1.length+r2.1.length<rowMax) then
   some (r1.1++r2.1,())
  else none
 else
  (dN t.1).bind fun r3=>
  some (r3.1,())
def aFV (l:List Tp) (s2:List Int×Int×Unit) (rec3:(List Int×Int×Unit)→Option (List Int×Unit)):Option (List Int×Unit):=
 bif decide (s2.2.1<(l.length:Int)) then
  bif decide (0≤s2.2.1)&&decide (s2.2.1<l.length) then
   (tV (l.getD s2.2.1.toNat zTp)).bind fun r4=>
   bif decide (s2.1.length+r4.1.length<rowMax) then
    rec3 (s2.1++r4.1,IntKind.i64.wrap (s2.2.1+1),())
   else none
  else none
 else some (s2.1,())
def aKH (fuel:Nat) (l:List Tp):Option (List Int×Unit):=
 (dN (l.length:Int)).bind fun r1=>
 aD (aFV l) fuel (r1.1,((0:Int),()))
def r5encodeL1 (m:Im) (s13:List Int×Int×Unit) (rec14:(List Int×Int×Unit)→Option (List Int×Unit)) (s19:List Int×Int×Unit) (rec20:(List Int×Int×Unit)→Option (List Int×Unit)):Option (List Int×Unit):=
 bif decide (s19.2.1<((m.2.2.2.1.getD s13.2.1.toNat zMt).2.2.2.1.length:Int)) then
  bif decide (0≤s19.2.1)&&decide (s19.2.1<(m.2.2.2.1.getD s13.2.1.toNat zMt).2.2.2.1.length) then
   (dN ((m.2.2.2.1.getD s13.2.1.toNat zMt).2.2.2.1.getD s19.2.1.toNat cC).1).bind fun r21=>
   bif decide (s19.1.length+r21.1.length<rowMax) then
    (bif decide (0≤s19.2.1)&&decide (s19.2.1<(m.2.2.2.1.getD s13.2.1.toNat zMt).2.2.2.1.length) then
     bif decide ((mF ((m.2.2.2.1.getD s13.2.1.toNat zMt).2.2.2.1.getD s19.2.1.toNat cC).1)>0) then
      bif decide (0≤s19.2.1)&&decide (s19.2.1<(m.2.2.2.1.getD s13.2.1.toNat zMt).2.2.2.1.length) then
       (dN ((m.2.2.2.1.getD s13.2.1.toNat zMt).2.2.2.1.getD s19.2.1.toNat cC).2.1).bind fun r24=>
       bif decide ((s19.1++r21.1).length+r24.1.length<rowMax) then
        some (.inl ((s19.1++r21.1)++r24.1,()))
       else none
      else none
     else some (.inl (s19.1++r21.1,()))
    else none:Option ((List Int×Unit)⊕(List Int×Unit))).bind fun q=>match q with
    | .inr r23=>some r23
    | .inl s22=>
     bif decide (0≤s19.2.1)&&decide (s19.2.1<(m.2.2.2.1.getD s13.2.1.toNat zMt).2.2.2.1.length) then
      bif decide ((mF ((m.2.2.2.1.getD s13.2.1.toNat zMt).2.2.2.1.getD s19.2.1.toNat cC).1)>1) then
       bif decide (0≤s19.2.1)&&decide (s19.2.1<(m.2.2.2.1.getD s13.2.1.toNat zMt).2.2.2.1.length) then
        (dN ((m.2.2.2.1.getD s13.2.1.toNat zMt).2.2.2.1.getD s19.2.1.toNat cC).2.2.1).bind fun r25=>
        bif decide (s22.1.length+r25.1.length<rowMax) then
         rec20 (s22.1++r25.1,IntKind.i64.wrap (s19.2.1+1),())
        else none
       else none
      else rec20 (s22.1,IntKind.i64.wrap (s19.2.1+1),())
     else none
   else none
  else none
 else
  (dN (m.2.2.2.1.getD s13.2.1.toNat zMt).2.2.2.2.1).bind fun r26=>
  bif decide (s19.1.length+r26.1.length<rowMax) then
   (dN (m.2.2.2.1.getD s13.2.1.toNat zMt).2.2.2.2.2.1).bind fun r27=>
   bif decide ((s19.1++r26.1).length+r27.1.length<rowMax) then
    (oN (m.2.2.2.1.getD s13.2.1.toNat zMt).2.2.2.2.2.2.1).bind fun r28=>
    bif decide (((s19.1++r26.1)++r27.1).length+r28.1.length<rowMax) then
     rec14 (((s19.1++r26.1)++r27.1)++r28.1,IntKind.i64.wrap (s13.2.1+1),())
    else none
   else none
  else none
def r5encodeL2 (m:Im) (fuel:Nat) (s13:List Int×Int×Unit) (rec14:(List Int×Int×Unit)→Option (List Int×Unit)):Option (List Int×Unit):=
 bif decide (s13.2.1<(m.2.2.2.1.length:Int)) then
  bif decide (0≤s13.2.1)&&decide (s13.2.1<m.2.2.2.1.length) then
   (mG (m.2.2.2.1.getD s13.2.1.toNat zMt).1).bind fun r15=>
   bif decide (s13.1.length+r15.1.length<rowMax) then
    (mG (m.2.2.2.1.getD s13.2.1.toNat zMt).2.1).bind fun r16=>
    bif decide ((s13.1++r15.1).length+r16.1.length<rowMax) then
     (tV (m.2.2.2.1.getD s13.2.1.toNat zMt).2.2.1).bind fun r17=>
     bif decide (((s13.1++r15.1)++r16.1).length+r17.1.length<rowMax) then
      (dN ((m.2.2.2.1.getD s13.2.1.toNat zMt).2.2.2.1.length:Int)).bind fun r18=>
      bif decide ((((s13.1++r15.1)++r16.1)++r17.1).length+r18.1.length<rowMax) then
       aD (r5encodeL1 m s13 rec14) fuel ((((s13.1++r15.1)++r16.1)++r17.1)++r18.1,((0:Int),()))
      else none
     else none
    else none
   else none
  else none
 else
  (oN m.2.2.2.2.1).bind fun r29=>
  bif decide (s13.1.length+r29.1.length<rowMax) then
   (dN m.2.2.2.2.2.1).bind fun r30=>
   bif decide ((s13.1++r29.1).length+r30.1.length<rowMax) then
    (dN m.2.2.2.2.2.2.1).bind fun r31=>
    bif decide (((s13.1++r29.1)++r30.1).length+r31.1.length<rowMax) then
     some (((s13.1++r29.1)++r30.1)++r31.1,())
    else none
   else none
  else none
def r5encodeL3 (m:Im) (fuel:Nat) (s9:List Int×Int×Unit) (rec10:(List Int×Int×Unit)→Option (List Int×Unit)):Option (List Int×Unit):=
 bif decide (s9.2.1<(m.2.2.1.length:Int)) then
  bif decide (0≤s9.2.1)&&decide (s9.2.1<m.2.2.1.length) then
   (yK (m.2.2.1.getD s9.2.1.toNat 0)).bind fun r11=>
   bif decide (s9.1.length+r11.1.length<rowMax) then
    rec10 (s9.1++r11.1,IntKind.i64.wrap (s9.2.1+1),())
   else none
  else none
 else
  (dN (m.2.2.2.1.length:Int)).bind fun r12=>
  bif decide (s9.1.length+r12.1.length<rowMax) then
   aD (r5encodeL2 m fuel) fuel (s9.1++r12.1,((0:Int),()))
  else none
def r5encodeL4 (m:Im) (fuel:Nat) (s2:List Int×Int×Unit) (rec3:(List Int×Int×Unit)→Option (List Int×Unit)):Option (List Int×Unit):=
 bif decide (s2.2.1<(m.1.length:Int)) then
  bif decide (0≤s2.2.1)&&decide (s2.2.1<m.1.length) then
   (dN (IntKind.i64.wrap (((m.1.getD s2.2.1.toNat zCl).1)+1))).bind fun r4=>
   bif decide (s2.1.length+r4.1.length<rowMax) then
    bif decide (0≤s2.2.1)&&decide (s2.2.1<m.1.length) then
     (mG (m.1.getD s2.2.1.toNat zCl).2.1).bind fun r5=>
     bif decide ((s2.1++r4.1).length+r5.1.length<rowMax) then
      bif decide (0≤s2.2.1)&&decide (s2.2.1<m.1.length) then
       (oN (m.1.getD s2.2.1.toNat zCl).2.2.1).bind fun r6=>
       bif decide (((s2.1++r4.1)++r5.1).length+r6.1.length<rowMax) then
        rec3 (((s2.1++r4.1)++r5.1)++r6.1,IntKind.i64.wrap (s2.2.1+1),())
       else none
      else none
     else none
    else none
   else none
  else none
 else
  (mG m.2.1).bind fun r7=>
  bif decide (s2.1.length+r7.1.length<rowMax) then
   (dN (m.2.2.1.length:Int)).bind fun r8=>
   bif decide ((s2.1++r7.1).length+r8.1.length<rowMax) then
    aD (r5encodeL3 m fuel) fuel ((s2.1++r7.1)++r8.1,((0:Int),()))
   else none
  else none
def aDn (fuel:Nat) (m:Im):Option (List Int×Unit):=
 (dN (m.1.length:Int)).bind fun r1=>
 bif decide (([112,108,105,109]:List Int).length+r1.1.length<rowMax) then
  aD (r5encodeL4 m fuel) fuel (([112,108,105,109]:List Int)++r1.1,((0:Int),()))
 else none
def aTi (a:Im) (b:Im):Prop:=((a.1.length≤lenMax∧∀x1:Cl,x1∈a.1→(True∧((x1.2.1.length≤lenMax∧∀x2:Tp,x2∈x1.2.1→(True∧(True∧True)))∧((x1.2.2.1.length≤lenMax∧∀x2:Int,x2∈x1.2.2.1→True)∧True))))∧((a.2.1.length≤lenMax∧∀x1:Tp,x1∈a.2.1→(True∧(True∧True)))∧((a.2.2.1.length≤lenMax∧∀x1:Int,x1∈a.2.2.1→True)∧((a.2.2.2.1.length≤lenMax∧∀x1:Mt,x1∈a.2.2.2.1→((x1.1.length≤lenMax∧∀x2:Tp,x2∈x1.1→(True∧(True∧True)))∧((x1.2.1.length≤lenMax∧∀x2:Tp,x2∈x1.2.1→(True∧(True∧True)))∧((True∧(True∧True))∧((x1.2.2.2.1.length≤lenMax∧∀x2:Ins,x2∈x1.2.2.2.1→(True∧(True∧(True∧True))))∧(True∧(True∧((x1.2.2.2.2.2.2.1.length≤lenMax∧∀x2:Int,x2∈x1.2.2.2.2.2.2.1→True)∧True))))))))∧((a.2.2.2.2.1.length≤lenMax∧∀x1:Int,x1∈a.2.2.2.2.1→True)∧(True∧(True∧True)))))))∧((b.1.length≤lenMax∧∀x1:Cl,x1∈b.1→(True∧((x1.2.1.length≤lenMax∧∀x2:Tp,x2∈x1.2.1→(True∧(True∧True)))∧((x1.2.2.1.length≤lenMax∧∀x2:Int,x2∈x1.2.2.1→True)∧True))))∧((b.2.1.length≤lenMax∧∀x1:Tp,x1∈b.2.1→(True∧(True∧True)))∧((b.2.2.1.length≤lenMax∧∀x1:Int,x1∈b.2.2.1→True)∧((b.2.2.2.1.length≤lenMax∧∀x1:Mt,x1∈b.2.2.2.1→((x1.1.length≤lenMax∧∀x2:Tp,x2∈x1.1→(True∧(True∧True)))∧((x1.2.1.length≤lenMax∧∀x2:Tp,x2∈x1.2.1→(True∧(True∧True)))∧((True∧(True∧True))∧((x1.2.2.2.1.length≤lenMax∧∀x2:Ins,x2∈x1.2.2.2.1→(True∧(True∧(True∧True))))∧(True∧(True∧((x1.2.2.2.2.2.2.1.length≤lenMax∧∀x2:Int,x2∈x1.2.2.2.2.2.2.1→True)∧True))))))))∧((b.2.2.2.2.1.length≤lenMax∧∀x1:Int,x1∈b.2.2.2.2.1→True)∧(True∧(True∧True)))))))∧True
def aDe (a:Im) (b:Im) (s5:Int×Unit) (rec6:(Int×Unit)→Option (Bool×Unit)) (s7:Int×Unit) (rec8:(Int×Unit)→Option (Bool×Unit)):Option (Bool×Unit):=
 bif decide (s7.1<((a.2.2.2.1.getD s5.1.toNat zMt).2.2.2.1.length:Int)) then
  bif decide (0≤s7.1)&&decide (s7.1<(a.2.2.2.1.getD s5.1.toNat zMt).2.2.2.1.length) then
   bif decide (0≤s7.1)&&decide (s7.1<(b.2.2.2.1.getD s5.1.toNat zMt).2.2.2.1.length) then
    bif !(((((a.2.2.2.1.getD s5.1.toNat zMt).2.2.2.1.getD s7.1.toNat cC).1)==(((b.2.2.2.1.getD s5.1.toNat zMt).2.2.2.1.getD s7.1.toNat cC).1))&&(((((a.2.2.2.1.getD s5.1.toNat zMt).2.2.2.1.getD s7.1.toNat cC).2.1)==(((b.2.2.2.1.getD s5.1.toNat zMt).2.2.2.1.getD s7.1.toNat cC).2.1))&&(((((a.2.2.2.1.getD s5.1.toNat zMt).2.2.2.1.getD s7.1.toNat cC).2.2.1)==(((b.2.2.2.1.getD s5.1.toNat zMt).2.2.2.1.getD s7.1.toNat cC).2.2.1))&&true))) then
     some (false,())
    else rec8 (IntKind.i64.wrap (s7.1+1),())
   else none
  else none
 else rec6 (IntKind.i64.wrap (s5.1+1),())
def aDd (a:Im) (b:Im) (fuel:Nat) (s5:Int×Unit) (rec6:(Int×Unit)→Option (Bool×Unit)):Option (Bool×Unit):=
 bif decide (s5.1<(a.2.2.2.1.length:Int)) then
  bif decide (0≤s5.1)&&decide (s5.1<a.2.2.2.1.length) then
   bif decide (0≤s5.1)&&decide (s5.1<b.2.2.2.1.length) then
    bif !(kN (a.2.2.2.1.getD s5.1.toNat zMt).1 (b.2.2.2.1.getD s5.1.toNat zMt).1) then
     some (false,())
    else bif !(kN (a.2.2.2.1.getD s5.1.toNat zMt).2.1 (b.2.2.2.1.getD s5.1.toNat zMt).2.1) then
     some (false,())
    else bif !((((a.2.2.2.1.getD s5.1.toNat zMt).2.2.1.1)==((b.2.2.2.1.getD s5.1.toNat zMt).2.2.1.1))&&((((a.2.2.2.1.getD s5.1.toNat zMt).2.2.1.2.1)==((b.2.2.2.1.getD s5.1.toNat zMt).2.2.1.2.1))&&true)) then
     some (false,())
    else bif ((a.2.2.2.1.getD s5.1.toNat zMt).2.2.2.1.length:Int) !=((b.2.2.2.1.getD s5.1.toNat zMt).2.2.2.1.length:Int) then
     some (false,())
    else bif ((a.2.2.2.1.getD s5.1.toNat zMt).2.2.2.2.1) !=((b.2.2.2.1.getD s5.1.toNat zMt).2.2.2.2.1) then
     some (false,())
    else bif ((a.2.2.2.1.getD s5.1.toNat zMt).2.2.2.2.2.1) !=((b.2.2.2.1.getD s5.1.toNat zMt).2.2.2.2.2.1) then
     some (false,())
    else bif !(tS (a.2.2.2.1.getD s5.1.toNat zMt).2.2.2.2.2.2.1 (b.2.2.2.1.getD s5.1.toNat zMt).2.2.2.2.2.2.1) then
     some (false,())
    else aD (aDe a b s5 rec6) fuel ((0:Int),())
   else none
  else none
 else some (true,())
def aDc (a:Im) (b:Im) (fuel:Nat) (s3:Int×Unit) (rec4:(Int×Unit)→Option (Bool×Unit)):Option (Bool×Unit):=
 bif decide (s3.1<(a.1.length:Int)) then
  bif decide (0≤s3.1)&&decide (s3.1<a.1.length) then
   bif decide (0≤s3.1)&&decide (s3.1<b.1.length) then
    bif ((a.1.getD s3.1.toNat zCl).1) !=((b.1.getD s3.1.toNat zCl).1) then
     some (false,())
    else bif !(kN (a.1.getD s3.1.toNat zCl).2.1 (b.1.getD s3.1.toNat zCl).2.1) then
     some (false,())
    else bif !(tS (a.1.getD s3.1.toNat zCl).2.2.1 (b.1.getD s3.1.toNat zCl).2.2.1) then
     some (false,())
    else rec4 (IntKind.i64.wrap (s3.1+1),())
   else none
  else none
 else aD (aDd a b fuel) fuel ((0:Int),())
def aDb (a:Im) (b:Im) (fuel:Nat) (s1:Int×Unit) (rec2:(Int×Unit)→Option (Bool×Unit)):Option (Bool×Unit):=
 bif decide (s1.1<(a.2.2.1.length:Int)) then
  bif decide (0≤s1.1)&&decide (s1.1<a.2.2.1.length) then
   bif decide (0≤s1.1)&&decide (s1.1<b.2.2.1.length) then
    bif (a.2.2.1.getD s1.1.toNat 0) !=(b.2.2.1.getD s1.1.toNat 0) then
     some (false,())
    else rec2 (IntKind.i64.wrap (s1.1+1),())
   else none
  else none
 else aD (aDc a b fuel) fuel ((0:Int),())
def aKJ (fuel:Nat) (a:Im) (b:Im):Option (Bool×Unit):=
 bif (a.1.length:Int) !=(b.1.length:Int) then
  some (false,())
 else bif (a.2.2.2.1.length:Int) !=(b.2.2.2.1.length:Int) then
  some (false,())
 else bif (a.2.2.1.length:Int) !=(b.2.2.1.length:Int) then
  some (false,())
 else bif a.2.2.2.2.2.1 !=b.2.2.2.2.2.1 then
  some (false,())
 else bif a.2.2.2.2.2.2.1 !=b.2.2.2.2.2.2.1 then
  some (false,())
 else bif !(kN a.2.1 b.2.1) then
  some (false,())
 else bif !(tS a.2.2.2.2.1 b.2.2.2.2.1) then
  some (false,())
 else aD (aDb a b fuel) fuel ((0:Int),())
def aDm (m:Im) (r1:List Int×Unit) (s2:List Tp×Int×Unit) (rec3:(List Tp×Int×Unit)→Option (List Tp×Unit)):Option (List Tp×Unit):=
 bif decide (s2.2.1≥0) then
  bif decide (0≤s2.2.1)&&decide (s2.2.1<r1.1.length) then
   bif decide (0≤r1.1.getD s2.2.1.toNat 0)&&decide (r1.1.getD s2.2.1.toNat 0<m.1.length) then
    bif decide (s2.1.length+(m.1.getD (r1.1.getD s2.2.1.toNat 0).toNat zCl).2.1.length<rowMax) then
     rec3 (s2.1++((m.1.getD (r1.1.getD s2.2.1.toNat 0).toNat zCl).2.1),IntKind.i64.wrap (s2.2.1 - 1),())
    else none
   else none
  else none
 else some (s2.1,())
def aKV (fuel:Nat) (m:Im) (c:Int):Option (List Tp×Unit):=
 (lF m.1 c).bind fun r1=>
 aD (aDm m r1) fuel (([]:List Tp),(IntKind.i64.wrap ((r1.1.length:Int) - 1),()))
def aTx (m:Im) (l:List Tp):Prop:=((m.1.length≤lenMax∧∀x1:Cl,x1∈m.1→(True∧((x1.2.1.length≤lenMax∧∀x2:Tp,x2∈x1.2.1→(True∧(True∧True)))∧((x1.2.2.1.length≤lenMax∧∀x2:Int,x2∈x1.2.2.1→True)∧True))))∧((m.2.1.length≤lenMax∧∀x1:Tp,x1∈m.2.1→(True∧(True∧True)))∧((m.2.2.1.length≤lenMax∧∀x1:Int,x1∈m.2.2.1→True)∧((m.2.2.2.1.length≤lenMax∧∀x1:Mt,x1∈m.2.2.2.1→((x1.1.length≤lenMax∧∀x2:Tp,x2∈x1.1→(True∧(True∧True)))∧((x1.2.1.length≤lenMax∧∀x2:Tp,x2∈x1.2.1→(True∧(True∧True)))∧((True∧(True∧True))∧((x1.2.2.2.1.length≤lenMax∧∀x2:Ins,x2∈x1.2.2.2.1→(True∧(True∧(True∧True))))∧(True∧(True∧((x1.2.2.2.2.2.2.1.length≤lenMax∧∀x2:Int,x2∈x1.2.2.2.2.2.2.1→True)∧True))))))))∧((m.2.2.2.2.1.length≤lenMax∧∀x1:Int,x1∈m.2.2.2.2.1→True)∧(True∧(True∧True)))))))∧(l.length≤lenMax∧∀x1:Tp,x1∈l→(True∧(True∧True)))∧True
def aDh (m:Im) (l:List Tp) (s1:Int×Unit) (rec2:(Int×Unit)→Option (Bool×Unit)):Option (Bool×Unit):=
 bif decide (s1.1<(l.length:Int)) then
  bif decide (0≤s1.1)&&decide (s1.1<l.length) then
   bif !(vV (l.getD s1.1.toNat zTp) (m.1.length:Int)) then
    some (false,())
   else rec2 (IntKind.i64.wrap (s1.1+1),())
  else none
 else some (true,())
def aKS (fuel:Nat) (m:Im) (l:List Tp):Option (Bool×Unit):=
 aD (aDh m l) fuel ((0:Int),())
def aDo (m:Im) (c:Int) (s2:List Int×Unit) (s4:Int×Unit) (rec5:(Int×Unit)→Option (Bool×Unit)):Option (Bool×Unit):=
 bif decide (s4.1<((m.1.getD c.toNat zCl).2.2.1.length:Int)) then
  (bif decide (0≤s4.1)&&decide (s4.1<(m.1.getD c.toNat zCl).2.2.1.length) then
   bif decide ((m.1.getD c.toNat zCl).2.2.1.getD s4.1.toNat 0≥(m.2.2.2.1.length:Int)) then
    some (.inr (false,()))
   else bif decide (0≤s4.1)&&decide (s4.1<(m.1.getD c.toNat zCl).2.2.1.length) then
    bif decide (0≤(m.1.getD c.toNat zCl).2.2.1.getD s4.1.toNat 0)&&decide ((m.1.getD c.toNat zCl).2.2.1.getD s4.1.toNat 0<m.2.2.2.1.length) then
     bif ((m.2.2.2.1.getD ((m.1.getD c.toNat zCl).2.2.1.getD s4.1.toNat 0).toNat zMt).1.length:Int)==0 then
      some (.inr (false,()))
     else bif decide ((0:Int)<(m.2.2.2.1.getD ((m.1.getD c.toNat zCl).2.2.1.getD s4.1.toNat 0).toNat zMt).1.length) then
      (oL m.1 ((3:Int),c,()) ((m.2.2.2.1.getD ((m.1.getD c.toNat zCl).2.2.1.getD s4.1.toNat 0).toNat zMt).1.getD 0 zTp)).bind fun r8=>
      bif !r8.1 then
       some (.inr (false,()))
      else bif decide (s4.1<(s2.1.length:Int)) then
       bif decide (0≤s4.1)&&decide (s4.1<s2.1.length) then
        bif decide (0≤s2.1.getD s4.1.toNat 0)&&decide (s2.1.getD s4.1.toNat 0<m.2.2.2.1.length) then
         bif decide ((1:Int)≤((m.2.2.2.1.getD ((m.1.getD c.toNat zCl).2.2.1.getD s4.1.toNat 0).toNat zMt).1.length:Int))&&decide (((m.2.2.2.1.getD ((m.1.getD c.toNat zCl).2.2.1.getD s4.1.toNat 0).toNat zMt).1.length:Int)≤((m.2.2.2.1.getD ((m.1.getD c.toNat zCl).2.2.1.getD s4.1.toNat 0).toNat zMt).1.length:Int)) then
          bif decide ((1:Int)≤((m.2.2.2.1.getD (s2.1.getD s4.1.toNat 0).toNat zMt).1.length:Int))&&decide (((m.2.2.2.1.getD (s2.1.getD s4.1.toNat 0).toNat zMt).1.length:Int)≤((m.2.2.2.1.getD (s2.1.getD s4.1.toNat 0).toNat zMt).1.length:Int)) then
           bif !(kN (((m.2.2.2.1.getD ((m.1.getD c.toNat zCl).2.2.1.getD s4.1.toNat 0).toNat zMt).1.take ((m.2.2.2.1.getD ((m.1.getD c.toNat zCl).2.2.1.getD s4.1.toNat 0).toNat zMt).1.length:Int).toNat).drop 1) (((m.2.2.2.1.getD (s2.1.getD s4.1.toNat 0).toNat zMt).1.take ((m.2.2.2.1.getD (s2.1.getD s4.1.toNat 0).toNat zMt).1.length:Int).toNat).drop 1)) then
            some (.inr (false,()))
           else bif !((((m.2.2.2.1.getD ((m.1.getD c.toNat zCl).2.2.1.getD s4.1.toNat 0).toNat zMt).2.2.1.1)==((m.2.2.2.1.getD (s2.1.getD s4.1.toNat 0).toNat zMt).2.2.1.1))&&((((m.2.2.2.1.getD ((m.1.getD c.toNat zCl).2.2.1.getD s4.1.toNat 0).toNat zMt).2.2.1.2.1)==((m.2.2.2.1.getD (s2.1.getD s4.1.toNat 0).toNat zMt).2.2.1.2.1))&&true)) then
            some (.inr (false,()))
           else some (.inl ())
          else none
         else none
        else none
       else none
      else some (.inl ())
     else none
    else none
   else none
  else none:Option (Unit⊕(Bool×Unit))).bind fun q=>match q with
  | .inr r7=>some r7
  | .inl _=>
   rec5 (IntKind.i64.wrap (s4.1+1),())
 else some (true,())
def aKW (fuel:Nat) (m:Im) (c:Int):Option (Bool×Unit):=
 bif decide (0≤c)&&decide (c<m.1.length) then
  bif decide ((m.1.getD c.toNat zCl).1≥c) then
   some (false,())
  else bif !(pZ m (m.1.getD c.toNat zCl).2.1) then
   some (false,())
  else
   (kO m c).bind fun r1=>
   bif decide ((r1.1.length:Int)>8) then
    some (false,())
   else
    (bif decide ((m.1.getD c.toNat zCl).1≥0) then
     bif decide (0≤(m.1.getD c.toNat zCl).1)&&decide ((m.1.getD c.toNat zCl).1<m.1.length) then
      some (.inl ((m.1.getD (m.1.getD c.toNat zCl).1.toNat zCl).2.2.1,()))
     else none
    else some (.inl (([]:List Int),())):Option ((List Int×Unit)⊕(Bool×Unit))).bind fun q=>match q with
    | .inr r3=>some r3
    | .inl s2=>
     bif decide (((m.1.getD c.toNat zCl).2.2.1.length:Int)<(s2.1.length:Int)) then
      some (false,())
     else aD (aDo m c s2) fuel ((0:Int),())
 else none
def aKO (m:Im) (x:Mt) (i:Ins):Option (Bool×Unit):=
 bif i.1==1 then
  some (decide (i.2.1<(m.2.2.1.length:Int)),())
 else
  (bif i.1==3 then
   some (.inl (true,()))
  else some (.inl (i.1==4,())):Option ((Bool×Unit)⊕(Bool×Unit))).bind fun q=>match q with
  | .inr r2=>some r2
  | .inl s1=>
   bif s1.1 then
    some (decide (i.2.1<IntKind.i64.wrap ((x.1.length:Int)+(x.2.1.length:Int))),())
   else
    (bif i.1==18 then
     some (.inl (true,()))
    else some (.inl (i.1==19,())):Option ((Bool×Unit)⊕(Bool×Unit))).bind fun q=>match q with
    | .inr r4=>some r4
    | .inl s3=>
     bif s3.1 then
      some (decide (i.2.1<(x.2.2.2.1.length:Int)),())
     else
      (bif i.1==22 then
       some (.inl (true,()))
      else some (.inl (i.1==34,())):Option ((Bool×Unit)⊕(Bool×Unit))).bind fun q=>match q with
      | .inr r6=>some r6
      | .inl s5=>
       bif s5.1 then
        some (decide (i.2.1<(m.1.length:Int)),())
       else
        (bif i.1==27 then
         some (.inl (true,()))
        else some (.inl (i.1==28,())):Option ((Bool×Unit)⊕(Bool×Unit))).bind fun q=>match q with
        | .inr r8=>some r8
        | .inl s7=>
         bif s7.1 then
          bif decide (i.2.1<(m.1.length:Int)) then
           (kO m i.2.1).bind fun r9=>
           some (decide (i.2.2.1<(r9.1.length:Int)),())
          else some (false,())
         else
          (bif i.1==29 then
           some (.inl (true,()))
          else some (.inl (i.1==30,())):Option ((Bool×Unit)⊕(Bool×Unit))).bind fun q=>match q with
          | .inr r11=>some r11
          | .inl s10=>
           bif s10.1 then
            some (decide (i.2.1<(m.2.1.length:Int)),())
           else bif i.1==31 then
            some (decide (i.2.1<(m.2.2.2.1.length:Int)),())
           else bif i.1==32 then
            bif decide (i.2.1<(m.1.length:Int)) then
             bif decide (0≤i.2.1)&&decide (i.2.1<m.1.length) then
              some (decide (i.2.2.1<((m.1.getD i.2.1.toNat zCl).2.2.1.length:Int)),())
             else none
            else some (false,())
           else some (true,())
def aDf (m:Im) (x:Mt) (s3:Int×Unit) (rec4:(Int×Unit)→Option (Bool×Unit)):Option (Bool×Unit):=
 bif decide (s3.1<(x.2.2.2.1.length:Int)) then
  bif decide (0≤s3.1)&&decide (s3.1<x.2.2.2.1.length) then
   (yX m x (x.2.2.2.1.getD s3.1.toNat cC)).bind fun r5=>
   bif !r5.1 then
    some (false,())
   else rec4 (IntKind.i64.wrap (s3.1+1),())
  else none
 else some (true,())
def aKP (fuel:Nat) (m:Im) (x:Mt):Option (Bool×Unit):=
 (bif !(pZ m x.1) then
  some (.inr (false,()))
 else bif !(pZ m x.2.1) then
  some (.inr (false,()))
 else bif !((x.2.2.1.1==5)&&((x.2.2.1.2.1==0)&&true)) then
  bif !(vV x.2.2.1 (m.1.length:Int)) then
   some (.inr (false,()))
  else bif (x.2.2.2.1.length:Int)==0 then
   some (.inr (false,()))
  else bif (x.2.2.2.2.2.2.1.length:Int) !=(x.2.2.2.1.length:Int) then
   some (.inr (false,()))
  else bif decide (IntKind.i64.wrap ((x.1.length:Int)+(x.2.1.length:Int))>8) then
   some (.inr (false,()))
  else some (.inl ())
 else bif (x.2.2.2.1.length:Int)==0 then
  some (.inr (false,()))
 else bif (x.2.2.2.2.2.2.1.length:Int) !=(x.2.2.2.1.length:Int) then
  some (.inr (false,()))
 else bif decide (IntKind.i64.wrap ((x.1.length:Int)+(x.2.1.length:Int))>8) then
  some (.inr (false,()))
 else some (.inl ()):Option (Unit⊕(Bool×Unit))).bind fun q=>match q with
 | .inr r2=>some r2
 | .inl _=>
  aD (aDf m x) fuel ((0:Int),())
def aTf (m:Im):Prop:=((m.1.length≤lenMax∧∀x1:Cl,x1∈m.1→(True∧((x1.2.1.length≤lenMax∧∀x2:Tp,x2∈x1.2.1→(True∧(True∧True)))∧((x1.2.2.1.length≤lenMax∧∀x2:Int,x2∈x1.2.2.1→True)∧True))))∧((m.2.1.length≤lenMax∧∀x1:Tp,x1∈m.2.1→(True∧(True∧True)))∧((m.2.2.1.length≤lenMax∧∀x1:Int,x1∈m.2.2.1→True)∧((m.2.2.2.1.length≤lenMax∧∀x1:Mt,x1∈m.2.2.2.1→((x1.1.length≤lenMax∧∀x2:Tp,x2∈x1.1→(True∧(True∧True)))∧((x1.2.1.length≤lenMax∧∀x2:Tp,x2∈x1.2.1→(True∧(True∧True)))∧((True∧(True∧True))∧((x1.2.2.2.1.length≤lenMax∧∀x2:Ins,x2∈x1.2.2.2.1→(True∧(True∧(True∧True))))∧(True∧(True∧((x1.2.2.2.2.2.2.1.length≤lenMax∧∀x2:Int,x2∈x1.2.2.2.2.2.2.1→True)∧True))))))))∧((m.2.2.2.2.1.length≤lenMax∧∀x1:Int,x1∈m.2.2.2.2.1→True)∧(True∧(True∧True)))))))∧True
def yW (m:Im) (s3:Bool×Int×Unit) (rec4:(Bool×Int×Unit)→Option ((Bool×Unit)⊕(Int×Unit))):Option ((Bool×Unit)⊕(Int×Unit)):=
 bif decide (s3.2.1<(m.1.length:Int)) then
  bif s3.1 then
   (yZ m s3.2.1).bind fun r5=>
   rec4 (r5.1,IntKind.i64.wrap (s3.2.1+1),())
  else some (.inl (s3.1,()))
 else some (.inl (s3.1,()))
def vY (m:Im) (s8:Bool×Int×Unit) (rec9:(Bool×Int×Unit)→Option ((Bool×Unit)⊕(Int×Unit))):Option ((Bool×Unit)⊕(Int×Unit)):=
 bif decide (s8.2.1<(m.2.2.2.1.length:Int)) then
  bif s8.1 then
   bif decide (0≤s8.2.1)&&decide (s8.2.1<m.2.2.2.1.length) then
    (yY m (m.2.2.2.1.getD s8.2.1.toNat zMt)).bind fun r10=>
    rec9 (r10.1,IntKind.i64.wrap (s8.2.1+1),())
   else none
  else some (.inl (s8.1,()))
 else some (.inl (s8.1,()))
def aBq (m:Im) (s11:Bool×Int×Unit) (rec12:(Bool×Int×Unit)→Option (Int×Unit)) (s15:Bool×Int×Unit) (rec16:(Bool×Int×Unit)→Option (Int×Unit)):Option (Int×Unit):=
 bif decide (0≤m.2.2.2.2.1.getD s11.2.1.toNat 0)&&decide (m.2.2.2.2.1.getD s11.2.1.toNat 0<m.2.2.2.1.length) then
  bif decide (s15.2.1<((m.2.2.2.1.getD (m.2.2.2.2.1.getD s11.2.1.toNat 0).toNat zMt).1.length:Int)) then
   bif s15.1 then
    bif decide (0≤m.2.2.2.2.1.getD s11.2.1.toNat 0)&&decide (m.2.2.2.2.1.getD s11.2.1.toNat 0<m.2.2.2.1.length) then
     bif decide (0≤s15.2.1)&&decide (s15.2.1<(m.2.2.2.1.getD (m.2.2.2.2.1.getD s11.2.1.toNat 0).toNat zMt).1.length) then
      rec16 ((((m.2.2.2.1.getD (m.2.2.2.2.1.getD s11.2.1.toNat 0).toNat zMt).1.getD s15.2.1.toNat zTp).1)==1,IntKind.i64.wrap (s15.2.1+1),())
     else none
    else none
   else rec12 (s15.1,IntKind.i64.wrap (s11.2.1+1),())
  else rec12 (s15.1,IntKind.i64.wrap (s11.2.1+1),())
 else none
def yV (m:Im) (fuel:Nat) (s11:Bool×Int×Unit) (rec12:(Bool×Int×Unit)→Option (Int×Unit)):Option (Int×Unit):=
 bif decide (s11.2.1<(m.2.2.2.2.1.length:Int)) then
  bif s11.1 then
   bif decide (0≤s11.2.1)&&decide (s11.2.1<m.2.2.2.2.1.length) then
    bif decide (m.2.2.2.2.1.getD s11.2.1.toNat 0≥(m.2.2.2.1.length:Int)) then
     some ((3:Int),())
    else
     (bif decide (0≤m.2.2.2.2.1.getD s11.2.1.toNat 0)&&decide (m.2.2.2.2.1.getD s11.2.1.toNat 0<m.2.2.2.1.length) then
      bif ((m.2.2.2.1.getD (m.2.2.2.2.1.getD s11.2.1.toNat 0).toNat zMt).2.2.1.1)==1 then
       some (.inl (true,()))
      else bif decide (0≤m.2.2.2.2.1.getD s11.2.1.toNat 0)&&decide (m.2.2.2.2.1.getD s11.2.1.toNat 0<m.2.2.2.1.length) then
       some (.inl (((m.2.2.2.1.getD (m.2.2.2.2.1.getD s11.2.1.toNat 0).toNat zMt).2.2.1.1)==5,()))
      else none
     else none:Option ((Bool×Unit)⊕(Int×Unit))).bind fun q=>match q with
     | .inr r14=>some r14
     | .inl s13=>
      aD (aBq m s11 rec12) fuel (s13.1,((0:Int),()))
   else none
  else bif !s11.1 then
   some ((3:Int),())
  else some ((0:Int),())
 else bif !s11.1 then
  some ((3:Int),())
 else some ((0:Int),())
def aKI (fuel:Nat) (m:Im):Option (Int×Unit):=
 bif !(jT m) then
  some ((2:Int),())
 else
  (aD (yW m) fuel ((pZ m m.2.1),((0:Int),())):Option ((Bool×Unit)⊕(Int×Unit))).bind fun q=>match q with
  | .inr r2=>some r2
  | .inl s1=>
   (aD (vY m) fuel (s1.1,((0:Int),())):Option ((Bool×Unit)⊕(Int×Unit))).bind fun q=>match q with
   | .inr r7=>some r7
   | .inl s6=>
    aD (yV m fuel) fuel (s6.1,((0:Int),()))
def aJq (n:Int) (c:Int):Option (Bool×Unit):=
 bif decide (n≥0) then
  some (decide (n<c),())
 else some (false,())
def aRK (m:Im) (l:List (List Tp)):Prop:=((m.1.length≤lenMax∧∀x1:Cl,x1∈m.1→(True∧((x1.2.1.length≤lenMax∧∀x2:Tp,x2∈x1.2.1→(True∧(True∧True)))∧((x1.2.2.1.length≤lenMax∧∀x2:Int,x2∈x1.2.2.1→True)∧True))))∧((m.2.1.length≤lenMax∧∀x1:Tp,x1∈m.2.1→(True∧(True∧True)))∧((m.2.2.1.length≤lenMax∧∀x1:Int,x1∈m.2.2.1→True)∧((m.2.2.2.1.length≤lenMax∧∀x1:Mt,x1∈m.2.2.2.1→((x1.1.length≤lenMax∧∀x2:Tp,x2∈x1.1→(True∧(True∧True)))∧((x1.2.1.length≤lenMax∧∀x2:Tp,x2∈x1.2.1→(True∧(True∧True)))∧((True∧(True∧True))∧((x1.2.2.2.1.length≤lenMax∧∀x2:Ins,x2∈x1.2.2.2.1→(True∧(True∧(True∧True))))∧(True∧(True∧((x1.2.2.2.2.2.2.1.length≤lenMax∧∀x2:Int,x2∈x1.2.2.2.2.2.2.1→True)∧True))))))))∧((m.2.2.2.2.1.length≤lenMax∧∀x1:Int,x1∈m.2.2.2.2.1→True)∧(True∧(True∧True)))))))∧(l.length≤lenMax∧∀x1:List Tp,x1∈l→(x1.length≤lenMax∧∀x2:Tp,x2∈x1→(True∧(True∧True))))∧True
def aFE (m:Im) (l:List (List Tp)) (s1:Int×Unit) (rec2:(Int×Unit)→Option (Bool×Unit)) (s3:Int×Unit) (rec4:(Int×Unit)→Option (Bool×Unit)):Option (Bool×Unit):=
 bif decide (s3.1<((l.getD s1.1.toNat ([]:List Tp)).length:Int)) then
  bif decide (0≤s3.1)&&decide (s3.1<(l.getD s1.1.toNat ([]:List Tp)).length) then
   bif !(fE ((l.getD s1.1.toNat ([]:List Tp)).getD s3.1.toNat zTp) (m.1.length:Int)) then
    some (false,())
   else rec4 (IntKind.i64.wrap (s3.1+1),())
  else none
 else rec2 (IntKind.i64.wrap (s1.1+1),())
def aCO (m:Im) (l:List (List Tp)) (fuel:Nat) (s1:Int×Unit) (rec2:(Int×Unit)→Option (Bool×Unit)):Option (Bool×Unit):=
 bif decide (s1.1<(l.length:Int)) then
  bif decide (0≤s1.1)&&decide (s1.1<l.length) then
   aD (aFE m l s1 rec2) fuel ((0:Int),())
  else none
 else some (true,())
def aJH (fuel:Nat) (m:Im) (l:List (List Tp)):Option (Bool×Unit):=
 aD (aCO m l fuel) fuel ((0:Int),())
def aCP (m:Im) (s1:List Int×Unit) (s3:Int×Int×Unit) (rec4:(Int×Int×Unit)→Option (Int×List Int×Unit)):Option (Int×List Int×Unit):=
 bif decide (s3.2.1≥0) then
  bif decide (0≤s3.2.1)&&decide (s3.2.1<m.1.length) then
   bif decide (0≤s3.2.1)&&decide (s3.2.1<m.1.length) then
    rec4 (IntKind.i64.wrap (s3.1+((m.1.getD s3.2.1.toNat zCl).2.1.length:Int)),(m.1.getD s3.2.1.toNat zCl).1,())
   else none
  else none
 else some (s3.1,s1.1,())
def aJL (fuel:Nat) (m:Im) (c:Int):Option (Int×List Int×Unit):=
 (bif decide (0≤c)&&decide (c<m.1.length) then
  bif decide ((m.1.getD c.toNat zCl).1≥0) then
   bif decide (0≤(m.1.getD c.toNat zCl).1)&&decide ((m.1.getD c.toNat zCl).1<m.1.length) then
    some (.inl ((m.1.getD (m.1.getD c.toNat zCl).1.toNat zCl).2.2.1,()))
   else none
  else some (.inl (([]:List Int),()))
 else none:Option ((List Int×Unit)⊕(Int×List Int×Unit))).bind fun q=>match q with
 | .inr r2=>some r2
 | .inl s1=>
  bif decide (0≤c)&&decide (c<m.1.length) then
   aD (aCP m s1) fuel ((0:Int),(m.1.getD c.toNat zCl).1,())
  else none
def aJr (m:Im) (c:Int) (f:Int):Option (Bool×Unit):=
 bif decide (0≤f)&&decide (f<m.2.2.2.1.length) then
  bif decide (((m.2.2.2.1.getD f.toNat zMt).1.length:Int)>0) then
   bif decide ((0:Int)<(m.2.2.2.1.getD f.toNat zMt).1.length) then
    some ((cN m.1 ((3:Int),c,()) ((m.2.2.2.1.getD f.toNat zMt).1.getD 0 zTp)),())
   else none
  else some (false,())
 else none
def aJI (a:Mt) (b:Mt):Option (Bool×Unit):=
 bif decide ((a.1.length:Int)>0) then
  bif decide ((b.1.length:Int)>0) then
   bif decide ((1:Int)≤(a.1.length:Int))&&decide ((a.1.length:Int)≤(a.1.length:Int)) then
    bif decide ((1:Int)≤(b.1.length:Int))&&decide ((b.1.length:Int)≤(b.1.length:Int)) then
     bif (eqL ((a.1.take a.1.length).drop 1) ((b.1.take b.1.length).drop 1)) then
      some ((a.2.2.1.1==b.2.2.1.1)&&((a.2.2.1.2.1==b.2.2.1.2.1)&&true),())
     else some (false,())
    else none
   else none
  else some (false,())
 else some (false,())
def aCM (m:Im) (c:Int) (r1:Int×List Int×Unit) (s2:Int×Unit) (rec3:(Int×Unit)→Option (Bool×Unit)):Option (Bool×Unit):=
 bif decide (s2.1<((m.1.getD c.toNat zCl).2.2.1.length:Int)) then
  bif decide (0≤s2.1)&&decide (s2.1<(m.1.getD c.toNat zCl).2.2.1.length) then
   bif !(sin ((m.1.getD c.toNat zCl).2.2.1.getD s2.1.toNat 0) (m.2.2.2.1.length:Int)) then
    some (false,())
   else
    (yF m c ((m.1.getD c.toNat zCl).2.2.1.getD s2.1.toNat 0)).bind fun r4=>
    bif !r4.1 then
     some (false,())
    else bif decide (s2.1<(r1.2.1.length:Int)) then
     bif decide (0≤(m.1.getD c.toNat zCl).2.2.1.getD s2.1.toNat 0)&&decide ((m.1.getD c.toNat zCl).2.2.1.getD s2.1.toNat 0<m.2.2.2.1.length) then
      bif decide (0≤s2.1)&&decide (s2.1<r1.2.1.length) then
       bif decide (0≤r1.2.1.getD s2.1.toNat 0)&&decide (r1.2.1.getD s2.1.toNat 0<m.2.2.2.1.length) then
        bif !(aA7 (m.2.2.2.1.getD ((m.1.getD c.toNat zCl).2.2.1.getD s2.1.toNat 0).toNat zMt) (m.2.2.2.1.getD (r1.2.1.getD s2.1.toNat 0).toNat zMt)) then
         some (false,())
        else rec3 (IntKind.i64.wrap (s2.1+1),())
       else none
      else none
     else none
    else rec3 (IntKind.i64.wrap (s2.1+1),())
  else none
 else some (true,())
def aJD (fuel:Nat) (m:Im) (c:Int):Option (Bool×Unit):=
 bif decide (0≤c)&&decide (c<m.1.length) then
  bif decide ((m.1.getD c.toNat zCl).1≥c) then
   some (false,())
  else bif !(kM m [(m.1.getD c.toNat zCl).2.1]) then
   some (false,())
  else
   (rN m c).bind fun r1=>
   bif decide (IntKind.i64.wrap (r1.1+((m.1.getD c.toNat zCl).2.1.length:Int))>8) then
    some (false,())
   else bif decide (((m.1.getD c.toNat zCl).2.2.1.length:Int)<(r1.2.1.length:Int)) then
    some (false,())
   else aD (aCM m c r1) fuel ((0:Int),())
 else none
def aJs (c:Int) (m:Im):Option (Int×Unit):=
 (rN m c).bind fun r1=>
 bif decide (0≤c)&&decide (c<m.1.length) then
  some (IntKind.i64.wrap (r1.1+((m.1.getD c.toNat zCl).2.1.length:Int)),())
 else none
def aJp (m:Im) (x:Mt) (i:Ins) (f:Im×Unit):Option (Bool×Unit):=
 bif i.1==1 then
  some ((sin i.2.1 (m.2.2.1.length:Int)),())
 else
  (bif i.1==3 then
   some (.inl (true,()))
  else some (.inl (i.1==4,())):Option ((Bool×Unit)⊕(Bool×Unit))).bind fun q=>match q with
  | .inr r2=>some r2
  | .inl s1=>
   bif s1.1 then
    some ((sin i.2.1 (IntKind.i64.wrap ((x.1.length:Int)+(x.2.1.length:Int)))),())
   else
    (bif i.1==18 then
     some (.inl (true,()))
    else some (.inl (i.1==19,())):Option ((Bool×Unit)⊕(Bool×Unit))).bind fun q=>match q with
    | .inr r4=>some r4
    | .inl s3=>
     bif s3.1 then
      some ((sin i.2.1 (x.2.2.2.1.length:Int)),())
     else
      (bif i.1==22 then
       some (.inl (true,()))
      else some (.inl (i.1==34,())):Option ((Bool×Unit)⊕(Bool×Unit))).bind fun q=>match q with
      | .inr r6=>some r6
      | .inl s5=>
       bif s5.1 then
        some ((sin i.2.1 (m.1.length:Int)),())
       else
        (bif i.1==27 then
         some (.inl (true,()))
        else some (.inl (i.1==28,())):Option ((Bool×Unit)⊕(Bool×Unit))).bind fun q=>match q with
        | .inr r8=>some r8
        | .inl s7=>
         bif s7.1 then
          bif (sin i.2.1 (m.1.length:Int)) then
           (vP i.2.1 f.1).bind fun r9=>
           some ((sin i.2.2.1 r9.1),())
          else some (false,())
         else
          (bif i.1==29 then
           some (.inl (true,()))
          else some (.inl (i.1==30,())):Option ((Bool×Unit)⊕(Bool×Unit))).bind fun q=>match q with
          | .inr r11=>some r11
          | .inl s10=>
           bif s10.1 then
            some ((sin i.2.1 (m.2.1.length:Int)),())
           else bif i.1==31 then
            some ((sin i.2.1 (m.2.2.2.1.length:Int)),())
           else bif i.1==32 then
            bif (sin i.2.1 (m.1.length:Int)) then
             bif decide (0≤i.2.1)&&decide (i.2.1<m.1.length) then
              some ((sin i.2.2.1 ((m.1.getD i.2.1.toNat zCl).2.2.1.length:Int)),())
             else none
            else some (false,())
           else some (true,())
def aCK (m:Im) (x:Mt) (s3:Int×Unit) (rec4:(Int×Unit)→Option (Bool×Unit)):Option (Bool×Unit):=
 bif decide (s3.1<(x.2.2.2.1.length:Int)) then
  bif decide (0≤s3.1)&&decide (s3.1<x.2.2.2.1.length) then
   (yE m x (x.2.2.2.1.getD s3.1.toNat cC) (m,())).bind fun r5=>
   bif !r5.1 then
    some (false,())
   else rec4 (IntKind.i64.wrap (s3.1+1),())
  else none
 else some (true,())
def aJj (fuel:Nat) (m:Im) (x:Mt):Option (Bool×Unit):=
 (bif !(kM m [x.1,x.2.1]) then
  some (.inr (false,()))
 else bif !((x.2.2.1.1==5)&&((x.2.2.1.2.1==0)&&true)) then
  bif !(kM m [[x.2.2.1]]) then
   some (.inr (false,()))
  else some (.inl ())
 else some (.inl ()):Option (Unit⊕(Bool×Unit))).bind fun q=>match q with
 | .inr r2=>some r2
 | .inl _=>
  bif (x.2.2.2.1.length:Int)==0 then
   some (false,())
  else bif (x.2.2.2.2.2.2.1.length:Int) !=(x.2.2.2.1.length:Int) then
   some (false,())
  else bif decide (IntKind.i64.wrap ((x.1.length:Int)+(x.2.1.length:Int))>8) then
   some (false,())
  else aD (aCK m x) fuel ((0:Int),())
def aJC (t:Tp):Option (Bool×Unit):=
 some ((t.1==1)&&((t.2.1==0)&&true),())
def aRy (t:Tp) (_f:Unit):Option (Bool×Unit):=
 some (!(sentry1 t),())
def aJA (m:Im) (f:Int):Option (Bool×Unit):=
 bif !(sin f (m.2.2.2.1.length:Int)) then
  some (false,())
 else bif decide (0≤f)&&decide (f<m.2.2.2.1.length) then
  bif (sentry1 (m.2.2.2.1.getD f.toNat zMt).2.2.1) then
   some (!(aAw (m.2.2.2.1.getD f.toNat zMt).1 ((),())),())
  else bif ((m.2.2.2.1.getD f.toNat zMt).2.2.1.1)==5 then
   some (!(aAw (m.2.2.2.1.getD f.toNat zMt).1 ((),())),())
  else some (false,())
 else none
def aRF (m:Im):Prop:=((m.1.length≤lenMax∧∀x1:Cl,x1∈m.1→(True∧((x1.2.1.length≤lenMax∧∀x2:Tp,x2∈x1.2.1→(True∧(True∧True)))∧((x1.2.2.1.length≤lenMax∧∀x2:Int,x2∈x1.2.2.1→True)∧True))))∧((m.2.1.length≤lenMax∧∀x1:Tp,x1∈m.2.1→(True∧(True∧True)))∧((m.2.2.1.length≤lenMax∧∀x1:Int,x1∈m.2.2.1→True)∧((m.2.2.2.1.length≤lenMax∧∀x1:Mt,x1∈m.2.2.2.1→((x1.1.length≤lenMax∧∀x2:Tp,x2∈x1.1→(True∧(True∧True)))∧((x1.2.1.length≤lenMax∧∀x2:Tp,x2∈x1.2.1→(True∧(True∧True)))∧((True∧(True∧True))∧((x1.2.2.2.1.length≤lenMax∧∀x2:Ins,x2∈x1.2.2.2.1→(True∧(True∧(True∧True))))∧(True∧(True∧((x1.2.2.2.2.2.2.1.length≤lenMax∧∀x2:Int,x2∈x1.2.2.2.2.2.2.1→True)∧True))))))))∧((m.2.2.2.2.1.length≤lenMax∧∀x1:Int,x1∈m.2.2.2.2.1→True)∧(True∧(True∧True)))))))∧True
def aCN (m:Im) (s7:Int×Unit) (rec8:(Int×Unit)→Option (Int×Unit)):Option (Int×Unit):=
 bif decide (s7.1<(m.2.2.2.2.1.length:Int)) then
  bif decide (0≤s7.1)&&decide (s7.1<m.2.2.2.2.1.length) then
   (aCL m (m.2.2.2.2.1.getD s7.1.toNat 0)).bind fun r9=>
   bif !r9.1 then
    some ((3:Int),())
   else rec8 (IntKind.i64.wrap (s7.1+1),())
  else none
 else some ((0:Int),())
def aA6 (m:Im) (fuel:Nat) (s4:Int×Unit) (rec5:(Int×Unit)→Option (Int×Unit)):Option (Int×Unit):=
 bif decide (s4.1<(m.2.2.2.1.length:Int)) then
  bif decide (0≤s4.1)&&decide (s4.1<m.2.2.2.1.length) then
   (yD m (m.2.2.2.1.getD s4.1.toNat zMt)).bind fun r6=>
   bif !r6.1 then
    some ((3:Int),())
   else rec5 (IntKind.i64.wrap (s4.1+1),())
  else none
 else aD (aCN m) fuel ((0:Int),())
def tO (m:Im) (fuel:Nat) (s1:Int×Unit) (rec2:(Int×Unit)→Option (Int×Unit)):Option (Int×Unit):=
 bif decide (s1.1<(m.1.length:Int)) then
  (tM m s1.1).bind fun r3=>
  bif !r3.1 then
   some ((3:Int),())
  else rec2 (IntKind.i64.wrap (s1.1+1),())
 else aD (aA6 m fuel) fuel ((0:Int),())
def aJE (fuel:Nat) (m:Im):Option (Int×Unit):=
 bif !(bI m) then
  some ((2:Int),())
 else bif !(kM m [m.2.1]) then
  some ((3:Int),())
 else aD (tO m fuel) fuel ((0:Int),())
end Go.Pli
