/- What functions of the program come to, in plain Lean. -/
import Derived.Test.YtcofionghgmldaaGreatPMDefs
import Derived.Laws.BitsAllLaws
import Derived.Laws.Bits64
import Derived.Laws.BitsLemmas
namespace Go.Pli
open Go Go.PM
def kH:Nat→Nat→List Int
 | 0,v=>[(v:Int)]
 | k+1,v=>if v<128 then[(v:Int)] else ((128+v % 128:Nat):Int)::kH k (v/128)
def enc (v:Nat):List Int:=kH 10 v
def aFU (b:List Int):Bool:=Nat.blt (b.length+20) rowMax
def put (b:List Int) (n:Int):Option (List Int×Unit):=bif aFU b then some (b++enc (IntKind.u64.wrap (max n 0)).toNat,()) else none
def sJ:Nat→Nat→Nat→List Int→Option (Nat×Nat×Bool)
 | 0,_,_,_=>none
 | _+1,_,_,[]=>none
 | k+1,i,v,c::l=>if c<128 then some (v+128 ^ i*(c.toNat % 128),i+1,i==0 || decide (0<c)) else sJ k (i+1) (v+128 ^ i*(c.toNat % 128)) l
def fG (l:List Int):Bool:=l.all fun c=>decide (0≤c)&&decide (c<256)
abbrev Rd:=List Int×Bool×Unit
def next (r:Rd):Option (Int×Bool×Rd×Unit):=
 bif fG (r.1.take 5) then (match sJ 5 0 0 r.1 with
  | some (v,n,ok)=>some ((v:Int),ok,(r.1.drop n,r.2.1,()),())
  | none=>some (0,false,r,())) else none
def aMV (b:List Int):Option (Int×Int×Unit):=
 bif fG (b.take 5) then (match sJ 5 0 0 b with
  | some (v,n,true)=>some ((v:Int),(n:Int),())
  | _=>some (0,0,())) else none
def rin (l:List Int) (x:Int):Option (Bool×Unit):=bif decide (l.length<9223372036854775807) then some (l.contains x,()) else none
def cQ (o:Int):Int:=
 bif ([1,3,4,18,19,22,23,29,30,31,34]:List Int).contains o then 1
 else bif o==27 || (o==28 || o==32) then 2
 else bif decide (o<1) || decide (o>34) then -1 else 0
def vQ (o:Int):Int:=cQ o
abbrev Ins:=Int×Int×Int×Unit
def kV (n c a:Int):Bool:=bif decide (a≥c) then n==0 else decide (n≥0)&&decide (n≤255)
def dO (i:Ins):Bool:=decide (cQ i.1≥0)&&(kV i.2.1 (cQ i.1) 0&&kV i.2.2.1 (cQ i.1) 1)
def aBw (i:Ins):Bool:=dO i
def aSx (b:List Int) (i:Ins):Option (List Int×Unit):=
 (put b i.1).bind fun r=>bif decide (cQ i.1<1) then some r else (put r.1 i.2.1).bind fun r=>bif decide (cQ i.1<2) then some r else put r.1 i.2.2.1
end Go.Pli

namespace Go.Pli
open Go Go.PM
theorem cC {n:Int} (h0: -9223372036854775808≤n) (h1:n<9223372036854775808):IntKind.i64.wrap n=n:=by
 rw[IntKind.wrap_i64];omega
theorem aL {k n:Nat} (h:k<n) (hn:n≤lenMax):IntKind.i64.wrap ((k:Int)+1)=((k+1:Nat):Int):=by
 simp only[lenMax] at hn
 rw[cC] <;> omega
theorem dlt {k n:Nat} (h:k<n):decide ((k:Int)<(n:Int))=true:=decide_eq_true (by omega)
theorem aW (n:Nat):decide ((n:Int)<(n:Int))=false:=decide_eq_false (by omega)
theorem dge (k:Nat):decide (0≤(k:Int))=true:=decide_eq_true (by omega)
theorem aVN (k:Nat):decide ((k:Int)≥0)=true:=decide_eq_true (by omega)
theorem aD {S R:Type} (L:S→(S→Option R)→Option R) (n:Nat) (s:S):aA L (n+1) s=L s (aA L n):=rfl
theorem dB {α σ R:Type} {L:σ→(σ→Option R)→Option R} {xs:List α} {st:Nat→σ} {p:α→Bool} {ex fin:Option R}
  (h1:∀(k:Nat) (x:α) (rec),xs[k]? =some x→k<xs.length→L (st k) rec=bif p x then rec (st (k+1)) else ex)
  (h2:∀rec,L (st xs.length) rec=fin):∀F:Nat,xs.length<F→aA L F (st 0)=bif xs.all p then fin else ex:=by
 have key:∀(l pre:List α) (F:Nat),xs=pre++l→l.length<F→aA L F (st pre.length)=bif l.all p then fin else ex:=by
  intro l
  induction l with
  | nil=>
   intro pre F hx hF
   obtain⟨F,rfl⟩:∃n,F=n+1:=⟨F - 1,by simp at hF;omega⟩
   rw[List.append_nil] at hx
   subst hx
   rw[aD,h2]
   rfl
  | cons x l ih=>
   intro pre F hx hF
   obtain⟨F,rfl⟩:∃n,F=n+1:=⟨F - 1,by simp at hF;omega⟩
   have hk:xs[pre.length]? =some x:=by rw[hx];simp
   have hl:pre.length<xs.length:=by rw[hx];simp
   rw[aD,h1 pre.length x _ hk hl]
   have:=ih (pre++[x]) F (by rw[hx];simp) (by simp only[List.length_cons] at hF;omega)
   simp only[List.length_append,List.length_cons,List.length_nil,Nat.zero_add] at this
   rw[this,List.all_cons]
   cases p x <;> rfl
 intro F hF
 exact key xs [] F rfl hF
def iW {α:Type} (p:α→Bool):Nat→List α→Int
 | _,[]=> -1
 | k,x::l=>bif p x then (k:Int) else iW p (k+1) l
theorem gY {α:Type} (p:α→Bool):∀(l:List α) (k:Nat),decide (iW p k l≥0)=l.any p
 | [],_=>rfl
 | x::l,k=>by
  simp only[iW,List.any_cons]
  by_cases hp:p x=true
  ·simp[hp]
  ·have hp:p x=false:=by simpa using hp
   simpa[hp] using gY p l (k+1)
theorem iZ {α σ:Type} {L:σ→(σ→Option (Int×Unit))→Option (Int×Unit)} {xs:List α} {st:Nat→σ} {p:α→Bool}
  (h1:∀(k:Nat) (x:α) (rec),xs[k]? =some x→k<xs.length→L (st k) rec=bif p x then some ((k:Int),()) else rec (st (k+1)))
  (h2:∀rec,L (st xs.length) rec=some (-1,())):∀F:Nat,xs.length<F→aA L F (st 0)=some (iW p 0 xs,()):=by
 have key:∀(l pre:List α) (F:Nat),xs=pre++l→l.length<F→aA L F (st pre.length)=some (iW p pre.length l,()):=by
  intro l
  induction l with
  | nil=>
   intro pre F hx hF
   obtain⟨F,rfl⟩:∃n,F=n+1:=⟨F - 1,by simp at hF;omega⟩
   rw[List.append_nil] at hx
   subst hx
   rw[aD,h2]
   rfl
  | cons x l ih=>
   intro pre F hx hF
   obtain⟨F,rfl⟩:∃n,F=n+1:=⟨F - 1,by simp at hF;omega⟩
   have hk:xs[pre.length]? =some x:=by rw[hx];simp
   have hl:pre.length<xs.length:=by rw[hx];simp
   rw[aD,h1 pre.length x _ hk hl]
   have:=ih (pre++[x]) F (by rw[hx];simp) (by simp only[List.length_cons] at hF;omega)
   simp only[List.length_append,List.length_cons,List.length_nil,Nat.zero_add] at this
   simp only[iW,this]
   cases p x <;> rfl
 intro F hF
 exact key xs [] F rfl hF
theorem getD_some {α:Type} {xs:List α} {k:Nat} {x d:α} (h:xs[k]? =some x):xs.getD k d=x:=by simp[h]
theorem aFs {α:Type} [BEq α] [LawfulBEq α] (d:α):∀(a b:List α),a.length=b.length→(∀k,k<a.length→(a.getD k d==b.getD k d)=true)→a=b:=by
 intro a b hl h
 apply List.ext_getElem hl
 intro k h1 h2
 have:=h k h1
 simpa[h1,h2] using this
end Go.Pli

namespace Go.Pli
open Go Go.PM
def aN4 (b:List Int):List Int×Bool×Unit:=
 (b,false,())
def aCa (r:List Int×Bool×Unit) (s1:Int×Int×Unit) (rec2:(Int×Int×Unit)→Option (Int×Bool×(List Int×Bool×Unit)×Unit)):Option (Int×Bool×(List Int×Bool×Unit)×Unit):=
 bif decide (s1.2.1<(r.1.length:Int)) then
  bif decide (0≤s1.2.1)&&decide (s1.2.1<r.1.length) then
   bif s1.2.1==5 then
    some ((0:Int),false,r,())
   else bif !decide (IntKind.i64.wrap ((7:Int)*s1.2.1)<0) then
    bif decide (r.1.getD s1.2.1.toNat 0<128) then
     bif decide (0≤IntKind.i64.wrap (s1.2.1+1))&&decide (IntKind.i64.wrap (s1.2.1+1)≤(r.1.length:Int))&&decide ((r.1.length:Int)≤(r.1.length:Int)) then
      bif s1.2.1==0 then
       some (IntKind.u64.wrap ((BitVec.ofInt 64 s1.1 ||| BitVec.ofInt 64 (IntKind.u64.wrap ((IntKind.u64.wrap ((r.1.getD s1.2.1.toNat 0).tmod 128))*2 ^ (min (IntKind.i64.wrap ((7:Int)*s1.2.1)).toNat 64)))).toNat),true,((r.1.take r.1.length).drop (IntKind.i64.wrap (s1.2.1+1)).toNat,r.2),())
      else some (IntKind.u64.wrap ((BitVec.ofInt 64 s1.1 ||| BitVec.ofInt 64 (IntKind.u64.wrap ((IntKind.u64.wrap ((r.1.getD s1.2.1.toNat 0).tmod 128))*2 ^ (min (IntKind.i64.wrap ((7:Int)*s1.2.1)).toNat 64)))).toNat),decide (r.1.getD s1.2.1.toNat 0>0),((r.1.take r.1.length).drop (IntKind.i64.wrap (s1.2.1+1)).toNat,r.2),())
     else none
    else rec2 (IntKind.u64.wrap ((BitVec.ofInt 64 s1.1 ||| BitVec.ofInt 64 (IntKind.u64.wrap ((IntKind.u64.wrap ((r.1.getD s1.2.1.toNat 0).tmod 128))*2 ^ (min (IntKind.i64.wrap ((7:Int)*s1.2.1)).toNat 64)))).toNat),IntKind.i64.wrap (s1.2.1+1),())
   else none
  else none
 else some ((0:Int),false,r,())
def aSO (fuel:Nat) (r:List Int×Bool×Unit):Option (Int×Bool×(List Int×Bool×Unit)×Unit):=
 aA (aCa r) fuel ((0:Int),((0:Int),()))
def dC (r:List Int×Bool×Unit) (n:Int):Option (Int×(List Int×Bool×Unit)×Unit):=
 bif r.2.1 then
  some ((0:Int),r,())
 else
  (next r).bind fun r1=>
  bif !r1.2.1 then
   some ((0:Int),(r1.2.2.1.1,true,()),())
  else bif decide (n<0) then
   some ((0:Int),(r1.2.2.1.1,true,()),())
  else bif decide (r1.1>IntKind.u64.wrap n) then
   some ((0:Int),(r1.2.2.1.1,true,()),())
  else some (IntKind.i64.wrap r1.1,r1.2.2.1,())
def yV (r:List Int×Bool×Unit):Option (Int×(List Int×Bool×Unit)×Unit):=
 (dC r (4294967295:Int)).bind fun r1=>
 some (IntKind.i32.wrap ((BitVec.ofInt 32 (IntKind.i32.wrap ((IntKind.u32.wrap r1.1).fdiv 2)) ^^^ BitVec.ofInt 32 (IntKind.i32.wrap (0 - (IntKind.i32.wrap (IntKind.u32.wrap ((BitVec.ofInt 32 (IntKind.u32.wrap r1.1)&&&BitVec.ofInt 32 1).toNat)))))).toNat),r1.2.1,())
def aOc (r:List Int×Bool×Unit):Option (Bool×(List Int×Bool×Unit)×Unit):=
 bif !r.2.1 then
  some ((r.1.length:Int)==0,r,())
 else some (false,r,())
def aH6 (l:List Int) (x:Int) (s1:Int×Unit) (rec2:(Int×Unit)→Option (Bool×Unit)):Option (Bool×Unit):=
 bif decide (s1.1<(l.length:Int)) then
  bif decide (0≤s1.1)&&decide (s1.1<l.length) then
   bif (l.getD s1.1.toNat 0)==x then
    some (true,())
   else rec2 (IntKind.i64.wrap (s1.1+1),())
  else none
 else some (false,())
def aVJ (fuel:Nat) (l:List Int) (x:Int):Option (Bool×Unit):=
 aA (aH6 l x) fuel ((0:Int),())
def aP1 (o:Int):Option (Int×Unit):=
 bif decide (o<1) then
  some ((-1:Int),())
 else bif decide (o>34) then
  some ((-1:Int),())
 else
  (rin ([1,3,4,18,19,22,23,29,30,31,34]:List Int) o).bind fun r1=>
  bif r1.1 then
   some ((1:Int),())
  else bif o==27 then
   some ((2:Int),())
  else bif o==28 then
   some ((2:Int),())
  else bif o==32 then
   some ((2:Int),())
  else some ((0:Int),())
def aOk (o:Int):Option (Int×Unit):=
 (bif o==1 then
  some (.inl (true,()))
 else bif o==3 then
  some (.inl (true,()))
 else bif o==4 then
  some (.inl (true,()))
 else bif o==18 then
  some (.inl (true,()))
 else bif o==19 then
  some (.inl (true,()))
 else bif o==22 then
  some (.inl (true,()))
 else bif o==23 then
  some (.inl (true,()))
 else bif o==29 then
  some (.inl (true,()))
 else bif o==30 then
  some (.inl (true,()))
 else bif o==31 then
  some (.inl (true,()))
 else some (.inl (o==34,())):Option ((Bool×Unit)⊕(Int×Unit))).bind fun q=>match q with
 | .inr r2=>some r2
 | .inl s1=>
  bif s1.1 then
   some ((1:Int),())
  else bif o==27 then
   some ((2:Int),())
  else bif o==28 then
   some ((2:Int),())
  else bif o==32 then
   some ((2:Int),())
  else bif decide (o<1) then
   some ((-1:Int),())
  else bif decide (o>34) then
   some ((-1:Int),())
  else some ((0:Int),())
def aLO (n:Int) (c:Int) (a:Int):Option (Bool×Unit):=
 bif decide (a≥c) then
  some (n==0,())
 else bif decide (n≥0) then
  some (decide (n≤255),())
 else some (false,())
def aOj (i:Int×Int×Int×Unit):Option (Bool×Unit):=
 bif decide ((cQ i.1)≥0) then
  bif (kV i.2.1 (cQ i.1) (0:Int)) then
   some ((kV i.2.2.1 (cQ i.1) (1:Int)),())
  else some (false,())
 else some (false,())
def aIf (r:List Int×Bool×Unit):Option ((Int×Int×Int×Unit)×(List Int×Bool×Unit)×Unit):=
 (dC r (34:Int)).bind fun r1=>
 bif decide ((cQ r1.1)>0) then
  (dC r1.2.1 (255:Int)).bind fun r2=>
  bif decide ((cQ r1.1)>1) then
   (dC r2.2.1 (255:Int)).bind fun r3=>
   some ((r1.1,r2.1,r3.1,()),r3.2.1,())
  else some ((r1.1,r2.1,((0:Int),())),r2.2.1,())
 else bif decide ((cQ r1.1)>1) then
  (dC r1.2.1 (255:Int)).bind fun r4=>
  some ((r1.1,((0:Int),r4.1,())),r4.2.1,())
 else some ((r1.1,((0:Int),((0:Int),()))),r1.2.1,())
def aLS (i:Int×Int×Int×Unit):Option (Bool×Unit):=
 (bif decide ((vQ i.1)<0) then
  some (.inr (false,()))
 else bif decide ((vQ i.1)<1) then
  bif i.2.1 !=0 then
   some (.inr (false,()))
  else bif decide ((vQ i.1)<2) then
   bif i.2.2.1 !=0 then
    some (.inr (false,()))
   else some (.inl ())
  else some (.inl ())
 else bif decide ((vQ i.1)<2) then
  bif i.2.2.1 !=0 then
   some (.inr (false,()))
  else some (.inl ())
 else some (.inl ()):Option (Unit⊕(Bool×Unit))).bind fun q=>match q with
 | .inr r2=>some r2
 | .inl _=>
  bif decide (i.2.1≥0) then
   bif decide (i.2.1≤255) then
    bif decide (i.2.2.1≥0) then
     some (decide (i.2.2.1≤255),())
    else some (false,())
   else some (false,())
  else some (false,())
def aBO (l:List (Int×Int×Int×Unit)) (s3:List Int×Int×Int×Unit) (rec4:(List Int×Int×Int×Unit)→Option ((List Int×Int×Unit)⊕(Bool×Unit))):Option ((List Int×Int×Unit)⊕(Bool×Unit)):=
 bif decide (s3.2.2.1<(l.length:Int)) then
  bif decide (s3.2.2.1<60) then
   bif decide (0≤s3.2.2.1)&&decide (s3.2.2.1<l.length) then
    bif (dO (l.getD s3.2.2.1.toNat ((0:Int),((0:Int),((0:Int),()))))) then
     bif decide (0≤s3.2.2.1)&&decide (s3.2.2.1<l.length) then
      (aSx s3.1 (l.getD s3.2.2.1.toNat ((0:Int),((0:Int),((0:Int),()))))).bind fun r5=>
      rec4 (r5.1,IntKind.i64.wrap (s3.2.1+1),IntKind.i64.wrap (s3.2.2.1+1),())
     else none
    else rec4 (s3.1,s3.2.1,IntKind.i64.wrap (s3.2.2.1+1),())
   else none
  else some (.inl (s3.1,s3.2.1,()))
 else some (.inl (s3.1,s3.2.1,()))
end Go.Pli

namespace Go.Pli
open Go Go.PM
abbrev Tp:=Int×Int×Unit
abbrev Cl:=Int×List Tp×List Int×Unit
abbrev Mt:=List Tp×List Tp×Tp×List Ins×Int×Int×List Int×Unit
abbrev Im:=List Cl×List Tp×List Int×List Mt×List Int×Int×Int×Unit
abbrev zTp:Tp:=(0,0,())
abbrev dJ:Ins:=(0,0,0,())
abbrev zCl:Cl:=(0,[],[],())
abbrev zMt:Mt:=([],[],zTp,[],0,0,[],())
abbrev zIm:Im:=([],[],[],[],[],0,0,())
def idL {α:Type} (s:List α):List α:=s
def eqL {α:Type} [BEq α] (a b:List α):Bool:=a==b
def bK (n m:Int):Bool:=decide (0≤n)&&decide (n≤m)
def ityp (t:Tp):Bool:=bK t.1 5&&(t.2.1==0 || (t.1==3&&bK t.2.1 7))
def aCU (t:Tp):Bool:= !ityp t
def cP (l:List Tp) (m:Int):Bool:=decide ((l.length:Int)≤m)&&l.all ityp
def aAz (n m:Int):Bool:= !bK n m
def eM (l:List Int) (c m:Int):Bool:=decide ((l.length:Int)≤c)&&l.all fun n=>bK n m
def imethod (x:Mt):Bool:=
 cP x.1 4&&(cP x.2.1 8&&(ityp x.2.2.1&&(decide ((x.2.2.2.1.length:Int)≤64)&&(x.2.2.2.1.all dO&&(bK x.2.2.2.2.1 8&&(bK x.2.2.2.2.2.1 4096&&eM x.2.2.2.2.2.2.1 64 4096))))))
def iclass (x:Cl):Bool:=decide (-1≤x.1)&&(decide (x.1<8)&&(cP x.2.1 8&&eM x.2.2.1 4 11))
def xW (x:Cl):Bool:= !iclass x
def xV (x:Mt):Bool:= !imethod x
def bD (m:Im):Bool:=
 decide ((m.1.length:Int)≤8)&&(cP m.2.1 8&&(decide ((m.2.2.1.length:Int)≤16)&&(decide ((m.2.2.2.1.length:Int)≤12)&&(m.1.all iclass&&(m.2.2.2.1.all imethod&&
  (eM m.2.2.2.2.1 12 11&&(bK m.2.2.2.2.2.1 4096&&bK m.2.2.2.2.2.2.1 4096)))))))
def tF (l:List Cl) (_:Unit):Int:=iW xW 0 l
def rB (l:List Mt) (_:Unit):Int:=iW xV 0 l
def sV (l:List Tp) (_:Unit):Int:=iW aCU 0 l
def wA (l:List Int) (c:Int×Unit):Int:=iW (fun n=>aAz n c.1) 0 l
def kN (l:List Cl) (_:Unit):Bool:=l.any xW
def jN (l:List Mt) (_:Unit):Bool:=l.any xV
def kQ (l:List Tp) (_:Unit):Bool:=l.any aCU
def lY (l:List Int) (c:Int×Unit):Bool:=l.any fun n=>aAz n c.1
def mW (n a b:Int):Bool:=decide (a≤n)&&decide (n≤b)
def pI (l:List Int) (c m:Int):Bool:=eM l c m
def wP (t:Tp):Bool:=ityp t
def jP (l:List Tp) (c:Int):Bool:=cP l c
def rN (m:Im):Bool:=bD m
def dV (t:Tp) (n:Int):Bool:=bif t.1==1 || t.1==2 then t.2.1==0 else t.1==3&&(decide (0≤t.2.1)&&decide (t.2.1<n))
def aAB (t:Tp) (n:Int):Bool:=dV t n
def gO (t:Tp):Bool:=t.1==2 || (t.1==3 || t.1==4)
def vD (t:Tp):Bool:=gO t
def bX (l:List Cl) (c:Int):Int:=(l.getD c.toNat zCl).1
def kup (l:List Cl) (c:Int):Int:=bif decide (c<0) || (decide (c≥(l.length:Int)) || decide (bX l c≥c)) then -1 else bX l c
def sB (l:List Cl):Nat→Int→List Int
 | 0,_=>[]
 | n+1,c=>bif decide (c<0) then[] else c::sB l n (kup l c)
def bQ (l:List Cl) (c:Int):List Int:=sB l (c.toNat+1) c
def bY (l:List Cl) (a b:Int):Bool:=decide (0≤b)&&(decide (b<(l.length:Int))&&(decide (a<(l.length:Int))&&(bQ l a).contains b))
def cO (l:List Cl) (a b:Tp):Bool:=bif a.1==4 then gO b else bif a.1==3&&b.1==3 then bY l a.2.1 b.2.1 else a==b&&(a.1==1 || a.1==2)
def okL {α:Type} (l:List α):Bool:=Nat.blt l.length 1000000
def aY (l:List Cl) (c:Int):List Int:=bif decide (c<(l.length:Int)) then bQ l c else[]
def jA (l:List Cl) (c:Int):Option (List Int×Unit):=bif okL l then some (aY l c,()) else none
def aCB (l:List Cl) (a b:Tp):Bool:=bif a.1==4 then gO b else bif a.1==3 then b.1==3&&(aY l a.2.1).contains b.2.1 else a==b&&(a.1==1 || a.1==2)
def uW (l:List Cl) (a b:Tp):Option (Bool×Unit):=bif okL l then some (aCB l a b,()) else none
def rW (a b:List Tp):Bool:=a==b
def aE1 (m:Im):Option (Im×Unit):=bif bD m then some (m,()) else none
def sin (n c:Int):Bool:=decide (0≤n)&&decide (n<c)
def cV (m:Im) (l:List Tp):Bool:=l.all fun t=>dV t (m.1.length:Int)
def nH (m:Im) (l:List Tp):Bool:=cV m l
def nS (m:Im) (l:List (List Tp)):Bool:=l.all (cV m)
def bG (m:Im) (c:Int):Cl:=m.1.getD c.toNat zCl
def aC (m:Im) (f:Int):Mt:=m.2.2.2.1.getD f.toNat zMt
def bJ:List Nat→Nat
 | []=>0
 | n::l=>n+bJ l
def dP (m:Im) (c:Int):Nat:=bJ ((bQ m.1 c).map fun s=>(bG m s).2.1.length)
def bS (m:Im) (c:Int):List Int:=bif decide (0≤bX m.1 c) then (bG m (bX m.1 c)).2.2.1 else[]
def aFb (a b:Mt):Bool:=decide (0<a.1.length)&&(decide (0<b.1.length)&&(a.1.drop 1==b.1.drop 1&&a.2.2.1==b.2.2.1))
def aBd (a b:Mt):Bool:=aFb a b
def aAU (m:Im) (c f:Int):Bool:=decide (0<(aC m f).1.length)&&cO m.1 (3,c,()) ((aC m f).1.getD 0 zTp)
def rD (m:Im) (c:Int) (n:Nat) (f:Int):Bool:=
 sin f (m.2.2.2.1.length:Int)&&(aAU m c f&&(!decide (n<(bS m c).length) || aFb (aC m f) (aC m ((bS m c).getD n 0))))
def lG {α:Type} (p:Nat→α→Bool):Nat→List α→Bool
 | _,[]=>true
 | k,x::l=>p k x&&lG p (k+1) l
def cN (m:Im) (c:Int):Bool:=
 decide (bX m.1 c<c)&&(cV m (bG m c).2.1&&(decide (dP m c≤8)&&(decide ((bS m c).length≤(bG m c).2.2.1.length)&&lG (rD m c) 0 (bG m c).2.2.1)))
def ahead (m:Im) (c:Int):Bool:=(List.range c.toNat).all fun k=>cN m (k:Int)
def lM (m:Im) (c:Int):Bool:=bD m&&(decide (0≤c)&&(decide (c<(m.1.length:Int))&&ahead m c))
def mU (m:Im):Bool:=(List.range m.1.length).all fun k=>cN m (k:Int)
def gN (m:Im) (c:Int):Nat:=bJ ((bQ m.1 (bX m.1 c)).map fun s=>(bG m s).2.1.length)
def pL (m:Im) (c:Int):Option (Int×List Int×Unit):=bif lM m c&&decide (bX m.1 c<c) then some ((gN m c:Int),bS m c,()) else none
def aCq (m:Im) (c f:Int):Option (Bool×Unit):=bif sin f (m.2.2.2.1.length:Int) then some (aAU m c f,()) else none
def sE (m:Im) (c:Int):Option (Bool×Unit):=bif lM m c then some (cN m c,()) else none
def eQ (m:Im) (c:Int):Option (List Tp×Unit):=bif bD m then some ((((aY m.1 c).reverse).map fun s=>(bG m s).2.1).flatten,()) else none
def tU (m:Im) (c:Int):Option (Bool×Unit):=bif lM m c then some (cN m c,()) else none
def pN (c:Int) (m:Im):Option (Int×Unit):=bif bD m&&(mU m&&sin c (m.1.length:Int)) then some ((dP m c:Int),()) else none
def bH (m:Im) (x:Mt) (i:Ins):Bool:=
 bif i.1==1 then sin i.2.1 (m.2.2.1.length:Int)
 else bif i.1==3 || i.1==4 then sin i.2.1 ((x.1.length+x.2.1.length:Nat):Int)
 else bif i.1==18 || i.1==19 then sin i.2.1 (x.2.2.2.1.length:Int)
 else bif i.1==22 || i.1==34 then sin i.2.1 (m.1.length:Int)
 else bif i.1==27 || i.1==28 then sin i.2.1 (m.1.length:Int)&&sin i.2.2.1 (dP m i.2.1:Int)
 else bif i.1==29 || i.1==30 then sin i.2.1 (m.2.1.length:Int)
 else bif i.1==31 then sin i.2.1 (m.2.2.2.1.length:Int)
 else bif i.1==32 then sin i.2.1 (m.1.length:Int)&&sin i.2.2.1 ((bG m i.2.1).2.2.1.length:Int)
 else true
def mT (m:Im) (x:Mt):Bool:=bD m&&(mU m&&imethod x)
def xR (m:Im) (x:Mt) (i:Ins) (f:Im×Unit):Option (Bool×Unit):=bif mT m x&&f.1==m then some (bH m x i,()) else none
def tY (m:Im) (x:Mt) (i:Ins):Option (Bool×Unit):=bif mT m x&&dO i then some (bH m x i,()) else none
def cI (m:Im) (x:Mt):Bool:=
 cV m x.1&&(cV m x.2.1&&((x.2.2.1==(5,0,()) || dV x.2.2.1 (m.1.length:Int))&&(decide (x.2.2.2.1.length≠0)&&(decide (x.2.2.2.2.2.2.1.length=x.2.2.2.1.length)&&
  (decide (x.1.length+x.2.1.length≤8)&&x.2.2.2.1.all (bH m x))))))
def tW (m:Im) (x:Mt):Option (Bool×Unit):=bif mT m x then some (cI m x,()) else none
def pT (m:Im) (x:Mt):Option (Bool×Unit):=bif mT m x then some (cI m x,()) else none
def sentry1 (t:Tp):Bool:=t.1==1&&t.2.1==0
def tZ (t:Tp) (_:Unit):Bool:= !sentry1 t
def tJ (l:List Tp) (_:Unit×Unit):Int:=iW (fun t=>tZ t ()) 0 l
def iS (l:List Tp) (_:Unit×Unit):Bool:=l.any fun t=>tZ t ()
def gR (m:Im) (f:Int):Bool:=sin f (m.2.2.2.1.length:Int)&&((sentry1 (aC m f).2.2.1 || (aC m f).2.2.1.1==5)&&(aC m f).1.all sentry1)
def aEN (m:Im) (f:Int):Option (Bool×Unit):=some (gR m f,())
def lK (m:Im):Bool:=cV m m.2.1&&(mU m&&(m.2.2.2.1.all (cI m)&&m.2.2.2.2.1.all (gR m)))
def eK (m:Im):Int:=bif bD m then (bif lK m then 0 else 3) else 2
def rZ (m:Im):Int:=eK m
def qP {α:Type} (f:Rd→Option (α×Rd×Unit)):Nat→Rd→Option (List α×Rd×Unit)
 | 0,r=>some ([],r,())
 | n+1,r=>(f r).bind fun q=>(qP f n q.2.1).bind fun p=>some (q.1::p.1,p.2.1,())
def oH (r:Rd):Option (Tp×Rd×Unit):=
 (dC r 5).bind fun a=>bif a.1==3 then (dC a.2.1 7).bind fun b=>some ((a.1,b.1,()),b.2.1,()) else some ((a.1,0,()),a.2.1,())
def nD {α:Type} (f:Rd→Option (α×Rd×Unit)) (r:Rd) (m:Int):Option (List α×Rd×Unit):=(dC r m).bind fun a=>qP f a.1.toNat a.2.1
def fH (r:Rd) (m:Int):Option (List Tp×Rd×Unit):=bif decide (m≤1000) then nD oH r m else none
def iJ (r:Rd) (c m:Int):Option (List Int×Rd×Unit):=bif decide (c≤1000) then nD (fun r=>dC r m) r c else none
def iX (r:Rd):Option (Mt×Rd×Unit):=
 (fH r 4).bind fun a=>(fH a.2.1 8).bind fun b=>(oH b.2.1).bind fun c=>(nD aIf c.2.1 64).bind fun d=>(dC d.2.1 8).bind fun e=>(dC e.2.1 4096).bind fun f=>
 (iJ f.2.1 64 4096).bind fun g=>some ((a.1,b.1,c.1,d.1,e.1,f.1,g.1,()),g.2.1,())
def aAq (r:Rd):Option (Cl×Rd×Unit):=
 (dC r 8).bind fun a=>(fH a.2.1 8).bind fun b=>(iJ b.2.1 4 11).bind fun c=>some ((IntKind.i64.wrap (a.1 - 1),b.1,c.1,()),c.2.1,())
def aPI (r:Rd):Option (Im×Rd×Unit):=
 (nD aAq r 8).bind fun a=>(fH a.2.1 8).bind fun b=>(nD yV b.2.1 16).bind fun c=>(nD iX c.2.1 12).bind fun d=>(iJ d.2.1 12 11).bind fun e=>
 (dC e.2.1 4096).bind fun f=>(dC f.2.1 4096).bind fun g=>some ((a.1,b.1,c.1,d.1,e.1,f.1,g.1,()),g.2.1,())
def tV (b:List Int):Option (Im×Int×Unit):=
 bif decide ((b.length:Int)>8192) || (decide ((b.length:Int)<4) || !((strOfNums (b.take 4)).toList==(⟨#[112,108,105,109]⟩:ByteArray).toList)) then some (zIm,2,())
 else (aPI (aN4 (b.drop 4))).bind fun q=>(aOc q.2.1).bind fun f=>bif !f.1 || !bD q.1 then some (zIm,2,()) else some (q.1,0,())
def aQc (m:Im):Nat:=m.1.length+m.2.1.length+m.2.2.1.length+m.2.2.2.1.length+m.2.2.2.2.1.length
end Go.Pli

namespace Go.Pli
open Go Go.PM
def aH0 (l:List Cl) (_c:Unit):Prop:=(l.length≤lenMax∧∀x1:Cl,x1∈l→(True∧((x1.2.1.length≤lenMax∧∀x2:Tp,x2∈x1.2.1→(True∧(True∧True)))∧((x1.2.2.1.length≤lenMax∧∀x2:Int,x2∈x1.2.2.1→True)∧True))))∧True∧True
def vE (l:List Cl) (s1:Int×Unit) (rec2:(Int×Unit)→Option (Int×Unit)):Option (Int×Unit):=
 bif decide (s1.1<(l.length:Int)) then
  bif decide (0≤s1.1)&&decide (s1.1<l.length) then
   bif (xW (l.getD s1.1.toNat zCl)) then
    some (s1.1,())
   else rec2 (IntKind.i64.wrap (s1.1+1),())
  else none
 else some ((-1:Int),())
def aKX (fuel:Nat) (l:List Cl) (_c:Unit):Option (Int×Unit):=
 aA (vE l) fuel ((0:Int),())
def aD8 (l:List Cl) (_c:Unit):Prop:=(l.length≤lenMax∧∀x1:Cl,x1∈l→(True∧((x1.2.1.length≤lenMax∧∀x2:Tp,x2∈x1.2.1→(True∧(True∧True)))∧((x1.2.2.1.length≤lenMax∧∀x2:Int,x2∈x1.2.2.1→True)∧True))))∧True∧True
def zC (l:List Cl) (c:Unit):Option (Bool×Unit):=
 some (decide ((tF l c)≥0),())
def aGv (l:List Mt) (_c:Unit):Prop:=(l.length≤lenMax∧∀x1:Mt,x1∈l→((x1.1.length≤lenMax∧∀x2:Tp,x2∈x1.1→(True∧(True∧True)))∧((x1.2.1.length≤lenMax∧∀x2:Tp,x2∈x1.2.1→(True∧(True∧True)))∧((True∧(True∧True))∧((x1.2.2.2.1.length≤lenMax∧∀x2:Ins,x2∈x1.2.2.2.1→(True∧(True∧(True∧True))))∧(True∧(True∧((x1.2.2.2.2.2.2.1.length≤lenMax∧∀x2:Int,x2∈x1.2.2.2.2.2.2.1→True)∧True))))))))∧True∧True
def sI (l:List Mt) (s1:Int×Unit) (rec2:(Int×Unit)→Option (Int×Unit)):Option (Int×Unit):=
 bif decide (s1.1<(l.length:Int)) then
  bif decide (0≤s1.1)&&decide (s1.1<l.length) then
   bif (xV (l.getD s1.1.toNat zMt)) then
    some (s1.1,())
   else rec2 (IntKind.i64.wrap (s1.1+1),())
  else none
 else some ((-1:Int),())
def aIl (fuel:Nat) (l:List Mt) (_c:Unit):Option (Int×Unit):=
 aA (sI l) fuel ((0:Int),())
def aC1 (l:List Mt) (_c:Unit):Prop:=(l.length≤lenMax∧∀x1:Mt,x1∈l→((x1.1.length≤lenMax∧∀x2:Tp,x2∈x1.1→(True∧(True∧True)))∧((x1.2.1.length≤lenMax∧∀x2:Tp,x2∈x1.2.1→(True∧(True∧True)))∧((True∧(True∧True))∧((x1.2.2.2.1.length≤lenMax∧∀x2:Ins,x2∈x1.2.2.2.1→(True∧(True∧(True∧True))))∧(True∧(True∧((x1.2.2.2.2.2.2.1.length≤lenMax∧∀x2:Int,x2∈x1.2.2.2.2.2.2.1→True)∧True))))))))∧True∧True
def wR (l:List Mt) (c:Unit):Option (Bool×Unit):=
 some (decide ((rB l c)≥0),())
def aH1 (l:List Tp) (_c:Unit):Prop:=(l.length≤lenMax∧∀x1:Tp,x1∈l→(True∧(True∧True)))∧True∧True
def uN (l:List Tp) (s1:Int×Unit) (rec2:(Int×Unit)→Option (Int×Unit)):Option (Int×Unit):=
 bif decide (s1.1<(l.length:Int)) then
  bif decide (0≤s1.1)&&decide (s1.1<l.length) then
   bif (aCU (l.getD s1.1.toNat zTp)) then
    some (s1.1,())
   else rec2 (IntKind.i64.wrap (s1.1+1),())
  else none
 else some ((-1:Int),())
def aKv (fuel:Nat) (l:List Tp) (_c:Unit):Option (Int×Unit):=
 aA (uN l) fuel ((0:Int),())
def aD4 (l:List Tp) (_c:Unit):Prop:=(l.length≤lenMax∧∀x1:Tp,x1∈l→(True∧(True∧True)))∧True∧True
def yX (l:List Tp) (c:Unit):Option (Bool×Unit):=
 some (decide ((sV l c)≥0),())
def aHO (l:List Tp) (_c:Unit×Unit):Prop:=(l.length≤lenMax∧∀x1:Tp,x1∈l→(True∧(True∧True)))∧(True∧True)∧True
def vK (l:List Tp) (c:Unit×Unit) (s1:Int×Unit) (rec2:(Int×Unit)→Option (Int×Unit)):Option (Int×Unit):=
 bif decide (s1.1<(l.length:Int)) then
  bif decide (0≤s1.1)&&decide (s1.1<l.length) then
   bif (tZ (l.getD s1.1.toNat zTp) c.1) then
    some (s1.1,())
   else rec2 (IntKind.i64.wrap (s1.1+1),())
  else none
 else some ((-1:Int),())
def aKV (fuel:Nat) (l:List Tp) (c:Unit×Unit):Option (Int×Unit):=
 aA (vK l c) fuel ((0:Int),())
def aEq (l:List Tp) (_c:Unit×Unit):Prop:=(l.length≤lenMax∧∀x1:Tp,x1∈l→(True∧(True∧True)))∧(True∧True)∧True
def yO (l:List Tp) (c:Unit×Unit):Option (Bool×Unit):=
 some (decide ((tJ l c)≥0),())
def aJc (l:List Int) (_c:Int×Unit):Prop:=(l.length≤lenMax∧∀x1:Int,x1∈l→True)∧(True∧True)∧True
def xD (l:List Int) (c:Int×Unit) (s1:Int×Unit) (rec2:(Int×Unit)→Option (Int×Unit)):Option (Int×Unit):=
 bif decide (s1.1<(l.length:Int)) then
  bif decide (0≤s1.1)&&decide (s1.1<l.length) then
   bif (aAz (l.getD s1.1.toNat 0) c.1) then
    some (s1.1,())
   else rec2 (IntKind.i64.wrap (s1.1+1),())
  else none
 else some ((-1:Int),())
def aNN (fuel:Nat) (l:List Int) (c:Int×Unit):Option (Int×Unit):=
 aA (xD l c) fuel ((0:Int),())
def aFN (l:List Int) (_c:Int×Unit):Prop:=(l.length≤lenMax∧∀x1:Int,x1∈l→True)∧(True∧True)∧True
def aA5 (l:List Int) (c:Int×Unit):Option (Bool×Unit):=
 some (decide ((wA l c)≥0),())
def aPt (s:List Cl):Option (List Cl×Unit):=
 bif decide ((s.length:Int)=(s.length:Int))&&decide ((s.length:Int)=(s.length:Int)) then
  some (s,())
 else none
def aOZ (s:List Mt):Option (List Mt×Unit):=
 bif decide ((s.length:Int)=(s.length:Int))&&decide ((s.length:Int)=(s.length:Int)) then
  some (s,())
 else none
def aPp (s:List Tp):Option (List Tp×Unit):=
 bif decide ((s.length:Int)=(s.length:Int))&&decide ((s.length:Int)=(s.length:Int)) then
  some (s,())
 else none
def aOJ (s:List Int):Option (List Int×Unit):=
 bif decide ((s.length:Int)=(s.length:Int))&&decide ((s.length:Int)=(s.length:Int)) then
  some (s,())
 else none
def aPi (s:List Ins):Option (List Ins×Unit):=
 bif decide ((s.length:Int)=(s.length:Int))&&decide ((s.length:Int)=(s.length:Int)) then
  some (s,())
 else none
def aOT (s:List Int):Option (List Int×Unit):=
 bif decide ((s.length:Int)=(s.length:Int))&&decide ((s.length:Int)=(s.length:Int)) then
  some (s,())
 else none
def qD (s:List Tp):Option (List Tp×Unit):=
 bif decide (([]:List Tp).length+s.length<rowMax) then
  some (([]:List Tp)++s,())
 else none
def aCH (s:List Int):Option (List Int×Unit):=
 bif decide (([]:List Int).length+s.length<rowMax) then
  some (([]:List Int)++s,())
 else none
def aCx (s:List Int):Option (List Int×Unit):=
 bif decide (([]:List Int).length+s.length<rowMax) then
  some (([]:List Int)++s,())
 else none
def aCQ (s:List Ins):Option (List Ins×Unit):=
 bif decide (([]:List Ins).length+s.length<rowMax) then
  some (([]:List Ins)++s,())
 else none
def aEb (s:List Tp):Option (List Tp×Unit):=
 (qD s).bind fun r1=>
 some ((idL r1.1),())
def aMY (s:List Int):Option (List Int×Unit):=
 (aCH s).bind fun r1=>
 some ((idL r1.1),())
def aGz (s:List Int):Option (List Int×Unit):=
 (aCx s).bind fun r1=>
 some ((idL r1.1),())
def aNm (s:List Ins):Option (List Ins×Unit):=
 (aCQ s).bind fun r1=>
 some ((idL r1.1),())
def aVe (a:List Tp) (b:List Tp):Prop:=(a.length≤lenMax∧∀x1:Tp,x1∈a→(True∧(True∧True)))∧(b.length≤lenMax∧∀x1:Tp,x1∈b→(True∧(True∧True)))∧True
def aIe (a:List Tp) (b:List Tp) (s1:Int×Unit) (rec2:(Int×Unit)→Option (Bool×Unit)):Option (Bool×Unit):=
 bif decide (s1.1<(a.length:Int)) then
  bif decide (0≤s1.1)&&decide (s1.1<a.length) then
   bif decide (0≤s1.1)&&decide (s1.1<b.length) then
    bif !((((a.getD s1.1.toNat zTp).1)==((b.getD s1.1.toNat zTp).1))&&((((a.getD s1.1.toNat zTp).2.1)==((b.getD s1.1.toNat zTp).2.1))&&true)) then
     some (false,())
    else rec2 (IntKind.i64.wrap (s1.1+1),())
   else none
  else none
 else some (true,())
def aU7 (fuel:Nat) (a:List Tp) (b:List Tp):Option (Bool×Unit):=
 bif (a.length:Int) !=(b.length:Int) then
  some (false,())
 else aA (aIe a b) fuel ((0:Int),())
def aJB (n:Int) (m:Int):Option (Bool×Unit):=
 bif decide (n≥0) then
  some (decide (n≤m),())
 else some (false,())
def aSJ (t:Tp):Option (Bool×Unit):=
 bif (bK t.1 (5:Int)) then
  bif t.2.1==0 then
   some (true,())
  else bif t.1==3 then
   some ((bK t.2.1 (7:Int)),())
  else some (false,())
 else some (false,())
def aUM (t:Tp):Option (Bool×Unit):=
 some (!(ityp t),())
def aLy (l:List Tp) (m:Int):Option (Bool×Unit):=
 bif decide ((l.length:Int)≤m) then
  some (!(kQ l ()),())
 else some (false,())
def aVi (n:Int) (m:Int):Option (Bool×Unit):=
 some (!(bK n m),())
def aOK (l:List Int) (c:Int) (m:Int):Option (Bool×Unit):=
 bif decide ((l.length:Int)≤c) then
  some (!(lY l (m,())),())
 else some (false,())
def vW (x:Mt) (s1:Int×Unit) (rec2:(Int×Unit)→Option (Bool×Unit)):Option (Bool×Unit):=
 bif decide (s1.1<(x.2.2.2.1.length:Int)) then
  bif decide (0≤s1.1)&&decide (s1.1<x.2.2.2.1.length) then
   bif !(dO (x.2.2.2.1.getD s1.1.toNat dJ)) then
    some (false,())
   else rec2 (IntKind.i64.wrap (s1.1+1),())
  else none
 else bif (bK x.2.2.2.2.1 (8:Int)) then
  bif (bK x.2.2.2.2.2.1 (4096:Int)) then
   some ((eM x.2.2.2.2.2.2.1 (64:Int) (4096:Int)),())
  else some (false,())
 else some (false,())
def aIA (fuel:Nat) (x:Mt):Option (Bool×Unit):=
 bif !(cP x.1 (4:Int)) then
  some (false,())
 else bif !(cP x.2.1 (8:Int)) then
  some (false,())
 else bif !(ityp x.2.2.1) then
  some (false,())
 else bif decide ((x.2.2.2.1.length:Int)>64) then
  some (false,())
 else aA (vW x) fuel ((0:Int),())
def aLF (x:Cl):Option (Bool×Unit):=
 bif decide (x.1≥(-1:Int)) then
  bif decide (x.1<8) then
   bif (cP x.2.1 (8:Int)) then
    some ((eM x.2.2.1 (4:Int) (11:Int)),())
   else some (false,())
  else some (false,())
 else some (false,())
def aSU (x:Cl):Option (Bool×Unit):=
 some (!(iclass x),())
def aTo (x:Mt):Option (Bool×Unit):=
 some (!(imethod x),())
def aPm (m:Im):Option (Bool×Unit):=
 bif decide ((m.1.length:Int)>8) then
  some (false,())
 else bif !(cP m.2.1 (8:Int)) then
  some (false,())
 else bif decide ((m.2.2.1.length:Int)>16) then
  some (false,())
 else bif decide ((m.2.2.2.1.length:Int)>12) then
  some (false,())
 else bif (kN m.1 ()) then
  some (false,())
 else bif (jN m.2.2.2.1 ()) then
  some (false,())
 else bif (eM m.2.2.2.2.1 (12:Int) (11:Int)) then
  bif (bK m.2.2.2.2.2.1 (4096:Int)) then
   some ((bK m.2.2.2.2.2.2.1 (4096:Int)),())
  else some (false,())
 else some (false,())
def aSC (r:List Int×Bool×Unit):Option (Tp×(List Int×Bool×Unit)×Unit):=
 (dC r (5:Int)).bind fun r1=>
 bif r1.1==3 then
  (dC r1.2.1 (7:Int)).bind fun r2=>
  some ((r1.1,r2.1,()),r2.2.1,())
 else some ((r1.1,((0:Int),())),r1.2.1,())
def sR (r1:Int×(List Int×Bool×Unit)×Unit) (s2:List Tp×Int×(List Int×Bool×Unit)×Unit) (rec3:(List Tp×Int×(List Int×Bool×Unit)×Unit)→Option (List Tp×(List Int×Bool×Unit)×Unit)):Option (List Tp×(List Int×Bool×Unit)×Unit):=
 bif decide (s2.2.1<r1.1) then
  (oH s2.2.2.1).bind fun r4=>
  bif decide (s2.1.length+[r4.1].length<rowMax) then
   rec3 (s2.1++[r4.1],IntKind.i64.wrap (s2.2.1+1),r4.2.1,())
  else none
 else some ((idL s2.1),s2.2.2.1,())
def aCk (fuel:Nat) (r:List Int×Bool×Unit) (m:Int):Option (List Tp×(List Int×Bool×Unit)×Unit):=
 (dC r m).bind fun r1=>
 aA (sR r1) fuel (([]:List Tp),((0:Int),r1.2.1,()))
def wE (m:Int) (r1:Int×(List Int×Bool×Unit)×Unit) (s2:List Int×Int×(List Int×Bool×Unit)×Unit) (rec3:(List Int×Int×(List Int×Bool×Unit)×Unit)→Option (List Int×(List Int×Bool×Unit)×Unit)):Option (List Int×(List Int×Bool×Unit)×Unit):=
 bif decide (s2.2.1<r1.1) then
  (dC s2.2.2.1 m).bind fun r4=>
  bif decide (s2.1.length+[r4.1].length<rowMax) then
   rec3 (s2.1++[r4.1],IntKind.i64.wrap (s2.2.1+1),r4.2.1,())
  else none
 else some ((idL s2.1),s2.2.2.1,())
def aDS (fuel:Nat) (r:List Int×Bool×Unit) (c:Int) (m:Int):Option (List Int×(List Int×Bool×Unit)×Unit):=
 (dC r c).bind fun r1=>
 aA (wE m r1) fuel (([]:List Int),((0:Int),r1.2.1,()))
def rC (r4:Int×(List Int×Bool×Unit)×Unit) (s5:Int×(List Int×Bool×Unit)×(List Tp×List Tp×Int×Int×List Ins×Int×Int×List Int×Unit)×Unit) (rec6:(Int×(List Int×Bool×Unit)×(List Tp×List Tp×Int×Int×List Ins×Int×Int×List Int×Unit)×Unit)→Option (Mt×(List Int×Bool×Unit)×Unit)):Option (Mt×(List Int×Bool×Unit)×Unit):=
 bif decide (s5.1<r4.1) then
  (aIf s5.2.1).bind fun r7=>
  bif decide (s5.2.2.1.2.2.2.2.1.length+[r7.1].length<rowMax) then
   rec6 (IntKind.i64.wrap (s5.1+1),r7.2.1,(s5.2.2.1.1,s5.2.2.1.2.1,s5.2.2.1.2.2.1,s5.2.2.1.2.2.2.1,s5.2.2.1.2.2.2.2.1++[r7.1],s5.2.2.1.2.2.2.2.2),())
  else none
 else
  (dC s5.2.1 (8:Int)).bind fun r8=>
  (dC r8.2.1 (4096:Int)).bind fun r9=>
  (iJ r9.2.1 (64:Int) (4096:Int)).bind fun r10=>
  some ((s5.2.2.1.1,s5.2.2.1.2.1,(s5.2.2.1.2.2.1,s5.2.2.1.2.2.2.1,()),(idL s5.2.2.1.2.2.2.2.1),r8.1,r9.1,r10.1,()),r10.2.1,())
def zD (fuel:Nat) (r:List Int×Bool×Unit):Option (Mt×(List Int×Bool×Unit)×Unit):=
 (fH r (4:Int)).bind fun r1=>
 (fH r1.2.1 (8:Int)).bind fun r2=>
 (oH r2.2.1).bind fun r3=>
 (dC r3.2.1 (64:Int)).bind fun r4=>
 aA (rC r4) fuel ((0:Int),r4.2.1,(r1.1,r2.1,r3.1.1,r3.1.2.1,(([]:List Ins),((0:Int),((0:Int),(([]:List Int),()))))),())
def rV (r12:Int×(List Int×Bool×Unit)×Unit) (s13:Int×(List Int×Bool×Unit)×(List Cl×List Tp×List Int×List Mt×List Int×Int×Int×Unit)×Unit) (rec14:(Int×(List Int×Bool×Unit)×(List Cl×List Tp×List Int×List Mt×List Int×Int×Int×Unit)×Unit)→Option (Im×Int×Unit)):Option (Im×Int×Unit):=
 bif decide (s13.1<r12.1) then
  (iX s13.2.1).bind fun r15=>
  bif decide (s13.2.2.1.2.2.2.1.length+[r15.1].length<rowMax) then
   rec14 (IntKind.i64.wrap (s13.1+1),r15.2.1,(s13.2.2.1.1,s13.2.2.1.2.1,s13.2.2.1.2.2.1,s13.2.2.1.2.2.2.1++[r15.1],s13.2.2.1.2.2.2.2),())
  else none
 else
  (iJ s13.2.1 (12:Int) (11:Int)).bind fun r16=>
  (dC r16.2.1 (4096:Int)).bind fun r17=>
  (dC r17.2.1 (4096:Int)).bind fun r18=>
  (aOc r18.2.1).bind fun r19=>
  bif !r19.1 then
   some ((([]:List Cl),(([]:List Tp),(([]:List Int),(([]:List Mt),(([]:List Int),((0:Int),((0:Int),()))))))),((2:Int),()))
  else bif !(bD (s13.2.2.1.1,s13.2.2.1.2.1,s13.2.2.1.2.2.1,s13.2.2.1.2.2.2.1,r16.1,r17.1,r18.1,())) then
   some ((([]:List Cl),(([]:List Tp),(([]:List Int),(([]:List Mt),(([]:List Int),((0:Int),((0:Int),()))))))),((2:Int),()))
  else
   (aE1 (s13.2.2.1.1,s13.2.2.1.2.1,s13.2.2.1.2.2.1,s13.2.2.1.2.2.2.1,r16.1,r17.1,r18.1,())).bind fun r20=>
   some (r20.1,((0:Int),()))
def rH (fuel:Nat) (r8:Int×(List Int×Bool×Unit)×Unit) (s9:Int×(List Int×Bool×Unit)×(List Cl×List Tp×List Int×List Mt×List Int×Int×Int×Unit)×Unit) (rec10:(Int×(List Int×Bool×Unit)×(List Cl×List Tp×List Int×List Mt×List Int×Int×Int×Unit)×Unit)→Option (Im×Int×Unit)):Option (Im×Int×Unit):=
 bif decide (s9.1<r8.1) then
  (yV s9.2.1).bind fun r11=>
  bif decide (s9.2.2.1.2.2.1.length+[r11.1].length<rowMax) then
   rec10 (IntKind.i64.wrap (s9.1+1),r11.2.1,(s9.2.2.1.1,s9.2.2.1.2.1,s9.2.2.1.2.2.1++[r11.1],s9.2.2.1.2.2.2),())
  else none
 else
  (dC s9.2.1 (12:Int)).bind fun r12=>
  aA (rV r12) fuel ((0:Int),r12.2.1,s9.2.2.1,())
def wT (fuel:Nat) (r1:Int×(List Int×Bool×Unit)×Unit) (s2:Int×(List Int×Bool×Unit)×(List Cl×List Tp×List Int×List Mt×List Int×Int×Int×Unit)×Unit) (rec3:(Int×(List Int×Bool×Unit)×(List Cl×List Tp×List Int×List Mt×List Int×Int×Int×Unit)×Unit)→Option (Im×Int×Unit)):Option (Im×Int×Unit):=
 bif decide (s2.1<r1.1) then
  (dC s2.2.1 (8:Int)).bind fun r4=>
  (fH r4.2.1 (8:Int)).bind fun r5=>
  (iJ r5.2.1 (4:Int) (11:Int)).bind fun r6=>
  bif decide (s2.2.2.1.1.length+[(IntKind.i64.wrap (r4.1 - 1),r5.1,r6.1,())].length<rowMax) then
   rec3 (IntKind.i64.wrap (s2.1+1),r6.2.1,(s2.2.2.1.1++[(IntKind.i64.wrap (r4.1 - 1),r5.1,r6.1,())],s2.2.2.1.2),())
  else none
 else
  (fH s2.2.1 (8:Int)).bind fun r7=>
  (dC r7.2.1 (16:Int)).bind fun r8=>
  aA (rH fuel r8) fuel ((0:Int),r8.2.1,(s2.2.2.1.1,r7.1,s2.2.2.1.2.2),())
def aEl (fuel:Nat) (b:List Int):Option (Im×Int×Unit):=
 bif decide ((b.length:Int)>8192) then
  some ((([]:List Cl),(([]:List Tp),(([]:List Int),(([]:List Mt),(([]:List Int),((0:Int),((0:Int),()))))))),((2:Int),()))
 else bif decide ((b.length:Int)<4) then
  some ((([]:List Cl),(([]:List Tp),(([]:List Int),(([]:List Mt),(([]:List Int),((0:Int),((0:Int),()))))))),((2:Int),()))
 else bif decide ((4:Int)≤(b.length:Int)) then
  bif !((strOfNums ((b.take 4).drop 0)).toList==(⟨#[112,108,105,109]⟩:ByteArray).toList) then
   some ((([]:List Cl),(([]:List Tp),(([]:List Int),(([]:List Mt),(([]:List Int),((0:Int),((0:Int),()))))))),((2:Int),()))
  else bif decide ((4:Int)≤(b.length:Int))&&decide ((b.length:Int)≤(b.length:Int)) then
   (dC (aN4 ((b.take b.length).drop 4)) (8:Int)).bind fun r1=>
   aA (wT fuel r1) fuel ((0:Int),r1.2.1,((([]:List Cl),(([]:List Tp),(([]:List Int),(([]:List Mt),(([]:List Int),((0:Int),((0:Int),()))))))),()))
  else none
 else none
def aCZ (m:Im) (s8:Int×(List Cl×List Tp×List Int×List Mt×List Int×Int×Int×Unit)×Unit) (rec9:(Int×(List Cl×List Tp×List Int×List Mt×List Int×Int×Int×Unit)×Unit)→Option (Im×Unit)):Option (Im×Unit):=
 bif decide (s8.1<(m.2.2.2.1.length:Int)) then
  bif decide (0≤s8.1)&&decide (s8.1<m.2.2.2.1.length) then
   (aEb (m.2.2.2.1.getD s8.1.toNat zMt).1).bind fun r10=>
   (aEb (m.2.2.2.1.getD s8.1.toNat zMt).2.1).bind fun r11=>
   (aNm (m.2.2.2.1.getD s8.1.toNat zMt).2.2.2.1).bind fun r12=>
   (aGz (m.2.2.2.1.getD s8.1.toNat zMt).2.2.2.2.2.2.1).bind fun r13=>
   bif decide (s8.2.1.2.2.2.1.length+[(r10.1,r11.1,(m.2.2.2.1.getD s8.1.toNat zMt).2.2.1,r12.1,(m.2.2.2.1.getD s8.1.toNat zMt).2.2.2.2.1,(m.2.2.2.1.getD s8.1.toNat zMt).2.2.2.2.2.1,r13.1,())].length<rowMax) then
    rec9 (IntKind.i64.wrap (s8.1+1),(s8.2.1.1,s8.2.1.2.1,s8.2.1.2.2.1,s8.2.1.2.2.2.1++[(r10.1,r11.1,(m.2.2.2.1.getD s8.1.toNat zMt).2.2.1,r12.1,(m.2.2.2.1.getD s8.1.toNat zMt).2.2.2.2.1,(m.2.2.2.1.getD s8.1.toNat zMt).2.2.2.2.2.1,r13.1,())],s8.2.1.2.2.2.2),())
   else none
  else none
 else some (((idL s8.2.1.1),s8.2.1.2.1,s8.2.1.2.2.1,(idL s8.2.1.2.2.2.1),s8.2.1.2.2.2.2),())
def aCr (m:Im) (fuel:Nat) (s4:Int×(List Cl×List Tp×List Int×List Mt×List Int×Int×Int×Unit)×Unit) (rec5:(Int×(List Cl×List Tp×List Int×List Mt×List Int×Int×Int×Unit)×Unit)→Option (Im×Unit)):Option (Im×Unit):=
 bif decide (s4.1<(m.1.length:Int)) then
  bif decide (0≤s4.1)&&decide (s4.1<m.1.length) then
   (aEb (m.1.getD s4.1.toNat zCl).2.1).bind fun r6=>
   (aGz (m.1.getD s4.1.toNat zCl).2.2.1).bind fun r7=>
   bif decide (s4.2.1.1.length+[((m.1.getD s4.1.toNat zCl).1,r6.1,r7.1,())].length<rowMax) then
    rec5 (IntKind.i64.wrap (s4.1+1),(s4.2.1.1++[((m.1.getD s4.1.toNat zCl).1,r6.1,r7.1,())],s4.2.1.2),())
   else none
  else none
 else aA (aCZ m) fuel ((0:Int),s4.2.1,())
def aOB (fuel:Nat) (m:Im):Option (Im×Unit):=
 (aEb m.2.1).bind fun r1=>
 (aMY m.2.2.1).bind fun r2=>
 (aGz m.2.2.2.2.1).bind fun r3=>
 aA (aCr m fuel) fuel ((0:Int),((([]:List Cl),r1.1,r2.1,(([]:List Mt),r3.1,m.2.2.2.2.2)),()))
def aP0 (t:Tp) (n:Int):Option (Bool×Unit):=
 (bif t.1==1 then
  some (.inl (true,()))
 else some (.inl (t.1==2,())):Option ((Bool×Unit)⊕(Bool×Unit))).bind fun q=>match q with
 | .inr r2=>some r2
 | .inl s1=>
  bif s1.1 then
   some (t.2.1==0,())
  else bif t.1==3 then
   bif decide (t.2.1≥0) then
    some (decide (t.2.1<n),())
   else some (false,())
  else some (false,())
def aLR (t:Tp):Option (Bool×Unit):=
 bif t.1==2 then
  some (true,())
 else bif t.1==3 then
  some (true,())
 else some (t.1==4,())
def aUG (l:List Cl) (c:Int):Option (Int×Unit):=
 bif decide (c<0) then
  some ((-1:Int),())
 else bif decide (c≥(l.length:Int)) then
  some ((-1:Int),())
 else bif decide (0≤c)&&decide (c<l.length) then
  bif decide ((l.getD c.toNat zCl).1≥c) then
   some ((-1:Int),())
  else bif decide (0≤c)&&decide (c<l.length) then
   some ((l.getD c.toNat zCl).1,())
  else none
 else none
def zH (l:List Cl) (b:Int) (s1:Int×Unit) (rec2:(Int×Unit)→Option (Bool×Unit)):Option (Bool×Unit):=
 bif decide (s1.1≥0) then
  bif s1.1==b then
   some (true,())
  else rec2 ((kup l s1.1),())
 else some (false,())
def aLz (fuel:Nat) (l:List Cl) (a:Int) (b:Int):Option (Bool×Unit):=
 bif decide (b<0) then
  some (false,())
 else bif decide (b≥(l.length:Int)) then
  some (false,())
 else bif decide (a≥(l.length:Int)) then
  some (false,())
 else aA (zH l b) fuel (a,())
def aSS (l:List Cl) (a:Tp) (b:Tp):Option (Bool×Unit):=
 bif a.1==4 then
  some ((gO b),())
 else bif a.1==3 then
  bif b.1==3 then
   some ((bY l a.2.1 b.2.1),())
  else bif (a.1==b.1)&&((a.2.1==b.2.1)&&true) then
   bif a.1==1 then
    some (true,())
   else some (a.1==2,())
  else some (false,())
 else bif (a.1==b.1)&&((a.2.1==b.2.1)&&true) then
  bif a.1==1 then
   some (true,())
  else some (a.1==2,())
 else some (false,())
def pW (l:List Cl) (s1:Int×List Int×Unit) (rec2:(Int×List Int×Unit)→Option (List Int×Unit)):Option (List Int×Unit):=
 bif decide (s1.1≥0) then
  bif decide (s1.1<(l.length:Int)) then
   bif decide (s1.2.1.length+[s1.1].length<rowMax) then
    bif decide (0≤s1.1)&&decide (s1.1<l.length) then
     bif decide ((l.getD s1.1.toNat zCl).1≥s1.1) then
      rec2 ((-1:Int),s1.2.1++[s1.1],())
     else rec2 ((l.getD s1.1.toNat zCl).1,s1.2.1++[s1.1],())
    else none
   else none
  else some (s1.2.1,())
 else some (s1.2.1,())
def aLG (fuel:Nat) (l:List Cl) (c:Int):Option (List Int×Unit):=
 aA (pW l) fuel (c,(([]:List Int),()))
def aMj (t:Tp):Option (Bool×Unit):=
 bif t.1==2 then
  some (true,())
 else bif t.1==3 then
  some (true,())
 else some (t.1==4,())
def aPj (t:Tp) (n:Int):Option (Bool×Unit):=
 bif t.1==1 then
  bif t.2.1==0 then
   some (true,())
  else bif t.1==3 then
   bif decide (t.2.1≥0) then
    some (decide (t.2.1<n),())
   else some (false,())
  else some (false,())
 else bif t.1==2 then
  bif t.2.1==0 then
   some (true,())
  else bif t.1==3 then
   bif decide (t.2.1≥0) then
    some (decide (t.2.1<n),())
   else some (false,())
  else some (false,())
 else bif t.1==3 then
  bif decide (t.2.1≥0) then
   some (decide (t.2.1<n),())
  else some (false,())
 else some (false,())
def aSP (l:List Cl) (a:Tp) (b:Tp):Option (Bool×Unit):=
 bif a.1==4 then
  some ((vD b),())
 else bif a.1==3 then
  bif b.1==3 then
   (jA l a.2.1).bind fun r1=>
   (rin r1.1 b.2.1).bind fun r2=>
   some (r2.1,())
  else some (false,())
 else bif a.1==1 then
  some ((a.1==b.1)&&((a.2.1==b.2.1)&&true),())
 else bif a.1==2 then
  some ((a.1==b.1)&&((a.2.1==b.2.1)&&true),())
 else some (false,())
def aQr (a:List Tp) (b:List Tp):Prop:=(a.length≤lenMax∧∀x1:Tp,x1∈a→(True∧(True∧True)))∧(b.length≤lenMax∧∀x1:Tp,x1∈b→(True∧(True∧True)))∧True
def aSk (a:List Tp) (b:List Tp) (s1:Int×Unit) (rec2:(Int×Unit)→Option (Bool×Unit)):Option (Bool×Unit):=
 bif decide (s1.1<(a.length:Int)) then
  bif decide (0≤s1.1)&&decide (s1.1<a.length) then
   bif decide (0≤s1.1)&&decide (s1.1<b.length) then
    bif !((((a.getD s1.1.toNat zTp).1)==((b.getD s1.1.toNat zTp).1))&&((((a.getD s1.1.toNat zTp).2.1)==((b.getD s1.1.toNat zTp).2.1))&&true)) then
     some (false,())
    else rec2 (IntKind.i64.wrap (s1.1+1),())
   else none
  else none
 else some (true,())
def aTj (fuel:Nat) (a:List Tp) (b:List Tp):Option (Bool×Unit):=
 bif (a.length:Int) !=(b.length:Int) then
  some (false,())
 else aA (aSk a b) fuel ((0:Int),())
def aSH (n:Int) (a:Int) (b:Int):Option (Bool×Unit):=
 bif decide (n≥a) then
  some (decide (n≤b),())
 else some (false,())
def aPT (l:List Int) (_c:Int) (_m:Int):Prop:=(l.length≤lenMax∧∀x1:Int,x1∈l→True)∧True∧True∧True
def aAk (l:List Int) (m:Int) (s1:Int×Unit) (rec2:(Int×Unit)→Option (Bool×Unit)):Option (Bool×Unit):=
 bif decide (s1.1<(l.length:Int)) then
  bif decide (0≤s1.1)&&decide (s1.1<l.length) then
   bif !(mW (l.getD s1.1.toNat 0) (0:Int) m) then
    some (false,())
   else rec2 (IntKind.i64.wrap (s1.1+1),())
  else none
 else some (true,())
def aMn (fuel:Nat) (l:List Int) (c:Int) (m:Int):Option (Bool×Unit):=
 bif decide ((l.length:Int)>c) then
  some (false,())
 else aA (aAk l m) fuel ((0:Int),())
def aQg (t:Tp):Option (Bool×Unit):=
 bif (mW t.1 (0:Int) (5:Int)) then
  bif t.2.1==0 then
   some (true,())
  else bif t.1==3 then
   some ((mW t.2.1 (0:Int) (7:Int)),())
  else some (false,())
 else some (false,())
def aNo (l:List Tp) (_c:Int):Prop:=(l.length≤lenMax∧∀x1:Tp,x1∈l→(True∧(True∧True)))∧True∧True
def wW (l:List Tp) (s1:Int×Unit) (rec2:(Int×Unit)→Option (Bool×Unit)):Option (Bool×Unit):=
 bif decide (s1.1<(l.length:Int)) then
  bif decide (0≤s1.1)&&decide (s1.1<l.length) then
   bif !(wP (l.getD s1.1.toNat zTp)) then
    some (false,())
   else rec2 (IntKind.i64.wrap (s1.1+1),())
  else none
 else some (true,())
def aI3 (fuel:Nat) (l:List Tp) (c:Int):Option (Bool×Unit):=
 bif decide ((l.length:Int)>c) then
  some (false,())
 else aA (wW l) fuel ((0:Int),())
def aP4 (m:Im):Prop:=((m.1.length≤lenMax∧∀x1:Cl,x1∈m.1→(True∧((x1.2.1.length≤lenMax∧∀x2:Tp,x2∈x1.2.1→(True∧(True∧True)))∧((x1.2.2.1.length≤lenMax∧∀x2:Int,x2∈x1.2.2.1→True)∧True))))∧((m.2.1.length≤lenMax∧∀x1:Tp,x1∈m.2.1→(True∧(True∧True)))∧((m.2.2.1.length≤lenMax∧∀x1:Int,x1∈m.2.2.1→True)∧((m.2.2.2.1.length≤lenMax∧∀x1:Mt,x1∈m.2.2.2.1→((x1.1.length≤lenMax∧∀x2:Tp,x2∈x1.1→(True∧(True∧True)))∧((x1.2.1.length≤lenMax∧∀x2:Tp,x2∈x1.2.1→(True∧(True∧True)))∧((True∧(True∧True))∧((x1.2.2.2.1.length≤lenMax∧∀x2:Ins,x2∈x1.2.2.2.1→(True∧(True∧(True∧True))))∧(True∧(True∧((x1.2.2.2.2.2.2.1.length≤lenMax∧∀x2:Int,x2∈x1.2.2.2.2.2.2.1→True)∧True))))))))∧((m.2.2.2.2.1.length≤lenMax∧∀x1:Int,x1∈m.2.2.2.2.1→True)∧(True∧(True∧True)))))))∧True
def zX (m:Im) (s3:Int×Unit) (rec4:(Int×Unit)→Option (Bool×Unit)) (s5:Int×Unit) (rec6:(Int×Unit)→Option (Bool×Unit)):Option (Bool×Unit):=
 bif decide (s5.1<((m.2.2.2.1.getD s3.1.toNat zMt).2.2.2.1.length:Int)) then
  bif decide (0≤s5.1)&&decide (s5.1<(m.2.2.2.1.getD s3.1.toNat zMt).2.2.2.1.length) then
   bif !(aBw ((m.2.2.2.1.getD s3.1.toNat zMt).2.2.2.1.getD s5.1.toNat dJ)) then
    some (false,())
   else rec6 (IntKind.i64.wrap (s5.1+1),())
  else none
 else rec4 (IntKind.i64.wrap (s3.1+1),())
def aAJ (m:Im) (fuel:Nat) (s3:Int×Unit) (rec4:(Int×Unit)→Option (Bool×Unit)):Option (Bool×Unit):=
 bif decide (s3.1<(m.2.2.2.1.length:Int)) then
  bif decide (0≤s3.1)&&decide (s3.1<m.2.2.2.1.length) then
   bif !(jP (m.2.2.2.1.getD s3.1.toNat zMt).1 (4:Int)) then
    some (false,())
   else bif !(jP (m.2.2.2.1.getD s3.1.toNat zMt).2.1 (8:Int)) then
    some (false,())
   else bif !(wP (m.2.2.2.1.getD s3.1.toNat zMt).2.2.1) then
    some (false,())
   else bif decide (((m.2.2.2.1.getD s3.1.toNat zMt).2.2.2.1.length:Int)>64) then
    some (false,())
   else bif !(mW (m.2.2.2.1.getD s3.1.toNat zMt).2.2.2.2.1 (0:Int) (8:Int)) then
    some (false,())
   else bif !(mW (m.2.2.2.1.getD s3.1.toNat zMt).2.2.2.2.2.1 (0:Int) (4096:Int)) then
    some (false,())
   else bif !(pI (m.2.2.2.1.getD s3.1.toNat zMt).2.2.2.2.2.2.1 (64:Int) (4096:Int)) then
    some (false,())
   else aA (zX m s3 rec4) fuel ((0:Int),())
  else none
 else some (true,())
def aAE (m:Im) (fuel:Nat) (s1:Int×Unit) (rec2:(Int×Unit)→Option (Bool×Unit)):Option (Bool×Unit):=
 bif decide (s1.1<(m.1.length:Int)) then
  bif decide (0≤s1.1)&&decide (s1.1<m.1.length) then
   bif !(mW (m.1.getD s1.1.toNat zCl).1 (-1:Int) (7:Int)) then
    some (false,())
   else bif !(jP (m.1.getD s1.1.toNat zCl).2.1 (8:Int)) then
    some (false,())
   else bif !(pI (m.1.getD s1.1.toNat zCl).2.2.1 (4:Int) (11:Int)) then
    some (false,())
   else rec2 (IntKind.i64.wrap (s1.1+1),())
  else none
 else aA (aAJ m fuel) fuel ((0:Int),())
def aMc (fuel:Nat) (m:Im):Option (Bool×Unit):=
 bif decide ((m.1.length:Int)>8) then
  some (false,())
 else bif decide ((m.2.2.1.length:Int)>16) then
  some (false,())
 else bif decide ((m.2.2.2.1.length:Int)>12) then
  some (false,())
 else bif !(jP m.2.1 (8:Int)) then
  some (false,())
 else bif !(pI m.2.2.2.2.1 (12:Int) (11:Int)) then
  some (false,())
 else bif !(mW m.2.2.2.2.2.1 (0:Int) (4096:Int)) then
  some (false,())
 else bif !(mW m.2.2.2.2.2.2.1 (0:Int) (4096:Int)) then
  some (false,())
 else aA (aAE m fuel) fuel ((0:Int),())
def tG (m:Im) (r1:List Int×Unit) (s2:List Tp×Int×Unit) (rec3:(List Tp×Int×Unit)→Option (List Tp×Unit)):Option (List Tp×Unit):=
 bif decide (s2.2.1≥0) then
  bif decide (0≤s2.2.1)&&decide (s2.2.1<r1.1.length) then
   bif decide (0≤r1.1.getD s2.2.1.toNat 0)&&decide (r1.1.getD s2.2.1.toNat 0<m.1.length) then
    bif decide (s2.1.length+(m.1.getD (r1.1.getD s2.2.1.toNat 0).toNat zCl).2.1.length<rowMax) then
     rec3 (s2.1++((m.1.getD (r1.1.getD s2.2.1.toNat 0).toNat zCl).2.1),IntKind.i64.wrap (s2.2.1 - 1),())
    else none
   else none
  else none
 else some (s2.1,())
def aHm (fuel:Nat) (m:Im) (c:Int):Option (List Tp×Unit):=
 (jA m.1 c).bind fun r1=>
 aA (tG m r1) fuel (([]:List Tp),(IntKind.i64.wrap ((r1.1.length:Int) - 1),()))
def aQf (m:Im) (l:List Tp):Prop:=((m.1.length≤lenMax∧∀x1:Cl,x1∈m.1→(True∧((x1.2.1.length≤lenMax∧∀x2:Tp,x2∈x1.2.1→(True∧(True∧True)))∧((x1.2.2.1.length≤lenMax∧∀x2:Int,x2∈x1.2.2.1→True)∧True))))∧((m.2.1.length≤lenMax∧∀x1:Tp,x1∈m.2.1→(True∧(True∧True)))∧((m.2.2.1.length≤lenMax∧∀x1:Int,x1∈m.2.2.1→True)∧((m.2.2.2.1.length≤lenMax∧∀x1:Mt,x1∈m.2.2.2.1→((x1.1.length≤lenMax∧∀x2:Tp,x2∈x1.1→(True∧(True∧True)))∧((x1.2.1.length≤lenMax∧∀x2:Tp,x2∈x1.2.1→(True∧(True∧True)))∧((True∧(True∧True))∧((x1.2.2.2.1.length≤lenMax∧∀x2:Ins,x2∈x1.2.2.2.1→(True∧(True∧(True∧True))))∧(True∧(True∧((x1.2.2.2.2.2.2.1.length≤lenMax∧∀x2:Int,x2∈x1.2.2.2.2.2.2.1→True)∧True))))))))∧((m.2.2.2.2.1.length≤lenMax∧∀x1:Int,x1∈m.2.2.2.2.1→True)∧(True∧(True∧True)))))))∧(l.length≤lenMax∧∀x1:Tp,x1∈l→(True∧(True∧True)))∧True
def aAN (m:Im) (l:List Tp) (s1:Int×Unit) (rec2:(Int×Unit)→Option (Bool×Unit)):Option (Bool×Unit):=
 bif decide (s1.1<(l.length:Int)) then
  bif decide (0≤s1.1)&&decide (s1.1<l.length) then
   bif !(aAB (l.getD s1.1.toNat zTp) (m.1.length:Int)) then
    some (false,())
   else rec2 (IntKind.i64.wrap (s1.1+1),())
  else none
 else some (true,())
def aLH (fuel:Nat) (m:Im) (l:List Tp):Option (Bool×Unit):=
 aA (aAN m l) fuel ((0:Int),())
def wS (m:Im) (c:Int) (s2:List Int×Unit) (s4:Int×Unit) (rec5:(Int×Unit)→Option (Bool×Unit)):Option (Bool×Unit):=
 bif decide (s4.1<((m.1.getD c.toNat zCl).2.2.1.length:Int)) then
  (bif decide (0≤s4.1)&&decide (s4.1<(m.1.getD c.toNat zCl).2.2.1.length) then
   bif decide ((m.1.getD c.toNat zCl).2.2.1.getD s4.1.toNat 0≥(m.2.2.2.1.length:Int)) then
    some (.inr (false,()))
   else bif decide (0≤s4.1)&&decide (s4.1<(m.1.getD c.toNat zCl).2.2.1.length) then
    bif decide (0≤(m.1.getD c.toNat zCl).2.2.1.getD s4.1.toNat 0)&&decide ((m.1.getD c.toNat zCl).2.2.1.getD s4.1.toNat 0<m.2.2.2.1.length) then
     bif ((m.2.2.2.1.getD ((m.1.getD c.toNat zCl).2.2.1.getD s4.1.toNat 0).toNat zMt).1.length:Int)==0 then
      some (.inr (false,()))
     else bif decide ((0:Int)<(m.2.2.2.1.getD ((m.1.getD c.toNat zCl).2.2.1.getD s4.1.toNat 0).toNat zMt).1.length) then
      (uW m.1 ((3:Int),c,()) ((m.2.2.2.1.getD ((m.1.getD c.toNat zCl).2.2.1.getD s4.1.toNat 0).toNat zMt).1.getD 0 zTp)).bind fun r8=>
      bif !r8.1 then
       some (.inr (false,()))
      else bif decide (s4.1<(s2.1.length:Int)) then
       bif decide (0≤s4.1)&&decide (s4.1<s2.1.length) then
        bif decide (0≤s2.1.getD s4.1.toNat 0)&&decide (s2.1.getD s4.1.toNat 0<m.2.2.2.1.length) then
         bif decide ((1:Int)≤((m.2.2.2.1.getD ((m.1.getD c.toNat zCl).2.2.1.getD s4.1.toNat 0).toNat zMt).1.length:Int))&&decide (((m.2.2.2.1.getD ((m.1.getD c.toNat zCl).2.2.1.getD s4.1.toNat 0).toNat zMt).1.length:Int)≤((m.2.2.2.1.getD ((m.1.getD c.toNat zCl).2.2.1.getD s4.1.toNat 0).toNat zMt).1.length:Int)) then
          bif decide ((1:Int)≤((m.2.2.2.1.getD (s2.1.getD s4.1.toNat 0).toNat zMt).1.length:Int))&&decide (((m.2.2.2.1.getD (s2.1.getD s4.1.toNat 0).toNat zMt).1.length:Int)≤((m.2.2.2.1.getD (s2.1.getD s4.1.toNat 0).toNat zMt).1.length:Int)) then
           bif !(rW (((m.2.2.2.1.getD ((m.1.getD c.toNat zCl).2.2.1.getD s4.1.toNat 0).toNat zMt).1.take ((m.2.2.2.1.getD ((m.1.getD c.toNat zCl).2.2.1.getD s4.1.toNat 0).toNat zMt).1.length:Int).toNat).drop 1) (((m.2.2.2.1.getD (s2.1.getD s4.1.toNat 0).toNat zMt).1.take ((m.2.2.2.1.getD (s2.1.getD s4.1.toNat 0).toNat zMt).1.length:Int).toNat).drop 1)) then
            some (.inr (false,()))
           else bif !((((m.2.2.2.1.getD ((m.1.getD c.toNat zCl).2.2.1.getD s4.1.toNat 0).toNat zMt).2.2.1.1)==((m.2.2.2.1.getD (s2.1.getD s4.1.toNat 0).toNat zMt).2.2.1.1))&&((((m.2.2.2.1.getD ((m.1.getD c.toNat zCl).2.2.1.getD s4.1.toNat 0).toNat zMt).2.2.1.2.1)==((m.2.2.2.1.getD (s2.1.getD s4.1.toNat 0).toNat zMt).2.2.1.2.1))&&true)) then
            some (.inr (false,()))
           else some (.inl ())
          else none
         else none
        else none
       else none
      else some (.inl ())
     else none
    else none
   else none
  else none:Option (Unit⊕(Bool×Unit))).bind fun q=>match q with
  | .inr r7=>some r7
  | .inl _=>
   rec5 (IntKind.i64.wrap (s4.1+1),())
 else some (true,())
def aIH (fuel:Nat) (m:Im) (c:Int):Option (Bool×Unit):=
 bif decide (0≤c)&&decide (c<m.1.length) then
  bif decide ((m.1.getD c.toNat zCl).1≥c) then
   some (false,())
  else bif !(nH m (m.1.getD c.toNat zCl).2.1) then
   some (false,())
  else
   (eQ m c).bind fun r1=>
   bif decide ((r1.1.length:Int)>8) then
    some (false,())
   else
    (bif decide ((m.1.getD c.toNat zCl).1≥0) then
     bif decide (0≤(m.1.getD c.toNat zCl).1)&&decide ((m.1.getD c.toNat zCl).1<m.1.length) then
      some (.inl ((m.1.getD (m.1.getD c.toNat zCl).1.toNat zCl).2.2.1,()))
     else none
    else some (.inl (([]:List Int),())):Option ((List Int×Unit)⊕(Bool×Unit))).bind fun q=>match q with
    | .inr r3=>some r3
    | .inl s2=>
     bif decide (((m.1.getD c.toNat zCl).2.2.1.length:Int)<(s2.1.length:Int)) then
      some (false,())
     else aA (wS m c s2) fuel ((0:Int),())
 else none
def aJe (m:Im) (x:Mt) (i:Ins):Option (Bool×Unit):=
 bif i.1==1 then
  some (decide (i.2.1<(m.2.2.1.length:Int)),())
 else
  (bif i.1==3 then
   some (.inl (true,()))
  else some (.inl (i.1==4,())):Option ((Bool×Unit)⊕(Bool×Unit))).bind fun q=>match q with
  | .inr r2=>some r2
  | .inl s1=>
   bif s1.1 then
    some (decide (i.2.1<IntKind.i64.wrap ((x.1.length:Int)+(x.2.1.length:Int))),())
   else
    (bif i.1==18 then
     some (.inl (true,()))
    else some (.inl (i.1==19,())):Option ((Bool×Unit)⊕(Bool×Unit))).bind fun q=>match q with
    | .inr r4=>some r4
    | .inl s3=>
     bif s3.1 then
      some (decide (i.2.1<(x.2.2.2.1.length:Int)),())
     else
      (bif i.1==22 then
       some (.inl (true,()))
      else some (.inl (i.1==34,())):Option ((Bool×Unit)⊕(Bool×Unit))).bind fun q=>match q with
      | .inr r6=>some r6
      | .inl s5=>
       bif s5.1 then
        some (decide (i.2.1<(m.1.length:Int)),())
       else
        (bif i.1==27 then
         some (.inl (true,()))
        else some (.inl (i.1==28,())):Option ((Bool×Unit)⊕(Bool×Unit))).bind fun q=>match q with
        | .inr r8=>some r8
        | .inl s7=>
         bif s7.1 then
          bif decide (i.2.1<(m.1.length:Int)) then
           (eQ m i.2.1).bind fun r9=>
           some (decide (i.2.2.1<(r9.1.length:Int)),())
          else some (false,())
         else
          (bif i.1==29 then
           some (.inl (true,()))
          else some (.inl (i.1==30,())):Option ((Bool×Unit)⊕(Bool×Unit))).bind fun q=>match q with
          | .inr r11=>some r11
          | .inl s10=>
           bif s10.1 then
            some (decide (i.2.1<(m.2.1.length:Int)),())
           else bif i.1==31 then
            some (decide (i.2.1<(m.2.2.2.1.length:Int)),())
           else bif i.1==32 then
            bif decide (i.2.1<(m.1.length:Int)) then
             bif decide (0≤i.2.1)&&decide (i.2.1<m.1.length) then
              some (decide (i.2.2.1<((m.1.getD i.2.1.toNat zCl).2.2.1.length:Int)),())
             else none
            else some (false,())
           else some (true,())
def sX (m:Im) (x:Mt) (s3:Int×Unit) (rec4:(Int×Unit)→Option (Bool×Unit)):Option (Bool×Unit):=
 bif decide (s3.1<(x.2.2.2.1.length:Int)) then
  bif decide (0≤s3.1)&&decide (s3.1<x.2.2.2.1.length) then
   (tY m x (x.2.2.2.1.getD s3.1.toNat dJ)).bind fun r5=>
   bif !r5.1 then
    some (false,())
   else rec4 (IntKind.i64.wrap (s3.1+1),())
  else none
 else some (true,())
def aGO (fuel:Nat) (m:Im) (x:Mt):Option (Bool×Unit):=
 (bif !(nH m x.1) then
  some (.inr (false,()))
 else bif !(nH m x.2.1) then
  some (.inr (false,()))
 else bif !((x.2.2.1.1==5)&&((x.2.2.1.2.1==0)&&true)) then
  bif !(aAB x.2.2.1 (m.1.length:Int)) then
   some (.inr (false,()))
  else bif (x.2.2.2.1.length:Int)==0 then
   some (.inr (false,()))
  else bif (x.2.2.2.2.2.2.1.length:Int) !=(x.2.2.2.1.length:Int) then
   some (.inr (false,()))
  else bif decide (IntKind.i64.wrap ((x.1.length:Int)+(x.2.1.length:Int))>8) then
   some (.inr (false,()))
  else some (.inl ())
 else bif (x.2.2.2.1.length:Int)==0 then
  some (.inr (false,()))
 else bif (x.2.2.2.2.2.2.1.length:Int) !=(x.2.2.2.1.length:Int) then
  some (.inr (false,()))
 else bif decide (IntKind.i64.wrap ((x.1.length:Int)+(x.2.1.length:Int))>8) then
  some (.inr (false,()))
 else some (.inl ()):Option (Unit⊕(Bool×Unit))).bind fun q=>match q with
 | .inr r2=>some r2
 | .inl _=>
  aA (sX m x) fuel ((0:Int),())
def aQa (m:Im):Prop:=((m.1.length≤lenMax∧∀x1:Cl,x1∈m.1→(True∧((x1.2.1.length≤lenMax∧∀x2:Tp,x2∈x1.2.1→(True∧(True∧True)))∧((x1.2.2.1.length≤lenMax∧∀x2:Int,x2∈x1.2.2.1→True)∧True))))∧((m.2.1.length≤lenMax∧∀x1:Tp,x1∈m.2.1→(True∧(True∧True)))∧((m.2.2.1.length≤lenMax∧∀x1:Int,x1∈m.2.2.1→True)∧((m.2.2.2.1.length≤lenMax∧∀x1:Mt,x1∈m.2.2.2.1→((x1.1.length≤lenMax∧∀x2:Tp,x2∈x1.1→(True∧(True∧True)))∧((x1.2.1.length≤lenMax∧∀x2:Tp,x2∈x1.2.1→(True∧(True∧True)))∧((True∧(True∧True))∧((x1.2.2.2.1.length≤lenMax∧∀x2:Ins,x2∈x1.2.2.2.1→(True∧(True∧(True∧True))))∧(True∧(True∧((x1.2.2.2.2.2.2.1.length≤lenMax∧∀x2:Int,x2∈x1.2.2.2.2.2.2.1→True)∧True))))))))∧((m.2.2.2.2.1.length≤lenMax∧∀x1:Int,x1∈m.2.2.2.2.1→True)∧(True∧(True∧True)))))))∧True
def pO (m:Im) (s3:Bool×Int×Unit) (rec4:(Bool×Int×Unit)→Option ((Bool×Unit)⊕(Int×Unit))):Option ((Bool×Unit)⊕(Int×Unit)):=
 bif decide (s3.2.1<(m.1.length:Int)) then
  bif s3.1 then
   (tU m s3.2.1).bind fun r5=>
   rec4 (r5.1,IntKind.i64.wrap (s3.2.1+1),())
  else some (.inl (s3.1,()))
 else some (.inl (s3.1,()))
def nW (m:Im) (s8:Bool×Int×Unit) (rec9:(Bool×Int×Unit)→Option ((Bool×Unit)⊕(Int×Unit))):Option ((Bool×Unit)⊕(Int×Unit)):=
 bif decide (s8.2.1<(m.2.2.2.1.length:Int)) then
  bif s8.1 then
   bif decide (0≤s8.2.1)&&decide (s8.2.1<m.2.2.2.1.length) then
    (pT m (m.2.2.2.1.getD s8.2.1.toNat zMt)).bind fun r10=>
    rec9 (r10.1,IntKind.i64.wrap (s8.2.1+1),())
   else none
  else some (.inl (s8.1,()))
 else some (.inl (s8.1,()))
def uL (m:Im) (s11:Bool×Int×Unit) (rec12:(Bool×Int×Unit)→Option (Int×Unit)) (s15:Bool×Int×Unit) (rec16:(Bool×Int×Unit)→Option (Int×Unit)):Option (Int×Unit):=
 bif decide (0≤m.2.2.2.2.1.getD s11.2.1.toNat 0)&&decide (m.2.2.2.2.1.getD s11.2.1.toNat 0<m.2.2.2.1.length) then
  bif decide (s15.2.1<((m.2.2.2.1.getD (m.2.2.2.2.1.getD s11.2.1.toNat 0).toNat zMt).1.length:Int)) then
   bif s15.1 then
    bif decide (0≤m.2.2.2.2.1.getD s11.2.1.toNat 0)&&decide (m.2.2.2.2.1.getD s11.2.1.toNat 0<m.2.2.2.1.length) then
     bif decide (0≤s15.2.1)&&decide (s15.2.1<(m.2.2.2.1.getD (m.2.2.2.2.1.getD s11.2.1.toNat 0).toNat zMt).1.length) then
      rec16 ((((m.2.2.2.1.getD (m.2.2.2.2.1.getD s11.2.1.toNat 0).toNat zMt).1.getD s15.2.1.toNat zTp).1)==1,IntKind.i64.wrap (s15.2.1+1),())
     else none
    else none
   else rec12 (s15.1,IntKind.i64.wrap (s11.2.1+1),())
  else rec12 (s15.1,IntKind.i64.wrap (s11.2.1+1),())
 else none
def qH (m:Im) (fuel:Nat) (s11:Bool×Int×Unit) (rec12:(Bool×Int×Unit)→Option (Int×Unit)):Option (Int×Unit):=
 bif decide (s11.2.1<(m.2.2.2.2.1.length:Int)) then
  bif s11.1 then
   bif decide (0≤s11.2.1)&&decide (s11.2.1<m.2.2.2.2.1.length) then
    bif decide (m.2.2.2.2.1.getD s11.2.1.toNat 0≥(m.2.2.2.1.length:Int)) then
     some ((3:Int),())
    else
     (bif decide (0≤m.2.2.2.2.1.getD s11.2.1.toNat 0)&&decide (m.2.2.2.2.1.getD s11.2.1.toNat 0<m.2.2.2.1.length) then
      bif ((m.2.2.2.1.getD (m.2.2.2.2.1.getD s11.2.1.toNat 0).toNat zMt).2.2.1.1)==1 then
       some (.inl (true,()))
      else bif decide (0≤m.2.2.2.2.1.getD s11.2.1.toNat 0)&&decide (m.2.2.2.2.1.getD s11.2.1.toNat 0<m.2.2.2.1.length) then
       some (.inl (((m.2.2.2.1.getD (m.2.2.2.2.1.getD s11.2.1.toNat 0).toNat zMt).2.2.1.1)==5,()))
      else none
     else none:Option ((Bool×Unit)⊕(Int×Unit))).bind fun q=>match q with
     | .inr r14=>some r14
     | .inl s13=>
      aA (uL m s11 rec12) fuel (s13.1,((0:Int),()))
   else none
  else bif !s11.1 then
   some ((3:Int),())
  else some ((0:Int),())
 else bif !s11.1 then
  some ((3:Int),())
 else some ((0:Int),())
def aMB (fuel:Nat) (m:Im):Option (Int×Unit):=
 bif !(rN m) then
  some ((2:Int),())
 else
  (aA (pO m) fuel ((nH m m.2.1),((0:Int),())):Option ((Bool×Unit)⊕(Int×Unit))).bind fun q=>match q with
  | .inr r2=>some r2
  | .inl s1=>
   (aA (nW m) fuel (s1.1,((0:Int),())):Option ((Bool×Unit)⊕(Int×Unit))).bind fun q=>match q with
   | .inr r7=>some r7
   | .inl s6=>
    aA (qH m fuel) fuel (s6.1,((0:Int),()))
def aUK (n:Int) (c:Int):Option (Bool×Unit):=
 bif decide (n≥0) then
  some (decide (n<c),())
 else some (false,())
def aTE (m:Im) (l:List (List Tp)):Prop:=((m.1.length≤lenMax∧∀x1:Cl,x1∈m.1→(True∧((x1.2.1.length≤lenMax∧∀x2:Tp,x2∈x1.2.1→(True∧(True∧True)))∧((x1.2.2.1.length≤lenMax∧∀x2:Int,x2∈x1.2.2.1→True)∧True))))∧((m.2.1.length≤lenMax∧∀x1:Tp,x1∈m.2.1→(True∧(True∧True)))∧((m.2.2.1.length≤lenMax∧∀x1:Int,x1∈m.2.2.1→True)∧((m.2.2.2.1.length≤lenMax∧∀x1:Mt,x1∈m.2.2.2.1→((x1.1.length≤lenMax∧∀x2:Tp,x2∈x1.1→(True∧(True∧True)))∧((x1.2.1.length≤lenMax∧∀x2:Tp,x2∈x1.2.1→(True∧(True∧True)))∧((True∧(True∧True))∧((x1.2.2.2.1.length≤lenMax∧∀x2:Ins,x2∈x1.2.2.2.1→(True∧(True∧(True∧True))))∧(True∧(True∧((x1.2.2.2.2.2.2.1.length≤lenMax∧∀x2:Int,x2∈x1.2.2.2.2.2.2.1→True)∧True))))))))∧((m.2.2.2.2.1.length≤lenMax∧∀x1:Int,x1∈m.2.2.2.2.1→True)∧(True∧(True∧True)))))))∧(l.length≤lenMax∧∀x1:List Tp,x1∈l→(x1.length≤lenMax∧∀x2:Tp,x2∈x1→(True∧(True∧True))))∧True
def aI7 (m:Im) (l:List (List Tp)) (s1:Int×Unit) (rec2:(Int×Unit)→Option (Bool×Unit)) (s3:Int×Unit) (rec4:(Int×Unit)→Option (Bool×Unit)):Option (Bool×Unit):=
 bif decide (s3.1<((l.getD s1.1.toNat ([]:List Tp)).length:Int)) then
  bif decide (0≤s3.1)&&decide (s3.1<(l.getD s1.1.toNat ([]:List Tp)).length) then
   bif !(dV ((l.getD s1.1.toNat ([]:List Tp)).getD s3.1.toNat zTp) (m.1.length:Int)) then
    some (false,())
   else rec4 (IntKind.i64.wrap (s3.1+1),())
  else none
 else rec2 (IntKind.i64.wrap (s1.1+1),())
def aEw (m:Im) (l:List (List Tp)) (fuel:Nat) (s1:Int×Unit) (rec2:(Int×Unit)→Option (Bool×Unit)):Option (Bool×Unit):=
 bif decide (s1.1<(l.length:Int)) then
  bif decide (0≤s1.1)&&decide (s1.1<l.length) then
   aA (aI7 m l s1 rec2) fuel ((0:Int),())
  else none
 else some (true,())
def aSL (fuel:Nat) (m:Im) (l:List (List Tp)):Option (Bool×Unit):=
 aA (aEw m l fuel) fuel ((0:Int),())
def aAr (m:Im) (s1:List Int×Unit) (s3:Int×Int×Unit) (rec4:(Int×Int×Unit)→Option (Int×List Int×Unit)):Option (Int×List Int×Unit):=
 bif decide (s3.2.1≥0) then
  bif decide (0≤s3.2.1)&&decide (s3.2.1<m.1.length) then
   bif decide (0≤s3.2.1)&&decide (s3.2.1<m.1.length) then
    rec4 (IntKind.i64.wrap (s3.1+((m.1.getD s3.2.1.toNat zCl).2.1.length:Int)),(m.1.getD s3.2.1.toNat zCl).1,())
   else none
  else none
 else some (s3.1,s1.1,())
def aLT (fuel:Nat) (m:Im) (c:Int):Option (Int×List Int×Unit):=
 (bif decide (0≤c)&&decide (c<m.1.length) then
  bif decide ((m.1.getD c.toNat zCl).1≥0) then
   bif decide (0≤(m.1.getD c.toNat zCl).1)&&decide ((m.1.getD c.toNat zCl).1<m.1.length) then
    some (.inl ((m.1.getD (m.1.getD c.toNat zCl).1.toNat zCl).2.2.1,()))
   else none
  else some (.inl (([]:List Int),()))
 else none:Option ((List Int×Unit)⊕(Int×List Int×Unit))).bind fun q=>match q with
 | .inr r2=>some r2
 | .inl s1=>
  bif decide (0≤c)&&decide (c<m.1.length) then
   aA (aAr m s1) fuel ((0:Int),(m.1.getD c.toNat zCl).1,())
  else none
def aQl (m:Im) (c:Int) (f:Int):Option (Bool×Unit):=
 bif decide (0≤f)&&decide (f<m.2.2.2.1.length) then
  bif decide (((m.2.2.2.1.getD f.toNat zMt).1.length:Int)>0) then
   bif decide ((0:Int)<(m.2.2.2.1.getD f.toNat zMt).1.length) then
    some ((cO m.1 ((3:Int),c,()) ((m.2.2.2.1.getD f.toNat zMt).1.getD 0 zTp)),())
   else none
  else some (false,())
 else none
def aMf (a:Mt) (b:Mt):Option (Bool×Unit):=
 bif decide ((a.1.length:Int)>0) then
  bif decide ((b.1.length:Int)>0) then
   bif decide ((1:Int)≤(a.1.length:Int))&&decide ((a.1.length:Int)≤(a.1.length:Int)) then
    bif decide ((1:Int)≤(b.1.length:Int))&&decide ((b.1.length:Int)≤(b.1.length:Int)) then
     bif (eqL ((a.1.take a.1.length).drop 1) ((b.1.take b.1.length).drop 1)) then
      some ((a.2.2.1.1==b.2.2.1.1)&&((a.2.2.1.2.1==b.2.2.1.2.1)&&true),())
     else some (false,())
    else none
   else none
  else some (false,())
 else some (false,())
def aAA (m:Im) (c:Int) (r1:Int×List Int×Unit) (s2:Int×Unit) (rec3:(Int×Unit)→Option (Bool×Unit)):Option (Bool×Unit):=
 bif decide (s2.1<((m.1.getD c.toNat zCl).2.2.1.length:Int)) then
  bif decide (0≤s2.1)&&decide (s2.1<(m.1.getD c.toNat zCl).2.2.1.length) then
   bif !(sin ((m.1.getD c.toNat zCl).2.2.1.getD s2.1.toNat 0) (m.2.2.2.1.length:Int)) then
    some (false,())
   else
    (aCq m c ((m.1.getD c.toNat zCl).2.2.1.getD s2.1.toNat 0)).bind fun r4=>
    bif !r4.1 then
     some (false,())
    else bif decide (s2.1<(r1.2.1.length:Int)) then
     bif decide (0≤(m.1.getD c.toNat zCl).2.2.1.getD s2.1.toNat 0)&&decide ((m.1.getD c.toNat zCl).2.2.1.getD s2.1.toNat 0<m.2.2.2.1.length) then
      bif decide (0≤s2.1)&&decide (s2.1<r1.2.1.length) then
       bif decide (0≤r1.2.1.getD s2.1.toNat 0)&&decide (r1.2.1.getD s2.1.toNat 0<m.2.2.2.1.length) then
        bif !(aBd (m.2.2.2.1.getD ((m.1.getD c.toNat zCl).2.2.1.getD s2.1.toNat 0).toNat zMt) (m.2.2.2.1.getD (r1.2.1.getD s2.1.toNat 0).toNat zMt)) then
         some (false,())
        else rec3 (IntKind.i64.wrap (s2.1+1),())
       else none
      else none
     else none
    else rec3 (IntKind.i64.wrap (s2.1+1),())
  else none
 else some (true,())
def aL5 (fuel:Nat) (m:Im) (c:Int):Option (Bool×Unit):=
 bif decide (0≤c)&&decide (c<m.1.length) then
  bif decide ((m.1.getD c.toNat zCl).1≥c) then
   some (false,())
  else bif !(nS m [(m.1.getD c.toNat zCl).2.1]) then
   some (false,())
  else
   (pL m c).bind fun r1=>
   bif decide (IntKind.i64.wrap (r1.1+((m.1.getD c.toNat zCl).2.1.length:Int))>8) then
    some (false,())
   else bif decide (((m.1.getD c.toNat zCl).2.2.1.length:Int)<(r1.2.1.length:Int)) then
    some (false,())
   else aA (aAA m c r1) fuel ((0:Int),())
 else none
def aJX (c:Int) (m:Im):Option (Int×Unit):=
 (pL m c).bind fun r1=>
 bif decide (0≤c)&&decide (c<m.1.length) then
  some (IntKind.i64.wrap (r1.1+((m.1.getD c.toNat zCl).2.1.length:Int)),())
 else none
def aME (m:Im) (x:Mt) (i:Ins) (f:Im×Unit):Option (Bool×Unit):=
 bif i.1==1 then
  some ((sin i.2.1 (m.2.2.1.length:Int)),())
 else
  (bif i.1==3 then
   some (.inl (true,()))
  else some (.inl (i.1==4,())):Option ((Bool×Unit)⊕(Bool×Unit))).bind fun q=>match q with
  | .inr r2=>some r2
  | .inl s1=>
   bif s1.1 then
    some ((sin i.2.1 (IntKind.i64.wrap ((x.1.length:Int)+(x.2.1.length:Int)))),())
   else
    (bif i.1==18 then
     some (.inl (true,()))
    else some (.inl (i.1==19,())):Option ((Bool×Unit)⊕(Bool×Unit))).bind fun q=>match q with
    | .inr r4=>some r4
    | .inl s3=>
     bif s3.1 then
      some ((sin i.2.1 (x.2.2.2.1.length:Int)),())
     else
      (bif i.1==22 then
       some (.inl (true,()))
      else some (.inl (i.1==34,())):Option ((Bool×Unit)⊕(Bool×Unit))).bind fun q=>match q with
      | .inr r6=>some r6
      | .inl s5=>
       bif s5.1 then
        some ((sin i.2.1 (m.1.length:Int)),())
       else
        (bif i.1==27 then
         some (.inl (true,()))
        else some (.inl (i.1==28,())):Option ((Bool×Unit)⊕(Bool×Unit))).bind fun q=>match q with
        | .inr r8=>some r8
        | .inl s7=>
         bif s7.1 then
          bif (sin i.2.1 (m.1.length:Int)) then
           (pN i.2.1 f.1).bind fun r9=>
           some ((sin i.2.2.1 r9.1),())
          else some (false,())
         else
          (bif i.1==29 then
           some (.inl (true,()))
          else some (.inl (i.1==30,())):Option ((Bool×Unit)⊕(Bool×Unit))).bind fun q=>match q with
          | .inr r11=>some r11
          | .inl s10=>
           bif s10.1 then
            some ((sin i.2.1 (m.2.1.length:Int)),())
           else bif i.1==31 then
            some ((sin i.2.1 (m.2.2.2.1.length:Int)),())
           else bif i.1==32 then
            bif (sin i.2.1 (m.1.length:Int)) then
             bif decide (0≤i.2.1)&&decide (i.2.1<m.1.length) then
              some ((sin i.2.2.1 ((m.1.getD i.2.1.toNat zCl).2.2.1.length:Int)),())
             else none
            else some (false,())
           else some (true,())
def vP (m:Im) (x:Mt) (s3:Int×Unit) (rec4:(Int×Unit)→Option (Bool×Unit)):Option (Bool×Unit):=
 bif decide (s3.1<(x.2.2.2.1.length:Int)) then
  bif decide (0≤s3.1)&&decide (s3.1<x.2.2.2.1.length) then
   (xR m x (x.2.2.2.1.getD s3.1.toNat dJ) (m,())).bind fun r5=>
   bif !r5.1 then
    some (false,())
   else rec4 (IntKind.i64.wrap (s3.1+1),())
  else none
 else some (true,())
def aIT (fuel:Nat) (m:Im) (x:Mt):Option (Bool×Unit):=
 (bif !(nS m [x.1,x.2.1]) then
  some (.inr (false,()))
 else bif !((x.2.2.1.1==5)&&((x.2.2.1.2.1==0)&&true)) then
  bif !(nS m [[x.2.2.1]]) then
   some (.inr (false,()))
  else some (.inl ())
 else some (.inl ()):Option (Unit⊕(Bool×Unit))).bind fun q=>match q with
 | .inr r2=>some r2
 | .inl _=>
  bif (x.2.2.2.1.length:Int)==0 then
   some (false,())
  else bif (x.2.2.2.2.2.2.1.length:Int) !=(x.2.2.2.1.length:Int) then
   some (false,())
  else bif decide (IntKind.i64.wrap ((x.1.length:Int)+(x.2.1.length:Int))>8) then
   some (false,())
  else aA (vP m x) fuel ((0:Int),())
def aIS (t:Tp):Option (Bool×Unit):=
 some ((t.1==1)&&((t.2.1==0)&&true),())
def aRj (t:Tp) (_f:Unit):Option (Bool×Unit):=
 some (!(sentry1 t),())
def aMs (m:Im) (f:Int):Option (Bool×Unit):=
 bif !(sin f (m.2.2.2.1.length:Int)) then
  some (false,())
 else bif decide (0≤f)&&decide (f<m.2.2.2.1.length) then
  bif (sentry1 (m.2.2.2.1.getD f.toNat zMt).2.2.1) then
   some (!(iS (m.2.2.2.1.getD f.toNat zMt).1 ((),())),())
  else bif ((m.2.2.2.1.getD f.toNat zMt).2.2.1.1)==5 then
   some (!(iS (m.2.2.2.1.getD f.toNat zMt).1 ((),())),())
  else some (false,())
 else none
def aO5 (m:Im):Prop:=((m.1.length≤lenMax∧∀x1:Cl,x1∈m.1→(True∧((x1.2.1.length≤lenMax∧∀x2:Tp,x2∈x1.2.1→(True∧(True∧True)))∧((x1.2.2.1.length≤lenMax∧∀x2:Int,x2∈x1.2.2.1→True)∧True))))∧((m.2.1.length≤lenMax∧∀x1:Tp,x1∈m.2.1→(True∧(True∧True)))∧((m.2.2.1.length≤lenMax∧∀x1:Int,x1∈m.2.2.1→True)∧((m.2.2.2.1.length≤lenMax∧∀x1:Mt,x1∈m.2.2.2.1→((x1.1.length≤lenMax∧∀x2:Tp,x2∈x1.1→(True∧(True∧True)))∧((x1.2.1.length≤lenMax∧∀x2:Tp,x2∈x1.2.1→(True∧(True∧True)))∧((True∧(True∧True))∧((x1.2.2.2.1.length≤lenMax∧∀x2:Ins,x2∈x1.2.2.2.1→(True∧(True∧(True∧True))))∧(True∧(True∧((x1.2.2.2.2.2.2.1.length≤lenMax∧∀x2:Int,x2∈x1.2.2.2.2.2.2.1→True)∧True))))))))∧((m.2.2.2.2.1.length≤lenMax∧∀x1:Int,x1∈m.2.2.2.2.1→True)∧(True∧(True∧True)))))))∧True
def aAL (m:Im) (s7:Int×Unit) (rec8:(Int×Unit)→Option (Int×Unit)):Option (Int×Unit):=
 bif decide (s7.1<(m.2.2.2.2.1.length:Int)) then
  bif decide (0≤s7.1)&&decide (s7.1<m.2.2.2.2.1.length) then
   (aEN m (m.2.2.2.2.1.getD s7.1.toNat 0)).bind fun r9=>
   bif !r9.1 then
    some ((3:Int),())
   else rec8 (IntKind.i64.wrap (s7.1+1),())
  else none
 else some ((0:Int),())
def vF (m:Im) (fuel:Nat) (s4:Int×Unit) (rec5:(Int×Unit)→Option (Int×Unit)):Option (Int×Unit):=
 bif decide (s4.1<(m.2.2.2.1.length:Int)) then
  bif decide (0≤s4.1)&&decide (s4.1<m.2.2.2.1.length) then
   (tW m (m.2.2.2.1.getD s4.1.toNat zMt)).bind fun r6=>
   bif !r6.1 then
    some ((3:Int),())
   else rec5 (IntKind.i64.wrap (s4.1+1),())
  else none
 else aA (aAL m) fuel ((0:Int),())
def mB (m:Im) (fuel:Nat) (s1:Int×Unit) (rec2:(Int×Unit)→Option (Int×Unit)):Option (Int×Unit):=
 bif decide (s1.1<(m.1.length:Int)) then
  (sE m s1.1).bind fun r3=>
  bif !r3.1 then
   some ((3:Int),())
  else rec2 (IntKind.i64.wrap (s1.1+1),())
 else aA (vF m fuel) fuel ((0:Int),())
def aMl (fuel:Nat) (m:Im):Option (Int×Unit):=
 bif !(bD m) then
  some ((2:Int),())
 else bif !(nS m [m.2.1]) then
  some ((3:Int),())
 else aA (mB m fuel) fuel ((0:Int),())
end Go.Pli
