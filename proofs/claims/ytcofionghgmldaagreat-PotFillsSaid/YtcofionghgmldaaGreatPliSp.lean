/- What functions of the program come to, in plain Lean. -/
import Derived.Test.YtcofionghgmldaaGreatPMDefs
import Derived.Laws.BitsAllLaws
import Derived.Laws.Bits64
import Derived.Laws.BitsLemmas
namespace Go.Pli
open Go Go.PM
def gZ:Nat→Nat→List Int
 | 0,v=>[(v:Int)]
 | k+1,v=>if v<128 then[(v:Int)] else ((128+v % 128:Nat):Int)::gZ k (v/128)
def enc (v:Nat):List Int:=gZ 10 v
def aC6 (b:List Int):Bool:=Nat.blt (b.length+20) rowMax
def put (b:List Int) (n:Int):Option (List Int×Unit):=bif aC6 b then some (b++enc (IntKind.u64.wrap (max n 0)).toNat,()) else none
def rL:Nat→Nat→Nat→List Int→Option (Nat×Nat×Bool)
 | 0,_,_,_=>none
 | _+1,_,_,[]=>none
 | k+1,i,v,c::l=>if c<128 then some (v+128 ^ i*(c.toNat % 128),i+1,i==0 || decide (0<c)) else rL k (i+1) (v+128 ^ i*(c.toNat % 128)) l
def lU (l:List Int):Bool:=l.all fun c=>decide (0≤c)&&decide (c<256)
abbrev Rd:=List Int×Bool×Unit
def next (r:Rd):Option (Int×Bool×Rd×Unit):=
 bif lU (r.1.take 5) then (match rL 5 0 0 r.1 with
  | some (v,n,ok)=>some ((v:Int),ok,(r.1.drop n,r.2.1,()),())
  | none=>some (0,false,r,())) else none
def aC7 (b:List Int):Option (Int×Int×Unit):=
 bif lU (b.take 5) then (match rL 5 0 0 b with
  | some (v,n,true)=>some ((v:Int),(n:Int),())
  | _=>some (0,0,())) else none
def rin (l:List Int) (x:Int):Option (Bool×Unit):=bif decide (l.length<9223372036854775807) then some (l.contains x,()) else none
def eL (o:Int):Int:=
 bif ([1,3,4,18,19,22,23,29,30,31,34]:List Int).contains o then 1
 else bif o==27 || (o==28 || o==32) then 2
 else bif decide (o<1) || decide (o>34) then -1 else 0
def qS (o:Int):Int:=eL o
abbrev Ins:=Int×Int×Int×Unit
def uP (n c a:Int):Bool:=bif decide (a≥c) then n==0 else decide (n≥0)&&decide (n≤255)
def fJ (i:Ins):Bool:=decide (eL i.1≥0)&&(uP i.2.1 (eL i.1) 0&&uP i.2.2.1 (eL i.1) 1)
def yK (i:Ins):Bool:=fJ i
def aEc (b:List Int) (i:Ins):Option (List Int×Unit):=
 (put b i.1).bind fun r=>bif decide (eL i.1<1) then some r else (put r.1 i.2.1).bind fun r=>bif decide (eL i.1<2) then some r else put r.1 i.2.2.1
end Go.Pli

namespace Go.Pli
open Go Go.PM
theorem cY {n:Int} (h0: -9223372036854775808≤n) (h1:n<9223372036854775808):IntKind.i64.wrap n=n:=by
 rw[IntKind.wrap_i64];omega
theorem bG {k n:Nat} (h:k<n) (hn:n≤lenMax):IntKind.i64.wrap ((k:Int)+1)=((k+1:Nat):Int):=by
 simp only[lenMax] at hn
 rw[cY] <;> omega
theorem dlt {k n:Nat} (h:k<n):decide ((k:Int)<(n:Int))=true:=aI (by omega)
theorem bP (n:Nat):decide ((n:Int)<(n:Int))=false:=bM (by omega)
theorem dge (k:Nat):decide (0≤(k:Int))=true:=aI (by omega)
theorem aRM (k:Nat):decide ((k:Int)≥0)=true:=aI (by omega)
theorem aZ {S R:Type} (L:S→(S→Option R)→Option R) (n:Nat) (s:S):aE L (n+1) s=L s (aE L n):=rfl
theorem mU {α σ R:Type} {L:σ→(σ→Option R)→Option R} {xs:List α} {st:Nat→σ} {p:α→Bool} {ex fin:Option R}
  (h1:∀(k:Nat) (x:α) (rec),xs[k]? =some x→k<xs.length→L (st k) rec=bif p x then rec (st (k+1)) else ex)
  (h2:∀rec,L (st xs.length) rec=fin):∀F:Nat,xs.length<F→aE L F (st 0)=bif xs.all p then fin else ex:=by
 have key:∀(l pre:List α) (F:Nat),xs=pre++l→l.length<F→aE L F (st pre.length)=bif l.all p then fin else ex:=by
  intro l
  induction l with
  | nil=>
   intro pre F hx hF
   obtain⟨F,rfl⟩:∃n,F=n+1:=⟨F - 1,by simp at hF;omega⟩
   rw[cB] at hx
   subst hx
   rw[aZ,h2]
   rfl
  | cons x l ih=>
   intro pre F hx hF
   obtain⟨F,rfl⟩:∃n,F=n+1:=⟨F - 1,by simp at hF;omega⟩
   have hk:xs[pre.length]? =some x:=by rw[hx];simp
   have hl:pre.length<xs.length:=by rw[hx];simp
   rw[aZ,h1 pre.length x _ hk hl]
   have:=ih (pre++[x]) F (by rw[hx];simp) (by simp only[aF] at hF;omega)
   simp only[aX,aF,bK,bQ] at this
   rw[this,fS]
   cases p x <;> rfl
 intro F hF
 exact key xs [] F rfl hF
def pQ {α:Type} (p:α→Bool):Nat→List α→Int
 | _,[]=> -1
 | k,x::l=>bif p x then (k:Int) else pQ p (k+1) l
theorem aBK {α:Type} (p:α→Bool):∀(l:List α) (k:Nat),decide (pQ p k l≥0)=l.any p
 | [],_=>rfl
 | x::l,k=>by
  simp only[pQ,List.any_cons]
  by_cases hp:p x=true
  ·simp[hp]
  ·have hp:p x=false:=by simpa using hp
   simpa[hp] using aBK p l (k+1)
theorem aDX {α σ:Type} {L:σ→(σ→Option (Int×Unit))→Option (Int×Unit)} {xs:List α} {st:Nat→σ} {p:α→Bool}
  (h1:∀(k:Nat) (x:α) (rec),xs[k]? =some x→k<xs.length→L (st k) rec=bif p x then some ((k:Int),()) else rec (st (k+1)))
  (h2:∀rec,L (st xs.length) rec=some (-1,())):∀F:Nat,xs.length<F→aE L F (st 0)=some (pQ p 0 xs,()):=by
 have key:∀(l pre:List α) (F:Nat),xs=pre++l→l.length<F→aE L F (st pre.length)=some (pQ p pre.length l,()):=by
  intro l
  induction l with
  | nil=>
   intro pre F hx hF
   obtain⟨F,rfl⟩:∃n,F=n+1:=⟨F - 1,by simp at hF;omega⟩
   rw[cB] at hx
   subst hx
   rw[aZ,h2]
   rfl
  | cons x l ih=>
   intro pre F hx hF
   obtain⟨F,rfl⟩:∃n,F=n+1:=⟨F - 1,by simp at hF;omega⟩
   have hk:xs[pre.length]? =some x:=by rw[hx];simp
   have hl:pre.length<xs.length:=by rw[hx];simp
   rw[aZ,h1 pre.length x _ hk hl]
   have:=ih (pre++[x]) F (by rw[hx];simp) (by simp only[aF] at hF;omega)
   simp only[aX,aF,bK,bQ] at this
   simp only[pQ,this]
   cases p x <;> rfl
 intro F hF
 exact key xs [] F rfl hF
theorem getD_some {α:Type} {xs:List α} {k:Nat} {x d:α} (h:xs[k]? =some x):xs.getD k d=x:=by simp[h]
end Go.Pli

namespace Go.Pli
open Go Go.PM
def aEr (r:List Int×Bool×Unit) (n:Int):Option (Int×(List Int×Bool×Unit)×Unit):=
 bif r.2.1 then
  some ((0:Int),r,())
 else
  (next r).bind fun r1=>
  bif !r1.2.1 then
   some ((0:Int),(r1.2.2.1.1,true,()),())
  else bif decide (n<0) then
   some ((0:Int),(r1.2.2.1.1,true,()),())
  else bif decide (r1.1>IntKind.u64.wrap n) then
   some ((0:Int),(r1.2.2.1.1,true,()),())
  else some (IntKind.i64.wrap r1.1,r1.2.2.1,())
def aAR (l:List Int) (x:Int) (s1:Int×Unit) (rec2:(Int×Unit)→Option (Bool×Unit)):Option (Bool×Unit):=
 bif decide (s1.1<(l.length:Int)) then
  bif decide (0≤s1.1)&&decide (s1.1<l.length) then
   bif (l.getD s1.1.toNat 0)==x then
    some (true,())
   else rec2 (IntKind.i64.wrap (s1.1+1),())
  else none
 else some (false,())
def aNB (fuel:Nat) (l:List Int) (x:Int):Option (Bool×Unit):=
 aE (aAR l x) fuel ((0:Int),())
def aGz (o:Int):Option (Int×Unit):=
 bif decide (o<1) then
  some ((-1:Int),())
 else bif decide (o>34) then
  some ((-1:Int),())
 else
  (rin ([1,3,4,18,19,22,23,29,30,31,34]:List Int) o).bind fun r1=>
  bif r1.1 then
   some ((1:Int),())
  else bif o==27 then
   some ((2:Int),())
  else bif o==28 then
   some ((2:Int),())
  else bif o==32 then
   some ((2:Int),())
  else some ((0:Int),())
def aGp (i:Int×Int×Int×Unit):Option (Bool×Unit):=
 (bif decide ((qS i.1)<0) then
  some (.inr (false,()))
 else bif decide ((qS i.1)<1) then
  bif i.2.1 !=0 then
   some (.inr (false,()))
  else bif decide ((qS i.1)<2) then
   bif i.2.2.1 !=0 then
    some (.inr (false,()))
   else some (.inl ())
  else some (.inl ())
 else bif decide ((qS i.1)<2) then
  bif i.2.2.1 !=0 then
   some (.inr (false,()))
  else some (.inl ())
 else some (.inl ()):Option (Unit⊕(Bool×Unit))).bind fun q=>match q with
 | .inr r2=>some r2
 | .inl _=>
  bif decide (i.2.1≥0) then
   bif decide (i.2.1≤255) then
    bif decide (i.2.2.1≥0) then
     some (decide (i.2.2.1≤255),())
    else some (false,())
   else some (false,())
  else some (false,())
def aEf (l:List (Int×Int×Int×Unit)) (s3:List Int×Int×Int×Unit) (rec4:(List Int×Int×Int×Unit)→Option ((List Int×Int×Unit)⊕(Bool×Unit))):Option ((List Int×Int×Unit)⊕(Bool×Unit)):=
 bif decide (s3.2.2.1<(l.length:Int)) then
  bif decide (s3.2.2.1<60) then
   bif decide (0≤s3.2.2.1)&&decide (s3.2.2.1<l.length) then
    bif (fJ (l.getD s3.2.2.1.toNat ((0:Int),((0:Int),((0:Int),()))))) then
     bif decide (0≤s3.2.2.1)&&decide (s3.2.2.1<l.length) then
      (aEc s3.1 (l.getD s3.2.2.1.toNat ((0:Int),((0:Int),((0:Int),()))))).bind fun r5=>
      rec4 (r5.1,IntKind.i64.wrap (s3.2.1+1),IntKind.i64.wrap (s3.2.2.1+1),())
     else none
    else rec4 (s3.1,s3.2.1,IntKind.i64.wrap (s3.2.2.1+1),())
   else none
  else some (.inl (s3.1,s3.2.1,()))
 else some (.inl (s3.1,s3.2.1,()))
end Go.Pli

namespace Go.Pli
open Go Go.PM
abbrev Tp:=Int×Int×Unit
abbrev Cl:=Int×List Tp×List Int×Unit
abbrev Mt:=List Tp×List Tp×Tp×List Ins×Int×Int×List Int×Unit
abbrev Im:=List Cl×List Tp×List Int×List Mt×List Int×Int×Int×Unit
abbrev zTp:Tp:=(0,0,())
abbrev zIns:Ins:=(0,0,0,())
abbrev zCl:Cl:=(0,[],[],())
abbrev zMt:Mt:=([],[],zTp,[],0,0,[],())
abbrev zIm:Im:=([],[],[],[],[],0,0,())
def idL {α:Type} (s:List α):List α:=s
def eqL {α:Type} [BEq α] (a b:List α):Bool:=a==b
def fZ (n m:Int):Bool:=decide (0≤n)&&decide (n≤m)
def jT (t:Tp):Bool:=fZ t.1 5&&(t.2.1==0 || (t.1==3&&fZ t.2.1 7))
def iF (l:List Tp) (m:Int):Bool:=decide ((l.length:Int)≤m)&&l.all jT
def jU (l:List Int) (c m:Int):Bool:=decide ((l.length:Int)≤c)&&l.all fun n=>fZ n m
def lQ (x:Mt):Bool:=
 iF x.1 4&&(iF x.2.1 8&&(jT x.2.2.1&&(decide ((x.2.2.2.1.length:Int)≤64)&&(x.2.2.2.1.all fJ&&(fZ x.2.2.2.2.1 8&&(fZ x.2.2.2.2.2.1 4096&&jU x.2.2.2.2.2.2.1 64 4096))))))
def pR (x:Cl):Bool:=decide (-1≤x.1)&&(decide (x.1<8)&&(iF x.2.1 8&&jU x.2.2.1 4 11))
def cN (m:Im):Bool:=
 decide ((m.1.length:Int)≤8)&&(iF m.2.1 8&&(decide ((m.2.2.1.length:Int)≤16)&&(decide ((m.2.2.2.1.length:Int)≤12)&&(m.1.all pR&&(m.2.2.2.1.all lQ&&
  (jU m.2.2.2.2.1 12 11&&(fZ m.2.2.2.2.2.1 4096&&fZ m.2.2.2.2.2.2.1 4096)))))))
def iN (n a b:Int):Bool:=decide (a≤n)&&decide (n≤b)
def pD (l:List Int) (c m:Int):Bool:=jU l c m
def qT (t:Tp):Bool:=jT t
def mN (l:List Tp) (c:Int):Bool:=iF l c
def sW (m:Im):Bool:=cN m
def gI (t:Tp) (n:Int):Bool:=bif t.1==1 || t.1==2 then t.2.1==0 else t.1==3&&(decide (0≤t.2.1)&&decide (t.2.1<n))
def sT (t:Tp) (n:Int):Bool:=gI t n
def iS (t:Tp):Bool:=t.1==2 || (t.1==3 || t.1==4)
def sR (t:Tp):Bool:=iS t
def eG (l:List Cl) (c:Int):Int:=(l.getD c.toNat zCl).1
def kup (l:List Cl) (c:Int):Int:=bif decide (c<0) || (decide (c≥(l.length:Int)) || decide (eG l c≥c)) then -1 else eG l c
def rQ (l:List Cl):Nat→Int→List Int
 | 0,_=>[]
 | n+1,c=>bif decide (c<0) then[] else c::rQ l n (kup l c)
def cH (l:List Cl) (c:Int):List Int:=rQ l (c.toNat+1) c
def dH (l:List Cl) (a b:Int):Bool:=decide (0≤b)&&(decide (b<(l.length:Int))&&(decide (a<(l.length:Int))&&(cH l a).contains b))
def cR (l:List Cl) (a b:Tp):Bool:=bif a.1==4 then iS b else bif a.1==3&&b.1==3 then dH l a.2.1 b.2.1 else a==b&&(a.1==1 || a.1==2)
def okL {α:Type} (l:List α):Bool:=Nat.blt l.length 1000000
def cG (l:List Cl) (c:Int):List Int:=bif decide (c<(l.length:Int)) then cH l c else[]
def jO (l:List Cl) (c:Int):Option (List Int×Unit):=bif okL l then some (cG l c,()) else none
def vA (l:List Cl) (a b:Tp):Bool:=bif a.1==4 then iS b else bif a.1==3 then b.1==3&&(cG l a.2.1).contains b.2.1 else a==b&&(a.1==1 || a.1==2)
def mL (l:List Cl) (a b:Tp):Option (Bool×Unit):=bif okL l then some (vA l a b,()) else none
def kK (a b:List Tp):Bool:=a==b
def qR (a b:List Int):Bool:=a==b
def pC (a b:Im):Bool:=a==b
def wL (m:Im):Option (Im×Unit):=bif cN m then some (m,()) else none
def sin (n c:Int):Bool:=decide (0≤n)&&decide (n<c)
def fK (m:Im) (l:List Tp):Bool:=l.all fun t=>gI t (m.1.length:Int)
def nV (m:Im) (l:List Tp):Bool:=fK m l
def bZ (m:Im) (c:Int):Cl:=m.1.getD c.toNat zCl
def aD (m:Im) (f:Int):Mt:=m.2.2.2.1.getD f.toNat zMt
def bE:List Nat→Nat
 | []=>0
 | n::l=>n+bE l
def jF (m:Im) (c:Int):Nat:=bE ((cH m.1 c).map fun s=>(bZ m s).2.1.length)
def eZ (m:Im) (c:Int):List Int:=bif decide (0≤eG m.1 c) then (bZ m (eG m.1 c)).2.2.1 else[]
def rT (a b:Mt):Bool:=decide (0<a.1.length)&&(decide (0<b.1.length)&&(a.1.drop 1==b.1.drop 1&&a.2.2.1==b.2.2.1))
def wR (m:Im) (c f:Int):Bool:=decide (0<(aD m f).1.length)&&cR m.1 (3,c,()) ((aD m f).1.getD 0 zTp)
def oW (m:Im) (c:Int) (n:Nat) (f:Int):Bool:=
 sin f (m.2.2.2.1.length:Int)&&(wR m c f&&(!decide (n<(eZ m c).length) || rT (aD m f) (aD m ((eZ m c).getD n 0))))
def jX {α:Type} (p:Nat→α→Bool):Nat→List α→Bool
 | _,[]=>true
 | k,x::l=>p k x&&jX p (k+1) l
def iT (m:Im) (c:Int):Bool:=
 decide (eG m.1 c<c)&&(fK m (bZ m c).2.1&&(decide (jF m c≤8)&&(decide ((eZ m c).length≤(bZ m c).2.2.1.length)&&jX (oW m c) 0 (bZ m c).2.2.1)))
def ahead (m:Im) (c:Int):Bool:=(List.range c.toNat).all fun k=>iT m (k:Int)
def tB (m:Im) (c:Int):Bool:=cN m&&(decide (0≤c)&&(decide (c<(m.1.length:Int))&&ahead m c))
def kY (m:Im):Bool:=(List.range m.1.length).all fun k=>iT m (k:Int)
def jA (m:Im) (c:Int):Option (List Tp×Unit):=bif cN m then some ((((cG m.1 c).reverse).map fun s=>(bZ m s).2.1).flatten,()) else none
def vL (m:Im) (c:Int):Option (Bool×Unit):=bif tB m c then some (iT m c,()) else none
def cM (m:Im) (x:Mt) (i:Ins):Bool:=
 bif i.1==1 then sin i.2.1 (m.2.2.1.length:Int)
 else bif i.1==3 || i.1==4 then sin i.2.1 ((x.1.length+x.2.1.length:Nat):Int)
 else bif i.1==18 || i.1==19 then sin i.2.1 (x.2.2.2.1.length:Int)
 else bif i.1==22 || i.1==34 then sin i.2.1 (m.1.length:Int)
 else bif i.1==27 || i.1==28 then sin i.2.1 (m.1.length:Int)&&sin i.2.2.1 (jF m i.2.1:Int)
 else bif i.1==29 || i.1==30 then sin i.2.1 (m.2.1.length:Int)
 else bif i.1==31 then sin i.2.1 (m.2.2.2.1.length:Int)
 else bif i.1==32 then sin i.2.1 (m.1.length:Int)&&sin i.2.2.1 ((bZ m i.2.1).2.2.1.length:Int)
 else true
def qW (m:Im) (x:Mt):Bool:=cN m&&(kY m&&lQ x)
def vJ (m:Im) (x:Mt) (i:Ins):Option (Bool×Unit):=bif qW m x&&fJ i then some (cM m x i,()) else none
def fC (m:Im) (x:Mt):Bool:=
 fK m x.1&&(fK m x.2.1&&((x.2.2.1==(5,0,()) || gI x.2.2.1 (m.1.length:Int))&&(decide (x.2.2.2.1.length≠0)&&(decide (x.2.2.2.2.2.2.1.length=x.2.2.2.1.length)&&
  (decide (x.1.length+x.2.1.length≤8)&&x.2.2.2.1.all (cM m x))))))
def vK (m:Im) (x:Mt):Option (Bool×Unit):=bif qW m x then some (fC m x,()) else none
def qO (t:Tp):Bool:=t.1==1&&t.2.1==0
def rJ (m:Im) (f:Int):Bool:=sin f (m.2.2.2.1.length:Int)&&((qO (aD m f).2.2.1 || (aD m f).2.2.1.1==5)&&(aD m f).1.all qO)
def kJ (m:Im):Bool:=fK m m.2.1&&(kY m&&(m.2.2.2.1.all (fC m)&&m.2.2.2.2.1.all (rJ m)))
def yG (m:Im):Int:=bif cN m then (bif kJ m then 0 else 3) else 2
def sV (m:Im):Int:=yG m
end Go.Pli

namespace Go.Pli
open Go Go.PM
def aKb (s:List Cl):Option (List Cl×Unit):=
 bif decide ((s.length:Int)=(s.length:Int))&&decide ((s.length:Int)=(s.length:Int)) then
  some (s,())
 else none
def aJ2 (s:List Tp):Option (List Tp×Unit):=
 bif decide ((s.length:Int)=(s.length:Int))&&decide ((s.length:Int)=(s.length:Int)) then
  some (s,())
 else none
def aJ9 (s:List Int):Option (List Int×Unit):=
 bif decide ((s.length:Int)=(s.length:Int))&&decide ((s.length:Int)=(s.length:Int)) then
  some (s,())
 else none
def aJ1 (s:List Ins):Option (List Ins×Unit):=
 bif decide ((s.length:Int)=(s.length:Int))&&decide ((s.length:Int)=(s.length:Int)) then
  some (s,())
 else none
def aJ5 (s:List Int):Option (List Int×Unit):=
 bif decide ((s.length:Int)=(s.length:Int))&&decide ((s.length:Int)=(s.length:Int)) then
  some (s,())
 else none
def aB6 (s:List Tp):Option (List Tp×Unit):=
 bif decide (([]:List Tp).length+s.length<rowMax) then
  some (([]:List Tp)++s,())
 else none
def aB7 (s:List Int):Option (List Int×Unit):=
 bif decide (([]:List Int).length+s.length<rowMax) then
  some (([]:List Int)++s,())
 else none
def aB8 (s:List Int):Option (List Int×Unit):=
 bif decide (([]:List Int).length+s.length<rowMax) then
  some (([]:List Int)++s,())
 else none
def aB5 (s:List Ins):Option (List Ins×Unit):=
 bif decide (([]:List Ins).length+s.length<rowMax) then
  some (([]:List Ins)++s,())
 else none
def uH (s:List Tp):Option (List Tp×Unit):=
 (aB6 s).bind fun r1=>
 some ((idL r1.1),())
def aCp (s:List Int):Option (List Int×Unit):=
 (aB7 s).bind fun r1=>
 some ((idL r1.1),())
def xH (s:List Int):Option (List Int×Unit):=
 (aB8 s).bind fun r1=>
 some ((idL r1.1),())
def aCn (s:List Ins):Option (List Ins×Unit):=
 (aB5 s).bind fun r1=>
 some ((idL r1.1),())
def aRy (a:List Tp) (b:List Tp):Prop:=(a.length≤lenMax∧∀x1:Tp,x1∈a→(True∧(True∧True)))∧(b.length≤lenMax∧∀x1:Tp,x1∈b→(True∧(True∧True)))∧True
def aBX (a:List Tp) (b:List Tp) (s1:Int×Unit) (rec2:(Int×Unit)→Option (Bool×Unit)):Option (Bool×Unit):=
 bif decide (s1.1<(a.length:Int)) then
  bif decide (0≤s1.1)&&decide (s1.1<a.length) then
   bif decide (0≤s1.1)&&decide (s1.1<b.length) then
    bif !((((a.getD s1.1.toNat zTp).1)==((b.getD s1.1.toNat zTp).1))&&((((a.getD s1.1.toNat zTp).2.1)==((b.getD s1.1.toNat zTp).2.1))&&true)) then
     some (false,())
    else rec2 (IntKind.i64.wrap (s1.1+1),())
   else none
  else none
 else some (true,())
def aJp (fuel:Nat) (a:List Tp) (b:List Tp):Option (Bool×Unit):=
 bif (a.length:Int) !=(b.length:Int) then
  some (false,())
 else aE (aBX a b) fuel ((0:Int),())
def aRB (a:List Int) (b:List Int):Prop:=(a.length≤lenMax∧∀x1:Int,x1∈a→True)∧(b.length≤lenMax∧∀x1:Int,x1∈b→True)∧True
def aBY (a:List Int) (b:List Int) (s1:Int×Unit) (rec2:(Int×Unit)→Option (Bool×Unit)):Option (Bool×Unit):=
 bif decide (s1.1<(a.length:Int)) then
  bif decide (0≤s1.1)&&decide (s1.1<a.length) then
   bif decide (0≤s1.1)&&decide (s1.1<b.length) then
    bif (a.getD s1.1.toNat 0) !=(b.getD s1.1.toNat 0) then
     some (false,())
    else rec2 (IntKind.i64.wrap (s1.1+1),())
   else none
  else none
 else some (true,())
def aJq (fuel:Nat) (a:List Int) (b:List Int):Option (Bool×Unit):=
 bif (a.length:Int) !=(b.length:Int) then
  some (false,())
 else aE (aBY a b) fuel ((0:Int),())
def aIs (t:Tp):Option (Bool×Unit):=
 bif t.1==2 then
  some (true,())
 else bif t.1==3 then
  some (true,())
 else some (t.1==4,())
def aIp (l:List Cl) (c:Int):Option (Int×Unit):=
 bif decide (c<0) then
  some ((-1:Int),())
 else bif decide (c≥(l.length:Int)) then
  some ((-1:Int),())
 else bif decide (0≤c)&&decide (c<l.length) then
  bif decide ((l.getD c.toNat zCl).1≥c) then
   some ((-1:Int),())
  else bif decide (0≤c)&&decide (c<l.length) then
   some ((l.getD c.toNat zCl).1,())
  else none
 else none
def aBH (l:List Cl) (b:Int) (s1:Int×Unit) (rec2:(Int×Unit)→Option (Bool×Unit)):Option (Bool×Unit):=
 bif decide (s1.1≥0) then
  bif s1.1==b then
   some (true,())
  else rec2 ((kup l s1.1),())
 else some (false,())
def aIv (fuel:Nat) (l:List Cl) (a:Int) (b:Int):Option (Bool×Unit):=
 bif decide (b<0) then
  some (false,())
 else bif decide (b≥(l.length:Int)) then
  some (false,())
 else bif decide (a≥(l.length:Int)) then
  some (false,())
 else aE (aBH l b) fuel (a,())
def aIq (l:List Cl) (a:Tp) (b:Tp):Option (Bool×Unit):=
 bif a.1==4 then
  some ((iS b),())
 else bif a.1==3 then
  bif b.1==3 then
   some ((dH l a.2.1 b.2.1),())
  else bif (a.1==b.1)&&((a.2.1==b.2.1)&&true) then
   bif a.1==1 then
    some (true,())
   else some (a.1==2,())
  else some (false,())
 else bif (a.1==b.1)&&((a.2.1==b.2.1)&&true) then
  bif a.1==1 then
   some (true,())
  else some (a.1==2,())
 else some (false,())
def vC (l:List Cl) (s1:Int×List Int×Unit) (rec2:(Int×List Int×Unit)→Option (List Int×Unit)):Option (List Int×Unit):=
 bif decide (s1.1≥0) then
  bif decide (s1.1<(l.length:Int)) then
   bif decide (s1.2.1.length+[s1.1].length<rowMax) then
    bif decide (0≤s1.1)&&decide (s1.1<l.length) then
     bif decide ((l.getD s1.1.toNat zCl).1≥s1.1) then
      rec2 ((-1:Int),s1.2.1++[s1.1],())
     else rec2 ((l.getD s1.1.toNat zCl).1,s1.2.1++[s1.1],())
    else none
   else none
  else some (s1.2.1,())
 else some (s1.2.1,())
def aGC (fuel:Nat) (l:List Cl) (c:Int):Option (List Int×Unit):=
 aE (vC l) fuel (c,(([]:List Int),()))
def aGm (t:Tp):Option (Bool×Unit):=
 bif t.1==2 then
  some (true,())
 else bif t.1==3 then
  some (true,())
 else some (t.1==4,())
def aGv (t:Tp) (n:Int):Option (Bool×Unit):=
 bif t.1==1 then
  bif t.2.1==0 then
   some (true,())
  else bif t.1==3 then
   bif decide (t.2.1≥0) then
    some (decide (t.2.1<n),())
   else some (false,())
  else some (false,())
 else bif t.1==2 then
  bif t.2.1==0 then
   some (true,())
  else bif t.1==3 then
   bif decide (t.2.1≥0) then
    some (decide (t.2.1<n),())
   else some (false,())
  else some (false,())
 else bif t.1==3 then
  bif decide (t.2.1≥0) then
   some (decide (t.2.1<n),())
  else some (false,())
 else some (false,())
def aGa (l:List Cl) (a:Tp) (b:Tp):Option (Bool×Unit):=
 bif a.1==4 then
  some ((sR b),())
 else bif a.1==3 then
  bif b.1==3 then
   (jO l a.2.1).bind fun r1=>
   (rin r1.1 b.2.1).bind fun r2=>
   some (r2.1,())
  else some (false,())
 else bif a.1==1 then
  some ((a.1==b.1)&&((a.2.1==b.2.1)&&true),())
 else bif a.1==2 then
  some ((a.1==b.1)&&((a.2.1==b.2.1)&&true),())
 else some (false,())
def aNd (a:List Tp) (b:List Tp):Prop:=(a.length≤lenMax∧∀x1:Tp,x1∈a→(True∧(True∧True)))∧(b.length≤lenMax∧∀x1:Tp,x1∈b→(True∧(True∧True)))∧True
def aNe (a:List Tp) (b:List Tp) (s1:Int×Unit) (rec2:(Int×Unit)→Option (Bool×Unit)):Option (Bool×Unit):=
 bif decide (s1.1<(a.length:Int)) then
  bif decide (0≤s1.1)&&decide (s1.1<a.length) then
   bif decide (0≤s1.1)&&decide (s1.1<b.length) then
    bif !((((a.getD s1.1.toNat zTp).1)==((b.getD s1.1.toNat zTp).1))&&((((a.getD s1.1.toNat zTp).2.1)==((b.getD s1.1.toNat zTp).2.1))&&true)) then
     some (false,())
    else rec2 (IntKind.i64.wrap (s1.1+1),())
   else none
  else none
 else some (true,())
def aNc (fuel:Nat) (a:List Tp) (b:List Tp):Option (Bool×Unit):=
 bif (a.length:Int) !=(b.length:Int) then
  some (false,())
 else aE (aNe a b) fuel ((0:Int),())
def aNu (a:List Int) (b:List Int):Prop:=(a.length≤lenMax∧∀x1:Int,x1∈a→True)∧(b.length≤lenMax∧∀x1:Int,x1∈b→True)∧True
def aNv (a:List Int) (b:List Int) (s1:Int×Unit) (rec2:(Int×Unit)→Option (Bool×Unit)):Option (Bool×Unit):=
 bif decide (s1.1<(a.length:Int)) then
  bif decide (0≤s1.1)&&decide (s1.1<a.length) then
   bif decide (0≤s1.1)&&decide (s1.1<b.length) then
    bif (a.getD s1.1.toNat 0) !=(b.getD s1.1.toNat 0) then
     some (false,())
    else rec2 (IntKind.i64.wrap (s1.1+1),())
   else none
  else none
 else some (true,())
def aNt (fuel:Nat) (a:List Int) (b:List Int):Option (Bool×Unit):=
 bif (a.length:Int) !=(b.length:Int) then
  some (false,())
 else aE (aNv a b) fuel ((0:Int),())
def aGT (n:Int) (a:Int) (b:Int):Option (Bool×Unit):=
 bif decide (n≥a) then
  some (decide (n≤b),())
 else some (false,())
def aOh (l:List Int) (_c:Int) (_m:Int):Prop:=(l.length≤lenMax∧∀x1:Int,x1∈l→True)∧True∧True∧True
def aA3 (l:List Int) (m:Int) (s1:Int×Unit) (rec2:(Int×Unit)→Option (Bool×Unit)):Option (Bool×Unit):=
 bif decide (s1.1<(l.length:Int)) then
  bif decide (0≤s1.1)&&decide (s1.1<l.length) then
   bif !(iN (l.getD s1.1.toNat 0) (0:Int) m) then
    some (false,())
   else rec2 (IntKind.i64.wrap (s1.1+1),())
  else none
 else some (true,())
def aGS (fuel:Nat) (l:List Int) (c:Int) (m:Int):Option (Bool×Unit):=
 bif decide ((l.length:Int)>c) then
  some (false,())
 else aE (aA3 l m) fuel ((0:Int),())
def aGL (t:Tp):Option (Bool×Unit):=
 bif (iN t.1 (0:Int) (5:Int)) then
  bif t.2.1==0 then
   some (true,())
  else bif t.1==3 then
   some ((iN t.2.1 (0:Int) (7:Int)),())
  else some (false,())
 else some (false,())
def aN0 (l:List Tp) (_c:Int):Prop:=(l.length≤lenMax∧∀x1:Tp,x1∈l→(True∧(True∧True)))∧True∧True
def aAX (l:List Tp) (s1:Int×Unit) (rec2:(Int×Unit)→Option (Bool×Unit)):Option (Bool×Unit):=
 bif decide (s1.1<(l.length:Int)) then
  bif decide (0≤s1.1)&&decide (s1.1<l.length) then
   bif !(qT (l.getD s1.1.toNat zTp)) then
    some (false,())
   else rec2 (IntKind.i64.wrap (s1.1+1),())
  else none
 else some (true,())
def aGJ (fuel:Nat) (l:List Tp) (c:Int):Option (Bool×Unit):=
 bif decide ((l.length:Int)>c) then
  some (false,())
 else aE (aAX l) fuel ((0:Int),())
def aOn (m:Im):Prop:=((m.1.length≤lenMax∧∀x1:Cl,x1∈m.1→(True∧((x1.2.1.length≤lenMax∧∀x2:Tp,x2∈x1.2.1→(True∧(True∧True)))∧((x1.2.2.1.length≤lenMax∧∀x2:Int,x2∈x1.2.2.1→True)∧True))))∧((m.2.1.length≤lenMax∧∀x1:Tp,x1∈m.2.1→(True∧(True∧True)))∧((m.2.2.1.length≤lenMax∧∀x1:Int,x1∈m.2.2.1→True)∧((m.2.2.2.1.length≤lenMax∧∀x1:Mt,x1∈m.2.2.2.1→((x1.1.length≤lenMax∧∀x2:Tp,x2∈x1.1→(True∧(True∧True)))∧((x1.2.1.length≤lenMax∧∀x2:Tp,x2∈x1.2.1→(True∧(True∧True)))∧((True∧(True∧True))∧((x1.2.2.2.1.length≤lenMax∧∀x2:Ins,x2∈x1.2.2.2.1→(True∧(True∧(True∧True))))∧(True∧(True∧((x1.2.2.2.2.2.2.1.length≤lenMax∧∀x2:Int,x2∈x1.2.2.2.2.2.2.1→True)∧True))))))))∧((m.2.2.2.2.1.length≤lenMax∧∀x1:Int,x1∈m.2.2.2.2.1→True)∧(True∧(True∧True)))))))∧True
def aA7 (m:Im) (s3:Int×Unit) (rec4:(Int×Unit)→Option (Bool×Unit)) (s5:Int×Unit) (rec6:(Int×Unit)→Option (Bool×Unit)):Option (Bool×Unit):=
 bif decide (s5.1<((m.2.2.2.1.getD s3.1.toNat zMt).2.2.2.1.length:Int)) then
  bif decide (0≤s5.1)&&decide (s5.1<(m.2.2.2.1.getD s3.1.toNat zMt).2.2.2.1.length) then
   bif !(yK ((m.2.2.2.1.getD s3.1.toNat zMt).2.2.2.1.getD s5.1.toNat zIns)) then
    some (false,())
   else rec6 (IntKind.i64.wrap (s5.1+1),())
  else none
 else rec4 (IntKind.i64.wrap (s3.1+1),())
def aA6 (m:Im) (fuel:Nat) (s3:Int×Unit) (rec4:(Int×Unit)→Option (Bool×Unit)):Option (Bool×Unit):=
 bif decide (s3.1<(m.2.2.2.1.length:Int)) then
  bif decide (0≤s3.1)&&decide (s3.1<m.2.2.2.1.length) then
   bif !(mN (m.2.2.2.1.getD s3.1.toNat zMt).1 (4:Int)) then
    some (false,())
   else bif !(mN (m.2.2.2.1.getD s3.1.toNat zMt).2.1 (8:Int)) then
    some (false,())
   else bif !(qT (m.2.2.2.1.getD s3.1.toNat zMt).2.2.1) then
    some (false,())
   else bif decide (((m.2.2.2.1.getD s3.1.toNat zMt).2.2.2.1.length:Int)>64) then
    some (false,())
   else bif !(iN (m.2.2.2.1.getD s3.1.toNat zMt).2.2.2.2.1 (0:Int) (8:Int)) then
    some (false,())
   else bif !(iN (m.2.2.2.1.getD s3.1.toNat zMt).2.2.2.2.2.1 (0:Int) (4096:Int)) then
    some (false,())
   else bif !(pD (m.2.2.2.1.getD s3.1.toNat zMt).2.2.2.2.2.2.1 (64:Int) (4096:Int)) then
    some (false,())
   else aE (aA7 m s3 rec4) fuel ((0:Int),())
  else none
 else some (true,())
def aA5 (m:Im) (fuel:Nat) (s1:Int×Unit) (rec2:(Int×Unit)→Option (Bool×Unit)):Option (Bool×Unit):=
 bif decide (s1.1<(m.1.length:Int)) then
  bif decide (0≤s1.1)&&decide (s1.1<m.1.length) then
   bif !(iN (m.1.getD s1.1.toNat zCl).1 (-1:Int) (7:Int)) then
    some (false,())
   else bif !(mN (m.1.getD s1.1.toNat zCl).2.1 (8:Int)) then
    some (false,())
   else bif !(pD (m.1.getD s1.1.toNat zCl).2.2.1 (4:Int) (11:Int)) then
    some (false,())
   else rec2 (IntKind.i64.wrap (s1.1+1),())
  else none
 else aE (aA6 m fuel) fuel ((0:Int),())
def aGV (fuel:Nat) (m:Im):Option (Bool×Unit):=
 bif decide ((m.1.length:Int)>8) then
  some (false,())
 else bif decide ((m.2.2.1.length:Int)>16) then
  some (false,())
 else bif decide ((m.2.2.2.1.length:Int)>12) then
  some (false,())
 else bif !(mN m.2.1 (8:Int)) then
  some (false,())
 else bif !(pD m.2.2.2.2.1 (12:Int) (11:Int)) then
  some (false,())
 else bif !(iN m.2.2.2.2.2.1 (0:Int) (4096:Int)) then
  some (false,())
 else bif !(iN m.2.2.2.2.2.2.1 (0:Int) (4096:Int)) then
  some (false,())
 else aE (aA5 m fuel) fuel ((0:Int),())
def aN8 (a:Im) (b:Im):Prop:=((a.1.length≤lenMax∧∀x1:Cl,x1∈a.1→(True∧((x1.2.1.length≤lenMax∧∀x2:Tp,x2∈x1.2.1→(True∧(True∧True)))∧((x1.2.2.1.length≤lenMax∧∀x2:Int,x2∈x1.2.2.1→True)∧True))))∧((a.2.1.length≤lenMax∧∀x1:Tp,x1∈a.2.1→(True∧(True∧True)))∧((a.2.2.1.length≤lenMax∧∀x1:Int,x1∈a.2.2.1→True)∧((a.2.2.2.1.length≤lenMax∧∀x1:Mt,x1∈a.2.2.2.1→((x1.1.length≤lenMax∧∀x2:Tp,x2∈x1.1→(True∧(True∧True)))∧((x1.2.1.length≤lenMax∧∀x2:Tp,x2∈x1.2.1→(True∧(True∧True)))∧((True∧(True∧True))∧((x1.2.2.2.1.length≤lenMax∧∀x2:Ins,x2∈x1.2.2.2.1→(True∧(True∧(True∧True))))∧(True∧(True∧((x1.2.2.2.2.2.2.1.length≤lenMax∧∀x2:Int,x2∈x1.2.2.2.2.2.2.1→True)∧True))))))))∧((a.2.2.2.2.1.length≤lenMax∧∀x1:Int,x1∈a.2.2.2.2.1→True)∧(True∧(True∧True)))))))∧((b.1.length≤lenMax∧∀x1:Cl,x1∈b.1→(True∧((x1.2.1.length≤lenMax∧∀x2:Tp,x2∈x1.2.1→(True∧(True∧True)))∧((x1.2.2.1.length≤lenMax∧∀x2:Int,x2∈x1.2.2.1→True)∧True))))∧((b.2.1.length≤lenMax∧∀x1:Tp,x1∈b.2.1→(True∧(True∧True)))∧((b.2.2.1.length≤lenMax∧∀x1:Int,x1∈b.2.2.1→True)∧((b.2.2.2.1.length≤lenMax∧∀x1:Mt,x1∈b.2.2.2.1→((x1.1.length≤lenMax∧∀x2:Tp,x2∈x1.1→(True∧(True∧True)))∧((x1.2.1.length≤lenMax∧∀x2:Tp,x2∈x1.2.1→(True∧(True∧True)))∧((True∧(True∧True))∧((x1.2.2.2.1.length≤lenMax∧∀x2:Ins,x2∈x1.2.2.2.1→(True∧(True∧(True∧True))))∧(True∧(True∧((x1.2.2.2.2.2.2.1.length≤lenMax∧∀x2:Int,x2∈x1.2.2.2.2.2.2.1→True)∧True))))))))∧((b.2.2.2.2.1.length≤lenMax∧∀x1:Int,x1∈b.2.2.2.2.1→True)∧(True∧(True∧True)))))))∧True
def aA1 (a:Im) (b:Im) (s5:Int×Unit) (rec6:(Int×Unit)→Option (Bool×Unit)) (s7:Int×Unit) (rec8:(Int×Unit)→Option (Bool×Unit)):Option (Bool×Unit):=
 bif decide (s7.1<((a.2.2.2.1.getD s5.1.toNat zMt).2.2.2.1.length:Int)) then
  bif decide (0≤s7.1)&&decide (s7.1<(a.2.2.2.1.getD s5.1.toNat zMt).2.2.2.1.length) then
   bif decide (0≤s7.1)&&decide (s7.1<(b.2.2.2.1.getD s5.1.toNat zMt).2.2.2.1.length) then
    bif !(((((a.2.2.2.1.getD s5.1.toNat zMt).2.2.2.1.getD s7.1.toNat zIns).1)==(((b.2.2.2.1.getD s5.1.toNat zMt).2.2.2.1.getD s7.1.toNat zIns).1))&&(((((a.2.2.2.1.getD s5.1.toNat zMt).2.2.2.1.getD s7.1.toNat zIns).2.1)==(((b.2.2.2.1.getD s5.1.toNat zMt).2.2.2.1.getD s7.1.toNat zIns).2.1))&&(((((a.2.2.2.1.getD s5.1.toNat zMt).2.2.2.1.getD s7.1.toNat zIns).2.2.1)==(((b.2.2.2.1.getD s5.1.toNat zMt).2.2.2.1.getD s7.1.toNat zIns).2.2.1))&&true))) then
     some (false,())
    else rec8 (IntKind.i64.wrap (s7.1+1),())
   else none
  else none
 else rec6 (IntKind.i64.wrap (s5.1+1),())
def aA0 (a:Im) (b:Im) (fuel:Nat) (s5:Int×Unit) (rec6:(Int×Unit)→Option (Bool×Unit)):Option (Bool×Unit):=
 bif decide (s5.1<(a.2.2.2.1.length:Int)) then
  bif decide (0≤s5.1)&&decide (s5.1<a.2.2.2.1.length) then
   bif decide (0≤s5.1)&&decide (s5.1<b.2.2.2.1.length) then
    bif !(kK (a.2.2.2.1.getD s5.1.toNat zMt).1 (b.2.2.2.1.getD s5.1.toNat zMt).1) then
     some (false,())
    else bif !(kK (a.2.2.2.1.getD s5.1.toNat zMt).2.1 (b.2.2.2.1.getD s5.1.toNat zMt).2.1) then
     some (false,())
    else bif !((((a.2.2.2.1.getD s5.1.toNat zMt).2.2.1.1)==((b.2.2.2.1.getD s5.1.toNat zMt).2.2.1.1))&&((((a.2.2.2.1.getD s5.1.toNat zMt).2.2.1.2.1)==((b.2.2.2.1.getD s5.1.toNat zMt).2.2.1.2.1))&&true)) then
     some (false,())
    else bif ((a.2.2.2.1.getD s5.1.toNat zMt).2.2.2.1.length:Int) !=((b.2.2.2.1.getD s5.1.toNat zMt).2.2.2.1.length:Int) then
     some (false,())
    else bif ((a.2.2.2.1.getD s5.1.toNat zMt).2.2.2.2.1) !=((b.2.2.2.1.getD s5.1.toNat zMt).2.2.2.2.1) then
     some (false,())
    else bif ((a.2.2.2.1.getD s5.1.toNat zMt).2.2.2.2.2.1) !=((b.2.2.2.1.getD s5.1.toNat zMt).2.2.2.2.2.1) then
     some (false,())
    else bif !(qR (a.2.2.2.1.getD s5.1.toNat zMt).2.2.2.2.2.2.1 (b.2.2.2.1.getD s5.1.toNat zMt).2.2.2.2.2.2.1) then
     some (false,())
    else aE (aA1 a b s5 rec6) fuel ((0:Int),())
   else none
  else none
 else some (true,())
def aAZ (a:Im) (b:Im) (fuel:Nat) (s3:Int×Unit) (rec4:(Int×Unit)→Option (Bool×Unit)):Option (Bool×Unit):=
 bif decide (s3.1<(a.1.length:Int)) then
  bif decide (0≤s3.1)&&decide (s3.1<a.1.length) then
   bif decide (0≤s3.1)&&decide (s3.1<b.1.length) then
    bif ((a.1.getD s3.1.toNat zCl).1) !=((b.1.getD s3.1.toNat zCl).1) then
     some (false,())
    else bif !(kK (a.1.getD s3.1.toNat zCl).2.1 (b.1.getD s3.1.toNat zCl).2.1) then
     some (false,())
    else bif !(qR (a.1.getD s3.1.toNat zCl).2.2.1 (b.1.getD s3.1.toNat zCl).2.2.1) then
     some (false,())
    else rec4 (IntKind.i64.wrap (s3.1+1),())
   else none
  else none
 else aE (aA0 a b fuel) fuel ((0:Int),())
def aAY (a:Im) (b:Im) (fuel:Nat) (s1:Int×Unit) (rec2:(Int×Unit)→Option (Bool×Unit)):Option (Bool×Unit):=
 bif decide (s1.1<(a.2.2.1.length:Int)) then
  bif decide (0≤s1.1)&&decide (s1.1<a.2.2.1.length) then
   bif decide (0≤s1.1)&&decide (s1.1<b.2.2.1.length) then
    bif (a.2.2.1.getD s1.1.toNat 0) !=(b.2.2.1.getD s1.1.toNat 0) then
     some (false,())
    else rec2 (IntKind.i64.wrap (s1.1+1),())
   else none
  else none
 else aE (aAZ a b fuel) fuel ((0:Int),())
def aGP (fuel:Nat) (a:Im) (b:Im):Option (Bool×Unit):=
 bif (a.1.length:Int) !=(b.1.length:Int) then
  some (false,())
 else bif (a.2.2.2.1.length:Int) !=(b.2.2.2.1.length:Int) then
  some (false,())
 else bif (a.2.2.1.length:Int) !=(b.2.2.1.length:Int) then
  some (false,())
 else bif a.2.2.2.2.2.1 !=b.2.2.2.2.2.1 then
  some (false,())
 else bif a.2.2.2.2.2.2.1 !=b.2.2.2.2.2.2.1 then
  some (false,())
 else bif !(kK a.2.1 b.2.1) then
  some (false,())
 else bif !(qR a.2.2.2.2.1 b.2.2.2.2.1) then
  some (false,())
 else aE (aAY a b fuel) fuel ((0:Int),())
def aA9 (m:Im) (r1:List Int×Unit) (s2:List Tp×Int×Unit) (rec3:(List Tp×Int×Unit)→Option (List Tp×Unit)):Option (List Tp×Unit):=
 bif decide (s2.2.1≥0) then
  bif decide (0≤s2.2.1)&&decide (s2.2.1<r1.1.length) then
   bif decide (0≤r1.1.getD s2.2.1.toNat 0)&&decide (r1.1.getD s2.2.1.toNat 0<m.1.length) then
    bif decide (s2.1.length+(m.1.getD (r1.1.getD s2.2.1.toNat 0).toNat zCl).2.1.length<rowMax) then
     rec3 (s2.1++((m.1.getD (r1.1.getD s2.2.1.toNat 0).toNat zCl).2.1),IntKind.i64.wrap (s2.2.1 - 1),())
    else none
   else none
  else none
 else some (s2.1,())
def aGX (fuel:Nat) (m:Im) (c:Int):Option (List Tp×Unit):=
 (jO m.1 c).bind fun r1=>
 aE (aA9 m r1) fuel (([]:List Tp),(IntKind.i64.wrap ((r1.1.length:Int) - 1),()))
def aOk (m:Im) (l:List Tp):Prop:=((m.1.length≤lenMax∧∀x1:Cl,x1∈m.1→(True∧((x1.2.1.length≤lenMax∧∀x2:Tp,x2∈x1.2.1→(True∧(True∧True)))∧((x1.2.2.1.length≤lenMax∧∀x2:Int,x2∈x1.2.2.1→True)∧True))))∧((m.2.1.length≤lenMax∧∀x1:Tp,x1∈m.2.1→(True∧(True∧True)))∧((m.2.2.1.length≤lenMax∧∀x1:Int,x1∈m.2.2.1→True)∧((m.2.2.2.1.length≤lenMax∧∀x1:Mt,x1∈m.2.2.2.1→((x1.1.length≤lenMax∧∀x2:Tp,x2∈x1.1→(True∧(True∧True)))∧((x1.2.1.length≤lenMax∧∀x2:Tp,x2∈x1.2.1→(True∧(True∧True)))∧((True∧(True∧True))∧((x1.2.2.2.1.length≤lenMax∧∀x2:Ins,x2∈x1.2.2.2.1→(True∧(True∧(True∧True))))∧(True∧(True∧((x1.2.2.2.2.2.2.1.length≤lenMax∧∀x2:Int,x2∈x1.2.2.2.2.2.2.1→True)∧True))))))))∧((m.2.2.2.2.1.length≤lenMax∧∀x1:Int,x1∈m.2.2.2.2.1→True)∧(True∧(True∧True)))))))∧(l.length≤lenMax∧∀x1:Tp,x1∈l→(True∧(True∧True)))∧True
def aA4 (m:Im) (l:List Tp) (s1:Int×Unit) (rec2:(Int×Unit)→Option (Bool×Unit)):Option (Bool×Unit):=
 bif decide (s1.1<(l.length:Int)) then
  bif decide (0≤s1.1)&&decide (s1.1<l.length) then
   bif !(sT (l.getD s1.1.toNat zTp) (m.1.length:Int)) then
    some (false,())
   else rec2 (IntKind.i64.wrap (s1.1+1),())
  else none
 else some (true,())
def aGU (fuel:Nat) (m:Im) (l:List Tp):Option (Bool×Unit):=
 aE (aA4 m l) fuel ((0:Int),())
def aBa (m:Im) (c:Int) (s2:List Int×Unit) (s4:Int×Unit) (rec5:(Int×Unit)→Option (Bool×Unit)):Option (Bool×Unit):=
 bif decide (s4.1<((m.1.getD c.toNat zCl).2.2.1.length:Int)) then
  (bif decide (0≤s4.1)&&decide (s4.1<(m.1.getD c.toNat zCl).2.2.1.length) then
   bif decide ((m.1.getD c.toNat zCl).2.2.1.getD s4.1.toNat 0≥(m.2.2.2.1.length:Int)) then
    some (.inr (false,()))
   else bif decide (0≤s4.1)&&decide (s4.1<(m.1.getD c.toNat zCl).2.2.1.length) then
    bif decide (0≤(m.1.getD c.toNat zCl).2.2.1.getD s4.1.toNat 0)&&decide ((m.1.getD c.toNat zCl).2.2.1.getD s4.1.toNat 0<m.2.2.2.1.length) then
     bif ((m.2.2.2.1.getD ((m.1.getD c.toNat zCl).2.2.1.getD s4.1.toNat 0).toNat zMt).1.length:Int)==0 then
      some (.inr (false,()))
     else bif decide ((0:Int)<(m.2.2.2.1.getD ((m.1.getD c.toNat zCl).2.2.1.getD s4.1.toNat 0).toNat zMt).1.length) then
      (mL m.1 ((3:Int),c,()) ((m.2.2.2.1.getD ((m.1.getD c.toNat zCl).2.2.1.getD s4.1.toNat 0).toNat zMt).1.getD 0 zTp)).bind fun r8=>
      bif !r8.1 then
       some (.inr (false,()))
      else bif decide (s4.1<(s2.1.length:Int)) then
       bif decide (0≤s4.1)&&decide (s4.1<s2.1.length) then
        bif decide (0≤s2.1.getD s4.1.toNat 0)&&decide (s2.1.getD s4.1.toNat 0<m.2.2.2.1.length) then
         bif decide ((1:Int)≤((m.2.2.2.1.getD ((m.1.getD c.toNat zCl).2.2.1.getD s4.1.toNat 0).toNat zMt).1.length:Int))&&decide (((m.2.2.2.1.getD ((m.1.getD c.toNat zCl).2.2.1.getD s4.1.toNat 0).toNat zMt).1.length:Int)≤((m.2.2.2.1.getD ((m.1.getD c.toNat zCl).2.2.1.getD s4.1.toNat 0).toNat zMt).1.length:Int)) then
          bif decide ((1:Int)≤((m.2.2.2.1.getD (s2.1.getD s4.1.toNat 0).toNat zMt).1.length:Int))&&decide (((m.2.2.2.1.getD (s2.1.getD s4.1.toNat 0).toNat zMt).1.length:Int)≤((m.2.2.2.1.getD (s2.1.getD s4.1.toNat 0).toNat zMt).1.length:Int)) then
           bif !(kK (((m.2.2.2.1.getD ((m.1.getD c.toNat zCl).2.2.1.getD s4.1.toNat 0).toNat zMt).1.take ((m.2.2.2.1.getD ((m.1.getD c.toNat zCl).2.2.1.getD s4.1.toNat 0).toNat zMt).1.length:Int).toNat).drop 1) (((m.2.2.2.1.getD (s2.1.getD s4.1.toNat 0).toNat zMt).1.take ((m.2.2.2.1.getD (s2.1.getD s4.1.toNat 0).toNat zMt).1.length:Int).toNat).drop 1)) then
            some (.inr (false,()))
           else bif !((((m.2.2.2.1.getD ((m.1.getD c.toNat zCl).2.2.1.getD s4.1.toNat 0).toNat zMt).2.2.1.1)==((m.2.2.2.1.getD (s2.1.getD s4.1.toNat 0).toNat zMt).2.2.1.1))&&((((m.2.2.2.1.getD ((m.1.getD c.toNat zCl).2.2.1.getD s4.1.toNat 0).toNat zMt).2.2.1.2.1)==((m.2.2.2.1.getD (s2.1.getD s4.1.toNat 0).toNat zMt).2.2.1.2.1))&&true)) then
            some (.inr (false,()))
           else some (.inl ())
          else none
         else none
        else none
       else none
      else some (.inl ())
     else none
    else none
   else none
  else none:Option (Unit⊕(Bool×Unit))).bind fun q=>match q with
  | .inr r7=>some r7
  | .inl _=>
   rec5 (IntKind.i64.wrap (s4.1+1),())
 else some (true,())
def aGY (fuel:Nat) (m:Im) (c:Int):Option (Bool×Unit):=
 bif decide (0≤c)&&decide (c<m.1.length) then
  bif decide ((m.1.getD c.toNat zCl).1≥c) then
   some (false,())
  else bif !(nV m (m.1.getD c.toNat zCl).2.1) then
   some (false,())
  else
   (jA m c).bind fun r1=>
   bif decide ((r1.1.length:Int)>8) then
    some (false,())
   else
    (bif decide ((m.1.getD c.toNat zCl).1≥0) then
     bif decide (0≤(m.1.getD c.toNat zCl).1)&&decide ((m.1.getD c.toNat zCl).1<m.1.length) then
      some (.inl ((m.1.getD (m.1.getD c.toNat zCl).1.toNat zCl).2.2.1,()))
     else none
    else some (.inl (([]:List Int),())):Option ((List Int×Unit)⊕(Bool×Unit))).bind fun q=>match q with
    | .inr r3=>some r3
    | .inl s2=>
     bif decide (((m.1.getD c.toNat zCl).2.2.1.length:Int)<(s2.1.length:Int)) then
      some (false,())
     else aE (aBa m c s2) fuel ((0:Int),())
 else none
def aGQ (m:Im) (x:Mt) (i:Ins):Option (Bool×Unit):=
 bif i.1==1 then
  some (decide (i.2.1<(m.2.2.1.length:Int)),())
 else
  (bif i.1==3 then
   some (.inl (true,()))
  else some (.inl (i.1==4,())):Option ((Bool×Unit)⊕(Bool×Unit))).bind fun q=>match q with
  | .inr r2=>some r2
  | .inl s1=>
   bif s1.1 then
    some (decide (i.2.1<IntKind.i64.wrap ((x.1.length:Int)+(x.2.1.length:Int))),())
   else
    (bif i.1==18 then
     some (.inl (true,()))
    else some (.inl (i.1==19,())):Option ((Bool×Unit)⊕(Bool×Unit))).bind fun q=>match q with
    | .inr r4=>some r4
    | .inl s3=>
     bif s3.1 then
      some (decide (i.2.1<(x.2.2.2.1.length:Int)),())
     else
      (bif i.1==22 then
       some (.inl (true,()))
      else some (.inl (i.1==34,())):Option ((Bool×Unit)⊕(Bool×Unit))).bind fun q=>match q with
      | .inr r6=>some r6
      | .inl s5=>
       bif s5.1 then
        some (decide (i.2.1<(m.1.length:Int)),())
       else
        (bif i.1==27 then
         some (.inl (true,()))
        else some (.inl (i.1==28,())):Option ((Bool×Unit)⊕(Bool×Unit))).bind fun q=>match q with
        | .inr r8=>some r8
        | .inl s7=>
         bif s7.1 then
          bif decide (i.2.1<(m.1.length:Int)) then
           (jA m i.2.1).bind fun r9=>
           some (decide (i.2.2.1<(r9.1.length:Int)),())
          else some (false,())
         else
          (bif i.1==29 then
           some (.inl (true,()))
          else some (.inl (i.1==30,())):Option ((Bool×Unit)⊕(Bool×Unit))).bind fun q=>match q with
          | .inr r11=>some r11
          | .inl s10=>
           bif s10.1 then
            some (decide (i.2.1<(m.2.1.length:Int)),())
           else bif i.1==31 then
            some (decide (i.2.1<(m.2.2.2.1.length:Int)),())
           else bif i.1==32 then
            bif decide (i.2.1<(m.1.length:Int)) then
             bif decide (0≤i.2.1)&&decide (i.2.1<m.1.length) then
              some (decide (i.2.2.1<((m.1.getD i.2.1.toNat zCl).2.2.1.length:Int)),())
             else none
            else some (false,())
           else some (true,())
def aA2 (m:Im) (x:Mt) (s3:Int×Unit) (rec4:(Int×Unit)→Option (Bool×Unit)):Option (Bool×Unit):=
 bif decide (s3.1<(x.2.2.2.1.length:Int)) then
  bif decide (0≤s3.1)&&decide (s3.1<x.2.2.2.1.length) then
   (vJ m x (x.2.2.2.1.getD s3.1.toNat zIns)).bind fun r5=>
   bif !r5.1 then
    some (false,())
   else rec4 (IntKind.i64.wrap (s3.1+1),())
  else none
 else some (true,())
def aGR (fuel:Nat) (m:Im) (x:Mt):Option (Bool×Unit):=
 (bif !(nV m x.1) then
  some (.inr (false,()))
 else bif !(nV m x.2.1) then
  some (.inr (false,()))
 else bif !((x.2.2.1.1==5)&&((x.2.2.1.2.1==0)&&true)) then
  bif !(sT x.2.2.1 (m.1.length:Int)) then
   some (.inr (false,()))
  else bif (x.2.2.2.1.length:Int)==0 then
   some (.inr (false,()))
  else bif (x.2.2.2.2.2.2.1.length:Int) !=(x.2.2.2.1.length:Int) then
   some (.inr (false,()))
  else bif decide (IntKind.i64.wrap ((x.1.length:Int)+(x.2.1.length:Int))>8) then
   some (.inr (false,()))
  else some (.inl ())
 else bif (x.2.2.2.1.length:Int)==0 then
  some (.inr (false,()))
 else bif (x.2.2.2.2.2.2.1.length:Int) !=(x.2.2.2.1.length:Int) then
  some (.inr (false,()))
 else bif decide (IntKind.i64.wrap ((x.1.length:Int)+(x.2.1.length:Int))>8) then
  some (.inr (false,()))
 else some (.inl ()):Option (Unit⊕(Bool×Unit))).bind fun q=>match q with
 | .inr r2=>some r2
 | .inl _=>
  aE (aA2 m x) fuel ((0:Int),())
def aN5 (m:Im):Prop:=((m.1.length≤lenMax∧∀x1:Cl,x1∈m.1→(True∧((x1.2.1.length≤lenMax∧∀x2:Tp,x2∈x1.2.1→(True∧(True∧True)))∧((x1.2.2.1.length≤lenMax∧∀x2:Int,x2∈x1.2.2.1→True)∧True))))∧((m.2.1.length≤lenMax∧∀x1:Tp,x1∈m.2.1→(True∧(True∧True)))∧((m.2.2.1.length≤lenMax∧∀x1:Int,x1∈m.2.2.1→True)∧((m.2.2.2.1.length≤lenMax∧∀x1:Mt,x1∈m.2.2.2.1→((x1.1.length≤lenMax∧∀x2:Tp,x2∈x1.1→(True∧(True∧True)))∧((x1.2.1.length≤lenMax∧∀x2:Tp,x2∈x1.2.1→(True∧(True∧True)))∧((True∧(True∧True))∧((x1.2.2.2.1.length≤lenMax∧∀x2:Ins,x2∈x1.2.2.2.1→(True∧(True∧(True∧True))))∧(True∧(True∧((x1.2.2.2.2.2.2.1.length≤lenMax∧∀x2:Int,x2∈x1.2.2.2.2.2.2.1→True)∧True))))))))∧((m.2.2.2.2.1.length≤lenMax∧∀x1:Int,x1∈m.2.2.2.2.1→True)∧(True∧(True∧True)))))))∧True
def vI (m:Im) (s3:Bool×Int×Unit) (rec4:(Bool×Int×Unit)→Option ((Bool×Unit)⊕(Int×Unit))):Option ((Bool×Unit)⊕(Int×Unit)):=
 bif decide (s3.2.1<(m.1.length:Int)) then
  bif s3.1 then
   (vL m s3.2.1).bind fun r5=>
   rec4 (r5.1,IntKind.i64.wrap (s3.2.1+1),())
  else some (.inl (s3.1,()))
 else some (.inl (s3.1,()))
def sU (m:Im) (s8:Bool×Int×Unit) (rec9:(Bool×Int×Unit)→Option ((Bool×Unit)⊕(Int×Unit))):Option ((Bool×Unit)⊕(Int×Unit)):=
 bif decide (s8.2.1<(m.2.2.2.1.length:Int)) then
  bif s8.1 then
   bif decide (0≤s8.2.1)&&decide (s8.2.1<m.2.2.2.1.length) then
    (vK m (m.2.2.2.1.getD s8.2.1.toNat zMt)).bind fun r10=>
    rec9 (r10.1,IntKind.i64.wrap (s8.2.1+1),())
   else none
  else some (.inl (s8.1,()))
 else some (.inl (s8.1,()))
def yU (m:Im) (s11:Bool×Int×Unit) (rec12:(Bool×Int×Unit)→Option (Int×Unit)) (s15:Bool×Int×Unit) (rec16:(Bool×Int×Unit)→Option (Int×Unit)):Option (Int×Unit):=
 bif decide (0≤m.2.2.2.2.1.getD s11.2.1.toNat 0)&&decide (m.2.2.2.2.1.getD s11.2.1.toNat 0<m.2.2.2.1.length) then
  bif decide (s15.2.1<((m.2.2.2.1.getD (m.2.2.2.2.1.getD s11.2.1.toNat 0).toNat zMt).1.length:Int)) then
   bif s15.1 then
    bif decide (0≤m.2.2.2.2.1.getD s11.2.1.toNat 0)&&decide (m.2.2.2.2.1.getD s11.2.1.toNat 0<m.2.2.2.1.length) then
     bif decide (0≤s15.2.1)&&decide (s15.2.1<(m.2.2.2.1.getD (m.2.2.2.2.1.getD s11.2.1.toNat 0).toNat zMt).1.length) then
      rec16 ((((m.2.2.2.1.getD (m.2.2.2.2.1.getD s11.2.1.toNat 0).toNat zMt).1.getD s15.2.1.toNat zTp).1)==1,IntKind.i64.wrap (s15.2.1+1),())
     else none
    else none
   else rec12 (s15.1,IntKind.i64.wrap (s11.2.1+1),())
  else rec12 (s15.1,IntKind.i64.wrap (s11.2.1+1),())
 else none
def vH (m:Im) (fuel:Nat) (s11:Bool×Int×Unit) (rec12:(Bool×Int×Unit)→Option (Int×Unit)):Option (Int×Unit):=
 bif decide (s11.2.1<(m.2.2.2.2.1.length:Int)) then
  bif s11.1 then
   bif decide (0≤s11.2.1)&&decide (s11.2.1<m.2.2.2.2.1.length) then
    bif decide (m.2.2.2.2.1.getD s11.2.1.toNat 0≥(m.2.2.2.1.length:Int)) then
     some ((3:Int),())
    else
     (bif decide (0≤m.2.2.2.2.1.getD s11.2.1.toNat 0)&&decide (m.2.2.2.2.1.getD s11.2.1.toNat 0<m.2.2.2.1.length) then
      bif ((m.2.2.2.1.getD (m.2.2.2.2.1.getD s11.2.1.toNat 0).toNat zMt).2.2.1.1)==1 then
       some (.inl (true,()))
      else bif decide (0≤m.2.2.2.2.1.getD s11.2.1.toNat 0)&&decide (m.2.2.2.2.1.getD s11.2.1.toNat 0<m.2.2.2.1.length) then
       some (.inl (((m.2.2.2.1.getD (m.2.2.2.2.1.getD s11.2.1.toNat 0).toNat zMt).2.2.1.1)==5,()))
      else none
     else none:Option ((Bool×Unit)⊕(Int×Unit))).bind fun q=>match q with
     | .inr r14=>some r14
     | .inl s13=>
      aE (yU m s11 rec12) fuel (s13.1,((0:Int),()))
   else none
  else bif !s11.1 then
   some ((3:Int),())
  else some ((0:Int),())
 else bif !s11.1 then
  some ((3:Int),())
 else some ((0:Int),())
def aGO (fuel:Nat) (m:Im):Option (Int×Unit):=
 bif !(sW m) then
  some ((2:Int),())
 else
  (aE (vI m) fuel ((nV m m.2.1),((0:Int),())):Option ((Bool×Unit)⊕(Int×Unit))).bind fun q=>match q with
  | .inr r2=>some r2
  | .inl s1=>
   (aE (sU m) fuel (s1.1,((0:Int),())):Option ((Bool×Unit)⊕(Int×Unit))).bind fun q=>match q with
   | .inr r7=>some r7
   | .inl s6=>
    aE (vH m fuel) fuel (s6.1,((0:Int),()))
end Go.Pli
