/- What functions of the program come to, in plain Lean. -/
import Derived.Test.YtcofionghgmldaaGreatPMDefs
import Derived.Laws.BitsAllLaws
import Derived.Laws.Bits64
import Derived.Laws.BitsLemmas
namespace Go.Pli
open Go Go.PM
def gD:Nat→Nat→List Int
 | 0,v=>[(v:Int)]
 | k+1,v=>if v<128 then[(v:Int)] else ((128+v % 128:Nat):Int)::gD k (v/128)
def enc (v:Nat):List Int:=gD 10 v
def aCf (b:List Int):Bool:=Nat.blt (b.length+20) rowMax
def put (b:List Int) (n:Int):Option (List Int×Unit):=bif aCf b then some (b++enc (IntKind.u64.wrap (max n 0)).toNat,()) else none
def pY:Nat→Nat→Nat→List Int→Option (Nat×Nat×Bool)
 | 0,_,_,_=>none
 | _+1,_,_,[]=>none
 | k+1,i,v,c::l=>if c<128 then some (v+128 ^ i*(c.toNat % 128),i+1,i==0 || decide (0<c)) else pY k (i+1) (v+128 ^ i*(c.toNat % 128)) l
def kP (l:List Int):Bool:=l.all fun c=>decide (0≤c)&&decide (c<256)
abbrev Rd:=List Int×Bool×Unit
def next (r:Rd):Option (Int×Bool×Rd×Unit):=
 bif kP (r.1.take 5) then (match pY 5 0 0 r.1 with
  | some (v,n,ok)=>some ((v:Int),ok,(r.1.drop n,r.2.1,()),())
  | none=>some (0,false,r,())) else none
def aCg (b:List Int):Option (Int×Int×Unit):=
 bif kP (b.take 5) then (match pY 5 0 0 b with
  | some (v,n,true)=>some ((v:Int),(n:Int),())
  | _=>some (0,0,())) else none
def rin (l:List Int) (x:Int):Option (Bool×Unit):=bif decide (l.length<9223372036854775807) then some (l.contains x,()) else none
def eD (o:Int):Int:=
 bif ([1,3,4,18,19,22,23,29,30,31,34]:List Int).contains o then 1
 else bif o==27 || (o==28 || o==32) then 2
 else bif decide (o<1) || decide (o>34) then -1 else 0
def pH (o:Int):Int:=eD o
abbrev Ins:=Int×Int×Int×Unit
def wG (n c a:Int):Bool:=bif decide (a≥c) then n==0 else decide (n≥0)&&decide (n≤255)
def fB (i:Ins):Bool:=decide (eD i.1≥0)&&(wG i.2.1 (eD i.1) 0&&wG i.2.2.1 (eD i.1) 1)
def xC (i:Ins):Bool:=fB i
def aC9 (b:List Int) (i:Ins):Option (List Int×Unit):=
 (put b i.1).bind fun r=>bif decide (eD i.1<1) then some r else (put r.1 i.2.1).bind fun r=>bif decide (eD i.1<2) then some r else put r.1 i.2.2.1
end Go.Pli

namespace Go.Pli
open Go Go.PM
theorem cS {n:Int} (h0: -9223372036854775808≤n) (h1:n<9223372036854775808):IntKind.i64.wrap n=n:=by
 rw[IntKind.wrap_i64];omega
theorem bJ {k n:Nat} (h:k<n) (hn:n≤lenMax):IntKind.i64.wrap ((k:Int)+1)=((k+1:Nat):Int):=by
 simp only[lenMax] at hn
 rw[cS] <;> omega
theorem dlt {k n:Nat} (h:k<n):decide ((k:Int)<(n:Int))=true:=aI (by omega)
theorem bQ (n:Nat):decide ((n:Int)<(n:Int))=false:=bO (by omega)
theorem dge (k:Nat):decide (0≤(k:Int))=true:=aI (by omega)
theorem aPF (k:Nat):decide ((k:Int)≥0)=true:=aI (by omega)
theorem aX {S R:Type} (L:S→(S→Option R)→Option R) (n:Nat) (s:S):aE L (n+1) s=L s (aE L n):=rfl
theorem lN {α σ R:Type} {L:σ→(σ→Option R)→Option R} {xs:List α} {st:Nat→σ} {p:α→Bool} {ex fin:Option R}
  (h1:∀(k:Nat) (x:α) (rec),xs[k]? =some x→k<xs.length→L (st k) rec=bif p x then rec (st (k+1)) else ex)
  (h2:∀rec,L (st xs.length) rec=fin):∀F:Nat,xs.length<F→aE L F (st 0)=bif xs.all p then fin else ex:=by
 have key:∀(l pre:List α) (F:Nat),xs=pre++l→l.length<F→aE L F (st pre.length)=bif l.all p then fin else ex:=by
  intro l
  induction l with
  | nil=>
   intro pre F hx hF
   obtain⟨F,rfl⟩:∃n,F=n+1:=⟨F - 1,by simp at hF;omega⟩
   rw[bU] at hx
   subst hx
   rw[aX,h2]
   rfl
  | cons x l ih=>
   intro pre F hx hF
   obtain⟨F,rfl⟩:∃n,F=n+1:=⟨F - 1,by simp at hF;omega⟩
   have hk:xs[pre.length]? =some x:=by rw[hx];simp
   have hl:pre.length<xs.length:=by rw[hx];simp
   rw[aX,h1 pre.length x _ hk hl]
   have:=ih (pre++[x]) F (by rw[hx];simp) (by simp only[aF] at hF;omega)
   simp only[aW,aF,bM,bH] at this
   rw[this,eV]
   cases p x <;> rfl
 intro F hF
 exact key xs [] F rfl hF
def oH {α:Type} (p:α→Bool):Nat→List α→Int
 | _,[]=> -1
 | k,x::l=>bif p x then (k:Int) else oH p (k+1) l
theorem aAW {α:Type} (p:α→Bool):∀(l:List α) (k:Nat),decide (oH p k l≥0)=l.any p
 | [],_=>rfl
 | x::l,k=>by
  simp only[oH,List.any_cons]
  by_cases hp:p x=true
  ·simp[hp]
  ·have hp:p x=false:=by simpa using hp
   simpa[hp] using aAW p l (k+1)
theorem aCV {α σ:Type} {L:σ→(σ→Option (Int×Unit))→Option (Int×Unit)} {xs:List α} {st:Nat→σ} {p:α→Bool}
  (h1:∀(k:Nat) (x:α) (rec),xs[k]? =some x→k<xs.length→L (st k) rec=bif p x then some ((k:Int),()) else rec (st (k+1)))
  (h2:∀rec,L (st xs.length) rec=some (-1,())):∀F:Nat,xs.length<F→aE L F (st 0)=some (oH p 0 xs,()):=by
 have key:∀(l pre:List α) (F:Nat),xs=pre++l→l.length<F→aE L F (st pre.length)=some (oH p pre.length l,()):=by
  intro l
  induction l with
  | nil=>
   intro pre F hx hF
   obtain⟨F,rfl⟩:∃n,F=n+1:=⟨F - 1,by simp at hF;omega⟩
   rw[bU] at hx
   subst hx
   rw[aX,h2]
   rfl
  | cons x l ih=>
   intro pre F hx hF
   obtain⟨F,rfl⟩:∃n,F=n+1:=⟨F - 1,by simp at hF;omega⟩
   have hk:xs[pre.length]? =some x:=by rw[hx];simp
   have hl:pre.length<xs.length:=by rw[hx];simp
   rw[aX,h1 pre.length x _ hk hl]
   have:=ih (pre++[x]) F (by rw[hx];simp) (by simp only[aF] at hF;omega)
   simp only[aW,aF,bM,bH] at this
   simp only[oH,this]
   cases p x <;> rfl
 intro F hF
 exact key xs [] F rfl hF
theorem getD_some {α:Type} {xs:List α} {k:Nat} {x d:α} (h:xs[k]? =some x):xs.getD k d=x:=by simp[h]
end Go.Pli

namespace Go.Pli
open Go Go.PM
def aDn (r:List Int×Bool×Unit) (n:Int):Option (Int×(List Int×Bool×Unit)×Unit):=
 bif r.2.1 then
  some ((0:Int),r,())
 else
  (next r).bind fun r1=>
  bif !r1.2.1 then
   some ((0:Int),(r1.2.2.1.1,true,()),())
  else bif decide (n<0) then
   some ((0:Int),(r1.2.2.1.1,true,()),())
  else bif decide (r1.1>IntKind.u64.wrap n) then
   some ((0:Int),(r1.2.2.1.1,true,()),())
  else some (IntKind.i64.wrap r1.1,r1.2.2.1,())
def zZ (l:List Int) (x:Int) (s1:Int×Unit) (rec2:(Int×Unit)→Option (Bool×Unit)):Option (Bool×Unit):=
 bif decide (s1.1<(l.length:Int)) then
  bif decide (0≤s1.1)&&decide (s1.1<l.length) then
   bif (l.getD s1.1.toNat 0)==x then
    some (true,())
   else rec2 (IntKind.i64.wrap (s1.1+1),())
  else none
 else some (false,())
def aLR (fuel:Nat) (l:List Int) (x:Int):Option (Bool×Unit):=
 aE (zZ l x) fuel ((0:Int),())
def aFo (o:Int):Option (Int×Unit):=
 bif decide (o<1) then
  some ((-1:Int),())
 else bif decide (o>34) then
  some ((-1:Int),())
 else
  (rin ([1,3,4,18,19,22,23,29,30,31,34]:List Int) o).bind fun r1=>
  bif r1.1 then
   some ((1:Int),())
  else bif o==27 then
   some ((2:Int),())
  else bif o==28 then
   some ((2:Int),())
  else bif o==32 then
   some ((2:Int),())
  else some ((0:Int),())
def aFg (i:Int×Int×Int×Unit):Option (Bool×Unit):=
 (bif decide ((pH i.1)<0) then
  some (.inr (false,()))
 else bif decide ((pH i.1)<1) then
  bif i.2.1 !=0 then
   some (.inr (false,()))
  else bif decide ((pH i.1)<2) then
   bif i.2.2.1 !=0 then
    some (.inr (false,()))
   else some (.inl ())
  else some (.inl ())
 else bif decide ((pH i.1)<2) then
  bif i.2.2.1 !=0 then
   some (.inr (false,()))
  else some (.inl ())
 else some (.inl ()):Option (Unit⊕(Bool×Unit))).bind fun q=>match q with
 | .inr r2=>some r2
 | .inl _=>
  bif decide (i.2.1≥0) then
   bif decide (i.2.1≤255) then
    bif decide (i.2.2.1≥0) then
     some (decide (i.2.2.1≤255),())
    else some (false,())
   else some (false,())
  else some (false,())
def aDb (l:List (Int×Int×Int×Unit)) (s3:List Int×Int×Int×Unit) (rec4:(List Int×Int×Int×Unit)→Option ((List Int×Int×Unit)⊕(Bool×Unit))):Option ((List Int×Int×Unit)⊕(Bool×Unit)):=
 bif decide (s3.2.2.1<(l.length:Int)) then
  bif decide (s3.2.2.1<60) then
   bif decide (0≤s3.2.2.1)&&decide (s3.2.2.1<l.length) then
    bif (fB (l.getD s3.2.2.1.toNat ((0:Int),((0:Int),((0:Int),()))))) then
     bif decide (0≤s3.2.2.1)&&decide (s3.2.2.1<l.length) then
      (aC9 s3.1 (l.getD s3.2.2.1.toNat ((0:Int),((0:Int),((0:Int),()))))).bind fun r5=>
      rec4 (r5.1,IntKind.i64.wrap (s3.2.1+1),IntKind.i64.wrap (s3.2.2.1+1),())
     else none
    else rec4 (s3.1,s3.2.1,IntKind.i64.wrap (s3.2.2.1+1),())
   else none
  else some (.inl (s3.1,s3.2.1,()))
 else some (.inl (s3.1,s3.2.1,()))
end Go.Pli

namespace Go.Pli
open Go Go.PM
abbrev Tp:=Int×Int×Unit
abbrev Cl:=Int×List Tp×List Int×Unit
abbrev Mt:=List Tp×List Tp×Tp×List Ins×Int×Int×List Int×Unit
abbrev Im:=List Cl×List Tp×List Int×List Mt×List Int×Int×Int×Unit
abbrev zTp:Tp:=(0,0,())
abbrev cM:Ins:=(0,0,0,())
abbrev zCl:Cl:=(0,[],[],())
abbrev zMt:Mt:=([],[],zTp,[],0,0,[],())
abbrev zIm:Im:=([],[],[],[],[],0,0,())
def idL {α:Type} (s:List α):List α:=s
def eqL {α:Type} [BEq α] (a b:List α):Bool:=a==b
def fA (n m:Int):Bool:=decide (0≤n)&&decide (n≤m)
def iY (t:Tp):Bool:=fA t.1 5&&(t.2.1==0 || (t.1==3&&fA t.2.1 7))
def gP (l:List Tp) (m:Int):Bool:=decide ((l.length:Int)≤m)&&l.all iY
def iZ (l:List Int) (c m:Int):Bool:=decide ((l.length:Int)≤c)&&l.all fun n=>fA n m
def kL (x:Mt):Bool:=
 gP x.1 4&&(gP x.2.1 8&&(iY x.2.2.1&&(decide ((x.2.2.2.1.length:Int)≤64)&&(x.2.2.2.1.all fB&&(fA x.2.2.2.2.1 8&&(fA x.2.2.2.2.2.1 4096&&iZ x.2.2.2.2.2.2.1 64 4096))))))
def oI (x:Cl):Bool:=decide (-1≤x.1)&&(decide (x.1<8)&&(gP x.2.1 8&&iZ x.2.2.1 4 11))
def bX (m:Im):Bool:=
 decide ((m.1.length:Int)≤8)&&(gP m.2.1 8&&(decide ((m.2.2.1.length:Int)≤16)&&(decide ((m.2.2.2.1.length:Int)≤12)&&(m.1.all oI&&(m.2.2.2.1.all kL&&
  (iZ m.2.2.2.2.1 12 11&&(fA m.2.2.2.2.2.1 4096&&fA m.2.2.2.2.2.2.1 4096)))))))
def gY (n a b:Int):Bool:=decide (a≤n)&&decide (n≤b)
def nV (l:List Int) (c m:Int):Bool:=iZ l c m
def pI (t:Tp):Bool:=iY t
def lH (l:List Tp) (c:Int):Bool:=gP l c
def rH (m:Im):Bool:=bX m
def fM (t:Tp) (n:Int):Bool:=bif t.1==1 || t.1==2 then t.2.1==0 else t.1==3&&(decide (0≤t.2.1)&&decide (t.2.1<n))
def rE (t:Tp) (n:Int):Bool:=fM t n
def hJ (t:Tp):Bool:=t.1==2 || (t.1==3 || t.1==4)
def rC (t:Tp):Bool:=hJ t
def eA (l:List Cl) (c:Int):Int:=(l.getD c.toNat zCl).1
def kup (l:List Cl) (c:Int):Int:=bif decide (c<0) || (decide (c≥(l.length:Int)) || decide (eA l c≥c)) then -1 else eA l c
def qD (l:List Cl):Nat→Int→List Int
 | 0,_=>[]
 | n+1,c=>bif decide (c<0) then[] else c::qD l n (kup l c)
def bS (l:List Cl) (c:Int):List Int:=qD l (c.toNat+1) c
def dA (l:List Cl) (a b:Int):Bool:=decide (0≤b)&&(decide (b<(l.length:Int))&&(decide (a<(l.length:Int))&&(bS l a).contains b))
def cF (l:List Cl) (a b:Tp):Bool:=bif a.1==4 then hJ b else bif a.1==3&&b.1==3 then dA l a.2.1 b.2.1 else a==b&&(a.1==1 || a.1==2)
def okL {α:Type} (l:List α):Bool:=Nat.blt l.length 1000000
def cE (l:List Cl) (c:Int):List Int:=bif decide (c<(l.length:Int)) then bS l c else[]
def iQ (l:List Cl) (c:Int):Option (List Int×Unit):=bif okL l then some (cE l c,()) else none
def tK (l:List Cl) (a b:Tp):Bool:=bif a.1==4 then hJ b else bif a.1==3 then b.1==3&&(cE l a.2.1).contains b.2.1 else a==b&&(a.1==1 || a.1==2)
def lF (l:List Cl) (a b:Tp):Option (Bool×Unit):=bif okL l then some (tK l a b,()) else none
def tJ (a b:List Tp):Bool:=a==b
def vB (m:Im):Option (Im×Unit):=bif bX m then some (m,()) else none
def sin (n c:Int):Bool:=decide (0≤n)&&decide (n<c)
def eS (m:Im) (l:List Tp):Bool:=l.all fun t=>fM t (m.1.length:Int)
def mM (m:Im) (l:List Tp):Bool:=eS m l
def bP (m:Im) (c:Int):Cl:=m.1.getD c.toNat zCl
def aD (m:Im) (f:Int):Mt:=m.2.2.2.1.getD f.toNat zMt
def aZ:List Nat→Nat
 | []=>0
 | n::l=>n+aZ l
def iI (m:Im) (c:Int):Nat:=aZ ((bS m.1 c).map fun s=>(bP m s).2.1.length)
def eL (m:Im) (c:Int):List Int:=bif decide (0≤eA m.1 c) then (bP m (eA m.1 c)).2.2.1 else[]
def qH (a b:Mt):Bool:=decide (0<a.1.length)&&(decide (0<b.1.length)&&(a.1.drop 1==b.1.drop 1&&a.2.2.1==b.2.2.1))
def vG (m:Im) (c f:Int):Bool:=decide (0<(aD m f).1.length)&&cF m.1 (3,c,()) ((aD m f).1.getD 0 zTp)
def nR (m:Im) (c:Int) (n:Nat) (f:Int):Bool:=
 sin f (m.2.2.2.1.length:Int)&&(vG m c f&&(!decide (n<(eL m c).length) || qH (aD m f) (aD m ((eL m c).getD n 0))))
def jC {α:Type} (p:Nat→α→Bool):Nat→List α→Bool
 | _,[]=>true
 | k,x::l=>p k x&&jC p (k+1) l
def hU (m:Im) (c:Int):Bool:=
 decide (eA m.1 c<c)&&(eS m (bP m c).2.1&&(decide (iI m c≤8)&&(decide ((eL m c).length≤(bP m c).2.2.1.length)&&jC (nR m c) 0 (bP m c).2.2.1)))
def ahead (m:Im) (c:Int):Bool:=(List.range c.toNat).all fun k=>hU m (k:Int)
def rL (m:Im) (c:Int):Bool:=bX m&&(decide (0≤c)&&(decide (c<(m.1.length:Int))&&ahead m c))
def jX (m:Im):Bool:=(List.range m.1.length).all fun k=>hU m (k:Int)
def iE (m:Im) (c:Int):Option (List Tp×Unit):=bif bX m then some ((((cE m.1 c).reverse).map fun s=>(bP m s).2.1).flatten,()) else none
def tY (m:Im) (c:Int):Option (Bool×Unit):=bif rL m c then some (hU m c,()) else none
def bW (m:Im) (x:Mt) (i:Ins):Bool:=
 bif i.1==1 then sin i.2.1 (m.2.2.1.length:Int)
 else bif i.1==3 || i.1==4 then sin i.2.1 ((x.1.length+x.2.1.length:Nat):Int)
 else bif i.1==18 || i.1==19 then sin i.2.1 (x.2.2.2.1.length:Int)
 else bif i.1==22 || i.1==34 then sin i.2.1 (m.1.length:Int)
 else bif i.1==27 || i.1==28 then sin i.2.1 (m.1.length:Int)&&sin i.2.2.1 (iI m i.2.1:Int)
 else bif i.1==29 || i.1==30 then sin i.2.1 (m.2.1.length:Int)
 else bif i.1==31 then sin i.2.1 (m.2.2.2.1.length:Int)
 else bif i.1==32 then sin i.2.1 (m.1.length:Int)&&sin i.2.2.1 ((bP m i.2.1).2.2.1.length:Int)
 else true
def pK (m:Im) (x:Mt):Bool:=bX m&&(jX m&&kL x)
def tW (m:Im) (x:Mt) (i:Ins):Option (Bool×Unit):=bif pK m x&&fB i then some (bW m x i,()) else none
def eR (m:Im) (x:Mt):Bool:=
 eS m x.1&&(eS m x.2.1&&((x.2.2.1==(5,0,()) || fM x.2.2.1 (m.1.length:Int))&&(decide (x.2.2.2.1.length≠0)&&(decide (x.2.2.2.2.2.2.1.length=x.2.2.2.1.length)&&
  (decide (x.1.length+x.2.1.length≤8)&&x.2.2.2.1.all (bW m x))))))
def tX (m:Im) (x:Mt):Option (Bool×Unit):=bif pK m x then some (eR m x,()) else none
def pF (t:Tp):Bool:=t.1==1&&t.2.1==0
def pW (m:Im) (f:Int):Bool:=sin f (m.2.2.2.1.length:Int)&&((pF (aD m f).2.2.1 || (aD m f).2.2.1.1==5)&&(aD m f).1.all pF)
def jM (m:Im):Bool:=eS m m.2.1&&(jX m&&(m.2.2.2.1.all (eR m)&&m.2.2.2.2.1.all (pW m)))
def wY (m:Im):Int:=bif bX m then (bif jM m then 0 else 3) else 2
def rG (m:Im):Int:=wY m
end Go.Pli

namespace Go.Pli
open Go Go.PM
def aIQ (s:List Cl):Option (List Cl×Unit):=
 bif decide ((s.length:Int)=(s.length:Int))&&decide ((s.length:Int)=(s.length:Int)) then
  some (s,())
 else none
def aIH (s:List Tp):Option (List Tp×Unit):=
 bif decide ((s.length:Int)=(s.length:Int))&&decide ((s.length:Int)=(s.length:Int)) then
  some (s,())
 else none
def aIO (s:List Int):Option (List Int×Unit):=
 bif decide ((s.length:Int)=(s.length:Int))&&decide ((s.length:Int)=(s.length:Int)) then
  some (s,())
 else none
def aIG (s:List Ins):Option (List Ins×Unit):=
 bif decide ((s.length:Int)=(s.length:Int))&&decide ((s.length:Int)=(s.length:Int)) then
  some (s,())
 else none
def aIK (s:List Int):Option (List Int×Unit):=
 bif decide ((s.length:Int)=(s.length:Int))&&decide ((s.length:Int)=(s.length:Int)) then
  some (s,())
 else none
def aBj (s:List Tp):Option (List Tp×Unit):=
 bif decide (([]:List Tp).length+s.length<rowMax) then
  some (([]:List Tp)++s,())
 else none
def aBk (s:List Int):Option (List Int×Unit):=
 bif decide (([]:List Int).length+s.length<rowMax) then
  some (([]:List Int)++s,())
 else none
def aBl (s:List Int):Option (List Int×Unit):=
 bif decide (([]:List Int).length+s.length<rowMax) then
  some (([]:List Int)++s,())
 else none
def aBi (s:List Ins):Option (List Ins×Unit):=
 bif decide (([]:List Ins).length+s.length<rowMax) then
  some (([]:List Ins)++s,())
 else none
def sP (s:List Tp):Option (List Tp×Unit):=
 (aBj s).bind fun r1=>
 some ((idL r1.1),())
def aBA (s:List Int):Option (List Int×Unit):=
 (aBk s).bind fun r1=>
 some ((idL r1.1),())
def vW (s:List Int):Option (List Int×Unit):=
 (aBl s).bind fun r1=>
 some ((idL r1.1),())
def aBy (s:List Ins):Option (List Ins×Unit):=
 (aBi s).bind fun r1=>
 some ((idL r1.1),())
def aPr (a:List Tp) (b:List Tp):Prop:=(a.length≤lenMax∧∀x1:Tp,x1∈a→(True∧(True∧True)))∧(b.length≤lenMax∧∀x1:Tp,x1∈b→(True∧(True∧True)))∧True
def aBa (a:List Tp) (b:List Tp) (s1:Int×Unit) (rec2:(Int×Unit)→Option (Bool×Unit)):Option (Bool×Unit):=
 bif decide (s1.1<(a.length:Int)) then
  bif decide (0≤s1.1)&&decide (s1.1<a.length) then
   bif decide (0≤s1.1)&&decide (s1.1<b.length) then
    bif !((((a.getD s1.1.toNat zTp).1)==((b.getD s1.1.toNat zTp).1))&&((((a.getD s1.1.toNat zTp).2.1)==((b.getD s1.1.toNat zTp).2.1))&&true)) then
     some (false,())
    else rec2 (IntKind.i64.wrap (s1.1+1),())
   else none
  else none
 else some (true,())
def aH8 (fuel:Nat) (a:List Tp) (b:List Tp):Option (Bool×Unit):=
 bif (a.length:Int) !=(b.length:Int) then
  some (false,())
 else aE (aBa a b) fuel ((0:Int),())
def aHf (t:Tp):Option (Bool×Unit):=
 bif t.1==2 then
  some (true,())
 else bif t.1==3 then
  some (true,())
 else some (t.1==4,())
def aHc (l:List Cl) (c:Int):Option (Int×Unit):=
 bif decide (c<0) then
  some ((-1:Int),())
 else bif decide (c≥(l.length:Int)) then
  some ((-1:Int),())
 else bif decide (0≤c)&&decide (c<l.length) then
  bif decide ((l.getD c.toNat zCl).1≥c) then
   some ((-1:Int),())
  else bif decide (0≤c)&&decide (c<l.length) then
   some ((l.getD c.toNat zCl).1,())
  else none
 else none
def aAT (l:List Cl) (b:Int) (s1:Int×Unit) (rec2:(Int×Unit)→Option (Bool×Unit)):Option (Bool×Unit):=
 bif decide (s1.1≥0) then
  bif s1.1==b then
   some (true,())
  else rec2 ((kup l s1.1),())
 else some (false,())
def aHi (fuel:Nat) (l:List Cl) (a:Int) (b:Int):Option (Bool×Unit):=
 bif decide (b<0) then
  some (false,())
 else bif decide (b≥(l.length:Int)) then
  some (false,())
 else bif decide (a≥(l.length:Int)) then
  some (false,())
 else aE (aAT l b) fuel (a,())
def aHd (l:List Cl) (a:Tp) (b:Tp):Option (Bool×Unit):=
 bif a.1==4 then
  some ((hJ b),())
 else bif a.1==3 then
  bif b.1==3 then
   some ((dA l a.2.1 b.2.1),())
  else bif (a.1==b.1)&&((a.2.1==b.2.1)&&true) then
   bif a.1==1 then
    some (true,())
   else some (a.1==2,())
  else some (false,())
 else bif (a.1==b.1)&&((a.2.1==b.2.1)&&true) then
  bif a.1==1 then
   some (true,())
  else some (a.1==2,())
 else some (false,())
def tM (l:List Cl) (s1:Int×List Int×Unit) (rec2:(Int×List Int×Unit)→Option (List Int×Unit)):Option (List Int×Unit):=
 bif decide (s1.1≥0) then
  bif decide (s1.1<(l.length:Int)) then
   bif decide (s1.2.1.length+[s1.1].length<rowMax) then
    bif decide (0≤s1.1)&&decide (s1.1<l.length) then
     bif decide ((l.getD s1.1.toNat zCl).1≥s1.1) then
      rec2 ((-1:Int),s1.2.1++[s1.1],())
     else rec2 ((l.getD s1.1.toNat zCl).1,s1.2.1++[s1.1],())
    else none
   else none
  else some (s1.2.1,())
 else some (s1.2.1,())
def aFr (fuel:Nat) (l:List Cl) (c:Int):Option (List Int×Unit):=
 aE (tM l) fuel (c,(([]:List Int),()))
def aFd (t:Tp):Option (Bool×Unit):=
 bif t.1==2 then
  some (true,())
 else bif t.1==3 then
  some (true,())
 else some (t.1==4,())
def aFl (t:Tp) (n:Int):Option (Bool×Unit):=
 bif t.1==1 then
  bif t.2.1==0 then
   some (true,())
  else bif t.1==3 then
   bif decide (t.2.1≥0) then
    some (decide (t.2.1<n),())
   else some (false,())
  else some (false,())
 else bif t.1==2 then
  bif t.2.1==0 then
   some (true,())
  else bif t.1==3 then
   bif decide (t.2.1≥0) then
    some (decide (t.2.1<n),())
   else some (false,())
  else some (false,())
 else bif t.1==3 then
  bif decide (t.2.1≥0) then
   some (decide (t.2.1<n),())
  else some (false,())
 else some (false,())
def aE2 (l:List Cl) (a:Tp) (b:Tp):Option (Bool×Unit):=
 bif a.1==4 then
  some ((rC b),())
 else bif a.1==3 then
  bif b.1==3 then
   (iQ l a.2.1).bind fun r1=>
   (rin r1.1 b.2.1).bind fun r2=>
   some (r2.1,())
  else some (false,())
 else bif a.1==1 then
  some ((a.1==b.1)&&((a.2.1==b.2.1)&&true),())
 else bif a.1==2 then
  some ((a.1==b.1)&&((a.2.1==b.2.1)&&true),())
 else some (false,())
def aLy (a:List Tp) (b:List Tp):Prop:=(a.length≤lenMax∧∀x1:Tp,x1∈a→(True∧(True∧True)))∧(b.length≤lenMax∧∀x1:Tp,x1∈b→(True∧(True∧True)))∧True
def aLz (a:List Tp) (b:List Tp) (s1:Int×Unit) (rec2:(Int×Unit)→Option (Bool×Unit)):Option (Bool×Unit):=
 bif decide (s1.1<(a.length:Int)) then
  bif decide (0≤s1.1)&&decide (s1.1<a.length) then
   bif decide (0≤s1.1)&&decide (s1.1<b.length) then
    bif !((((a.getD s1.1.toNat zTp).1)==((b.getD s1.1.toNat zTp).1))&&((((a.getD s1.1.toNat zTp).2.1)==((b.getD s1.1.toNat zTp).2.1))&&true)) then
     some (false,())
    else rec2 (IntKind.i64.wrap (s1.1+1),())
   else none
  else none
 else some (true,())
def aLx (fuel:Nat) (a:List Tp) (b:List Tp):Option (Bool×Unit):=
 bif (a.length:Int) !=(b.length:Int) then
  some (false,())
 else aE (aLz a b) fuel ((0:Int),())
def aFG (n:Int) (a:Int) (b:Int):Option (Bool×Unit):=
 bif decide (n≥a) then
  some (decide (n≤b),())
 else some (false,())
def aMu (l:List Int) (_c:Int) (_m:Int):Prop:=(l.length≤lenMax∧∀x1:Int,x1∈l→True)∧True∧True∧True
def aAh (l:List Int) (m:Int) (s1:Int×Unit) (rec2:(Int×Unit)→Option (Bool×Unit)):Option (Bool×Unit):=
 bif decide (s1.1<(l.length:Int)) then
  bif decide (0≤s1.1)&&decide (s1.1<l.length) then
   bif !(gY (l.getD s1.1.toNat 0) (0:Int) m) then
    some (false,())
   else rec2 (IntKind.i64.wrap (s1.1+1),())
  else none
 else some (true,())
def aFF (fuel:Nat) (l:List Int) (c:Int) (m:Int):Option (Bool×Unit):=
 bif decide ((l.length:Int)>c) then
  some (false,())
 else aE (aAh l m) fuel ((0:Int),())
def aFz (t:Tp):Option (Bool×Unit):=
 bif (gY t.1 (0:Int) (5:Int)) then
  bif t.2.1==0 then
   some (true,())
  else bif t.1==3 then
   some ((gY t.2.1 (0:Int) (7:Int)),())
  else some (false,())
 else some (false,())
def aMg (l:List Tp) (_c:Int):Prop:=(l.length≤lenMax∧∀x1:Tp,x1∈l→(True∧(True∧True)))∧True∧True
def aAf (l:List Tp) (s1:Int×Unit) (rec2:(Int×Unit)→Option (Bool×Unit)):Option (Bool×Unit):=
 bif decide (s1.1<(l.length:Int)) then
  bif decide (0≤s1.1)&&decide (s1.1<l.length) then
   bif !(pI (l.getD s1.1.toNat zTp)) then
    some (false,())
   else rec2 (IntKind.i64.wrap (s1.1+1),())
  else none
 else some (true,())
def aFx (fuel:Nat) (l:List Tp) (c:Int):Option (Bool×Unit):=
 bif decide ((l.length:Int)>c) then
  some (false,())
 else aE (aAf l) fuel ((0:Int),())
def aMA (m:Im):Prop:=((m.1.length≤lenMax∧∀x1:Cl,x1∈m.1→(True∧((x1.2.1.length≤lenMax∧∀x2:Tp,x2∈x1.2.1→(True∧(True∧True)))∧((x1.2.2.1.length≤lenMax∧∀x2:Int,x2∈x1.2.2.1→True)∧True))))∧((m.2.1.length≤lenMax∧∀x1:Tp,x1∈m.2.1→(True∧(True∧True)))∧((m.2.2.1.length≤lenMax∧∀x1:Int,x1∈m.2.2.1→True)∧((m.2.2.2.1.length≤lenMax∧∀x1:Mt,x1∈m.2.2.2.1→((x1.1.length≤lenMax∧∀x2:Tp,x2∈x1.1→(True∧(True∧True)))∧((x1.2.1.length≤lenMax∧∀x2:Tp,x2∈x1.2.1→(True∧(True∧True)))∧((True∧(True∧True))∧((x1.2.2.2.1.length≤lenMax∧∀x2:Ins,x2∈x1.2.2.2.1→(True∧(True∧(True∧True))))∧(True∧(True∧((x1.2.2.2.2.2.2.1.length≤lenMax∧∀x2:Int,x2∈x1.2.2.2.2.2.2.1→True)∧True))))))))∧((m.2.2.2.2.1.length≤lenMax∧∀x1:Int,x1∈m.2.2.2.2.1→True)∧(True∧(True∧True)))))))∧True
def aAl (m:Im) (s3:Int×Unit) (rec4:(Int×Unit)→Option (Bool×Unit)) (s5:Int×Unit) (rec6:(Int×Unit)→Option (Bool×Unit)):Option (Bool×Unit):=
 bif decide (s5.1<((m.2.2.2.1.getD s3.1.toNat zMt).2.2.2.1.length:Int)) then
  bif decide (0≤s5.1)&&decide (s5.1<(m.2.2.2.1.getD s3.1.toNat zMt).2.2.2.1.length) then
   bif !(xC ((m.2.2.2.1.getD s3.1.toNat zMt).2.2.2.1.getD s5.1.toNat cM)) then
    some (false,())
   else rec6 (IntKind.i64.wrap (s5.1+1),())
  else none
 else rec4 (IntKind.i64.wrap (s3.1+1),())
def aAk (m:Im) (fuel:Nat) (s3:Int×Unit) (rec4:(Int×Unit)→Option (Bool×Unit)):Option (Bool×Unit):=
 bif decide (s3.1<(m.2.2.2.1.length:Int)) then
  bif decide (0≤s3.1)&&decide (s3.1<m.2.2.2.1.length) then
   bif !(lH (m.2.2.2.1.getD s3.1.toNat zMt).1 (4:Int)) then
    some (false,())
   else bif !(lH (m.2.2.2.1.getD s3.1.toNat zMt).2.1 (8:Int)) then
    some (false,())
   else bif !(pI (m.2.2.2.1.getD s3.1.toNat zMt).2.2.1) then
    some (false,())
   else bif decide (((m.2.2.2.1.getD s3.1.toNat zMt).2.2.2.1.length:Int)>64) then
    some (false,())
   else bif !(gY (m.2.2.2.1.getD s3.1.toNat zMt).2.2.2.2.1 (0:Int) (8:Int)) then
    some (false,())
   else bif !(gY (m.2.2.2.1.getD s3.1.toNat zMt).2.2.2.2.2.1 (0:Int) (4096:Int)) then
    some (false,())
   else bif !(nV (m.2.2.2.1.getD s3.1.toNat zMt).2.2.2.2.2.2.1 (64:Int) (4096:Int)) then
    some (false,())
   else aE (aAl m s3 rec4) fuel ((0:Int),())
  else none
 else some (true,())
def aAj (m:Im) (fuel:Nat) (s1:Int×Unit) (rec2:(Int×Unit)→Option (Bool×Unit)):Option (Bool×Unit):=
 bif decide (s1.1<(m.1.length:Int)) then
  bif decide (0≤s1.1)&&decide (s1.1<m.1.length) then
   bif !(gY (m.1.getD s1.1.toNat zCl).1 (-1:Int) (7:Int)) then
    some (false,())
   else bif !(lH (m.1.getD s1.1.toNat zCl).2.1 (8:Int)) then
    some (false,())
   else bif !(nV (m.1.getD s1.1.toNat zCl).2.2.1 (4:Int) (11:Int)) then
    some (false,())
   else rec2 (IntKind.i64.wrap (s1.1+1),())
  else none
 else aE (aAk m fuel) fuel ((0:Int),())
def aFI (fuel:Nat) (m:Im):Option (Bool×Unit):=
 bif decide ((m.1.length:Int)>8) then
  some (false,())
 else bif decide ((m.2.2.1.length:Int)>16) then
  some (false,())
 else bif decide ((m.2.2.2.1.length:Int)>12) then
  some (false,())
 else bif !(lH m.2.1 (8:Int)) then
  some (false,())
 else bif !(nV m.2.2.2.2.1 (12:Int) (11:Int)) then
  some (false,())
 else bif !(gY m.2.2.2.2.2.1 (0:Int) (4096:Int)) then
  some (false,())
 else bif !(gY m.2.2.2.2.2.2.1 (0:Int) (4096:Int)) then
  some (false,())
 else aE (aAj m fuel) fuel ((0:Int),())
def aAn (m:Im) (r1:List Int×Unit) (s2:List Tp×Int×Unit) (rec3:(List Tp×Int×Unit)→Option (List Tp×Unit)):Option (List Tp×Unit):=
 bif decide (s2.2.1≥0) then
  bif decide (0≤s2.2.1)&&decide (s2.2.1<r1.1.length) then
   bif decide (0≤r1.1.getD s2.2.1.toNat 0)&&decide (r1.1.getD s2.2.1.toNat 0<m.1.length) then
    bif decide (s2.1.length+(m.1.getD (r1.1.getD s2.2.1.toNat 0).toNat zCl).2.1.length<rowMax) then
     rec3 (s2.1++((m.1.getD (r1.1.getD s2.2.1.toNat 0).toNat zCl).2.1),IntKind.i64.wrap (s2.2.1 - 1),())
    else none
   else none
  else none
 else some (s2.1,())
def aFK (fuel:Nat) (m:Im) (c:Int):Option (List Tp×Unit):=
 (iQ m.1 c).bind fun r1=>
 aE (aAn m r1) fuel (([]:List Tp),(IntKind.i64.wrap ((r1.1.length:Int) - 1),()))
def aMx (m:Im) (l:List Tp):Prop:=((m.1.length≤lenMax∧∀x1:Cl,x1∈m.1→(True∧((x1.2.1.length≤lenMax∧∀x2:Tp,x2∈x1.2.1→(True∧(True∧True)))∧((x1.2.2.1.length≤lenMax∧∀x2:Int,x2∈x1.2.2.1→True)∧True))))∧((m.2.1.length≤lenMax∧∀x1:Tp,x1∈m.2.1→(True∧(True∧True)))∧((m.2.2.1.length≤lenMax∧∀x1:Int,x1∈m.2.2.1→True)∧((m.2.2.2.1.length≤lenMax∧∀x1:Mt,x1∈m.2.2.2.1→((x1.1.length≤lenMax∧∀x2:Tp,x2∈x1.1→(True∧(True∧True)))∧((x1.2.1.length≤lenMax∧∀x2:Tp,x2∈x1.2.1→(True∧(True∧True)))∧((True∧(True∧True))∧((x1.2.2.2.1.length≤lenMax∧∀x2:Ins,x2∈x1.2.2.2.1→(True∧(True∧(True∧True))))∧(True∧(True∧((x1.2.2.2.2.2.2.1.length≤lenMax∧∀x2:Int,x2∈x1.2.2.2.2.2.2.1→True)∧True))))))))∧((m.2.2.2.2.1.length≤lenMax∧∀x1:Int,x1∈m.2.2.2.2.1→True)∧(True∧(True∧True)))))))∧(l.length≤lenMax∧∀x1:Tp,x1∈l→(True∧(True∧True)))∧True
def aAi (m:Im) (l:List Tp) (s1:Int×Unit) (rec2:(Int×Unit)→Option (Bool×Unit)):Option (Bool×Unit):=
 bif decide (s1.1<(l.length:Int)) then
  bif decide (0≤s1.1)&&decide (s1.1<l.length) then
   bif !(rE (l.getD s1.1.toNat zTp) (m.1.length:Int)) then
    some (false,())
   else rec2 (IntKind.i64.wrap (s1.1+1),())
  else none
 else some (true,())
def aFH (fuel:Nat) (m:Im) (l:List Tp):Option (Bool×Unit):=
 aE (aAi m l) fuel ((0:Int),())
def aAo (m:Im) (c:Int) (s2:List Int×Unit) (s4:Int×Unit) (rec5:(Int×Unit)→Option (Bool×Unit)):Option (Bool×Unit):=
 bif decide (s4.1<((m.1.getD c.toNat zCl).2.2.1.length:Int)) then
  (bif decide (0≤s4.1)&&decide (s4.1<(m.1.getD c.toNat zCl).2.2.1.length) then
   bif decide ((m.1.getD c.toNat zCl).2.2.1.getD s4.1.toNat 0≥(m.2.2.2.1.length:Int)) then
    some (.inr (false,()))
   else bif decide (0≤s4.1)&&decide (s4.1<(m.1.getD c.toNat zCl).2.2.1.length) then
    bif decide (0≤(m.1.getD c.toNat zCl).2.2.1.getD s4.1.toNat 0)&&decide ((m.1.getD c.toNat zCl).2.2.1.getD s4.1.toNat 0<m.2.2.2.1.length) then
     bif ((m.2.2.2.1.getD ((m.1.getD c.toNat zCl).2.2.1.getD s4.1.toNat 0).toNat zMt).1.length:Int)==0 then
      some (.inr (false,()))
     else bif decide ((0:Int)<(m.2.2.2.1.getD ((m.1.getD c.toNat zCl).2.2.1.getD s4.1.toNat 0).toNat zMt).1.length) then
      (lF m.1 ((3:Int),c,()) ((m.2.2.2.1.getD ((m.1.getD c.toNat zCl).2.2.1.getD s4.1.toNat 0).toNat zMt).1.getD 0 zTp)).bind fun r8=>
      bif !r8.1 then
       some (.inr (false,()))
      else bif decide (s4.1<(s2.1.length:Int)) then
       bif decide (0≤s4.1)&&decide (s4.1<s2.1.length) then
        bif decide (0≤s2.1.getD s4.1.toNat 0)&&decide (s2.1.getD s4.1.toNat 0<m.2.2.2.1.length) then
         bif decide ((1:Int)≤((m.2.2.2.1.getD ((m.1.getD c.toNat zCl).2.2.1.getD s4.1.toNat 0).toNat zMt).1.length:Int))&&decide (((m.2.2.2.1.getD ((m.1.getD c.toNat zCl).2.2.1.getD s4.1.toNat 0).toNat zMt).1.length:Int)≤((m.2.2.2.1.getD ((m.1.getD c.toNat zCl).2.2.1.getD s4.1.toNat 0).toNat zMt).1.length:Int)) then
          bif decide ((1:Int)≤((m.2.2.2.1.getD (s2.1.getD s4.1.toNat 0).toNat zMt).1.length:Int))&&decide (((m.2.2.2.1.getD (s2.1.getD s4.1.toNat 0).toNat zMt).1.length:Int)≤((m.2.2.2.1.getD (s2.1.getD s4.1.toNat 0).toNat zMt).1.length:Int)) then
           bif !(tJ (((m.2.2.2.1.getD ((m.1.getD c.toNat zCl).2.2.1.getD s4.1.toNat 0).toNat zMt).1.take ((m.2.2.2.1.getD ((m.1.getD c.toNat zCl).2.2.1.getD s4.1.toNat 0).toNat zMt).1.length:Int).toNat).drop 1) (((m.2.2.2.1.getD (s2.1.getD s4.1.toNat 0).toNat zMt).1.take ((m.2.2.2.1.getD (s2.1.getD s4.1.toNat 0).toNat zMt).1.length:Int).toNat).drop 1)) then
            some (.inr (false,()))
           else bif !((((m.2.2.2.1.getD ((m.1.getD c.toNat zCl).2.2.1.getD s4.1.toNat 0).toNat zMt).2.2.1.1)==((m.2.2.2.1.getD (s2.1.getD s4.1.toNat 0).toNat zMt).2.2.1.1))&&((((m.2.2.2.1.getD ((m.1.getD c.toNat zCl).2.2.1.getD s4.1.toNat 0).toNat zMt).2.2.1.2.1)==((m.2.2.2.1.getD (s2.1.getD s4.1.toNat 0).toNat zMt).2.2.1.2.1))&&true)) then
            some (.inr (false,()))
           else some (.inl ())
          else none
         else none
        else none
       else none
      else some (.inl ())
     else none
    else none
   else none
  else none:Option (Unit⊕(Bool×Unit))).bind fun q=>match q with
  | .inr r7=>some r7
  | .inl _=>
   rec5 (IntKind.i64.wrap (s4.1+1),())
 else some (true,())
def aFL (fuel:Nat) (m:Im) (c:Int):Option (Bool×Unit):=
 bif decide (0≤c)&&decide (c<m.1.length) then
  bif decide ((m.1.getD c.toNat zCl).1≥c) then
   some (false,())
  else bif !(mM m (m.1.getD c.toNat zCl).2.1) then
   some (false,())
  else
   (iE m c).bind fun r1=>
   bif decide ((r1.1.length:Int)>8) then
    some (false,())
   else
    (bif decide ((m.1.getD c.toNat zCl).1≥0) then
     bif decide (0≤(m.1.getD c.toNat zCl).1)&&decide ((m.1.getD c.toNat zCl).1<m.1.length) then
      some (.inl ((m.1.getD (m.1.getD c.toNat zCl).1.toNat zCl).2.2.1,()))
     else none
    else some (.inl (([]:List Int),())):Option ((List Int×Unit)⊕(Bool×Unit))).bind fun q=>match q with
    | .inr r3=>some r3
    | .inl s2=>
     bif decide (((m.1.getD c.toNat zCl).2.2.1.length:Int)<(s2.1.length:Int)) then
      some (false,())
     else aE (aAo m c s2) fuel ((0:Int),())
 else none
def aFD (m:Im) (x:Mt) (i:Ins):Option (Bool×Unit):=
 bif i.1==1 then
  some (decide (i.2.1<(m.2.2.1.length:Int)),())
 else
  (bif i.1==3 then
   some (.inl (true,()))
  else some (.inl (i.1==4,())):Option ((Bool×Unit)⊕(Bool×Unit))).bind fun q=>match q with
  | .inr r2=>some r2
  | .inl s1=>
   bif s1.1 then
    some (decide (i.2.1<IntKind.i64.wrap ((x.1.length:Int)+(x.2.1.length:Int))),())
   else
    (bif i.1==18 then
     some (.inl (true,()))
    else some (.inl (i.1==19,())):Option ((Bool×Unit)⊕(Bool×Unit))).bind fun q=>match q with
    | .inr r4=>some r4
    | .inl s3=>
     bif s3.1 then
      some (decide (i.2.1<(x.2.2.2.1.length:Int)),())
     else
      (bif i.1==22 then
       some (.inl (true,()))
      else some (.inl (i.1==34,())):Option ((Bool×Unit)⊕(Bool×Unit))).bind fun q=>match q with
      | .inr r6=>some r6
      | .inl s5=>
       bif s5.1 then
        some (decide (i.2.1<(m.1.length:Int)),())
       else
        (bif i.1==27 then
         some (.inl (true,()))
        else some (.inl (i.1==28,())):Option ((Bool×Unit)⊕(Bool×Unit))).bind fun q=>match q with
        | .inr r8=>some r8
        | .inl s7=>
         bif s7.1 then
          bif decide (i.2.1<(m.1.length:Int)) then
           (iE m i.2.1).bind fun r9=>
           some (decide (i.2.2.1<(r9.1.length:Int)),())
          else some (false,())
         else
          (bif i.1==29 then
           some (.inl (true,()))
          else some (.inl (i.1==30,())):Option ((Bool×Unit)⊕(Bool×Unit))).bind fun q=>match q with
          | .inr r11=>some r11
          | .inl s10=>
           bif s10.1 then
            some (decide (i.2.1<(m.2.1.length:Int)),())
           else bif i.1==31 then
            some (decide (i.2.1<(m.2.2.2.1.length:Int)),())
           else bif i.1==32 then
            bif decide (i.2.1<(m.1.length:Int)) then
             bif decide (0≤i.2.1)&&decide (i.2.1<m.1.length) then
              some (decide (i.2.2.1<((m.1.getD i.2.1.toNat zCl).2.2.1.length:Int)),())
             else none
            else some (false,())
           else some (true,())
def aAg (m:Im) (x:Mt) (s3:Int×Unit) (rec4:(Int×Unit)→Option (Bool×Unit)):Option (Bool×Unit):=
 bif decide (s3.1<(x.2.2.2.1.length:Int)) then
  bif decide (0≤s3.1)&&decide (s3.1<x.2.2.2.1.length) then
   (tW m x (x.2.2.2.1.getD s3.1.toNat cM)).bind fun r5=>
   bif !r5.1 then
    some (false,())
   else rec4 (IntKind.i64.wrap (s3.1+1),())
  else none
 else some (true,())
def aFE (fuel:Nat) (m:Im) (x:Mt):Option (Bool×Unit):=
 (bif !(mM m x.1) then
  some (.inr (false,()))
 else bif !(mM m x.2.1) then
  some (.inr (false,()))
 else bif !((x.2.2.1.1==5)&&((x.2.2.1.2.1==0)&&true)) then
  bif !(rE x.2.2.1 (m.1.length:Int)) then
   some (.inr (false,()))
  else bif (x.2.2.2.1.length:Int)==0 then
   some (.inr (false,()))
  else bif (x.2.2.2.2.2.2.1.length:Int) !=(x.2.2.2.1.length:Int) then
   some (.inr (false,()))
  else bif decide (IntKind.i64.wrap ((x.1.length:Int)+(x.2.1.length:Int))>8) then
   some (.inr (false,()))
  else some (.inl ())
 else bif (x.2.2.2.1.length:Int)==0 then
  some (.inr (false,()))
 else bif (x.2.2.2.2.2.2.1.length:Int) !=(x.2.2.2.1.length:Int) then
  some (.inr (false,()))
 else bif decide (IntKind.i64.wrap ((x.1.length:Int)+(x.2.1.length:Int))>8) then
  some (.inr (false,()))
 else some (.inl ()):Option (Unit⊕(Bool×Unit))).bind fun q=>match q with
 | .inr r2=>some r2
 | .inl _=>
  aE (aAg m x) fuel ((0:Int),())
def aMl (m:Im):Prop:=((m.1.length≤lenMax∧∀x1:Cl,x1∈m.1→(True∧((x1.2.1.length≤lenMax∧∀x2:Tp,x2∈x1.2.1→(True∧(True∧True)))∧((x1.2.2.1.length≤lenMax∧∀x2:Int,x2∈x1.2.2.1→True)∧True))))∧((m.2.1.length≤lenMax∧∀x1:Tp,x1∈m.2.1→(True∧(True∧True)))∧((m.2.2.1.length≤lenMax∧∀x1:Int,x1∈m.2.2.1→True)∧((m.2.2.2.1.length≤lenMax∧∀x1:Mt,x1∈m.2.2.2.1→((x1.1.length≤lenMax∧∀x2:Tp,x2∈x1.1→(True∧(True∧True)))∧((x1.2.1.length≤lenMax∧∀x2:Tp,x2∈x1.2.1→(True∧(True∧True)))∧((True∧(True∧True))∧((x1.2.2.2.1.length≤lenMax∧∀x2:Ins,x2∈x1.2.2.2.1→(True∧(True∧(True∧True))))∧(True∧(True∧((x1.2.2.2.2.2.2.1.length≤lenMax∧∀x2:Int,x2∈x1.2.2.2.2.2.2.1→True)∧True))))))))∧((m.2.2.2.2.1.length≤lenMax∧∀x1:Int,x1∈m.2.2.2.2.1→True)∧(True∧(True∧True)))))))∧True
def tV (m:Im) (s3:Bool×Int×Unit) (rec4:(Bool×Int×Unit)→Option ((Bool×Unit)⊕(Int×Unit))):Option ((Bool×Unit)⊕(Int×Unit)):=
 bif decide (s3.2.1<(m.1.length:Int)) then
  bif s3.1 then
   (tY m s3.2.1).bind fun r5=>
   rec4 (r5.1,IntKind.i64.wrap (s3.2.1+1),())
  else some (.inl (s3.1,()))
 else some (.inl (s3.1,()))
def rF (m:Im) (s8:Bool×Int×Unit) (rec9:(Bool×Int×Unit)→Option ((Bool×Unit)⊕(Int×Unit))):Option ((Bool×Unit)⊕(Int×Unit)):=
 bif decide (s8.2.1<(m.2.2.2.1.length:Int)) then
  bif s8.1 then
   bif decide (0≤s8.2.1)&&decide (s8.2.1<m.2.2.2.1.length) then
    (tX m (m.2.2.2.1.getD s8.2.1.toNat zMt)).bind fun r10=>
    rec9 (r10.1,IntKind.i64.wrap (s8.2.1+1),())
   else none
  else some (.inl (s8.1,()))
 else some (.inl (s8.1,()))
def xM (m:Im) (s11:Bool×Int×Unit) (rec12:(Bool×Int×Unit)→Option (Int×Unit)) (s15:Bool×Int×Unit) (rec16:(Bool×Int×Unit)→Option (Int×Unit)):Option (Int×Unit):=
 bif decide (0≤m.2.2.2.2.1.getD s11.2.1.toNat 0)&&decide (m.2.2.2.2.1.getD s11.2.1.toNat 0<m.2.2.2.1.length) then
  bif decide (s15.2.1<((m.2.2.2.1.getD (m.2.2.2.2.1.getD s11.2.1.toNat 0).toNat zMt).1.length:Int)) then
   bif s15.1 then
    bif decide (0≤m.2.2.2.2.1.getD s11.2.1.toNat 0)&&decide (m.2.2.2.2.1.getD s11.2.1.toNat 0<m.2.2.2.1.length) then
     bif decide (0≤s15.2.1)&&decide (s15.2.1<(m.2.2.2.1.getD (m.2.2.2.2.1.getD s11.2.1.toNat 0).toNat zMt).1.length) then
      rec16 ((((m.2.2.2.1.getD (m.2.2.2.2.1.getD s11.2.1.toNat 0).toNat zMt).1.getD s15.2.1.toNat zTp).1)==1,IntKind.i64.wrap (s15.2.1+1),())
     else none
    else none
   else rec12 (s15.1,IntKind.i64.wrap (s11.2.1+1),())
  else rec12 (s15.1,IntKind.i64.wrap (s11.2.1+1),())
 else none
def tU (m:Im) (fuel:Nat) (s11:Bool×Int×Unit) (rec12:(Bool×Int×Unit)→Option (Int×Unit)):Option (Int×Unit):=
 bif decide (s11.2.1<(m.2.2.2.2.1.length:Int)) then
  bif s11.1 then
   bif decide (0≤s11.2.1)&&decide (s11.2.1<m.2.2.2.2.1.length) then
    bif decide (m.2.2.2.2.1.getD s11.2.1.toNat 0≥(m.2.2.2.1.length:Int)) then
     some ((3:Int),())
    else
     (bif decide (0≤m.2.2.2.2.1.getD s11.2.1.toNat 0)&&decide (m.2.2.2.2.1.getD s11.2.1.toNat 0<m.2.2.2.1.length) then
      bif ((m.2.2.2.1.getD (m.2.2.2.2.1.getD s11.2.1.toNat 0).toNat zMt).2.2.1.1)==1 then
       some (.inl (true,()))
      else bif decide (0≤m.2.2.2.2.1.getD s11.2.1.toNat 0)&&decide (m.2.2.2.2.1.getD s11.2.1.toNat 0<m.2.2.2.1.length) then
       some (.inl (((m.2.2.2.1.getD (m.2.2.2.2.1.getD s11.2.1.toNat 0).toNat zMt).2.2.1.1)==5,()))
      else none
     else none:Option ((Bool×Unit)⊕(Int×Unit))).bind fun q=>match q with
     | .inr r14=>some r14
     | .inl s13=>
      aE (xM m s11 rec12) fuel (s13.1,((0:Int),()))
   else none
  else bif !s11.1 then
   some ((3:Int),())
  else some ((0:Int),())
 else bif !s11.1 then
  some ((3:Int),())
 else some ((0:Int),())
def aFC (fuel:Nat) (m:Im):Option (Int×Unit):=
 bif !(rH m) then
  some ((2:Int),())
 else
  (aE (tV m) fuel ((mM m m.2.1),((0:Int),())):Option ((Bool×Unit)⊕(Int×Unit))).bind fun q=>match q with
  | .inr r2=>some r2
  | .inl s1=>
   (aE (rF m) fuel (s1.1,((0:Int),())):Option ((Bool×Unit)⊕(Int×Unit))).bind fun q=>match q with
   | .inr r7=>some r7
   | .inl s6=>
    aE (tU m fuel) fuel (s6.1,((0:Int),()))
end Go.Pli
