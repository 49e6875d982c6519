/- Images: what the functions come to: what fits. -/
import Derived.Test.YtcofionghgmldaaGreatPliSp
import Derived.Test.YtcofionghgmldaaGreatPliInst
namespace Go.Pli
open Go Go.PM
theorem aQE (s:List Cl):aIQ s=some (idL s,()):=by simp[aIQ,idL]
theorem aQs (s:List Tp):aIH s=some (idL s,()):=by simp[aIH,idL]
theorem aQA (s:List Int):aIO s=some (idL s,()):=by simp[aIO,idL]
theorem aQq (s:List Ins):aIG s=some (idL s,()):=by simp[aIG,idL]
theorem aQy (s:List Int):aIK s=some (idL s,()):=by simp[aIK,idL]
theorem dgt (a b:Int):decide (a>b)= !decide (a≤b):=by
 by_cases h:a≤b
 ·have:¬a>b:=by omega
  simp[h]
 ·have:a>b:=by omega
  simp[this]
theorem aMv (n a b:Int):aFG n a b=some (gY n a b,()):=by
 unfold aFG gY
 have h1:decide (n≥a)=decide (a≤n):=rfl
 rw[h1]
 cases decide (a≤n) <;> rfl
theorem aMh (t:Tp):aFz t=some (pI t,()):=by
 unfold aFz pI iY gY fA
 cases decide (0≤t.1)&&decide (t.1≤5) <;> cases t.2.1==0 <;> cases t.1==3 <;> rfl
theorem aMs (l:List Int) (c m:Int) (h:aMu l c m):∃k,aFF k l c m=some (nV l c m,()):=by
 refine⟨l.length+1,?_⟩
 have key:aE (aAh l m) (l.length+1) ((0:Int),())=bif l.all (fun n=>fA n m) then some (true,()) else some (false,()):=by
  refine lN (st:=fun k=>((k:Int),())) (p:=fun n=>fA n m) (fun k x rec hk hlt=>?_) (fun rec=>?_) _ (gX _)
  ·unfold aAh
   simp only[dlt hlt,dge,aH,aA,aU,getD_some hk,bJ hlt h.1.1]
   unfold gY fA
   cases decide (0≤x)&&decide (x≤m) <;> rfl
  ·unfold aAh
   simp only[bQ,aB]
 unfold aFF
 rw[key,dgt]
 unfold nV iZ
 cases decide ((l.length:Int)≤c) <;> simp
 cases l.all fun n=>fA n m <;> rfl
theorem aMe (l:List Tp) (c:Int) (h:aMg l c):∃k,aFx k l c=some (lH l c,()):=by
 refine⟨l.length+1,?_⟩
 have key:aE (aAf l) (l.length+1) ((0:Int),())=bif l.all iY then some (true,()) else some (false,()):=by
  refine lN (st:=fun k=>((k:Int),())) (p:=iY) (fun k x rec hk hlt=>?_) (fun rec=>?_) _ (gX _)
  ·unfold aAf
   simp only[dlt hlt,dge,aH,aA,aU,getD_some hk,bJ hlt h.1.1]
   unfold pI
   cases iY x <;> rfl
  ·unfold aAf
   simp only[bQ,aB]
 unfold aFx
 rw[key,dgt]
 unfold lH gP
 cases decide ((l.length:Int)≤c) <;> simp
 cases l.all iY <;> rfl
theorem aMy (m:Im) (_:aMA m):∃k,aFI k m=some (rH m,()):=by
 refine⟨100,?_⟩
 unfold aFI
 rw[dgt,dgt,dgt]
 by_cases h1:(m.1.length:Int)≤8
 ·by_cases h3:(m.2.2.2.1.length:Int)≤12
  ·have key2:aE (aAk m 100) 100 ((0:Int),())=bif m.2.2.2.1.all kL then some (true,()) else some (false,()):=by
    refine lN (st:=fun k=>((k:Int),())) (p:=kL) (fun k x rec hk hlt=>?_) (fun rec=>?_) _ (by omega)
    ·unfold aAk
     simp only[dlt hlt,dge,aH,aA,aU,getD_some hk]
     rw[dgt]
     by_cases hc:(x.2.2.2.1.length:Int)≤64
     ·have inner:aE (aAl m ((k:Int),()) rec) 100 ((0:Int),())=bif x.2.2.2.1.all fB then rec (((k+1:Nat):Int),()) else some (false,()):=by
       refine lN (st:=fun k=>((k:Int),())) (p:=fB) (fun j i rec2 hj hlj=>?_) (fun rec2=>?_) _ (by omega)
       ·unfold aAl
        simp only[aU,getD_some hk,dlt hlj,dge,aH,aA,getD_some hj,bJ hlj (show x.2.2.2.1.length≤lenMax by simp only[lenMax];omega)]
        unfold xC
        cases fB i <;> rfl
       ·unfold aAl
        simp only[aU,getD_some hk,bQ,aB,bJ hlt (show m.2.2.2.1.length≤lenMax by simp only[lenMax];omega)]
      rw[inner]
      unfold kL lH pI gY nV fA
      simp only[hc,aM,eC,bA,aB]
      cases gP x.1 4 <;> cases gP x.2.1 8 <;> cases iY x.2.2.1 <;> cases x.2.2.2.1.all fB <;> cases decide (0≤x.2.2.2.2.1)&&decide (x.2.2.2.2.1≤8) <;>
       cases decide (0≤x.2.2.2.2.2.1)&&decide (x.2.2.2.2.2.1≤4096) <;> cases iZ x.2.2.2.2.2.2.1 64 4096 <;> rfl
     ·unfold kL lH pI
      simp only[hc,bG,lA,cD,aA]
      cases gP x.1 4 <;> cases gP x.2.1 8 <;> cases iY x.2.2.1 <;> rfl
    ·unfold aAk
     simp only[bQ,aB]
   have key1:aE (aAj m 100) 100 ((0:Int),())=bif m.1.all oI then (bif m.2.2.2.1.all kL then some (true,()) else some (false,())) else some (false,()):=by
    refine lN (st:=fun k=>((k:Int),())) (p:=oI) (fun k x rec hk hlt=>?_) (fun rec=>?_) _ (by omega)
    ·unfold aAj
     simp only[dlt hlt,dge,aH,aA,aU,getD_some hk,bJ hlt (show m.1.length≤lenMax by simp only[lenMax];omega)]
     have h7:decide (x.1≤7)=decide (x.1<8):=by by_cases h:x.1<8 <;> simp[h] <;> omega
     unfold oI gY lH nV
     rw[h7]
     cases decide (-1≤x.1) <;> cases decide (x.1<8) <;> cases gP x.2.1 8 <;> cases iZ x.2.2.1 4 11 <;> rfl
    ·unfold aAj
     simp only[bQ,aB]
     exact key2
   rw[key1]
   unfold rH bX lH nV gY fA
   simp only[h1,h3,aM,bA,aB,eC]
   cases gP m.2.1 8 <;> cases decide ((m.2.2.1.length:Int)≤16) <;> cases m.1.all oI <;> cases m.2.2.2.1.all kL <;> cases iZ m.2.2.2.2.1 12 11 <;>
    cases decide (0≤m.2.2.2.2.2.1)&&decide (m.2.2.2.2.2.1≤4096) <;> cases decide (0≤m.2.2.2.2.2.2.1)&&decide (m.2.2.2.2.2.2.1≤4096) <;> rfl
  ·unfold rH bX
   simp only[h1,h3,aM,bG,bA,cD,aA,aB,lA,zF]
   cases decide ((m.2.2.1.length:Int)≤16) <;> rfl
 ·unfold rH bX
  simp only[h1,bG,cD,aA,lA]
end Go.Pli

namespace Go.Pli
open Go Go.PM
theorem tB (x y:Tp):((x.1==y.1)&&((x.2.1==y.2.1)&&true))=(x==y):=by
 obtain⟨a,b,u⟩:=x;obtain⟨c,d,v⟩:=y;rfl
theorem aD5 {α:Type} [BEq α]:∀(a b:List α),a.length=b.length→(a.zip b).all (fun q=>q.1==q.2)=(a==b)
 | [],[],_=>rfl
 | [],_::_,h=>by simp at h
 | _::_,[],h=>by simp at h
 | x::a,y::b,h=>by
  have ih:=aD5 a b (by simpa using h)
  simp only[List.zip_cons_cons,eV,ih]
  rfl
theorem aNX {α σ R:Type} [BEq α] {L:σ→(σ→Option R)→Option R} {a b:List α} {st:Nat→σ} {ex fin:Option R} (hl:a.length=b.length)
  (h1:∀(k:Nat) (x y:α) (rec),a[k]? =some x→b[k]? =some y→k<a.length→k<b.length→L (st k) rec=bif x==y then rec (st (k+1)) else ex)
  (h2:∀rec,L (st a.length) rec=fin):∀F:Nat,a.length<F→aE L F (st 0)=bif a==b then fin else ex:=by
 intro F hF
 have hz:(a.zip b).length=a.length:=by rw[List.length_zip];omega
 rw[←aD5 a b hl]
 refine lN (xs:=a.zip b) (p:=fun q=>q.1==q.2) (fun k q rec hk hlt=>?_) (fun rec=>by rw[hz];exact h2 rec) F (by omega)
 have hka:k<a.length:=by omega
 have hkb:k<b.length:=by omega
 rw[aV hlt] at hk
 injection hk with hk
 subst hk
 rw[List.getElem_zip]
 exact h1 k _ _ rec (aV hka) (aV hkb) hka hkb
theorem aJB {α:Type} [BEq α] {a b:List α} (h:a.length≠b.length):(a==b)=false:=by
 induction a generalizing b with
 | nil=>cases b with
  | nil=>simp at h
  | cons=>rfl
 | cons x a ih=>cases b with
  | nil=>rfl
  | cons y b=>
   have:=ih (b:=b) (by simpa using h)
   show (x==y&&a==b)=false
   rw[this];simp
theorem aG6 (a b:Nat):((a:Int) !=(b:Int))= !decide (a=b):=by
 by_cases h:a=b
 ·subst h;simp
 ·have:¬((a:Int)=(b:Int)):=by omega
  simp[h,this]
theorem aPq (a b:List Tp) (h:aPr a b):∃k,aH8 k a b=some (eqL a b,()):=by
 refine⟨a.length+1,?_⟩
 unfold aH8
 rw[aG6]
 by_cases hl:a.length=b.length
 ·have key:aE (aBa a b) (a.length+1) ((0:Int),())=bif a==b then some (true,()) else some (false,()):=by
   refine aNX (st:=fun k=>((k:Int),())) hl (fun k x y rec hx hy hka hkb=>?_) (fun rec=>?_) _ (gX _)
   ·unfold aBa
    simp only[dlt hka,dlt hkb,dge,aH,aA,aU,getD_some hx,getD_some hy,bJ hka h.1.1,tB]
    cases x==y <;> rfl
   ·unfold aBa
    simp only[bQ,aB]
  rw[key]
  unfold eqL
  simp only[hl,aM,bA,aB]
  cases a==b <;> rfl
 ·unfold eqL
  rw[aJB hl]
  simp[hl]
theorem aLw (a b:List Tp) (h:aLy a b):∃k,aLx k a b=some (tJ a b,()):=aPq a b h
theorem aLS (t:Tp) (n:Int):aFl t n=some (rE t n,()):=by
 unfold aFl rE fM
 have h:decide (t.2.1≥0)=decide (0≤t.2.1):=rfl
 rw[h]
 by_cases h1:t.1=1
 ·have h3:(t.1==3)=false:=by rw[h1];rfl
  have h1':(t.1==1)=true:=by rw[h1];rfl
  rw[h1',h3]
  cases t.2.1==0 <;> rfl
 ·have h1':(t.1==1)=false:=by simpa using h1
  rw[h1']
  by_cases h2:t.1=2
  ·have h3:(t.1==3)=false:=by rw[h2];rfl
   have h2':(t.1==2)=true:=by rw[h2];rfl
   rw[h2',h3]
   cases t.2.1==0 <;> rfl
  ·have h2':(t.1==2)=false:=by simpa using h2
   rw[h2']
   cases t.1==3 <;> cases decide (0≤t.2.1) <;> rfl
theorem aOd (t:Tp):aHf t=some (hJ t,()):=by
 unfold aHf hJ
 cases t.1==2 <;> cases t.1==3 <;> rfl
theorem aLJ (t:Tp):aFd t=some (rC t,()):=by
 unfold aFd rC hJ
 cases t.1==2 <;> cases t.1==3 <;> rfl
theorem aN9 (l:List Cl) (c:Int):aHc l c=some (kup l c,()):=by
 unfold aHc kup eA
 by_cases h1:c<0
 ·simp[h1]
 ·by_cases h2:c≥(l.length:Int)
  ·simp[h1,h2]
  ·have h3:0≤c:=by omega
   have h4:c<(l.length:Int):=by omega
   simp only[h1,h2,h3,h4,aM,bG,aH,aA,aB,kZ]
   cases decide ((l.getD c.toNat zCl).1≥c) <;> rfl
theorem kJ {l:List Cl} {c:Int} (h:0≤c):kup l c<c:=by
 unfold kup
 by_cases h1:decide (c<0) || (decide (c≥(l.length:Int)) || decide (eA l c≥c))
 ·simp[h1];omega
 ·simp only[Bool.not_eq_true] at h1
  rw[h1]
  simp only[Bool.or_eq_false_iff,pX] at h1
  simp only[aB]
  omega
theorem yU {l:List Cl} {c:Int} (h:c<0):∀n,qD l n c=[]
 | 0=>rfl
 | n+1=>by simp[qD,h]
theorem aIX {l:List Cl}:∀(n m:Nat) (c:Int),c.toNat<n→c.toNat<m→qD l n c=qD l m c
 | 0,_,_,h,_=>by omega
 | _+1,0,_,_,h=>by omega
 | n+1,m+1,c,h1,h2=>by
  simp only[qD]
  by_cases hc:c<0
  ·simp[hc]
  ·have:=kJ (l:=l) (c:=c) (by omega)
   simp only[hc,bG,aB]
   by_cases hk:kup l c<0
   ·rw[yU hk,yU hk]
   ·rw[aIX n m (kup l c) (by omega) (by omega)]
theorem eU {l:List Cl} {c:Int} (h:c<0):bS l c=[]:=yU h _
theorem gI {l:List Cl} {c:Int} (h:0≤c):bS l c=c::bS l (kup l c):=by
 have h0:¬c<0:=by omega
 have:=kJ (l:=l) h
 unfold bS
 rw[qD]
 simp only[h0,bG,aB]
 by_cases hk:kup l c<0
 ·rw[yU hk,yU hk]
 ·rw[aIX c.toNat ((kup l c).toNat+1) (kup l c) (by omega) (by omega)]
theorem aJj (l:List Cl) (b:Int):∀(n:Nat) (c:Int),c.toNat<n→aE (aAT l b) (n+1) (c,())=some ((bS l c).contains b,())
 | 0,_,h=>by omega
 | n+1,c,h=>by
  rw[aX,aAT]
  by_cases hc:c<0
  ·have h0:¬c≥0:=by omega
   rw[eU hc]
   simp only[h0,bG,aB]
   rfl
  ·have h0:c≥0:=by omega
   have hlt:=kJ (l:=l) (c:=c) (by omega)
   rw[gI (by omega)]
   simp only[h0,aM,aA,List.contains_cons]
   by_cases hb:c=b
   ·subst hb;simp
   ·have e1:(c==b)=false:=by simpa using hb
    have e2:(b==c)=false:=by simpa using fun h=>hb h.symm
    rw[e1,e2]
    simp only[aB,kZ]
    by_cases hk:kup l c<0
    ·rw[eU hk,aX,aAT]
     have:¬kup l c≥0:=by omega
     simp only[this,bG,aB]
     rfl
    ·exact aJj l b n (kup l c) (by omega)
theorem aOf (l:List Cl) (a b:Int):∃k,aHi k l a b=some (dA l a b,()):=by
 refine⟨a.toNat+1+1,?_⟩
 unfold aHi dA
 rw[aJj l b (a.toNat+1) a (by omega)]
 by_cases h1:b<0
 ·have:¬0≤b:=by omega
  simp[h1,this]
 ·have h1':0≤b:=by omega
  by_cases h2:b≥(l.length:Int)
  ·have:¬b<(l.length:Int):=by omega
   simp[h1,h2,this]
  ·have h2':b<(l.length:Int):=by omega
   by_cases h3:a≥(l.length:Int)
   ·have:¬a<(l.length:Int):=by omega
    simp[h1,h2,h3,this]
   ·have h3':a<(l.length:Int):=by omega
    simp only[h1,h2,h3,h1',h2',h3',aM,bG,aB,eC]
theorem aOb (l:List Cl) (a b:Tp):aHd l a b=some (cF l a b,()):=by
 unfold aHd cF
 rw[tB]
 cases a.1==4 <;> cases a.1==3 <;> cases b.1==3 <;> cases a==b <;> cases a.1==1 <;> rfl
theorem sN (l:List Cl):∀(n:Nat) (c:Int),c.toNat<n→(bS l c).length≤n
 | 0,_,h=>by omega
 | n+1,c,h=>by
  by_cases hc:c<0
  ·rw[eU hc];simp
  ·rw[gI (by omega),aF]
   have hlt:=kJ (l:=l) (c:=c) (by omega)
   by_cases hk:kup l c<0
   ·rw[eU hk];simp
   ·have:=sN l n (kup l c) (by omega)
    omega
theorem gZ {α:Type} {l:List α} (h:okL l=true):l.length<1000000:=by simpa[okL] using h
theorem aJx (l:List Cl) (hl:l.length<1000000):∀(n:Nat) (c:Int) (out:List Int),c.toNat<n→c<(l.length:Int)→out.length+n<3000000→
  aE (tM l) (n+1) (c,out,())=some (out++bS l c,())
 | 0,_,_,h,_,_=>by omega
 | n+1,c,out,h,hcl,ho=>by
  rw[aX,tM]
  by_cases hc:c<0
  ·have h0:¬c≥0:=by omega
   rw[eU hc]
   simp[h0]
  ·have h0:c≥0:=by omega
   have h0':0≤c:=by omega
   have hlt:=kJ (l:=l) (c:=c) (by omega)
   have hroom:out.length+[c].length<rowMax:=by simp[rowMax];omega
   rw[gI (by omega)]
   have hk:kup l c=bif decide ((l.getD c.toNat zCl).1≥c) then -1 else (l.getD c.toNat zCl).1:=by
    have e1:¬c≥(l.length:Int):=by omega
    unfold kup eA
    simp only[hc,e1,bG,kZ]
   simp only[h0,hcl,hroom,aM,aH,aA]
   have fin:aE (tM l) (n+1) (kup l c,out++[c],())=some (out++(c::bS l (kup l c)),()):=by
    by_cases hk:kup l c<0
    ·rw[aX]
     unfold tM
     have:¬kup l c≥0:=by omega
     rw[eU hk]
     simp[this]
    ·rw[aJx l hl n (kup l c) (out++[c]) (by omega) (by omega) (by simp;omega)]
     simp
   rw[hk] at fin⊢
   cases hd:decide ((l.getD c.toNat zCl).1≥c)
   ·rw[hd] at fin;simpa using fin
   ·rw[hd] at fin;simpa using fin
theorem aL1 (l:List Cl) (c:Int) (r) (h:iQ l c=some r):∃k,aFr k l c=some r:=by
 unfold iQ at h
 cases hl:okL l <;> simp only[hl,aA,aB] at h
 ·cases h
 injection h with h
 subst h
 have hlt:=gZ hl
 refine⟨c.toNat+1+1,?_⟩
 unfold aFr cE
 by_cases hc:c<(l.length:Int)
 ·rw[aJx l hlt (c.toNat+1) c [] (by omega) hc (by simp;omega)]
  simp[hc]
 ·rw[aX,tM]
  have h0:c≥0:=by omega
  simp[h0,hc]
theorem aLA (l:List Cl) (a b:Tp) (r) (h:lF l a b=some r):aE2 l a b=some r:=by
 unfold lF at h
 cases hl:okL l <;> simp only[hl,aA,aB] at h
 ·cases h
 injection h with h
 subst h
 have hlt:=gZ hl
 unfold aE2 tK iQ
 rw[tB]
 have hlen:(cE l a.2.1).length<9223372036854775807:=by
  unfold cE
  by_cases hc:a.2.1<(l.length:Int)
  ·have:=sN l (a.2.1.toNat+1) a.2.1 (by omega)
   simp only[hc,aM,aA]
   omega
  ·simp[hc]
 have hrin:rin (cE l a.2.1) b.2.1=some ((cE l a.2.1).contains b.2.1,()):=by
  unfold rin
  rw[aI hlen];rfl
 simp only[hl,aA,aJ,hrin,rC]
 by_cases h1:a.1=1
 ·have e3:(a.1==3)=false:=by rw[h1];rfl
  have e1:(a.1==1)=true:=by rw[h1];rfl
  rw[e1,e3]
  cases a.1==4 <;> cases a==b <;> rfl
 ·have e1:(a.1==1)=false:=by simpa using h1
  rw[e1]
  cases a.1==4 <;> cases a.1==3 <;> cases b.1==3 <;> cases a.1==2 <;> cases a==b <;> rfl
end Go.Pli

namespace Go.Pli
open Go Go.PM
theorem aBB {α:Type} {p:Nat→α→Bool}:∀(l:List α) (k:Nat),jC p k l=true↔∀(j:Nat) x,l[j]? =some x→p (k+j) x=true
 | [],k=>by simp[jC]
 | x::l,k=>by
  simp only[jC,aC]
  rw[aBB l (k+1)]
  constructor
  ·intro⟨h1,h2⟩ j y hy
   cases j with
   | zero=>simp at hy;subst hy;simpa using h1
   | succ j=>
    have:=h2 j y (by simpa using hy)
    rwa [bE,bY 1 j] at this
  ·intro h
   refine⟨by simpa using h 0 x rfl,fun j y hy=>?_⟩
   have:=h (j+1) y (by simpa using hy)
   rwa [bE,bY 1 j]
theorem aCX {α σ R:Type} {L:σ→(σ→Option R)→Option R} {xs:List α} {st:Nat→σ} {p:Nat→α→Bool} {ex fin:Option R}
  (h1:∀(k:Nat) (x:α) (rec),xs[k]? =some x→k<xs.length→L (st k) rec=bif p k x then rec (st (k+1)) else ex)
  (h2:∀rec,L (st xs.length) rec=fin):∀F:Nat,xs.length<F→aE L F (st 0)=bif jC p 0 xs then fin else ex:=by
 have key:∀(l pre:List α) (F:Nat),xs=pre++l→l.length<F→aE L F (st pre.length)=bif jC p pre.length l then fin else ex:=by
  intro l
  induction l with
  | nil=>
   intro pre F hx hF
   obtain⟨F,rfl⟩:∃n,F=n+1:=⟨F - 1,by simp at hF;omega⟩
   rw[bU] at hx
   subst hx
   rw[aX,h2]
   rfl
  | cons x l ih=>
   intro pre F hx hF
   obtain⟨F,rfl⟩:∃n,F=n+1:=⟨F - 1,by simp at hF;omega⟩
   have hk:xs[pre.length]? =some x:=by rw[hx];simp
   have hl:pre.length<xs.length:=by rw[hx];simp
   rw[aX,h1 pre.length x _ hk hl]
   have:=ih (pre++[x]) F (by rw[hx];simp) (by simp only[aF] at hF;omega)
   simp only[aW,aF,bM,bH] at this
   rw[this]
   simp only[jC]
   cases p pre.length x <;> rfl
 intro F hF
 exact key xs [] F rfl hF
theorem xF {q:Nat→Bool} {n:Nat}:(List.range n).all q=true↔∀k,k<n→q k=true:=by
 simp[bI]
theorem aAP {R:Type} {L:Bool×Int×Unit→(Bool×Int×Unit→Option R)→Option R} {N:Nat} {q:Nat→Bool} {fin:Bool→Option R}
  (h1:∀(k:Nat) (rec),k<N→(∀j,j<k→q j=true)→L (true,(k:Int),()) rec=rec (q k,((k+1:Nat):Int),())∨(q k=false∧L (true,(k:Int),()) rec=fin false))
  (h0:∀(k:Nat) rec,k≤N→L (false,(k:Int),()) rec=fin false) (h2:∀rec,L (true,(N:Int),()) rec=fin true):
  ∀(F:Nat) (b:Bool),N+1<F→aE L F (b,((0:Nat):Int),())=fin (b&&(List.range N).all q):=by
 have hf:∀(F k:Nat),0<F→k≤N→aE L F (false,(k:Int),())=fin false:=fun F k hF hk=>by
  obtain⟨F,rfl⟩:∃n,F=n+1:=⟨F - 1,by omega⟩
  rw[aX,h0 k _ hk]
 have key:∀(d k F:Nat),k+d=N→d+1<F→(∀j,j<k→q j=true)→aE L F (true,(k:Int),())=fin ((List.range N).all q):=by
  intro d
  induction d with
  | zero=>
   intro k F hk hF hh
   obtain⟨F,rfl⟩:∃n,F=n+1:=⟨F - 1,by omega⟩
   have:k=N:=by omega
   subst this
   rw[aX,h2,xF.2 hh]
  | succ d ih=>
   intro k F hk hF hh
   obtain⟨F,rfl⟩:∃n,F=n+1:=⟨F - 1,by omega⟩
   rw[aX]
   cases hq:q k with
   | true=>
    rcases h1 k (aE L F) (by omega) hh with h | ⟨h,_⟩
    ·rw[h,hq]
     refine ih (k+1) F (by omega) (by omega) fun j hj=>?_
     rcases eO j k with h | h
     ·exact hh j h
     ·have:j=k:=by omega
      subst this;exact hq
    ·rw[hq] at h;cases h
   | false=>
    have:(List.range N).all q=false:=by
     cases ha:(List.range N).all q with
     | false=>rfl
     | true=>rw[xF.1 ha k (by omega)] at hq;cases hq
    rw[this]
    rcases h1 k (aE L F) (by omega) hh with h | ⟨_,h⟩
    ·rw[h,hq]
     exact hf F (k+1) (by omega) (by omega)
    ·exact h
 intro F b hF
 cases b with
 | true=>simpa using key N 0 F (by omega) hF fun j hj=>by omega
 | false=>simpa using hf F 0 (by omega) (by omega)
structure Fit (m:Im):Prop where
 classes:m.1.length≤8
 statics:gP m.2.1 8=true
 ints:m.2.2.1.length≤16
 methods:m.2.2.2.1.length≤12
 cls:∀c∈m.1,oI c=true
 mts:∀x∈m.2.2.2.1,kL x=true
 entries:iZ m.2.2.2.2.1 12 11=true
 stack:fA m.2.2.2.2.2.1 4096=true
 heap:fA m.2.2.2.2.2.2.1 4096=true
theorem dG {m:Im} (h:bX m=true):Fit m:=by
 simp only[bX,aC,aQ,bI] at h
 obtain⟨h1,h2,h3,h4,h5,h6,h7,h8,h9⟩:=h
 exact⟨by omega,h2,by omega,by omega,h5,h6,h7,h8,h9⟩
theorem aBh {c:Cl} (h:oI c=true):(-1≤c.1∧c.1<8)∧(c.2.1.length≤8∧∀t∈c.2.1,iY t=true)∧(c.2.2.1.length≤4∧∀n∈c.2.2.1,0≤n∧n≤11):=by
 simp only[oI,gP,iZ,fA,aC,aQ,bI] at h
 obtain⟨h1,h2,⟨h3,h4⟩,h5,h6⟩:=h
 exact⟨⟨h1,h2⟩,⟨by omega,h4⟩,⟨by omega,h6⟩⟩
theorem mP {x:Mt} (h:kL x=true):(x.1.length≤4∧∀t∈x.1,iY t=true)∧(x.2.1.length≤8∧∀t∈x.2.1,iY t=true)∧iY x.2.2.1=true∧(x.2.2.2.1.length≤64∧∀i∈x.2.2.2.1,fB i=true)∧
  (0≤x.2.2.2.2.1∧x.2.2.2.2.1≤8)∧(0≤x.2.2.2.2.2.1∧x.2.2.2.2.2.1≤4096)∧(x.2.2.2.2.2.2.1.length≤64∧∀n∈x.2.2.2.2.2.2.1,0≤n∧n≤4096):=by
 simp only[kL,gP,iZ,fA,aC,aQ,bI] at h
 obtain⟨⟨h1,h2⟩,⟨h3,h4⟩,h5,h6,h7,h8,h9,h10,h11⟩:=h
 exact⟨⟨by omega,h2⟩,⟨by omega,h4⟩,h5,⟨by omega,h7⟩,h8,h9,⟨by omega,h11⟩⟩
theorem aDJ {m:Im} {c:Int} (h0:0≤c) (h1:c<(m.1.length:Int)):bP m c∈m.1:=by
 have h:c.toNat<m.1.length:=by omega
 unfold bP
 rw[getD_some (aV h)]
 exact eH h
theorem rT {m:Im} {f:Int} (h0:0≤f) (h1:f<(m.2.2.2.1.length:Int)):aD m f∈m.2.2.2.1:=by
 have h:f.toNat<m.2.2.2.1.length:=by omega
 unfold aD
 rw[getD_some (aV h)]
 exact eH h
theorem aMN {m:Im} {c:Int} (h:rL m c=true):Fit m∧0≤c∧c<(m.1.length:Int)∧∀k:Nat,(k:Int)<c→hU m (k:Int)=true:=by
 simp only[rL,aC,aQ] at h
 obtain⟨h1,h2,h3,h4⟩:=h
 exact⟨dG h1,h2,h3,fun k hk=>xF.1 h4 k (by omega)⟩
theorem sR {m:Im} (h:jX m=true) {c:Int} (h0:0≤c) (h1:c<(m.1.length:Int)):hU m c=true:=by
 have:=xF.1 h c.toNat (by omega)
 rwa [show ((c.toNat:Nat):Int)=c by omega] at this
theorem qW {m:Im} {c:Int} (h:hU m c=true) {k:Nat} {f:Int} (hk:(bP m c).2.2.1[k]? =some f):(0≤f∧f<(m.2.2.2.1.length:Int))∧0<(aD m f).1.length:=by
 simp only[hU,aC,aQ] at h
 obtain⟨_,_,_,_,h5⟩:=h
 have:=(aBB _ 0).1 h5 k f hk
 simp only[nR,sin,vG,aC,aQ] at this
 exact⟨this.1,this.2.1.1⟩
theorem aMw (m:Im) (l:List Tp) (h:aMx m l):∃k,aFH k m l=some (mM m l,()):=by
 refine⟨l.length+1,?_⟩
 unfold aFH mM eS
 have key:aE (aAi m l) (l.length+1) ((0:Int),())=bif (l.all fun t=>fM t (m.1.length:Int)) then some (true,()) else some (false,()):=by
  refine lN (st:=fun k=>((k:Int),())) (p:=fun t=>fM t (m.1.length:Int)) (fun k x rec hk hlt=>?_) (fun rec=>?_) _ (by omega)
  ·rw[aAi]
   simp only[dlt hlt,dge,aH,aA,aU,getD_some hk,bJ hlt h.2.1.1,rE]
   cases fM x (m.1.length:Int) <;> rfl
  ·rw[aAi]
   simp only[bQ,aB]
 rw[key]
 cases l.all fun t=>fM t (m.1.length:Int) <;> rfl
theorem aPC {α:Type} (l:List α) (n:Nat):(l.take l.length).drop n=l.drop n:=by rw[iA]
end Go.Pli

namespace Go.Pli
open Go Go.PM
theorem aK8 {m:Im} {c:Int} {k:Nat} {f:Int} (hf:Fit m) (h0:0≤c) (h1:c<(m.1.length:Int)) (hk:(bP m c).2.2.1[k]? =some f):0≤f∧f≤11:=
 (aBh (hf.cls _ (aDJ h0 h1))).2.2.2 f (jY hk)
theorem aJH {m:Im} {c:Int} (hh:∀k:Nat,(k:Int)<c→hU m (k:Int)=true) (hs:eA m.1 c<c) {k:Nat} (hk:k<(eL m c).length):
  (0≤(eL m c).getD k 0∧(eL m c).getD k 0<(m.2.2.2.1.length:Int))∧0<(aD m ((eL m c).getD k 0)).1.length:=by
 unfold eL at hk⊢
 by_cases h0:0≤eA m.1 c
 ·simp only[h0,aM,aA] at hk⊢
  have hcl:hU m (eA m.1 c)=true:=by
   have:=hh (eA m.1 c).toNat (by omega)
   rwa [show (((eA m.1 c).toNat:Nat):Int)=eA m.1 c by omega] at this
  have hg:=aV hk
  rw[getD_some hg]
  exact qW hcl hg
 ·simp[h0] at hk
end Go.Pli
