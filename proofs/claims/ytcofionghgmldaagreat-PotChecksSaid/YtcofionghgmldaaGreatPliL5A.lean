/- Images: what the functions come to: what fits. -/
import Derived.Test.YtcofionghgmldaaGreatPliSp
import Derived.Test.YtcofionghgmldaaGreatPliInst
namespace Go.Pli
open Go Go.PM
theorem aRa (s:List Cl):aJd s=some (idL s,()):=by simp[aJd,idL]
theorem aQY (s:List Tp):aI4 s=some (idL s,()):=by simp[aI4,idL]
theorem aQ6 (s:List Int):aJb s=some (idL s,()):=by simp[aJb,idL]
theorem aQW (s:List Ins):aI3 s=some (idL s,()):=by simp[aI3,idL]
theorem aQ4 (s:List Int):aI7 s=some (idL s,()):=by simp[aI7,idL]
theorem dgt (a b:Int):decide (a>b)= !decide (a≤b):=by
 by_cases h:a≤b
 ·have:¬a>b:=by omega
  simp[h]
 ·have:a>b:=by omega
  simp[this]
theorem aMW (n a b:Int):aFV n a b=some (hC n a b,()):=by
 unfold aFV hC
 have h1:decide (n≥a)=decide (a≤n):=rfl
 rw[h1]
 cases decide (a≤n) <;> rfl
theorem aMI (t:Tp):aFO t=some (pT t,()):=by
 unfold aFO pT jA hC fF
 cases decide (0≤t.1)&&decide (t.1≤5) <;> cases t.2.1==0 <;> cases t.1==3 <;> rfl
theorem aMT (l:List Int) (c m:Int) (h:aMV l c m):∃k,aFU k l c m=some (oG l c m,()):=by
 refine⟨l.length+1,?_⟩
 have key:aE (aAx l m) (l.length+1) ((0:Int),())=bif l.all (fun n=>fF n m) then some (true,()) else some (false,()):=by
  refine lX (st:=fun k=>((k:Int),())) (p:=fun n=>fF n m) (fun k x rec hk hlt=>?_) (fun rec=>?_) _ (gN _)
  ·unfold aAx
   simp only[dlt hlt,dge,aI,aA,aR,getD_some hk,bH hlt h.1.1]
   unfold hC fF
   cases decide (0≤x)&&decide (x≤m) <;> rfl
  ·unfold aAx
   simp only[bT,aB]
 unfold aFU
 rw[key,dgt]
 unfold oG jB
 cases decide ((l.length:Int)≤c) <;> simp
 cases l.all fun n=>fF n m <;> rfl
theorem aMF (l:List Tp) (c:Int) (h:aMH l c):∃k,aFM k l c=some (lQ l c,()):=by
 refine⟨l.length+1,?_⟩
 have key:aE (aAv l) (l.length+1) ((0:Int),())=bif l.all jA then some (true,()) else some (false,()):=by
  refine lX (st:=fun k=>((k:Int),())) (p:=jA) (fun k x rec hk hlt=>?_) (fun rec=>?_) _ (gN _)
  ·unfold aAv
   simp only[dlt hlt,dge,aI,aA,aR,getD_some hk,bH hlt h.1.1]
   unfold pT
   cases jA x <;> rfl
  ·unfold aAv
   simp only[bT,aB]
 unfold aFM
 rw[key,dgt]
 unfold lQ gU
 cases decide ((l.length:Int)≤c) <;> simp
 cases l.all jA <;> rfl
theorem aMZ (m:Im) (_:aM1 m):∃k,aFX k m=some (rU m,()):=by
 refine⟨100,?_⟩
 unfold aFX
 rw[dgt,dgt,dgt]
 by_cases h1:(m.1.length:Int)≤8
 ·by_cases h3:(m.2.2.2.1.length:Int)≤12
  ·have key2:aE (aAA m 100) 100 ((0:Int),())=bif m.2.2.2.1.all kU then some (true,()) else some (false,()):=by
    refine lX (st:=fun k=>((k:Int),())) (p:=kU) (fun k x rec hk hlt=>?_) (fun rec=>?_) _ (by omega)
    ·unfold aAA
     simp only[dlt hlt,dge,aI,aA,aR,getD_some hk]
     rw[dgt]
     by_cases hc:(x.2.2.2.1.length:Int)≤64
     ·have inner:aE (aAB m ((k:Int),()) rec) 100 ((0:Int),())=bif x.2.2.2.1.all eX then rec (((k+1:Nat):Int),()) else some (false,()):=by
       refine lX (st:=fun k=>((k:Int),())) (p:=eX) (fun j i rec2 hj hlj=>?_) (fun rec2=>?_) _ (by omega)
       ·unfold aAB
        simp only[aR,getD_some hk,dlt hlj,dge,aI,aA,getD_some hj,bH hlj (show x.2.2.2.1.length≤lenMax by simp only[lenMax];omega)]
        unfold xO
        cases eX i <;> rfl
       ·unfold aAB
        simp only[aR,getD_some hk,bT,aB,bH hlt (show m.2.2.2.1.length≤lenMax by simp only[lenMax];omega)]
      rw[inner]
      unfold kU lQ pT hC oG fF
      simp only[hc,aM,eD,aY,aB]
      cases gU x.1 4 <;> cases gU x.2.1 8 <;> cases jA x.2.2.1 <;> cases x.2.2.2.1.all eX <;> cases decide (0≤x.2.2.2.2.1)&&decide (x.2.2.2.2.1≤8) <;>
       cases decide (0≤x.2.2.2.2.2.1)&&decide (x.2.2.2.2.2.1≤4096) <;> cases jB x.2.2.2.2.2.2.1 64 4096 <;> rfl
     ·unfold kU lQ pT
      simp only[hc,bJ,kD,cA,aA]
      cases gU x.1 4 <;> cases gU x.2.1 8 <;> cases jA x.2.2.1 <;> rfl
    ·unfold aAA
     simp only[bT,aB]
   have key1:aE (aAz m 100) 100 ((0:Int),())=bif m.1.all oU then (bif m.2.2.2.1.all kU then some (true,()) else some (false,())) else some (false,()):=by
    refine lX (st:=fun k=>((k:Int),())) (p:=oU) (fun k x rec hk hlt=>?_) (fun rec=>?_) _ (by omega)
    ·unfold aAz
     simp only[dlt hlt,dge,aI,aA,aR,getD_some hk,bH hlt (show m.1.length≤lenMax by simp only[lenMax];omega)]
     have h7:decide (x.1≤7)=decide (x.1<8):=by by_cases h:x.1<8 <;> simp[h] <;> omega
     unfold oU hC lQ oG
     rw[h7]
     cases decide (-1≤x.1) <;> cases decide (x.1<8) <;> cases gU x.2.1 8 <;> cases jB x.2.2.1 4 11 <;> rfl
    ·unfold aAz
     simp only[bT,aB]
     exact key2
   rw[key1]
   unfold rU cC lQ oG hC fF
   simp only[h1,h3,aM,aY,aB,eD]
   cases gU m.2.1 8 <;> cases decide ((m.2.2.1.length:Int)≤16) <;> cases m.1.all oU <;> cases m.2.2.2.1.all kU <;> cases jB m.2.2.2.2.1 12 11 <;>
    cases decide (0≤m.2.2.2.2.2.1)&&decide (m.2.2.2.2.2.1≤4096) <;> cases decide (0≤m.2.2.2.2.2.2.1)&&decide (m.2.2.2.2.2.2.1≤4096) <;> rfl
  ·unfold rU cC
   simp only[h1,h3,aM,bJ,aY,cA,aA,aB,kD,zW]
   cases decide ((m.2.2.1.length:Int)≤16) <;> rfl
 ·unfold rU cC
  simp only[h1,bJ,cA,aA,kD]
end Go.Pli

namespace Go.Pli
open Go Go.PM
theorem tS (x y:Tp):((x.1==y.1)&&((x.2.1==y.2.1)&&true))=(x==y):=by
 obtain⟨a,b,u⟩:=x;obtain⟨c,d,v⟩:=y;rfl
theorem aEj {α:Type} [BEq α]:∀(a b:List α),a.length=b.length→(a.zip b).all (fun q=>q.1==q.2)=(a==b)
 | [],[],_=>rfl
 | [],_::_,h=>by simp at h
 | _::_,[],h=>by simp at h
 | x::a,y::b,h=>by
  have ih:=aEj a b (by simpa using h)
  simp only[List.zip_cons_cons,eJ,ih]
  rfl
theorem aOt {α σ R:Type} [BEq α] {L:σ→(σ→Option R)→Option R} {a b:List α} {st:Nat→σ} {ex fin:Option R} (hl:a.length=b.length)
  (h1:∀(k:Nat) (x y:α) (rec),a[k]? =some x→b[k]? =some y→k<a.length→k<b.length→L (st k) rec=bif x==y then rec (st (k+1)) else ex)
  (h2:∀rec,L (st a.length) rec=fin):∀F:Nat,a.length<F→aE L F (st 0)=bif a==b then fin else ex:=by
 intro F hF
 have hz:(a.zip b).length=a.length:=by rw[List.length_zip];omega
 rw[←aEj a b hl]
 refine lX (xs:=a.zip b) (p:=fun q=>q.1==q.2) (fun k q rec hk hlt=>?_) (fun rec=>by rw[hz];exact h2 rec) F (by omega)
 have hka:k<a.length:=by omega
 have hkb:k<b.length:=by omega
 rw[aU hlt] at hk
 injection hk with hk
 subst hk
 rw[List.getElem_zip]
 exact h1 k _ _ rec (aU hka) (aU hkb) hka hkb
theorem aJ0 {α:Type} [BEq α] {a b:List α} (h:a.length≠b.length):(a==b)=false:=by
 induction a generalizing b with
 | nil=>cases b with
  | nil=>simp at h
  | cons=>rfl
 | cons x a ih=>cases b with
  | nil=>rfl
  | cons y b=>
   have:=ih (b:=b) (by simpa using h)
   show (x==y&&a==b)=false
   rw[this];simp
theorem aHp (a b:Nat):((a:Int) !=(b:Int))= !decide (a=b):=by
 by_cases h:a=b
 ·subst h;simp
 ·have:¬((a:Int)=(b:Int)):=by omega
  simp[h,this]
theorem aPW (a b:List Tp) (h:aPX a b):∃k,aIt k a b=some (eqL a b,()):=by
 refine⟨a.length+1,?_⟩
 unfold aIt
 rw[aHp]
 by_cases hl:a.length=b.length
 ·have key:aE (aBq a b) (a.length+1) ((0:Int),())=bif a==b then some (true,()) else some (false,()):=by
   refine aOt (st:=fun k=>((k:Int),())) hl (fun k x y rec hx hy hka hkb=>?_) (fun rec=>?_) _ (gN _)
   ·unfold aBq
    simp only[dlt hka,dlt hkb,dge,aI,aA,aR,getD_some hx,getD_some hy,bH hka h.1.1,tS]
    cases x==y <;> rfl
   ·unfold aBq
    simp only[bT,aB]
  rw[key]
  unfold eqL
  simp only[hl,aM,aY,aB]
  cases a==b <;> rfl
 ·unfold eqL
  rw[aJ0 hl]
  simp[hl]
theorem aLY (a b:List Tp) (h:aL0 a b):∃k,aLZ k a b=some (uB a b,()):=aPW a b h
theorem aMk (t:Tp) (n:Int):aFz t n=some (rR t n,()):=by
 unfold aFz rR fO
 have h:decide (t.2.1≥0)=decide (0≤t.2.1):=rfl
 rw[h]
 by_cases h1:t.1=1
 ·have h3:(t.1==3)=false:=by rw[h1];rfl
  have h1':(t.1==1)=true:=by rw[h1];rfl
  rw[h1',h3]
  cases t.2.1==0 <;> rfl
 ·have h1':(t.1==1)=false:=by simpa using h1
  rw[h1']
  by_cases h2:t.1=2
  ·have h3:(t.1==3)=false:=by rw[h2];rfl
   have h2':(t.1==2)=true:=by rw[h2];rfl
   rw[h2',h3]
   cases t.2.1==0 <;> rfl
  ·have h2':(t.1==2)=false:=by simpa using h2
   rw[h2']
   cases t.1==3 <;> cases decide (0≤t.2.1) <;> rfl
theorem aOJ (t:Tp):aHy t=some (hY t,()):=by
 unfold aHy hY
 cases t.1==2 <;> cases t.1==3 <;> rfl
theorem aMb (t:Tp):aFr t=some (rP t,()):=by
 unfold aFr rP hY
 cases t.1==2 <;> cases t.1==3 <;> rfl
theorem aOF (l:List Cl) (c:Int):aHv l c=some (kup l c,()):=by
 unfold aHv kup eG
 by_cases h1:c<0
 ·simp[h1]
 ·by_cases h2:c≥(l.length:Int)
  ·simp[h1,h2]
  ·have h3:0≤c:=by omega
   have h4:c<(l.length:Int):=by omega
   simp only[h1,h2,h3,h4,aM,bJ,aI,aA,aB,jK]
   cases decide ((l.getD c.toNat zCl).1≥c) <;> rfl
theorem kS {l:List Cl} {c:Int} (h:0≤c):kup l c<c:=by
 unfold kup
 by_cases h1:decide (c<0) || (decide (c≥(l.length:Int)) || decide (eG l c≥c))
 ·simp[h1];omega
 ·simp only[Bool.not_eq_true] at h1
  rw[h1]
  simp only[Bool.or_eq_false_iff,qI] at h1
  simp only[aB]
  omega
theorem zK {l:List Cl} {c:Int} (h:c<0):∀n,qO l n c=[]
 | 0=>rfl
 | n+1=>by simp[qO,h]
theorem aJk {l:List Cl}:∀(n m:Nat) (c:Int),c.toNat<n→c.toNat<m→qO l n c=qO l m c
 | 0,_,_,h,_=>by omega
 | _+1,0,_,_,h=>by omega
 | n+1,m+1,c,h1,h2=>by
  simp only[qO]
  by_cases hc:c<0
  ·simp[hc]
  ·have:=kS (l:=l) (c:=c) (by omega)
   simp only[hc,bJ,aB]
   by_cases hk:kup l c<0
   ·rw[zK hk,zK hk]
   ·rw[aJk n m (kup l c) (by omega) (by omega)]
theorem fA {l:List Cl} {c:Int} (h:c<0):bW l c=[]:=zK h _
theorem gL {l:List Cl} {c:Int} (h:0≤c):bW l c=c::bW l (kup l c):=by
 have h0:¬c<0:=by omega
 have:=kS (l:=l) h
 unfold bW
 rw[qO]
 simp only[h0,bJ,aB]
 by_cases hk:kup l c<0
 ·rw[zK hk,zK hk]
 ·rw[aJk c.toNat ((kup l c).toNat+1) (kup l c) (by omega) (by omega)]
theorem aJG (l:List Cl) (b:Int):∀(n:Nat) (c:Int),c.toNat<n→aE (aA9 l b) (n+1) (c,())=some ((bW l c).contains b,())
 | 0,_,h=>by omega
 | n+1,c,h=>by
  rw[aX,aA9]
  by_cases hc:c<0
  ·have h0:¬c≥0:=by omega
   rw[fA hc]
   simp only[h0,bJ,aB]
   rfl
  ·have h0:c≥0:=by omega
   have hlt:=kS (l:=l) (c:=c) (by omega)
   rw[gL (by omega)]
   simp only[h0,aM,aA,List.contains_cons]
   by_cases hb:c=b
   ·subst hb;simp
   ·have e1:(c==b)=false:=by simpa using hb
    have e2:(b==c)=false:=by simpa using fun h=>hb h.symm
    rw[e1,e2]
    simp only[aB,jK]
    by_cases hk:kup l c<0
    ·rw[fA hk,aX,aA9]
     have:¬kup l c≥0:=by omega
     simp only[this,bJ,aB]
     rfl
    ·exact aJG l b n (kup l c) (by omega)
theorem aOL (l:List Cl) (a b:Int):∃k,aHB k l a b=some (dD l a b,()):=by
 refine⟨a.toNat+1+1,?_⟩
 unfold aHB dD
 rw[aJG l b (a.toNat+1) a (by omega)]
 by_cases h1:b<0
 ·have:¬0≤b:=by omega
  simp[h1,this]
 ·have h1':0≤b:=by omega
  by_cases h2:b≥(l.length:Int)
  ·have:¬b<(l.length:Int):=by omega
   simp[h1,h2,this]
  ·have h2':b<(l.length:Int):=by omega
   by_cases h3:a≥(l.length:Int)
   ·have:¬a<(l.length:Int):=by omega
    simp[h1,h2,h3,this]
   ·have h3':a<(l.length:Int):=by omega
    simp only[h1,h2,h3,h1',h2',h3',aM,bJ,aB,eD]
theorem aOH (l:List Cl) (a b:Tp):aHw l a b=some (cH l a b,()):=by
 unfold aHw cH
 rw[tS]
 cases a.1==4 <;> cases a.1==3 <;> cases b.1==3 <;> cases a==b <;> cases a.1==1 <;> rfl
theorem tB (l:List Cl):∀(n:Nat) (c:Int),c.toNat<n→(bW l c).length≤n
 | 0,_,h=>by omega
 | n+1,c,h=>by
  by_cases hc:c<0
  ·rw[fA hc];simp
  ·rw[gL (by omega),aF]
   have hlt:=kS (l:=l) (c:=c) (by omega)
   by_cases hk:kup l c<0
   ·rw[fA hk];simp
   ·have:=tB l n (kup l c) (by omega)
    omega
theorem hJ {α:Type} {l:List α} (h:okL l=true):l.length<1000000:=by simpa[okL] using h
theorem aJW (l:List Cl) (hl:l.length<1000000):∀(n:Nat) (c:Int) (out:List Int),c.toNat<n→c<(l.length:Int)→out.length+n<3000000→
  aE (uE l) (n+1) (c,out,())=some (out++bW l c,())
 | 0,_,_,h,_,_=>by omega
 | n+1,c,out,h,hcl,ho=>by
  rw[aX,uE]
  by_cases hc:c<0
  ·have h0:¬c≥0:=by omega
   rw[fA hc]
   simp[h0]
  ·have h0:c≥0:=by omega
   have h0':0≤c:=by omega
   have hlt:=kS (l:=l) (c:=c) (by omega)
   have hroom:out.length+[c].length<rowMax:=by simp[rowMax];omega
   rw[gL (by omega)]
   have hk:kup l c=bif decide ((l.getD c.toNat zCl).1≥c) then -1 else (l.getD c.toNat zCl).1:=by
    have e1:¬c≥(l.length:Int):=by omega
    unfold kup eG
    simp only[hc,e1,bJ,jK]
   simp only[h0,hcl,hroom,aM,aI,aA]
   have fin:aE (uE l) (n+1) (kup l c,out++[c],())=some (out++(c::bW l (kup l c)),()):=by
    by_cases hk:kup l c<0
    ·rw[aX]
     unfold uE
     have:¬kup l c≥0:=by omega
     rw[fA hk]
     simp[this]
    ·rw[aJW l hl n (kup l c) (out++[c]) (by omega) (by omega) (by simp;omega)]
     simp
   rw[hk] at fin⊢
   cases hd:decide ((l.getD c.toNat zCl).1≥c)
   ·rw[hd] at fin;simpa using fin
   ·rw[hd] at fin;simpa using fin
theorem aMt (l:List Cl) (c:Int) (r) (h:iU l c=some r):∃k,aFF k l c=some r:=by
 unfold iU at h
 cases hl:okL l <;> simp only[hl,aA,aB] at h
 ·cases h
 injection h with h
 subst h
 have hlt:=hJ hl
 refine⟨c.toNat+1+1,?_⟩
 unfold aFF bV
 by_cases hc:c<(l.length:Int)
 ·rw[aJW l hlt (c.toNat+1) c [] (by omega) hc (by simp;omega)]
  simp[hc]
 ·rw[aX,uE]
  have h0:c≥0:=by omega
  simp[h0,hc]
theorem aL2 (l:List Cl) (a b:Tp) (r) (h:lO l a b=some r):aFg l a b=some r:=by
 unfold lO at h
 cases hl:okL l <;> simp only[hl,aA,aB] at h
 ·cases h
 injection h with h
 subst h
 have hlt:=hJ hl
 unfold aFg uC iU
 rw[tS]
 have hlen:(bV l a.2.1).length<9223372036854775807:=by
  unfold bV
  by_cases hc:a.2.1<(l.length:Int)
  ·have:=tB l (a.2.1.toNat+1) a.2.1 (by omega)
   simp only[hc,aM,aA]
   omega
  ·simp[hc]
 have hrin:rin (bV l a.2.1) b.2.1=some ((bV l a.2.1).contains b.2.1,()):=by
  unfold rin
  rw[aG hlen];rfl
 simp only[hl,aA,aJ,hrin,rP]
 by_cases h1:a.1=1
 ·have e3:(a.1==3)=false:=by rw[h1];rfl
  have e1:(a.1==1)=true:=by rw[h1];rfl
  rw[e1,e3]
  cases a.1==4 <;> cases a==b <;> rfl
 ·have e1:(a.1==1)=false:=by simpa using h1
  rw[e1]
  cases a.1==4 <;> cases a.1==3 <;> cases b.1==3 <;> cases a.1==2 <;> cases a==b <;> rfl
end Go.Pli

namespace Go.Pli
open Go Go.PM
theorem aBQ {α:Type} {p:Nat→α→Bool}:∀(l:List α) (k:Nat),jE p k l=true↔∀(j:Nat) x,l[j]? =some x→p (k+j) x=true
 | [],k=>by simp[jE]
 | x::l,k=>by
  simp only[jE,aC]
  rw[aBQ l (k+1)]
  constructor
  ·intro⟨h1,h2⟩ j y hy
   cases j with
   | zero=>simp at hy;subst hy;simpa using h1
   | succ j=>
    have:=h2 j y (by simpa using hy)
    rwa [bF,cD 1 j] at this
  ·intro h
   refine⟨by simpa using h 0 x rfl,fun j y hy=>?_⟩
   have:=h (j+1) y (by simpa using hy)
   rwa [bF,cD 1 j]
theorem aDc {α σ R:Type} {L:σ→(σ→Option R)→Option R} {xs:List α} {st:Nat→σ} {p:Nat→α→Bool} {ex fin:Option R}
  (h1:∀(k:Nat) (x:α) (rec),xs[k]? =some x→k<xs.length→L (st k) rec=bif p k x then rec (st (k+1)) else ex)
  (h2:∀rec,L (st xs.length) rec=fin):∀F:Nat,xs.length<F→aE L F (st 0)=bif jE p 0 xs then fin else ex:=by
 have key:∀(l pre:List α) (F:Nat),xs=pre++l→l.length<F→aE L F (st pre.length)=bif jE p pre.length l then fin else ex:=by
  intro l
  induction l with
  | nil=>
   intro pre F hx hF
   obtain⟨F,rfl⟩:∃n,F=n+1:=⟨F - 1,by simp at hF;omega⟩
   rw[bY] at hx
   subst hx
   rw[aX,h2]
   rfl
  | cons x l ih=>
   intro pre F hx hF
   obtain⟨F,rfl⟩:∃n,F=n+1:=⟨F - 1,by simp at hF;omega⟩
   have hk:xs[pre.length]? =some x:=by rw[hx];simp
   have hl:pre.length<xs.length:=by rw[hx];simp
   rw[aX,h1 pre.length x _ hk hl]
   have:=ih (pre++[x]) F (by rw[hx];simp) (by simp only[aF] at hF;omega)
   simp only[aW,aF,bP,bK] at this
   rw[this]
   simp only[jE]
   cases p pre.length x <;> rfl
 intro F hF
 exact key xs [] F rfl hF
theorem xR {q:Nat→Bool} {n:Nat}:(List.range n).all q=true↔∀k,k<n→q k=true:=by
 simp[bG]
theorem aA5 {R:Type} {L:Bool×Int×Unit→(Bool×Int×Unit→Option R)→Option R} {N:Nat} {q:Nat→Bool} {fin:Bool→Option R}
  (h1:∀(k:Nat) (rec),k<N→(∀j,j<k→q j=true)→L (true,(k:Int),()) rec=rec (q k,((k+1:Nat):Int),())∨(q k=false∧L (true,(k:Int),()) rec=fin false))
  (h0:∀(k:Nat) rec,k≤N→L (false,(k:Int),()) rec=fin false) (h2:∀rec,L (true,(N:Int),()) rec=fin true):
  ∀(F:Nat) (b:Bool),N+1<F→aE L F (b,((0:Nat):Int),())=fin (b&&(List.range N).all q):=by
 have hf:∀(F k:Nat),0<F→k≤N→aE L F (false,(k:Int),())=fin false:=fun F k hF hk=>by
  obtain⟨F,rfl⟩:∃n,F=n+1:=⟨F - 1,by omega⟩
  rw[aX,h0 k _ hk]
 have key:∀(d k F:Nat),k+d=N→d+1<F→(∀j,j<k→q j=true)→aE L F (true,(k:Int),())=fin ((List.range N).all q):=by
  intro d
  induction d with
  | zero=>
   intro k F hk hF hh
   obtain⟨F,rfl⟩:∃n,F=n+1:=⟨F - 1,by omega⟩
   have:k=N:=by omega
   subst this
   rw[aX,h2,xR.2 hh]
  | succ d ih=>
   intro k F hk hF hh
   obtain⟨F,rfl⟩:∃n,F=n+1:=⟨F - 1,by omega⟩
   rw[aX]
   cases hq:q k with
   | true=>
    rcases h1 k (aE L F) (by omega) hh with h | ⟨h,_⟩
    ·rw[h,hq]
     refine ih (k+1) F (by omega) (by omega) fun j hj=>?_
     rcases eT j k with h | h
     ·exact hh j h
     ·have:j=k:=by omega
      subst this;exact hq
    ·rw[hq] at h;cases h
   | false=>
    have:(List.range N).all q=false:=by
     cases ha:(List.range N).all q with
     | false=>rfl
     | true=>rw[xR.1 ha k (by omega)] at hq;cases hq
    rw[this]
    rcases h1 k (aE L F) (by omega) hh with h | ⟨_,h⟩
    ·rw[h,hq]
     exact hf F (k+1) (by omega) (by omega)
    ·exact h
 intro F b hF
 cases b with
 | true=>simpa using key N 0 F (by omega) hF fun j hj=>by omega
 | false=>simpa using hf F 0 (by omega) (by omega)
structure Fit (m:Im):Prop where
 classes:m.1.length≤8
 statics:gU m.2.1 8=true
 ints:m.2.2.1.length≤16
 methods:m.2.2.2.1.length≤12
 cls:∀c∈m.1,oU c=true
 mts:∀x∈m.2.2.2.1,kU x=true
 entries:jB m.2.2.2.2.1 12 11=true
 stack:fF m.2.2.2.2.2.1 4096=true
 heap:fF m.2.2.2.2.2.2.1 4096=true
theorem dA {m:Im} (h:cC m=true):Fit m:=by
 simp only[cC,aC,aO,bG] at h
 obtain⟨h1,h2,h3,h4,h5,h6,h7,h8,h9⟩:=h
 exact⟨by omega,h2,by omega,by omega,h5,h6,h7,h8,h9⟩
theorem zI {c:Cl} (h:oU c=true):(-1≤c.1∧c.1<8)∧(c.2.1.length≤8∧∀t∈c.2.1,jA t=true)∧(c.2.2.1.length≤4∧∀n∈c.2.2.1,0≤n∧n≤11):=by
 simp only[oU,gU,jB,fF,aC,aO,bG] at h
 obtain⟨h1,h2,⟨h3,h4⟩,h5,h6⟩:=h
 exact⟨⟨h1,h2⟩,⟨by omega,h4⟩,⟨by omega,h6⟩⟩
theorem kO {x:Mt} (h:kU x=true):(x.1.length≤4∧∀t∈x.1,jA t=true)∧(x.2.1.length≤8∧∀t∈x.2.1,jA t=true)∧jA x.2.2.1=true∧(x.2.2.2.1.length≤64∧∀i∈x.2.2.2.1,eX i=true)∧
  (0≤x.2.2.2.2.1∧x.2.2.2.2.1≤8)∧(0≤x.2.2.2.2.2.1∧x.2.2.2.2.2.1≤4096)∧(x.2.2.2.2.2.2.1.length≤64∧∀n∈x.2.2.2.2.2.2.1,0≤n∧n≤4096):=by
 simp only[kU,gU,jB,fF,aC,aO,bG] at h
 obtain⟨⟨h1,h2⟩,⟨h3,h4⟩,h5,h6,h7,h8,h9,h10,h11⟩:=h
 exact⟨⟨by omega,h2⟩,⟨by omega,h4⟩,h5,⟨by omega,h7⟩,h8,h9,⟨by omega,h11⟩⟩
theorem aBB {m:Im} {c:Int} (h0:0≤c) (h1:c<(m.1.length:Int)):bN m c∈m.1:=by
 have h:c.toNat<m.1.length:=by omega
 unfold bN
 rw[getD_some (aU h)]
 exact eC h
theorem oL {m:Im} {f:Int} (h0:0≤f) (h1:f<(m.2.2.2.1.length:Int)):aD m f∈m.2.2.2.1:=by
 have h:f.toNat<m.2.2.2.1.length:=by omega
 unfold aD
 rw[getD_some (aU h)]
 exact eC h
theorem aNg {m:Im} {c:Int} (h:rY m c=true):Fit m∧0≤c∧c<(m.1.length:Int)∧∀k:Nat,(k:Int)<c→iA m (k:Int)=true:=by
 simp only[rY,aC,aO] at h
 obtain⟨h1,h2,h3,h4⟩:=h
 exact⟨dA h1,h2,h3,fun k hk=>xR.1 h4 k (by omega)⟩
theorem tF {m:Im} (h:kB m=true) {c:Int} (h0:0≤c) (h1:c<(m.1.length:Int)):iA m c=true:=by
 have:=xR.1 h c.toNat (by omega)
 rwa [show ((c.toNat:Nat):Int)=c by omega] at this
theorem rK {m:Im} {c:Int} (h:iA m c=true) {k:Nat} {f:Int} (hk:(bN m c).2.2.1[k]? =some f):(0≤f∧f<(m.2.2.2.1.length:Int))∧0<(aD m f).1.length:=by
 simp only[iA,aC,aO] at h
 obtain⟨_,_,_,_,h5⟩:=h
 have:=(aBQ _ 0).1 h5 k f hk
 simp only[oA,sin,vU,aC,aO] at this
 exact⟨this.1,this.2.1.1⟩
theorem aMX (m:Im) (l:List Tp) (h:aMY m l):∃k,aFW k m l=some (mX m l,()):=by
 refine⟨l.length+1,?_⟩
 unfold aFW mX eY
 have key:aE (aAy m l) (l.length+1) ((0:Int),())=bif (l.all fun t=>fO t (m.1.length:Int)) then some (true,()) else some (false,()):=by
  refine lX (st:=fun k=>((k:Int),())) (p:=fun t=>fO t (m.1.length:Int)) (fun k x rec hk hlt=>?_) (fun rec=>?_) _ (by omega)
  ·rw[aAy]
   simp only[dlt hlt,dge,aI,aA,aR,getD_some hk,bH hlt h.2.1.1,rR]
   cases fO x (m.1.length:Int) <;> rfl
  ·rw[aAy]
   simp only[bT,aB]
 rw[key]
 cases l.all fun t=>fO t (m.1.length:Int) <;> rfl
theorem aP8 {α:Type} (l:List α) (n:Nat):(l.take l.length).drop n=l.drop n:=by rw[iD]
end Go.Pli

namespace Go.Pli
open Go Go.PM
theorem aLy {m:Im} {c:Int} {k:Nat} {f:Int} (hf:Fit m) (h0:0≤c) (h1:c<(m.1.length:Int)) (hk:(bN m c).2.2.1[k]? =some f):0≤f∧f≤11:=
 (zI (hf.cls _ (aBB h0 h1))).2.2.2 f (jF hk)
theorem aJ6 {m:Im} {c:Int} (hh:∀k:Nat,(k:Int)<c→iA m (k:Int)=true) (hs:eG m.1 c<c) {k:Nat} (hk:k<(eQ m c).length):
  (0≤(eQ m c).getD k 0∧(eQ m c).getD k 0<(m.2.2.2.1.length:Int))∧0<(aD m ((eQ m c).getD k 0)).1.length:=by
 unfold eQ at hk⊢
 by_cases h0:0≤eG m.1 c
 ·simp only[h0,aM,aA] at hk⊢
  have hcl:iA m (eG m.1 c)=true:=by
   have:=hh (eG m.1 c).toNat (by omega)
   rwa [show (((eG m.1 c).toNat:Nat):Int)=eG m.1 c by omega] at this
  have hg:=aU hk
  rw[getD_some hg]
  exact rK hcl hg
 ·simp[h0] at hk
end Go.Pli
