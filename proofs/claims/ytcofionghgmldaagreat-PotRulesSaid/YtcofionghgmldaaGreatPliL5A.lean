/- Images: what the functions come to: what fits. -/
import Derived.Test.YtcofionghgmldaaGreatPliSp
import Derived.Test.YtcofionghgmldaaGreatPliInst
namespace Go.Pli
open Go Go.PM
theorem aQ4 (s:List Cl):aI7 s=some (idL s,()):=by simp[aI7,idL]
theorem aQS (s:List Tp):aIY s=some (idL s,()):=by simp[aIY,idL]
theorem aQ0 (s:List Int):aI5 s=some (idL s,()):=by simp[aI5,idL]
theorem aQQ (s:List Ins):aIX s=some (idL s,()):=by simp[aIX,idL]
theorem aQY (s:List Int):aI1 s=some (idL s,()):=by simp[aI1,idL]
theorem dgt (a b:Int):decide (a>b)= !decide (a≤b):=by
 by_cases h:a≤b
 ·have:¬a>b:=by omega
  simp[h]
 ·have:a>b:=by omega
  simp[this]
theorem aMT (n a b:Int):aFV n a b=some (hJ n a b,()):=by
 unfold aFV hJ
 have h1:decide (n≥a)=decide (a≤n):=rfl
 rw[h1]
 cases decide (a≤n) <;> rfl
theorem aMF (t:Tp):aFO t=some (pQ t,()):=by
 unfold aFO pQ jA hJ fE
 cases decide (0≤t.1)&&decide (t.1≤5) <;> cases t.2.1==0 <;> cases t.1==3 <;> rfl
theorem aMQ (l:List Int) (c m:Int) (h:aMS l c m):∃k,aFU k l c m=some (oA l c m,()):=by
 refine⟨l.length+1,?_⟩
 have key:aE (aAp l m) (l.length+1) ((0:Int),())=bif l.all (fun n=>fE n m) then some (true,()) else some (false,()):=by
  refine lO (st:=fun k=>((k:Int),())) (p:=fun n=>fE n m) (fun k x rec hk hlt=>?_) (fun rec=>?_) _ (gO _)
  ·unfold aAp
   simp only[dlt hlt,dge,aI,aA,aT,getD_some hk,bG hlt h.1.1]
   unfold hJ fE
   cases decide (0≤x)&&decide (x≤m) <;> rfl
  ·unfold aAp
   simp only[bO,aB]
 unfold aFU
 rw[key,dgt]
 unfold oA jB
 cases decide ((l.length:Int)≤c) <;> simp
 cases l.all fun n=>fE n m <;> rfl
theorem aMC (l:List Tp) (c:Int) (h:aME l c):∃k,aFM k l c=some (lI l c,()):=by
 refine⟨l.length+1,?_⟩
 have key:aE (aAn l) (l.length+1) ((0:Int),())=bif l.all jA then some (true,()) else some (false,()):=by
  refine lO (st:=fun k=>((k:Int),())) (p:=jA) (fun k x rec hk hlt=>?_) (fun rec=>?_) _ (gO _)
  ·unfold aAn
   simp only[dlt hlt,dge,aI,aA,aT,getD_some hk,bG hlt h.1.1]
   unfold pQ
   cases jA x <;> rfl
  ·unfold aAn
   simp only[bO,aB]
 unfold aFM
 rw[key,dgt]
 unfold lI gV
 cases decide ((l.length:Int)≤c) <;> simp
 cases l.all jA <;> rfl
theorem aMW (m:Im) (_:aMY m):∃k,aFX k m=some (rN m,()):=by
 refine⟨100,?_⟩
 unfold aFX
 rw[dgt,dgt,dgt]
 by_cases h1:(m.1.length:Int)≤8
 ·by_cases h3:(m.2.2.2.1.length:Int)≤12
  ·have key2:aE (aAs m 100) 100 ((0:Int),())=bif m.2.2.2.1.all kP then some (true,()) else some (false,()):=by
    refine lO (st:=fun k=>((k:Int),())) (p:=kP) (fun k x rec hk hlt=>?_) (fun rec=>?_) _ (by omega)
    ·unfold aAs
     simp only[dlt hlt,dge,aI,aA,aT,getD_some hk]
     rw[dgt]
     by_cases hc:(x.2.2.2.1.length:Int)≤64
     ·have inner:aE (aAt m ((k:Int),()) rec) 100 ((0:Int),())=bif x.2.2.2.1.all fF then rec (((k+1:Nat):Int),()) else some (false,()):=by
       refine lO (st:=fun k=>((k:Int),())) (p:=fF) (fun j i rec2 hj hlj=>?_) (fun rec2=>?_) _ (by omega)
       ·unfold aAt
        simp only[aT,getD_some hk,dlt hlj,dge,aI,aA,getD_some hj,bG hlj (show x.2.2.2.1.length≤lenMax by simp only[lenMax];omega)]
        unfold xJ
        cases fF i <;> rfl
       ·unfold aAt
        simp only[aT,getD_some hk,bO,aB,bG hlt (show m.2.2.2.1.length≤lenMax by simp only[lenMax];omega)]
      rw[inner]
      unfold kP lI pQ hJ oA fE
      simp only[hc,aK,eG,aZ,aB]
      cases gV x.1 4 <;> cases gV x.2.1 8 <;> cases jA x.2.2.1 <;> cases x.2.2.2.1.all fF <;> cases decide (0≤x.2.2.2.2.1)&&decide (x.2.2.2.2.1≤8) <;>
       cases decide (0≤x.2.2.2.2.2.1)&&decide (x.2.2.2.2.2.1≤4096) <;> cases jB x.2.2.2.2.2.2.1 64 4096 <;> rfl
     ·unfold kP lI pQ
      simp only[hc,bE,lD,bY,aA]
      cases gV x.1 4 <;> cases gV x.2.1 8 <;> cases jA x.2.2.1 <;> rfl
    ·unfold aAs
     simp only[bO,aB]
   have key1:aE (aAr m 100) 100 ((0:Int),())=bif m.1.all oN then (bif m.2.2.2.1.all kP then some (true,()) else some (false,())) else some (false,()):=by
    refine lO (st:=fun k=>((k:Int),())) (p:=oN) (fun k x rec hk hlt=>?_) (fun rec=>?_) _ (by omega)
    ·unfold aAr
     simp only[dlt hlt,dge,aI,aA,aT,getD_some hk,bG hlt (show m.1.length≤lenMax by simp only[lenMax];omega)]
     have h7:decide (x.1≤7)=decide (x.1<8):=by by_cases h:x.1<8 <;> simp[h] <;> omega
     unfold oN hJ lI oA
     rw[h7]
     cases decide (-1≤x.1) <;> cases decide (x.1<8) <;> cases gV x.2.1 8 <;> cases jB x.2.2.1 4 11 <;> rfl
    ·unfold aAr
     simp only[bO,aB]
     exact key2
   rw[key1]
   unfold rN cB lI oA hJ fE
   simp only[h1,h3,aK,aZ,aB,eG]
   cases gV m.2.1 8 <;> cases decide ((m.2.2.1.length:Int)≤16) <;> cases m.1.all oN <;> cases m.2.2.2.1.all kP <;> cases jB m.2.2.2.2.1 12 11 <;>
    cases decide (0≤m.2.2.2.2.2.1)&&decide (m.2.2.2.2.2.1≤4096) <;> cases decide (0≤m.2.2.2.2.2.2.1)&&decide (m.2.2.2.2.2.2.1≤4096) <;> rfl
  ·unfold rN cB
   simp only[h1,h3,aK,bE,aZ,bY,aA,aB,lD,zO]
   cases decide ((m.2.2.1.length:Int)≤16) <;> rfl
 ·unfold rN cB
  simp only[h1,bE,bY,aA,lD]
end Go.Pli

namespace Go.Pli
open Go Go.PM
theorem tF (x y:Tp):((x.1==y.1)&&((x.2.1==y.2.1)&&true))=(x==y):=by
 obtain⟨a,b,u⟩:=x;obtain⟨c,d,v⟩:=y;rfl
theorem aEj {α:Type} [BEq α]:∀(a b:List α),a.length=b.length→(a.zip b).all (fun q=>q.1==q.2)=(a==b)
 | [],[],_=>rfl
 | [],_::_,h=>by simp at h
 | _::_,[],h=>by simp at h
 | x::a,y::b,h=>by
  have ih:=aEj a b (by simpa using h)
  simp only[List.zip_cons_cons,eY,ih]
  rfl
theorem aG8 {α σ R:Type} [BEq α] {L:σ→(σ→Option R)→Option R} {a b:List α} {st:Nat→σ} {ex fin:Option R} (hl:a.length=b.length)
  (h1:∀(k:Nat) (x y:α) (rec),a[k]? =some x→b[k]? =some y→k<a.length→k<b.length→L (st k) rec=bif x==y then rec (st (k+1)) else ex)
  (h2:∀rec,L (st a.length) rec=fin):∀F:Nat,a.length<F→aE L F (st 0)=bif a==b then fin else ex:=by
 intro F hF
 have hz:(a.zip b).length=a.length:=by rw[List.length_zip];omega
 rw[←aEj a b hl]
 refine lO (xs:=a.zip b) (p:=fun q=>q.1==q.2) (fun k q rec hk hlt=>?_) (fun rec=>by rw[hz];exact h2 rec) F (by omega)
 have hka:k<a.length:=by omega
 have hkb:k<b.length:=by omega
 rw[aW hlt] at hk
 injection hk with hk
 subst hk
 rw[List.getElem_zip]
 exact h1 k _ _ rec (aW hka) (aW hkb) hka hkb
theorem aEi {α:Type} [BEq α] {a b:List α} (h:a.length≠b.length):(a==b)=false:=by
 induction a generalizing b with
 | nil=>cases b with
  | nil=>simp at h
  | cons=>rfl
 | cons x a ih=>cases b with
  | nil=>rfl
  | cons y b=>
   have:=ih (b:=b) (by simpa using h)
   show (x==y&&a==b)=false
   rw[this];simp
theorem aDg (a b:Nat):((a:Int) !=(b:Int))= !decide (a=b):=by
 by_cases h:a=b
 ·subst h;simp
 ·have:¬((a:Int)=(b:Int)):=by omega
  simp[h,this]
theorem aPP (a b:List Tp) (h:aPQ a b):∃k,aIn k a b=some (eqL a b,()):=by
 refine⟨a.length+1,?_⟩
 unfold aIn
 rw[aDg]
 by_cases hl:a.length=b.length
 ·have key:aE (aBg a b) (a.length+1) ((0:Int),())=bif a==b then some (true,()) else some (false,()):=by
   refine aG8 (st:=fun k=>((k:Int),())) hl (fun k x y rec hx hy hka hkb=>?_) (fun rec=>?_) _ (gO _)
   ·unfold aBg
    simp only[dlt hka,dlt hkb,dge,aI,aA,aT,getD_some hx,getD_some hy,bG hka h.1.1,tF]
    cases x==y <;> rfl
   ·unfold aBg
    simp only[bO,aB]
  rw[key]
  unfold eqL
  simp only[hl,aK,aZ,aB]
  cases a==b <;> rfl
 ·unfold eqL
  rw[aEi hl]
  simp[hl]
theorem aRl {α:Type} [BEq α] (x y:α):(x !=y)= !(x==y):=rfl
theorem aPS (a b:List Int) (h:aPT a b):∃k,aIo k a b=some (eqL a b,()):=by
 refine⟨a.length+1,?_⟩
 unfold aIo
 rw[aDg]
 by_cases hl:a.length=b.length
 ·have key:aE (aBh a b) (a.length+1) ((0:Int),())=bif a==b then some (true,()) else some (false,()):=by
   refine aG8 (st:=fun k=>((k:Int),())) hl (fun k x y rec hx hy hka hkb=>?_) (fun rec=>?_) _ (gO _)
   ·unfold aBh
    simp only[dlt hka,dlt hkb,dge,aI,aA,aT,getD_some hx,getD_some hy,bG hka h.1.1,aRl]
    cases x==y <;> rfl
   ·unfold aBh
    simp only[bO,aB]
  rw[key]
  unfold eqL
  simp only[hl,aK,aZ,aB]
  cases a==b <;> rfl
 ·unfold eqL
  rw[aEi hl]
  simp[hl]
theorem aLP (a b:List Tp) (h:aLR a b):∃k,aLQ k a b=some (tP a b,()):=aPP a b h
theorem aL5 (a b:List Int) (h:aL8 a b):∃k,aL7 k a b=some (tT a b,()):=aPS a b h
theorem aMh (t:Tp) (n:Int):aFz t n=some (rK t n,()):=by
 unfold aFz rK fO
 have h:decide (t.2.1≥0)=decide (0≤t.2.1):=rfl
 rw[h]
 by_cases h1:t.1=1
 ·have h3:(t.1==3)=false:=by rw[h1];rfl
  have h1':(t.1==1)=true:=by rw[h1];rfl
  rw[h1',h3]
  cases t.2.1==0 <;> rfl
 ·have h1':(t.1==1)=false:=by simpa using h1
  rw[h1']
  by_cases h2:t.1=2
  ·have h3:(t.1==3)=false:=by rw[h2];rfl
   have h2':(t.1==2)=true:=by rw[h2];rfl
   rw[h2',h3]
   cases t.2.1==0 <;> rfl
  ·have h2':(t.1==2)=false:=by simpa using h2
   rw[h2']
   cases t.1==3 <;> cases decide (0≤t.2.1) <;> rfl
theorem aOC (t:Tp):aHu t=some (hZ t,()):=by
 unfold aHu hZ
 cases t.1==2 <;> cases t.1==3 <;> rfl
theorem aL2 (t:Tp):aFr t=some (rI t,()):=by
 unfold aFr rI hZ
 cases t.1==2 <;> cases t.1==3 <;> rfl
theorem aOy (l:List Cl) (c:Int):aHr l c=some (kup l c,()):=by
 unfold aHr kup eB
 by_cases h1:c<0
 ·simp[h1]
 ·by_cases h2:c≥(l.length:Int)
  ·simp[h1,h2]
  ·have h3:0≤c:=by omega
   have h4:c<(l.length:Int):=by omega
   simp only[h1,h2,h3,h4,aK,bE,aI,aA,aB,lC]
   cases decide ((l.getD c.toNat zCl).1≥c) <;> rfl
theorem kN {l:List Cl} {c:Int} (h:0≤c):kup l c<c:=by
 unfold kup
 by_cases h1:decide (c<0) || (decide (c≥(l.length:Int)) || decide (eB l c≥c))
 ·simp[h1];omega
 ·simp only[Bool.not_eq_true] at h1
  rw[h1]
  simp only[Bool.or_eq_false_iff,qG] at h1
  simp only[aB]
  omega
theorem zC {l:List Cl} {c:Int} (h:c<0):∀n,qM l n c=[]
 | 0=>rfl
 | n+1=>by simp[qM,h]
theorem aJe {l:List Cl}:∀(n m:Nat) (c:Int),c.toNat<n→c.toNat<m→qM l n c=qM l m c
 | 0,_,_,h,_=>by omega
 | _+1,0,_,_,h=>by omega
 | n+1,m+1,c,h1,h2=>by
  simp only[qM]
  by_cases hc:c<0
  ·simp[hc]
  ·have:=kN (l:=l) (c:=c) (by omega)
   simp only[hc,bE,aB]
   by_cases hk:kup l c<0
   ·rw[zC hk,zC hk]
   ·rw[aJe n m (kup l c) (by omega) (by omega)]
theorem eX {l:List Cl} {c:Int} (h:c<0):bU l c=[]:=zC h _
theorem gM {l:List Cl} {c:Int} (h:0≤c):bU l c=c::bU l (kup l c):=by
 have h0:¬c<0:=by omega
 have:=kN (l:=l) h
 unfold bU
 rw[qM]
 simp only[h0,bE,aB]
 by_cases hk:kup l c<0
 ·rw[zC hk,zC hk]
 ·rw[aJe c.toNat ((kup l c).toNat+1) (kup l c) (by omega) (by omega)]
theorem aJA (l:List Cl) (b:Int):∀(n:Nat) (c:Int),c.toNat<n→aE (aAZ l b) (n+1) (c,())=some ((bU l c).contains b,())
 | 0,_,h=>by omega
 | n+1,c,h=>by
  rw[aY,aAZ]
  by_cases hc:c<0
  ·have h0:¬c≥0:=by omega
   rw[eX hc]
   simp only[h0,bE,aB]
   rfl
  ·have h0:c≥0:=by omega
   have hlt:=kN (l:=l) (c:=c) (by omega)
   rw[gM (by omega)]
   simp only[h0,aK,aA,List.contains_cons]
   by_cases hb:c=b
   ·subst hb;simp
   ·have e1:(c==b)=false:=by simpa using hb
    have e2:(b==c)=false:=by simpa using fun h=>hb h.symm
    rw[e1,e2]
    simp only[aB,lC]
    by_cases hk:kup l c<0
    ·rw[eX hk,aY,aAZ]
     have:¬kup l c≥0:=by omega
     simp only[this,bE,aB]
     rfl
    ·exact aJA l b n (kup l c) (by omega)
theorem aOE (l:List Cl) (a b:Int):∃k,aHx k l a b=some (dD l a b,()):=by
 refine⟨a.toNat+1+1,?_⟩
 unfold aHx dD
 rw[aJA l b (a.toNat+1) a (by omega)]
 by_cases h1:b<0
 ·have:¬0≤b:=by omega
  simp[h1,this]
 ·have h1':0≤b:=by omega
  by_cases h2:b≥(l.length:Int)
  ·have:¬b<(l.length:Int):=by omega
   simp[h1,h2,this]
  ·have h2':b<(l.length:Int):=by omega
   by_cases h3:a≥(l.length:Int)
   ·have:¬a<(l.length:Int):=by omega
    simp[h1,h2,h3,this]
   ·have h3':a<(l.length:Int):=by omega
    simp only[h1,h2,h3,h1',h2',h3',aK,bE,aB,eG]
theorem aOA (l:List Cl) (a b:Tp):aHs l a b=some (cG l a b,()):=by
 unfold aHs cG
 rw[tF]
 cases a.1==4 <;> cases a.1==3 <;> cases b.1==3 <;> cases a==b <;> cases a.1==1 <;> rfl
theorem sR (l:List Cl):∀(n:Nat) (c:Int),c.toNat<n→(bU l c).length≤n
 | 0,_,h=>by omega
 | n+1,c,h=>by
  by_cases hc:c<0
  ·rw[eX hc];simp
  ·rw[gM (by omega),aF]
   have hlt:=kN (l:=l) (c:=c) (by omega)
   by_cases hk:kup l c<0
   ·rw[eX hk];simp
   ·have:=sR l n (kup l c) (by omega)
    omega
theorem hU {α:Type} {l:List α} (h:okL l=true):l.length<1000000:=by simpa[okL] using h
theorem aJN (l:List Cl) (hl:l.length<1000000):∀(n:Nat) (c:Int) (out:List Int),c.toNat<n→c<(l.length:Int)→out.length+n<3000000→
  aE (tU l) (n+1) (c,out,())=some (out++bU l c,())
 | 0,_,_,h,_,_=>by omega
 | n+1,c,out,h,hcl,ho=>by
  rw[aY,tU]
  by_cases hc:c<0
  ·have h0:¬c≥0:=by omega
   rw[eX hc]
   simp[h0]
  ·have h0:c≥0:=by omega
   have h0':0≤c:=by omega
   have hlt:=kN (l:=l) (c:=c) (by omega)
   have hroom:out.length+[c].length<rowMax:=by simp[rowMax];omega
   rw[gM (by omega)]
   have hk:kup l c=bif decide ((l.getD c.toNat zCl).1≥c) then -1 else (l.getD c.toNat zCl).1:=by
    have e1:¬c≥(l.length:Int):=by omega
    unfold kup eB
    simp only[hc,e1,bE,lC]
   simp only[h0,hcl,hroom,aK,aI,aA]
   have fin:aE (tU l) (n+1) (kup l c,out++[c],())=some (out++(c::bU l (kup l c)),()):=by
    by_cases hk:kup l c<0
    ·rw[aY]
     unfold tU
     have:¬kup l c≥0:=by omega
     rw[eX hk]
     simp[this]
    ·rw[aJN l hl n (kup l c) (out++[c]) (by omega) (by omega) (by simp;omega)]
     simp
   rw[hk] at fin⊢
   cases hd:decide ((l.getD c.toNat zCl).1≥c)
   ·rw[hd] at fin;simpa using fin
   ·rw[hd] at fin;simpa using fin
theorem aMq (l:List Cl) (c:Int) (r) (h:iT l c=some r):∃k,aFF k l c=some r:=by
 unfold iT at h
 cases hl:okL l <;> simp only[hl,aA,aB] at h
 ·cases h
 injection h with h
 subst h
 have hlt:=hU hl
 refine⟨c.toNat+1+1,?_⟩
 unfold aFF cF
 by_cases hc:c<(l.length:Int)
 ·rw[aJN l hlt (c.toNat+1) c [] (by omega) hc (by simp;omega)]
  simp[hc]
 ·rw[aY,tU]
  have h0:c≥0:=by omega
  simp[h0,hc]
theorem aLT (l:List Cl) (a b:Tp) (r) (h:lH l a b=some r):aFg l a b=some r:=by
 unfold lH at h
 cases hl:okL l <;> simp only[hl,aA,aB] at h
 ·cases h
 injection h with h
 subst h
 have hlt:=hU hl
 unfold aFg tQ iT
 rw[tF]
 have hlen:(cF l a.2.1).length<9223372036854775807:=by
  unfold cF
  by_cases hc:a.2.1<(l.length:Int)
  ·have:=sR l (a.2.1.toNat+1) a.2.1 (by omega)
   simp only[hc,aK,aA]
   omega
  ·simp[hc]
 have hrin:rin (cF l a.2.1) b.2.1=some ((cF l a.2.1).contains b.2.1,()):=by
  unfold rin
  rw[aG hlen];rfl
 simp only[hl,aA,aJ,hrin,rI]
 by_cases h1:a.1=1
 ·have e3:(a.1==3)=false:=by rw[h1];rfl
  have e1:(a.1==1)=true:=by rw[h1];rfl
  rw[e1,e3]
  cases a.1==4 <;> cases a==b <;> rfl
 ·have e1:(a.1==1)=false:=by simpa using h1
  rw[e1]
  cases a.1==4 <;> cases a.1==3 <;> cases b.1==3 <;> cases a.1==2 <;> cases a==b <;> rfl
end Go.Pli

namespace Go.Pli
open Go Go.PM
theorem aBI {α:Type} {p:Nat→α→Bool}:∀(l:List α) (k:Nat),jE p k l=true↔∀(j:Nat) x,l[j]? =some x→p (k+j) x=true
 | [],k=>by simp[jE]
 | x::l,k=>by
  simp only[jE,aC]
  rw[aBI l (k+1)]
  constructor
  ·intro⟨h1,h2⟩ j y hy
   cases j with
   | zero=>simp at hy;subst hy;simpa using h1
   | succ j=>
    have:=h2 j y (by simpa using hy)
    rwa [bF,cC 1 j] at this
  ·intro h
   refine⟨by simpa using h 0 x rfl,fun j y hy=>?_⟩
   have:=h (j+1) y (by simpa using hy)
   rwa [bF,cC 1 j]
theorem aC8 {α σ R:Type} {L:σ→(σ→Option R)→Option R} {xs:List α} {st:Nat→σ} {p:Nat→α→Bool} {ex fin:Option R}
  (h1:∀(k:Nat) (x:α) (rec),xs[k]? =some x→k<xs.length→L (st k) rec=bif p k x then rec (st (k+1)) else ex)
  (h2:∀rec,L (st xs.length) rec=fin):∀F:Nat,xs.length<F→aE L F (st 0)=bif jE p 0 xs then fin else ex:=by
 have key:∀(l pre:List α) (F:Nat),xs=pre++l→l.length<F→aE L F (st pre.length)=bif jE p pre.length l then fin else ex:=by
  intro l
  induction l with
  | nil=>
   intro pre F hx hF
   obtain⟨F,rfl⟩:∃n,F=n+1:=⟨F - 1,by simp at hF;omega⟩
   rw[bS] at hx
   subst hx
   rw[aY,h2]
   rfl
  | cons x l ih=>
   intro pre F hx hF
   obtain⟨F,rfl⟩:∃n,F=n+1:=⟨F - 1,by simp at hF;omega⟩
   have hk:xs[pre.length]? =some x:=by rw[hx];simp
   have hl:pre.length<xs.length:=by rw[hx];simp
   rw[aY,h1 pre.length x _ hk hl]
   have:=ih (pre++[x]) F (by rw[hx];simp) (by simp only[aF] at hF;omega)
   simp only[aV,aF,bI,bK] at this
   rw[this]
   simp only[jE]
   cases p pre.length x <;> rfl
 intro F hF
 exact key xs [] F rfl hF
theorem xM {q:Nat→Bool} {n:Nat}:(List.range n).all q=true↔∀k,k<n→q k=true:=by
 simp[bL]
theorem aAV {R:Type} {L:Bool×Int×Unit→(Bool×Int×Unit→Option R)→Option R} {N:Nat} {q:Nat→Bool} {fin:Bool→Option R}
  (h1:∀(k:Nat) (rec),k<N→(∀j,j<k→q j=true)→L (true,(k:Int),()) rec=rec (q k,((k+1:Nat):Int),())∨(q k=false∧L (true,(k:Int),()) rec=fin false))
  (h0:∀(k:Nat) rec,k≤N→L (false,(k:Int),()) rec=fin false) (h2:∀rec,L (true,(N:Int),()) rec=fin true):
  ∀(F:Nat) (b:Bool),N+1<F→aE L F (b,((0:Nat):Int),())=fin (b&&(List.range N).all q):=by
 have hf:∀(F k:Nat),0<F→k≤N→aE L F (false,(k:Int),())=fin false:=fun F k hF hk=>by
  obtain⟨F,rfl⟩:∃n,F=n+1:=⟨F - 1,by omega⟩
  rw[aY,h0 k _ hk]
 have key:∀(d k F:Nat),k+d=N→d+1<F→(∀j,j<k→q j=true)→aE L F (true,(k:Int),())=fin ((List.range N).all q):=by
  intro d
  induction d with
  | zero=>
   intro k F hk hF hh
   obtain⟨F,rfl⟩:∃n,F=n+1:=⟨F - 1,by omega⟩
   have:k=N:=by omega
   subst this
   rw[aY,h2,xM.2 hh]
  | succ d ih=>
   intro k F hk hF hh
   obtain⟨F,rfl⟩:∃n,F=n+1:=⟨F - 1,by omega⟩
   rw[aY]
   cases hq:q k with
   | true=>
    rcases h1 k (aE L F) (by omega) hh with h | ⟨h,_⟩
    ·rw[h,hq]
     refine ih (k+1) F (by omega) (by omega) fun j hj=>?_
     rcases eQ j k with h | h
     ·exact hh j h
     ·have:j=k:=by omega
      subst this;exact hq
    ·rw[hq] at h;cases h
   | false=>
    have:(List.range N).all q=false:=by
     cases ha:(List.range N).all q with
     | false=>rfl
     | true=>rw[xM.1 ha k (by omega)] at hq;cases hq
    rw[this]
    rcases h1 k (aE L F) (by omega) hh with h | ⟨_,h⟩
    ·rw[h,hq]
     exact hf F (k+1) (by omega) (by omega)
    ·exact h
 intro F b hF
 cases b with
 | true=>simpa using key N 0 F (by omega) hF fun j hj=>by omega
 | false=>simpa using hf F 0 (by omega) (by omega)
structure Fit (m:Im):Prop where
 classes:m.1.length≤8
 statics:gV m.2.1 8=true
 ints:m.2.2.1.length≤16
 methods:m.2.2.2.1.length≤12
 cls:∀c∈m.1,oN c=true
 mts:∀x∈m.2.2.2.1,kP x=true
 entries:jB m.2.2.2.2.1 12 11=true
 stack:fE m.2.2.2.2.2.1 4096=true
 heap:fE m.2.2.2.2.2.2.1 4096=true
theorem dI {m:Im} (h:cB m=true):Fit m:=by
 simp only[cB,aC,aP,bL] at h
 obtain⟨h1,h2,h3,h4,h5,h6,h7,h8,h9⟩:=h
 exact⟨by omega,h2,by omega,by omega,h5,h6,h7,h8,h9⟩
theorem aBo {c:Cl} (h:oN c=true):(-1≤c.1∧c.1<8)∧(c.2.1.length≤8∧∀t∈c.2.1,jA t=true)∧(c.2.2.1.length≤4∧∀n∈c.2.2.1,0≤n∧n≤11):=by
 simp only[oN,gV,jB,fE,aC,aP,bL] at h
 obtain⟨h1,h2,⟨h3,h4⟩,h5,h6⟩:=h
 exact⟨⟨h1,h2⟩,⟨by omega,h4⟩,⟨by omega,h6⟩⟩
theorem mS {x:Mt} (h:kP x=true):(x.1.length≤4∧∀t∈x.1,jA t=true)∧(x.2.1.length≤8∧∀t∈x.2.1,jA t=true)∧jA x.2.2.1=true∧(x.2.2.2.1.length≤64∧∀i∈x.2.2.2.1,fF i=true)∧
  (0≤x.2.2.2.2.1∧x.2.2.2.2.1≤8)∧(0≤x.2.2.2.2.2.1∧x.2.2.2.2.2.1≤4096)∧(x.2.2.2.2.2.2.1.length≤64∧∀n∈x.2.2.2.2.2.2.1,0≤n∧n≤4096):=by
 simp only[kP,gV,jB,fE,aC,aP,bL] at h
 obtain⟨⟨h1,h2⟩,⟨h3,h4⟩,h5,h6,h7,h8,h9,h10,h11⟩:=h
 exact⟨⟨by omega,h2⟩,⟨by omega,h4⟩,h5,⟨by omega,h7⟩,h8,h9,⟨by omega,h11⟩⟩
theorem aDV {m:Im} {c:Int} (h0:0≤c) (h1:c<(m.1.length:Int)):bQ m c∈m.1:=by
 have h:c.toNat<m.1.length:=by omega
 unfold bQ
 rw[getD_some (aW h)]
 exact eE h
theorem rX {m:Im} {f:Int} (h0:0≤f) (h1:f<(m.2.2.2.1.length:Int)):aD m f∈m.2.2.2.1:=by
 have h:f.toNat<m.2.2.2.1.length:=by omega
 unfold aD
 rw[getD_some (aW h)]
 exact eE h
theorem aNd {m:Im} {c:Int} (h:rP m c=true):Fit m∧0≤c∧c<(m.1.length:Int)∧∀k:Nat,(k:Int)<c→iA m (k:Int)=true:=by
 simp only[rP,aC,aP] at h
 obtain⟨h1,h2,h3,h4⟩:=h
 exact⟨dI h1,h2,h3,fun k hk=>xM.1 h4 k (by omega)⟩
theorem sV {m:Im} (h:kA m=true) {c:Int} (h0:0≤c) (h1:c<(m.1.length:Int)):iA m c=true:=by
 have:=xM.1 h c.toNat (by omega)
 rwa [show ((c.toNat:Nat):Int)=c by omega] at this
theorem rC {m:Im} {c:Int} (h:iA m c=true) {k:Nat} {f:Int} (hk:(bQ m c).2.2.1[k]? =some f):(0≤f∧f<(m.2.2.2.1.length:Int))∧0<(aD m f).1.length:=by
 simp only[iA,aC,aP] at h
 obtain⟨_,_,_,_,h5⟩:=h
 have:=(aBI _ 0).1 h5 k f hk
 simp only[nV,sin,vN,aC,aP] at this
 exact⟨this.1,this.2.1.1⟩
theorem aMU (m:Im) (l:List Tp) (h:aMV m l):∃k,aFW k m l=some (mO m l,()):=by
 refine⟨l.length+1,?_⟩
 unfold aFW mO eV
 have key:aE (aAq m l) (l.length+1) ((0:Int),())=bif (l.all fun t=>fO t (m.1.length:Int)) then some (true,()) else some (false,()):=by
  refine lO (st:=fun k=>((k:Int),())) (p:=fun t=>fO t (m.1.length:Int)) (fun k x rec hk hlt=>?_) (fun rec=>?_) _ (by omega)
  ·rw[aAq]
   simp only[dlt hlt,dge,aI,aA,aT,getD_some hk,bG hlt h.2.1.1,rK]
   cases fO x (m.1.length:Int) <;> rfl
  ·rw[aAq]
   simp only[bO,aB]
 rw[key]
 cases l.all fun t=>fO t (m.1.length:Int) <;> rfl
theorem aP3 {α:Type} (l:List α) (n:Nat):(l.take l.length).drop n=l.drop n:=by rw[iD]
end Go.Pli

namespace Go.Pli
open Go Go.PM
theorem aLn {m:Im} {c:Int} {k:Nat} {f:Int} (hf:Fit m) (h0:0≤c) (h1:c<(m.1.length:Int)) (hk:(bQ m c).2.2.1[k]? =some f):0≤f∧f≤11:=
 (aBo (hf.cls _ (aDV h0 h1))).2.2.2 f (kB hk)
theorem aJW {m:Im} {c:Int} (hh:∀k:Nat,(k:Int)<c→iA m (k:Int)=true) (hs:eB m.1 c<c) {k:Nat} (hk:k<(eO m c).length):
  (0≤(eO m c).getD k 0∧(eO m c).getD k 0<(m.2.2.2.1.length:Int))∧0<(aD m ((eO m c).getD k 0)).1.length:=by
 unfold eO at hk⊢
 by_cases h0:0≤eB m.1 c
 ·simp only[h0,aK,aA] at hk⊢
  have hcl:iA m (eB m.1 c)=true:=by
   have:=hh (eB m.1 c).toNat (by omega)
   rwa [show (((eB m.1 c).toNat:Nat):Int)=eB m.1 c by omega] at this
  have hg:=aW hk
  rw[getD_some hg]
  exact rC hcl hg
 ·simp[h0] at hk
end Go.Pli
