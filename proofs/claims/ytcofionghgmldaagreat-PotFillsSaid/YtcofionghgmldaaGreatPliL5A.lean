/- Images: what the functions come to: what fits. -/
import Derived.Test.YtcofionghgmldaaGreatPliSp
import Derived.Test.YtcofionghgmldaaGreatPliInst
namespace Go.Pli
open Go Go.PM
theorem aSM (s:List Cl):aKb s=some (idL s,()):=by simp[aKb,idL]
theorem aSA (s:List Tp):aJ2 s=some (idL s,()):=by simp[aJ2,idL]
theorem aSI (s:List Int):aJ9 s=some (idL s,()):=by simp[aJ9,idL]
theorem aSy (s:List Ins):aJ1 s=some (idL s,()):=by simp[aJ1,idL]
theorem aSG (s:List Int):aJ5 s=some (idL s,()):=by simp[aJ5,idL]
theorem dgt (a b:Int):decide (a>b)= !decide (a≤b):=by
 by_cases h:a≤b
 ·have:¬a>b:=by omega
  simp[h]
 ·have:a>b:=by omega
  simp[this]
theorem aOi (n a b:Int):aGT n a b=some (iN n a b,()):=by
 unfold aGT iN
 have h1:decide (n≥a)=decide (a≤n):=rfl
 rw[h1]
 cases decide (a≤n) <;> rfl
theorem aN1 (t:Tp):aGL t=some (qT t,()):=by
 unfold aGL qT jT iN fZ
 cases decide (0≤t.1)&&decide (t.1≤5) <;> cases t.2.1==0 <;> cases t.1==3 <;> rfl
theorem aOf (l:List Int) (c m:Int) (h:aOh l c m):∃k,aGS k l c m=some (pD l c m,()):=by
 refine⟨l.length+1,?_⟩
 have key:aE (aA3 l m) (l.length+1) ((0:Int),())=bif l.all (fun n=>fZ n m) then some (true,()) else some (false,()):=by
  refine mU (st:=fun k=>((k:Int),())) (p:=fun n=>fZ n m) (fun k x rec hk hlt=>?_) (fun rec=>?_) _ (hC _)
  ·unfold aA3
   simp only[dlt hlt,dge,aH,aA,aR,getD_some hk,bG hlt h.1.1]
   unfold iN fZ
   cases decide (0≤x)&&decide (x≤m) <;> rfl
  ·unfold aA3
   simp only[bP,aB]
 unfold aGS
 rw[key,dgt]
 unfold pD jU
 cases decide ((l.length:Int)≤c) <;> simp
 cases l.all fun n=>fZ n m <;> rfl
theorem aNY (l:List Tp) (c:Int) (h:aN0 l c):∃k,aGJ k l c=some (mN l c,()):=by
 refine⟨l.length+1,?_⟩
 have key:aE (aAX l) (l.length+1) ((0:Int),())=bif l.all jT then some (true,()) else some (false,()):=by
  refine mU (st:=fun k=>((k:Int),())) (p:=jT) (fun k x rec hk hlt=>?_) (fun rec=>?_) _ (hC _)
  ·unfold aAX
   simp only[dlt hlt,dge,aH,aA,aR,getD_some hk,bG hlt h.1.1]
   unfold qT
   cases jT x <;> rfl
  ·unfold aAX
   simp only[bP,aB]
 unfold aGJ
 rw[key,dgt]
 unfold mN iF
 cases decide ((l.length:Int)≤c) <;> simp
 cases l.all jT <;> rfl
theorem aOl (m:Im) (_:aOn m):∃k,aGV k m=some (sW m,()):=by
 refine⟨100,?_⟩
 unfold aGV
 rw[dgt,dgt,dgt]
 by_cases h1:(m.1.length:Int)≤8
 ·by_cases h3:(m.2.2.2.1.length:Int)≤12
  ·have key2:aE (aA6 m 100) 100 ((0:Int),())=bif m.2.2.2.1.all lQ then some (true,()) else some (false,()):=by
    refine mU (st:=fun k=>((k:Int),())) (p:=lQ) (fun k x rec hk hlt=>?_) (fun rec=>?_) _ (by omega)
    ·unfold aA6
     simp only[dlt hlt,dge,aH,aA,aR,getD_some hk]
     rw[dgt]
     by_cases hc:(x.2.2.2.1.length:Int)≤64
     ·have inner:aE (aA7 m ((k:Int),()) rec) 100 ((0:Int),())=bif x.2.2.2.1.all fJ then rec (((k+1:Nat):Int),()) else some (false,()):=by
       refine mU (st:=fun k=>((k:Int),())) (p:=fJ) (fun j i rec2 hj hlj=>?_) (fun rec2=>?_) _ (by omega)
       ·unfold aA7
        simp only[aR,getD_some hk,dlt hlj,dge,aH,aA,getD_some hj,bG hlj (show x.2.2.2.1.length≤lenMax by simp only[lenMax];omega)]
        unfold yK
        cases fJ i <;> rfl
       ·unfold aA7
        simp only[aR,getD_some hk,bP,aB,bG hlt (show m.2.2.2.1.length≤lenMax by simp only[lenMax];omega)]
      rw[inner]
      unfold lQ mN qT iN pD fZ
      simp only[hc,aN,eJ,aY,aB]
      cases iF x.1 4 <;> cases iF x.2.1 8 <;> cases jT x.2.2.1 <;> cases x.2.2.2.1.all fJ <;> cases decide (0≤x.2.2.2.2.1)&&decide (x.2.2.2.2.1≤8) <;>
       cases decide (0≤x.2.2.2.2.2.1)&&decide (x.2.2.2.2.2.1≤4096) <;> cases jU x.2.2.2.2.2.2.1 64 4096 <;> rfl
     ·unfold lQ mN qT
      simp only[hc,bU,lA,cF,aA]
      cases iF x.1 4 <;> cases iF x.2.1 8 <;> cases jT x.2.2.1 <;> rfl
    ·unfold aA6
     simp only[bP,aB]
   have key1:aE (aA5 m 100) 100 ((0:Int),())=bif m.1.all pR then (bif m.2.2.2.1.all lQ then some (true,()) else some (false,())) else some (false,()):=by
    refine mU (st:=fun k=>((k:Int),())) (p:=pR) (fun k x rec hk hlt=>?_) (fun rec=>?_) _ (by omega)
    ·unfold aA5
     simp only[dlt hlt,dge,aH,aA,aR,getD_some hk,bG hlt (show m.1.length≤lenMax by simp only[lenMax];omega)]
     have h7:decide (x.1≤7)=decide (x.1<8):=by by_cases h:x.1<8 <;> simp[h] <;> omega
     unfold pR iN mN pD
     rw[h7]
     cases decide (-1≤x.1) <;> cases decide (x.1<8) <;> cases iF x.2.1 8 <;> cases jU x.2.2.1 4 11 <;> rfl
    ·unfold aA5
     simp only[bP,aB]
     exact key2
   rw[key1]
   unfold sW cN mN pD iN fZ
   simp only[h1,h3,aN,aY,aB,eJ]
   cases iF m.2.1 8 <;> cases decide ((m.2.2.1.length:Int)≤16) <;> cases m.1.all pR <;> cases m.2.2.2.1.all lQ <;> cases jU m.2.2.2.2.1 12 11 <;>
    cases decide (0≤m.2.2.2.2.2.1)&&decide (m.2.2.2.2.2.1≤4096) <;> cases decide (0≤m.2.2.2.2.2.2.1)&&decide (m.2.2.2.2.2.2.1≤4096) <;> rfl
  ·unfold sW cN
   simp only[h1,h3,aN,bU,aY,cF,aA,aB,lA,aAt]
   cases decide ((m.2.2.1.length:Int)≤16) <;> rfl
 ·unfold sW cN
  simp only[h1,bU,cF,aA,lA]
end Go.Pli

namespace Go.Pli
open Go Go.PM
theorem sH (x y:Tp):((x.1==y.1)&&((x.2.1==y.2.1)&&true))=(x==y):=by
 obtain⟨a,b,u⟩:=x;obtain⟨c,d,v⟩:=y;rfl
theorem aQs (x y:Ins):((x.1==y.1)&&((x.2.1==y.2.1)&&((x.2.2.1==y.2.2.1)&&true)))=(x==y):=by
 obtain⟨a,b,c,u⟩:=x;obtain⟨d,e,f,v⟩:=y;rfl
theorem aSP (x y:Cl):((x.1==y.1)&&((x.2.1==y.2.1)&&((x.2.2.1==y.2.2.1)&&true)))=(x==y):=by
 obtain⟨a,b,c,u⟩:=x;obtain⟨d,e,f,v⟩:=y;rfl
theorem aPq (x y:Mt):((x.1==y.1)&&((x.2.1==y.2.1)&&((x.2.2.1==y.2.2.1)&&((x.2.2.2.1==y.2.2.2.1)&&((x.2.2.2.2.1==y.2.2.2.2.1)&&((x.2.2.2.2.2.1==y.2.2.2.2.2.1)&&((x.2.2.2.2.2.2.1==y.2.2.2.2.2.2.1)&&true)))))))=(x==y):=by
 obtain⟨a,b,c,d,e,f,g,u⟩:=x;obtain⟨a',b',c',d',e',f',g',v⟩:=y;rfl
theorem aQG (x y:Im):((x.1==y.1)&&((x.2.1==y.2.1)&&((x.2.2.1==y.2.2.1)&&((x.2.2.2.1==y.2.2.2.1)&&((x.2.2.2.2.1==y.2.2.2.2.1)&&((x.2.2.2.2.2.1==y.2.2.2.2.2.1)&&((x.2.2.2.2.2.2.1==y.2.2.2.2.2.2.1)&&true)))))))=(x==y):=by
 obtain⟨a,b,c,d,e,f,g,u⟩:=x;obtain⟨a',b',c',d',e',f',g',v⟩:=y;rfl
theorem aE6 {α:Type} [BEq α]:∀(a b:List α),a.length=b.length→(a.zip b).all (fun q=>q.1==q.2)=(a==b)
 | [],[],_=>rfl
 | [],_::_,h=>by simp at h
 | _::_,[],h=>by simp at h
 | x::a,y::b,h=>by
  have ih:=aE6 a b (by simpa using h)
  simp only[List.zip_cons_cons,fS,ih]
  rfl
theorem wE {α σ R:Type} [BEq α] {L:σ→(σ→Option R)→Option R} {a b:List α} {st:Nat→σ} {ex fin:Option R} (hl:a.length=b.length)
  (h1:∀(k:Nat) (x y:α) (rec),a[k]? =some x→b[k]? =some y→k<a.length→k<b.length→L (st k) rec=bif x==y then rec (st (k+1)) else ex)
  (h2:∀rec,L (st a.length) rec=fin):∀F:Nat,a.length<F→aE L F (st 0)=bif a==b then fin else ex:=by
 intro F hF
 have hz:(a.zip b).length=a.length:=by rw[List.length_zip];omega
 rw[←aE6 a b hl]
 refine mU (xs:=a.zip b) (p:=fun q=>q.1==q.2) (fun k q rec hk hlt=>?_) (fun rec=>by rw[hz];exact h2 rec) F (by omega)
 have hka:k<a.length:=by omega
 have hkb:k<b.length:=by omega
 rw[aT hlt] at hk
 injection hk with hk
 subst hk
 rw[List.getElem_zip]
 exact h1 k _ _ rec (aT hka) (aT hkb) hka hkb
theorem uN {α:Type} [BEq α] {a b:List α} (h:a.length≠b.length):(a==b)=false:=by
 induction a generalizing b with
 | nil=>cases b with
  | nil=>simp at h
  | cons=>rfl
 | cons x a ih=>cases b with
  | nil=>rfl
  | cons y b=>
   have:=ih (b:=b) (by simpa using h)
   show (x==y&&a==b)=false
   rw[this];simp
theorem aD7 (a b:Nat):((a:Int) !=(b:Int))= !decide (a=b):=by
 by_cases h:a=b
 ·subst h;simp
 ·have:¬((a:Int)=(b:Int)):=by omega
  simp[h,this]
theorem aRx (a b:List Tp) (h:aRy a b):∃k,aJp k a b=some (eqL a b,()):=by
 refine⟨a.length+1,?_⟩
 unfold aJp
 rw[aD7]
 by_cases hl:a.length=b.length
 ·have key:aE (aBX a b) (a.length+1) ((0:Int),())=bif a==b then some (true,()) else some (false,()):=by
   refine wE (st:=fun k=>((k:Int),())) hl (fun k x y rec hx hy hka hkb=>?_) (fun rec=>?_) _ (hC _)
   ·unfold aBX
    simp only[dlt hka,dlt hkb,dge,aH,aA,aR,getD_some hx,getD_some hy,bG hka h.1.1,sH]
    cases x==y <;> rfl
   ·unfold aBX
    simp only[bP,aB]
  rw[key]
  unfold eqL
  simp only[hl,aN,aY,aB]
  cases a==b <;> rfl
 ·unfold eqL
  rw[uN hl]
  simp[hl]
theorem aAi {α:Type} [BEq α] (x y:α):(x !=y)= !(x==y):=rfl
theorem aRA (a b:List Int) (h:aRB a b):∃k,aJq k a b=some (eqL a b,()):=by
 refine⟨a.length+1,?_⟩
 unfold aJq
 rw[aD7]
 by_cases hl:a.length=b.length
 ·have key:aE (aBY a b) (a.length+1) ((0:Int),())=bif a==b then some (true,()) else some (false,()):=by
   refine wE (st:=fun k=>((k:Int),())) hl (fun k x y rec hx hy hka hkb=>?_) (fun rec=>?_) _ (hC _)
   ·unfold aBY
    simp only[dlt hka,dlt hkb,dge,aH,aA,aR,getD_some hx,getD_some hy,bG hka h.1.1,aAi]
    cases x==y <;> rfl
   ·unfold aBY
    simp only[bP,aB]
  rw[key]
  unfold eqL
  simp only[hl,aN,aY,aB]
  cases a==b <;> rfl
 ·unfold eqL
  rw[uN hl]
  simp[hl]
theorem aNb (a b:List Tp) (h:aNd a b):∃k,aNc k a b=some (kK a b,()):=aRx a b h
theorem aNr (a b:List Int) (h:aNu a b):∃k,aNt k a b=some (qR a b,()):=aRA a b h
theorem aNC (t:Tp) (n:Int):aGv t n=some (sT t n,()):=by
 unfold aGv sT gI
 have h:decide (t.2.1≥0)=decide (0≤t.2.1):=rfl
 rw[h]
 by_cases h1:t.1=1
 ·have h3:(t.1==3)=false:=by rw[h1];rfl
  have h1':(t.1==1)=true:=by rw[h1];rfl
  rw[h1',h3]
  cases t.2.1==0 <;> rfl
 ·have h1':(t.1==1)=false:=by simpa using h1
  rw[h1']
  by_cases h2:t.1=2
  ·have h3:(t.1==3)=false:=by rw[h2];rfl
   have h2':(t.1==2)=true:=by rw[h2];rfl
   rw[h2',h3]
   cases t.2.1==0 <;> rfl
  ·have h2':(t.1==2)=false:=by simpa using h2
   rw[h2']
   cases t.1==3 <;> cases decide (0≤t.2.1) <;> rfl
theorem aQg (t:Tp):aIs t=some (iS t,()):=by
 unfold aIs iS
 cases t.1==2 <;> cases t.1==3 <;> rfl
theorem aNp (t:Tp):aGm t=some (sR t,()):=by
 unfold aGm sR iS
 cases t.1==2 <;> cases t.1==3 <;> rfl
theorem aQc (l:List Cl) (c:Int):aIp l c=some (kup l c,()):=by
 unfold aIp kup eG
 by_cases h1:c<0
 ·simp[h1]
 ·by_cases h2:c≥(l.length:Int)
  ·simp[h1,h2]
  ·have h3:0≤c:=by omega
   have h4:c<(l.length:Int):=by omega
   simp only[h1,h2,h3,h4,aN,bU,aH,aA,aB,jJ]
   cases decide ((l.getD c.toNat zCl).1≥c) <;> rfl
theorem lO {l:List Cl} {c:Int} (h:0≤c):kup l c<c:=by
 unfold kup
 by_cases h1:decide (c<0) || (decide (c≥(l.length:Int)) || decide (eG l c≥c))
 ·simp[h1];omega
 ·simp only[Bool.not_eq_true] at h1
  rw[h1]
  simp only[Bool.or_eq_false_iff,rK] at h1
  simp only[aB]
  omega
theorem aAg {l:List Cl} {c:Int} (h:c<0):∀n,rQ l n c=[]
 | 0=>rfl
 | n+1=>by simp[rQ,h]
theorem aKi {l:List Cl}:∀(n m:Nat) (c:Int),c.toNat<n→c.toNat<m→rQ l n c=rQ l m c
 | 0,_,_,h,_=>by omega
 | _+1,0,_,_,h=>by omega
 | n+1,m+1,c,h1,h2=>by
  simp only[rQ]
  by_cases hc:c<0
  ·simp[hc]
  ·have:=lO (l:=l) (c:=c) (by omega)
   simp only[hc,bU,aB]
   by_cases hk:kup l c<0
   ·rw[aAg hk,aAg hk]
   ·rw[aKi n m (kup l c) (by omega) (by omega)]
theorem fO {l:List Cl} {c:Int} (h:c<0):cH l c=[]:=aAg h _
theorem iA {l:List Cl} {c:Int} (h:0≤c):cH l c=c::cH l (kup l c):=by
 have h0:¬c<0:=by omega
 have:=lO (l:=l) h
 unfold cH
 rw[rQ]
 simp only[h0,bU,aB]
 by_cases hk:kup l c<0
 ·rw[aAg hk,aAg hk]
 ·rw[aKi c.toNat ((kup l c).toNat+1) (kup l c) (by omega) (by omega)]
theorem aKE (l:List Cl) (b:Int):∀(n:Nat) (c:Int),c.toNat<n→aE (aBH l b) (n+1) (c,())=some ((cH l c).contains b,())
 | 0,_,h=>by omega
 | n+1,c,h=>by
  rw[aZ,aBH]
  by_cases hc:c<0
  ·have h0:¬c≥0:=by omega
   rw[fO hc]
   simp only[h0,bU,aB]
   rfl
  ·have h0:c≥0:=by omega
   have hlt:=lO (l:=l) (c:=c) (by omega)
   rw[iA (by omega)]
   simp only[h0,aN,aA,List.contains_cons]
   by_cases hb:c=b
   ·subst hb;simp
   ·have e1:(c==b)=false:=by simpa using hb
    have e2:(b==c)=false:=by simpa using fun h=>hb h.symm
    rw[e1,e2]
    simp only[aB,jJ]
    by_cases hk:kup l c<0
    ·rw[fO hk,aZ,aBH]
     have:¬kup l c≥0:=by omega
     simp only[this,bU,aB]
     rfl
    ·exact aKE l b n (kup l c) (by omega)
theorem aQi (l:List Cl) (a b:Int):∃k,aIv k l a b=some (dH l a b,()):=by
 refine⟨a.toNat+1+1,?_⟩
 unfold aIv dH
 rw[aKE l b (a.toNat+1) a (by omega)]
 by_cases h1:b<0
 ·have:¬0≤b:=by omega
  simp[h1,this]
 ·have h1':0≤b:=by omega
  by_cases h2:b≥(l.length:Int)
  ·have:¬b<(l.length:Int):=by omega
   simp[h1,h2,this]
  ·have h2':b<(l.length:Int):=by omega
   by_cases h3:a≥(l.length:Int)
   ·have:¬a<(l.length:Int):=by omega
    simp[h1,h2,h3,this]
   ·have h3':a<(l.length:Int):=by omega
    simp only[h1,h2,h3,h1',h2',h3',aN,bU,aB,eJ]
theorem aQe (l:List Cl) (a b:Tp):aIq l a b=some (cR l a b,()):=by
 unfold aIq cR
 rw[sH]
 cases a.1==4 <;> cases a.1==3 <;> cases b.1==3 <;> cases a==b <;> cases a.1==1 <;> rfl
theorem uF (l:List Cl):∀(n:Nat) (c:Int),c.toNat<n→(cH l c).length≤n
 | 0,_,h=>by omega
 | n+1,c,h=>by
  by_cases hc:c<0
  ·rw[fO hc];simp
  ·rw[iA (by omega),aF]
   have hlt:=lO (l:=l) (c:=c) (by omega)
   by_cases hk:kup l c<0
   ·rw[fO hk];simp
   ·have:=uF l n (kup l c) (by omega)
    omega
theorem iP {α:Type} {l:List α} (h:okL l=true):l.length<1000000:=by simpa[okL] using h
theorem aKS (l:List Cl) (hl:l.length<1000000):∀(n:Nat) (c:Int) (out:List Int),c.toNat<n→c<(l.length:Int)→out.length+n<3000000→
  aE (vC l) (n+1) (c,out,())=some (out++cH l c,())
 | 0,_,_,h,_,_=>by omega
 | n+1,c,out,h,hcl,ho=>by
  rw[aZ,vC]
  by_cases hc:c<0
  ·have h0:¬c≥0:=by omega
   rw[fO hc]
   simp[h0]
  ·have h0:c≥0:=by omega
   have h0':0≤c:=by omega
   have hlt:=lO (l:=l) (c:=c) (by omega)
   have hroom:out.length+[c].length<rowMax:=by simp[rowMax];omega
   rw[iA (by omega)]
   have hk:kup l c=bif decide ((l.getD c.toNat zCl).1≥c) then -1 else (l.getD c.toNat zCl).1:=by
    have e1:¬c≥(l.length:Int):=by omega
    unfold kup eG
    simp only[hc,e1,bU,jJ]
   simp only[h0,hcl,hroom,aN,aH,aA]
   have fin:aE (vC l) (n+1) (kup l c,out++[c],())=some (out++(c::cH l (kup l c)),()):=by
    by_cases hk:kup l c<0
    ·rw[aZ]
     unfold vC
     have:¬kup l c≥0:=by omega
     rw[fO hk]
     simp[this]
    ·rw[aKS l hl n (kup l c) (out++[c]) (by omega) (by omega) (by simp;omega)]
     simp
   rw[hk] at fin⊢
   cases hd:decide ((l.getD c.toNat zCl).1≥c)
   ·rw[hd] at fin;simpa using fin
   ·rw[hd] at fin;simpa using fin
theorem aNM (l:List Cl) (c:Int) (r) (h:jO l c=some r):∃k,aGC k l c=some r:=by
 unfold jO at h
 cases hl:okL l <;> simp only[hl,aA,aB] at h
 ·cases h
 injection h with h
 subst h
 have hlt:=iP hl
 refine⟨c.toNat+1+1,?_⟩
 unfold aGC cG
 by_cases hc:c<(l.length:Int)
 ·rw[aKS l hlt (c.toNat+1) c [] (by omega) hc (by simp;omega)]
  simp[hc]
 ·rw[aZ,vC]
  have h0:c≥0:=by omega
  simp[h0,hc]
theorem aNf (l:List Cl) (a b:Tp) (r) (h:mL l a b=some r):aGa l a b=some r:=by
 unfold mL at h
 cases hl:okL l <;> simp only[hl,aA,aB] at h
 ·cases h
 injection h with h
 subst h
 have hlt:=iP hl
 unfold aGa vA jO
 rw[sH]
 have hlen:(cG l a.2.1).length<9223372036854775807:=by
  unfold cG
  by_cases hc:a.2.1<(l.length:Int)
  ·have:=uF l (a.2.1.toNat+1) a.2.1 (by omega)
   simp only[hc,aN,aA]
   omega
  ·simp[hc]
 have hrin:rin (cG l a.2.1) b.2.1=some ((cG l a.2.1).contains b.2.1,()):=by
  unfold rin
  rw[aI hlen];rfl
 simp only[hl,aA,aK,hrin,sR]
 by_cases h1:a.1=1
 ·have e3:(a.1==3)=false:=by rw[h1];rfl
  have e1:(a.1==1)=true:=by rw[h1];rfl
  rw[e1,e3]
  cases a.1==4 <;> cases a==b <;> rfl
 ·have e1:(a.1==1)=false:=by simpa using h1
  rw[e1]
  cases a.1==4 <;> cases a.1==3 <;> cases b.1==3 <;> cases a.1==2 <;> cases a==b <;> rfl
end Go.Pli

namespace Go.Pli
open Go Go.PM
theorem aCq {α:Type} {p:Nat→α→Bool}:∀(l:List α) (k:Nat),jX p k l=true↔∀(j:Nat) x,l[j]? =some x→p (k+j) x=true
 | [],k=>by simp[jX]
 | x::l,k=>by
  simp only[jX,aC]
  rw[aCq l (k+1)]
  constructor
  ·intro⟨h1,h2⟩ j y hy
   cases j with
   | zero=>simp at hy;subst hy;simpa using h1
   | succ j=>
    have:=h2 j y (by simpa using hy)
    rwa [bH,cP 1 j] at this
  ·intro h
   refine⟨by simpa using h 0 x rfl,fun j y hy=>?_⟩
   have:=h (j+1) y (by simpa using hy)
   rwa [bH,cP 1 j]
theorem aD0 {α σ R:Type} {L:σ→(σ→Option R)→Option R} {xs:List α} {st:Nat→σ} {p:Nat→α→Bool} {ex fin:Option R}
  (h1:∀(k:Nat) (x:α) (rec),xs[k]? =some x→k<xs.length→L (st k) rec=bif p k x then rec (st (k+1)) else ex)
  (h2:∀rec,L (st xs.length) rec=fin):∀F:Nat,xs.length<F→aE L F (st 0)=bif jX p 0 xs then fin else ex:=by
 have key:∀(l pre:List α) (F:Nat),xs=pre++l→l.length<F→aE L F (st pre.length)=bif jX p pre.length l then fin else ex:=by
  intro l
  induction l with
  | nil=>
   intro pre F hx hF
   obtain⟨F,rfl⟩:∃n,F=n+1:=⟨F - 1,by simp at hF;omega⟩
   rw[cB] at hx
   subst hx
   rw[aZ,h2]
   rfl
  | cons x l ih=>
   intro pre F hx hF
   obtain⟨F,rfl⟩:∃n,F=n+1:=⟨F - 1,by simp at hF;omega⟩
   have hk:xs[pre.length]? =some x:=by rw[hx];simp
   have hl:pre.length<xs.length:=by rw[hx];simp
   rw[aZ,h1 pre.length x _ hk hl]
   have:=ih (pre++[x]) F (by rw[hx];simp) (by simp only[aF] at hF;omega)
   simp only[aX,aF,bK,bQ] at this
   rw[this]
   simp only[jX]
   cases p pre.length x <;> rfl
 intro F hF
 exact key xs [] F rfl hF
theorem yN {q:Nat→Bool} {n:Nat}:(List.range n).all q=true↔∀k,k<n→q k=true:=by
 simp[bO]
theorem aBD {R:Type} {L:Bool×Int×Unit→(Bool×Int×Unit→Option R)→Option R} {N:Nat} {q:Nat→Bool} {fin:Bool→Option R}
  (h1:∀(k:Nat) (rec),k<N→(∀j,j<k→q j=true)→L (true,(k:Int),()) rec=rec (q k,((k+1:Nat):Int),())∨(q k=false∧L (true,(k:Int),()) rec=fin false))
  (h0:∀(k:Nat) rec,k≤N→L (false,(k:Int),()) rec=fin false) (h2:∀rec,L (true,(N:Int),()) rec=fin true):
  ∀(F:Nat) (b:Bool),N+1<F→aE L F (b,((0:Nat):Int),())=fin (b&&(List.range N).all q):=by
 have hf:∀(F k:Nat),0<F→k≤N→aE L F (false,(k:Int),())=fin false:=fun F k hF hk=>by
  obtain⟨F,rfl⟩:∃n,F=n+1:=⟨F - 1,by omega⟩
  rw[aZ,h0 k _ hk]
 have key:∀(d k F:Nat),k+d=N→d+1<F→(∀j,j<k→q j=true)→aE L F (true,(k:Int),())=fin ((List.range N).all q):=by
  intro d
  induction d with
  | zero=>
   intro k F hk hF hh
   obtain⟨F,rfl⟩:∃n,F=n+1:=⟨F - 1,by omega⟩
   have:k=N:=by omega
   subst this
   rw[aZ,h2,yN.2 hh]
  | succ d ih=>
   intro k F hk hF hh
   obtain⟨F,rfl⟩:∃n,F=n+1:=⟨F - 1,by omega⟩
   rw[aZ]
   cases hq:q k with
   | true=>
    rcases h1 k (aE L F) (by omega) hh with h | ⟨h,_⟩
    ·rw[h,hq]
     refine ih (k+1) F (by omega) (by omega) fun j hj=>?_
     rcases eX j k with h | h
     ·exact hh j h
     ·have:j=k:=by omega
      subst this;exact hq
    ·rw[hq] at h;cases h
   | false=>
    have:(List.range N).all q=false:=by
     cases ha:(List.range N).all q with
     | false=>rfl
     | true=>rw[yN.1 ha k (by omega)] at hq;cases hq
    rw[this]
    rcases h1 k (aE L F) (by omega) hh with h | ⟨_,h⟩
    ·rw[h,hq]
     exact hf F (k+1) (by omega) (by omega)
    ·exact h
 intro F b hF
 cases b with
 | true=>simpa using key N 0 F (by omega) hF fun j hj=>by omega
 | false=>simpa using hf F 0 (by omega) (by omega)
structure Fit (m:Im):Prop where
 classes:m.1.length≤8
 statics:iF m.2.1 8=true
 ints:m.2.2.1.length≤16
 methods:m.2.2.2.1.length≤12
 cls:∀c∈m.1,pR c=true
 mts:∀x∈m.2.2.2.1,lQ x=true
 entries:jU m.2.2.2.2.1 12 11=true
 stack:fZ m.2.2.2.2.2.1 4096=true
 heap:fZ m.2.2.2.2.2.2.1 4096=true
theorem dD {m:Im} (h:cN m=true):Fit m:=by
 simp only[cN,aC,aP,bO] at h
 obtain⟨h1,h2,h3,h4,h5,h6,h7,h8,h9⟩:=h
 exact⟨by omega,h2,by omega,by omega,h5,h6,h7,h8,h9⟩
theorem aAe {c:Cl} (h:pR c=true):(-1≤c.1∧c.1<8)∧(c.2.1.length≤8∧∀t∈c.2.1,jT t=true)∧(c.2.2.1.length≤4∧∀n∈c.2.2.1,0≤n∧n≤11):=by
 simp only[pR,iF,jU,fZ,aC,aP,bO] at h
 obtain⟨h1,h2,⟨h3,h4⟩,h5,h6⟩:=h
 exact⟨⟨h1,h2⟩,⟨by omega,h4⟩,⟨by omega,h6⟩⟩
theorem lK {x:Mt} (h:lQ x=true):(x.1.length≤4∧∀t∈x.1,jT t=true)∧(x.2.1.length≤8∧∀t∈x.2.1,jT t=true)∧jT x.2.2.1=true∧(x.2.2.2.1.length≤64∧∀i∈x.2.2.2.1,fJ i=true)∧
  (0≤x.2.2.2.2.1∧x.2.2.2.2.1≤8)∧(0≤x.2.2.2.2.2.1∧x.2.2.2.2.2.1≤4096)∧(x.2.2.2.2.2.2.1.length≤64∧∀n∈x.2.2.2.2.2.2.1,0≤n∧n≤4096):=by
 simp only[lQ,iF,jU,fZ,aC,aP,bO] at h
 obtain⟨⟨h1,h2⟩,⟨h3,h4⟩,h5,h6,h7,h8,h9,h10,h11⟩:=h
 exact⟨⟨by omega,h2⟩,⟨by omega,h4⟩,h5,⟨by omega,h7⟩,h8,h9,⟨by omega,h11⟩⟩
theorem aB9 {m:Im} {c:Int} (h0:0≤c) (h1:c<(m.1.length:Int)):bZ m c∈m.1:=by
 have h:c.toNat<m.1.length:=by omega
 unfold bZ
 rw[getD_some (aT h)]
 exact dX h
theorem pJ {m:Im} {f:Int} (h0:0≤f) (h1:f<(m.2.2.2.1.length:Int)):aD m f∈m.2.2.2.1:=by
 have h:f.toNat<m.2.2.2.1.length:=by omega
 unfold aD
 rw[getD_some (aT h)]
 exact dX h
theorem aOC {m:Im} {c:Int} (h:tB m c=true):Fit m∧0≤c∧c<(m.1.length:Int)∧∀k:Nat,(k:Int)<c→iT m (k:Int)=true:=by
 simp only[tB,aC,aP] at h
 obtain⟨h1,h2,h3,h4⟩:=h
 exact⟨dD h1,h2,h3,fun k hk=>yN.1 h4 k (by omega)⟩
theorem uJ {m:Im} (h:kY m=true) {c:Int} (h0:0≤c) (h1:c<(m.1.length:Int)):iT m c=true:=by
 have:=yN.1 h c.toNat (by omega)
 rwa [show ((c.toNat:Nat):Int)=c by omega] at this
theorem sN {m:Im} {c:Int} (h:iT m c=true) {k:Nat} {f:Int} (hk:(bZ m c).2.2.1[k]? =some f):(0≤f∧f<(m.2.2.2.1.length:Int))∧0<(aD m f).1.length:=by
 simp only[iT,aC,aP] at h
 obtain⟨_,_,_,_,h5⟩:=h
 have:=(aCq _ 0).1 h5 k f hk
 simp only[oW,sin,wR,aC,aP] at this
 exact⟨this.1,this.2.1.1⟩
theorem aPI (l:List (List Tp)):∃M,∀x∈l,x.length≤M:=by
 induction l with
 | nil=>exact⟨0,by simp⟩
 | cons x l ih=>
  obtain⟨M,hM⟩:=ih
  exact⟨x.length+M,fun y hy=>by
   rcases bL.1 hy with rfl | hy
   ·omega
   ·have:=hM y hy;omega⟩
theorem aOj (m:Im) (l:List Tp) (h:aOk m l):∃k,aGU k m l=some (nV m l,()):=by
 refine⟨l.length+1,?_⟩
 unfold aGU nV fK
 have key:aE (aA4 m l) (l.length+1) ((0:Int),())=bif (l.all fun t=>gI t (m.1.length:Int)) then some (true,()) else some (false,()):=by
  refine mU (st:=fun k=>((k:Int),())) (p:=fun t=>gI t (m.1.length:Int)) (fun k x rec hk hlt=>?_) (fun rec=>?_) _ (by omega)
  ·rw[aA4]
   simp only[dlt hlt,dge,aH,aA,aR,getD_some hk,bG hlt h.2.1.1,sT]
   cases gI x (m.1.length:Int) <;> rfl
  ·rw[aA4]
   simp only[bP,aB]
 rw[key]
 cases l.all fun t=>gI t (m.1.length:Int) <;> rfl
theorem aRJ {α:Type} (l:List α) (n:Nat):(l.take l.length).drop n=l.drop n:=by rw[iD]
end Go.Pli

namespace Go.Pli
open Go Go.PM
theorem aMH {m:Im} {c:Int} {k:Nat} {f:Int} (hf:Fit m) (h0:0≤c) (h1:c<(m.1.length:Int)) (hk:(bZ m c).2.2.1[k]? =some f):0≤f∧f≤11:=
 (aAe (hf.cls _ (aB9 h0 h1))).2.2.2 f (iW hk)
theorem aK3 {m:Im} {c:Int} (hh:∀k:Nat,(k:Int)<c→iT m (k:Int)=true) (hs:eG m.1 c<c) {k:Nat} (hk:k<(eZ m c).length):
  (0≤(eZ m c).getD k 0∧(eZ m c).getD k 0<(m.2.2.2.1.length:Int))∧0<(aD m ((eZ m c).getD k 0)).1.length:=by
 unfold eZ at hk⊢
 by_cases h0:0≤eG m.1 c
 ·simp only[h0,aN,aA] at hk⊢
  have hcl:iT m (eG m.1 c)=true:=by
   have:=hh (eG m.1 c).toNat (by omega)
   rwa [show (((eG m.1 c).toNat:Nat):Int)=eG m.1 c by omega] at this
  have hg:=aT hk
  rw[getD_some hg]
  exact sN hcl hg
 ·simp[h0] at hk
end Go.Pli
