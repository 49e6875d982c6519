/- Types: the typer ends on every sane image. -/
import Derived.Test.YtcofionghgmldaaGreatPliL13E
import Derived.Test.YtcofionghgmldaaGreatPliNt
import Derived.Test.YtcofionghgmldaaGreatPliReach
namespace Go.Pli
open Go Go.PM
def okT (t:Tp):Prop:=t.1=4→t.2.1=0
def mZ (l:List Cl) (t:Tp):Nat:=if t.1=4 then 12 else if t.1=3 then (cH l t.2.1).length else 0
theorem aAf {l:List Cl} (hl:l.length≤8) (c:Int):(cH l c).length≤8:=by
 by_cases h0:c<0
 ·rw[fO h0];simp
 ·by_cases h1:c<(l.length:Int)
  ·have:=uF l (c.toNat+1) c (by omega)
   omega
  ·have hk:kup l c= -1:=by
    unfold kup
    have:c≥(l.length:Int):=by omega
    simp[this]
   rw[iA (by omega),hk,fO (by omega)]
   simp
theorem aCa {l:List Cl} {x:Int}:∀(n:Nat) (c:Int),c.toNat<n→x∈cH l c→(cH l x).length≤(cH l c).length∧(x≠c→(cH l x).length<(cH l c).length)
 | 0,_,h,_=>by omega
 | n+1,c,h,hx=>by
  by_cases h0:c<0
  ·rw[fO h0] at hx;cases hx
  have hk:=lO (l:=l) (c:=c) (by omega)
  rw[iA (by omega)] at hx
  have hlen:(cH l c).length=(cH l (kup l c)).length+1:=by rw[iA (by omega)];rfl
  rcases bL.1 hx with rfl | hx
  ·exact⟨aU _,fun h=>absurd rfl h⟩
  ·by_cases h2:kup l c<0
   ·rw[fO h2] at hx;cases hx
   ·have:=(aCa n (kup l c) (by omega) hx).1
    exact⟨by omega,fun _=>by omega⟩
theorem sG {a b:Tp} (h1:a.1=b.1) (h2:a.2.1=b.2.1):a=b:=by
 obtain⟨a1,a2,⟨⟩⟩:=a
 obtain⟨b1,b2,⟨⟩⟩:=b
 simp only at h1 h2
 subst h1 h2
 rfl
theorem aQj {l:List Cl} (hl:l.length≤8) {a b:Tp} (ha:okT a) (hb:okT b) (h:(gJ l a b).1≠0):okT (gJ l a b)∧(gJ l a b=a∨mZ l (gJ l a b)<mZ l a):=by
 unfold gJ at h⊢
 cases h1:cR l a b <;> simp only[h1,aA,aB] at h⊢
 ·cases h2:cR l b a <;> simp only[h2,aA,aB] at h⊢
  ·cases h3:a.1 !=3 || b.1 !=3 <;> simp only[h3,aA,aB] at h⊢
   ·have h3a:a.1=3:=by
     have:=(Bool.or_eq_false_iff.1 h3).1
     simpa using this
    cases hf:(cH l (kup l a.2.1)).find? fun c=>dH l b.2.1 c with
    | none=>rw[hf] at h;exact absurd rfl h
    | some c=>
     refine⟨fun h4=>by simp at h4,.inr ?_⟩
     have hm:=List.mem_of_find?_eq_some hf
     have h0:0≤a.2.1:=by
      by_cases h0:0≤a.2.1
      ·exact h0
      ·have hk:kup l a.2.1= -1:=by
        unfold kup
        have:a.2.1<0:=by omega
        simp[this]
       rw[hk,fO (by omega)] at hm
       cases hm
     have:=(aCa _ _ (hC _) hm).1
     simp only[mZ,h3a]
     rw[iA h0]
     simp
     omega
   ·exact absurd rfl h
  ·refine⟨ha,?_⟩
   simp
 ·refine⟨hb,?_⟩
  unfold cR at h1
  cases h4:a.1==4 <;> simp only[h4,aA,aB] at h1
  ·cases h33:a.1==3&&b.1==3 <;> simp only[h33,aA,aB] at h1
   ·simp only[aC,iB] at h1
    exact .inl h1.1.symm
   ·simp only[aC,iB] at h33
    unfold dH at h1
    simp only[aC,aP,rZ] at h1
    by_cases he:b.2.1=a.2.1
    ·exact .inl (sG (by omega) he)
    ·refine .inr ?_
     have:=(aCa _ _ (hC _) h1.2.2.2).2 he
     simp only[mZ,h33.1,h33.2]
     simpa using this
  ·have ea:a.1=4:=by simpa using h4
   unfold iS at h1
   simp only[eT,iB] at h1
   have h12:mZ l a=12:=by simp[mZ,ea]
   rcases h1 with h2 | h3 | h4'
   ·right;rw[h12];simp[mZ,h2]
   ·right;rw[h12]
    have:=aAf hl b.2.1
    simp only[mZ,h3]
    simp
    omega
   ·exact .inl (sG (by omega) (by rw[hb h4',ha ea]))
def oD (l:List Cl) (s:List Tp):Nat:=bE (s.map (mZ l))
theorem aQJ {l:List Cl} (hl:l.length≤8) (t:Tp):mZ l t≤12:=by
 unfold mZ
 split
 ·omega
 ·split
  ·exact nH (aAf hl _) (by omega)
  ·omega
theorem aID {l:List Cl} (hl:l.length≤8):∀s:List Tp,oD l s≤12*s.length
 | []=>by simp[oD,bE]
 | t::s=>by
  have:=aID hl s
  have:=aQJ hl t
  unfold oD at*
  simp only[dO,bE,aF]
  omega
theorem aHT {l:List Cl} (hl:l.length≤8):∀(a s:List Tp),a.length=s.length→(∀t∈a,okT t)→(∀t∈s,okT t)→(∀t∈cC l a s,t.1≠0)→
  (∀t∈cC l a s,okT t)∧oD l (cC l a s)≤oD l a∧(cC l a s≠a→oD l (cC l a s)<oD l a)
 | [],[],_,_,_,_=>⟨fun _ h=>(by cases h),aU _,fun h=>absurd rfl h⟩
 | [],_::_,h,_,_,_=>by cases h
 | _::_,[],h,_,_,_=>by cases h
 | x::a,y::s,h,ha,hs,hz=>by
  have hm:cC l (x::a) (y::s)=gJ l x y::cC l a s:=rfl
  rw[hm] at hz⊢
  obtain⟨i1,i2,i3⟩:=aHT hl a s (by simpa using h) (fun t ht=>ha t (bJ _ ht)) (fun t ht=>hs t (bJ _ ht)) (fun t ht=>hz t (bJ _ ht))
  obtain⟨j1,j2⟩:=aQj hl (ha x (bR ..)) (hs y (bR ..)) (hz _ (bR ..))
  refine⟨fun t ht=>?_,?_,fun hne=>?_⟩
  ·rcases bL.1 ht with rfl | ht
   ·exact j1
   ·exact i1 t ht
  ·unfold oD at*
   simp only[dO,bE]
   rcases j2 with j2 | j2
   ·rw[j2];omega
   ·omega
  ·unfold oD at*
   simp only[dO,bE]
   rcases j2 with j2 | j2
   ·rw[j2] at hne⊢
    have:=i3 fun he=>hne (by rw[he])
    omega
   ·omega
def nU (l:List Cl) (s:Sh):Nat:=if s.1 then oD l s.2.1 else 97
structure aAr (s:Sh):Prop where
 len:s.2.1.length≤8
 ok:∀t∈s.2.1,okT t
theorem aPG {l:List Cl} (hl:l.length≤8) {o:Sh} (ho:aAr o) {s:List Tp} (hs8:s.length≤8) (hs:∀t∈s,okT t):
  ((dC l o s).2.2.1=true→(dC l o s).2.1=true→aAr (dC l o s).1∧nU l (dC l o s).1<nU l o):=by
 unfold dC
 cases h1:o.1 <;> simp only[aY,cF,aA,aB]
 ·intro _ _
  refine⟨⟨hs8,hs⟩,?_⟩
  have:=aID hl s
  simp only[nU,h1]
  simp
  omega
 ·cases h2:decide (o.2.1.length≠s.length) <;> simp only[aA,aB]
  ·have hlen:o.2.1.length=s.length:=by simpa using h2
   cases h3:(cC l o.2.1 s).any fun t=>t.1==0 <;> simp only[aA,aB]
   ·intro _ h4
    have hz:∀t∈cC l o.2.1 s,t.1≠0:=fun t ht h0=>by
     have:((cC l o.2.1 s).any fun t=>t.1==0)=true:=eY.2 ⟨t,ht,by simp[h0]⟩
     rw[h3] at this;cases this
    obtain⟨i1,-,i3⟩:=aHT hl o.2.1 s hlen ho.ok hs hz
    refine⟨⟨by rw[wA l hlen];exact hs8,i1⟩,?_⟩
    simp only[nU,h1,cD]
    exact i3 fun he=>by rw[he] at h4;simp at h4
   ·intro h _;cases h
  ·intro h _;cases h
theorem sJ {α:Type} (g:α→Nat) (z:α):∀(l:List α) (k:Nat) (y:α),k<l.length→bE ((l.set k y).map g)+g (l.getD k z)=bE (l.map g)+g y
 | [],_,_,h=>by simp at h
 | x::l,0,y,_=>by simp[bE];omega
 | x::l,k+1,y,h=>by
  have:=sJ g z l k y (by simpa using h)
  simp only[List.set_cons_succ,dO,bE,List.getD_cons_succ] at this⊢
  omega
def b2n (b:Bool):Nat:=if b then 1 else 0
def mu (l:List Cl) (h:List Sh) (q:List Bool):Nat:=bE (h.map (nU l))+bE (q.map b2n)
structure aAs (N:Nat) (h:List Sh) (q:List Bool):Prop where
 hl:h.length=N
 ql:q.length=N
 ok:∀s∈h,aAr s
theorem aDr {l:List Cl} (hl:l.length≤8) {N:Nat} {a:List Tp} (ha8:a.length≤8) (ha:∀t∈a,okT t):∀(ts:List Int) (h:List Sh) (q:List Bool),aAs N h q→(∀to∈ts,0≤to∧to<(N:Int))→
  aAs N (gG l a ts h q).2.1 (gG l a ts h q).2.2.1∧mu l (gG l a ts h q).2.1 (gG l a ts h q).2.2.1≤mu l h q
 | [],h,q,hg,_=>⟨hg,aU _⟩
 | to::ts,h,q,hg,ht=>by
  unfold gG
  obtain⟨t0,t1⟩:=ht to (bR ..)
  have hk:to.toNat<h.length:=by rw[hg.hl];omega
  have hkq:to.toNat<q.length:=by rw[hg.ql];omega
  have hgo:aAr (h.getD to.toNat zSh):=by rw[getD_some (aT hk)];exact hg.ok _ (dX hk)
  have hup:=aPG hl hgo ha8 ha
  generalize dC l (h.getD to.toNat zSh) a=r at hup
  cases h1:r.2.2.1 <;> simp only[aY,cF,aA,aB]
  ·exact⟨hg,aU _⟩
  ·cases h2:r.2.1 <;> simp only[aA,aB]
   ·exact aDr hl ha8 ha ts h q hg fun x hx=>ht x (bJ _ hx)
   ·obtain⟨g1,g2⟩:=hup h1 h2
    have hg':aAs N (h.set to.toNat r.1) (q.set to.toNat true):=⟨by rw[cX,hg.hl],by rw[cX,hg.ql],fun s hs=>by
     rcases rX hs with hs | rfl
     ·exact hg.ok s hs
     ·exact g1⟩
    obtain⟨i1,i2⟩:=aDr hl ha8 ha ts _ _ hg' fun x hx=>ht x (bJ _ hx)
    refine⟨i1,nH i2 ?_⟩
    unfold mu
    have e1:=sJ (nU l) zSh h to.toNat r.1 hk
    have e2:=sJ b2n false q to.toNat true hkq
    have e3:b2n true=1:=rfl
    omega
theorem aEp {t:Tp} {n:Int} (h:gI t n=true):okT t:=by
 intro h4
 unfold gI at h
 rw[h4] at h
 simp at h
theorem aEm {m:Im} {l:List Tp} (h:fK m l=true) (k:Nat):okT (l.getD k zTp):=by
 by_cases hk:k<l.length
 ·rw[getD_some (aT hk)]
  exact aEp (bO.1 h _ (dX hk))
 ·rw[gB (by omega)];intro h4;cases h4
theorem aP1 {m:Im} (hs:aJ m=true) {f:Int} (hf:inM m f=true) (n:Int):okT (jS (aD m f) n):=by
 have h:=oZ hs hf
 simp only[fC,aC] at h
 unfold jS
 cases decide (n<0) <;> simp only[aA,aB]
 ·rw[aEs]
  split
  ·exact aEm h.1 _
  ·exact aEm h.2.1 _
 ·intro h4;cases h4
theorem aND {m:Im} (hs:aJ m=true) {f:Int} (hf:inM m f=true):okT (aD m f).2.2.1:=by
 have h:=oZ hs hf
 simp only[fC,aC,eT] at h
 rcases h.2.2.1 with h | h
 ·intro h4
  have:(aD m f).2.2.1=(5,0,()):=by simpa using h
  rw[this] at h4;cases h4
 ·exact aEp h
theorem aJj {m:Im} (hs:aJ m=true) (c:Int) (hc:sin c (m.1.length:Int)=true):fK m (bZ m c).2.1=true:=by
 simp only[sin,aC,aP] at hc
 have:=uJ (uX hs) hc.1 hc.2
 simp only[iT,aC] at this
 exact this.2.1
theorem aRl {m:Im} (hs:aJ m=true) (c:Int) (k:Nat):okT ((dP m c).getD k zTp):=by
 have key:∀t∈dP m c,okT t:=by
  intro t ht
  unfold dP at ht
  simp only[iX,fR,List.mem_reverse] at ht
  obtain⟨x,⟨s,hsm,rfl⟩,ht⟩:=ht
  have hin:sin s (m.1.length:Int)=true:=by
   unfold cG at hsm
   cases hd:decide (c<(m.1.length:Int)) <;> simp only[hd,aA,aB] at hsm
   ·cases hsm
   ·have:=oO _ _ (hC _) hsm
    have hd:c<(m.1.length:Int):=by simpa using hd
    simp only[sin,aC,aP]
    omega
  exact aEp (bO.1 (aJj hs s hin) t ht)
 by_cases hk:k<(dP m c).length
 ·rw[getD_some (aT hk)]
  exact key _ (dX hk)
 ·rw[gB (by omega)];intro h4;cases h4
def iK (e:Eff):Prop:=∀t∈e.2.1,okT t
theorem lJ {a:List Tp}:iK (a,[],()):=fun _ h=>by cases h
theorem jP {a:List Tp} {t:Tp} (h:okT t):iK (a,[t],()):=fun _ hx=>by rw[dV] at hx;subst hx;exact h
theorem zC {k n:Int} (h:k≠4∨n=0):okT (k,n,()):=fun h4=>by
 rcases h with h | h
 ·exact absurd h4 h
 ·exact h
theorem aHs {m:Im} (hs:aJ m=true) {g:Int} (hg:inM m g=true) (t:List Tp):iK (iU (aD m g) t):=by
 unfold iU
 cases (aD m g).2.2.1.1 !=5 <;> simp only[aA,aB]
 ·exact lJ
 ·exact jP (aND hs hg)
theorem aOZ (o:Int):iK (eP o).1:=by
 unfold eP
 have h1:okT tI:=zC (.inr rfl)
 have h2:okT tA:=zC (.inr rfl)
 have h3:okT tN:=zC (.inr rfl)
 refine cW (P:=fun z:Eff×Bool×Unit=>iK z.1) (jP h3) ?_
 refine cW (P:=fun z:Eff×Bool×Unit=>iK z.1) lJ ?_
 refine cW (P:=fun z:Eff×Bool×Unit=>iK z.1) (jP h1) ?_
 refine cW (P:=fun z:Eff×Bool×Unit=>iK z.1) (jP h1) ?_
 refine cW (P:=fun z:Eff×Bool×Unit=>iK z.1) (jP h1) ?_
 refine cW (P:=fun z:Eff×Bool×Unit=>iK z.1) lJ ?_
 refine cW (P:=fun z:Eff×Bool×Unit=>iK z.1) (jP h1) ?_
 refine cW (P:=fun z:Eff×Bool×Unit=>iK z.1) (jP h1) ?_
 refine cW (P:=fun z:Eff×Bool×Unit=>iK z.1) lJ ?_
 refine cW (P:=fun z:Eff×Bool×Unit=>iK z.1) lJ ?_
 refine cW (P:=fun z:Eff×Bool×Unit=>iK z.1) (jP h2) ?_
 exact cW (P:=fun z:Eff×Bool×Unit=>iK z.1) (jP h1) lJ
theorem aO0 {m:Im} (hs:aJ m=true) {i:Ins} {f:Int} (hf:inM m f=true) (hi:cM m (aD m f) i=true):iK (eQ m (aD m f) i):=by
 have hcl:=uX hs
 unfold eQ
 rcases i with⟨o,a,b,⟨⟩⟩
 refine cW (aOZ _) ?_
 refine cW (jP (aP1 hs hf _)) (cW lJ (cW (jP (zC (.inl (by decide)))) (cW (jP (aRl hs _ _)) (cW lJ (cW (jP (aEm (aF0 hs) _)) (cW lJ ?_))))))
 cases e:o==31
 case true=>
  obtain rfl:o=31:=by simpa using e
  have:sin a (m.2.2.2.1.length:Int)=true:=by simpa[cM] using hi
  exact aHs hs this _
 simp only[aB]
 cases e:o==32
 case true=>
  obtain rfl:o=32:=by simpa using e
  have:sin a (m.1.length:Int)=true∧sin b ((bZ m a).2.2.1.length:Int)=true:=by simpa[cM] using hi
  have hsl:iG m a b=true:=by unfold iG;unfold sin at this;rw[this.1,this.2];rfl
  have h1:=yD hsl
  simp only[sin,aC,aP] at this
  obtain⟨h2,h3⟩:=sN (uJ hcl this.1.1 this.1.2) h1
  exact aHs hs (bC.2 h2) _
 simp only[aB]
 exact cW (jP (zC (.inl (by decide)))) (cW (cW lJ lJ) lJ)
theorem aLp {m:Im} (hs:aJ m=true) {f pc:Int} {s:List Tp} (hok:∀t∈s,okT t):∀t∈(aQ m f pc s).1,okT t:=by
 unfold aQ
 cases hf:inM m f
 ·intro t ht;simp at ht
 cases hp:sin pc (codeN m f:Int)
 ·intro t ht;simp at ht
 simp only[aH,aY,aB]
 cases (eB (aG m f pc) pc).contains (codeN m f:Int)
 case true=>intro t ht;simp at ht
 simp only[aB]
 cases h6:(aG m f pc).1==6 <;> simp only[aA,aB]
 ·have ho:=aO0 hs hf (sQ hs hf hp)
  unfold nP
  generalize eQ m (aD m f) (aG m f pc)=E at ho⊢
  cases decide (s.length<E.1.length) || decide (s.length - E.1.length+E.2.1.length>8) <;> simp only[aA,aB]
  ·cases ((s.drop (s.length - E.1.length)).zip E.1).all fun p=>eC m (aG m f pc).1 p.1 p.2 <;> simp only[aA,aB]
   ·intro t ht;cases ht
   ·intro t ht
    rcases cJ.1 ht with ht | ht
    ·exact hok t (aE3 ht)
    ·exact ho t ht
  ·intro t ht;cases ht
 ·cases decide (s.length=0) || decide (s.length≥8) <;> simp only[aA,aB]
  ·intro t ht
   rcases cJ.1 ht with ht | ht
   ·exact hok t ht
   ·exact hok t (List.mem_of_mem_drop ht)
  ·intro t ht;cases ht
structure xO (N:Nat) (h:List Sh):Prop where
 len:h.length≤N
 ok:∀s∈h,s.2.1.length≤8
theorem aI7 {q:List Bool} (h:q.any id=true):q.findIdx id<q.length:=List.findIdx_lt_length_of_exists (by
 obtain⟨x,hx,h⟩:=eY.1 h
 exact⟨x,hx,h⟩)
theorem aFc {m:Im} (hs:aJ m=true) {f:Int} (hf:inM m f=true):∀(n:Nat) (h:List Sh) (q:List Bool),aAs (codeN m f) h q→mu m.1 h q<n→∃r,qH m f n h q=some r∧xO (codeN m f) r.1
 | 0,_,_,_,hm=>by omega
 | n+1,h,q,hg,hm=>by
  have hl:=(dD (dI hs).1).classes
  unfold qH
  cases ha:q.any id <;> simp only[aA,aB]
  ·exact⟨_,rfl,by rw[hg.hl];exact aU _,fun s hs=>(hg.ok s hs).len⟩
  ·have hk:=aI7 ha
   generalize hpc:q.findIdx id=pc at hk
   have htrue:q.getD pc false=true:=by
    subst hpc
    have:=List.findIdx_getElem (p:=id) (xs:=q) (w:=hk)
    rw[getD_some (aT hk)]
    exact this
   have hpcN:pc<codeN m f:=by rw[←hg.ql];exact hk
   have hkh:pc<h.length:=by rw[hg.hl];exact hpcN
   have hg1:aAs (codeN m f) h (q.set pc false):=⟨hg.hl,by rw[cX,hg.ql],hg.ok⟩
   have hone:tH m f (pc:Int) h (q.set pc false)=true:=OneP.to ⟨hs,hf,by simp only[sin,aC,aP];omega,hg1.hl,hg1.ql,fun s hs=>fB (by have:=(hg.ok s hs).len;omega)⟩
   have hmu:mu m.1 h (q.set pc false)+1=mu m.1 h q:=by
    unfold mu
    have:=sJ b2n false q pc false hk
    rw[htrue] at this
    have e0:b2n false=0:=rfl
    have e1:b2n true=1:=rfl
    omega
   unfold aAC
   rw[hone]
   simp only[aA,aK]
   have hgs:aAr (h.getD pc zSh):=by rw[getD_some (aT hkh)];exact hg.ok _ (dX hkh)
   cases hr:(mI m f (pc:Int) h (q.set pc false)).1 <;> simp only[aY,cF,aA,aB]
   ·exact⟨_,rfl,dL _,fun s hs=>by cases hs⟩
   ·unfold mI at hr⊢
    rw[aR] at hr⊢
    cases he:(aQ m f (pc:Int) (h.getD pc zSh).2.1).2.2.1 !=0 <;> simp only[he,aA,aB] at hr⊢
    ·obtain⟨-,-,h8,hto⟩:=nO hs (f:=f) (pc:=(pc:Int)) (s:=(h.getD pc zSh).2.1) (by simpa using he)
     obtain⟨i1,i2⟩:=aDr hl (N:=codeN m f) h8 (aLp hs hgs.ok) (aQ m f (pc:Int) (h.getD pc zSh).2.1).2.1 h (q.set pc false) hg1 hto
     exact aFc hs hf n _ _ i1 (by omega)
    ·cases hr
theorem aFn {m:Im} (hs:aJ m=true) {f:Int} (hf:inM m f=true):∃r,xT m f=some r∧xO (codeN m f) r.1:=by
 unfold xT
 rw[hs,hf]
 simp only[aH,aA]
 have hc:=eU hs hf
 refine aFc hs hf _ _ _ ⟨by simp,by simp,fun s hs'=>?_⟩ ?_
 ·rcases rX hs' with h | rfl
  ·rw[aAo] at h
   rw[h.2]
   exact⟨dL _,fun _ h=>by cases h⟩
  ·exact⟨dL _,fun _ h=>by cases h⟩
 ·unfold mu
  have e1:=sJ (nU m.1) zSh (List.replicate (codeN m f) zSh) 0 (true,[],()) (by simp;omega)
  have e2:=sJ b2n false (List.replicate (codeN m f) false) 0 true (by simp;omega)
  have s1:∀n:Nat,bE ((List.replicate n zSh).map (nU m.1))=97*n:=by
   intro n
   induction n with
   | zero=>rfl
   | succ n ih=>rw[List.replicate_succ,dO,bE,ih];simp[nU];omega
  have s2:∀n:Nat,bE ((List.replicate n false).map b2n)=0:=by
   intro n
   induction n with
   | zero=>rfl
   | succ n ih=>rw[List.replicate_succ,dO,bE,ih];rfl
  rw[s1] at e1
  rw[s2] at e2
  have r1:nU m.1 (true,[],())=0:=rfl
  have r2:b2n true=1:=rfl
  omega
theorem aKf {m:Im} (hs:aJ m=true):∀(l:List Int) (out:List (List Sh)),(∀f∈l,inM m f=true)→(∀h∈out,xO 64 h)→∃r,rP m l out=some r∧(∀h∈r.1,xO 64 h)∧(r.2.2.2.1=0→r.1.length=out.length+l.length)∧(r.2.2.2.1≠0→r.1=[])
 | [],out,_,ho=>⟨_,rfl,ho,fun _=>rfl,fun h=>absurd rfl h⟩
 | f::l,out,hl,ho=>by
  have hf:=hl f (bR ..)
  obtain⟨r,hr,hg⟩:=aFn hs hf
  have hc:=eU hs hf
  unfold rP
  rw[hr]
  simp only[aK]
  cases he:r.2.2.1 !=0 <;> simp only[aA,aB]
  ·obtain⟨r',h1,h2,h3,h4⟩:=aKf hs l (out++[r.1]) (fun x hx=>hl x (bJ _ hx)) (fun h hh=>by
    rcases cJ.1 hh with hh | hh
    ·exact ho h hh
    ·rw[dV] at hh;subst hh;exact⟨by have:=hg.len;omega,hg.ok⟩)
   exact⟨r',h1,h2,fun h0=>by rw[h3 h0];simp;omega,h4⟩
  ·have:r.2.2.1≠0:=by simpa using he
   exact⟨_,rfl,fun h hh=>(by cases hh),fun h0=>absurd h0 this,fun _=>rfl⟩
theorem aO9 {l:List (List Sh)} (hl:l.length≤12) (h:∀x∈l,xO 64 x):eN l=true:=by
 simp only[eN,aC,bO]
 refine⟨fB (by omega),fun x hx=>?_⟩
 have:=h x hx
 exact⟨fB (by have:=this.len;omega),fun s hs=>fB (by have:=this.ok s hs;omega)⟩
theorem aFs {m:Im} (hs:aJ m=true):∃r,uU m=some r∧eN r.1=true∧(r.2.2.2.1=0→r.1.length=m.2.2.2.1.length):=by
 have h12:=(dD (dI hs).1).methods
 unfold uU
 rw[hs]
 simp only[aA]
 obtain⟨r,h1,h2,h3,h4⟩:=aKf hs (ints m.2.2.2.1.length) [] (fun f hf=>bC.2 (iQ.1 hf)) (fun _ h=>by cases h)
 have hn:r.2.2.2.1=0→r.1.length=m.2.2.2.1.length:=fun h0=>by rw[h3 h0,jC];simp
 refine⟨r,h1,aO9 ?_ h2,hn⟩
 by_cases h0:r.2.2.2.1=0
 ·rw[hn h0];exact h12
 ·rw[h4 h0];exact dL _
end Go.Pli

namespace Go.Pli
open Go Go.PM
def gT (n:Int) (t:Tp):Prop:=gI t n=true∨t=(4,0,())
theorem tV {n:Int} {t:Tp} (h:gT n t):(t.1=1∧t.2.1=0)∨(t.1=2∧t.2.1=0)∨(t.1=3∧0≤t.2.1∧t.2.1<n)∨(t.1=4∧t.2.1=0):=by
 rcases h with h | rfl
 ·unfold gI at h
  cases h1:t.1==1
  ·cases h2:t.1==2
   ·rw[h1,h2] at h
    simp only[Bool.or_self,aB,aC,iB,aP] at h
    exact .inr (.inr (.inl ⟨h.1,h.2.1,h.2.2⟩))
   ·rw[h2,Bool.or_true] at h
    exact .inr (.inl ⟨by simpa using h2,by simpa using h⟩)
  ·rw[h1,sB] at h
   exact .inl ⟨by simpa using h1,by simpa using h⟩
 ·exact .inr (.inr (.inr ⟨rfl,rfl⟩))
theorem aIR {n:Int} {t:Tp} (h:gT n t):t.1≠0:=by rcases tV h with h | h | h | h <;> omega
theorem aBQ {n:Int} {t:Tp} (h:gT n t):okT t:=fun h4=>by rcases tV h with h | h | h | h <;> omega
theorem aKh {l:List Cl} {b c:Int}:∀(n:Nat) (a:Int),a.toNat<n→b∈cH l a→c∈cH l b→c∈cH l a
 | 0,_,h,_,_=>by omega
 | n+1,a,h,hb,hc=>by
  by_cases h0:a<0
  ·rw[fO h0] at hb;cases hb
  have hk:=lO (l:=l) (c:=a) (by omega)
  rw[iA (by omega)] at hb⊢
  rcases bL.1 hb with rfl | hb
  ·rwa [iA (by omega)] at hc
  ·by_cases h2:kup l a<0
   ·rw[fO h2] at hb;cases hb
   ·exact bJ _ (aKh n (kup l a) (by omega) hb hc)
theorem aSQ {l:List Cl} {a:Int} (h:0≤a):a∈cH l a:=by rw[iA h];exact bR ..
theorem oR {l:List Cl} {a b:Int}:dH l a b=true↔0≤b∧b<(l.length:Int)∧a<(l.length:Int)∧b∈cH l a:=by
 unfold dH
 simp only[aC,aP,rZ]
theorem aS4 {l:List Cl} {a b c:Int} (h1:dH l a b=true) (h2:dH l b c=true):dH l a c=true:=by
 rw[oR] at*
 exact⟨h2.1,h2.2.1,h1.2.2.1,aKh _ _ (hC _) h1.2.2.2 h2.2.2.2⟩
theorem iZ {l:List Cl} {a b:Tp}:cR l a b=true↔(a.1=4∧iS b=true)∨(a.1=3∧b.1=3∧dH l a.2.1 b.2.1=true)∨(a=b∧(a.1=1∨a.1=2)):=by
 unfold cR
 cases h4:a.1==4
 ·have n4:a.1≠4:=by simpa using h4
  cases h33:a.1==3&&b.1==3 <;> simp only[aA,aB]
  ·simp only[aC,eT,iB]
   constructor
   ·exact fun h=> .inr (.inr h)
   ·rintro (h | h | h)
    ·exact absurd h.1 n4
    ·simp[h.1,h.2.1] at h33
    ·exact h
  ·simp only[aC,iB] at h33
   constructor
   ·exact fun h=> .inr (.inl ⟨h33.1,h33.2,h⟩)
   ·rintro (h | h | h)
    ·exact absurd h.1 n4
    ·exact h.2.2
    ·omega
 ·have e4:a.1=4:=by simpa using h4
  simp only[aA]
  constructor
  ·exact fun h=> .inl ⟨e4,h⟩
  ·rintro (h | h | h)
   ·exact h.2
   ·omega
   ·omega
theorem wH {t:Tp}:iS t=true↔t.1=2∨t.1=3∨t.1=4:=by
 unfold iS
 simp only[eT,iB]
theorem aCQ {l:List Cl} {a:Tp} (h:gT (l.length:Int) a):cR l a a=true:=by
 rw[iZ]
 rcases tV h with h | h | h | h
 ·exact .inr (.inr ⟨rfl,.inl h.1⟩)
 ·exact .inr (.inr ⟨rfl,.inr h.1⟩)
 ·exact .inr (.inl ⟨h.1,h.1,oR.2 ⟨h.2.1,h.2.2,h.2.2,aSQ h.2.1⟩⟩)
 ·exact .inl ⟨h.1,wH.2 (.inr (.inr h.1))⟩
theorem aFD {l:List Cl} {a b c:Tp} (h1:cR l a b=true) (h2:cR l b c=true):cR l a c=true:=by
 rw[iZ] at*
 rcases h1 with⟨a4,hb⟩ | ⟨a3,b3,hab⟩ | ⟨rfl,ha⟩
 ·refine .inl ⟨a4,?_⟩
  rcases h2 with⟨_,hc⟩ | ⟨_,c3,_⟩ | ⟨rfl,_⟩
  ·exact hc
  ·exact wH.2 (.inr (.inl c3))
  ·exact hb
 ·rcases h2 with⟨b4,_⟩ | ⟨_,c3,hbc⟩ | ⟨rfl,hb⟩
  ·omega
  ·exact .inr (.inl ⟨a3,c3,aS4 hab hbc⟩)
  ·omega
 ·exact h2
theorem aLk {l:List Cl} {a b:Tp} (ga:gT (l.length:Int) a) (gb:gT (l.length:Int) b) (h1:cR l a b=true) (h2:cR l b a=true):a=b:=by
 rw[iZ] at*
 rcases h1 with⟨a4,hb⟩ | ⟨a3,b3,hab⟩ | ⟨h,_⟩
 ·rcases h2 with⟨b4,_⟩ | ⟨_,a3,_⟩ | ⟨h,_⟩
  ·have e1:=aBQ ga a4
   have e2:=aBQ gb b4
   exact sG (by omega) (by omega)
  ·omega
  ·exact h.symm
 ·rcases h2 with⟨b4,_⟩ | ⟨_,_,hba⟩ | ⟨h,_⟩
  ·omega
  ·have i1:=(oO _ _ (hC _) (oR.1 hab).2.2.2).2
   have i2:=(oO _ _ (hC _) (oR.1 hba).2.2.2).2
   exact sG (by omega) (by omega)
  ·exact h.symm
 ·exact h
theorem aI8 {l:List Cl} {p:Int→Bool} {x c:Int}:∀(n:Nat) (d:Int),d.toNat<n→(cH l d).find? p=some x→c∈cH l d→p c=true→c∈cH l x
 | 0,_,h,_,_,_=>by omega
 | n+1,d,h,hf,hc,hp=>by
  by_cases h0:d<0
  ·rw[fO h0] at hc;cases hc
  have hk:=lO (l:=l) (c:=d) (by omega)
  rw[iA (by omega),aAp] at hf
  cases hpd:p d
  ·rw[hpd] at hf
   rw[iA (by omega)] at hc
   rcases bL.1 hc with rfl | hc
   ·rw[hpd] at hp;cases hp
   ·by_cases h2:kup l d<0
    ·rw[fO h2] at hc;cases hc
    ·exact aI8 n (kup l d) (by omega) hf hc hp
  ·rw[hpd] at hf
   injection hf with hf
   subst hf
   exact hc
theorem aQk {l:List Cl} {a b:Tp} (ga:gT (l.length:Int) a) (gb:gT (l.length:Int) b) (h:(gJ l a b).1≠0):cR l a (gJ l a b)=true∧cR l b (gJ l a b)=true∧gT (l.length:Int) (gJ l a b):=by
 unfold gJ at h⊢
 cases h1:cR l a b <;> simp only[h1,aA,aB] at h⊢
 ·cases h2:cR l b a <;> simp only[h2,aA,aB] at h⊢
  ·cases h3:a.1 !=3 || b.1 !=3 <;> simp only[h3,aA,aB] at h⊢
   ·have h3a:a.1=3:=by simpa using (Bool.or_eq_false_iff.1 h3).1
    have h3b:b.1=3:=by simpa using (Bool.or_eq_false_iff.1 h3).2
    cases hf:(cH l (kup l a.2.1)).find? fun c=>dH l b.2.1 c with
    | none=>rw[hf] at h;exact absurd rfl h
    | some c=>
     have hm:=List.mem_of_find?_eq_some hf
     have hb:dH l b.2.1 c=true:=by simpa using List.find?_some hf
     have hb':=oR.1 hb
     have ga':0≤a.2.1∧a.2.1<(l.length:Int):=by rcases tV ga with h | h | h | h <;> omega
     have hca:c∈cH l a.2.1:=by rw[iA ga'.1];exact bJ _ hm
     refine⟨iZ.2 (.inr (.inl ⟨h3a,rfl,oR.2 ⟨hb'.1,hb'.2.1,ga'.2,hca⟩⟩)),iZ.2 (.inr (.inl ⟨h3b,rfl,hb⟩)),.inl ?_⟩
     simp only[gI]
     rw[aI hb'.1,aI hb'.2.1]
     rfl
   ·exact absurd rfl h
  ·exact⟨aCQ ga,trivial,ga⟩
 ·exact⟨trivial,aCQ gb,gb⟩
theorem aQm {l:List Cl} {a b c:Tp} (ga:gT (l.length:Int) a) (gb:gT (l.length:Int) b) (gc:gT (l.length:Int) c) (hac:cR l a c=true) (hbc:cR l b c=true):(gJ l a b).1≠0∧cR l (gJ l a b) c=true:=by
 unfold gJ
 cases h1:cR l a b <;> simp only[aA,aB]
 ·cases h2:cR l b a <;> simp only[aA,aB]
  ·have n1:¬cR l a b=true:=by rw[h1];exact Bool.false_ne_true
   have n2:¬cR l b a=true:=by rw[h2];exact Bool.false_ne_true
   have h33:a.1=3∧b.1=3:=by
    have ka:=tV ga
    have kb:=tV gb
    rcases iZ.1 hac with⟨a4,hc⟩ | ⟨a3,c3,_⟩ | ⟨e,ha⟩
    ·exfalso
     refine n1 (iZ.2 (.inl ⟨a4,?_⟩))
     rw[wH] at hc⊢
     rcases iZ.1 hbc with⟨b4,_⟩ | ⟨b3,_⟩ | ⟨e,hb⟩
     ·exact .inr (.inr b4)
     ·exact .inr (.inl b3)
     ·subst e;omega
    ·refine⟨a3,?_⟩
     rcases iZ.1 hbc with⟨b4,_⟩ | ⟨b3,_⟩ | ⟨e,hb⟩
     ·exact absurd (iZ.2 (.inl ⟨b4,wH.2 (.inr (.inl a3))⟩)) n2
     ·exact b3
     ·subst e;omega
    ·exfalso
     subst e
     exact n2 hbc
   have h3:(a.1 !=3 || b.1 !=3)=false:=by simp[h33.1,h33.2]
   rw[h3]
   simp only[aB]
   have hac':a.1=3∧c.1=3∧dH l a.2.1 c.2.1=true:=by
    rcases iZ.1 hac with⟨a4,hc⟩ | h | ⟨e,ha⟩
    ·omega
    ·exact h
    ·omega
   have hbc':dH l b.2.1 c.2.1=true:=by
    rcases iZ.1 hbc with⟨a4,hc⟩ | h | ⟨e,ha⟩
    ·omega
    ·exact h.2.2
    ·omega
   have ga':0≤a.2.1∧a.2.1<(l.length:Int):=by rcases tV ga with h | h | h | h <;> omega
   have hc:=oR.1 hac'.2.2
   have hne:c.2.1≠a.2.1:=fun e=>n2 (by
    have:c=a:=sG (by omega) e
    rw[←this];exact hbc)
   have hcm:c.2.1∈cH l (kup l a.2.1):=by
    have:=hc.2.2.2
    rw[iA ga'.1] at this
    rcases bL.1 this with h | h
    ·exact absurd h hne
    ·exact h
   cases hf:(cH l (kup l a.2.1)).find? fun c=>dH l b.2.1 c with
   | none=>
    have:=List.find?_eq_none.1 hf _ hcm
    exact absurd hbc' this
   | some x=>
    have hx:dH l b.2.1 x=true:=by simpa using List.find?_some hf
    have hx':=oR.1 hx
    refine⟨fun h=>by simp at h,iZ.2 (.inr (.inl ⟨rfl,hac'.2.1,oR.2 ⟨hc.1,hc.2.1,hx'.2.1,?_⟩⟩))⟩
    exact aI8 _ _ (hC _) hf hcm hbc'
  ·exact⟨aIR ga,hac⟩
 ·exact⟨aIR gb,hbc⟩
def leS (l:List Cl):List Tp→List Tp→Prop
 | [],[]=>True
 | x::a,y::b=>cR l x y=true∧leS l a b
 | _,_=>False
def gS (n:Int) (s:List Tp):Prop:=∀t∈s,gT n t
theorem gL {n:Int} {t:Tp} {s:List Tp} (h:gS n (t::s)):gT n t∧gS n s:=⟨h t (bR ..),fun x hx=>h x (bJ _ hx)⟩
theorem rF {l:List Cl}:∀{a b:List Tp},leS l a b→a.length=b.length
 | [],[],_=>rfl
 | [],_::_,h=>h.elim
 | _::_,[],h=>h.elim
 | _::_,_::_,h=>by simp only[aF,rF h.2]
theorem zS {l:List Cl}:∀{a:List Tp},gS (l.length:Int) a→leS l a a
 | [],_=>trivial
 | _::_,h=>⟨aCQ (gL h).1,zS (gL h).2⟩
theorem tO {l:List Cl}:∀{a b c:List Tp},leS l a b→leS l b c→leS l a c
 | [],[],[],_,_=>trivial
 | _::_,_::_,_::_,h1,h2=>⟨aFD h1.1 h2.1,tO h1.2 h2.2⟩
 | [],[],_::_,_,h=>h.elim
 | [],_::_,_,h,_=>h.elim
 | _::_,[],_,h,_=>h.elim
 | _::_,_::_,[],_,h=>h.elim
theorem aIo {l:List Cl}:∀{a b:List Tp},gS (l.length:Int) a→gS (l.length:Int) b→leS l a b→leS l b a→a=b
 | [],[],_,_,_,_=>rfl
 | _::_,_::_,ga,gb,h1,h2=>by rw[aLk (gL ga).1 (gL gb).1 h1.1 h2.1,aIo (gL ga).2 (gL gb).2 h1.2 h2.2]
 | [],_::_,_,_,h,_=>h.elim
 | _::_,[],_,_,h,_=>h.elim
theorem aD8 {l:List Cl}:∀(n:Nat) {a b:List Tp},leS l a b→leS l (a.drop n) (b.drop n)
 | 0,_,_,h=>h
 | _+1,[],[],h=>h
 | n+1,_::_,_::_,h=>aD8 n h.2
 | _+1,[],_::_,h=>h.elim
 | _+1,_::_,[],h=>h.elim
theorem aIn {l:List Cl}:∀(n:Nat) {a b:List Tp},leS l a b→leS l (a.take n) (b.take n)
 | 0,_,_,_=>trivial
 | _+1,[],[],h=>h
 | n+1,_::_,_::_,h=>⟨h.1,aIn n h.2⟩
 | _+1,[],_::_,h=>h.elim
 | _+1,_::_,[],h=>h.elim
theorem aD9 {l:List Cl}:∀{a b c d:List Tp},leS l a b→leS l c d→leS l (a++c) (b++d)
 | [],[],_,_,_,h=>h
 | _::_,_::_,_,_,h1,h2=>⟨h1.1,aD9 h1.2 h2⟩
 | [],_::_,_,_,h,_=>h.elim
 | _::_,[],_,_,h,_=>h.elim
theorem aHU {l:List Cl}:∀{a s:List Tp},a.length=s.length→gS (l.length:Int) a→gS (l.length:Int) s→(∀t∈cC l a s,t.1≠0)→leS l a (cC l a s)∧leS l s (cC l a s)∧gS (l.length:Int) (cC l a s)
 | [],[],_,_,_,_=>⟨trivial,trivial,fun _ h=>(by cases h)⟩
 | [],_::_,h,_,_,_=>by cases h
 | _::_,[],h,_,_,_=>by cases h
 | x::a,y::s,h,ga,gs,hz=>by
  have hm:cC l (x::a) (y::s)=gJ l x y::cC l a s:=rfl
  rw[hm] at hz⊢
  obtain⟨i1,i2,i3⟩:=aHU (l:=l) (a:=a) (s:=s) (by simpa using h) (gL ga).2 (gL gs).2 fun t ht=>hz t (bJ _ ht)
  obtain⟨j1,j2,j3⟩:=aQk (gL ga).1 (gL gs).1 (hz _ (bR ..))
  exact⟨⟨j1,i1⟩,⟨j2,i2⟩,fun t ht=>by
   rcases bL.1 ht with rfl | ht
   ·exact j3
   ·exact i3 t ht⟩
theorem aHV {l:List Cl}:∀{a s c:List Tp},gS (l.length:Int) a→gS (l.length:Int) s→gS (l.length:Int) c→leS l a c→leS l s c→(∀t∈cC l a s,t.1≠0)∧leS l (cC l a s) c
 | [],[],[],_,_,_,_,_=>⟨fun _ h=>(by cases h),trivial⟩
 | x::a,y::s,z::c,ga,gs,gc,h1,h2=>by
  have hm:cC l (x::a) (y::s)=gJ l x y::cC l a s:=rfl
  rw[hm]
  obtain⟨i1,i2⟩:=aHV (gL ga).2 (gL gs).2 (gL gc).2 h1.2 h2.2
  obtain⟨j1,j2⟩:=aQm (gL ga).1 (gL gs).1 (gL gc).1 h1.1 h2.1
  exact⟨fun t ht=>by
   rcases bL.1 ht with rfl | ht
   ·exact j1
   ·exact i1 t ht,⟨j2,i2⟩⟩
 | [],_,_::_,_,_,_,h,_=>h.elim
 | _::_,_,[],_,_,_,h,_=>h.elim
 | [],_::_,[],_,_,_,_,h=>h.elim
 | _::_,[],_::_,_,_,_,_,h=>h.elim
end Go.Pli

namespace Go.Pli
open Go Go.PM
abbrev nC (m:Im):Int:=(m.1.length:Int)
theorem aEn {m:Im} {l:List Tp} (h:fK m l=true) {k:Nat} (hk:k<l.length):gT (nC m) (l.getD k zTp):=by
 rw[getD_some (aT hk)]
 exact .inl (bO.1 h _ (dX hk))
theorem aP3 {m:Im} (hs:aJ m=true) {f:Int} (hf:inM m f=true) {n:Int} (hn:sin n (((aD m f).1.length+(aD m f).2.1.length:Nat):Int)=true):gT (nC m) (jS (aD m f) n):=by
 have h:=oZ hs hf
 simp only[fC,aC] at h
 simp only[sin,aC,aP] at hn
 unfold jS
 rw[bM (show ¬n<0 by omega),aB,aEs]
 split
 ·exact aEn h.1 (by assumption)
 ·exact aEn h.2.1 (by omega)
theorem aNE {m:Im} (hs:aJ m=true) {f:Int} (hf:inM m f=true) (h5:((aD m f).2.2.1.1 !=5)=true):gT (nC m) (aD m f).2.2.1:=by
 have h:=oZ hs hf
 simp only[fC,aC,eT] at h
 rcases h.2.2.1 with h | h
 ·have:(aD m f).2.2.1=(5,0,()):=by simpa using h
  rw[this] at h5;cases h5
 ·exact .inl h
theorem aRm {m:Im} (hs:aJ m=true) {c:Int} {k:Nat} (hk:k<(dP m c).length):gT (nC m) ((dP m c).getD k zTp):=by
 rw[getD_some (aT hk)]
 have ht:=dX hk
 generalize (dP m c)[k]=t at ht
 unfold dP at ht
 simp only[iX,fR,List.mem_reverse] at ht
 obtain⟨x,⟨s,hsm,rfl⟩,ht⟩:=ht
 have hin:sin s (m.1.length:Int)=true:=by
  unfold cG at hsm
  cases hd:decide (c<(m.1.length:Int)) <;> simp only[hd,aA,aB] at hsm
  ·cases hsm
  ·have:=oO _ _ (hC _) hsm
   have hd:c<(m.1.length:Int):=by simpa using hd
   simp only[sin,aC,aP]
   omega
 exact .inl (bO.1 (aJj hs s hin) t ht)
theorem aKd {m:Im} {c:Int} (h:sin c (m.1.length:Int)=true):gT (nC m) (tR c):=by
 simp only[sin,aC,aP] at h
 refine .inl ?_
 simp only[gI,tR]
 rw[aI h.1,aI h.2]
 rfl
def rV (n:Int) (e:Eff):Prop:=gS n e.2.1
theorem mQ {n:Int} {a:List Tp}:rV n (a,[],()):=fun _ h=>by cases h
theorem jQ {n:Int} {a:List Tp} {t:Tp} (h:gT n t):rV n (a,[t],()):=fun _ hx=>by rw[dV] at hx;subst hx;exact h
theorem aHu {m:Im} (hs:aJ m=true) {g:Int} (hg:inM m g=true) (t:List Tp):rV (nC m) (iU (aD m g) t):=by
 unfold iU
 cases h:(aD m g).2.2.1.1 !=5 <;> simp only[aA,aB]
 ·exact mQ
 ·exact jQ (aNE hs hg h)
theorem aO2 {n:Int} (o:Int):rV n (eP o).1:=by
 have h1:gT n tI:= .inl rfl
 have h2:gT n tA:= .inl rfl
 have h3:gT n tN:= .inr rfl
 have P:∀{b:Bool} {x y:Eff×Bool×Unit},rV n x.1→rV n y.1→rV n (bif b then x else y).1:=fun {b} {x} {y} h1 h2=>by cases b;exact h2;exact h1
 unfold eP
 exact P (jQ h3) (P mQ (P (jQ h1) (P (jQ h1) (P (jQ h1) (P mQ (P (jQ h1) (P (jQ h1) (P mQ (P mQ (P (jQ h2) (P (jQ h1) mQ)))))))))))
theorem aHt {m:Im} (hs:aJ m=true) {i:Ins} {f:Int} (hf:inM m f=true) (hi:cM m (aD m f) i=true):rV (nC m) (eQ m (aD m f) i):=by
 have hcl:=uX hs
 rcases i with⟨o,a,b,⟨⟩⟩
 unfold eQ
 cases hp:(eP o).2.1
 case true=>exact aO2 _
 simp only[aB]
 cases e:o==3
 case true=>
  obtain rfl:o=3:=by simpa using e
  exact jQ (aP3 hs hf (by simpa[cM] using hi))
 simp only[aB]
 cases e:o==4
 case true=>exact mQ
 simp only[aB]
 cases e:o==22
 case true=>
  obtain rfl:o=22:=by simpa using e
  exact jQ (aKd (by simpa[cM] using hi))
 simp only[aB]
 cases e:o==27
 case true=>
  obtain rfl:o=27:=by simpa using e
  have:sin a (m.1.length:Int)=true∧sin b (jF m a:Int)=true:=by simpa[cM] using hi
  obtain⟨h1,h2⟩:=this
  simp only[sin,aC,aP] at h1 h2
  rw[←zZ h1.2] at h2
  exact jQ (aRm hs (by omega))
 simp only[aB]
 cases e:o==28
 case true=>exact mQ
 simp only[aB]
 cases e:o==29
 case true=>
  obtain rfl:o=29:=by simpa using e
  have:sin a (m.2.1.length:Int)=true:=by simpa[cM] using hi
  simp only[sin,aC,aP] at this
  exact jQ (aEn (aF0 hs) (by omega))
 simp only[aB]
 cases e:o==30
 case true=>exact mQ
 simp only[aB]
 cases e:o==31
 case true=>
  obtain rfl:o=31:=by simpa using e
  have:sin a (m.2.2.2.1.length:Int)=true:=by simpa[cM] using hi
  exact aHu hs this _
 simp only[aB]
 cases e:o==32
 case true=>
  obtain rfl:o=32:=by simpa using e
  have:sin a (m.1.length:Int)=true∧sin b ((bZ m a).2.2.1.length:Int)=true:=by simpa[cM] using hi
  have hsl:iG m a b=true:=by unfold iG;unfold sin at this;rw[this.1,this.2];rfl
  have h1:=yD hsl
  simp only[sin,aC,aP] at this
  obtain⟨h2,h3⟩:=sN (uJ hcl this.1.1 this.1.2) h1
  exact aHu hs (bC.2 h2) _
 simp only[aB]
 cases e:o==34
 case true=>
  obtain rfl:o=34:=by simpa using e
  exact jQ (aKd (by simpa[cM] using hi))
 simp only[aB]
 cases o==33 <;> simp only[aA,aB]
 ·exact mQ
 ·cases (aD m f).2.2.1.1 !=5 <;> exact mQ
theorem aAI {m:Im} (hs:aJ m=true) {f pc:Int} {s:List Tp} (hok:gS (nC m) s):gS (nC m) (aQ m f pc s).1:=by
 have nil:gS (nC m) []:=fun _ h=>by cases h
 unfold aQ
 cases hf:inM m f
 ·exact nil
 cases hp:sin pc (codeN m f:Int)
 ·exact nil
 simp only[aH,aY,aB]
 cases (eB (aG m f pc) pc).contains (codeN m f:Int)
 case true=>exact nil
 simp only[aB]
 cases h6:(aG m f pc).1==6 <;> simp only[aA,aB]
 ·have ho:=aHt hs hf (sQ hs hf hp)
  unfold nP
  generalize eQ m (aD m f) (aG m f pc)=E at ho⊢
  cases decide (s.length<E.1.length) || decide (s.length - E.1.length+E.2.1.length>8) <;> simp only[aA,aB]
  ·cases ((s.drop (s.length - E.1.length)).zip E.1).all fun p=>eC m (aG m f pc).1 p.1 p.2 <;> simp only[aA,aB]
   ·exact nil
   ·intro t ht
    rcases cJ.1 ht with ht | ht
    ·exact hok t (aE3 ht)
    ·exact ho t ht
  ·exact nil
 ·cases decide (s.length=0) || decide (s.length≥8) <;> simp only[aA,aB]
  ·intro t ht
   rcases cJ.1 ht with ht | ht
   ·exact hok t ht
   ·exact hok t (List.mem_of_mem_drop ht)
  ·exact nil
theorem aRe {m:Im} {o:Int} {a b w:Tp} (h:cR m.1 a b=true) (hb:eC m o b w=true):eC m o a w=true:=by
 unfold eC at hb⊢
 cases h0:w.1==0 <;> simp only[h0,aA,aB] at hb⊢
 cases h4:w.1==4 <;> simp only[h4,aA,aB] at hb⊢
 ·exact aFD h hb
 ·simp only[aC,eT,bne_iff_ne] at hb⊢
  rcases iZ.1 h with⟨a4,_⟩ | ⟨a3,_⟩ | ⟨rfl,_⟩
  ·exact⟨wH.2 (.inr (.inr a4)),.inr (by omega)⟩
  ·exact⟨wH.2 (.inr (.inl a3)),.inr (by omega)⟩
  ·exact hb
theorem aKP {m:Im} {o:Int}:∀{a b:List Tp} {w:List Tp},leS m.1 a b→((b.zip w).all fun p=>eC m o p.1 p.2)=true→((a.zip w).all fun p=>eC m o p.1 p.2)=true
 | [],[],_,_,_=>by simp
 | x::a,y::b,[],_,_=>by simp
 | x::a,y::b,w::ws,hle,h=>by
  simp only[List.zip_cons_cons,fS,aC] at h⊢
  exact⟨aRe hle.1 h.1,aKP hle.2 h.2⟩
 | [],_::_,_,h,_=>h.elim
 | _::_,[],_,h,_=>h.elim
theorem aFJ {m:Im} (hs:aJ m=true) {f pc:Int} {s t:List Tp} (hle:leS m.1 s t) (h:(aQ m f pc t).2.2.1=0):
  (aQ m f pc s).2.2.1=0∧(aQ m f pc s).2.1=(aQ m f pc t).2.1∧leS m.1 (aQ m f pc s).1 (aQ m f pc t).1:=by
 have hlen:=rF hle
 unfold aQ at h⊢
 cases hf:inM m f
 ·rw[hf] at h;simp at h
 cases hp:sin pc (codeN m f:Int)
 ·rw[hf,hp] at h;simp at h
 simp only[hf,hp,aH,aY,aB] at h⊢
 cases hn:(eB (aG m f pc) pc).contains (codeN m f:Int)
 case true=>rw[hn] at h;simp at h
 simp only[hn,aB] at h⊢
 have hi:=sQ hs hf hp
 cases h6:(aG m f pc).1==6 <;> simp only[h6,aA,aB] at h⊢
 ·have ho:=aHt hs hf hi
  unfold nP at h⊢
  rw[hlen]
  generalize eQ m (aD m f) (aG m f pc)=E at h ho⊢
  cases hb:decide (t.length<E.1.length) || decide (t.length - E.1.length+E.2.1.length>8) <;> simp only[hb,aA,aB] at h⊢
  ·cases hz:((t.drop (t.length - E.1.length)).zip E.1).all fun p=>eC m (aG m f pc).1 p.1 p.2 <;> simp only[hz,aA,aB] at h⊢
   ·cases h
   ·rw[aKP (aD8 _ hle) hz]
    exact⟨rfl,rfl,aD9 (aIn _ hle) (zS ho)⟩
  ·cases h
 ·rw[hlen]
  cases hb:decide (t.length=0) || decide (t.length≥8) <;> simp only[hb,aA,aB] at h⊢
  ·exact⟨trivial,trivial,aD9 hle (aD8 _ hle)⟩
  ·cases h
structure Gd (m:Im) (N:Nat) (h:List Sh):Prop where
 len:h.length=N
 good:∀s∈h,s.2.1.length≤8∧gS (nC m) s.2.1
 bare:∀s∈h,s.1=false→s=zSh
def sh (h:List Sh) (k:Nat):Sh:=h.getD k zSh
theorem Gd.at' {m:Im} {N:Nat} {h:List Sh} (hg:Gd m N h) (k:Nat):(sh h k).2.1.length≤8∧gS (nC m) (sh h k).2.1:=by
 unfold sh
 by_cases hk:k<h.length
 ·rw[getD_some (aT hk)];exact hg.good _ (dX hk)
 ·rw[gB (by omega)];exact⟨dL _,fun _ h=>by cases h⟩
def Bel (m:Im) (h S:List Sh):Prop:=∀k,(sh h k).1=true→(sh S k).1=true∧leS m.1 (sh h k).2.1 (sh S k).2.1
def Cov (m:Im) (f:Int) (h:List Sh) (pc:Nat):Prop:=
 (aQ m f (pc:Int) (sh h pc).2.1).2.2.1=0∧∀to∈(aQ m f (pc:Int) (sh h pc).2.1).2.1,(sh h to.toNat).1=true∧leS m.1 (aQ m f (pc:Int) (sh h pc).2.1).1 (sh h to.toNat).2.1
structure PF (m:Im) (f:Int) (S:List Sh):Prop where
 gd:Gd m (codeN m f) S
 start:(sh S 0).1=true∧(sh S 0).2.1=[]
 cov:∀pc,(sh S pc).1=true→Cov m f S pc
theorem aKH {m:Im} {N:Nat} {h:List Sh} (hg:Gd m N h):Bel m h h:=fun k hk=>⟨hk,zS (hg.at' k).2⟩
theorem aKF {m:Im} {a b c:List Sh} (h1:Bel m a b) (h2:Bel m b c):Bel m a c:=fun k hk=>by
 obtain⟨i1,i2⟩:=h1 k hk
 obtain⟨j1,j2⟩:=h2 k i1
 exact⟨j1,tO i2 j2⟩
theorem aCi {m:Im} {N:Nat} {a b:List Sh} (ga:Gd m N a) (gb:Gd m N b) (h1:Bel m a b) (h2:Bel m b a):a=b:=by
 refine aE4 (by rw[ga.len,gb.len]) fun k k1 k2=>?_
 have e1:sh a k=a[k]:=getD_some (aT k1)
 have e2:sh b k=b[k]:=getD_some (aT k2)
 rw[←e1,←e2]
 have key:∀(x y:Sh),x.1=y.1→x.2.1=y.2.1→x=y:=by
  rintro ⟨x1,x2,⟨⟩⟩ ⟨y1,y2,⟨⟩⟩ h1 h2
  simp only at h1 h2
  subst h1 h2
  rfl
 cases hs:(sh a k).1
 ·cases hb:(sh b k).1
  ·rw[e1] at hs⊢
   rw[e2] at hb⊢
   rw[ga.bare _ (dX k1) hs,gb.bare _ (dX k2) hb]
  ·have:=(h2 k hb).1
   rw[hs] at this;cases this
 ·obtain⟨i1,i2⟩:=h1 k hs
  exact key _ _ (by rw[hs,i1]) (aIo (ga.at' k).2 (gb.at' k).2 i2 (h2 k i1).2)
theorem oY {h:List Sh} {k:Nat} (hk:k<h.length) (s:Sh) (j:Nat):sh (h.set k s) j=if j=k then s else sh h j:=by
 unfold sh
 rw[dA,dA,gD]
 by_cases hj:k=j
 ·subst hj;simp[hk]
 ·have:¬j=k:=fun h=>hj h.symm
  simp[hj,this]
theorem aHW {m:Im} {o:Sh} {s:List Tp} (ho:o.2.1.length≤8∧gS (nC m) o.2.1) (hs8:s.length≤8) (hs:gS (nC m) s) (h:(dC m.1 o s).2.2.1=true):
  ((dC m.1 o s).1.2.1.length≤8∧gS (nC m) (dC m.1 o s).1.2.1)∧(dC m.1 o s).1.1=true∧leS m.1 s (dC m.1 o s).1.2.1∧(o.1=true→leS m.1 o.2.1 (dC m.1 o s).1.2.1)∧((dC m.1 o s).2.1=false→o.1=true∧(dC m.1 o s).1.2.1=o.2.1):=by
 unfold dC at h⊢
 cases h1:o.1 <;> simp only[h1,aY,cF,aA,aB] at h⊢
 ·exact⟨⟨hs8,hs⟩,trivial,zS hs,fun h=>(by cases h),fun h=>(by cases h)⟩
 ·cases h2:decide (o.2.1.length≠s.length) <;> simp only[h2,aA,aB] at h⊢
  ·have hlen:o.2.1.length=s.length:=by simpa using h2
   cases h3:(cC m.1 o.2.1 s).any fun t=>t.1==0 <;> simp only[h3,aA,aB] at h⊢
   ·have hz:∀t∈cC m.1 o.2.1 s,t.1≠0:=fun t ht h0=>by
     have:((cC m.1 o.2.1 s).any fun t=>t.1==0)=true:=eY.2 ⟨t,ht,by simp[h0]⟩
     rw[h3] at this;cases this
    obtain⟨i1,i2,i3⟩:=aHU hlen ho.2 hs hz
    refine⟨⟨by rw[wA m.1 hlen];exact hs8,i3⟩,trivial,i2,fun _=>i1,fun h=>⟨trivial,by simpa using h⟩⟩
   ·cases h
  ·cases h
theorem aPD {m:Im} {o S:Sh} {s:List Tp} (ho:gS (nC m) o.2.1) (hS:gS (nC m) S.2.1) (hs:gS (nC m) s) (h1:o.1=true→leS m.1 o.2.1 S.2.1) (h2:leS m.1 s S.2.1):
  (dC m.1 o s).2.2.1=true∧leS m.1 (dC m.1 o s).1.2.1 S.2.1:=by
 unfold dC
 cases ho1:o.1 <;> simp only[aY,cF,aA,aB]
 ·exact⟨trivial,h2⟩
 ·have hle:=h1 ho1
  have hlen:o.2.1.length=s.length:=by rw[rF hle,rF h2]
  have e:decide (o.2.1.length≠s.length)=false:=bM fun h=>h hlen
  rw[e]
  simp only[aB]
  obtain⟨i1,i2⟩:=aHV ho hs hS hle h2
  have h3:((cC m.1 o.2.1 s).any fun t=>t.1==0)=false:=by
   cases hh:(cC m.1 o.2.1 s).any fun t=>t.1==0
   ·rfl
   ·obtain⟨t,ht,h0⟩:=eY.1 hh
    exact absurd (by simpa using h0) (i1 t ht)
  rw[h3]
  exact⟨rfl,i2⟩
end Go.Pli

namespace Go.Pli
open Go Go.PM
theorem aLq {m:Im} (hs:aJ m=true) {f pc:Int} {s:List Tp} (h:(aQ m f pc s).2.2.1=0):(aQ m f pc s).1.length≤s.length+1:=by
 unfold aQ at h⊢
 cases hf:inM m f
 ·rw[hf] at h;simp at h
 cases hp:sin pc (codeN m f:Int)
 ·rw[hf,hp] at h;simp at h
 simp only[hf,hp,aH,aY,aB] at h⊢
 cases hn:(eB (aG m f pc) pc).contains (codeN m f:Int)
 case true=>rw[hn] at h;simp at h
 simp only[hn,aB] at h⊢
 cases h6:(aG m f pc).1==6 <;> simp only[h6,aA,aB] at h⊢
 ·have ho:(eQ m (aD m f) (aG m f pc)).2.1.length≤1:=by
   have C:∀(x:Mt) (t:List Tp),(iU x t).2.1.length≤1:=fun x t=>by
    unfold iU
    cases x.2.2.1.1 !=5 <;> simp
   have P:∀{b:Bool} {x y:Eff},x.2.1.length≤1→y.2.1.length≤1→(bif b then x else y).2.1.length≤1:=fun {b} {x} {y} h1 h2=>by cases b;exact h2;exact h1
   have Q:∀{b:Bool} {x y:Eff×Bool×Unit},x.1.2.1.length≤1→y.1.2.1.length≤1→(bif b then x else y).1.2.1.length≤1:=fun {b} {x} {y} h1 h2=>by cases b;exact h2;exact h1
   have h1:∀(a:List Tp) (t:Tp),((a,[t],()):Eff).2.1.length≤1:=fun _ _=>aU _
   have h0:∀(a:List Tp),((a,[],()):Eff).2.1.length≤1:=fun _=>dL _
   have hp:(eP (aG m f pc).1).1.2.1.length≤1:=by
    unfold eP
    exact Q (h1 _ _) (Q (h0 _) (Q (h1 _ _) (Q (h1 _ _) (Q (h1 _ _) (Q (h0 _) (Q (h1 _ _) (Q (h1 _ _) (Q (h0 _) (Q (h0 _) (Q (h1 _ _) (Q (h1 _ _) (h0 _))))))))))))
   unfold eQ
   exact P hp (P (h1 _ _) (P (h0 _) (P (h1 _ _) (P (h1 _ _) (P (h0 _) (P (h1 _ _) (P (h0 _) (P (C _ _) (P (C _ _) (P (h1 _ _) (P (P (h0 _) (h0 _)) (h0 _))))))))))))
  unfold nP at h⊢
  generalize eQ m (aD m f) (aG m f pc)=E at h ho⊢
  cases hb:decide (s.length<E.1.length) || decide (s.length - E.1.length+E.2.1.length>8) <;> simp only[hb,aA,aB] at h⊢
  ·cases hz:((s.drop (s.length - E.1.length)).zip E.1).all fun p=>eC m (aG m f pc).1 p.1 p.2 <;> simp only[hz,aA,aB] at h⊢
   ·exact dL _
   ·rw[aX,bN];omega
  ·exact dL _
 ·cases hb:decide (s.length=0) || decide (s.length≥8) <;> simp only[hb,aA,aB] at h⊢
  ·rw[aX,dW]
   omega
  ·exact dL _
theorem aPB {m:Im} {o:Sh} {s:List Tp} (h:(dC m.1 o s).2.2.1=true) (h':(dC m.1 o s).2.1=true):(dC m.1 o s).1≠o:=by
 unfold dC at h h'⊢
 cases h1:o.1 <;> simp only[h1,aY,cF,aA,aB] at h h'⊢
 ·intro e;rw[←e] at h1;cases h1
 ·cases h2:decide (o.2.1.length≠s.length) <;> simp only[h2,aA,aB] at h h'⊢
  ·cases h3:(cC m.1 o.2.1 s).any fun t=>t.1==0 <;> simp only[h3,aA,aB] at h h'⊢
   ·intro e
    have e2:cC m.1 o.2.1 s=o.2.1:=dK (fun z:Sh=>z.2.1) e
    rw[e2] at h'
    simp at h'
   ·cases h
  ·cases h
theorem aPE {m:Im} {o:Sh} {s:List Tp} (h:(dC m.1 o s).2.2.1=true):(dC m.1 o s).1.2.1.length=s.length:=by
 unfold dC at h⊢
 cases h1:o.1 <;> simp only[h1,aY,cF,aA,aB] at h⊢
 cases h2:decide (o.2.1.length≠s.length) <;> simp only[h2,aA,aB] at h⊢
 ·have hlen:o.2.1.length=s.length:=by simpa using h2
  cases h3:(cC m.1 o.2.1 s).any fun t=>t.1==0 <;> simp only[h3,aA,aB] at h⊢
  ·exact wA m.1 hlen
  ·cases h
 ·cases h
structure aE2 (m:Im) (N:Nat) (a:List Tp) (ts:List Int) (h:List Sh) (q:List Bool) (r:Bool×List Sh×List Bool×Unit):Prop where
 gd:Gd m N r.2.1
 ql:r.2.2.1.length=N
 bel:Bel m h r.2.1
 tos:∀to∈ts,(sh r.2.1 to.toNat).1=true∧leS m.1 a (sh r.2.1 to.toNat).2.1
 same:∀k,r.2.2.1.getD k false=false→q.getD k false=false∧sh r.2.1 k=sh h k
 new:∀k,(sh r.2.1 k).1=true→(sh h k).1=true∧(sh r.2.1 k).2.1.length=(sh h k).2.1.length∨(sh r.2.1 k).2.1.length=a.length
 pn:∀k,r.2.2.1.getD k false=true→q.getD k false=true∨(sh r.2.1 k).1=true
 any:q.any id=true→r.2.2.1.any id=true
 mov:q.any id=false→r.2.2.1.any id=true→r.2.1≠h
theorem aKN {q:List Bool} {k:Nat} (hk:k<q.length):(q.set k true).any id=true:=eY.2 ⟨true,by
 have:=dX (l:=q.set k true) (n:=k) (by rwa [cX])
 rwa [List.getElem_set_self] at this,rfl⟩
theorem aS6 {m:Im} {N:Nat} {h:List Sh} (hg:Gd m N h) {k:Nat} (hk:k<h.length) {s:Sh} (h1:s.1=true) (h2:(sh h k).1=true→leS m.1 (sh h k).2.1 s.2.1):Bel m h (h.set k s):=fun j hj=>by
 rw[oY hk]
 by_cases e:j=k
 ·rw[if_pos e];subst e;exact⟨h1,h2 hj⟩
 ·rw[if_neg e];exact⟨hj,zS (hg.at' j).2⟩
theorem aIP {m:Im} {N:Nat} {h:List Sh} (hg:Gd m N h) {k:Nat} {s:Sh} (h1:s.1=true) (h2:s.2.1.length≤8∧gS (nC m) s.2.1):Gd m N (h.set k s):=
 ⟨by rw[cX,hg.len],fun x hx=>by
  rcases rX hx with hx | rfl
  ·exact hg.good x hx
  ·exact h2,fun x hx hf=>by
  rcases rX hx with hx | rfl
  ·exact hg.bare x hx hf
  ·rw[h1] at hf;cases hf⟩
theorem aBu {m:Im} {N:Nat} {a:List Tp} (ha8:a.length≤8) (ha:gS (nC m) a):∀(ts:List Int) (h:List Sh) (q:List Bool),Gd m N h→q.length=N→(∀to∈ts,0≤to∧to<(N:Int))→
  (gG m.1 a ts h q).1=true→aE2 m N a ts h q (gG m.1 a ts h q)
 | [],h,q,hg,hq,_,_=>⟨hg,hq,aKH hg,fun _ h=>(by cases h),fun _ h=>⟨h,rfl⟩,fun _ h=> .inl ⟨h,rfl⟩,fun _ h=> .inl h,fun h=>h,fun h1 h2=>by rw[show (gG m.1 a [] h q).2.2.1=q from rfl,h1] at h2;cases h2⟩
 | to::ts,h,q,hg,hq,ht,hr=>by
  obtain⟨t0,t1⟩:=ht to (bR ..)
  have hk:to.toNat<h.length:=by rw[hg.len];omega
  have hkq:to.toNat<q.length:=by rw[hq];omega
  have ht':∀x∈ts,0≤x∧x<(N:Int):=fun x hx=>ht x (bJ _ hx)
  unfold gG at hr⊢
  have hmf:=aHW (m:=m) (o:=h.getD to.toNat zSh) (hg.at' to.toNat) ha8 ha
  have hmm:=aPB (m:=m) (o:=h.getD to.toNat zSh) (s:=a)
  have hml:=aPE (m:=m) (o:=h.getD to.toNat zSh) (s:=a)
  generalize hM:dC m.1 (h.getD to.toNat zSh) a=M at hr hmf hmm hml⊢
  cases h1:M.2.2.1 <;> simp only[h1,aY,cF,aA,aB] at hr⊢
  ·cases hr
  obtain⟨m1,m2,m3,m4,m5⟩:=hmf h1
  cases h2:M.2.1 <;> simp only[h2,aA,aB] at hr⊢
  ·have I:=aBu ha8 ha ts h q hg hq ht' hr
   obtain⟨e1,e2⟩:=m5 h2
   refine⟨I.gd,I.ql,I.bel,fun x hx=>?_,I.same,I.new,I.pn,I.any,I.mov⟩
   rcases bL.1 hx with rfl | hx
   ·obtain⟨b1,b2⟩:=I.bel x.toNat e1
    rw[e2] at m3
    exact⟨b1,tO m3 b2⟩
   ·exact I.tos x hx
  ·have hg':=aIP (k:=to.toNat) hg m2 m1
   have hb:=aS6 hg hk m2 m4
   have I:=aBu ha8 ha ts (h.set to.toNat M.1) (q.set to.toNat true) hg' (by rw[cX,hq]) ht' hr
   have hne:h.set to.toNat M.1≠h:=fun e=>hmm h1 h2 (by
    have:=dK (fun z=>sh z to.toNat) e
    simp only[oY hk] at this
    exact this)
   refine⟨I.gd,I.ql,aKF hb I.bel,fun x hx=>?_,fun k hk0=>?_,fun k hk1=>?_,fun k hk1=>?_,fun _=>I.any (aKN hkq),fun _ _ e=>?_⟩
   ·rcases bL.1 hx with rfl | hx
    ·have e1:sh (h.set x.toNat M.1) x.toNat=M.1:=by rw[oY hk,if_pos rfl]
     obtain⟨b1,b2⟩:=I.bel x.toNat (by rw[e1];exact m2)
     rw[e1] at b2
     exact⟨b1,tO m3 b2⟩
    ·exact I.tos x hx
   ·obtain⟨i1,i2⟩:=I.same k hk0
    have hkn:k≠to.toNat:=fun e=>by
     rw[e,dA,uK hkq] at i1
     cases i1
    rw[oY hk,if_neg hkn] at i2
    rw[dA,qG (fun e=>hkn e.symm),←dA] at i1
    exact⟨i1,i2⟩
   ·rcases I.new k hk1 with⟨i1,i2⟩ | i
    ·by_cases e:k=to.toNat
     ·rw[oY hk,if_pos e] at i2
      exact .inr (by rw[i2,hml h1])
     ·rw[oY hk,if_neg e] at i1 i2
      exact .inl ⟨i1,i2⟩
    ·exact .inr i
   ·rcases I.pn k hk1 with i | i
    ·by_cases e:k=to.toNat
     ·refine .inr (I.bel k ?_).1
      rw[oY hk,if_pos e]
      exact m2
     ·rw[dA,qG (fun e'=>e e'.symm),←dA] at i
      exact .inl i
    ·exact .inr i
   ·refine hne (aCi (N:=N) hg' hg ?_ hb)
    have:=I.bel
    rw[e] at this
    exact this
theorem aBv {m:Im} {N:Nat} {a:List Tp} {S:List Sh} (hS:Gd m N S) (ha8:a.length≤8) (ha:gS (nC m) a):∀(ts:List Int) (h:List Sh) (q:List Bool),Gd m N h→Bel m h S→(∀to∈ts,(0≤to∧to<(N:Int))∧(sh S to.toNat).1=true∧leS m.1 a (sh S to.toNat).2.1)→
  (gG m.1 a ts h q).1=true∧Bel m (gG m.1 a ts h q).2.1 S
 | [],h,q,hg,hb,_=>⟨rfl,hb⟩
 | to::ts,h,q,hg,hb,ht=>by
  obtain⟨⟨t0,t1⟩,t2,t3⟩:=ht to (bR ..)
  have hk:to.toNat<h.length:=by rw[hg.len];omega
  have ht':=fun x hx=>ht x (bJ _ hx)
  unfold gG
  have hmf:=aHW (m:=m) (o:=h.getD to.toNat zSh) (hg.at' to.toNat) ha8 ha
  have hmb:=aPD (m:=m) (o:=h.getD to.toNat zSh) (S:=sh S to.toNat) (hg.at' to.toNat).2 (hS.at' to.toNat).2 ha (fun h1=>(hb to.toNat h1).2) t3
  generalize hM:dC m.1 (h.getD to.toNat zSh) a=M at hmf hmb⊢
  obtain⟨b1,b2⟩:=hmb
  obtain⟨m1,m2,m3,m4,m5⟩:=hmf b1
  rw[b1]
  simp only[aY,aB]
  cases h2:M.2.1 <;> simp only[aA,aB]
  ·exact aBv hS ha8 ha ts h q hg hb ht'
  ·refine aBv hS ha8 ha ts _ _ (aIP hg m2 m1) (fun k hk1=>?_) ht'
   rw[oY hk] at hk1⊢
   by_cases e:k=to.toNat
   ·rw[if_pos e] at hk1⊢;subst e;exact⟨t2,b2⟩
   ·rw[if_neg e] at hk1⊢;exact hb k hk1
def DC (h:List Sh):Prop:=∀k,(sh h k).1=true→∀j,j<(sh h k).2.1.length→∃k',(sh h k').1=true∧(sh h k').2.1.length=j
structure WJ (m:Im) (f:Int) (h:List Sh) (q:List Bool):Prop where
 gd:Gd m (codeN m f) h
 ql:q.length=codeN m f
 start:(sh h 0).1=true∧(sh h 0).2.1=[]
 cov:∀pc,(sh h pc).1=true→q.getD pc false=false→Cov m f h pc
 dc:DC h
 pend:∀pc,q.getD pc false=true→(sh h pc).1=true
theorem aKG {m:Im} {h h':List Sh} (hb:Bel m h h') (hs:(sh h 0).1=true∧(sh h 0).2.1=[]):(sh h' 0).1=true∧(sh h' 0).2.1=[]:=by
 obtain⟨i1,i2⟩:=hb 0 hs.1
 refine⟨i1,?_⟩
 have:=rF i2
 rw[hs.2] at this
 exact List.length_eq_zero_iff.1 this.symm
theorem aR3 {m:Im} {f:Int} {h h':List Sh} (hb:Bel m h h') {pc:Nat} (e:sh h' pc=sh h pc) (hc:Cov m f h pc):Cov m f h' pc:=by
 unfold Cov at hc⊢
 rw[e]
 refine⟨hc.1,fun to ht=>?_⟩
 obtain⟨i1,i2⟩:=hc.2 to ht
 obtain⟨j1,j2⟩:=hb _ i1
 exact⟨j1,tO i2 j2⟩
theorem aDc {q:List Bool} (h:q.any id=true):q.findIdx id<q.length∧q.getD (q.findIdx id) false=true:=by
 have hk:=aI7 h
 refine⟨hk,?_⟩
 have:=List.findIdx_getElem (p:=id) (xs:=q) (w:=hk)
 rw[getD_some (aT hk)]
 exact this
theorem aRO {m:Im} {N:Nat} {a:List Tp} {ts:List Int} {h:List Sh} {q:List Bool} {r:Bool×List Sh×List Bool×Unit} (O:aE2 m N a ts h q r) (hd:DC h) {pc:Nat} (hp:(sh h pc).1=true) (ha:a.length≤(sh h pc).2.1.length+1):DC r.2.1:=by
 have up:∀j,(∃k',(sh h k').1=true∧(sh h k').2.1.length=j)→∃k',(sh r.2.1 k').1=true∧(sh r.2.1 k').2.1.length=j:=by
  rintro j ⟨k',h1,h2⟩
  obtain⟨b1,b2⟩:=O.bel k' h1
  exact⟨k',b1,by rw[←rF b2];exact h2⟩
 intro k hk j hj
 rcases O.new k hk with⟨i1,i2⟩ | i
 ·exact up j (hd k i1 j (by omega))
 ·by_cases e:j=(sh h pc).2.1.length
  ·exact up j ⟨pc,hp,e.symm⟩
  ·exact up j (hd pc hp j (by omega))
theorem aFk {m:Im} (hs:aJ m=true) {f:Int} {h:List Sh} {q:List Bool} (W:WJ m f h q) (ha:q.any id=true)
  (hr:(mI m f (q.findIdx id:Int) h (q.set (q.findIdx id) false)).1=true):
  WJ m f (mI m f (q.findIdx id:Int) h (q.set (q.findIdx id) false)).2.1 (mI m f (q.findIdx id:Int) h (q.set (q.findIdx id) false)).2.2.1:=by
 obtain⟨hk,htrue⟩:=aDc ha
 generalize q.findIdx id=pc at hk htrue hr⊢
 have hp:=W.pend pc htrue
 unfold mI at hr⊢
 rw[aR] at hr⊢
 cases he:(aQ m f (pc:Int) (h.getD pc zSh).2.1).2.2.1 !=0 <;> simp only[he,aA,aB] at hr⊢
 ·have he0:(aQ m f (pc:Int) (h.getD pc zSh).2.1).2.2.1=0:=by simpa using he
  obtain⟨-,-,h8,hto⟩:=nO hs he0
  have hlen:=aLq hs he0
  have O:=aBu (N:=codeN m f) h8 (aAI hs (W.gd.at' pc).2) (aQ m f (pc:Int) (h.getD pc zSh).2.1).2.1 h (q.set pc false) W.gd (by rw[cX,W.ql]) hto hr
  have hO:=aRO O W.dc hp hlen
  have hst:=aKG O.bel W.start
  refine⟨O.gd,O.ql,hst,fun k hk1 hk2=>?_,hO,fun k hk1=>?_⟩
  ·obtain⟨s1,s2⟩:=O.same k hk2
   by_cases e:k=pc
   ·subst e
    refine⟨by rw[s2];exact he0,fun to ht=>?_⟩
    rw[s2] at ht⊢
    exact O.tos to ht
   ·rw[dA,qG (fun e'=>e e'.symm),←dA] at s1
    exact aR3 O.bel s2 (W.cov k (by rw[←s2];exact hk1) s1)
  ·rcases O.pn k hk1 with i | i
   ·by_cases e:k=pc
    ·subst e
     rw[dA,uK hk] at i
     cases i
    ·rw[dA,qG (fun e'=>e e'.symm),←dA] at i
     exact (O.bel k (W.pend k i)).1
   ·exact i
 ·cases hr
theorem aHy {m:Im} (hs:aJ m=true) {f:Int} (hf:inM m f=true) {h:List Sh} {q:List Bool} (hg:Gd m (codeN m f) h) (hq:q.length=codeN m f) (ha:q.any id=true):
  tH m f (q.findIdx id:Int) h (q.set (q.findIdx id) false)=true:=by
 obtain⟨hk,-⟩:=aDc ha
 rw[hq] at hk
 exact OneP.to ⟨hs,hf,by simp only[sin,aC,aP];omega,hg.len,by rw[cX,hq],fun s hs=>fB (by have:=(hg.good s hs).1;omega)⟩
theorem aCD {m:Im} (hs:aJ m=true) {f:Int} (hf:inM m f=true):∀(n:Nat) (h:List Sh) (q:List Bool) (r:List Sh×Int×Int×Unit),WJ m f h q→qH m f n h q=some r→r.2.2.1=0→PF m f r.1∧DC r.1
 | 0,_,_,_,_,h,_=>by cases h
 | n+1,h,q,r,W,hr,h0=>by
  unfold qH at hr
  cases ha:q.any id <;> simp only[ha,aA,aB] at hr
  ·have:=lZ hr
   subst this
   refine⟨⟨W.gd,W.start,fun pc hp=>W.cov pc hp ?_⟩,W.dc⟩
   by_cases hk:pc<q.length
   ·rw[getD_some (aT hk)]
    cases hx:q[pc]
    ·rfl
    ·exact absurd (eY.2 ⟨_,dX hk,hx⟩) (by rw[ha];exact Bool.false_ne_true)
   ·rw[gB (by omega)]
  ·unfold aAC at hr
   rw[aHy hs hf W.gd W.ql ha] at hr
   simp only[aA,aK] at hr
   cases hb:(mI m f (q.findIdx id:Int) h (q.set (q.findIdx id) false)).1 <;> simp only[hb,aY,cF,aA,aB] at hr
   ·have:=lZ hr
    subst this
    cases h0
   ·exact aCD hs hf n _ _ r (aFk hs W ha hb) hr h0
theorem aCE {m:Im} (hs:aJ m=true) {f:Int} (hf:inM m f=true) {S:List Sh} (hS:PF m f S):∀(n:Nat) (h:List Sh) (q:List Bool) (r:List Sh×Int×Int×Unit),WJ m f h q→Bel m h S→qH m f n h q=some r→r.2.2.1=0∧Bel m r.1 S
 | 0,_,_,_,_,_,h=>by cases h
 | n+1,h,q,r,W,hb,hr=>by
  unfold qH at hr
  cases ha:q.any id <;> simp only[ha,aA,aB] at hr
  ·have:=lZ hr
   subst this
   exact⟨rfl,hb⟩
  ·unfold aAC at hr
   rw[aHy hs hf W.gd W.ql ha] at hr
   simp only[aA,aK] at hr
   have key:(mI m f (q.findIdx id:Int) h (q.set (q.findIdx id) false)).1=true∧Bel m (mI m f (q.findIdx id:Int) h (q.set (q.findIdx id) false)).2.1 S:=by
    obtain⟨hk,htrue⟩:=aDc ha
    generalize q.findIdx id=pc at hk htrue
    have hp:=W.pend pc htrue
    obtain⟨p1,p2⟩:=hb pc hp
    obtain⟨c1,c2⟩:=hS.cov pc p1
    obtain⟨s1,s2,s3⟩:=aFJ hs p2 c1
    obtain⟨-,-,h8,hto⟩:=nO hs s1
    unfold mI
    rw[aR]
    rw[show (aQ m f (pc:Int) (h.getD pc zSh).2.1).2.2.1=0 from s1]
    simp only[aER,aB]
    refine aBv hS.gd h8 (aAI hs (W.gd.at' pc).2) _ h _ W.gd hb fun to ht=>⟨hto to ht,?_⟩
    rw[show (aQ m f (pc:Int) (h.getD pc zSh).2.1).2.1=_ from s2] at ht
    obtain⟨d1,d2⟩:=c2 to ht
    exact⟨d1,tO s3 d2⟩
   rw[key.1] at hr
   simp only[aY,aB] at hr
   exact aCE hs hf hS n _ _ r (aFk hs W ha key.1) key.2 hr
theorem yE {m:Im} {f:Int} (hc:0<codeN m f) (k:Nat):sh (hU m f) k=if k=0 then (true,[],()) else zSh:=by
 unfold hU
 rw[oY (by simpa using hc)]
 by_cases e:k=0
 ·rw[if_pos e,if_pos e]
 ·rw[if_neg e,if_neg e]
  unfold sh
  by_cases hk:k<codeN m f
  ·rw[getD_some (aT (by simpa using hk))];simp
  ·rw[gB (by simpa using hk)]
theorem aCT {m:Im} {f:Int}:Gd m (codeN m f) (hU m f):=by
 refine⟨by simp[hU],fun s hs=>?_,fun s hs h=>?_⟩ <;>
  rcases rX hs with hs | rfl
 ·rw[aAo] at hs
  rw[hs.2]
  exact⟨dL _,fun _ h=>by cases h⟩
 ·exact⟨dL _,fun _ h=>by cases h⟩
 ·rw[aAo] at hs
  exact hs.2
 ·cases h
theorem aLu {m:Im} (hs:aJ m=true) {f:Int} (hf:inM m f=true):WJ m f (hU m f) ((List.replicate (codeN m f) false).set 0 true):=by
 have hc:=(eU hs hf).1
 have sq:∀k,((List.replicate (codeN m f) false).set 0 true).getD k false=decide (k=0):=fun k=>by
  by_cases e:k=0
  ·subst e
   rw[dA,uK (by simpa using hc)];rfl
  ·rw[dA,qG (fun e'=>e e'.symm),bM e]
   rw[List.getElem?_replicate]
   split <;> rfl
 refine⟨aCT,by simp,by rw[yE hc];exact⟨rfl,rfl⟩,fun pc h1 h2=>?_,fun k h1 j hj=>?_,fun k h=>?_⟩
 ·rw[sq] at h2
  rw[yE hc,if_neg (by simpa using h2)] at h1
  cases h1
 ·rw[yE hc] at hj
  by_cases e:k=0
  ·rw[if_pos e] at hj;cases hj
  ·rw[if_neg e] at hj;cases hj
 ·rw[sq] at h
  rw[yE hc,if_pos (by simpa using h)]
theorem aAJ {m:Im} (hs:aJ m=true) {f:Int} (hf:inM m f=true) {S:List Sh} (hS:PF m f S):Bel m (hU m f) S:=fun k h=>by
 have hc:=(eU hs hf).1
 rw[yE hc] at h⊢
 by_cases e:k=0
 ·subst e
  rw[if_pos rfl,hS.start.2]
  exact⟨hS.start.1,trivial⟩
 ·rw[if_neg e] at h;cases h
end Go.Pli

namespace Go.Pli
open Go Go.PM
structure xP (m:Im) (N:Nat) (t:Bool) (h:List Sh) (r:Bool×List Sh):Prop where
 gd:Gd m N r.2
 bel:Bel m h r.2
 still:r.1=false→t=false∧r.2=h
 moved:r.1=true→t=true∨r.2≠h
theorem aI1 {m:Im} {N:Nat} {t:Bool} {h:List Sh} (hg:Gd m N h):xP m N t h (t,h):=⟨hg,aKH hg,fun h=>⟨h,rfl⟩,fun h=> .inl h⟩
theorem aQ8 {m:Im} {N:Nat} {t:Bool} {h:List Sh} {r z:Bool×List Sh} (hg:Gd m N h) (h1:xP m N t h r) (h2:xP m N r.1 r.2 z):xP m N t h z:=
 ⟨h2.gd,aKF h1.bel h2.bel,fun hz=>by
  obtain⟨a,b⟩:=h2.still hz
  obtain⟨c,d⟩:=h1.still a
  exact⟨c,b.trans d⟩,fun hz=>by
  rcases h2.moved hz with a | a
  ·rcases h1.moved a with b | b
   ·exact .inl b
   ·refine .inr fun e=>b (aCi h1.gd hg ?_ h1.bel)
    rw[←e];exact h2.bel
  ·refine .inr fun e=>a ?_
   have:Bel m r.2 h:=by rw[←e];exact h2.bel
   rw[e]
   exact aCi hg h1.gd h1.bel this⟩
theorem aBT {m:Im} {N:Nat} {a:List Tp}:∀(ts:List Int) (h:List Sh) (q:List Bool),q.length=N→(∀to∈ts,0≤to∧to<(N:Int))→
  kV m.1 a ts (q.any id) h=bif (gG m.1 a ts h q).1 then some ((gG m.1 a ts h q).2.2.1.any id,(gG m.1 a ts h q).2.1) else none
 | [],_,_,_,_=>rfl
 | to::ts,h,q,hq,ht=>by
  obtain⟨t0,t1⟩:=ht to (bR ..)
  have hkq:to.toNat<q.length:=by rw[hq];omega
  have ht':∀x∈ts,0≤x∧x<(N:Int):=fun x hx=>ht x (bJ _ hx)
  unfold kV gG
  generalize dC m.1 (h.getD to.toNat zSh) a=M
  cases h1:M.2.2.1 <;> simp only[aY,cF,aA,aB]
  cases h2:M.2.1 <;> simp only[aA,aB]
  ·exact aBT ts h q hq ht'
  ·have:=aBT (m:=m) (a:=a) ts (h.set to.toNat M.1) (q.set to.toNat true) (by rw[cX,hq]) ht'
   rw[aKN hkq] at this
   exact this
theorem aCl {N:Nat} (hN:0<N) (t:Bool):(List.replicate N t).any id=t:=by
 cases t
 ·cases h:(List.replicate N false).any id
  ·rfl
  ·obtain⟨x,hx,hx'⟩:=eY.1 h
   rw[aAo] at hx
   rw[hx.2] at hx';cases hx'
 ·exact eY.2 ⟨true,aAo.2 ⟨by omega,rfl⟩,rfl⟩
theorem aKO {m:Im} {N:Nat} {a:List Tp} {ts:List Int} {h:List Sh} {q:List Bool} {r:Bool×List Sh×List Bool×Unit} (O:aE2 m N a ts h q r) (hg:Gd m N h) (h0:r.2.2.1.any id=false):r.2.1=h:=by
 have hk:∀k,sh r.2.1 k=sh h k:=fun k=>(O.same k (by
  by_cases hk:k<r.2.2.1.length
  ·rw[getD_some (aT hk)]
   cases hx:r.2.2.1[k]
   ·rfl
   ·exact absurd (eY.2 ⟨_,dX hk,hx⟩) (by rw[h0];exact Bool.false_ne_true)
  ·rw[gB (by omega)])).2
 refine aE4 (by rw[O.gd.len,hg.len]) fun k k1 k2=>?_
 have:=hk k
 unfold sh at this
 rwa [getD_some (aT k1),getD_some (aT k2)] at this
theorem aI3 {m:Im} (hs:aJ m=true) {f:Int} {pc:Nat} {t:Bool} {h:List Sh} {r:Bool×List Sh} (hg:Gd m (codeN m f) h) (hr:oE m f pc t h=some r):
  xP m (codeN m f) t h r∧(r.1=false→(sh h pc).1=true→Cov m f h pc):=by
 unfold oE at hr
 cases h1:(h.getD pc zSh).1 <;> simp only[h1,aY,cF,aA,aB] at hr
 ·have:=lZ hr
  subst this
  exact⟨aI1 hg,fun _ h2=>by rw[show (sh h pc).1=false from h1] at h2;cases h2⟩
 ·cases he:(aQ m f (pc:Int) (h.getD pc zSh).2.1).2.2.1 !=0 <;> simp only[he,aA,aB] at hr
  ·have he0:(aQ m f (pc:Int) (h.getD pc zSh).2.1).2.2.1=0:=by simpa using he
   obtain⟨-,hp,h8,hto⟩:=nO hs he0
   have hN:0<codeN m f:=by simp only[sin,aC,aP] at hp;omega
   have hE:=aBT (m:=m) (N:=codeN m f) (a:=(aQ m f (pc:Int) (h.getD pc zSh).2.1).1) (aQ m f (pc:Int) (h.getD pc zSh).2.1).2.1 h (List.replicate (codeN m f) t) (by simp) hto
   rw[aCl hN,hr] at hE
   have O:=aBu (N:=codeN m f) h8 (aAI hs (hg.at' pc).2) (aQ m f (pc:Int) (h.getD pc zSh).2.1).2.1 h (List.replicate (codeN m f) t) hg (by simp) hto
   generalize gG m.1 (aQ m f (pc:Int) (h.getD pc zSh).2.1).1 (aQ m f (pc:Int) (h.getD pc zSh).2.1).2.1 h (List.replicate (codeN m f) t)=z at hE O
   cases hz:z.1 <;> rw[hz] at hE <;> simp only[aA,aB] at hE
   ·cases hE
   have O:=O hz
   have:=lZ hE
   subst this
   refine⟨⟨O.gd,O.bel,fun h0=>⟨?_,aKO O hg h0⟩,fun h1=>?_⟩,fun h0 _=>⟨he0,fun to ht=>?_⟩⟩
   ·cases t
    ·rfl
    ·have:=O.any (aCl hN true)
     rw[show z.2.2.1.any id=false from h0] at this;cases this
   ·cases t
    ·exact .inr (O.mov (aCl hN false) h1)
    ·exact .inl rfl
   ·have:=O.tos to ht
    rw[aKO O hg h0] at this
    exact this
  ·cases hr
theorem aBS {m:Im} (hs:aJ m=true) {f:Int}:∀(n:Nat) (t:Bool) (h:List Sh) (r:Bool×List Sh),Gd m (codeN m f) h→jE m f n t h=some r→
  xP m (codeN m f) t h r∧(r.1=false→∀pc,pc<n→(sh h pc).1=true→Cov m f h pc)
 | 0,t,h,r,hg,hr=>by
  have:=lZ hr
  subst this
  exact⟨aI1 hg,fun _ _ h=>(by cases h)⟩
 | n+1,t,h,r,hg,hr=>by
  unfold jE at hr
  cases hz:oE m f n t h with
  | none=>rw[hz] at hr;cases hr
  | some z=>
   rw[hz] at hr
   simp only[aK] at hr
   obtain⟨F1,F2⟩:=aI3 hs hg hz
   obtain⟨G1,G2⟩:=aBS hs n z.1 z.2 r F1.gd hr
   refine⟨aQ8 hg F1 G1,fun h0 pc hp hseen=>?_⟩
   obtain⟨a,b⟩:=G1.still h0
   obtain⟨c,d⟩:=F1.still a
   by_cases e:pc=n
   ·subst e;exact F2 a hseen
   ·have:=G2 h0 pc (by omega)
    rw[d] at this
    exact this hseen
theorem aQ9 {m:Im} {N:Nat} {a:List Tp} {S:List Sh} (hS:Gd m N S) (ha8:a.length≤8) (ha:gS (nC m) a) (hN:0<N) {ts:List Int} {t:Bool} {h:List Sh} (hg:Gd m N h) (hb:Bel m h S) (ht:∀to∈ts,(0≤to∧to<(N:Int))∧(sh S to.toNat).1=true∧leS m.1 a (sh S to.toNat).2.1):
  ∃r,kV m.1 a ts t h=some r∧Bel m r.2 S:=by
 have hE:=aBT (m:=m) (N:=N) (a:=a) ts h (List.replicate N t) (by simp) (fun to h=>(ht to h).1)
 rw[aCl hN] at hE
 obtain⟨b1,b2⟩:=aBv hS ha8 ha ts h (List.replicate N t) hg hb ht
 rw[b1] at hE
 exact⟨_,hE,b2⟩
theorem aI0 {m:Im} (hs:aJ m=true) {f:Int} {S:List Sh} (hS:PF m f S):∀(n:Nat) (t:Bool) (h:List Sh),Gd m (codeN m f) h→Bel m h S→∃r,jE m f n t h=some r∧Bel m r.2 S
 | 0,t,h,_,hb=>⟨_,rfl,hb⟩
 | n+1,t,h,hg,hb=>by
  have key:∃r,oE m f n t h=some r∧Bel m r.2 S:=by
   unfold oE
   cases h1:(h.getD n zSh).1 <;> simp only[aY,cF,aA,aB]
   ·exact⟨_,rfl,hb⟩
   ·obtain⟨p1,p2⟩:=hb n h1
    obtain⟨c1,c2⟩:=hS.cov n p1
    obtain⟨s1,s2,s3⟩:=aFJ hs p2 c1
    obtain⟨-,hp,h8,hto⟩:=nO hs s1
    have hN:0<codeN m f:=by simp only[sin,aC,aP] at hp;omega
    rw[show (aQ m f (n:Int) (h.getD n zSh).2.1).2.2.1=0 from s1]
    simp only[aER,aB]
    refine aQ9 hS.gd h8 (aAI hs (hg.at' n).2) hN hg hb fun to ht=>⟨hto to ht,?_⟩
    rw[show (aQ m f (n:Int) (h.getD n zSh).2.1).2.1=_ from s2] at ht
    obtain⟨d1,d2⟩:=c2 to ht
    exact⟨d1,tO s3 d2⟩
  obtain⟨z,hz,hzb⟩:=key
  obtain⟨F1,-⟩:=aI3 hs hg hz
  obtain⟨r,hr,hrb⟩:=aI0 hs hS n z.1 z.2 F1.gd hzb
  unfold jE
  rw[hz]
  exact⟨r,hr,hrb⟩
def h8 (l:List Cl) (t:Tp):Nat:=if t.1=4 then 8 else if t.1=3 then (cH l t.2.1).length - 1 else 0
theorem aQL {l:List Cl} (hl:l.length≤8) (t:Tp):h8 l t≤8:=by
 have:=aAf hl t.2.1
 unfold h8
 split
 ·omega
 ·split <;> omega
theorem aQK {l:List Cl} (hl:l.length≤8) {a b:Tp} (ga:gT (l.length:Int) a) (gb:gT (l.length:Int) b) (h:cR l a b=true):a=b∨h8 l b<h8 l a:=by
 have hc:=aAf hl b.2.1
 rcases iZ.1 h with⟨a4,hb⟩ | ⟨a3,b3,hab⟩ | ⟨h,_⟩
 ·by_cases b4:b.1=4
  ·have e1:=aBQ ga a4
   have e2:=aBQ gb b4
   exact .inl (sG (by omega) (by omega))
  ·refine .inr ?_
   unfold h8
   rw[if_neg b4,if_pos a4]
   split <;> omega
 ·by_cases e:b.2.1=a.2.1
  ·exact .inl (sG (by omega) e.symm)
  ·refine .inr ?_
   have hb:=oR.1 hab
   have:=(aCa _ _ (hC _) hb.2.2.2).2 e
   have h1:0<(cH l b.2.1).length:=by rw[iA hb.1];simp
   unfold h8
   rw[if_neg (by omega),if_pos b3,if_neg (by omega),if_pos a3]
   omega
 ·exact .inl h
def hs8 (l:List Cl) (s:List Tp):Nat:=bE (s.map (h8 l))
theorem aEk {l:List Cl} (hl:l.length≤8):∀s:List Tp,hs8 l s≤8*s.length
 | []=>aU _
 | t::s=>by
  have:=aEk hl s
  have:=aQL hl t
  unfold hs8 at*
  simp only[dO,bE,aF]
  omega
theorem aIE {l:List Cl} (hl:l.length≤8):∀{a b:List Tp},gS (l.length:Int) a→gS (l.length:Int) b→leS l a b→hs8 l b≤hs8 l a∧(a≠b→hs8 l b<hs8 l a)
 | [],[],_,_,_=>⟨aU _,fun h=>absurd rfl h⟩
 | x::a,y::b,ga,gb,h=>by
  obtain⟨i1,i2⟩:=aIE hl (gL ga).2 (gL gb).2 h.2
  have j:=aQK hl (gL ga).1 (gL gb).1 h.1
  unfold hs8 at*
  simp only[dO,bE]
  rcases j with rfl | j
  ·exact⟨by omega,fun hne=>by have:=i2 fun e=>hne (by rw[e]);omega⟩
  ·exact⟨by omega,fun _=>by omega⟩
 | [],_::_,_,_,h=>h.elim
 | _::_,[],_,_,h=>h.elim
def pw (l:List Cl) (S h:Sh):Nat:=if S.1 then (if h.1 then hs8 l h.2.1 else 1+8*S.2.1.length) else 0
def pot (l:List Cl) (N:Nat) (S h:List Sh):Nat:=bE ((List.range N).map fun k=>pw l (sh S k) (sh h k))
theorem aAF {α:Type} {f g:α→Nat}:∀(l:List α),(∀x∈l,f x≤g x)→bE (l.map f)≤bE (l.map g)
 | [],_=>aU _
 | x::l,h=>by
  have:=aAF l fun y hy=>h y (bJ _ hy)
  have:=h x (bR ..)
  simp only[dO,bE]
  omega
theorem aFB {α:Type} {f g:α→Nat}:∀(l:List α),(∀x∈l,f x≤g x)→(∃x∈l,f x<g x)→bE (l.map f)<bE (l.map g)
 | [],_,h=>by obtain⟨x,hx,_⟩:=h;cases hx
 | x::l,h,⟨y,hy,hlt⟩=>by
  have i:=aAF l fun y hy=>h y (bJ _ hy)
  have j:=h x (bR ..)
  simp only[dO,bE]
  rcases bL.1 hy with rfl | hy
  ·omega
  ·have:=aFB l (fun y hy=>h y (bJ _ hy)) ⟨y,hy,hlt⟩
   omega
theorem aOF {m:Im} (hl:m.1.length≤8) {N:Nat} {S h h':List Sh} (hg:Gd m N h) (hg':Gd m N h') (hb:Bel m h h') (hbS:Bel m h' S) (hne:h'≠h):pot m.1 N S h'<pot m.1 N S h:=by
 have key:∀k,pw m.1 (sh S k) (sh h' k)≤pw m.1 (sh S k) (sh h k)∧(sh h' k≠sh h k→pw m.1 (sh S k) (sh h' k)<pw m.1 (sh S k) (sh h k)):=fun k=>by
  unfold pw
  cases h1:(sh h' k).1
  ·have h0:(sh h k).1=false:=by
    cases h0:(sh h k).1
    ·rfl
    ·have:=(hb k h0).1
     rw[h1] at this;cases this
   rw[h0]
   refine⟨aU _,fun hne=>absurd ?_ hne⟩
   have z:∀{x:List Sh},Gd m N x→(sh x k).1=false→sh x k=zSh:=fun {x} hx h=>by
    unfold sh at h⊢
    by_cases hk:k<x.length
    ·rw[getD_some (aT hk)] at h⊢
     exact hx.bare _ (dX hk) h
    ·exact gB (by omega)
   rw[z hg' h1,z hg h0]
  ·obtain⟨s1,s2⟩:=hbS k h1
   rw[s1]
   cases h0:(sh h k).1 <;> simp only[cD,iY,cO]
   ·have:=aEk hl (sh h' k).2.1
    rw[rF s2] at this
    exact⟨by omega,fun _=>by omega⟩
   ·obtain⟨-,b2⟩:=hb k h0
    obtain⟨c1,c2⟩:=aIE hl (hg.at' k).2 (hg'.at' k).2 b2
    refine⟨c1,fun hne=>c2 fun e=>hne ?_⟩
    generalize sh h' k=x at h1 e⊢
    generalize sh h k=y at h0 e⊢
    obtain⟨x1,x2,⟨⟩⟩:=x
    obtain⟨y1,y2,⟨⟩⟩:=y
    simp only at h1 h0 e
    subst h1 h0 e
    rfl
 refine aFB _ (fun k _=>(key k).1) ?_
 have:∃k,k<N∧sh h' k≠sh h k:=Classical.byContradiction fun hno=>hne (by
  refine aE4 (by rw[hg'.len,hg.len]) fun k k1 k2=>?_
  have e:sh h' k=sh h k:=Classical.byContradiction fun h=>hno ⟨k,by rw[←hg'.len];exact k1,h⟩
  unfold sh at e
  rwa [getD_some (aT k1),getD_some (aT k2)] at e)
 obtain⟨k,hk,hne⟩:=this
 exact⟨k,oT.2 hk,(key k).2 hne⟩
theorem aAG {α:Type} (f g:α→Nat):∀l:List α,bE (l.map fun x=>f x+g x)=bE (l.map f)+bE (l.map g)
 | []=>rfl
 | x::l=>by have:=aAG f g l;simp only[dO,bE];omega
theorem aCP {c:Nat}:∀{N a:Nat},a<N→bE ((List.range N).map fun k=>if k=a then c else 0)=c:=by
 have app:∀(a b:List Nat),bE (a++b)=bE a+bE b:=fun a b=>by
  induction a with
  | nil=>simp[bE]
  | cons x a ih=>simp only[sA,bE,ih];omega
 have z:∀{N a:Nat},N≤a→bE ((List.range N).map fun k=>if k=a then c else 0)=0:=fun {N} {a} h=>by
  induction N with
  | zero=>rfl
  | succ n ih=>
   rw[List.range_succ,jZ,app,ih (by omega)]
   simp only[dO,List.map_nil,bE]
   rw[if_neg (by omega)]
 intro N a h
 induction N with
 | zero=>cases h
 | succ n ih=>
  rw[List.range_succ,jZ,app]
  simp only[dO,List.map_nil,bE]
  by_cases e:n=a
  ·rw[z (by omega),if_pos e];omega
  ·rw[ih (by omega),if_neg e];omega
theorem aFA {f:Nat→Nat} {c:Nat}:∀(N:Nat),(∀k,f k≤c)→bE ((List.range N).map f)≤c*N:=fun N h=>by
 have:=aAF (f:=f) (g:=fun _=>c) (List.range N) fun k _=>h k
 have e:bE ((List.range N).map fun _=>c)=c*N:=by
  have:∀l:List Nat,bE (l.map fun _=>c)=c*l.length:=fun l=>by
   induction l with
   | nil=>rfl
   | cons x l ih=>simp only[dO,bE,ih,aF];rw[Nat.mul_succ];omega
  rw[this,List.length_range]
 omega
theorem aOD {m:Im} {f:Int} (hc:codeN m f≤64) {S h:List Sh} (hl:m.1.length≤8) (hS:PF m f S) (hd:DC S) (hb:Bel m h S):pot m.1 (codeN m f) S h<4000:=by
 let v:Nat→Nat:=fun k=>if (sh S k).1 then 1+8*(sh S k).2.1.length else 0
 have hv:∀k,pw m.1 (sh S k) (sh h k)≤v k:=fun k=>by
  show _≤(if (sh S k).1 then 1+8*(sh S k).2.1.length else 0)
  unfold pw
  split
  ·split
   ·rename_i h1
    have:=aEk hl (sh h k).2.1
    rw[rF (hb k h1).2] at this
    omega
   ·omega
  ·omega
 have h1:pot m.1 (codeN m f) S h≤bE ((List.range (codeN m f)).map v):=aAF _ fun k _=>hv k
 have h65:∀k,v k≤65:=fun k=>by
  show (if (sh S k).1 then 1+8*(sh S k).2.1.length else 0)≤65
  have:=(hS.gd.at' k).1
  split <;> omega
 by_cases h3:∃k,(sh S k).1=true∧2<(sh S k).2.1.length
 ·obtain⟨k,k1,k2⟩:=h3
  obtain⟨k0,a1,a2⟩:=hd k k1 0 (by omega)
  obtain⟨k1',b1,b2⟩:=hd k k1 1 (by omega)
  obtain⟨k2',c1,c2⟩:=hd k k1 2 (by omega)
  have inN:∀{j},(sh S j).1=true→j<codeN m f:=fun {j} h=>by
   by_cases hj:j<codeN m f
   ·exact hj
   ·unfold sh at h
    rw[gB (by rw[hS.gd.len];omega)] at h
    cases h
  have n01:k0≠k1':=fun e=>by subst e;omega
  have n02:k0≠k2':=fun e=>by subst e;omega
  have n12:k1'≠k2':=fun e=>by subst e;omega
  have key:=aFA (f:=fun k=>v k+((if k=k0 then 64 else 0)+((if k=k1' then 56 else 0)+(if k=k2' then 48 else 0)))) (c:=65) (codeN m f) fun k=>by
   have:=h65 k
   by_cases e0:k=k0
   ·have:v k=1:=by show (if (sh S k).1 then 1+8*(sh S k).2.1.length else 0)=1;subst e0;rw[a1,a2];rfl
    simp only[if_pos e0,if_neg (show k≠k1' by omega),if_neg (show k≠k2' by omega)]
    omega
   ·by_cases e1:k=k1'
    ·have:v k=9:=by show (if (sh S k).1 then 1+8*(sh S k).2.1.length else 0)=9;subst e1;rw[b1,b2];rfl
     simp only[if_pos e1,if_neg e0,if_neg (show k≠k2' by omega)]
     omega
    ·by_cases e2:k=k2'
     ·have:v k=17:=by show (if (sh S k).1 then 1+8*(sh S k).2.1.length else 0)=17;subst e2;rw[c1,c2];rfl
      simp only[if_pos e2,if_neg e0,if_neg e1]
      omega
     ·simp only[if_neg e2,if_neg e0,if_neg e1]
      omega
  rw[aAG v,aAG,aAG,aCP (inN a1),aCP (inN b1),aCP (inN c1)] at key
  omega
 ·have:=aFA (f:=v) (c:=17) (codeN m f) fun k=>by
   show (if (sh S k).1 then 1+8*(sh S k).2.1.length else 0)≤17
   split
   ·rename_i hk
    have:¬2<(sh S k).2.1.length:=fun h=>h3 ⟨k,hk,h⟩
    omega
   ·omega
  omega
theorem aNl {m:Im} (hs:aJ m=true) {f:Int} {h:List Sh} {r:Bool×List Sh} (hg:Gd m (codeN m f) h) (hst:(sh h 0).1=true∧(sh h 0).2.1=[]) (hr:jE m f (codeN m f) false h=some r) (h0:r.1=false):PF m f r.2:=by
 obtain⟨F,G⟩:=aBS hs _ _ _ _ hg hr
 obtain⟨-,e⟩:=F.still h0
 rw[e]
 refine⟨hg,hst,fun pc hp=>?_⟩
 by_cases hk:pc<codeN m f
 ·exact G h0 pc hk hp
 ·unfold sh at hp
  rw[gB (by rw[hg.len];omega)] at hp
  cases hp
theorem aGe {m:Im} (hs:aJ m=true) {f:Int}:∀(n:Nat) (h:List Sh),Gd m (codeN m f) h→((sh h 0).1=true∧(sh h 0).2.1=[])→(hZ m f n h=([],false,()))∨((hZ m f n h).2.1=true∧PF m f (hZ m f n h).1)
 | 0,_,_,_=> .inl rfl
 | n+1,h,hg,hst=>by
  unfold hZ
  cases hr:jE m f (codeN m f) false h with
  | none=>exact .inl rfl
  | some r=>
   simp only
   cases h1:r.1 <;> simp only[aA,aB]
   ·exact .inr ⟨trivial,aNl hs hg hst hr h1⟩
   ·obtain⟨F,-⟩:=aBS hs _ _ _ _ hg hr
    exact aGe hs n r.2 F.gd (aKG F.bel hst)
theorem aGg {m:Im} (hs:aJ m=true) {f:Int} {S:List Sh} (hl:m.1.length≤8) (hS:PF m f S):∀(n:Nat) (h:List Sh),Gd m (codeN m f) h→Bel m h S→pot m.1 (codeN m f) S h<n→(hZ m f n h).2.1=true∧Bel m (hZ m f n h).1 S
 | 0,_,_,_,h=>by omega
 | n+1,h,hg,hb,hp=>by
  obtain⟨r,hr,hrb⟩:=aI0 hs hS (codeN m f) false h hg hb
  obtain⟨F,-⟩:=aBS hs _ _ _ _ hg hr
  unfold hZ
  rw[hr]
  simp only
  cases h1:r.1 <;> simp only[aA,aB]
  ·exact⟨trivial,hrb⟩
  ·refine aGg hs hl hS n r.2 F.gd hrb ?_
   have:=aOF hl hg F.gd F.bel hrb ((F.moved h1).resolve_left Bool.false_ne_true)
   omega
theorem aHS {m:Im} (hs:aJ m=true) {f:Int} (hf:inM m f=true):∃r,xT m f=some r∧xO (codeN m f) r.1∧
  (r.2.2.1=0→hZ m f 4000 (hU m f)=(r.1,true,()))∧(r.2.2.1≠0→hZ m f 4000 (hU m f)=([],false,()))∧(r.2.2.1=0→PF m f r.1):=by
 obtain⟨r,hr,hg⟩:=aFn hs hf
 have hl:=(dD (dI hs).1).classes
 have hc:=eU hs hf
 have W:=aLu hs hf
 have hw:=hr
 unfold xT at hw
 rw[hs,hf] at hw
 simp only[aH,aA] at hw
 have R:=aGe hs (f:=f) 4000 (hU m f) aCT W.start
 refine⟨r,hr,hg,fun h0=>?_,fun h0=>?_,fun h0=>(aCD hs hf _ _ _ _ W hw h0).1⟩
 ·obtain⟨P,D⟩:=aCD hs hf _ _ _ _ W hw h0
  obtain⟨e1,e2⟩:=aGg hs hl P 4000 (hU m f) aCT (aAJ hs hf P) (aOD hc.2 hl P D (aAJ hs hf P))
  rcases R with R | ⟨_,R⟩
  ·rw[R] at e1;cases e1
  ·obtain⟨-,b⟩:=aCE hs hf R _ _ _ _ W (aAJ hs hf R) hw
   have e:=aCi R.gd P.gd e2 b
   generalize hZ m f 4000 (hU m f)=z at e1 e
   obtain⟨z1,z2,⟨⟩⟩:=z
   simp only at e1 e
   rw[e1,e]
 ·rcases R with R | ⟨_,R⟩
  ·exact R
  ·exact absurd (aCE hs hf R _ _ _ _ W (aAJ hs hf R) hw).1 h0
theorem aKg {m:Im} (hs:aJ m=true):∀(l:List Int) (out:List (List Sh)),(∀f∈l,inM m f=true)→∃r,rP m l out=some r∧
  (r.2.2.2.1=0→uI m l out=(r.1,-1,()))∧(r.2.2.2.1≠0→uI m l out=([],r.2.1,())∧inM m r.2.1=true)∧(r.2.2.2.1=0→r.1.length=out.length+l.length)
 | [],out,_=>⟨_,rfl,fun _=>rfl,fun h=>absurd rfl h,fun _=>rfl⟩
 | f::l,out,hl=>by
  have hf:=hl f (bR ..)
  obtain⟨r,hr,-,h1,h2,-⟩:=aHS hs hf
  unfold rP uI
  rw[hr]
  simp only[aK]
  cases he:r.2.2.1 !=0 <;> simp only[aA,aB]
  ·rw[h1 (by simpa using he)]
   obtain⟨r',i1,i2,i3,i4⟩:=aKg hs l (out++[r.1]) fun x hx=>hl x (bJ _ hx)
   exact⟨r',i1,i2,i3,fun h0=>by rw[i4 h0];simp;omega⟩
  ·have h0:r.2.2.1≠0:=by simpa using he
   rw[h2 h0]
   exact⟨_,rfl,fun h=>absurd h h0,fun _=>⟨rfl,hf⟩,fun h=>absurd h h0⟩
theorem aLg {m:Im} (hs:aJ m=true):∃r,uU m=some r∧(r.2.2.2.1=0→kN m=some (r.1,-1,())∧r.1.length=m.2.2.2.1.length)∧(r.2.2.2.1≠0→kN m=some ([],r.2.1,())∧inM m r.2.1=true):=by
 obtain⟨r,h1,h2,h3,h4⟩:=aKg hs (ints m.2.2.2.1.length) [] fun f hf=>bC.2 (iQ.1 hf)
 refine⟨r,?_,fun h0=>⟨?_,?_⟩,fun h0=>⟨?_,(h3 h0).2⟩⟩
 ·unfold uU;rw[hs];exact h1
 ·unfold kN;rw[hs,h2 h0];rfl
 ·rw[h4 h0,jC];simp
 ·unfold kN;rw[hs,(h3 h0).1];rfl
end Go.Pli

namespace Go.Pli
open Go Go.PM
theorem sD {n:Int} (h1: -1000000000≤n) (h2:n≤1000000000):IntKind.i64.wrap n=n:=by rw[cY] <;> omega
theorem aIy {m:Im} (hs:aJ m=true) {f:Int} (hf:inM m f=true) {pc:Int} (hp:sin pc (codeN m f:Int)=true):fJ (aG m f pc)=true:=by
 obtain⟨h0,h1⟩:=bC.1 hf
 exact (lK ((dD (dI hs).1).mts _ (pJ h0 h1))).2.2.2.1.2 _ (aEg hp)
theorem aAE {m:Im} (hs:aJ m=true) {f:Int} (hf:inM m f=true) {pc:Int} (hp:sin pc (codeN m f:Int)=true):∀g∈bX m (aG m f pc),inM m g=true:=fun g hg=>
 aCL (aCM (dI hs).2) hf (aDT.1 (iX.2 ⟨_,fR.2 ⟨_,aEg hp,rfl⟩,hg⟩))
theorem aJM {m:Im} (hs:aJ m=true) {f:Int} (hf:inM m f=true) {pc:Int} (hp:sin pc (codeN m f:Int)=true):iH m (aG m f pc)=mO m (aG m f pc):=by
 have hg:=aIy hs hf hp
 have ht:=aAE hs hf hp
 have hfil:(bX m (aG m f pc)).filter (inM m)=bX m (aG m f pc):=List.filter_eq_self.2 ht
 unfold iH mO
 rw[hfil]
 generalize aG m f pc=i at hg
 cases h22:i.1==22 <;> simp only[aA,aB]
 cases h23:i.1==23 <;> simp only[aA,aB]
 have e:i.1=23:=by simpa using h23
 unfold fJ at hg
 rw[e] at hg
 simp only[aC] at hg
 have h1:=hg.2.1
 unfold uP at h1
 rw[show eL 23=1 from rfl] at h1
 simp only[show decide ((0:Int)≥1)=false from rfl,aB,aC,aP] at h1
 congr 2
 omega
theorem aPM {l:List Int} {b:Int} (h:∀x∈l,x≤b):∀a,a≤b→l.foldl max a≤b:=by
 induction l with
 | nil=>exact fun a h=>h
 | cons x l ih=>exact fun a ha=>ih (fun y hy=>h y (bJ _ hy)) _ (by have:=h x (bR ..);omega)
theorem aPN (l:List Int):∀a,a≤l.foldl max a:=by
 induction l with
 | nil=>exact fun a=>fD _
 | cons x l ih=>exact fun a=>Int.le_trans (by omega) (ih (max a x))
theorem aOE {m:Im} (hs:aJ m=true) {f:Int} (hf:inM m f=true):0≤eA m f∧eA m f≤4096:=by
 obtain⟨h0,h1⟩:=bC.1 hf
 exact (lK ((dD (dI hs).1).mts _ (pJ h0 h1))).2.2.2.2.2.1
theorem aON {m:Im} (hs:aJ m=true) {f:Int} (hf:inM m f=true):(eF m f).length=codeN m f∧∀x∈eF m f,0≤x∧x≤4096:=by
 obtain⟨h0,h1⟩:=bC.1 hf
 have:=oZ hs hf
 simp only[fC,aC,aP] at this
 exact⟨this.2.2.2.2.1,(lK ((dD (dI hs).1).mts _ (pJ h0 h1))).2.2.2.2.2.2.2⟩
theorem aRj {m:Im} (hs:aJ m=true) (c:Int):(dP m c).length≤64:=by
 have hl:=(dD (dI hs).1).classes
 have key:∀(l:List Int),(∀s∈l,sin s (m.1.length:Int)=true)→((l.map fun s=>(bZ m s).2.1).flatten).length≤8*l.length:=by
  intro l
  induction l with
  | nil=>intro _;simp
  | cons s l ih=>
   intro h
   have h1:=h s (bR ..)
   simp only[sin,aC,aP] at h1
   have h2:=(aAe ((dD (dI hs).1).cls _ (aB9 h1.1 h1.2))).2.1.1
   have:=ih fun x hx=>h x (bJ _ hx)
   rw[dO,gO,aX,aF]
   omega
 unfold dP
 have hin:∀s∈(cG m.1 c).reverse,sin s (m.1.length:Int)=true:=fun s hs'=>by
  rw[List.mem_reverse] at hs'
  unfold cG at hs'
  cases hd:decide (c<(m.1.length:Int)) <;> simp only[hd,aA,aB] at hs'
  ·cases hs'
  ·have:=oO _ _ (hC _) hs'
   have hd:c<(m.1.length:Int):=by simpa using hd
   simp only[sin,aC,aP]
   omega
 have h1:=key _ hin
 have h2:((cG m.1 c).reverse).length≤8:=by
  rw[List.length_reverse]
  unfold cG
  cases decide (c<(m.1.length:Int)) <;> simp only[aA,aB]
  ·exact dL _
  ·exact aAf hl c
 omega
theorem aR4 {m:Im} (hs:aJ m=true) {f:Int} (hf:inM m f=true) {pc:Int} (hp:sin pc (codeN m f:Int)=true):0≤mO m (aG m f pc)∧mO m (aG m f pc)≤4096:=by
 have hg:=aIy hs hf hp
 have ht:=aAE hs hf hp
 unfold mO
 generalize aG m f pc=i at hg ht
 cases h22:i.1==22 <;> simp only[aA,aB]
 ·cases h23:i.1==23 <;> simp only[aA,aB]
  ·have hx:∀x∈(bX m i).map (eA m),x≤4096:=fun x hx=>by
    obtain⟨g,hg,rfl⟩:=fR.1 hx
    exact (aOE hs (ht g hg)).2
   exact⟨aPN _ 0,aPM hx 0 (by decide)⟩
  ·have e:i.1=23:=by simpa using h23
   unfold fJ at hg
   rw[e] at hg
   simp only[aC] at hg
   have h1:=hg.2.1
   unfold uP at h1
   rw[show eL 23=1 from rfl] at h1
   simp only[show decide ((0:Int)≥1)=false from rfl,aB,aC,aP] at h1
   rw[sD (by omega) (by omega)]
   omega
 ·have:=aRj hs i.2.1
  unfold qN
  omega
end Go.Pli

namespace Go.Pli
open Go Go.PM
theorem aDY {α σ R:Type} {L:σ→(σ→Option R)→Option R} {xs:List α} {st:Nat→σ} {p:α→Bool} {ex:α→Option R} {fin:Option R}
  (h1:∀(k:Nat) (x:α) (rec),xs[k]? =some x→k<xs.length→L (st k) rec=bif p x then ex x else rec (st (k+1)))
  (h2:∀rec,L (st xs.length) rec=fin):∀F:Nat,xs.length<F→aE L F (st 0)=match xs.find? p with
   | some x=>ex x
   | none=>fin:=by
 have key:∀(l pre:List α) (F:Nat),xs=pre++l→l.length<F→aE L F (st pre.length)=match l.find? p with
   | some x=>ex x
   | none=>fin:=by
  intro l
  induction l with
  | nil=>
   intro pre F hx hF
   obtain⟨F,rfl⟩:∃n,F=n+1:=⟨F - 1,by simp at hF;omega⟩
   rw[aZ,List.find?_nil]
   have:pre.length=xs.length:=by rw[hx];simp
   rw[this,h2]
  | cons x l ih=>
   intro pre F hx hF
   obtain⟨F,rfl⟩:∃n,F=n+1:=⟨F - 1,by simp at hF;omega⟩
   rw[aZ,aAp,h1 pre.length x _ (by rw[hx];simp) (by rw[hx];simp)]
   cases hp:p x <;> simp only[aA,aB]
   have:=ih (pre++[x]) F (by rw[hx];simp) (by simp at hF;omega)
   rw[aX] at this
   exact this
 exact fun F hF=>key xs [] F rfl hF
theorem aEy {α R:Type} {p:α→Bool} {ex fin:R}:∀xs:List α,(match xs.find? p with | some _=>ex | none=>fin)=bif xs.any p then ex else fin
 | []=>rfl
 | x::xs=>by
  rw[aAp,List.any_cons]
  cases p x
  ·simp only[jJ]
   exact aEy xs
  ·rfl
theorem aFI {m:Im} {f pc:Int} {s:List Tp} (h:(aQ m f pc s).2.2.1≠0):(aQ m f pc s).2.1=[]:=by
 have C:∀{b:Bool} {x y:St4},(x.2.2.1≠0→x.2.1=[])→(y.2.2.1≠0→y.2.1=[])→((bif b then x else y).2.2.1≠0→(bif b then x else y).2.1=[]):=fun {b} {x} {y} h1 h2=>by cases b;exact h2;exact h1
 revert h
 unfold aQ nP
 exact C (fun _=>rfl) (C (fun _=>rfl) (C (C (fun _=>rfl) (fun h=>absurd rfl h)) (C (fun _=>rfl) (C (fun h=>absurd rfl h) (fun _=>rfl)))))
theorem aOt (m:Im) (l:List (List Sh)) (r) (h:qU m l=some r):∃k,aG0 k m l=some r:=by
 unfold qU at h
 cases hg:aJ m&&zJ m l <;> rw[hg] at h <;> simp only[aA,aB] at h
 ·cases h
 have:=lZ h
 subst this
 simp only[zJ,aC,aP,bO] at hg
 obtain⟨hs,hok,hl,hrow⟩:=hg
 have hfi:=(dI hs).1
 have h12:=(dD hfi).methods
 refine⟨1001,?_⟩
 unfold aG0 tC
 have fold:∀g:Nat,m.2.2.2.1.getD g zMt=aD m (g:Int):=fun g=>by unfold aD;rw[aR]
 have key:=aDY (L:=aBc m l 1001) (xs:=ints m.2.2.2.1.length) (st:=fun k=>((k:Int),())) (p:=nF m l) (ex:=fun f=>some (f,())) (fin:=some ((-1:Int),()))
  (fun f x rec hk hlt=>by
   rw[jC] at hlt
   have hx:x=(f:Int):=by have:=aEd hlt 0;rw[getD_some hk] at this;exact this
   subst hx
   have hf:inM m (f:Int)=true:=bC.2 ⟨by omega,by omega⟩
   have hc:=eU hs hf
   obtain⟨p1,p2⟩:=aON hs hf
   have ephi:(aD m (f:Int)).2.2.2.2.2.2.1=eF m (f:Int):=rfl
   have epot:(aD m (f:Int)).2.2.2.2.2.1=eA m (f:Int):=rfl
   have ecode:(aD m (f:Int)).2.2.2.1.length=codeN m (f:Int):=rfl
   have eins:∀pc:Nat,(aD m (f:Int)).2.2.2.1.getD pc zIns=aG m (f:Int) (pc:Int):=fun pc=>by unfold aG;rw[aR]
   have hphi0:decide ((0:Int)<((eF m (f:Int)).length:Int))=true:=aI (by omega)
   have hw:=bG hlt (show _≤lenMax by simp only[lenMax];omega)
   have hlf:=hrow (f:Int) (iQ.2 (bC.1 hf))
   rw[aR] at hlf
   have hfl:decide ((f:Int)<(l.length:Int))=true:=aI (by omega)
   rw[aBc]
   simp only[dlt hlt,dge,aH,aA,aR,fold,ephi,epot,hphi0]
   unfold nF
   cases hd:decide ((eF m (f:Int)).getD 0 0>eA m (f:Int)) <;> simp only[sB,jJ,aA,aB]
   have inner:=aDY (L:=aBd m l 1001 ((f:Int),()) rec) (xs:=List.range (codeN m (f:Int))) (st:=fun k=>((k:Int),())) (p:=aAj m l (f:Int)) (ex:=fun _=>some ((f:Int),())) (fin:=rec (((f+1:Nat):Int),()))
    (fun pc x rec4 hk2 hlt2=>by
     rw[List.length_range] at hlt2
     have hx:x=pc:=by
      rw[List.getElem?_range hlt2] at hk2
      exact (lZ hk2).symm
     subst hx
     have hp:sin (x:Int) (codeN m (f:Int):Int)=true:=by simp only[sin,aC,aP];omega
     have hpl:decide ((x:Int)<((l.getD f []).length:Int))=true:=aI (by omega)
     have hpp:decide ((x:Int)<((eF m (f:Int)).length:Int))=true:=aI (by omega)
     have hw2:=bG hlt2 (show _≤lenMax by simp only[lenMax];omega)
     have eshape:(l.getD f []).getD x zSh=bS l (f:Int) (x:Int):=by unfold bS;rw[aR,aR]
     have hsl:okL (bS l (f:Int) (x:Int)).2.1=true:=by
      rw[←eshape]
      have:=(aHC hok (n:=f) (by omega)).2
      have hm:(l.getD f []).getD x zSh∈l.getD f []:=by
       have:x<(l.getD f []).length:=by omega
       rw[getD_some (aT this)];exact dX this
      exact fB (this _ hm)
     have hstep:pB m (f:Int) (x:Int) (bS l (f:Int) (x:Int)).2.1=some (aQ m (f:Int) (x:Int) (bS l (f:Int) (x:Int)).2.1):=by unfold pB;rw[hs,hsl];rfl
     have hcost:sX m (aG m (f:Int) (x:Int))=some (mO m (aG m (f:Int) (x:Int)),()):=by
      unfold sX
      rw[hfi,bO.2 (aAE hs hf hp)]
      rfl
     rw[aBd]
     simp only[fold,ecode,dlt hlt2,dge,hfl,hpl,aH,aA,aR,eshape,hstep,hw2,aK]
     unfold aAj
     cases hseen:(bS l (f:Int) (x:Int)).1 <;> simp only[aY,cF,eJ,lA,aA,aB]
     have hts:(aQ m (f:Int) (x:Int) (bS l (f:Int) (x:Int)).2.1).2.1.length≤2∧∀to∈(aQ m (f:Int) (x:Int) (bS l (f:Int) (x:Int)).2.1).2.1,0≤to∧to<(codeN m (f:Int):Int):=by
      refine⟨sL m (f:Int) (x:Int) _,?_⟩
      by_cases e0:(aQ m (f:Int) (x:Int) (bS l (f:Int) (x:Int)).2.1).2.2.1=0
      ·exact (nO hs e0).2.2.2
      ·rw[aFI e0]
       exact fun _ h=>by cases h
     generalize aQ m (f:Int) (x:Int) (bS l (f:Int) (x:Int)).2.1=Z at hts
     obtain⟨hts2,hts⟩:=hts
     have edges:=aDY (L:=aBe m ((f:Int),()) ((x:Int),()) rec4 Z) (xs:=Z.2.1) (st:=fun k=>((k:Int),())) (p:=fun to=>decide ((eF m (f:Int)).getD x 0<IntKind.i64.wrap (mO m (aG m (f:Int) (x:Int))+(eF m (f:Int)).getD to.toNat 0))) (ex:=fun _=>some ((f:Int),())) (fin:=rec4 (((x+1:Nat):Int),()))
      (fun k to rec7 hk3 hlt3=>by
       have hm3:to∈Z.2.1:=iW hk3
       obtain⟨t0,t1⟩:=hts to hm3
       have t2:decide (to<((eF m (f:Int)).length:Int))=true:=aI (by omega)
       have hw3:=bG hlt3 (show _≤lenMax by simp only[lenMax];omega)
       rw[aBe]
       simp only[dlt hlt3,dge,aH,aA,aR,fold,ephi,ecode,eins,dlt hlt2,hpp,hcost,getD_some hk3,t0,t2,aN,hw3,aK])
      (fun rec7=>by
       rw[aBe]
       simp only[bP,aB,hw2]) 1001 (by omega)
     rw[aEy] at edges
     exact edges)
    (fun rec4=>by
     rw[List.length_range,aBd]
     simp only[aR,fold,ecode,bP,aB,hw]) 1001 (by rw[List.length_range];omega)
   rw[aEy] at inner
   exact inner)
  (fun rec=>by
   rw[jC,aBc]
   simp only[bP,aB]) 1001 (by rw[jC];omega)
 refine (show _=_ from key).trans ?_
 cases (ints m.2.2.2.1.length).find? (nF m l) <;> rfl
end Go.Pli

namespace Go.Pli
open Go Go.PM
theorem aSE (s:List Mt):aJ4 s=some (idL s,()):=by simp[aJ4,idL]
theorem aQH (m:Im) (r) (h:wL m=some r):∃k,aIB k m=some r:=by
 unfold wL at h
 cases hi:cN m <;> simp only[hi,aA,aB] at h
 ·cases h
 injection h with h
 subst h
 have hf:=dD hi
 have h8:=hf.classes
 have h12:=hf.methods
 have h16:=hf.ints
 have hst:=hf.statics
 have hent:=hf.entries
 simp only[iF,jU,aC,aP] at hst hent
 refine⟨100,?_⟩
 have k1:aE (aBN m ((m.1.length:Int),(m.1,m.2.1,m.2.2.1,(),m.2.2.2.2.1,m.2.2.2.2.2),())) 100 ((0:Int),([]:List Mt),())=some (m,()):=by
  refine aH7 (xs:=m.2.2.2.1) (f:=id) (st:=fun k acc=>((k:Int),acc,())) (fun k x acc rec hk hlt hacc=>?_) (fun rec=>?_) 100 (by omega)
  ·rw[aBN]
   obtain⟨⟨x1,_⟩,⟨x2,_⟩,_,⟨x4,_⟩,_,_,⟨x7,_⟩⟩:=lK (hf.mts x (iW hk))
   have hroom:∀y:Mt,decide (acc.length+[y].length<rowMax)=true:=fun y=>aI (by simp[rowMax];omega)
   simp only[dlt hlt,dge,aH,aA,aR,getD_some hk,aCo (show x.1.length<1000000 by omega),aCo (show x.2.1.length<1000000 by omega),aTf (show x.2.2.2.1.length<1000000 by omega),
    aEX (show x.2.2.2.2.2.2.1.length<1000000 by omega),aK,hroom,bG hlt (show m.2.2.2.1.length≤lenMax by simp only[lenMax];omega)]
   rfl
  ·rw[aBN]
   simp only[bP,aB,List.map_id]
   rfl
 have k2:aE (aBM m 100) 100 ((0:Int),(([]:List Cl),m.2.1,m.2.2.1,(),m.2.2.2.2.1,m.2.2.2.2.2),())=some (m,()):=by
  refine aH7 (xs:=m.1) (f:=id) (st:=fun k acc=>((k:Int),(acc,m.2.1,m.2.2.1,(),m.2.2.2.2.1,m.2.2.2.2.2),())) (fun k x acc rec hk hlt hacc=>?_) (fun rec=>?_) 100 (by omega)
  ·rw[aBM]
   obtain⟨_,⟨c3,_⟩,⟨c5,_⟩⟩:=aAe (hf.cls x (iW hk))
   have hroom:∀y:Cl,decide (acc.length+[y].length<rowMax)=true:=fun y=>aI (by simp[rowMax];omega)
   simp only[dlt hlt,dge,aH,aA,aR,getD_some hk,aCo (show x.2.1.length<1000000 by omega),aEX (show x.2.2.1.length<1000000 by omega),aK,hroom,
    bG hlt (show m.1.length≤lenMax by simp only[lenMax];omega)]
   rfl
  ·rw[aBM]
   simp only[bP,aB,List.map_id]
   exact k1
 unfold aIB
 rw[aCo (by omega),aTi (by omega),aEX (by omega)]
 exact k2
theorem aSi (m:Im) (f:Int) (r) (h:cof m f=some r):∃k,aJZ k m f=some r:=by
 unfold cof at h
 cases hi:cN m <;> simp only[hi,aA,aB] at h
 ·cases h
 injection h with h
 subst h
 refine⟨(aD m f).2.2.2.1.length+1,?_⟩
 unfold aJZ ofB
 by_cases h0:f<0
 ·have:inM m f=false:=by cases hh:inM m f;rfl;have:=bC.1 hh;omega
  rw[this,aI h0];rfl
 ·by_cases h1:f≥(m.2.2.2.1.length:Int)
  ·have:inM m f=false:=by cases hh:inM m f;rfl;have:=bC.1 hh;omega
   rw[this,bM h0,aI h1];rfl
  ·have hf:inM m f=true:=bC.2 ⟨by omega,by omega⟩
   have hd:m.2.2.2.1.getD f.toNat zMt=aD m f:=rfl
   have hr:(decide (0≤f)&&decide (f<(m.2.2.2.1.length:Int)))=true:=by simp;omega
   have hx:=(lK ((dD hi).mts _ (pJ (show 0≤f by omega) (show f<(m.2.2.2.1.length:Int) by omega)))).2.2.2.1.1
   rw[hf,bM h0,bM h1,hr]
   simp only[aA,aB]
   have:=zM (L:=aB4 m f) (n:=(aD m f).2.2.2.1.length) (B:=8) (st:=fun k out=>(out,(k:Int),())) (f:=fun k=>bX m ((aD m f).2.2.2.1.getD k zIns)) (fin:=fun out=>some (dN (fT out),())) (fun k _=>xW hi _)
    (fun k out rec hk ho=>by
     have ht:∀x,pY m x=some (bX m x,()):=fun x=>by unfold pY;rw[hi];rfl
     have htl:=xW hi ((aD m f).2.2.2.1.getD k zIns)
     rw[aB4]
     simp only[hd,dlt hk,dge,aH,aA,aR,ht,aK,mM (show out.length+(bX m ((aD m f).2.2.2.1.getD k zIns)).length<549755813888 by omega),bG hk (by simp only[lenMax];omega)])
    (fun out rec _=>by rw[aB4];simp only[hd,bP,aB];rfl) ((aD m f).2.2.2.1.length+1) (by omega)
   rw[aGB] at this
   exact this
theorem aH1 {l:List Int} (hl:l.length<1000000):∀(q pre:List Int) (a:Int) (F:Nat),l=pre++q→q.length<F→aE (aBC l) F (a,(pre.length:Int),())=some (q.foldl max a,())
 | [],pre,a,F,hx,hF=>by
  obtain⟨F,rfl⟩:∃n,F=n+1:=⟨F - 1,by simp at hF;omega⟩
  rw[cB] at hx
  rw[aZ,aBC]
  simp only[hx,bP,aB]
  rfl
 | x::q,pre,a,F,hx,hF=>by
  obtain⟨F,rfl⟩:∃n,F=n+1:=⟨F - 1,by simp at hF;omega⟩
  have hk:pre.length<l.length:=by rw[hx,aX];simp
  have hget:l.getD pre.length 0=x:=by rw[hx];simp
  have ih:=aH1 hl q (pre++[x]) (max a x) F (by rw[hx,cK];rfl) (by simp only[aF] at hF;omega)
  simp only[aX,aF,bK,bQ] at ih
  rw[aZ,aBC]
  simp only[dlt hk,dge,aH,aA,aR,hget,bG hk (show _≤lenMax by simp only[lenMax];omega)]
  exact ih
theorem aPJ (l:List Int) (r) (h:wB l=some r):∃k,aH2 k l=some r:=by
 unfold wB at h
 cases hb:okL l&&decide (0<l.length) <;> simp only[hb,aA,aB] at h
 ·cases h
 injection h with h
 subst h
 simp only[aC,aP] at hb
 have hl:=iP hb.1
 refine⟨1000001,?_⟩
 match l,hb.2 with
 | x::q,_=>
  unfold aH2
  rw[bM (by simp only[aF];omega),aB,aI (by simp only[aF];omega),aA]
  have:=aH1 hl q [x] x 1000001 rfl (by simp only[aF] at hl;omega)
  simpa[rA] using this
theorem aMS (m:Im):aF1 m=some (uY m,()):=by
 unfold aF1 uY
 cases decide ((m.2.2.2.1.length:Int)≤12) <;> simp only[aA,aB,eJ,lA]
 cases decide ((m.1.length:Int)≤8) <;> simp only[aA,aB,eJ,lA]
 cases decide ((m.2.2.1.length:Int)≤16) <;> simp only[aA,aB,eJ,lA]
theorem aAS (c:Int) (pc:Nat):∀(q:List Int) (t:Bool) (phi:List Int),(eE c pc q t phi).2.length=phi.length
 | [],_,_=>rfl
 | to::q,t,phi=>by
  unfold eE
  cases decide (IntKind.i64.wrap (c+phi.getD to.toNat 0)>phi.getD pc 0) <;> simp only[aA,aB]
  ·exact aAS c pc q t phi
  ·rw[aAS c pc q];simp
theorem aNG (m:Im) (l:List (List Sh)) (f:Int) (pc:Nat) (t:Bool) (phi:List Int):(jN m l f pc t phi).2.length=phi.length:=by
 unfold jN
 cases !(bS l f (pc:Int)).1 <;> simp only[aA,aB]
 exact aAS ..
theorem aGx (m:Im) (l:List (List Sh)) (f:Int):∀(q:List Nat) (t:Bool) (phi:List Int),(eK m l f q t phi).2.length=phi.length
 | [],_,_=>rfl
 | pc::q,t,phi=>by rw[eK,aGx m l f q,aNG]
theorem aFK {m:Im} (hs:aJ m=true) {f pc:Int} {s:List Tp}:∀to∈(aQ m f pc s).2.1,0≤to∧to<(codeN m f:Int):=by
 intro to ht
 by_cases h:(aQ m f pc s).2.2.1=0
 ·exact (nO hs h).2.2.2 to ht
 ·rw[aFI h] at ht;cases ht
theorem aGw {m:Im} {f:Int} {pc:Nat} (hc:codeN m f<1000000) (hpc:pc<codeN m f) {c:Int} (hcost:mP m (aG m f (pc:Int))=some (c,())) {r6:St4} (hrl:r6.2.1.length<1000000) (hto:∀to∈r6.2.1,0≤to∧to<(codeN m f:Int)) {t0:Bool} {phi0:List Int} {rec4}:
  ∀(q pre:List Int) (t:Bool) (phi:List Int) (F:Nat),r6.2.1=pre++q→q.length<F→phi.length=codeN m f→
   aE (aBm m f (t0,(pc:Int),phi0,()) rec4 r6) F (t,(pre.length:Int),phi,())=rec4 ((eE c pc q t phi).1,((pc+1:Nat):Int),(eE c pc q t phi).2,())
 | [],pre,t,phi,F,hx,hF,hphi=>by
  obtain⟨F,rfl⟩:∃n,F=n+1:=⟨F - 1,by simp at hF;omega⟩
  rw[cB] at hx
  rw[aZ,aBm]
  simp only[hx,bP,aB,bG hpc (show _≤lenMax by simp only[lenMax];omega),eE]
 | to::q,pre,t,phi,F,hx,hF,hphi=>by
  obtain⟨F,rfl⟩:∃n,F=n+1:=⟨F - 1,by simp at hF;omega⟩
  have hk:pre.length<r6.2.1.length:=by rw[hx,aX];simp
  have hget:r6.2.1.getD pre.length 0=to:=by rw[hx];simp
  obtain⟨t1,t2⟩:=hto to (by rw[hx];simp)
  have ih:=fun t' phi' hphi'=>aGw hc hpc hcost hrl hto (t0:=t0) (phi0:=phi0) (rec4:=rec4) q (pre++[to]) t' phi' F (by rw[hx,cK];rfl) (by simp only[aF] at hF;omega) hphi'
  simp only[aX,aF,bK,bQ] at ih
  have fold:∀g:Int,m.2.2.2.1.getD g.toNat zMt=aD m g:=fun _=>rfl
  have fold2:(aD m f).2.2.2.1.getD pc zIns=aG m f (pc:Int):=rfl
  have d1:decide (to<(phi.length:Int))=true:=aI (by rw[hphi];exact t2)
  have d2:decide ((pc:Int)<(phi.length:Int))=true:=by rw[hphi];exact dlt hpc
  rw[aZ,aBm]
  simp only[dlt hk,dge,aH,aA,aR,hget,fold,fold2,hcost,aK,aI t1,d1,d2,bG hk (show _≤lenMax by simp only[lenMax];omega)]
  rw[eE]
  cases decide (IntKind.i64.wrap (c+phi.getD to.toNat 0)>phi.getD pc 0) <;> simp only[aA,aB]
  ·exact ih t phi hphi
  ·exact ih true _ (by rw[cX];exact hphi)
theorem aGc {m:Im} {l:List (List Sh)} {f:Int} (hs:aJ m=true) (hl:eN l=true) (hf:inM m f=true) {fuel:Nat} (hfu:1000<fuel) {s1:Int×List Int×Unit} {rec2}:
  ∀(k pc:Nat) (t:Bool) (phi:List Int) (F:Nat),pc+k=codeN m f→k<F→phi.length=codeN m f→
   aE (zA m l f fuel s1 rec2) F (t,(pc:Int),phi,())=bif !(eK m l f (List.range' pc k) t phi).1 then some ((eK m l f (List.range' pc k) t phi).2,decide (rA ((eK m l f (List.range' pc k) t phi).2++[0])≤4096),())
    else rec2 (IntKind.i64.wrap (s1.1+1),(eK m l f (List.range' pc k) t phi).2,())
 | 0,pc,t,phi,F,hx,hF,hphi=>by
  obtain⟨F,rfl⟩:∃n,F=n+1:=⟨F - 1,by omega⟩
  have hc:=eU hs hf
  have fold:∀g:Int,m.2.2.2.1.getD g.toNat zMt=aD m g:=fun _=>rfl
  have fold3:(aD m f).2.2.2.1.length=codeN m f:=rfl
  have hpc:pc=codeN m f:=by omega
  have hroom:decide (phi.length+([0]:List Int).length<rowMax)=true:=mM (by simp;omega)
  have hmax:wB (phi++[0])=some (rA (phi++[0]),()):=by unfold wB;rw[fB (by simp;omega)];simp
  rw[aZ,zA]
  simp only[fold,fold3,hpc,bP,aB,List.range'_zero,eK,hroom,aH,aA,hmax,aK]
 | k+1,pc,t,phi,F,hx,hF,hphi=>by
  obtain⟨F,rfl⟩:∃n,F=n+1:=⟨F - 1,by omega⟩
  have hc:=eU hs hf
  obtain⟨f0,f1⟩:=bC.1 hf
  have hpc:pc<codeN m f:=by omega
  have ih:=fun t' phi' hphi'=>aGc hs hl hf hfu (s1:=s1) (rec2:=rec2) k (pc+1) t' phi' F (by omega) (by omega) hphi'
  have fold:∀g:Int,m.2.2.2.1.getD g.toNat zMt=aD m g:=fun _=>rfl
  have fold3:(aD m f).2.2.2.1.length=codeN m f:=rfl
  have hp:pE l f (pc:Int)=some (bS l f (pc:Int),()):=by unfold pE;simp only[f0,dge,aN,aH,aA]
  have hst:pT m f (pc:Int) (bS l f (pc:Int)).2.1=some (aQ m f (pc:Int) (bS l f (pc:Int)).2.1):=by unfold pT;rw[hs,aFV hl];rfl
  have hcost:mP m (aG m f (pc:Int))=some (iH m (aG m f (pc:Int)),()):=by unfold mP;rw[(dI hs).1];rfl
  have h2:(aQ m f (pc:Int) (bS l f (pc:Int)).2.1).2.1.length≤2:=sL ..
  have d1:decide ((pc:Int)<(codeN m f:Int))=true:=dlt hpc
  rw[aZ,zA]
  simp only[fold,fold3,d1,dge,aH,aA,hp,aK,List.range'_succ]
  have hrel:∀r,eK m l f (pc::r) t phi=eK m l f r (jN m l f pc t phi).1 (jN m l f pc t phi).2:=fun _=>rfl
  rw[hrel]
  cases h1:(bS l f (pc:Int)).1
  case false=>
   have hrp:jN m l f pc t phi=(t,phi):=by unfold jN;rw[h1];rfl
   rw[cF,aA,bG hpc (show _≤lenMax by simp only[lenMax];omega),hrp]
   exact ih t phi hphi
  have hrp:jN m l f pc t phi=eE (iH m (aG m f (pc:Int))) pc (aQ m f (pc:Int) (bS l f (pc:Int)).2.1).2.1 t phi:=by unfold jN;rw[h1];rfl
  rw[aY,aB,hst,aK]
  have:=aGw (m:=m) (f:=f) (pc:=pc) (by omega) hpc hcost (r6:=aQ m f (pc:Int) (bS l f (pc:Int)).2.1) (Nat.lt_of_le_of_lt h2 (by omega)) (aFK hs) (t0:=t) (phi0:=phi) (rec4:=aE (zA m l f fuel s1 rec2) F) _ [] t phi fuel rfl (Nat.lt_of_le_of_lt h2 (by omega)) hphi
  simp only[bK,Int.cast_ofNat_Int] at this
  refine this.trans ?_
  rw[hrp]
  exact ih _ _ (by rw[aAS];exact hphi)
theorem aOK (m:Im) (l:List (List Sh)) (f:Int) (r) (h:pF m l f=some r):∃k,aHe k m l f=some r:=by
 unfold pF at h
 cases hb:aJ m&&(eN l&&inM m f) <;> simp only[hb,aA,aB] at h
 ·cases h
 injection h with h
 subst h
 simp only[aC] at hb
 obtain⟨hs,hl,hf⟩:=hb
 have hc:=eU hs hf
 obtain⟨f0,f1⟩:=bC.1 hf
 have fold:∀g:Int,m.2.2.2.1.getD g.toNat zMt=aD m g:=fun _=>rfl
 have fold3:(aD m f).2.2.2.1.length=codeN m f:=rfl
 have rounds:∀(k i:Nat) (phi:List Int) (F:Nat),i+k=codeN m f+1→k<F→phi.length=codeN m f→aE (yZ m l f 1001) F ((i:Int),phi,())=some (kQ m l f k phi):=by
  intro k
  induction k with
  | zero=>
   intro i phi F hi hF hphi
   obtain⟨F,rfl⟩:∃n,F=n+1:=⟨F - 1,by omega⟩
   rw[aZ,yZ]
   have hw:IntKind.i64.wrap ((codeN m f:Int)+1)=((codeN m f+1:Nat):Int):=by rw[cY] <;> omega
   have hi':i=codeN m f+1:=by omega
   simp only[fold,fold3,hw,hi',bP,aB,kQ]
  | succ k ih=>
   intro i phi F hi hF hphi
   obtain⟨F,rfl⟩:∃n,F=n+1:=⟨F - 1,by omega⟩
   have hw:IntKind.i64.wrap ((codeN m f:Int)+1)=((codeN m f+1:Nat):Int):=by rw[cY] <;> omega
   have hlt:i<codeN m f+1:=by omega
   rw[aZ,yZ]
   simp only[fold,fold3,hw,dlt hlt,aA]
   have:=aGc hs hl hf (fuel:=1001) (by omega) (s1:=((i:Int),phi,())) (rec2:=aE (yZ m l f 1001) F) (codeN m f) 0 false phi 1001 (by omega) (by omega) hphi
   simp only[Int.cast_ofNat_Int] at this
   refine this.trans ?_
   rw[kQ,List.range_eq_range']
   have hw2:=bG hlt (show codeN m f+1≤lenMax by simp only[lenMax];omega)
   cases (eK m l f (List.range' 0 (codeN m f)) false phi).1 <;> simp only[aY,cF,aA,aB]
   rw[hw2]
   exact ih (i+1) _ F (by omega) (by omega) (by rw[aGx];exact hphi)
 refine⟨1001,?_⟩
 unfold aHe fY
 have e0:decide ((0:Int)≤(codeN m f:Int))=true:=aI (by omega)
 have e1:decide ((codeN m f:Int)<(rowMax:Int))=true:=aI (by simp only[rowMax];omega)
 have e2:decide ((codeN m f:Int)≤(codeN m f:Int))=true:=aI (by omega)
 simp only[fold,fold3,aI f0,aI f1,aH,aA,e0,e1,e2,aR]
 exact rounds (codeN m f+1) 0 _ 1001 (by omega) (by omega) (by simp)
end Go.Pli

namespace Go.Pli
open Go Go.PM
def strip (x:Mt):List Tp×List Tp×Tp×List Ins×Int:=(x.1,x.2.1,x.2.2.1,x.2.2.2.1,x.2.2.2.2.1)
def Like (m:Im) (ms:List Mt):Prop:=ms.map strip=m.2.2.2.1.map strip
theorem iM {x y:Mt} (h:strip x=strip y):x.1=y.1∧x.2.1=y.2.1∧x.2.2.1=y.2.2.1∧x.2.2.2.1=y.2.2.2.1∧x.2.2.2.2.1=y.2.2.2.2.1:=by
 unfold strip at h
 simp only[lY] at h
 exact h
theorem Like.len {m:Im} {ms:List Mt} (h:Like m ms):ms.length=m.2.2.2.1.length:=by
 have:=dK List.length h
 simpa using this
theorem Like.refl (m:Im):Like m m.2.2.2.1:=rfl
theorem aD5 (g:Mt→List Tp×List Tp×Tp×List Ins×Int):∀(l:List Mt) (i:Nat),g (l.getD i zMt)=(l.map g).getD i (g zMt)
 | [],i=>by simp
 | x::l,0=>by simp
 | x::l,i+1=>by rw[List.getD_cons_succ,dO,List.getD_cons_succ];exact aD5 g l i
theorem Like.at {m:Im} {ms:List Mt} (h:Like m ms) (i:Nat):strip (ms.getD i zMt)=strip (m.2.2.2.1.getD i zMt):=by
 rw[aD5 strip,aD5 strip,h]
theorem Like.mt {m:Im} {ms:List Mt} (h:Like m ms) (f:Int):strip (aD (aL m ms) f)=strip (aD m f):=h.at f.toNat
theorem Like.mem {m:Im} {ms:List Mt} (h:Like m ms) {x:Mt} (hx:x∈ms):∃y∈m.2.2.2.1,strip x=strip y:=by
 have:strip x∈m.2.2.2.1.map strip:=by rw[←h];exact List.mem_map_of_mem hx
 obtain⟨y,h1,h2⟩:=fR.1 this
 exact⟨y,h1,h2.symm⟩
theorem Like.set {m:Im} {ms:List Mt} (h:Like m ms) {i:Nat} {x:Mt} (hx:strip x=strip (ms.getD i zMt)):Like m (ms.set i x):=by
 unfold Like
 rw[←h]
 refine List.ext_getElem? fun j=>?_
 rw[kA,kA,gD]
 by_cases hij:i=j
 ·subst hij
  by_cases hi:i<ms.length
  ·simp[hi,hx]
  ·rw[xM (by omega)];simp[hi]
 ·simp[hij]
theorem aLl (x:Mt) (p:Int):strip (hY x p)=strip x:=rfl
theorem aFE (x:Mt) (p:List Int):strip (lH x p)=strip x:=rfl
section
variable {m:Im} {ms:List Mt}
theorem Like.inM (h:Like m ms) (f:Int):inM (aL m ms) f=Pli.inM m f:=by
 unfold Pli.inM nM aL
 rw[h.len]
theorem Like.code (h:Like m ms) (f:Int):(aD (aL m ms) f).2.2.2.1=(aD m f).2.2.2.1:=(iM (h.mt f)).2.2.2.1
theorem Like.codeN (h:Like m ms) (f:Int):codeN (aL m ms) f=Pli.codeN m f:=by unfold Pli.codeN;rw[h.code]
theorem Like.ins (h:Like m ms) (f pc:Int):aG (aL m ms) f pc=aG m f pc:=by unfold aG;rw[h.code]
theorem Like.targets (_:Like m ms) (i:Ins):bX (aL m ms) i=bX m i:=rfl
theorem Like.of (h:Like m ms) (f:Int):ofB (aL m ms) f=ofB m f:=by
 unfold ofB qC
 rw[h.inM,h.code]
 rfl
theorem aP2 {x y:Mt} (h:strip x=strip y) (n:Int):jS x n=jS y n:=by
 unfold jS
 rw[(iM h).1,(iM h).2.1]
theorem aKq {x y:Mt} (h:strip x=strip y) (t:List Tp):iU x t=iU y t:=by
 unfold iU
 rw[(iM h).1,(iM h).2.2.1]
theorem aRH (h:Like m ms) {x y:Mt} (hxy:strip x=strip y) (i:Ins):eQ (aL m ms) x i=eQ m y i:=by
 unfold eQ
 rw[aP2 hxy,(iM hxy).2.2.1,aKq (h.mt i.2.1),aKq (h.mt (dQ (aL m ms) i.2.1 i.2.2.1).1)]
 rfl
theorem Like.step (h:Like m ms) (f pc:Int) (s:List Tp):aQ (aL m ms) f pc s=aQ m f pc s:=by
 unfold aQ
 rw[h.inM,h.codeN,h.ins,aRH h (h.mt f)]
 rfl
theorem aTn {a a' b b':Mt} (h1:strip a=strip a') (h2:strip b=strip b'):rT a b=rT a' b':=by
 unfold rT
 rw[(iM h1).1,(iM h1).2.2.1,(iM h2).1,(iM h2).2.2.1]
theorem Like.slot (h:Like m ms) (c:Int):oW (aL m ms) c=oW m c:=by
 funext n f
 have e1:wR (aL m ms) c f=wR m c f:=by
  unfold wR
  rw[(iM (h.mt f)).1]
  rfl
 have e2:rT (aD (aL m ms) f) (aD (aL m ms) ((eZ (aL m ms) c).getD n 0))=rT (aD m f) (aD m ((eZ m c).getD n 0)):=aTn (h.mt f) (h.mt _)
 have e3:sin f ((aL m ms).2.2.2.1.length:Int)=sin f (m.2.2.2.1.length:Int):=by rw[show (aL m ms).2.2.2.1.length=m.2.2.2.1.length from h.len]
 unfold oW
 rw[e1,e2,e3]
 rfl
theorem Like.classes (h:Like m ms):kY (aL m ms)=kY m:=by
 have:∀c,iT (aL m ms) c=iT m c:=fun c=>by
  unfold iT
  rw[h.slot]
  rfl
 unfold kY
 simp only[this]
 rfl
theorem Like.instr (h:Like m ms) {x y:Mt} (hxy:strip x=strip y) (i:Ins):cM (aL m ms) x i=cM m y i:=by
 unfold cM
 obtain⟨e1,e2,e3,e4,-⟩:=iM hxy
 have e5:(aL m ms).2.2.2.1.length=m.2.2.2.1.length:=h.len
 rw[e1,e2,e4,e5]
 rfl
def iC (x:Mt):Prop:=(0≤x.2.2.2.2.2.1∧x.2.2.2.2.2.1≤4096)∧x.2.2.2.2.2.2.1.length=x.2.2.2.1.length∧∀n∈x.2.2.2.2.2.2.1,0≤n∧n≤4096
theorem Like.sane (h:Like m ms) (hs:aJ m=true) (hn:∀x∈ms,iC x):aJ (aL m ms)=true:=by
 obtain⟨hi,hb⟩:=dI hs
 have hf:=dD hi
 have h1:cN (aL m ms)=true:=by
  unfold cN at hi⊢
  simp only[aC] at hi⊢
  obtain⟨a1,a2,a3,a4,a5,a6,a7⟩:=hi
  refine⟨a1,a2,a3,?_,a5,?_,a7⟩
  ·rw[show (aL m ms).2.2.2.1.length=m.2.2.2.1.length from h.len];exact a4
  ·rw[bO] at a6⊢
   intro x hx
   obtain⟨y,hy,hxy⟩:=h.mem hx
   obtain⟨e1,e2,e3,e4,e5⟩:=iM hxy
   have hy:=a6 y hy
   have hc:=(lK hy).2.2.2.1.1
   obtain⟨n1,n2,n3⟩:=hn x hx
   unfold lQ at hy⊢
   simp only[aC] at hy⊢
   rw[e1,e2,e3,e4,e5]
   refine⟨hy.1,hy.2.1,hy.2.2.1,hy.2.2.2.1,hy.2.2.2.2.1,hy.2.2.2.2.2.1,?_,?_⟩
   ·simp only[fZ,aC,aP];exact n1
   ·simp only[jU,fZ,aC,aP,bO]
    exact⟨by rw[n2,e4];omega,n3⟩
 have h2:kJ (aL m ms)=true:=by
  unfold kJ at hb⊢
  simp only[aC] at hb⊢
  obtain⟨b1,b2,b3,b4⟩:=hb
  refine⟨b1,by rw[h.classes];exact b2,?_,?_⟩
  ·rw[bO] at b3⊢
   intro x hx
   obtain⟨y,hy,hxy⟩:=h.mem hx
   obtain⟨e1,e2,e3,e4,e5⟩:=iM hxy
   obtain⟨n1,n2,n3⟩:=hn x hx
   have hy:=b3 y hy
   unfold fC at hy⊢
   simp only[aC] at hy⊢
   rw[funext (h.instr hxy),n2,e1,e2,e3,e4]
   exact⟨hy.1,hy.2.1,hy.2.2.1,hy.2.2.2.1,aI rfl,hy.2.2.2.2.2⟩
  ·rw[bO] at b4⊢
   intro f hfm
   have:=b4 f hfm
   unfold rJ at this⊢
   obtain⟨e1,e2,e3,e4,e5⟩:=iM (h.mt f)
   rw[e1,e3,show (aL m ms).2.2.2.1.length=m.2.2.2.1.length from h.len]
   exact this
 unfold aJ
 rw[h1,h2];rfl
end
end Go.Pli

namespace Go.Pli
open Go Go.PM
def aBV (rec:List Mt→Option (Im×Bool×Unit)):Option (List Mt)→Option (Im×Bool×Unit)
 | none=>some (zIm,false,())
 | some ms=>rec ms
theorem aDi (ms:List Mt) (f:Int):(fV ms f).length=ms.length:=by
 unfold fV
 cases decide (((ms.getD f.toNat zMt).2.2.2.2.2.2.1.length:Int)>0) <;> simp only[aA,aB,cX]
theorem aJe (ed:List (List Int)) (part:List Int):∀(q:List Int) (ms ms2:List Mt),nD ed part q ms=some ms2→ms2.length=ms.length
 | [],ms,ms2,h=>by injection h with h;rw[h]
 | f::q,ms,ms2,h=>by
  rw[nD] at h
  cases hc:decide (((fV ms f).getD f.toNat zMt).2.2.2.2.2.1>0)&&jG ed part <;> simp only[hc,aA,aB] at h
  ·rw[aJe ed part q _ _ h,aDi]
  ·cases h
theorem aJh (m:Im) (l:List (List Sh)):∀(q:List Int) (ms ms2:List Mt),oG m l q ms=some (some ms2)→ms2.length=ms.length
 | [],ms,ms2,h=>by injection h with h;injection h with h;rw[h]
 | f::q,ms,ms2,h=>by
  rw[oG] at h
  cases hp:pF (aL m ms) l f with
  | none=>rw[hp] at h;cases h
  | some r=>
   rw[hp] at h
   simp only[aK] at h
   cases hr:r.2.1 <;> simp only[hr,aY,cF,aA,aB] at h
   ·injection h with h;cases h
   ·rw[aJh m l q _ _ h,cX]
theorem aJd {ed:List (List Int)} {s2:List (List Int)×Int×List Mt×Unit} (hed:s2.1=ed) {r5:List (List Int)×Unit} {s6:Int×List Mt×Unit} {part:List Int} (hp:r5.1.getD s6.1.toNat []=part) (hpl:part.length<1000000) {N:Nat} (hin:∀f∈part,0≤f∧f<(N:Int)) {rec7}:
  ∀(q pre:List Int) (ms:List Mt) (F:Nat),part=pre++q→q.length<F→ms.length=N→aE (vQ s2 r5 s6 rec7) F ((pre.length:Int),ms,())=aBV (fun ms2=>rec7 (IntKind.i64.wrap (s6.1+1),ms2,())) (nD ed part q ms)
 | [],pre,ms,F,hx,hF,_=>by
  obtain⟨F,rfl⟩:∃n,F=n+1:=⟨F - 1,by simp at hF;omega⟩
  rw[cB] at hx
  rw[aZ,vQ]
  simp only[hp,←hx,bP,aB]
  rfl
 | f::q,pre,ms,F,hx,hF,hms=>by
  obtain⟨F,rfl⟩:∃n,F=n+1:=⟨F - 1,by simp at hF;omega⟩
  have hk:pre.length<part.length:=by rw[hx,aX];simp
  have hget:part.getD pre.length 0=f:=by rw[hx];simp
  obtain⟨f0,f1⟩:=hin f (by rw[hx];simp)
  have ih:=aJd hed hp hpl hin (rec7:=rec7) q (pre++[f]) (fV ms f) F (by rw[hx,cK];rfl) (by simp only[aF] at hF;omega) (by rw[aDi];exact hms)
  simp only[aX,aF,bK,bQ] at ih
  have hcy:uC s2.1 part=some (jG ed part,()):=by unfold uC;rw[fB hpl,hed];rfl
  have d1:decide (f<(ms.length:Int))=true:=aI (by rw[hms];exact f1)
  have d2:decide (f<((fV ms f).length:Int))=true:=aI (by rw[aDi,hms];exact f1)
  have hw:=bG hk (show part.length≤lenMax by simp only[lenMax];omega)
  rw[aZ,vQ]
  simp only[hp,dlt hk,dge,aH,aA,aR,hget,aI f0,d1]
  have hpot:(bif decide (((ms.getD f.toNat zMt).2.2.2.2.2.2.1.length:Int)>0) then
    bif decide ((0:Int)<((ms.getD f.toNat zMt).2.2.2.2.2.2.1.length:Int)) then
     some (.inl (ms.set f.toNat (hY (ms.getD f.toNat zMt) ((ms.getD f.toNat zMt).2.2.2.2.2.2.1.getD 0 0)),()))
    else none
   else some (.inl (ms,())):Option ((List Mt×Unit)⊕(Im×Bool×Unit)))=some (.inl (fV ms f,())):=by
   unfold fV
   by_cases h:((ms.getD f.toNat zMt).2.2.2.2.2.2.1.length:Int)>0
   ·rw[aI h];rfl
   ·rw[bM h];rfl
  have hpot':=dK (fun o=>o.bind fun q=>match q with
   | .inr r14=>some r14
   | .inl s13=>bif decide (0≤f)&&decide (f<(s13.1.length:Int)) then
     bif decide ((s13.1.getD f.toNat zMt).2.2.2.2.2.1>0) then
      (uC s2.1 part).bind fun r15=>bif r15.1 then some (zIm,false,()) else aE (vQ s2 r5 s6 rec7) F (IntKind.i64.wrap ((pre.length:Int)+1),s13.1,())
     else aE (vQ s2 r5 s6 rec7) F (IntKind.i64.wrap ((pre.length:Int)+1),s13.1,())
    else none) hpot
  have e1:decide (0≤f)=true:=aI f0
  simp only[e1,eJ] at hpot'
  refine Eq.trans ?_ (hpot'.trans ?_)
  ·rfl
  ·simp only[aK,d2,aA,hcy,hw,ih]
   rw[nD]
   cases decide (((fV ms f).getD f.toNat zMt).2.2.2.2.2.1>0) <;> cases jG ed part <;> rfl
theorem aJg {m:Im} {l:List (List Sh)} {fuel:Nat} (hfu:1000000<fuel) {ed:List (List Int)} {s2:List (List Int)×Int×List Mt×Unit} (hed:s2.1=ed) {r5:List (List Int)×Unit} {s6:Int×List Mt×Unit} {part:List Int} (hp:r5.1.getD s6.1.toNat []=part) (hpl:part.length<1000000) {N:Nat} (hin:∀f∈part,0≤f∧f<(N:Int)) {rec7}:
  ∀(q pre:List Int) (ms:List Mt) (F:Nat) (r),part=pre++q→q.length<F→ms.length=N→
   ((oG m l q ms).bind fun o=>aBV (fun ms1=>aBV (fun ms2=>rec7 (IntKind.i64.wrap (s6.1+1),ms2,())) (nD ed part part ms1)) o)=some r→aE (aBq l fuel (m,()) s2 r5 s6 rec7) F ((pre.length:Int),ms,())=some r
 | [],pre,ms,F,r,hx,hF,hms,h=>by
  obtain⟨F,rfl⟩:∃n,F=n+1:=⟨F - 1,by simp at hF;omega⟩
  rw[cB] at hx
  rw[aZ,aBq]
  simp only[hp,←hx,bP,aB]
  have:=aJd hed hp hpl hin (rec7:=rec7) part [] ms fuel rfl (by omega) hms
  simp only[bK,Int.cast_ofNat_Int] at this
  exact this.trans h
 | f::q,pre,ms,F,r,hx,hF,hms,h=>by
  obtain⟨F,rfl⟩:∃n,F=n+1:=⟨F - 1,by simp at hF;omega⟩
  have hk:pre.length<part.length:=by rw[hx,aX];simp
  have hget:part.getD pre.length 0=f:=by rw[hx];simp
  obtain⟨f0,f1⟩:=hin f (by rw[hx];simp)
  have d1:decide (f<(ms.length:Int))=true:=aI (by rw[hms];exact f1)
  have hw:=bG hk (show part.length≤lenMax by simp only[lenMax];omega)
  rw[oG] at h
  have hwm:aL m ms=(m.1,m.2.1,m.2.2.1,ms,m.2.2.2.2):=rfl
  rw[hwm] at h
  rw[aZ,aBq]
  simp only[hp,dlt hk,dge,aH,aA,aR,hget]
  cases hpl2:pF (m.1,m.2.1,m.2.2.1,ms,m.2.2.2.2) l f with
  | none=>rw[hpl2] at h;cases h
  | some q2=>
   rw[hpl2] at h
   simp only[aK] at h⊢
   cases hq:q2.2.1 <;> simp only[hq,aY,cF,aA,aB] at h⊢
   ·exact h
   ·have ih:=aJg hfu hed hp hpl hin (rec7:=rec7) q (pre++[f]) _ F r (by rw[hx,cK];rfl) (by simp only[aF] at hF;omega) (by rw[cX];exact hms) h
    simp only[aX,aF,bK,bQ] at ih
    simp only[aI f0,d1,aH,aA,hw]
    exact ih
theorem aJb {m:Im} {l:List (List Sh)} {fuel:Nat} (hfu:1000000<fuel) {ed:List (List Int)} {s2:List (List Int)×Int×List Mt×Unit} (hed:s2.1=ed) {r5:List (List Int)×Unit} (hrl:r5.1.length<1000000) {N:Nat} (hr:∀p∈r5.1,p.length<1000000∧∀f∈p,0≤f∧f<(N:Int)):
  ∀(ps pre:List (List Int)) (ms:List Mt) (F:Nat) (r),r5.1=pre++ps→ps.length<F→ms.length=N→((oF m l ed ps ms).bind fun q=>some (aEB m q))=some r→aE (zB l fuel (m,()) s2 r5) F ((pre.length:Int),ms,())=some r
 | [],pre,ms,F,r,hx,hF,hms,h=>by
  obtain⟨F,rfl⟩:∃n,F=n+1:=⟨F - 1,by simp at hF;omega⟩
  rw[cB] at hx
  rw[aZ,zB]
  simp only[hx,bP,aB]
  exact h
 | p::ps,pre,ms,F,r,hx,hF,hms,h=>by
  obtain⟨F,rfl⟩:∃n,F=n+1:=⟨F - 1,by simp at hF;omega⟩
  have hk:pre.length<r5.1.length:=by rw[hx,aX];simp
  have hget:r5.1.getD pre.length []=p:=by rw[hx];simp
  obtain⟨hpl,hin⟩:=hr p (by rw[hx];simp)
  have hw:=bG hk (show r5.1.length≤lenMax by simp only[lenMax];omega)
  rw[aZ,zB]
  simp only[dlt hk,dge,aH,aA]
  refine aJg hfu hed (s6:=((pre.length:Int),ms,())) (part:=p) (by simpa using hget) hpl hin (rec7:=aE (zB l fuel (m,()) s2 r5) F) p [] ms fuel r rfl (by omega) hms ?_
  rw[oF] at h
  cases ha:oG m l p ms with
  | none=>rw[ha] at h;cases h
  | some o=>
   rw[ha] at h
   simp only[aK] at h⊢
   cases o with
   | none=>exact h
   | some ms1=>
    simp only[aBV] at h⊢
    have hl1:=aJh m l p ms ms1 ha
    cases hc:nD ed p p ms1 with
    | none=>rw[hc] at h;exact h
    | some ms2=>
     rw[hc] at h
     have hl2:=aJe ed p p ms1 ms2 hc
     simp only[hw]
     have ih:=aJb hfu hed hrl hr (l:=l) (m:=m) ps (pre++[p]) ms2 F r (by rw[hx,cK];rfl) (by simp only[aF] at hF;omega) (by omega) h
     simp only[aX,aF,bK,bQ] at ih
     exact ih
def gP (m:Im) (k:Nat):List Mt:=(m.2.2.2.1.take k).map (fun x=>hY x 0)++m.2.2.2.1.drop k
theorem aE9 (m:Im) (k:Nat):Like m (gP m k):=by
 unfold Like gP
 rw[jZ,List.map_map]
 have:(strip∘fun x=>hY x 0)=strip:=rfl
 rw[this,←jZ,xK]
theorem aKY {m:Im} {k:Nat} (hk:k<m.2.2.2.1.length):(gP m k).set k (hY ((gP m k).getD k zMt) 0)=gP m (k+1):=by
 have hl:((m.2.2.2.1.take k).map fun x=>hY x 0).length=k:=by rw[qF,bN];omega
 have hd:m.2.2.2.1.drop k=m.2.2.2.1[k]::m.2.2.2.1.drop (k+1):=List.drop_eq_getElem_cons hk
 have hz:gP m k=((m.2.2.2.1.take k).map fun x=>hY x 0)++m.2.2.2.1[k]::m.2.2.2.1.drop (k+1):=by unfold gP;rw[hd]
 have hg:(gP m k).getD k zMt=m.2.2.2.1[k]:=by
  rw[hz,dA,cT (by omega),hl,Nat.sub_self];rfl
 rw[hg,hz,List.set_append_right _ _ (by omega),hl,Nat.sub_self,List.set_cons_zero]
 unfold gP
 rw[rW,aT hk,jZ,cK]
 rfl
theorem aHG {m:Im} (hs:aJ m=true):∀x∈m.2.2.2.1,iC x:=fun x hx=>by
 obtain⟨i,hi,rfl⟩:=List.mem_iff_getElem.1 hx
 have hf:inM m (i:Int)=true:=bC.2 ⟨by omega,by omega⟩
 have e:aD m (i:Int)=m.2.2.2.1[i]:=by unfold aD;rw[aR,getD_some (aT hi)]
 have h1:=lK ((dD (dI hs).1).mts _ hx)
 have h2:=aMR hs hf
 unfold eF codeN at h2
 rw[e] at h2
 exact⟨h1.2.2.2.2.2.1,h2,h1.2.2.2.2.2.2.2⟩
theorem aE8 {m:Im} (hs:aJ m=true) (k:Nat):∀x∈gP m k,iC x:=fun x hx=>by
 rcases cJ.1 hx with hx | hx
 ·obtain⟨y,hy,rfl⟩:=fR.1 hx
  obtain⟨-,h2,h3⟩:=aHG hs y (aE3 hy)
  exact⟨⟨fD 0,by show (0:Int)≤4096;decide⟩,h2,h3⟩
 ·exact aHG hs x (List.mem_of_mem_drop hx)
theorem aOP (m:Im) (l:List (List Sh)) (r) (h:lI m l=some r):∃k,aHh k m l=some r:=by
 unfold lI at h
 cases hb:aJ m&&wW m <;> simp only[hb,aA,aB] at h
 ·cases h
 simp only[aC] at hb
 obtain⟨hs,hok⟩:=hb
 cases hr:kM (fG m) with
 | none=>rw[hr] at h;cases h
 | some r4=>
  rw[hr] at h
  simp only[aK] at h
  cases hb:okL r4.1&&r4.1.all (fun p=>okL p&&p.all (inM m)) <;> simp only[hb,aA,aB] at h
  ·cases h
  simp only[aC,bO] at hb
  have hrl:=iP hb.1
  have h12:=(dD (dI hs).1).methods
  have hcopy:wL m=some (m,()):=by unfold wL;rw[(dI hs).1];rfl
  refine⟨1000001,?_⟩
  unfold aHh
  rw[hcopy,aK]
  refine rB (L:=aBp l 1000001 (m,())) (n:=m.2.2.2.1.length) (st:=fun k=>((fG m).take k,(k:Int),gP m k,())) (fun k rec hk=>?_) (fun rec=>?_) 1000001 (by omega)
  ·have hk':=aE9 m k
   have hc:cof (aL m (gP m k)) (k:Int)=some (ofB m (k:Int),()):=by unfold cof;rw[(dI (hk'.sane hs (aE8 hs k))).1,hk'.of];rfl
   have hx:(fG m)[k]? =some (ofB m (k:Int)):=by
    unfold fG ints
    simp[hk]
   have hlen:(gP m k).length=m.2.2.2.1.length:=hk'.len
   have hc':cof (m.1,m.2.1,m.2.2.1,gP m k,m.2.2.2.2) (k:Int)=some (ofB m (k:Int),()):=hc
   have hz:=aKY hk
   unfold hY at hz
   rw[aBp]
   simp only[dlt hk,aA,hc',aK,aF,bK,mM (show ((fG m).take k).length+(0+1)<549755813888 by rw[bN];omega),bG hk (show _≤lenMax by simp only[lenMax];omega),hlen,dge,aH,aR,hz]
   rw[rW,hx]
   rfl
  ·have e:(fG m).take m.2.2.2.1.length=fG m:=by rw[←aDv,iD]
   have ez:gP m m.2.2.2.1.length=m.2.2.2.1.map fun x=>hY x 0:=by unfold gP;rw[iD,List.drop_length,cB]
   rw[aBp]
   simp only[bP,aB,e,hr,aK]
   have:=aJb (m:=m) (l:=l) (fuel:=1000001) (by omega) (ed:=fG m) (s2:=(fG m,(m.2.2.2.1.length:Int),gP m m.2.2.2.1.length,())) rfl (r5:=r4) hrl (N:=m.2.2.2.1.length) (fun p hp=>⟨iP (hb.2 p hp).1,fun f hf=>bC.1 ((hb.2 p hp).2 f hf)⟩) r4.1 [] _ 1000001 r rfl (by omega) (by rw[qF]) h
   rw[ez]
   rw[ez] at this
   simpa using this
end Go.Pli
