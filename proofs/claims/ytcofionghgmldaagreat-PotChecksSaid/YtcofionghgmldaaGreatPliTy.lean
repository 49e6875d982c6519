/- Types: the typer ends on every sane image. -/
import Derived.Test.YtcofionghgmldaaGreatPliL13E
import Derived.Test.YtcofionghgmldaaGreatPliNt
import Derived.Test.YtcofionghgmldaaGreatPliReach
namespace Go.Pli
open Go Go.PM
def okT (t:Tp):Prop:=t.1=4→t.2.1=0
def mE (l:List Cl) (t:Tp):Nat:=if t.1=4 then 12 else if t.1=3 then (bW l t.2.1).length else 0
theorem zJ {l:List Cl} (hl:l.length≤8) (c:Int):(bW l c).length≤8:=by
 by_cases h0:c<0
 ·rw[fA h0];simp
 ·by_cases h1:c<(l.length:Int)
  ·have:=tB l (c.toNat+1) c (by omega)
   omega
  ·have hk:kup l c= -1:=by
    unfold kup
    have:c≥(l.length:Int):=by omega
    simp[this]
   rw[gL (by omega),hk,fA (by omega)]
   simp
theorem aBC {l:List Cl} {x:Int}:∀(n:Nat) (c:Int),c.toNat<n→x∈bW l c→(bW l x).length≤(bW l c).length∧(x≠c→(bW l x).length<(bW l c).length)
 | 0,_,h,_=>by omega
 | n+1,c,h,hx=>by
  by_cases h0:c<0
  ·rw[fA h0] at hx;cases hx
  have hk:=kS (l:=l) (c:=c) (by omega)
  rw[gL (by omega)] at hx
  have hlen:(bW l c).length=(bW l (kup l c)).length+1:=by rw[gL (by omega)];rfl
  rcases bZ.1 hx with rfl | hx
  ·exact⟨aV _,fun h=>absurd rfl h⟩
  ·by_cases h2:kup l c<0
   ·rw[fA h2] at hx;cases hx
   ·have:=(aBC n (kup l c) (by omega) hx).1
    exact⟨by omega,fun _=>by omega⟩
theorem rF {a b:Tp} (h1:a.1=b.1) (h2:a.2.1=b.2.1):a=b:=by
 obtain⟨a1,a2,⟨⟩⟩:=a
 obtain⟨b1,b2,⟨⟩⟩:=b
 simp only at h1 h2
 subst h1 h2
 rfl
theorem aOM {l:List Cl} (hl:l.length≤8) {a b:Tp} (ha:okT a) (hb:okT b) (h:(fP l a b).1≠0):okT (fP l a b)∧(fP l a b=a∨mE l (fP l a b)<mE l a):=by
 unfold fP at h⊢
 cases h1:cH l a b <;> simp only[h1,aA,aB] at h⊢
 ·cases h2:cH l b a <;> simp only[h2,aA,aB] at h⊢
  ·cases h3:a.1 !=3 || b.1 !=3 <;> simp only[h3,aA,aB] at h⊢
   ·have h3a:a.1=3:=by
     have:=(Bool.or_eq_false_iff.1 h3).1
     simpa using this
    cases hf:(bW l (kup l a.2.1)).find? fun c=>dD l b.2.1 c with
    | none=>rw[hf] at h;exact absurd rfl h
    | some c=>
     refine⟨fun h4=>by simp at h4,.inr ?_⟩
     have hm:=List.mem_of_find?_eq_some hf
     have h0:0≤a.2.1:=by
      by_cases h0:0≤a.2.1
      ·exact h0
      ·have hk:kup l a.2.1= -1:=by
        unfold kup
        have:a.2.1<0:=by omega
        simp[this]
       rw[hk,fA (by omega)] at hm
       cases hm
     have:=(aBC _ _ (gN _) hm).1
     simp only[mE,h3a]
     rw[gL h0]
     simp
     omega
   ·exact absurd rfl h
  ·refine⟨ha,?_⟩
   simp
 ·refine⟨hb,?_⟩
  unfold cH at h1
  cases h4:a.1==4 <;> simp only[h4,aA,aB] at h1
  ·cases h33:a.1==3&&b.1==3 <;> simp only[h33,aA,aB] at h1
   ·simp only[aC,gM] at h1
    exact .inl h1.1.symm
   ·simp only[aC,gM] at h33
    unfold dD at h1
    simp only[aC,aO,aEh] at h1
    by_cases he:b.2.1=a.2.1
    ·exact .inl (rF (by omega) he)
    ·refine .inr ?_
     have:=(aBC _ _ (gN _) h1.2.2.2).2 he
     simp only[mE,h33.1,h33.2]
     simpa using this
  ·have ea:a.1=4:=by simpa using h4
   unfold hY at h1
   simp only[fX,gM] at h1
   have h12:mE l a=12:=by simp[mE,ea]
   rcases h1 with h2 | h3 | h4'
   ·right;rw[h12];simp[mE,h2]
   ·right;rw[h12]
    have:=zJ hl b.2.1
    simp only[mE,h3]
    simp
    omega
   ·exact .inl (rF (by omega) (by rw[hb h4',ha ea]))
def nH (l:List Cl) (s:List Tp):Nat:=bB (s.map (mE l))
theorem aPa {l:List Cl} (hl:l.length≤8) (t:Tp):mE l t≤12:=by
 unfold mE
 split
 ·omega
 ·split
  ·exact mI (zJ hl _) (by omega)
  ·omega
theorem aHK {l:List Cl} (hl:l.length≤8):∀s:List Tp,nH l s≤12*s.length
 | []=>by simp[nH,bB]
 | t::s=>by
  have:=aHK hl s
  have:=aPa hl t
  unfold nH at*
  simp only[dI,bB,aF]
  omega
theorem aGY {l:List Cl} (hl:l.length≤8):∀(a s:List Tp),a.length=s.length→(∀t∈a,okT t)→(∀t∈s,okT t)→(∀t∈bR l a s,t.1≠0)→
  (∀t∈bR l a s,okT t)∧nH l (bR l a s)≤nH l a∧(bR l a s≠a→nH l (bR l a s)<nH l a)
 | [],[],_,_,_,_=>⟨fun _ h=>(by cases h),aV _,fun h=>absurd rfl h⟩
 | [],_::_,h,_,_,_=>by cases h
 | _::_,[],h,_,_,_=>by cases h
 | x::a,y::s,h,ha,hs,hz=>by
  have hm:bR l (x::a) (y::s)=fP l x y::bR l a s:=rfl
  rw[hm] at hz⊢
  obtain⟨i1,i2,i3⟩:=aGY hl a s (by simpa using h) (fun t ht=>ha t (bO _ ht)) (fun t ht=>hs t (bO _ ht)) (fun t ht=>hz t (bO _ ht))
  obtain⟨j1,j2⟩:=aOM hl (ha x (cG ..)) (hs y (cG ..)) (hz _ (cG ..))
  refine⟨fun t ht=>?_,?_,fun hne=>?_⟩
  ·rcases bZ.1 ht with rfl | ht
   ·exact j1
   ·exact i1 t ht
  ·unfold nH at*
   simp only[dI,bB]
   rcases j2 with j2 | j2
   ·rw[j2];omega
   ·omega
  ·unfold nH at*
   simp only[dI,bB]
   rcases j2 with j2 | j2
   ·rw[j2] at hne⊢
    have:=i3 fun he=>hne (by rw[he])
    omega
   ·omega
def mW (l:List Cl) (s:Sh):Nat:=if s.1 then nH l s.2.1 else 97
structure zT (s:Sh):Prop where
 len:s.2.1.length≤8
 ok:∀t∈s.2.1,okT t
theorem aOc {l:List Cl} (hl:l.length≤8) {o:Sh} (ho:zT o) {s:List Tp} (hs8:s.length≤8) (hs:∀t∈s,okT t):
  ((cW l o s).2.2.1=true→(cW l o s).2.1=true→zT (cW l o s).1∧mW l (cW l o s).1<mW l o):=by
 unfold cW
 cases h1:o.1 <;> simp only[aY,cA,aA,aB]
 ·intro _ _
  refine⟨⟨hs8,hs⟩,?_⟩
  have:=aHK hl s
  simp only[mW,h1]
  simp
  omega
 ·cases h2:decide (o.2.1.length≠s.length) <;> simp only[aA,aB]
  ·have hlen:o.2.1.length=s.length:=by simpa using h2
   cases h3:(bR l o.2.1 s).any fun t=>t.1==0 <;> simp only[aA,aB]
   ·intro _ h4
    have hz:∀t∈bR l o.2.1 s,t.1≠0:=fun t ht h0=>by
     have:((bR l o.2.1 s).any fun t=>t.1==0)=true:=iE.2 ⟨t,ht,by simp[h0]⟩
     rw[h3] at this;cases this
    obtain⟨i1,-,i3⟩:=aGY hl o.2.1 s hlen ho.ok hs hz
    refine⟨⟨by rw[vD l hlen];exact hs8,i1⟩,?_⟩
    simp only[mW,h1,cL]
    exact i3 fun he=>by rw[he] at h4;simp at h4
   ·intro h _;cases h
  ·intro h _;cases h
theorem rI {α:Type} (g:α→Nat) (z:α):∀(l:List α) (k:Nat) (y:α),k<l.length→bB ((l.set k y).map g)+g (l.getD k z)=bB (l.map g)+g y
 | [],_,_,h=>by simp at h
 | x::l,0,y,_=>by simp[bB];omega
 | x::l,k+1,y,h=>by
  have:=rI g z l k y (by simpa using h)
  simp only[List.set_cons_succ,dI,bB,List.getD_cons_succ] at this⊢
  omega
def b2n (b:Bool):Nat:=if b then 1 else 0
def mu (l:List Cl) (h:List Sh) (q:List Bool):Nat:=bB (h.map (mW l))+bB (q.map b2n)
structure zU (N:Nat) (h:List Sh) (q:List Bool):Prop where
 hl:h.length=N
 ql:q.length=N
 ok:∀s∈h,zT s
theorem aCM {l:List Cl} (hl:l.length≤8) {N:Nat} {a:List Tp} (ha8:a.length≤8) (ha:∀t∈a,okT t):∀(ts:List Int) (h:List Sh) (q:List Bool),zU N h q→(∀to∈ts,0≤to∧to<(N:Int))→
  zU N (fM l a ts h q).2.1 (fM l a ts h q).2.2.1∧mu l (fM l a ts h q).2.1 (fM l a ts h q).2.2.1≤mu l h q
 | [],h,q,hg,_=>⟨hg,aV _⟩
 | to::ts,h,q,hg,ht=>by
  unfold fM
  obtain⟨t0,t1⟩:=ht to (cG ..)
  have hk:to.toNat<h.length:=by rw[hg.hl];omega
  have hkq:to.toNat<q.length:=by rw[hg.ql];omega
  have hgo:zT (h.getD to.toNat zSh):=by rw[getD_some (aU hk)];exact hg.ok _ (eC hk)
  have hup:=aOc hl hgo ha8 ha
  generalize cW l (h.getD to.toNat zSh) a=r at hup
  cases h1:r.2.2.1 <;> simp only[aY,cA,aA,aB]
  ·exact⟨hg,aV _⟩
  ·cases h2:r.2.1 <;> simp only[aA,aB]
   ·exact aCM hl ha8 ha ts h q hg fun x hx=>ht x (bO _ hx)
   ·obtain⟨g1,g2⟩:=hup h1 h2
    have hg':zU N (h.set to.toNat r.1) (q.set to.toNat true):=⟨by rw[dE,hg.hl],by rw[dE,hg.ql],fun s hs=>by
     rcases qX hs with hs | rfl
     ·exact hg.ok s hs
     ·exact g1⟩
    obtain⟨i1,i2⟩:=aCM hl ha8 ha ts _ _ hg' fun x hx=>ht x (bO _ hx)
    refine⟨i1,mI i2 ?_⟩
    unfold mu
    have e1:=rI (mW l) zSh h to.toNat r.1 hk
    have e2:=rI b2n false q to.toNat true hkq
    have e3:b2n true=1:=rfl
    omega
theorem aDA {t:Tp} {n:Int} (h:fO t n=true):okT t:=by
 intro h4
 unfold fO at h
 rw[h4] at h
 simp at h
theorem aDw {m:Im} {l:List Tp} (h:eY m l=true) (k:Nat):okT (l.getD k zTp):=by
 by_cases hk:k<l.length
 ·rw[getD_some (aU hk)]
  exact aDA (bG.1 h _ (eC hk))
 ·rw[gK (by omega)];intro h4;cases h4
theorem aOw {m:Im} (hs:aK m=true) {f:Int} (hf:inM m f=true) (n:Int):okT (iZ (aD m f) n):=by
 have h:=oD hs hf
 simp only[eR,aC] at h
 unfold iZ
 cases decide (n<0) <;> simp only[aA,aB]
 ·rw[aDD]
  split
  ·exact aDw h.1 _
  ·exact aDw h.2.1 _
 ·intro h4;cases h4
theorem aMl {m:Im} (hs:aK m=true) {f:Int} (hf:inM m f=true):okT (aD m f).2.2.1:=by
 have h:=oD hs hf
 simp only[eR,aC,fX] at h
 rcases h.2.2.1 with h | h
 ·intro h4
  have:(aD m f).2.2.1=(5,0,()):=by simpa using h
  rw[this] at h4;cases h4
 ·exact aDA h
theorem aIn {m:Im} (hs:aK m=true) (c:Int) (hc:sin c (m.1.length:Int)=true):eY m (bN m c).2.1=true:=by
 simp only[sin,aC,aO] at hc
 have:=tF (tY hs) hc.1 hc.2
 simp only[iA,aC] at this
 exact this.2.1
theorem aPK {m:Im} (hs:aK m=true) (c:Int) (k:Nat):okT ((dM m c).getD k zTp):=by
 have key:∀t∈dM m c,okT t:=by
  intro t ht
  unfold dM at ht
  simp only[pJ,fU,List.mem_reverse] at ht
  obtain⟨x,⟨s,hsm,rfl⟩,ht⟩:=ht
  have hin:sin s (m.1.length:Int)=true:=by
   unfold bV at hsm
   cases hd:decide (c<(m.1.length:Int)) <;> simp only[hd,aA,aB] at hsm
   ·cases hsm
   ·have:=nS _ _ (gN _) hsm
    have hd:c<(m.1.length:Int):=by simpa using hd
    simp only[sin,aC,aO]
    omega
  exact aDA (bG.1 (aIn hs s hin) t ht)
 by_cases hk:k<(dM m c).length
 ·rw[getD_some (aU hk)]
  exact key _ (eC hk)
 ·rw[gK (by omega)];intro h4;cases h4
def gZ (e:Eff):Prop:=∀t∈e.2.1,okT t
theorem kN {a:List Tp}:gZ (a,[],()):=fun _ h=>by cases h
theorem iW {a:List Tp} {t:Tp} (h:okT t):gZ (a,[t],()):=fun _ hx=>by rw[eE] at hx;subst hx;exact h
theorem yG {k n:Int} (h:k≠4∨n=0):okT (k,n,()):=fun h4=>by
 rcases h with h | h
 ·exact absurd h4 h
 ·exact h
theorem aGu {m:Im} (hs:aK m=true) {g:Int} (hg:inM m g=true) (t:List Tp):gZ (iB (aD m g) t):=by
 unfold iB
 cases (aD m g).2.2.1.1 !=5 <;> simp only[aA,aB]
 ·exact kN
 ·exact iW (aMl hs hg)
theorem aNB (o:Int):gZ (eK o).1:=by
 unfold eK
 have h1:okT tI:=yG (.inr rfl)
 have h2:okT tA:=yG (.inr rfl)
 have h3:okT tN:=yG (.inr rfl)
 refine cM (P:=fun z:Eff×Bool×Unit=>gZ z.1) (iW h3) ?_
 refine cM (P:=fun z:Eff×Bool×Unit=>gZ z.1) kN ?_
 refine cM (P:=fun z:Eff×Bool×Unit=>gZ z.1) (iW h1) ?_
 refine cM (P:=fun z:Eff×Bool×Unit=>gZ z.1) (iW h1) ?_
 refine cM (P:=fun z:Eff×Bool×Unit=>gZ z.1) (iW h1) ?_
 refine cM (P:=fun z:Eff×Bool×Unit=>gZ z.1) kN ?_
 refine cM (P:=fun z:Eff×Bool×Unit=>gZ z.1) (iW h1) ?_
 refine cM (P:=fun z:Eff×Bool×Unit=>gZ z.1) (iW h1) ?_
 refine cM (P:=fun z:Eff×Bool×Unit=>gZ z.1) kN ?_
 refine cM (P:=fun z:Eff×Bool×Unit=>gZ z.1) kN ?_
 refine cM (P:=fun z:Eff×Bool×Unit=>gZ z.1) (iW h2) ?_
 exact cM (P:=fun z:Eff×Bool×Unit=>gZ z.1) (iW h1) kN
theorem aNC {m:Im} (hs:aK m=true) {i:Ins} {f:Int} (hf:inM m f=true) (hi:cB m (aD m f) i=true):gZ (eL m (aD m f) i):=by
 have hcl:=tY hs
 unfold eL
 rcases i with⟨o,a,b,⟨⟩⟩
 refine cM (aNB _) ?_
 refine cM (iW (aOw hs hf _)) (cM kN (cM (iW (yG (.inl (by decide)))) (cM (iW (aPK hs _ _)) (cM kN (cM (iW (aDw (aE6 hs) _)) (cM kN ?_))))))
 cases e:o==31
 case true=>
  obtain rfl:o=31:=by simpa using e
  have:sin a (m.2.2.2.1.length:Int)=true:=by simpa[cB] using hi
  exact aGu hs this _
 simp only[aB]
 cases e:o==32
 case true=>
  obtain rfl:o=32:=by simpa using e
  have:sin a (m.1.length:Int)=true∧sin b ((bN m a).2.2.1.length:Int)=true:=by simpa[cB] using hi
  have hsl:gW m a b=true:=by unfold gW;unfold sin at this;rw[this.1,this.2];rfl
  have h1:=xH hsl
  simp only[sin,aC,aO] at this
  obtain⟨h2,h3⟩:=rK (tF hcl this.1.1 this.1.2) h1
  exact aGu hs (bS.2 h2) _
 simp only[aB]
 exact cM (iW (yG (.inl (by decide)))) (cM (cM kN kN) kN)
theorem aKo {m:Im} (hs:aK m=true) {f pc:Int} {s:List Tp} (hok:∀t∈s,okT t):∀t∈(aN m f pc s).1,okT t:=by
 unfold aN
 cases hf:inM m f
 ·intro t ht;simp at ht
 cases hp:sin pc (codeN m f:Int)
 ·intro t ht;simp at ht
 simp only[aI,aY,aB]
 cases (dW (aH m f pc) pc).contains (codeN m f:Int)
 case true=>intro t ht;simp at ht
 simp only[aB]
 cases h6:(aH m f pc).1==6 <;> simp only[aA,aB]
 ·have ho:=aNC hs hf (rN hs hf hp)
  unfold mP
  generalize eL m (aD m f) (aH m f pc)=E at ho⊢
  cases decide (s.length<E.1.length) || decide (s.length - E.1.length+E.2.1.length>8) <;> simp only[aA,aB]
  ·cases ((s.drop (s.length - E.1.length)).zip E.1).all fun p=>dZ m (aH m f pc).1 p.1 p.2 <;> simp only[aA,aB]
   ·intro t ht;cases ht
   ·intro t ht
    rcases cR.1 ht with ht | ht
    ·exact hok t (aEf ht)
    ·exact ho t ht
  ·intro t ht;cases ht
 ·cases decide (s.length=0) || decide (s.length≥8) <;> simp only[aA,aB]
  ·intro t ht
   rcases cR.1 ht with ht | ht
   ·exact hok t ht
   ·exact hok t (List.mem_of_mem_drop ht)
  ·intro t ht;cases ht
structure wR (N:Nat) (h:List Sh):Prop where
 len:h.length≤N
 ok:∀s∈h,s.2.1.length≤8
theorem aIe {q:List Bool} (h:q.any id=true):q.findIdx id<q.length:=List.findIdx_lt_length_of_exists (by
 obtain⟨x,hx,h⟩:=iE.1 h
 exact⟨x,hx,h⟩)
theorem aEn {m:Im} (hs:aK m=true) {f:Int} (hf:inM m f=true):∀(n:Nat) (h:List Sh) (q:List Bool),zU (codeN m f) h q→mu m.1 h q<n→∃r,pN m f n h q=some r∧wR (codeN m f) r.1
 | 0,_,_,_,hm=>by omega
 | n+1,h,q,hg,hm=>by
  have hl:=(dA (dL hs).1).classes
  unfold pN
  cases ha:q.any id <;> simp only[aA,aB]
  ·exact⟨_,rfl,by rw[hg.hl];exact aV _,fun s hs=>(hg.ok s hs).len⟩
  ·have hk:=aIe ha
   generalize hpc:q.findIdx id=pc at hk
   have htrue:q.getD pc false=true:=by
    subst hpc
    have:=List.findIdx_getElem (p:=id) (xs:=q) (w:=hk)
    rw[getD_some (aU hk)]
    exact this
   have hpcN:pc<codeN m f:=by rw[←hg.ql];exact hk
   have hkh:pc<h.length:=by rw[hg.hl];exact hpcN
   have hg1:zU (codeN m f) h (q.set pc false):=⟨hg.hl,by rw[dE,hg.ql],hg.ok⟩
   have hone:sE m f (pc:Int) h (q.set pc false)=true:=OneP.to ⟨hs,hf,by simp only[sin,aC,aO];omega,hg1.hl,hg1.ql,fun s hs=>fD (by have:=(hg.ok s hs).len;omega)⟩
   have hmu:mu m.1 h (q.set pc false)+1=mu m.1 h q:=by
    unfold mu
    have:=rI b2n false q pc false hk
    rw[htrue] at this
    have e0:b2n false=0:=rfl
    have e1:b2n true=1:=rfl
    omega
   unfold aAe
   rw[hone]
   simp only[aA,aJ]
   have hgs:zT (h.getD pc zSh):=by rw[getD_some (aU hkh)];exact hg.ok _ (eC hkh)
   cases hr:(lK m f (pc:Int) h (q.set pc false)).1 <;> simp only[aY,cA,aA,aB]
   ·exact⟨_,rfl,dH _,fun s hs=>by cases hs⟩
   ·unfold lK at hr⊢
    rw[aR] at hr⊢
    cases he:(aN m f (pc:Int) (h.getD pc zSh).2.1).2.2.1 !=0 <;> simp only[he,aA,aB] at hr⊢
    ·obtain⟨-,-,h8,hto⟩:=lM hs (f:=f) (pc:=(pc:Int)) (s:=(h.getD pc zSh).2.1) (by simpa using he)
     obtain⟨i1,i2⟩:=aCM hl (N:=codeN m f) h8 (aKo hs hgs.ok) (aN m f (pc:Int) (h.getD pc zSh).2.1).2.1 h (q.set pc false) hg1 hto
     exact aEn hs hf n _ _ i1 (by omega)
    ·cases hr
theorem aEw {m:Im} (hs:aK m=true) {f:Int} (hf:inM m f=true):∃r,wX m f=some r∧wR (codeN m f) r.1:=by
 unfold wX
 rw[hs,hf]
 simp only[aI,aA]
 have hc:=eW hs hf
 refine aEn hs hf _ _ _ ⟨by simp,by simp,fun s hs'=>?_⟩ ?_
 ·rcases qX hs' with h | rfl
  ·rw[qW] at h
   rw[h.2]
   exact⟨dH _,fun _ h=>by cases h⟩
  ·exact⟨dH _,fun _ h=>by cases h⟩
 ·unfold mu
  have e1:=rI (mW m.1) zSh (List.replicate (codeN m f) zSh) 0 (true,[],()) (by simp;omega)
  have e2:=rI b2n false (List.replicate (codeN m f) false) 0 true (by simp;omega)
  have s1:∀n:Nat,bB ((List.replicate n zSh).map (mW m.1))=97*n:=by
   intro n
   induction n with
   | zero=>rfl
   | succ n ih=>rw[List.replicate_succ,dI,bB,ih];simp[mW];omega
  have s2:∀n:Nat,bB ((List.replicate n false).map b2n)=0:=by
   intro n
   induction n with
   | zero=>rfl
   | succ n ih=>rw[List.replicate_succ,dI,bB,ih];rfl
  rw[s1] at e1
  rw[s2] at e2
  have r1:mW m.1 (true,[],())=0:=rfl
  have r2:b2n true=1:=rfl
  omega
theorem aJh {m:Im} (hs:aK m=true):∀(l:List Int) (out:List (List Sh)),(∀f∈l,inM m f=true)→(∀h∈out,wR 64 h)→∃r,qN m l out=some r∧(∀h∈r.1,wR 64 h)∧(r.2.2.2.1=0→r.1.length=out.length+l.length)∧(r.2.2.2.1≠0→r.1=[])
 | [],out,_,ho=>⟨_,rfl,ho,fun _=>rfl,fun h=>absurd rfl h⟩
 | f::l,out,hl,ho=>by
  have hf:=hl f (cG ..)
  obtain⟨r,hr,hg⟩:=aEw hs hf
  have hc:=eW hs hf
  unfold qN
  rw[hr]
  simp only[aJ]
  cases he:r.2.2.1 !=0 <;> simp only[aA,aB]
  ·obtain⟨r',h1,h2,h3,h4⟩:=aJh hs l (out++[r.1]) (fun x hx=>hl x (bO _ hx)) (fun h hh=>by
    rcases cR.1 hh with hh | hh
    ·exact ho h hh
    ·rw[eE] at hh;subst hh;exact⟨by have:=hg.len;omega,hg.ok⟩)
   exact⟨r',h1,h2,fun h0=>by rw[h3 h0];simp;omega,h4⟩
  ·have:r.2.2.1≠0:=by simpa using he
   exact⟨_,rfl,fun h hh=>(by cases hh),fun h0=>absurd h0 this,fun _=>rfl⟩
theorem aNL {l:List (List Sh)} (hl:l.length≤12) (h:∀x∈l,wR 64 x):fC l=true:=by
 simp only[fC,aC,bG]
 refine⟨fD (by omega),fun x hx=>?_⟩
 have:=h x hx
 exact⟨fD (by have:=this.len;omega),fun s hs=>fD (by have:=this.ok s hs;omega)⟩
theorem aEE {m:Im} (hs:aK m=true):∃r,tU m=some r∧fC r.1=true∧(r.2.2.2.1=0→r.1.length=m.2.2.2.1.length):=by
 have h12:=(dA (dL hs).1).methods
 unfold tU
 rw[hs]
 simp only[aA]
 obtain⟨r,h1,h2,h3,h4⟩:=aJh hs (ints m.2.2.2.1.length) [] (fun f hf=>bS.2 (kP.1 hf)) (fun _ h=>by cases h)
 have hn:r.2.2.2.1=0→r.1.length=m.2.2.2.1.length:=fun h0=>by rw[h3 h0,oP];simp
 refine⟨r,h1,aNL ?_ h2,hn⟩
 by_cases h0:r.2.2.2.1=0
 ·rw[hn h0];exact h12
 ·rw[h4 h0];exact dH _
end Go.Pli

namespace Go.Pli
open Go Go.PM
def gT (n:Int) (t:Tp):Prop:=fO t n=true∨t=(4,0,())
theorem sP {n:Int} {t:Tp} (h:gT n t):(t.1=1∧t.2.1=0)∨(t.1=2∧t.2.1=0)∨(t.1=3∧0≤t.2.1∧t.2.1<n)∨(t.1=4∧t.2.1=0):=by
 rcases h with h | rfl
 ·unfold fO at h
  cases h1:t.1==1
  ·cases h2:t.1==2
   ·rw[h1,h2] at h
    simp only[Bool.or_self,aB,aC,gM,aO] at h
    exact .inr (.inr (.inl ⟨h.1,h.2.1,h.2.2⟩))
   ·rw[h2,Bool.or_true] at h
    exact .inr (.inl ⟨by simpa using h2,by simpa using h⟩)
  ·rw[h1,rB] at h
   exact .inl ⟨by simpa using h1,by simpa using h⟩
 ·exact .inr (.inr (.inr ⟨rfl,rfl⟩))
theorem aHY {n:Int} {t:Tp} (h:gT n t):t.1≠0:=by rcases sP h with h | h | h | h <;> omega
theorem aBi {n:Int} {t:Tp} (h:gT n t):okT t:=fun h4=>by rcases sP h with h | h | h | h <;> omega
theorem aJj {l:List Cl} {b c:Int}:∀(n:Nat) (a:Int),a.toNat<n→b∈bW l a→c∈bW l b→c∈bW l a
 | 0,_,h,_,_=>by omega
 | n+1,a,h,hb,hc=>by
  by_cases h0:a<0
  ·rw[fA h0] at hb;cases hb
  have hk:=kS (l:=l) (c:=a) (by omega)
  rw[gL (by omega)] at hb⊢
  rcases bZ.1 hb with rfl | hb
  ·rwa [gL (by omega)] at hc
  ·by_cases h2:kup l a<0
   ·rw[fA h2] at hb;cases hb
   ·exact bO _ (aJj n (kup l a) (by omega) hb hc)
theorem aRd {l:List Cl} {a:Int} (h:0≤a):a∈bW l a:=by rw[gL h];exact cG ..
theorem nU {l:List Cl} {a b:Int}:dD l a b=true↔0≤b∧b<(l.length:Int)∧a<(l.length:Int)∧b∈bW l a:=by
 unfold dD
 simp only[aC,aO,aEh]
theorem aRr {l:List Cl} {a b c:Int} (h1:dD l a b=true) (h2:dD l b c=true):dD l a c=true:=by
 rw[nU] at*
 exact⟨h2.1,h2.2.1,h1.2.2.1,aJj _ _ (gN _) h1.2.2.2 h2.2.2.2⟩
theorem iF {l:List Cl} {a b:Tp}:cH l a b=true↔(a.1=4∧hY b=true)∨(a.1=3∧b.1=3∧dD l a.2.1 b.2.1=true)∨(a=b∧(a.1=1∨a.1=2)):=by
 unfold cH
 cases h4:a.1==4
 ·have n4:a.1≠4:=by simpa using h4
  cases h33:a.1==3&&b.1==3 <;> simp only[aA,aB]
  ·simp only[aC,fX,gM]
   constructor
   ·exact fun h=> .inr (.inr h)
   ·rintro (h | h | h)
    ·exact absurd h.1 n4
    ·simp[h.1,h.2.1] at h33
    ·exact h
  ·simp only[aC,gM] at h33
   constructor
   ·exact fun h=> .inr (.inl ⟨h33.1,h33.2,h⟩)
   ·rintro (h | h | h)
    ·exact absurd h.1 n4
    ·exact h.2.2
    ·omega
 ·have e4:a.1=4:=by simpa using h4
  simp only[aA]
  constructor
  ·exact fun h=> .inl ⟨e4,h⟩
  ·rintro (h | h | h)
   ·exact h.2
   ·omega
   ·omega
theorem vL {t:Tp}:hY t=true↔t.1=2∨t.1=3∨t.1=4:=by
 unfold hY
 simp only[fX,gM]
theorem aCa {l:List Cl} {a:Tp} (h:gT (l.length:Int) a):cH l a a=true:=by
 rw[iF]
 rcases sP h with h | h | h | h
 ·exact .inr (.inr ⟨rfl,.inl h.1⟩)
 ·exact .inr (.inr ⟨rfl,.inr h.1⟩)
 ·exact .inr (.inl ⟨h.1,h.1,nU.2 ⟨h.2.1,h.2.2,h.2.2,aRd h.2.1⟩⟩)
 ·exact .inl ⟨h.1,vL.2 (.inr (.inr h.1))⟩
theorem aEO {l:List Cl} {a b c:Tp} (h1:cH l a b=true) (h2:cH l b c=true):cH l a c=true:=by
 rw[iF] at*
 rcases h1 with⟨a4,hb⟩ | ⟨a3,b3,hab⟩ | ⟨rfl,ha⟩
 ·refine .inl ⟨a4,?_⟩
  rcases h2 with⟨_,hc⟩ | ⟨_,c3,_⟩ | ⟨rfl,_⟩
  ·exact hc
  ·exact vL.2 (.inr (.inl c3))
  ·exact hb
 ·rcases h2 with⟨b4,_⟩ | ⟨_,c3,hbc⟩ | ⟨rfl,hb⟩
  ·omega
  ·exact .inr (.inl ⟨a3,c3,aRr hab hbc⟩)
  ·omega
 ·exact h2
theorem aKl {l:List Cl} {a b:Tp} (ga:gT (l.length:Int) a) (gb:gT (l.length:Int) b) (h1:cH l a b=true) (h2:cH l b a=true):a=b:=by
 rw[iF] at*
 rcases h1 with⟨a4,hb⟩ | ⟨a3,b3,hab⟩ | ⟨h,_⟩
 ·rcases h2 with⟨b4,_⟩ | ⟨_,a3,_⟩ | ⟨h,_⟩
  ·have e1:=aBi ga a4
   have e2:=aBi gb b4
   exact rF (by omega) (by omega)
  ·omega
  ·exact h.symm
 ·rcases h2 with⟨b4,_⟩ | ⟨_,_,hba⟩ | ⟨h,_⟩
  ·omega
  ·have i1:=(nS _ _ (gN _) (nU.1 hab).2.2.2).2
   have i2:=(nS _ _ (gN _) (nU.1 hba).2.2.2).2
   exact rF (by omega) (by omega)
  ·exact h.symm
 ·exact h
theorem aIf {l:List Cl} {p:Int→Bool} {x c:Int}:∀(n:Nat) (d:Int),d.toNat<n→(bW l d).find? p=some x→c∈bW l d→p c=true→c∈bW l x
 | 0,_,h,_,_,_=>by omega
 | n+1,d,h,hf,hc,hp=>by
  by_cases h0:d<0
  ·rw[fA h0] at hc;cases hc
  have hk:=kS (l:=l) (c:=d) (by omega)
  rw[gL (by omega),wP] at hf
  cases hpd:p d
  ·rw[hpd] at hf
   rw[gL (by omega)] at hc
   rcases bZ.1 hc with rfl | hc
   ·rw[hpd] at hp;cases hp
   ·by_cases h2:kup l d<0
    ·rw[fA h2] at hc;cases hc
    ·exact aIf n (kup l d) (by omega) hf hc hp
  ·rw[hpd] at hf
   injection hf with hf
   subst hf
   exact hc
theorem aON {l:List Cl} {a b:Tp} (ga:gT (l.length:Int) a) (gb:gT (l.length:Int) b) (h:(fP l a b).1≠0):cH l a (fP l a b)=true∧cH l b (fP l a b)=true∧gT (l.length:Int) (fP l a b):=by
 unfold fP at h⊢
 cases h1:cH l a b <;> simp only[h1,aA,aB] at h⊢
 ·cases h2:cH l b a <;> simp only[h2,aA,aB] at h⊢
  ·cases h3:a.1 !=3 || b.1 !=3 <;> simp only[h3,aA,aB] at h⊢
   ·have h3a:a.1=3:=by simpa using (Bool.or_eq_false_iff.1 h3).1
    have h3b:b.1=3:=by simpa using (Bool.or_eq_false_iff.1 h3).2
    cases hf:(bW l (kup l a.2.1)).find? fun c=>dD l b.2.1 c with
    | none=>rw[hf] at h;exact absurd rfl h
    | some c=>
     have hm:=List.mem_of_find?_eq_some hf
     have hb:dD l b.2.1 c=true:=by simpa using List.find?_some hf
     have hb':=nU.1 hb
     have ga':0≤a.2.1∧a.2.1<(l.length:Int):=by rcases sP ga with h | h | h | h <;> omega
     have hca:c∈bW l a.2.1:=by rw[gL ga'.1];exact bO _ hm
     refine⟨iF.2 (.inr (.inl ⟨h3a,rfl,nU.2 ⟨hb'.1,hb'.2.1,ga'.2,hca⟩⟩)),iF.2 (.inr (.inl ⟨h3b,rfl,hb⟩)),.inl ?_⟩
     simp only[fO]
     rw[aG hb'.1,aG hb'.2.1]
     rfl
   ·exact absurd rfl h
  ·exact⟨aCa ga,trivial,ga⟩
 ·exact⟨trivial,aCa gb,gb⟩
theorem aOP {l:List Cl} {a b c:Tp} (ga:gT (l.length:Int) a) (gb:gT (l.length:Int) b) (gc:gT (l.length:Int) c) (hac:cH l a c=true) (hbc:cH l b c=true):(fP l a b).1≠0∧cH l (fP l a b) c=true:=by
 unfold fP
 cases h1:cH l a b <;> simp only[aA,aB]
 ·cases h2:cH l b a <;> simp only[aA,aB]
  ·have n1:¬cH l a b=true:=by rw[h1];exact Bool.false_ne_true
   have n2:¬cH l b a=true:=by rw[h2];exact Bool.false_ne_true
   have h33:a.1=3∧b.1=3:=by
    have ka:=sP ga
    have kb:=sP gb
    rcases iF.1 hac with⟨a4,hc⟩ | ⟨a3,c3,_⟩ | ⟨e,ha⟩
    ·exfalso
     refine n1 (iF.2 (.inl ⟨a4,?_⟩))
     rw[vL] at hc⊢
     rcases iF.1 hbc with⟨b4,_⟩ | ⟨b3,_⟩ | ⟨e,hb⟩
     ·exact .inr (.inr b4)
     ·exact .inr (.inl b3)
     ·subst e;omega
    ·refine⟨a3,?_⟩
     rcases iF.1 hbc with⟨b4,_⟩ | ⟨b3,_⟩ | ⟨e,hb⟩
     ·exact absurd (iF.2 (.inl ⟨b4,vL.2 (.inr (.inl a3))⟩)) n2
     ·exact b3
     ·subst e;omega
    ·exfalso
     subst e
     exact n2 hbc
   have h3:(a.1 !=3 || b.1 !=3)=false:=by simp[h33.1,h33.2]
   rw[h3]
   simp only[aB]
   have hac':a.1=3∧c.1=3∧dD l a.2.1 c.2.1=true:=by
    rcases iF.1 hac with⟨a4,hc⟩ | h | ⟨e,ha⟩
    ·omega
    ·exact h
    ·omega
   have hbc':dD l b.2.1 c.2.1=true:=by
    rcases iF.1 hbc with⟨a4,hc⟩ | h | ⟨e,ha⟩
    ·omega
    ·exact h.2.2
    ·omega
   have ga':0≤a.2.1∧a.2.1<(l.length:Int):=by rcases sP ga with h | h | h | h <;> omega
   have hc:=nU.1 hac'.2.2
   have hne:c.2.1≠a.2.1:=fun e=>n2 (by
    have:c=a:=rF (by omega) e
    rw[←this];exact hbc)
   have hcm:c.2.1∈bW l (kup l a.2.1):=by
    have:=hc.2.2.2
    rw[gL ga'.1] at this
    rcases bZ.1 this with h | h
    ·exact absurd h hne
    ·exact h
   cases hf:(bW l (kup l a.2.1)).find? fun c=>dD l b.2.1 c with
   | none=>
    have:=List.find?_eq_none.1 hf _ hcm
    exact absurd hbc' this
   | some x=>
    have hx:dD l b.2.1 x=true:=by simpa using List.find?_some hf
    have hx':=nU.1 hx
    refine⟨fun h=>by simp at h,iF.2 (.inr (.inl ⟨rfl,hac'.2.1,nU.2 ⟨hc.1,hc.2.1,hx'.2.1,?_⟩⟩))⟩
    exact aIf _ _ (gN _) hf hcm hbc'
  ·exact⟨aHY ga,hac⟩
 ·exact⟨aHY gb,hbc⟩
def leS (l:List Cl):List Tp→List Tp→Prop
 | [],[]=>True
 | x::a,y::b=>cH l x y=true∧leS l a b
 | _,_=>False
def gS (n:Int) (s:List Tp):Prop:=∀t∈s,gT n t
theorem fS {n:Int} {t:Tp} {s:List Tp} (h:gS n (t::s)):gT n t∧gS n s:=⟨h t (cG ..),fun x hx=>h x (bO _ hx)⟩
theorem qB {l:List Cl}:∀{a b:List Tp},leS l a b→a.length=b.length
 | [],[],_=>rfl
 | [],_::_,h=>h.elim
 | _::_,[],h=>h.elim
 | _::_,_::_,h=>by simp only[aF,qB h.2]
theorem yX {l:List Cl}:∀{a:List Tp},gS (l.length:Int) a→leS l a a
 | [],_=>trivial
 | _::_,h=>⟨aCa (fS h).1,yX (fS h).2⟩
theorem sK {l:List Cl}:∀{a b c:List Tp},leS l a b→leS l b c→leS l a c
 | [],[],[],_,_=>trivial
 | _::_,_::_,_::_,h1,h2=>⟨aEO h1.1 h2.1,sK h1.2 h2.2⟩
 | [],[],_::_,_,h=>h.elim
 | [],_::_,_,h,_=>h.elim
 | _::_,[],_,h,_=>h.elim
 | _::_,_::_,[],_,h=>h.elim
theorem aHu {l:List Cl}:∀{a b:List Tp},gS (l.length:Int) a→gS (l.length:Int) b→leS l a b→leS l b a→a=b
 | [],[],_,_,_,_=>rfl
 | _::_,_::_,ga,gb,h1,h2=>by rw[aKl (fS ga).1 (fS gb).1 h1.1 h2.1,aHu (fS ga).2 (fS gb).2 h1.2 h2.2]
 | [],_::_,_,_,h,_=>h.elim
 | _::_,[],_,_,h,_=>h.elim
theorem aDk {l:List Cl}:∀(n:Nat) {a b:List Tp},leS l a b→leS l (a.drop n) (b.drop n)
 | 0,_,_,h=>h
 | _+1,[],[],h=>h
 | n+1,_::_,_::_,h=>aDk n h.2
 | _+1,[],_::_,h=>h.elim
 | _+1,_::_,[],h=>h.elim
theorem aHt {l:List Cl}:∀(n:Nat) {a b:List Tp},leS l a b→leS l (a.take n) (b.take n)
 | 0,_,_,_=>trivial
 | _+1,[],[],h=>h
 | n+1,_::_,_::_,h=>⟨h.1,aHt n h.2⟩
 | _+1,[],_::_,h=>h.elim
 | _+1,_::_,[],h=>h.elim
theorem aDl {l:List Cl}:∀{a b c d:List Tp},leS l a b→leS l c d→leS l (a++c) (b++d)
 | [],[],_,_,_,h=>h
 | _::_,_::_,_,_,h1,h2=>⟨h1.1,aDl h1.2 h2⟩
 | [],_::_,_,_,h,_=>h.elim
 | _::_,[],_,_,h,_=>h.elim
theorem aGZ {l:List Cl}:∀{a s:List Tp},a.length=s.length→gS (l.length:Int) a→gS (l.length:Int) s→(∀t∈bR l a s,t.1≠0)→leS l a (bR l a s)∧leS l s (bR l a s)∧gS (l.length:Int) (bR l a s)
 | [],[],_,_,_,_=>⟨trivial,trivial,fun _ h=>(by cases h)⟩
 | [],_::_,h,_,_,_=>by cases h
 | _::_,[],h,_,_,_=>by cases h
 | x::a,y::s,h,ga,gs,hz=>by
  have hm:bR l (x::a) (y::s)=fP l x y::bR l a s:=rfl
  rw[hm] at hz⊢
  obtain⟨i1,i2,i3⟩:=aGZ (l:=l) (a:=a) (s:=s) (by simpa using h) (fS ga).2 (fS gs).2 fun t ht=>hz t (bO _ ht)
  obtain⟨j1,j2,j3⟩:=aON (fS ga).1 (fS gs).1 (hz _ (cG ..))
  exact⟨⟨j1,i1⟩,⟨j2,i2⟩,fun t ht=>by
   rcases bZ.1 ht with rfl | ht
   ·exact j3
   ·exact i3 t ht⟩
theorem aG0 {l:List Cl}:∀{a s c:List Tp},gS (l.length:Int) a→gS (l.length:Int) s→gS (l.length:Int) c→leS l a c→leS l s c→(∀t∈bR l a s,t.1≠0)∧leS l (bR l a s) c
 | [],[],[],_,_,_,_,_=>⟨fun _ h=>(by cases h),trivial⟩
 | x::a,y::s,z::c,ga,gs,gc,h1,h2=>by
  have hm:bR l (x::a) (y::s)=fP l x y::bR l a s:=rfl
  rw[hm]
  obtain⟨i1,i2⟩:=aG0 (fS ga).2 (fS gs).2 (fS gc).2 h1.2 h2.2
  obtain⟨j1,j2⟩:=aOP (fS ga).1 (fS gs).1 (fS gc).1 h1.1 h2.1
  exact⟨fun t ht=>by
   rcases bZ.1 ht with rfl | ht
   ·exact j1
   ·exact i1 t ht,⟨j2,i2⟩⟩
 | [],_,_::_,_,_,_,h,_=>h.elim
 | _::_,_,[],_,_,_,h,_=>h.elim
 | [],_::_,[],_,_,_,_,h=>h.elim
 | _::_,[],_::_,_,_,_,_,h=>h.elim
end Go.Pli

namespace Go.Pli
open Go Go.PM
abbrev nC (m:Im):Int:=(m.1.length:Int)
theorem aDx {m:Im} {l:List Tp} (h:eY m l=true) {k:Nat} (hk:k<l.length):gT (nC m) (l.getD k zTp):=by
 rw[getD_some (aU hk)]
 exact .inl (bG.1 h _ (eC hk))
theorem aOy {m:Im} (hs:aK m=true) {f:Int} (hf:inM m f=true) {n:Int} (hn:sin n (((aD m f).1.length+(aD m f).2.1.length:Nat):Int)=true):gT (nC m) (iZ (aD m f) n):=by
 have h:=oD hs hf
 simp only[eR,aC] at h
 simp only[sin,aC,aO] at hn
 unfold iZ
 rw[bA (show ¬n<0 by omega),aB,aDD]
 split
 ·exact aDx h.1 (by assumption)
 ·exact aDx h.2.1 (by omega)
theorem aMm {m:Im} (hs:aK m=true) {f:Int} (hf:inM m f=true) (h5:((aD m f).2.2.1.1 !=5)=true):gT (nC m) (aD m f).2.2.1:=by
 have h:=oD hs hf
 simp only[eR,aC,fX] at h
 rcases h.2.2.1 with h | h
 ·have:(aD m f).2.2.1=(5,0,()):=by simpa using h
  rw[this] at h5;cases h5
 ·exact .inl h
theorem aPL {m:Im} (hs:aK m=true) {c:Int} {k:Nat} (hk:k<(dM m c).length):gT (nC m) ((dM m c).getD k zTp):=by
 rw[getD_some (aU hk)]
 have ht:=eC hk
 generalize (dM m c)[k]=t at ht
 unfold dM at ht
 simp only[pJ,fU,List.mem_reverse] at ht
 obtain⟨x,⟨s,hsm,rfl⟩,ht⟩:=ht
 have hin:sin s (m.1.length:Int)=true:=by
  unfold bV at hsm
  cases hd:decide (c<(m.1.length:Int)) <;> simp only[hd,aA,aB] at hsm
  ·cases hsm
  ·have:=nS _ _ (gN _) hsm
   have hd:c<(m.1.length:Int):=by simpa using hd
   simp only[sin,aC,aO]
   omega
 exact .inl (bG.1 (aIn hs s hin) t ht)
theorem aJf {m:Im} {c:Int} (h:sin c (m.1.length:Int)=true):gT (nC m) (tR c):=by
 simp only[sin,aC,aO] at h
 refine .inl ?_
 simp only[fO,tR]
 rw[aG h.1,aG h.2]
 rfl
def qU (n:Int) (e:Eff):Prop:=gS n e.2.1
theorem lS {n:Int} {a:List Tp}:qU n (a,[],()):=fun _ h=>by cases h
theorem iX {n:Int} {a:List Tp} {t:Tp} (h:gT n t):qU n (a,[t],()):=fun _ hx=>by rw[eE] at hx;subst hx;exact h
theorem aGw {m:Im} (hs:aK m=true) {g:Int} (hg:inM m g=true) (t:List Tp):qU (nC m) (iB (aD m g) t):=by
 unfold iB
 cases h:(aD m g).2.2.1.1 !=5 <;> simp only[aA,aB]
 ·exact lS
 ·exact iX (aMm hs hg h)
theorem aNE {n:Int} (o:Int):qU n (eK o).1:=by
 have h1:gT n tI:= .inl rfl
 have h2:gT n tA:= .inl rfl
 have h3:gT n tN:= .inr rfl
 have P:∀{b:Bool} {x y:Eff×Bool×Unit},qU n x.1→qU n y.1→qU n (bif b then x else y).1:=fun {b} {x} {y} h1 h2=>by cases b;exact h2;exact h1
 unfold eK
 exact P (iX h3) (P lS (P (iX h1) (P (iX h1) (P (iX h1) (P lS (P (iX h1) (P (iX h1) (P lS (P lS (P (iX h2) (P (iX h1) lS)))))))))))
theorem aGv {m:Im} (hs:aK m=true) {i:Ins} {f:Int} (hf:inM m f=true) (hi:cB m (aD m f) i=true):qU (nC m) (eL m (aD m f) i):=by
 have hcl:=tY hs
 rcases i with⟨o,a,b,⟨⟩⟩
 unfold eL
 cases hp:(eK o).2.1
 case true=>exact aNE _
 simp only[aB]
 cases e:o==3
 case true=>
  obtain rfl:o=3:=by simpa using e
  exact iX (aOy hs hf (by simpa[cB] using hi))
 simp only[aB]
 cases e:o==4
 case true=>exact lS
 simp only[aB]
 cases e:o==22
 case true=>
  obtain rfl:o=22:=by simpa using e
  exact iX (aJf (by simpa[cB] using hi))
 simp only[aB]
 cases e:o==27
 case true=>
  obtain rfl:o=27:=by simpa using e
  have:sin a (m.1.length:Int)=true∧sin b (iM m a:Int)=true:=by simpa[cB] using hi
  obtain⟨h1,h2⟩:=this
  simp only[sin,aC,aO] at h1 h2
  rw[←zF h1.2] at h2
  exact iX (aPL hs (by omega))
 simp only[aB]
 cases e:o==28
 case true=>exact lS
 simp only[aB]
 cases e:o==29
 case true=>
  obtain rfl:o=29:=by simpa using e
  have:sin a (m.2.1.length:Int)=true:=by simpa[cB] using hi
  simp only[sin,aC,aO] at this
  exact iX (aDx (aE6 hs) (by omega))
 simp only[aB]
 cases e:o==30
 case true=>exact lS
 simp only[aB]
 cases e:o==31
 case true=>
  obtain rfl:o=31:=by simpa using e
  have:sin a (m.2.2.2.1.length:Int)=true:=by simpa[cB] using hi
  exact aGw hs this _
 simp only[aB]
 cases e:o==32
 case true=>
  obtain rfl:o=32:=by simpa using e
  have:sin a (m.1.length:Int)=true∧sin b ((bN m a).2.2.1.length:Int)=true:=by simpa[cB] using hi
  have hsl:gW m a b=true:=by unfold gW;unfold sin at this;rw[this.1,this.2];rfl
  have h1:=xH hsl
  simp only[sin,aC,aO] at this
  obtain⟨h2,h3⟩:=rK (tF hcl this.1.1 this.1.2) h1
  exact aGw hs (bS.2 h2) _
 simp only[aB]
 cases e:o==34
 case true=>
  obtain rfl:o=34:=by simpa using e
  exact iX (aJf (by simpa[cB] using hi))
 simp only[aB]
 cases o==33 <;> simp only[aA,aB]
 ·exact lS
 ·cases (aD m f).2.2.1.1 !=5 <;> exact lS
theorem aAk {m:Im} (hs:aK m=true) {f pc:Int} {s:List Tp} (hok:gS (nC m) s):gS (nC m) (aN m f pc s).1:=by
 have nil:gS (nC m) []:=fun _ h=>by cases h
 unfold aN
 cases hf:inM m f
 ·exact nil
 cases hp:sin pc (codeN m f:Int)
 ·exact nil
 simp only[aI,aY,aB]
 cases (dW (aH m f pc) pc).contains (codeN m f:Int)
 case true=>exact nil
 simp only[aB]
 cases h6:(aH m f pc).1==6 <;> simp only[aA,aB]
 ·have ho:=aGv hs hf (rN hs hf hp)
  unfold mP
  generalize eL m (aD m f) (aH m f pc)=E at ho⊢
  cases decide (s.length<E.1.length) || decide (s.length - E.1.length+E.2.1.length>8) <;> simp only[aA,aB]
  ·cases ((s.drop (s.length - E.1.length)).zip E.1).all fun p=>dZ m (aH m f pc).1 p.1 p.2 <;> simp only[aA,aB]
   ·exact nil
   ·intro t ht
    rcases cR.1 ht with ht | ht
    ·exact hok t (aEf ht)
    ·exact ho t ht
  ·exact nil
 ·cases decide (s.length=0) || decide (s.length≥8) <;> simp only[aA,aB]
  ·intro t ht
   rcases cR.1 ht with ht | ht
   ·exact hok t ht
   ·exact hok t (List.mem_of_mem_drop ht)
  ·exact nil
theorem aPG {m:Im} {o:Int} {a b w:Tp} (h:cH m.1 a b=true) (hb:dZ m o b w=true):dZ m o a w=true:=by
 unfold dZ at hb⊢
 cases h0:w.1==0 <;> simp only[h0,aA,aB] at hb⊢
 cases h4:w.1==4 <;> simp only[h4,aA,aB] at hb⊢
 ·exact aEO h hb
 ·simp only[aC,fX,bne_iff_ne] at hb⊢
  rcases iF.1 h with⟨a4,_⟩ | ⟨a3,_⟩ | ⟨rfl,_⟩
  ·exact⟨vL.2 (.inr (.inr a4)),.inr (by omega)⟩
  ·exact⟨vL.2 (.inr (.inl a3)),.inr (by omega)⟩
  ·exact hb
theorem aJS {m:Im} {o:Int}:∀{a b:List Tp} {w:List Tp},leS m.1 a b→((b.zip w).all fun p=>dZ m o p.1 p.2)=true→((a.zip w).all fun p=>dZ m o p.1 p.2)=true
 | [],[],_,_,_=>by simp
 | x::a,y::b,[],_,_=>by simp
 | x::a,y::b,w::ws,hle,h=>by
  simp only[List.zip_cons_cons,eJ,aC] at h⊢
  exact⟨aPG hle.1 h.1,aJS hle.2 h.2⟩
 | [],_::_,_,h,_=>h.elim
 | _::_,[],_,h,_=>h.elim
theorem aER {m:Im} (hs:aK m=true) {f pc:Int} {s t:List Tp} (hle:leS m.1 s t) (h:(aN m f pc t).2.2.1=0):
  (aN m f pc s).2.2.1=0∧(aN m f pc s).2.1=(aN m f pc t).2.1∧leS m.1 (aN m f pc s).1 (aN m f pc t).1:=by
 have hlen:=qB hle
 unfold aN at h⊢
 cases hf:inM m f
 ·rw[hf] at h;simp at h
 cases hp:sin pc (codeN m f:Int)
 ·rw[hf,hp] at h;simp at h
 simp only[hf,hp,aI,aY,aB] at h⊢
 cases hn:(dW (aH m f pc) pc).contains (codeN m f:Int)
 case true=>rw[hn] at h;simp at h
 simp only[hn,aB] at h⊢
 have hi:=rN hs hf hp
 cases h6:(aH m f pc).1==6 <;> simp only[h6,aA,aB] at h⊢
 ·have ho:=aGv hs hf hi
  unfold mP at h⊢
  rw[hlen]
  generalize eL m (aD m f) (aH m f pc)=E at h ho⊢
  cases hb:decide (t.length<E.1.length) || decide (t.length - E.1.length+E.2.1.length>8) <;> simp only[hb,aA,aB] at h⊢
  ·cases hz:((t.drop (t.length - E.1.length)).zip E.1).all fun p=>dZ m (aH m f pc).1 p.1 p.2 <;> simp only[hz,aA,aB] at h⊢
   ·cases h
   ·rw[aJS (aDk _ hle) hz]
    exact⟨rfl,rfl,aDl (aHt _ hle) (yX ho)⟩
  ·cases h
 ·rw[hlen]
  cases hb:decide (t.length=0) || decide (t.length≥8) <;> simp only[hb,aA,aB] at h⊢
  ·exact⟨trivial,trivial,aDl hle (aDk _ hle)⟩
  ·cases h
structure Gd (m:Im) (N:Nat) (h:List Sh):Prop where
 len:h.length=N
 good:∀s∈h,s.2.1.length≤8∧gS (nC m) s.2.1
 bare:∀s∈h,s.1=false→s=zSh
def sh (h:List Sh) (k:Nat):Sh:=h.getD k zSh
theorem Gd.at' {m:Im} {N:Nat} {h:List Sh} (hg:Gd m N h) (k:Nat):(sh h k).2.1.length≤8∧gS (nC m) (sh h k).2.1:=by
 unfold sh
 by_cases hk:k<h.length
 ·rw[getD_some (aU hk)];exact hg.good _ (eC hk)
 ·rw[gK (by omega)];exact⟨dH _,fun _ h=>by cases h⟩
def Bel (m:Im) (h S:List Sh):Prop:=∀k,(sh h k).1=true→(sh S k).1=true∧leS m.1 (sh h k).2.1 (sh S k).2.1
def Cov (m:Im) (f:Int) (h:List Sh) (pc:Nat):Prop:=
 (aN m f (pc:Int) (sh h pc).2.1).2.2.1=0∧∀to∈(aN m f (pc:Int) (sh h pc).2.1).2.1,(sh h to.toNat).1=true∧leS m.1 (aN m f (pc:Int) (sh h pc).2.1).1 (sh h to.toNat).2.1
structure PF (m:Im) (f:Int) (S:List Sh):Prop where
 gd:Gd m (codeN m f) S
 start:(sh S 0).1=true∧(sh S 0).2.1=[]
 cov:∀pc,(sh S pc).1=true→Cov m f S pc
theorem aJJ {m:Im} {N:Nat} {h:List Sh} (hg:Gd m N h):Bel m h h:=fun k hk=>⟨hk,yX (hg.at' k).2⟩
theorem aJH {m:Im} {a b c:List Sh} (h1:Bel m a b) (h2:Bel m b c):Bel m a c:=fun k hk=>by
 obtain⟨i1,i2⟩:=h1 k hk
 obtain⟨j1,j2⟩:=h2 k i1
 exact⟨j1,sK i2 j2⟩
theorem aBJ {m:Im} {N:Nat} {a b:List Sh} (ga:Gd m N a) (gb:Gd m N b) (h1:Bel m a b) (h2:Bel m b a):a=b:=by
 refine aEg (by rw[ga.len,gb.len]) fun k k1 k2=>?_
 have e1:sh a k=a[k]:=getD_some (aU k1)
 have e2:sh b k=b[k]:=getD_some (aU k2)
 rw[←e1,←e2]
 have key:∀(x y:Sh),x.1=y.1→x.2.1=y.2.1→x=y:=by
  rintro ⟨x1,x2,⟨⟩⟩ ⟨y1,y2,⟨⟩⟩ h1 h2
  simp only at h1 h2
  subst h1 h2
  rfl
 cases hs:(sh a k).1
 ·cases hb:(sh b k).1
  ·rw[e1] at hs⊢
   rw[e2] at hb⊢
   rw[ga.bare _ (eC k1) hs,gb.bare _ (eC k2) hb]
  ·have:=(h2 k hb).1
   rw[hs] at this;cases this
 ·obtain⟨i1,i2⟩:=h1 k hs
  exact key _ _ (by rw[hs,i1]) (aHu (ga.at' k).2 (gb.at' k).2 i2 (h2 k i1).2)
theorem oC {h:List Sh} {k:Nat} (hk:k<h.length) (s:Sh) (j:Nat):sh (h.set k s) j=if j=k then s else sh h j:=by
 unfold sh
 rw[dX,dX,iP]
 by_cases hj:k=j
 ·subst hj;simp[hk]
 ·have:¬j=k:=fun h=>hj h.symm
  simp[hj,this]
theorem aG1 {m:Im} {o:Sh} {s:List Tp} (ho:o.2.1.length≤8∧gS (nC m) o.2.1) (hs8:s.length≤8) (hs:gS (nC m) s) (h:(cW m.1 o s).2.2.1=true):
  ((cW m.1 o s).1.2.1.length≤8∧gS (nC m) (cW m.1 o s).1.2.1)∧(cW m.1 o s).1.1=true∧leS m.1 s (cW m.1 o s).1.2.1∧(o.1=true→leS m.1 o.2.1 (cW m.1 o s).1.2.1)∧((cW m.1 o s).2.1=false→o.1=true∧(cW m.1 o s).1.2.1=o.2.1):=by
 unfold cW at h⊢
 cases h1:o.1 <;> simp only[h1,aY,cA,aA,aB] at h⊢
 ·exact⟨⟨hs8,hs⟩,trivial,yX hs,fun h=>(by cases h),fun h=>(by cases h)⟩
 ·cases h2:decide (o.2.1.length≠s.length) <;> simp only[h2,aA,aB] at h⊢
  ·have hlen:o.2.1.length=s.length:=by simpa using h2
   cases h3:(bR m.1 o.2.1 s).any fun t=>t.1==0 <;> simp only[h3,aA,aB] at h⊢
   ·have hz:∀t∈bR m.1 o.2.1 s,t.1≠0:=fun t ht h0=>by
     have:((bR m.1 o.2.1 s).any fun t=>t.1==0)=true:=iE.2 ⟨t,ht,by simp[h0]⟩
     rw[h3] at this;cases this
    obtain⟨i1,i2,i3⟩:=aGZ hlen ho.2 hs hz
    refine⟨⟨by rw[vD m.1 hlen];exact hs8,i3⟩,trivial,i2,fun _=>i1,fun h=>⟨trivial,by simpa using h⟩⟩
   ·cases h
  ·cases h
theorem aN9 {m:Im} {o S:Sh} {s:List Tp} (ho:gS (nC m) o.2.1) (hS:gS (nC m) S.2.1) (hs:gS (nC m) s) (h1:o.1=true→leS m.1 o.2.1 S.2.1) (h2:leS m.1 s S.2.1):
  (cW m.1 o s).2.2.1=true∧leS m.1 (cW m.1 o s).1.2.1 S.2.1:=by
 unfold cW
 cases ho1:o.1 <;> simp only[aY,cA,aA,aB]
 ·exact⟨trivial,h2⟩
 ·have hle:=h1 ho1
  have hlen:o.2.1.length=s.length:=by rw[qB hle,qB h2]
  have e:decide (o.2.1.length≠s.length)=false:=bA fun h=>h hlen
  rw[e]
  simp only[aB]
  obtain⟨i1,i2⟩:=aG0 ho hs hS hle h2
  have h3:((bR m.1 o.2.1 s).any fun t=>t.1==0)=false:=by
   cases hh:(bR m.1 o.2.1 s).any fun t=>t.1==0
   ·rfl
   ·obtain⟨t,ht,h0⟩:=iE.1 hh
    exact absurd (by simpa using h0) (i1 t ht)
  rw[h3]
  exact⟨rfl,i2⟩
end Go.Pli

namespace Go.Pli
open Go Go.PM
theorem aKp {m:Im} (hs:aK m=true) {f pc:Int} {s:List Tp} (h:(aN m f pc s).2.2.1=0):(aN m f pc s).1.length≤s.length+1:=by
 unfold aN at h⊢
 cases hf:inM m f
 ·rw[hf] at h;simp at h
 cases hp:sin pc (codeN m f:Int)
 ·rw[hf,hp] at h;simp at h
 simp only[hf,hp,aI,aY,aB] at h⊢
 cases hn:(dW (aH m f pc) pc).contains (codeN m f:Int)
 case true=>rw[hn] at h;simp at h
 simp only[hn,aB] at h⊢
 cases h6:(aH m f pc).1==6 <;> simp only[h6,aA,aB] at h⊢
 ·have ho:(eL m (aD m f) (aH m f pc)).2.1.length≤1:=by
   have C:∀(x:Mt) (t:List Tp),(iB x t).2.1.length≤1:=fun x t=>by
    unfold iB
    cases x.2.2.1.1 !=5 <;> simp
   have P:∀{b:Bool} {x y:Eff},x.2.1.length≤1→y.2.1.length≤1→(bif b then x else y).2.1.length≤1:=fun {b} {x} {y} h1 h2=>by cases b;exact h2;exact h1
   have Q:∀{b:Bool} {x y:Eff×Bool×Unit},x.1.2.1.length≤1→y.1.2.1.length≤1→(bif b then x else y).1.2.1.length≤1:=fun {b} {x} {y} h1 h2=>by cases b;exact h2;exact h1
   have h1:∀(a:List Tp) (t:Tp),((a,[t],()):Eff).2.1.length≤1:=fun _ _=>aV _
   have h0:∀(a:List Tp),((a,[],()):Eff).2.1.length≤1:=fun _=>dH _
   have hp:(eK (aH m f pc).1).1.2.1.length≤1:=by
    unfold eK
    exact Q (h1 _ _) (Q (h0 _) (Q (h1 _ _) (Q (h1 _ _) (Q (h1 _ _) (Q (h0 _) (Q (h1 _ _) (Q (h1 _ _) (Q (h0 _) (Q (h0 _) (Q (h1 _ _) (Q (h1 _ _) (h0 _))))))))))))
   unfold eL
   exact P hp (P (h1 _ _) (P (h0 _) (P (h1 _ _) (P (h1 _ _) (P (h0 _) (P (h1 _ _) (P (h0 _) (P (C _ _) (P (C _ _) (P (h1 _ _) (P (P (h0 _) (h0 _)) (h0 _))))))))))))
  unfold mP at h⊢
  generalize eL m (aD m f) (aH m f pc)=E at h ho⊢
  cases hb:decide (s.length<E.1.length) || decide (s.length - E.1.length+E.2.1.length>8) <;> simp only[hb,aA,aB] at h⊢
  ·cases hz:((s.drop (s.length - E.1.length)).zip E.1).all fun p=>dZ m (aH m f pc).1 p.1 p.2 <;> simp only[hz,aA,aB] at h⊢
   ·exact dH _
   ·rw[aW,bU];omega
  ·exact dH _
 ·cases hb:decide (s.length=0) || decide (s.length≥8) <;> simp only[hb,aA,aB] at h⊢
  ·rw[aW,eI]
   omega
  ·exact dH _
theorem aN7 {m:Im} {o:Sh} {s:List Tp} (h:(cW m.1 o s).2.2.1=true) (h':(cW m.1 o s).2.1=true):(cW m.1 o s).1≠o:=by
 unfold cW at h h'⊢
 cases h1:o.1 <;> simp only[h1,aY,cA,aA,aB] at h h'⊢
 ·intro e;rw[←e] at h1;cases h1
 ·cases h2:decide (o.2.1.length≠s.length) <;> simp only[h2,aA,aB] at h h'⊢
  ·cases h3:(bR m.1 o.2.1 s).any fun t=>t.1==0 <;> simp only[h3,aA,aB] at h h'⊢
   ·intro e
    have e2:bR m.1 o.2.1 s=o.2.1:=dG (fun z:Sh=>z.2.1) e
    rw[e2] at h'
    simp at h'
   ·cases h
  ·cases h
theorem aOa {m:Im} {o:Sh} {s:List Tp} (h:(cW m.1 o s).2.2.1=true):(cW m.1 o s).1.2.1.length=s.length:=by
 unfold cW at h⊢
 cases h1:o.1 <;> simp only[h1,aY,cA,aA,aB] at h⊢
 cases h2:decide (o.2.1.length≠s.length) <;> simp only[h2,aA,aB] at h⊢
 ·have hlen:o.2.1.length=s.length:=by simpa using h2
  cases h3:(bR m.1 o.2.1 s).any fun t=>t.1==0 <;> simp only[h3,aA,aB] at h⊢
  ·exact vD m.1 hlen
  ·cases h
 ·cases h
structure aEd (m:Im) (N:Nat) (a:List Tp) (ts:List Int) (h:List Sh) (q:List Bool) (r:Bool×List Sh×List Bool×Unit):Prop where
 gd:Gd m N r.2.1
 ql:r.2.2.1.length=N
 bel:Bel m h r.2.1
 tos:∀to∈ts,(sh r.2.1 to.toNat).1=true∧leS m.1 a (sh r.2.1 to.toNat).2.1
 same:∀k,r.2.2.1.getD k false=false→q.getD k false=false∧sh r.2.1 k=sh h k
 new:∀k,(sh r.2.1 k).1=true→(sh h k).1=true∧(sh r.2.1 k).2.1.length=(sh h k).2.1.length∨(sh r.2.1 k).2.1.length=a.length
 pn:∀k,r.2.2.1.getD k false=true→q.getD k false=true∨(sh r.2.1 k).1=true
 any:q.any id=true→r.2.2.1.any id=true
 mov:q.any id=false→r.2.2.1.any id=true→r.2.1≠h
theorem aJP {q:List Bool} {k:Nat} (hk:k<q.length):(q.set k true).any id=true:=iE.2 ⟨true,by
 have:=eC (l:=q.set k true) (n:=k) (by rwa [dE])
 rwa [List.getElem_set_self] at this,rfl⟩
theorem aRt {m:Im} {N:Nat} {h:List Sh} (hg:Gd m N h) {k:Nat} (hk:k<h.length) {s:Sh} (h1:s.1=true) (h2:(sh h k).1=true→leS m.1 (sh h k).2.1 s.2.1):Bel m h (h.set k s):=fun j hj=>by
 rw[oC hk]
 by_cases e:j=k
 ·rw[if_pos e];subst e;exact⟨h1,h2 hj⟩
 ·rw[if_neg e];exact⟨hj,yX (hg.at' j).2⟩
theorem aHW {m:Im} {N:Nat} {h:List Sh} (hg:Gd m N h) {k:Nat} {s:Sh} (h1:s.1=true) (h2:s.2.1.length≤8∧gS (nC m) s.2.1):Gd m N (h.set k s):=
 ⟨by rw[dE,hg.len],fun x hx=>by
  rcases qX hx with hx | rfl
  ·exact hg.good x hx
  ·exact h2,fun x hx hf=>by
  rcases qX hx with hx | rfl
  ·exact hg.bare x hx hf
  ·rw[h1] at hf;cases hf⟩
theorem aAV {m:Im} {N:Nat} {a:List Tp} (ha8:a.length≤8) (ha:gS (nC m) a):∀(ts:List Int) (h:List Sh) (q:List Bool),Gd m N h→q.length=N→(∀to∈ts,0≤to∧to<(N:Int))→
  (fM m.1 a ts h q).1=true→aEd m N a ts h q (fM m.1 a ts h q)
 | [],h,q,hg,hq,_,_=>⟨hg,hq,aJJ hg,fun _ h=>(by cases h),fun _ h=>⟨h,rfl⟩,fun _ h=> .inl ⟨h,rfl⟩,fun _ h=> .inl h,fun h=>h,fun h1 h2=>by rw[show (fM m.1 a [] h q).2.2.1=q from rfl,h1] at h2;cases h2⟩
 | to::ts,h,q,hg,hq,ht,hr=>by
  obtain⟨t0,t1⟩:=ht to (cG ..)
  have hk:to.toNat<h.length:=by rw[hg.len];omega
  have hkq:to.toNat<q.length:=by rw[hq];omega
  have ht':∀x∈ts,0≤x∧x<(N:Int):=fun x hx=>ht x (bO _ hx)
  unfold fM at hr⊢
  have hmf:=aG1 (m:=m) (o:=h.getD to.toNat zSh) (hg.at' to.toNat) ha8 ha
  have hmm:=aN7 (m:=m) (o:=h.getD to.toNat zSh) (s:=a)
  have hml:=aOa (m:=m) (o:=h.getD to.toNat zSh) (s:=a)
  generalize hM:cW m.1 (h.getD to.toNat zSh) a=M at hr hmf hmm hml⊢
  cases h1:M.2.2.1 <;> simp only[h1,aY,cA,aA,aB] at hr⊢
  ·cases hr
  obtain⟨m1,m2,m3,m4,m5⟩:=hmf h1
  cases h2:M.2.1 <;> simp only[h2,aA,aB] at hr⊢
  ·have I:=aAV ha8 ha ts h q hg hq ht' hr
   obtain⟨e1,e2⟩:=m5 h2
   refine⟨I.gd,I.ql,I.bel,fun x hx=>?_,I.same,I.new,I.pn,I.any,I.mov⟩
   rcases bZ.1 hx with rfl | hx
   ·obtain⟨b1,b2⟩:=I.bel x.toNat e1
    rw[e2] at m3
    exact⟨b1,sK m3 b2⟩
   ·exact I.tos x hx
  ·have hg':=aHW (k:=to.toNat) hg m2 m1
   have hb:=aRt hg hk m2 m4
   have I:=aAV ha8 ha ts (h.set to.toNat M.1) (q.set to.toNat true) hg' (by rw[dE,hq]) ht' hr
   have hne:h.set to.toNat M.1≠h:=fun e=>hmm h1 h2 (by
    have:=dG (fun z=>sh z to.toNat) e
    simp only[oC hk] at this
    exact this)
   refine⟨I.gd,I.ql,aJH hb I.bel,fun x hx=>?_,fun k hk0=>?_,fun k hk1=>?_,fun k hk1=>?_,fun _=>I.any (aJP hkq),fun _ _ e=>?_⟩
   ·rcases bZ.1 hx with rfl | hx
    ·have e1:sh (h.set x.toNat M.1) x.toNat=M.1:=by rw[oC hk,if_pos rfl]
     obtain⟨b1,b2⟩:=I.bel x.toNat (by rw[e1];exact m2)
     rw[e1] at b2
     exact⟨b1,sK m3 b2⟩
    ·exact I.tos x hx
   ·obtain⟨i1,i2⟩:=I.same k hk0
    have hkn:k≠to.toNat:=fun e=>by
     rw[e,dX,tJ hkq] at i1
     cases i1
    rw[oC hk,if_neg hkn] at i2
    rw[dX,pK (fun e=>hkn e.symm),←dX] at i1
    exact⟨i1,i2⟩
   ·rcases I.new k hk1 with⟨i1,i2⟩ | i
    ·by_cases e:k=to.toNat
     ·rw[oC hk,if_pos e] at i2
      exact .inr (by rw[i2,hml h1])
     ·rw[oC hk,if_neg e] at i1 i2
      exact .inl ⟨i1,i2⟩
    ·exact .inr i
   ·rcases I.pn k hk1 with i | i
    ·by_cases e:k=to.toNat
     ·refine .inr (I.bel k ?_).1
      rw[oC hk,if_pos e]
      exact m2
     ·rw[dX,pK (fun e'=>e e'.symm),←dX] at i
      exact .inl i
    ·exact .inr i
   ·refine hne (aBJ (N:=N) hg' hg ?_ hb)
    have:=I.bel
    rw[e] at this
    exact this
theorem aAW {m:Im} {N:Nat} {a:List Tp} {S:List Sh} (hS:Gd m N S) (ha8:a.length≤8) (ha:gS (nC m) a):∀(ts:List Int) (h:List Sh) (q:List Bool),Gd m N h→Bel m h S→(∀to∈ts,(0≤to∧to<(N:Int))∧(sh S to.toNat).1=true∧leS m.1 a (sh S to.toNat).2.1)→
  (fM m.1 a ts h q).1=true∧Bel m (fM m.1 a ts h q).2.1 S
 | [],h,q,hg,hb,_=>⟨rfl,hb⟩
 | to::ts,h,q,hg,hb,ht=>by
  obtain⟨⟨t0,t1⟩,t2,t3⟩:=ht to (cG ..)
  have hk:to.toNat<h.length:=by rw[hg.len];omega
  have ht':=fun x hx=>ht x (bO _ hx)
  unfold fM
  have hmf:=aG1 (m:=m) (o:=h.getD to.toNat zSh) (hg.at' to.toNat) ha8 ha
  have hmb:=aN9 (m:=m) (o:=h.getD to.toNat zSh) (S:=sh S to.toNat) (hg.at' to.toNat).2 (hS.at' to.toNat).2 ha (fun h1=>(hb to.toNat h1).2) t3
  generalize hM:cW m.1 (h.getD to.toNat zSh) a=M at hmf hmb⊢
  obtain⟨b1,b2⟩:=hmb
  obtain⟨m1,m2,m3,m4,m5⟩:=hmf b1
  rw[b1]
  simp only[aY,aB]
  cases h2:M.2.1 <;> simp only[aA,aB]
  ·exact aAW hS ha8 ha ts h q hg hb ht'
  ·refine aAW hS ha8 ha ts _ _ (aHW hg m2 m1) (fun k hk1=>?_) ht'
   rw[oC hk] at hk1⊢
   by_cases e:k=to.toNat
   ·rw[if_pos e] at hk1⊢;subst e;exact⟨t2,b2⟩
   ·rw[if_neg e] at hk1⊢;exact hb k hk1
def DC (h:List Sh):Prop:=∀k,(sh h k).1=true→∀j,j<(sh h k).2.1.length→∃k',(sh h k').1=true∧(sh h k').2.1.length=j
structure WJ (m:Im) (f:Int) (h:List Sh) (q:List Bool):Prop where
 gd:Gd m (codeN m f) h
 ql:q.length=codeN m f
 start:(sh h 0).1=true∧(sh h 0).2.1=[]
 cov:∀pc,(sh h pc).1=true→q.getD pc false=false→Cov m f h pc
 dc:DC h
 pend:∀pc,q.getD pc false=true→(sh h pc).1=true
theorem aJI {m:Im} {h h':List Sh} (hb:Bel m h h') (hs:(sh h 0).1=true∧(sh h 0).2.1=[]):(sh h' 0).1=true∧(sh h' 0).2.1=[]:=by
 obtain⟨i1,i2⟩:=hb 0 hs.1
 refine⟨i1,?_⟩
 have:=qB i2
 rw[hs.2] at this
 exact List.length_eq_zero_iff.1 this.symm
theorem aQr {m:Im} {f:Int} {h h':List Sh} (hb:Bel m h h') {pc:Nat} (e:sh h' pc=sh h pc) (hc:Cov m f h pc):Cov m f h' pc:=by
 unfold Cov at hc⊢
 rw[e]
 refine⟨hc.1,fun to ht=>?_⟩
 obtain⟨i1,i2⟩:=hc.2 to ht
 obtain⟨j1,j2⟩:=hb _ i1
 exact⟨j1,sK i2 j2⟩
theorem aCx {q:List Bool} (h:q.any id=true):q.findIdx id<q.length∧q.getD (q.findIdx id) false=true:=by
 have hk:=aIe h
 refine⟨hk,?_⟩
 have:=List.findIdx_getElem (p:=id) (xs:=q) (w:=hk)
 rw[getD_some (aU hk)]
 exact this
theorem aQd {m:Im} {N:Nat} {a:List Tp} {ts:List Int} {h:List Sh} {q:List Bool} {r:Bool×List Sh×List Bool×Unit} (O:aEd m N a ts h q r) (hd:DC h) {pc:Nat} (hp:(sh h pc).1=true) (ha:a.length≤(sh h pc).2.1.length+1):DC r.2.1:=by
 have up:∀j,(∃k',(sh h k').1=true∧(sh h k').2.1.length=j)→∃k',(sh r.2.1 k').1=true∧(sh r.2.1 k').2.1.length=j:=by
  rintro j ⟨k',h1,h2⟩
  obtain⟨b1,b2⟩:=O.bel k' h1
  exact⟨k',b1,by rw[←qB b2];exact h2⟩
 intro k hk j hj
 rcases O.new k hk with⟨i1,i2⟩ | i
 ·exact up j (hd k i1 j (by omega))
 ·by_cases e:j=(sh h pc).2.1.length
  ·exact up j ⟨pc,hp,e.symm⟩
  ·exact up j (hd pc hp j (by omega))
theorem aEu {m:Im} (hs:aK m=true) {f:Int} {h:List Sh} {q:List Bool} (W:WJ m f h q) (ha:q.any id=true)
  (hr:(lK m f (q.findIdx id:Int) h (q.set (q.findIdx id) false)).1=true):
  WJ m f (lK m f (q.findIdx id:Int) h (q.set (q.findIdx id) false)).2.1 (lK m f (q.findIdx id:Int) h (q.set (q.findIdx id) false)).2.2.1:=by
 obtain⟨hk,htrue⟩:=aCx ha
 generalize q.findIdx id=pc at hk htrue hr⊢
 have hp:=W.pend pc htrue
 unfold lK at hr⊢
 rw[aR] at hr⊢
 cases he:(aN m f (pc:Int) (h.getD pc zSh).2.1).2.2.1 !=0 <;> simp only[he,aA,aB] at hr⊢
 ·have he0:(aN m f (pc:Int) (h.getD pc zSh).2.1).2.2.1=0:=by simpa using he
  obtain⟨-,-,h8,hto⟩:=lM hs he0
  have hlen:=aKp hs he0
  have O:=aAV (N:=codeN m f) h8 (aAk hs (W.gd.at' pc).2) (aN m f (pc:Int) (h.getD pc zSh).2.1).2.1 h (q.set pc false) W.gd (by rw[dE,W.ql]) hto hr
  have hO:=aQd O W.dc hp hlen
  have hst:=aJI O.bel W.start
  refine⟨O.gd,O.ql,hst,fun k hk1 hk2=>?_,hO,fun k hk1=>?_⟩
  ·obtain⟨s1,s2⟩:=O.same k hk2
   by_cases e:k=pc
   ·subst e
    refine⟨by rw[s2];exact he0,fun to ht=>?_⟩
    rw[s2] at ht⊢
    exact O.tos to ht
   ·rw[dX,pK (fun e'=>e e'.symm),←dX] at s1
    exact aQr O.bel s2 (W.cov k (by rw[←s2];exact hk1) s1)
  ·rcases O.pn k hk1 with i | i
   ·by_cases e:k=pc
    ·subst e
     rw[dX,tJ hk] at i
     cases i
    ·rw[dX,pK (fun e'=>e e'.symm),←dX] at i
     exact (O.bel k (W.pend k i)).1
   ·exact i
 ·cases hr
theorem aGA {m:Im} (hs:aK m=true) {f:Int} (hf:inM m f=true) {h:List Sh} {q:List Bool} (hg:Gd m (codeN m f) h) (hq:q.length=codeN m f) (ha:q.any id=true):
  sE m f (q.findIdx id:Int) h (q.set (q.findIdx id) false)=true:=by
 obtain⟨hk,-⟩:=aCx ha
 rw[hq] at hk
 exact OneP.to ⟨hs,hf,by simp only[sin,aC,aO];omega,hg.len,by rw[dE,hq],fun s hs=>fD (by have:=(hg.good s hs).1;omega)⟩
theorem aBZ {m:Im} (hs:aK m=true) {f:Int} (hf:inM m f=true):∀(n:Nat) (h:List Sh) (q:List Bool) (r:List Sh×Int×Int×Unit),WJ m f h q→pN m f n h q=some r→r.2.2.1=0→PF m f r.1∧DC r.1
 | 0,_,_,_,_,h,_=>by cases h
 | n+1,h,q,r,W,hr,h0=>by
  unfold pN at hr
  cases ha:q.any id <;> simp only[ha,aA,aB] at hr
  ·have:=lD hr
   subst this
   refine⟨⟨W.gd,W.start,fun pc hp=>W.cov pc hp ?_⟩,W.dc⟩
   by_cases hk:pc<q.length
   ·rw[getD_some (aU hk)]
    cases hx:q[pc]
    ·rfl
    ·exact absurd (iE.2 ⟨_,eC hk,hx⟩) (by rw[ha];exact Bool.false_ne_true)
   ·rw[gK (by omega)]
  ·unfold aAe at hr
   rw[aGA hs hf W.gd W.ql ha] at hr
   simp only[aA,aJ] at hr
   cases hb:(lK m f (q.findIdx id:Int) h (q.set (q.findIdx id) false)).1 <;> simp only[hb,aY,cA,aA,aB] at hr
   ·have:=lD hr
    subst this
    cases h0
   ·exact aBZ hs hf n _ _ r (aEu hs W ha hb) hr h0
theorem aB0 {m:Im} (hs:aK m=true) {f:Int} (hf:inM m f=true) {S:List Sh} (hS:PF m f S):∀(n:Nat) (h:List Sh) (q:List Bool) (r:List Sh×Int×Int×Unit),WJ m f h q→Bel m h S→pN m f n h q=some r→r.2.2.1=0∧Bel m r.1 S
 | 0,_,_,_,_,_,h=>by cases h
 | n+1,h,q,r,W,hb,hr=>by
  unfold pN at hr
  cases ha:q.any id <;> simp only[ha,aA,aB] at hr
  ·have:=lD hr
   subst this
   exact⟨rfl,hb⟩
  ·unfold aAe at hr
   rw[aGA hs hf W.gd W.ql ha] at hr
   simp only[aA,aJ] at hr
   have key:(lK m f (q.findIdx id:Int) h (q.set (q.findIdx id) false)).1=true∧Bel m (lK m f (q.findIdx id:Int) h (q.set (q.findIdx id) false)).2.1 S:=by
    obtain⟨hk,htrue⟩:=aCx ha
    generalize q.findIdx id=pc at hk htrue
    have hp:=W.pend pc htrue
    obtain⟨p1,p2⟩:=hb pc hp
    obtain⟨c1,c2⟩:=hS.cov pc p1
    obtain⟨s1,s2,s3⟩:=aER hs p2 c1
    obtain⟨-,-,h8,hto⟩:=lM hs s1
    unfold lK
    rw[aR]
    rw[show (aN m f (pc:Int) (h.getD pc zSh).2.1).2.2.1=0 from s1]
    simp only[bne_self_eq_false,aB]
    refine aAW hS.gd h8 (aAk hs (W.gd.at' pc).2) _ h _ W.gd hb fun to ht=>⟨hto to ht,?_⟩
    rw[show (aN m f (pc:Int) (h.getD pc zSh).2.1).2.1=_ from s2] at ht
    obtain⟨d1,d2⟩:=c2 to ht
    exact⟨d1,sK s3 d2⟩
   rw[key.1] at hr
   simp only[aY,aB] at hr
   exact aB0 hs hf hS n _ _ r (aEu hs W ha key.1) key.2 hr
theorem xI {m:Im} {f:Int} (hc:0<codeN m f) (k:Nat):sh (gI m f) k=if k=0 then (true,[],()) else zSh:=by
 unfold gI
 rw[oC (by simpa using hc)]
 by_cases e:k=0
 ·rw[if_pos e,if_pos e]
 ·rw[if_neg e,if_neg e]
  unfold sh
  by_cases hk:k<codeN m f
  ·rw[getD_some (aU (by simpa using hk))];simp
  ·rw[gK (by simpa using hk)]
theorem aCd {m:Im} {f:Int}:Gd m (codeN m f) (gI m f):=by
 refine⟨by simp[gI],fun s hs=>?_,fun s hs h=>?_⟩ <;>
  rcases qX hs with hs | rfl
 ·rw[qW] at hs
  rw[hs.2]
  exact⟨dH _,fun _ h=>by cases h⟩
 ·exact⟨dH _,fun _ h=>by cases h⟩
 ·rw[qW] at hs
  exact hs.2
 ·cases h
theorem aKu {m:Im} (hs:aK m=true) {f:Int} (hf:inM m f=true):WJ m f (gI m f) ((List.replicate (codeN m f) false).set 0 true):=by
 have hc:=(eW hs hf).1
 have sq:∀k,((List.replicate (codeN m f) false).set 0 true).getD k false=decide (k=0):=fun k=>by
  by_cases e:k=0
  ·subst e
   rw[dX,tJ (by simpa using hc)];rfl
  ·rw[dX,pK (fun e'=>e e'.symm),bA e]
   rw[List.getElem?_replicate]
   split <;> rfl
 refine⟨aCd,by simp,by rw[xI hc];exact⟨rfl,rfl⟩,fun pc h1 h2=>?_,fun k h1 j hj=>?_,fun k h=>?_⟩
 ·rw[sq] at h2
  rw[xI hc,if_neg (by simpa using h2)] at h1
  cases h1
 ·rw[xI hc] at hj
  by_cases e:k=0
  ·rw[if_pos e] at hj;cases hj
  ·rw[if_neg e] at hj;cases hj
 ·rw[sq] at h
  rw[xI hc,if_pos (by simpa using h)]
theorem aAl {m:Im} (hs:aK m=true) {f:Int} (hf:inM m f=true) {S:List Sh} (hS:PF m f S):Bel m (gI m f) S:=fun k h=>by
 have hc:=(eW hs hf).1
 rw[xI hc] at h⊢
 by_cases e:k=0
 ·subst e
  rw[if_pos rfl,hS.start.2]
  exact⟨hS.start.1,trivial⟩
 ·rw[if_neg e] at h;cases h
end Go.Pli

namespace Go.Pli
open Go Go.PM
structure wS (m:Im) (N:Nat) (t:Bool) (h:List Sh) (r:Bool×List Sh):Prop where
 gd:Gd m N r.2
 bel:Bel m h r.2
 still:r.1=false→t=false∧r.2=h
 moved:r.1=true→t=true∨r.2≠h
theorem aH8 {m:Im} {N:Nat} {t:Bool} {h:List Sh} (hg:Gd m N h):wS m N t h (t,h):=⟨hg,aJJ hg,fun h=>⟨h,rfl⟩,fun h=> .inl h⟩
theorem aPA {m:Im} {N:Nat} {t:Bool} {h:List Sh} {r z:Bool×List Sh} (hg:Gd m N h) (h1:wS m N t h r) (h2:wS m N r.1 r.2 z):wS m N t h z:=
 ⟨h2.gd,aJH h1.bel h2.bel,fun hz=>by
  obtain⟨a,b⟩:=h2.still hz
  obtain⟨c,d⟩:=h1.still a
  exact⟨c,b.trans d⟩,fun hz=>by
  rcases h2.moved hz with a | a
  ·rcases h1.moved a with b | b
   ·exact .inl b
   ·refine .inr fun e=>b (aBJ h1.gd hg ?_ h1.bel)
    rw[←e];exact h2.bel
  ·refine .inr fun e=>a ?_
   have:Bel m r.2 h:=by rw[←e];exact h2.bel
   rw[e]
   exact aBJ hg h1.gd h1.bel this⟩
theorem aBl {m:Im} {N:Nat} {a:List Tp}:∀(ts:List Int) (h:List Sh) (q:List Bool),q.length=N→(∀to∈ts,0≤to∧to<(N:Int))→
  jX m.1 a ts (q.any id) h=bif (fM m.1 a ts h q).1 then some ((fM m.1 a ts h q).2.2.1.any id,(fM m.1 a ts h q).2.1) else none
 | [],_,_,_,_=>rfl
 | to::ts,h,q,hq,ht=>by
  obtain⟨t0,t1⟩:=ht to (cG ..)
  have hkq:to.toNat<q.length:=by rw[hq];omega
  have ht':∀x∈ts,0≤x∧x<(N:Int):=fun x hx=>ht x (bO _ hx)
  unfold jX fM
  generalize cW m.1 (h.getD to.toNat zSh) a=M
  cases h1:M.2.2.1 <;> simp only[aY,cA,aA,aB]
  cases h2:M.2.1 <;> simp only[aA,aB]
  ·exact aBl ts h q hq ht'
  ·have:=aBl (m:=m) (a:=a) ts (h.set to.toNat M.1) (q.set to.toNat true) (by rw[dE,hq]) ht'
   rw[aJP hkq] at this
   exact this
theorem aBL {N:Nat} (hN:0<N) (t:Bool):(List.replicate N t).any id=t:=by
 cases t
 ·cases h:(List.replicate N false).any id
  ·rfl
  ·obtain⟨x,hx,hx'⟩:=iE.1 h
   rw[qW] at hx
   rw[hx.2] at hx';cases hx'
 ·exact iE.2 ⟨true,qW.2 ⟨by omega,rfl⟩,rfl⟩
theorem aJQ {m:Im} {N:Nat} {a:List Tp} {ts:List Int} {h:List Sh} {q:List Bool} {r:Bool×List Sh×List Bool×Unit} (O:aEd m N a ts h q r) (hg:Gd m N h) (h0:r.2.2.1.any id=false):r.2.1=h:=by
 have hk:∀k,sh r.2.1 k=sh h k:=fun k=>(O.same k (by
  by_cases hk:k<r.2.2.1.length
  ·rw[getD_some (aU hk)]
   cases hx:r.2.2.1[k]
   ·rfl
   ·exact absurd (iE.2 ⟨_,eC hk,hx⟩) (by rw[h0];exact Bool.false_ne_true)
  ·rw[gK (by omega)])).2
 refine aEg (by rw[O.gd.len,hg.len]) fun k k1 k2=>?_
 have:=hk k
 unfold sh at this
 rwa [getD_some (aU k1),getD_some (aU k2)] at this
theorem aIa {m:Im} (hs:aK m=true) {f:Int} {pc:Nat} {t:Bool} {h:List Sh} {r:Bool×List Sh} (hg:Gd m (codeN m f) h) (hr:nJ m f pc t h=some r):
  wS m (codeN m f) t h r∧(r.1=false→(sh h pc).1=true→Cov m f h pc):=by
 unfold nJ at hr
 cases h1:(h.getD pc zSh).1 <;> simp only[h1,aY,cA,aA,aB] at hr
 ·have:=lD hr
  subst this
  exact⟨aH8 hg,fun _ h2=>by rw[show (sh h pc).1=false from h1] at h2;cases h2⟩
 ·cases he:(aN m f (pc:Int) (h.getD pc zSh).2.1).2.2.1 !=0 <;> simp only[he,aA,aB] at hr
  ·have he0:(aN m f (pc:Int) (h.getD pc zSh).2.1).2.2.1=0:=by simpa using he
   obtain⟨-,hp,h8,hto⟩:=lM hs he0
   have hN:0<codeN m f:=by simp only[sin,aC,aO] at hp;omega
   have hE:=aBl (m:=m) (N:=codeN m f) (a:=(aN m f (pc:Int) (h.getD pc zSh).2.1).1) (aN m f (pc:Int) (h.getD pc zSh).2.1).2.1 h (List.replicate (codeN m f) t) (by simp) hto
   rw[aBL hN,hr] at hE
   have O:=aAV (N:=codeN m f) h8 (aAk hs (hg.at' pc).2) (aN m f (pc:Int) (h.getD pc zSh).2.1).2.1 h (List.replicate (codeN m f) t) hg (by simp) hto
   generalize fM m.1 (aN m f (pc:Int) (h.getD pc zSh).2.1).1 (aN m f (pc:Int) (h.getD pc zSh).2.1).2.1 h (List.replicate (codeN m f) t)=z at hE O
   cases hz:z.1 <;> rw[hz] at hE <;> simp only[aA,aB] at hE
   ·cases hE
   have O:=O hz
   have:=lD hE
   subst this
   refine⟨⟨O.gd,O.bel,fun h0=>⟨?_,aJQ O hg h0⟩,fun h1=>?_⟩,fun h0 _=>⟨he0,fun to ht=>?_⟩⟩
   ·cases t
    ·rfl
    ·have:=O.any (aBL hN true)
     rw[show z.2.2.1.any id=false from h0] at this;cases this
   ·cases t
    ·exact .inr (O.mov (aBL hN false) h1)
    ·exact .inl rfl
   ·have:=O.tos to ht
    rw[aJQ O hg h0] at this
    exact this
  ·cases hr
theorem aBk {m:Im} (hs:aK m=true) {f:Int}:∀(n:Nat) (t:Bool) (h:List Sh) (r:Bool×List Sh),Gd m (codeN m f) h→iL m f n t h=some r→
  wS m (codeN m f) t h r∧(r.1=false→∀pc,pc<n→(sh h pc).1=true→Cov m f h pc)
 | 0,t,h,r,hg,hr=>by
  have:=lD hr
  subst this
  exact⟨aH8 hg,fun _ _ h=>(by cases h)⟩
 | n+1,t,h,r,hg,hr=>by
  unfold iL at hr
  cases hz:nJ m f n t h with
  | none=>rw[hz] at hr;cases hr
  | some z=>
   rw[hz] at hr
   simp only[aJ] at hr
   obtain⟨F1,F2⟩:=aIa hs hg hz
   obtain⟨G1,G2⟩:=aBk hs n z.1 z.2 r F1.gd hr
   refine⟨aPA hg F1 G1,fun h0 pc hp hseen=>?_⟩
   obtain⟨a,b⟩:=G1.still h0
   obtain⟨c,d⟩:=F1.still a
   by_cases e:pc=n
   ·subst e;exact F2 a hseen
   ·have:=G2 h0 pc (by omega)
    rw[d] at this
    exact this hseen
theorem aPB {m:Im} {N:Nat} {a:List Tp} {S:List Sh} (hS:Gd m N S) (ha8:a.length≤8) (ha:gS (nC m) a) (hN:0<N) {ts:List Int} {t:Bool} {h:List Sh} (hg:Gd m N h) (hb:Bel m h S) (ht:∀to∈ts,(0≤to∧to<(N:Int))∧(sh S to.toNat).1=true∧leS m.1 a (sh S to.toNat).2.1):
  ∃r,jX m.1 a ts t h=some r∧Bel m r.2 S:=by
 have hE:=aBl (m:=m) (N:=N) (a:=a) ts h (List.replicate N t) (by simp) (fun to h=>(ht to h).1)
 rw[aBL hN] at hE
 obtain⟨b1,b2⟩:=aAW hS ha8 ha ts h (List.replicate N t) hg hb ht
 rw[b1] at hE
 exact⟨_,hE,b2⟩
theorem aH7 {m:Im} (hs:aK m=true) {f:Int} {S:List Sh} (hS:PF m f S):∀(n:Nat) (t:Bool) (h:List Sh),Gd m (codeN m f) h→Bel m h S→∃r,iL m f n t h=some r∧Bel m r.2 S
 | 0,t,h,_,hb=>⟨_,rfl,hb⟩
 | n+1,t,h,hg,hb=>by
  have key:∃r,nJ m f n t h=some r∧Bel m r.2 S:=by
   unfold nJ
   cases h1:(h.getD n zSh).1 <;> simp only[aY,cA,aA,aB]
   ·exact⟨_,rfl,hb⟩
   ·obtain⟨p1,p2⟩:=hb n h1
    obtain⟨c1,c2⟩:=hS.cov n p1
    obtain⟨s1,s2,s3⟩:=aER hs p2 c1
    obtain⟨-,hp,h8,hto⟩:=lM hs s1
    have hN:0<codeN m f:=by simp only[sin,aC,aO] at hp;omega
    rw[show (aN m f (n:Int) (h.getD n zSh).2.1).2.2.1=0 from s1]
    simp only[bne_self_eq_false,aB]
    refine aPB hS.gd h8 (aAk hs (hg.at' n).2) hN hg hb fun to ht=>⟨hto to ht,?_⟩
    rw[show (aN m f (n:Int) (h.getD n zSh).2.1).2.1=_ from s2] at ht
    obtain⟨d1,d2⟩:=c2 to ht
    exact⟨d1,sK s3 d2⟩
  obtain⟨z,hz,hzb⟩:=key
  obtain⟨F1,-⟩:=aIa hs hg hz
  obtain⟨r,hr,hrb⟩:=aH7 hs hS n z.1 z.2 F1.gd hzb
  unfold iL
  rw[hz]
  exact⟨r,hr,hrb⟩
def h8 (l:List Cl) (t:Tp):Nat:=if t.1=4 then 8 else if t.1=3 then (bW l t.2.1).length - 1 else 0
theorem aPc {l:List Cl} (hl:l.length≤8) (t:Tp):h8 l t≤8:=by
 have:=zJ hl t.2.1
 unfold h8
 split
 ·omega
 ·split <;> omega
theorem aPb {l:List Cl} (hl:l.length≤8) {a b:Tp} (ga:gT (l.length:Int) a) (gb:gT (l.length:Int) b) (h:cH l a b=true):a=b∨h8 l b<h8 l a:=by
 have hc:=zJ hl b.2.1
 rcases iF.1 h with⟨a4,hb⟩ | ⟨a3,b3,hab⟩ | ⟨h,_⟩
 ·by_cases b4:b.1=4
  ·have e1:=aBi ga a4
   have e2:=aBi gb b4
   exact .inl (rF (by omega) (by omega))
  ·refine .inr ?_
   unfold h8
   rw[if_neg b4,if_pos a4]
   split <;> omega
 ·by_cases e:b.2.1=a.2.1
  ·exact .inl (rF (by omega) e.symm)
  ·refine .inr ?_
   have hb:=nU.1 hab
   have:=(aBC _ _ (gN _) hb.2.2.2).2 e
   have h1:0<(bW l b.2.1).length:=by rw[gL hb.1];simp
   unfold h8
   rw[if_neg (by omega),if_pos b3,if_neg (by omega),if_pos a3]
   omega
 ·exact .inl h
def hs8 (l:List Cl) (s:List Tp):Nat:=bB (s.map (h8 l))
theorem aDv {l:List Cl} (hl:l.length≤8):∀s:List Tp,hs8 l s≤8*s.length
 | []=>aV _
 | t::s=>by
  have:=aDv hl s
  have:=aPc hl t
  unfold hs8 at*
  simp only[dI,bB,aF]
  omega
theorem aHL {l:List Cl} (hl:l.length≤8):∀{a b:List Tp},gS (l.length:Int) a→gS (l.length:Int) b→leS l a b→hs8 l b≤hs8 l a∧(a≠b→hs8 l b<hs8 l a)
 | [],[],_,_,_=>⟨aV _,fun h=>absurd rfl h⟩
 | x::a,y::b,ga,gb,h=>by
  obtain⟨i1,i2⟩:=aHL hl (fS ga).2 (fS gb).2 h.2
  have j:=aPb hl (fS ga).1 (fS gb).1 h.1
  unfold hs8 at*
  simp only[dI,bB]
  rcases j with rfl | j
  ·exact⟨by omega,fun hne=>by have:=i2 fun e=>hne (by rw[e]);omega⟩
  ·exact⟨by omega,fun _=>by omega⟩
 | [],_::_,_,_,h=>h.elim
 | _::_,[],_,_,h=>h.elim
def pw (l:List Cl) (S h:Sh):Nat:=if S.1 then (if h.1 then hs8 l h.2.1 else 1+8*S.2.1.length) else 0
def pot (l:List Cl) (N:Nat) (S h:List Sh):Nat:=bB ((List.range N).map fun k=>pw l (sh S k) (sh h k))
theorem aAg {α:Type} {f g:α→Nat}:∀(l:List α),(∀x∈l,f x≤g x)→bB (l.map f)≤bB (l.map g)
 | [],_=>aV _
 | x::l,h=>by
  have:=aAg l fun y hy=>h y (bO _ hy)
  have:=h x (cG ..)
  simp only[dI,bB]
  omega
theorem aEM {α:Type} {f g:α→Nat}:∀(l:List α),(∀x∈l,f x≤g x)→(∃x∈l,f x<g x)→bB (l.map f)<bB (l.map g)
 | [],_,h=>by obtain⟨x,hx,_⟩:=h;cases hx
 | x::l,h,⟨y,hy,hlt⟩=>by
  have i:=aAg l fun y hy=>h y (bO _ hy)
  have j:=h x (cG ..)
  simp only[dI,bB]
  rcases bZ.1 hy with rfl | hy
  ·omega
  ·have:=aEM l (fun y hy=>h y (bO _ hy)) ⟨y,hy,hlt⟩
   omega
theorem aNj {m:Im} (hl:m.1.length≤8) {N:Nat} {S h h':List Sh} (hg:Gd m N h) (hg':Gd m N h') (hb:Bel m h h') (hbS:Bel m h' S) (hne:h'≠h):pot m.1 N S h'<pot m.1 N S h:=by
 have key:∀k,pw m.1 (sh S k) (sh h' k)≤pw m.1 (sh S k) (sh h k)∧(sh h' k≠sh h k→pw m.1 (sh S k) (sh h' k)<pw m.1 (sh S k) (sh h k)):=fun k=>by
  unfold pw
  cases h1:(sh h' k).1
  ·have h0:(sh h k).1=false:=by
    cases h0:(sh h k).1
    ·rfl
    ·have:=(hb k h0).1
     rw[h1] at this;cases this
   rw[h0]
   refine⟨aV _,fun hne=>absurd ?_ hne⟩
   have z:∀{x:List Sh},Gd m N x→(sh x k).1=false→sh x k=zSh:=fun {x} hx h=>by
    unfold sh at h⊢
    by_cases hk:k<x.length
    ·rw[getD_some (aU hk)] at h⊢
     exact hx.bare _ (eC hk) h
    ·exact gK (by omega)
   rw[z hg' h1,z hg h0]
  ·obtain⟨s1,s2⟩:=hbS k h1
   rw[s1]
   cases h0:(sh h k).1 <;> simp only[cL,kC,cI]
   ·have:=aDv hl (sh h' k).2.1
    rw[qB s2] at this
    exact⟨by omega,fun _=>by omega⟩
   ·obtain⟨-,b2⟩:=hb k h0
    obtain⟨c1,c2⟩:=aHL hl (hg.at' k).2 (hg'.at' k).2 b2
    refine⟨c1,fun hne=>c2 fun e=>hne ?_⟩
    generalize sh h' k=x at h1 e⊢
    generalize sh h k=y at h0 e⊢
    obtain⟨x1,x2,⟨⟩⟩:=x
    obtain⟨y1,y2,⟨⟩⟩:=y
    simp only at h1 h0 e
    subst h1 h0 e
    rfl
 refine aEM _ (fun k _=>(key k).1) ?_
 have:∃k,k<N∧sh h' k≠sh h k:=Classical.byContradiction fun hno=>hne (by
  refine aEg (by rw[hg'.len,hg.len]) fun k k1 k2=>?_
  have e:sh h' k=sh h k:=Classical.byContradiction fun h=>hno ⟨k,by rw[←hg'.len];exact k1,h⟩
  unfold sh at e
  rwa [getD_some (aU k1),getD_some (aU k2)] at e)
 obtain⟨k,hk,hne⟩:=this
 exact⟨k,tG.2 hk,(key k).2 hne⟩
theorem aAh {α:Type} (f g:α→Nat):∀l:List α,bB (l.map fun x=>f x+g x)=bB (l.map f)+bB (l.map g)
 | []=>rfl
 | x::l=>by have:=aAh f g l;simp only[dI,bB];omega
theorem aB9 {c:Nat}:∀{N a:Nat},a<N→bB ((List.range N).map fun k=>if k=a then c else 0)=c:=by
 have app:∀(a b:List Nat),bB (a++b)=bB a+bB b:=fun a b=>by
  induction a with
  | nil=>simp[bB]
  | cons x a ih=>simp only[rA,bB,ih];omega
 have z:∀{N a:Nat},N≤a→bB ((List.range N).map fun k=>if k=a then c else 0)=0:=fun {N} {a} h=>by
  induction N with
  | zero=>rfl
  | succ n ih=>
   rw[List.range_succ,jG,app,ih (by omega)]
   simp only[dI,List.map_nil,bB]
   rw[if_neg (by omega)]
 intro N a h
 induction N with
 | zero=>cases h
 | succ n ih=>
  rw[List.range_succ,jG,app]
  simp only[dI,List.map_nil,bB]
  by_cases e:n=a
  ·rw[z (by omega),if_pos e];omega
  ·rw[ih (by omega),if_neg e];omega
theorem aEL {f:Nat→Nat} {c:Nat}:∀(N:Nat),(∀k,f k≤c)→bB ((List.range N).map f)≤c*N:=fun N h=>by
 have:=aAg (f:=f) (g:=fun _=>c) (List.range N) fun k _=>h k
 have e:bB ((List.range N).map fun _=>c)=c*N:=by
  have:∀l:List Nat,bB (l.map fun _=>c)=c*l.length:=fun l=>by
   induction l with
   | nil=>rfl
   | cons x l ih=>simp only[dI,bB,ih,aF];rw[Nat.mul_succ];omega
  rw[this,List.length_range]
 omega
theorem aNh {m:Im} {f:Int} (hc:codeN m f≤64) {S h:List Sh} (hl:m.1.length≤8) (hS:PF m f S) (hd:DC S) (hb:Bel m h S):pot m.1 (codeN m f) S h<4000:=by
 let v:Nat→Nat:=fun k=>if (sh S k).1 then 1+8*(sh S k).2.1.length else 0
 have hv:∀k,pw m.1 (sh S k) (sh h k)≤v k:=fun k=>by
  show _≤(if (sh S k).1 then 1+8*(sh S k).2.1.length else 0)
  unfold pw
  split
  ·split
   ·rename_i h1
    have:=aDv hl (sh h k).2.1
    rw[qB (hb k h1).2] at this
    omega
   ·omega
  ·omega
 have h1:pot m.1 (codeN m f) S h≤bB ((List.range (codeN m f)).map v):=aAg _ fun k _=>hv k
 have h65:∀k,v k≤65:=fun k=>by
  show (if (sh S k).1 then 1+8*(sh S k).2.1.length else 0)≤65
  have:=(hS.gd.at' k).1
  split <;> omega
 by_cases h3:∃k,(sh S k).1=true∧2<(sh S k).2.1.length
 ·obtain⟨k,k1,k2⟩:=h3
  obtain⟨k0,a1,a2⟩:=hd k k1 0 (by omega)
  obtain⟨k1',b1,b2⟩:=hd k k1 1 (by omega)
  obtain⟨k2',c1,c2⟩:=hd k k1 2 (by omega)
  have inN:∀{j},(sh S j).1=true→j<codeN m f:=fun {j} h=>by
   by_cases hj:j<codeN m f
   ·exact hj
   ·unfold sh at h
    rw[gK (by rw[hS.gd.len];omega)] at h
    cases h
  have n01:k0≠k1':=fun e=>by subst e;omega
  have n02:k0≠k2':=fun e=>by subst e;omega
  have n12:k1'≠k2':=fun e=>by subst e;omega
  have key:=aEL (f:=fun k=>v k+((if k=k0 then 64 else 0)+((if k=k1' then 56 else 0)+(if k=k2' then 48 else 0)))) (c:=65) (codeN m f) fun k=>by
   have:=h65 k
   by_cases e0:k=k0
   ·have:v k=1:=by show (if (sh S k).1 then 1+8*(sh S k).2.1.length else 0)=1;subst e0;rw[a1,a2];rfl
    simp only[if_pos e0,if_neg (show k≠k1' by omega),if_neg (show k≠k2' by omega)]
    omega
   ·by_cases e1:k=k1'
    ·have:v k=9:=by show (if (sh S k).1 then 1+8*(sh S k).2.1.length else 0)=9;subst e1;rw[b1,b2];rfl
     simp only[if_pos e1,if_neg e0,if_neg (show k≠k2' by omega)]
     omega
    ·by_cases e2:k=k2'
     ·have:v k=17:=by show (if (sh S k).1 then 1+8*(sh S k).2.1.length else 0)=17;subst e2;rw[c1,c2];rfl
      simp only[if_pos e2,if_neg e0,if_neg e1]
      omega
     ·simp only[if_neg e2,if_neg e0,if_neg e1]
      omega
  rw[aAh v,aAh,aAh,aB9 (inN a1),aB9 (inN b1),aB9 (inN c1)] at key
  omega
 ·have:=aEL (f:=v) (c:=17) (codeN m f) fun k=>by
   show (if (sh S k).1 then 1+8*(sh S k).2.1.length else 0)≤17
   split
   ·rename_i hk
    have:¬2<(sh S k).2.1.length:=fun h=>h3 ⟨k,hk,h⟩
    omega
   ·omega
  omega
theorem aL7 {m:Im} (hs:aK m=true) {f:Int} {h:List Sh} {r:Bool×List Sh} (hg:Gd m (codeN m f) h) (hst:(sh h 0).1=true∧(sh h 0).2.1=[]) (hr:iL m f (codeN m f) false h=some r) (h0:r.1=false):PF m f r.2:=by
 obtain⟨F,G⟩:=aBk hs _ _ _ _ hg hr
 obtain⟨-,e⟩:=F.still h0
 rw[e]
 refine⟨hg,hst,fun pc hp=>?_⟩
 by_cases hk:pc<codeN m f
 ·exact G h0 pc hk hp
 ·unfold sh at hp
  rw[gK (by rw[hg.len];omega)] at hp
  cases hp
theorem aFj {m:Im} (hs:aK m=true) {f:Int}:∀(n:Nat) (h:List Sh),Gd m (codeN m f) h→((sh h 0).1=true∧(sh h 0).2.1=[])→(gJ m f n h=([],false,()))∨((gJ m f n h).2.1=true∧PF m f (gJ m f n h).1)
 | 0,_,_,_=> .inl rfl
 | n+1,h,hg,hst=>by
  unfold gJ
  cases hr:iL m f (codeN m f) false h with
  | none=>exact .inl rfl
  | some r=>
   simp only
   cases h1:r.1 <;> simp only[aA,aB]
   ·exact .inr ⟨trivial,aL7 hs hg hst hr h1⟩
   ·obtain⟨F,-⟩:=aBk hs _ _ _ _ hg hr
    exact aFj hs n r.2 F.gd (aJI F.bel hst)
theorem aFl {m:Im} (hs:aK m=true) {f:Int} {S:List Sh} (hl:m.1.length≤8) (hS:PF m f S):∀(n:Nat) (h:List Sh),Gd m (codeN m f) h→Bel m h S→pot m.1 (codeN m f) S h<n→(gJ m f n h).2.1=true∧Bel m (gJ m f n h).1 S
 | 0,_,_,_,h=>by omega
 | n+1,h,hg,hb,hp=>by
  obtain⟨r,hr,hrb⟩:=aH7 hs hS (codeN m f) false h hg hb
  obtain⟨F,-⟩:=aBk hs _ _ _ _ hg hr
  unfold gJ
  rw[hr]
  simp only
  cases h1:r.1 <;> simp only[aA,aB]
  ·exact⟨trivial,hrb⟩
  ·refine aFl hs hl hS n r.2 F.gd hrb ?_
   have:=aNj hl hg F.gd F.bel hrb ((F.moved h1).resolve_left Bool.false_ne_true)
   omega
theorem aGX {m:Im} (hs:aK m=true) {f:Int} (hf:inM m f=true):∃r,wX m f=some r∧wR (codeN m f) r.1∧
  (r.2.2.1=0→gJ m f 4000 (gI m f)=(r.1,true,()))∧(r.2.2.1≠0→gJ m f 4000 (gI m f)=([],false,()))∧(r.2.2.1=0→PF m f r.1):=by
 obtain⟨r,hr,hg⟩:=aEw hs hf
 have hl:=(dA (dL hs).1).classes
 have hc:=eW hs hf
 have W:=aKu hs hf
 have hw:=hr
 unfold wX at hw
 rw[hs,hf] at hw
 simp only[aI,aA] at hw
 have R:=aFj hs (f:=f) 4000 (gI m f) aCd W.start
 refine⟨r,hr,hg,fun h0=>?_,fun h0=>?_,fun h0=>(aBZ hs hf _ _ _ _ W hw h0).1⟩
 ·obtain⟨P,D⟩:=aBZ hs hf _ _ _ _ W hw h0
  obtain⟨e1,e2⟩:=aFl hs hl P 4000 (gI m f) aCd (aAl hs hf P) (aNh hc.2 hl P D (aAl hs hf P))
  rcases R with R | ⟨_,R⟩
  ·rw[R] at e1;cases e1
  ·obtain⟨-,b⟩:=aB0 hs hf R _ _ _ _ W (aAl hs hf R) hw
   have e:=aBJ R.gd P.gd e2 b
   generalize gJ m f 4000 (gI m f)=z at e1 e
   obtain⟨z1,z2,⟨⟩⟩:=z
   simp only at e1 e
   rw[e1,e]
 ·rcases R with R | ⟨_,R⟩
  ·exact R
  ·exact absurd (aB0 hs hf R _ _ _ _ W (aAl hs hf R) hw).1 h0
theorem aJi {m:Im} (hs:aK m=true):∀(l:List Int) (out:List (List Sh)),(∀f∈l,inM m f=true)→∃r,qN m l out=some r∧
  (r.2.2.2.1=0→tE m l out=(r.1,-1,()))∧(r.2.2.2.1≠0→tE m l out=([],r.2.1,())∧inM m r.2.1=true)∧(r.2.2.2.1=0→r.1.length=out.length+l.length)
 | [],out,_=>⟨_,rfl,fun _=>rfl,fun h=>absurd rfl h,fun _=>rfl⟩
 | f::l,out,hl=>by
  have hf:=hl f (cG ..)
  obtain⟨r,hr,-,h1,h2,-⟩:=aGX hs hf
  unfold qN tE
  rw[hr]
  simp only[aJ]
  cases he:r.2.2.1 !=0 <;> simp only[aA,aB]
  ·rw[h1 (by simpa using he)]
   obtain⟨r',i1,i2,i3,i4⟩:=aJi hs l (out++[r.1]) fun x hx=>hl x (bO _ hx)
   exact⟨r',i1,i2,i3,fun h0=>by rw[i4 h0];simp;omega⟩
  ·have h0:r.2.2.1≠0:=by simpa using he
   rw[h2 h0]
   exact⟨_,rfl,fun h=>absurd h h0,fun _=>⟨rfl,hf⟩,fun h=>absurd h h0⟩
theorem aKg {m:Im} (hs:aK m=true):∃r,tU m=some r∧(r.2.2.2.1=0→jT m=some (r.1,-1,())∧r.1.length=m.2.2.2.1.length)∧(r.2.2.2.1≠0→jT m=some ([],r.2.1,())∧inM m r.2.1=true):=by
 obtain⟨r,h1,h2,h3,h4⟩:=aJi hs (ints m.2.2.2.1.length) [] fun f hf=>bS.2 (kP.1 hf)
 refine⟨r,?_,fun h0=>⟨?_,?_⟩,fun h0=>⟨?_,(h3 h0).2⟩⟩
 ·unfold tU;rw[hs];exact h1
 ·unfold jT;rw[hs,h2 h0];rfl
 ·rw[h4 h0,oP];simp
 ·unfold jT;rw[hs,(h3 h0).1];rfl
end Go.Pli

namespace Go.Pli
open Go Go.PM
theorem pM {n:Int} (h1: -1000000000≤n) (h2:n≤1000000000):IntKind.i64.wrap n=n:=by rw[cO] <;> omega
theorem yS {n:Int} (h1: -1000000000≤n) (h2:n≤1000000000):lof n=(n,true,()):=by
 unfold lof
 rw[aG (show n> -4611686018427387904 by omega),aG (show n<4611686018427387904 by omega)]
 rfl
theorem aKe {a b:Int} (ha:a= -1∨a=0∨a=1) (hb:0≤b∧b≤4096):tT (lof a) (lof b)=(a*b,true,()):=by
 have hab: -4096≤a*b∧a*b≤4096:=by rcases ha with rfl | rfl | rfl <;> omega
 rw[yS (by omega) (by omega),yS (by omega) (by omega)]
 unfold tT
 simp only[aI,aA]
 have h1:dS a=0∨dS a=1:=by rcases ha with rfl | rfl | rfl <;> decide
 have h2:dS b=b:=by
  unfold dS
  rw[bA (show ¬b<0 by omega),aB]
  show (b % 18446744073709551616)=b
  omega
 have h3:0≤dS a*dS b∧dS a*dS b≤4096:=by rw[h2];rcases h1 with h | h <;> rw[h] <;> omega
 generalize dS a*dS b=z at h3
 rw[bA (show ¬(z/18446744073709551616≠0) by omega),bA (show ¬(z % 18446744073709551616≥4611686018427387904) by omega)]
 simp only[Bool.or_self,aB]
 rw[pM (by omega) (by omega),yS (by omega) (by omega)]
def hZ:List (Int×Int)→Int
 | []=>0
 | p::r=>p.1*p.2+hZ r
theorem aKj (l:List (Int×Int)):∀(s k:Int),(∀p∈l,(p.1= -1∨p.1=0∨p.1=1)∧0≤p.2∧p.2≤4096)→-k≤s→s≤k→k+4096*(l.length:Int)≤1000000→lL l (s,true,())=(s+hZ l,true,()):=by
 induction l with
 | nil=>intro s k _ _ _ _;rw[lL,hZ,Int.add_zero]
 | cons p r ih=>
  intro s k h h1 h2 h3
  have hp:=h p (cG ..)
  have hab: -4096≤p.1*p.2∧p.1*p.2≤4096:=by
   obtain⟨ha,hb⟩:=hp
   rcases ha with e | e | e <;> rw[e] <;> omega
  rw[aF] at h3
  rw[lL,hZ,aKe hp.1 hp.2]
  have:uS (s,true,()) (p.1*p.2,true,())=(s+p.1*p.2,true,()):=by
   unfold uS
   rw[aI,aA,pM (by omega) (by omega),yS (by omega) (by omega)]
  rw[this,ih _ (k+4096) (fun q hq=>h q (bO _ hq)) (by omega) (by omega) (by omega),Int.add_assoc]
theorem aIC:∀(n:Nat) (v:List Int),hZ ((List.replicate n 0).zip v)=0
 | 0,v=>by simp[hZ]
 | n+1,[]=>by simp[hZ]
 | n+1,x::v=>by
  rw[List.replicate_succ,List.zip_cons_cons,hZ,aIC n v]
  simp
theorem aID:∀(z v:List Int) (k:Nat) (d:Int),k<z.length→z.length=v.length→hZ ((z.set k d).zip v)=hZ (z.zip v)+(d - z.getD k 0)*v.getD k 0
 | [],_,_,_,h,_=>by simp at h
 | _::_,[],_,_,_,h=>by simp at h
 | a::z,x::v,0,d,_,_=>by
  simp only[List.set_cons_zero,List.zip_cons_cons,hZ,List.getD_cons_zero]
  rw[Int.sub_mul]
  omega
 | a::z,x::v,k+1,d,h,hl=>by
  have:=aID z v k d (by simpa using h) (by simpa using hl)
  simp only[List.set_cons_succ,List.zip_cons_cons,hZ,List.getD_cons_succ,this]
  omega
theorem aJV {z v:List Int} {a d:Int} (hl:z.length=v.length) (ha:a<(z.length:Int)) (hz:∀x∈z,x= -1∨x=0∨x=1) (hd: -1≤d∧d≤1):
  hZ ((gY z a d).zip v)=hZ (z.zip v)+(if 0≤a then d*v.getD a.toNat 0 else 0)∧(gY z a d).length=z.length:=by
 unfold gY
 by_cases h:0≤a
 ·rw[aG (show a≥0 from h),aA,if_pos h]
  have hk:a.toNat<z.length:=by omega
  have hg:z.getD a.toNat 0= -1∨z.getD a.toNat 0=0∨z.getD a.toNat 0=1:=by rw[getD_some (aU hk)];exact hz _ (eC hk)
  rw[pM (by omega) (by omega),aID z v _ _ hk hl]
  refine⟨?_,dE⟩
  congr 1
  congr 1
  omega
 ·rw[bA (show ¬a≥0 from h),aB,if_neg h]
  exact⟨by omega,rfl⟩
theorem row_holds {v:List Int} {n a b c:Int} (hn:n=(v.length:Int)) (h64:v.length≤64) (ha:a<n) (hb:b<n) (hv:∀x∈v,0≤x∧x≤4096):
  mD (dQ n a b c) v=(decide ((if 0≤a then -(v.getD a.toNat 0) else 0)+(if 0≤b then v.getD b.toNat 0 else 0)≤c),0,()):=by
 subst hn
 have l0:(List.replicate ((v.length:Int)).toNat (0:Int)).length=v.length:=by simp
 obtain⟨d1,l1⟩:=aJV (z:=List.replicate ((v.length:Int)).toNat 0) (v:=v) (a:=a) (d:= -1) l0 (by rw[l0];exact ha) (fun x hx=>by rw[qW] at hx;exact .inr (.inl hx.2)) ⟨by decide,by decide⟩
 have hz1:∀x∈gY (List.replicate ((v.length:Int)).toNat 0) a (-1),x= -1∨x=0:=by
  intro x hx
  unfold gY at hx
  by_cases h:0≤a
  ·rw[aG (show a≥0 from h),aA] at hx
   rcases qX hx with hx | hx
   ·rw[qW] at hx;exact .inr hx.2
   ·have hg:(List.replicate ((v.length:Int)).toNat (0:Int)).getD a.toNat 0=0:=by
     rw[dX,List.getElem?_replicate]
     split <;> rfl
    rw[hg,pM (by omega) (by omega)] at hx
    exact .inl (by omega)
  ·rw[bA (show ¬a≥0 from h),aB,qW] at hx
   exact .inr hx.2
 obtain⟨d2,l2⟩:=aJV (z:=gY (List.replicate ((v.length:Int)).toNat 0) a (-1)) (v:=v) (a:=b) (d:=1) (by rw[l1,l0]) (by rw[l1,l0];exact hb) (fun x hx=>(hz1 x hx).imp id .inl) ⟨by decide,by decide⟩
 have hz2:∀x∈(dQ (v.length:Int) a b c).1,x= -1∨x=0∨x=1:=by
  intro x hx
  show _
  have hx:x∈gY (gY (List.replicate ((v.length:Int)).toNat 0) a (-1)) b 1:=hx
  unfold gY at hx
  by_cases h:0≤b
  ·rw[aG (show b≥0 from h),aA] at hx
   rcases qX hx with hx | hx
   ·exact (hz1 x hx).imp id .inl
   ·change x=IntKind.i64.wrap ((gY (List.replicate ((v.length:Int)).toNat 0) a (-1)).getD b.toNat 0+1) at hx
    have hk:b.toNat<(gY (List.replicate ((v.length:Int)).toNat 0) a (-1)).length:=by rw[l1,l0];omega
    have hg:=hz1 _ (eC hk)
    rw[getD_some (aU hk),pM (by omega) (by omega)] at hx
    omega
  ·rw[bA (show ¬b≥0 from h),aB] at hx
   exact (hz1 x hx).imp id .inl
 have hlen:(dQ (v.length:Int) a b c).1.length=v.length:=l2.trans (l1.trans l0)
 have hdot:hZ ((dQ (v.length:Int) a b c).1.zip v)=(if 0≤a then -(v.getD a.toNat 0) else 0)+(if 0≤b then v.getD b.toNat 0 else 0):=by
  show hZ ((gY (gY (List.replicate ((v.length:Int)).toNat 0) a (-1)) b 1).zip v)=_
  rw[d2,d1,aIC]
  split <;> split <;> omega
 unfold mD
 rw[bA (show ¬((dQ (v.length:Int) a b c).1.length≠v.length) from fun h=>h hlen),aB,yS (by omega) (by omega)]
 rw[aKj _ 0 0 (fun p hp=>by
  obtain⟨h1,h2⟩:=List.of_mem_zip hp
  exact⟨hz2 _ h1,hv _ h2⟩) (by omega) (by omega) (by rw[List.length_zip,hlen];omega),hdot]
 unfold aBg
 simp only[aY,aB,Int.zero_add]
 rfl
theorem aHF {m:Im} (hs:aK m=true) {f:Int} (hf:inM m f=true) {pc:Int} (hp:sin pc (codeN m f:Int)=true):eX (aH m f pc)=true:=by
 obtain⟨h0,h1⟩:=bS.1 hf
 exact (kO ((dA (dL hs).1).mts _ (oL h0 h1))).2.2.2.1.2 _ (aDr hp)
theorem aB6 {m:Im} (hs:aK m=true) {f:Int} (hf:inM m f=true) {pc:Int} (hp:sin pc (codeN m f:Int)=true):∀g∈cP m (aH m f pc),inM m g=true:=fun g hg=>
 aEC (aED (dL hs).2) hf (aC6.1 (pJ.2 ⟨_,fU.2 ⟨_,aDr hp,rfl⟩,hg⟩))
theorem aQt {m:Im} (hs:aK m=true) {f:Int} (hf:inM m f=true) {pc:Int} (hp:sin pc (codeN m f:Int)=true):jY m (aH m f pc)=kL m (aH m f pc):=by
 have hg:=aHF hs hf hp
 have ht:=aB6 hs hf hp
 have hfil:(cP m (aH m f pc)).filter (inM m)=cP m (aH m f pc):=List.filter_eq_self.2 ht
 unfold jY kL
 rw[hfil]
 generalize aH m f pc=i at hg
 cases h22:i.1==22 <;> simp only[aA,aB]
 cases h23:i.1==23 <;> simp only[aA,aB]
 have e:i.1=23:=by simpa using h23
 unfold eX at hg
 rw[e] at hg
 simp only[aC] at hg
 have h1:=hg.2.1
 unfold tM at h1
 rw[show eH 23=1 from rfl] at h1
 simp only[show decide ((0:Int)≥1)=false from rfl,aB,aC,aO] at h1
 congr 2
 omega
theorem aOh {l:List Int} {b:Int} (h:∀x∈l,x≤b):∀a,a≤b→l.foldl max a≤b:=by
 induction l with
 | nil=>exact fun a h=>h
 | cons x l ih=>exact fun a ha=>ih (fun y hy=>h y (bO _ hy)) _ (by have:=h x (cG ..);omega)
theorem aOi (l:List Int):∀a,a≤l.foldl max a:=by
 induction l with
 | nil=>exact fun a=>iQ _
 | cons x l ih=>exact fun a=>Int.le_trans (by omega) (ih (max a x))
theorem aNi {m:Im} (hs:aK m=true) {f:Int} (hf:inM m f=true):0≤dV m f∧dV m f≤4096:=by
 obtain⟨h0,h1⟩:=bS.1 hf
 exact (kO ((dA (dL hs).1).mts _ (oL h0 h1))).2.2.2.2.2.1
theorem yE {m:Im} (hs:aK m=true) {f:Int} (hf:inM m f=true):(cZ m f).length=codeN m f∧∀x∈cZ m f,0≤x∧x≤4096:=by
 obtain⟨h0,h1⟩:=bS.1 hf
 have:=oD hs hf
 simp only[eR,aC,aO] at this
 exact⟨this.2.2.2.2.1,(kO ((dA (dL hs).1).mts _ (oL h0 h1))).2.2.2.2.2.2.2⟩
theorem aPI {m:Im} (hs:aK m=true) (c:Int):(dM m c).length≤64:=by
 have hl:=(dA (dL hs).1).classes
 have key:∀(l:List Int),(∀s∈l,sin s (m.1.length:Int)=true)→((l.map fun s=>(bN m s).2.1).flatten).length≤8*l.length:=by
  intro l
  induction l with
  | nil=>intro _;simp
  | cons s l ih=>
   intro h
   have h1:=h s (cG ..)
   simp only[sin,aC,aO] at h1
   have h2:=(zI ((dA (dL hs).1).cls _ (aBB h1.1 h1.2))).2.1.1
   have:=ih fun x hx=>h x (bO _ hx)
   rw[dI,fW,aW,aF]
   omega
 unfold dM
 have hin:∀s∈(bV m.1 c).reverse,sin s (m.1.length:Int)=true:=fun s hs'=>by
  rw[List.mem_reverse] at hs'
  unfold bV at hs'
  cases hd:decide (c<(m.1.length:Int)) <;> simp only[hd,aA,aB] at hs'
  ·cases hs'
  ·have:=nS _ _ (gN _) hs'
   have hd:c<(m.1.length:Int):=by simpa using hd
   simp only[sin,aC,aO]
   omega
 have h1:=key _ hin
 have h2:((bV m.1 c).reverse).length≤8:=by
  rw[List.length_reverse]
  unfold bV
  cases decide (c<(m.1.length:Int)) <;> simp only[aA,aB]
  ·exact dH _
  ·exact zJ hl c
 omega
theorem aQs {m:Im} (hs:aK m=true) {f:Int} (hf:inM m f=true) {pc:Int} (hp:sin pc (codeN m f:Int)=true):0≤kL m (aH m f pc)∧kL m (aH m f pc)≤4096:=by
 have hg:=aHF hs hf hp
 have ht:=aB6 hs hf hp
 unfold kL
 generalize aH m f pc=i at hg ht
 cases h22:i.1==22 <;> simp only[aA,aB]
 ·cases h23:i.1==23 <;> simp only[aA,aB]
  ·have hx:∀x∈(cP m i).map (dV m),x≤4096:=fun x hx=>by
    obtain⟨g,hg,rfl⟩:=fU.1 hx
    exact (aNi hs (ht g hg)).2
   exact⟨aOi _ 0,aOh hx 0 (by decide)⟩
  ·have e:i.1=23:=by simpa using h23
   unfold eX at hg
   rw[e] at hg
   simp only[aC] at hg
   have h1:=hg.2.1
   unfold tM at h1
   rw[show eH 23=1 from rfl] at h1
   simp only[show decide ((0:Int)≥1)=false from rfl,aB,aC,aO] at h1
   rw[pM (by omega) (by omega)]
   omega
 ·have:=aPI hs i.2.1
  unfold pQ
  omega
theorem aPi {v:List Int} (hv:∀x∈v,0≤x∧x≤4096) (k:Nat):0≤v.getD k 0∧v.getD k 0≤4096:=by
 by_cases h:k<v.length
 ·rw[getD_some (aU h)];exact hv _ (eC h)
 ·rw[gK (by omega)];decide
theorem aDy {m:Im} (hs:aK m=true) {f:Int} (hf:inM m f=true) {a b c:Int} (ha:a<(codeN m f:Int)) (hb:b<(codeN m f:Int)):
  nI m f (dQ (codeN m f:Int) a b c)=decide ((if 0≤a then -((cZ m f).getD a.toNat 0) else 0)+(if 0≤b then (cZ m f).getD b.toNat 0 else 0)≤c):=by
 obtain⟨p1,p2⟩:=yE hs hf
 have hc:=eW hs hf
 unfold nI
 rw[row_holds (by rw[p1]) (by rw[p1];exact hc.2) ha hb p2]
 simp
theorem aJR {α:Type} {l:List α} {p q:α→Bool} (h:∀x∈l,p x= !q x):l.all p= !l.any q:=by
 induction l with
 | nil=>rfl
 | cons x l ih=>rw[eJ,List.any_cons,h x (cG ..),ih fun y hy=>h y (bO _ hy),Bool.not_or]
theorem aLW {m:Im} (hs:aK m=true) {f:Int} (hf:inM m f=true) {l:List (List Sh)} (P:PF m f (l.getD f.toNat [])) {pc:Nat} (hpc:pc<codeN m f):
  (kK m l f (pc:Int)).all (nI m f)= !zM m l f pc:=by
 obtain⟨p1,p2⟩:=yE hs hf
 have hshape:bQ l f (pc:Int)=sh (l.getD f.toNat []) pc:=by unfold bQ sh;rw[aR]
 have hp:sin (pc:Int) (codeN m f:Int)=true:=by simp only[sin,aC,aO];omega
 have hg:∀k,0≤(cZ m f).getD k 0∧(cZ m f).getD k 0≤4096:=aPi p2
 unfold kK zM
 rw[hshape]
 cases hseen:(sh (l.getD f.toNat []) pc).1
 ·simp
 ·obtain⟨c1,c2⟩:=P.cov pc hseen
  obtain⟨-,-,-,hto⟩:=lM hs c1
  have hb:((aN m f (pc:Int) (sh (l.getD f.toNat []) pc).2.1).2.2.1 !=0)=false:=by rw[c1];rfl
  rw[hb]
  simp only[aY,aB,eD]
  have hcost:=aQs hs hf hp
  rw[aQt hs hf hp]
  generalize (aN m f (pc:Int) (sh (l.getD f.toNat []) pc).2.1).2.1=ts at hto
  rw[wQ,List.all_map]
  have h1:(bif decide (ts.length=0) then[dQ (codeN m f:Int) (pc:Int) (-1) 0] else[]).all (nI m f)=true:=by
   cases decide (ts.length=0) <;> simp only[aA,aB]
   ·rfl
   ·rw[eJ,List.all_nil,zV,aDy hs hf (by omega) (by omega),if_pos (by omega),if_neg (by decide)]
    have:=hg ((pc:Int)).toNat
    exact aG (by omega)
  rw[h1,eD]
  refine aJR fun to ht=>?_
  have h2:=hto to ht
  show nI m f (dQ (codeN m f:Int) (pc:Int) to (IntKind.i64.wrap (0 - kL m (aH m f (pc:Int)))))=_
  rw[aDy hs hf (by omega) h2.2,if_pos (by omega),if_pos h2.1,aR,pM (by omega) (by omega)]
  have:=hg pc
  have:=hg to.toNat
  rw[pM (by omega) (by omega)]
  by_cases h:(cZ m f).getD pc 0<kL m (aH m f (pc:Int))+(cZ m f).getD to.toNat 0
  ·rw[aG h,bA (by omega)];rfl
  ·rw[bA h,aG (by omega)];rfl
theorem aLT {m:Im} (hs:aK m=true) {f:Int} (hf:inM m f=true) {l:List (List Sh)} (P:PF m f (l.getD f.toNat [])):
  (jQ m l f).all (nI m f)= !pC m l f:=by
 have hc:=eW hs hf
 obtain⟨p1,p2⟩:=yE hs hf
 unfold jQ pC
 rw[hf]
 simp only[aA,eJ]
 rw[aDy hs hf (by omega) (by omega),if_neg (by decide),if_pos (by decide)]
 have e1:decide ((0:Int)+(cZ m f).getD (0:Int).toNat 0≤dV m f)= !decide ((cZ m f).getD 0 0>dV m f):=by
  rw[show (0:Int).toNat=0 from rfl]
  by_cases h:(cZ m f).getD 0 0>dV m f
  ·rw[aG h,bA (by omega)];rfl
  ·rw[bA h,aG (by omega)];rfl
 rw[e1,Bool.not_or]
 congr 1
 rw[all_flat]
 exact aJR fun pc hpc=>aLW hs hf P (tG.1 hpc)
where
 all_flat {α β:Type} {l:List α} {g:α→List β} {p:β→Bool}:((l.map g).flatten).all p=l.all fun x=>(g x).all p:=by
  induction l with
  | nil=>rfl
  | cons x l ih=>rw[dI,fW,wQ,eJ,ih]
theorem aNr {m:Im} (hs:aK m=true) {f:Int} (hf:inM m f=true):(cZ m f).any oJ=false:=by
 cases h:(cZ m f).any oJ
 ·rfl
 ·obtain⟨x,hx,hn⟩:=iE.1 h
  have:=(yE hs hf).2 x hx
  unfold oJ at hn
  have:x<0:=by simpa using hn
  omega
end Go.Pli

namespace Go.Pli
open Go Go.PM
theorem aDa {α σ R:Type} {L:σ→(σ→Option R)→Option R} {xs:List α} {st:Nat→σ} {p:α→Bool} {ex:α→Option R} {fin:Option R}
  (h1:∀(k:Nat) (x:α) (rec),xs[k]? =some x→k<xs.length→L (st k) rec=bif p x then ex x else rec (st (k+1)))
  (h2:∀rec,L (st xs.length) rec=fin):∀F:Nat,xs.length<F→aE L F (st 0)=match xs.find? p with
   | some x=>ex x
   | none=>fin:=by
 have key:∀(l pre:List α) (F:Nat),xs=pre++l→l.length<F→aE L F (st pre.length)=match l.find? p with
   | some x=>ex x
   | none=>fin:=by
  intro l
  induction l with
  | nil=>
   intro pre F hx hF
   obtain⟨F,rfl⟩:∃n,F=n+1:=⟨F - 1,by simp at hF;omega⟩
   rw[aX,List.find?_nil]
   have:pre.length=xs.length:=by rw[hx];simp
   rw[this,h2]
  | cons x l ih=>
   intro pre F hx hF
   obtain⟨F,rfl⟩:∃n,F=n+1:=⟨F - 1,by simp at hF;omega⟩
   rw[aX,wP,h1 pre.length x _ (by rw[hx];simp) (by rw[hx];simp)]
   cases hp:p x <;> simp only[aA,aB]
   have:=ih (pre++[x]) F (by rw[hx];simp) (by simp at hF;omega)
   rw[aW] at this
   exact this
 exact fun F hF=>key xs [] F rfl hF
theorem aDJ {α R:Type} {p:α→Bool} {ex fin:R}:∀xs:List α,(match xs.find? p with | some _=>ex | none=>fin)=bif xs.any p then ex else fin
 | []=>rfl
 | x::xs=>by
  rw[wP,List.any_cons]
  cases p x
  ·simp only[jK]
   exact aDJ xs
  ·rfl
theorem aEQ {m:Im} {f pc:Int} {s:List Tp} (h:(aN m f pc s).2.2.1≠0):(aN m f pc s).2.1=[]:=by
 have C:∀{b:Bool} {x y:St4},(x.2.2.1≠0→x.2.1=[])→(y.2.2.1≠0→y.2.1=[])→((bif b then x else y).2.2.1≠0→(bif b then x else y).2.1=[]):=fun {b} {x} {y} h1 h2=>by cases b;exact h2;exact h1
 revert h
 unfold aN mP
 exact C (fun _=>rfl) (C (fun _=>rfl) (C (C (fun _=>rfl) (fun h=>absurd rfl h)) (C (fun _=>rfl) (C (fun h=>absurd rfl h) (fun _=>rfl)))))
theorem aM7 (m:Im) (l:List (List Sh)) (r) (h:uP m l=some r):∃k,aF2 k m l=some r:=by
 unfold uP at h
 cases hg:aK m&&yN m l <;> rw[hg] at h <;> simp only[aA,aB] at h
 ·cases h
 have:=lD h
 subst this
 simp only[yN,aC,aO,bG] at hg
 obtain⟨hs,hok,hl,hrow⟩:=hg
 have hfi:=(dL hs).1
 have h12:=(dA hfi).methods
 refine⟨1001,?_⟩
 unfold aF2 aAL
 have fold:∀g:Nat,m.2.2.2.1.getD g zMt=aD m (g:Int):=fun g=>by unfold aD;rw[aR]
 have key:=aDa (L:=aAG m l 1001) (xs:=ints m.2.2.2.1.length) (st:=fun k=>((k:Int),())) (p:=pC m l) (ex:=fun f=>some (f,())) (fin:=some ((-1:Int),()))
  (fun f x rec hk hlt=>by
   rw[oP] at hlt
   have hx:x=(f:Int):=by have:=aHE hlt 0;rw[getD_some hk] at this;exact this
   subst hx
   have hf:inM m (f:Int)=true:=bS.2 ⟨by omega,by omega⟩
   have hc:=eW hs hf
   obtain⟨p1,p2⟩:=yE hs hf
   have ephi:(aD m (f:Int)).2.2.2.2.2.2.1=cZ m (f:Int):=rfl
   have epot:(aD m (f:Int)).2.2.2.2.2.1=dV m (f:Int):=rfl
   have ecode:(aD m (f:Int)).2.2.2.1.length=codeN m (f:Int):=rfl
   have eins:∀pc:Nat,(aD m (f:Int)).2.2.2.1.getD pc cT=aH m (f:Int) (pc:Int):=fun pc=>by unfold aH;rw[aR]
   have hphi0:decide ((0:Int)<((cZ m (f:Int)).length:Int))=true:=aG (by omega)
   have hw:=bH hlt (show _≤lenMax by simp only[lenMax];omega)
   have hlf:=hrow (f:Int) (kP.2 (bS.1 hf))
   rw[aR] at hlf
   have hfl:decide ((f:Int)<(l.length:Int))=true:=aG (by omega)
   rw[aAG]
   simp only[dlt hlt,dge,aI,aA,aR,fold,ephi,epot,hphi0]
   unfold pC
   cases hd:decide ((cZ m (f:Int)).getD 0 0>dV m (f:Int)) <;> simp only[rB,jK,aA,aB]
   have inner:=aDa (L:=aAH m l 1001 ((f:Int),()) rec) (xs:=List.range (codeN m (f:Int))) (st:=fun k=>((k:Int),())) (p:=zM m l (f:Int)) (ex:=fun _=>some ((f:Int),())) (fin:=rec (((f+1:Nat):Int),()))
    (fun pc x rec4 hk2 hlt2=>by
     rw[List.length_range] at hlt2
     have hx:x=pc:=by
      rw[List.getElem?_range hlt2] at hk2
      exact (lD hk2).symm
     subst hx
     have hp:sin (x:Int) (codeN m (f:Int):Int)=true:=by simp only[sin,aC,aO];omega
     have hpl:decide ((x:Int)<((l.getD f []).length:Int))=true:=aG (by omega)
     have hpp:decide ((x:Int)<((cZ m (f:Int)).length:Int))=true:=aG (by omega)
     have hw2:=bH hlt2 (show _≤lenMax by simp only[lenMax];omega)
     have eshape:(l.getD f []).getD x zSh=bQ l (f:Int) (x:Int):=by unfold bQ;rw[aR,aR]
     have hsl:okL (bQ l (f:Int) (x:Int)).2.1=true:=by
      rw[←eshape]
      have:=(aGE hok (n:=f) (by omega)).2
      have hm:(l.getD f []).getD x zSh∈l.getD f []:=by
       have:x<(l.getD f []).length:=by omega
       rw[getD_some (aU this)];exact eC this
      exact fD (this _ hm)
     have hstep:oF m (f:Int) (x:Int) (bQ l (f:Int) (x:Int)).2.1=some (aN m (f:Int) (x:Int) (bQ l (f:Int) (x:Int)).2.1):=by unfold oF;rw[hs,hsl];rfl
     have hcost:rV m (aH m (f:Int) (x:Int))=some (kL m (aH m (f:Int) (x:Int)),()):=by
      unfold rV
      rw[hfi,bG.2 (aB6 hs hf hp)]
      rfl
     rw[aAH]
     simp only[fold,ecode,dlt hlt2,dge,hfl,hpl,aI,aA,aR,eshape,hstep,hw2,aJ]
     unfold zM
     cases hseen:(bQ l (f:Int) (x:Int)).1 <;> simp only[aY,cA,eD,kD,aA,aB]
     have hts:(aN m (f:Int) (x:Int) (bQ l (f:Int) (x:Int)).2.1).2.1.length≤2∧∀to∈(aN m (f:Int) (x:Int) (bQ l (f:Int) (x:Int)).2.1).2.1,0≤to∧to<(codeN m (f:Int):Int):=by
      refine⟨tW m (f:Int) (x:Int) _,?_⟩
      by_cases e0:(aN m (f:Int) (x:Int) (bQ l (f:Int) (x:Int)).2.1).2.2.1=0
      ·exact (lM hs e0).2.2.2
      ·rw[aEQ e0]
       exact fun _ h=>by cases h
     generalize aN m (f:Int) (x:Int) (bQ l (f:Int) (x:Int)).2.1=Z at hts
     obtain⟨hts2,hts⟩:=hts
     have edges:=aDa (L:=aAI m ((f:Int),()) ((x:Int),()) rec4 Z) (xs:=Z.2.1) (st:=fun k=>((k:Int),())) (p:=fun to=>decide ((cZ m (f:Int)).getD x 0<IntKind.i64.wrap (kL m (aH m (f:Int) (x:Int))+(cZ m (f:Int)).getD to.toNat 0))) (ex:=fun _=>some ((f:Int),())) (fin:=rec4 (((x+1:Nat):Int),()))
      (fun k to rec7 hk3 hlt3=>by
       have hm3:to∈Z.2.1:=jF hk3
       obtain⟨t0,t1⟩:=hts to hm3
       have t2:decide (to<((cZ m (f:Int)).length:Int))=true:=aG (by omega)
       have hw3:=bH hlt3 (show _≤lenMax by simp only[lenMax];omega)
       rw[aAI]
       simp only[dlt hlt3,dge,aI,aA,aR,fold,ephi,ecode,eins,dlt hlt2,hpp,hcost,getD_some hk3,t0,t2,aM,hw3,aJ])
      (fun rec7=>by
       rw[aAI]
       simp only[bT,aB,hw2]) 1001 (by omega)
     rw[aDJ] at edges
     exact edges)
    (fun rec4=>by
     rw[List.length_range,aAH]
     simp only[aR,fold,ecode,bT,aB,hw]) 1001 (by rw[List.length_range];omega)
   rw[aDJ] at inner
   exact inner)
  (fun rec=>by
   rw[oP,aAG]
   simp only[bT,aB]) 1001 (by rw[oP];omega)
 refine (show _=_ from key).trans ?_
 cases (ints m.2.2.2.1.length).find? (pC m l) <;> rfl
end Go.Pli

namespace Go.Pli
open Go Go.PM
theorem aQ2 (s:List Mt):aI6 s=some (idL s,()):=by simp[aI6,idL]
theorem aO8 (m:Im) (r) (h:vP m=some r):∃k,aHI k m=some r:=by
 unfold vP at h
 cases hi:cC m <;> simp only[hi,aA,aB] at h
 ·cases h
 injection h with h
 subst h
 have hf:=dA hi
 have h8:=hf.classes
 have h12:=hf.methods
 have h16:=hf.ints
 have hst:=hf.statics
 have hent:=hf.entries
 simp only[gU,jB,aC,aO] at hst hent
 refine⟨100,?_⟩
 have k1:aE (aBf m ((m.1.length:Int),(m.1,m.2.1,m.2.2.1,(),m.2.2.2.2.1,m.2.2.2.2.2),())) 100 ((0:Int),([]:List Mt),())=some (m,()):=by
  refine aHc (xs:=m.2.2.2.1) (f:=id) (st:=fun k acc=>((k:Int),acc,())) (fun k x acc rec hk hlt hacc=>?_) (fun rec=>?_) 100 (by omega)
  ·rw[aBf]
   obtain⟨⟨x1,_⟩,⟨x2,_⟩,_,⟨x4,_⟩,_,_,⟨x7,_⟩⟩:=kO (hf.mts x (jF hk))
   have hroom:∀y:Mt,decide (acc.length+[y].length<rowMax)=true:=fun y=>aG (by simp[rowMax];omega)
   simp only[dlt hlt,dge,aI,aA,aR,getD_some hk,aBO (show x.1.length<1000000 by omega),aBO (show x.2.1.length<1000000 by omega),aRC (show x.2.2.2.1.length<1000000 by omega),
    aD8 (show x.2.2.2.2.2.2.1.length<1000000 by omega),aJ,hroom,bH hlt (show m.2.2.2.1.length≤lenMax by simp only[lenMax];omega)]
   rfl
  ·rw[aBf]
   simp only[bT,aB,List.map_id]
   rfl
 have k2:aE (aBe m 100) 100 ((0:Int),(([]:List Cl),m.2.1,m.2.2.1,(),m.2.2.2.2.1,m.2.2.2.2.2),())=some (m,()):=by
  refine aHc (xs:=m.1) (f:=id) (st:=fun k acc=>((k:Int),(acc,m.2.1,m.2.2.1,(),m.2.2.2.2.1,m.2.2.2.2.2),())) (fun k x acc rec hk hlt hacc=>?_) (fun rec=>?_) 100 (by omega)
  ·rw[aBe]
   obtain⟨_,⟨c3,_⟩,⟨c5,_⟩⟩:=zI (hf.cls x (jF hk))
   have hroom:∀y:Cl,decide (acc.length+[y].length<rowMax)=true:=fun y=>aG (by simp[rowMax];omega)
   simp only[dlt hlt,dge,aI,aA,aR,getD_some hk,aBO (show x.2.1.length<1000000 by omega),aD8 (show x.2.2.1.length<1000000 by omega),aJ,hroom,
    bH hlt (show m.1.length≤lenMax by simp only[lenMax];omega)]
   rfl
  ·rw[aBe]
   simp only[bT,aB,List.map_id]
   exact k1
 unfold aHI
 rw[aBO (by omega),aRF (by omega),aD8 (by omega)]
 exact k2
theorem aQG (m:Im) (f:Int) (r) (h:cof m f=some r):∃k,aI1 k m f=some r:=by
 unfold cof at h
 cases hi:cC m <;> simp only[hi,aA,aB] at h
 ·cases h
 injection h with h
 subst h
 refine⟨(aD m f).2.2.2.1.length+1,?_⟩
 unfold aI1 ofB
 by_cases h0:f<0
 ·have:inM m f=false:=by cases hh:inM m f;rfl;have:=bS.1 hh;omega
  rw[this,aG h0];rfl
 ·by_cases h1:f≥(m.2.2.2.1.length:Int)
  ·have:inM m f=false:=by cases hh:inM m f;rfl;have:=bS.1 hh;omega
   rw[this,bA h0,aG h1];rfl
  ·have hf:inM m f=true:=bS.2 ⟨by omega,by omega⟩
   have hd:m.2.2.2.1.getD f.toNat zMt=aD m f:=rfl
   have hr:(decide (0≤f)&&decide (f<(m.2.2.2.1.length:Int)))=true:=by simp;omega
   have hx:=(kO ((dA hi).mts _ (oL (show 0≤f by omega) (show f<(m.2.2.2.1.length:Int) by omega)))).2.2.2.1.1
   rw[hf,bA h0,bA h1,hr]
   simp only[aA,aB]
   have:=yQ (L:=aBw m f) (n:=(aD m f).2.2.2.1.length) (B:=8) (st:=fun k out=>(out,(k:Int),())) (f:=fun k=>cP m ((aD m f).2.2.2.1.getD k cT)) (fin:=fun out=>some (dT (fB out),())) (fun k _=>xA hi _)
    (fun k out rec hk ho=>by
     have ht:∀x,oZ m x=some (cP m x,()):=fun x=>by unfold oZ;rw[hi];rfl
     have htl:=xA hi ((aD m f).2.2.2.1.getD k cT)
     rw[aBw]
     simp only[hd,dlt hk,dge,aI,aA,aR,ht,aJ,lP (show out.length+(cP m ((aD m f).2.2.2.1.getD k cT)).length<549755813888 by omega),bH hk (by simp only[lenMax];omega)])
    (fun out rec _=>by rw[aBw];simp only[hd,bT,aB];rfl) ((aD m f).2.2.2.1.length+1) (by omega)
   rw[aFE] at this
   exact this
theorem aG6 {l:List Int} (hl:l.length<1000000):∀(q pre:List Int) (a:Int) (F:Nat),l=pre++q→q.length<F→aE (aA4 l) F (a,(pre.length:Int),())=some (q.foldl max a,())
 | [],pre,a,F,hx,hF=>by
  obtain⟨F,rfl⟩:∃n,F=n+1:=⟨F - 1,by simp at hF;omega⟩
  rw[bY] at hx
  rw[aX,aA4]
  simp only[hx,bT,aB]
  rfl
 | x::q,pre,a,F,hx,hF=>by
  obtain⟨F,rfl⟩:∃n,F=n+1:=⟨F - 1,by simp at hF;omega⟩
  have hk:pre.length<l.length:=by rw[hx,aW];simp
  have hget:l.getD pre.length 0=x:=by rw[hx];simp
  have ih:=aG6 hl q (pre++[x]) (max a x) F (by rw[hx,cE];rfl) (by simp only[aF] at hF;omega)
  simp only[aW,aF,bP,bK] at ih
  rw[aX,aA4]
  simp only[dlt hk,dge,aI,aA,aR,hget,bH hk (show _≤lenMax by simp only[lenMax];omega)]
  exact ih
theorem aOf (l:List Int) (r) (h:vE l=some r):∃k,aG7 k l=some r:=by
 unfold vE at h
 cases hb:okL l&&decide (0<l.length) <;> simp only[hb,aA,aB] at h
 ·cases h
 injection h with h
 subst h
 simp only[aC,aO] at hb
 have hl:=hJ hb.1
 refine⟨1000001,?_⟩
 match l,hb.2 with
 | x::q,_=>
  unfold aG7
  rw[bA (by simp only[aF];omega),aB,aG (by simp only[aF];omega),aA]
  have:=aG6 hl q [x] x 1000001 rfl (by simp only[aF] at hl;omega)
  simpa[yM] using this
theorem aLF (m:Im):aE7 m=some (tZ m,()):=by
 unfold aE7 tZ
 cases decide ((m.2.2.2.1.length:Int)≤12) <;> simp only[aA,aB,eD,kD]
 cases decide ((m.1.length:Int)≤8) <;> simp only[aA,aB,eD,kD]
 cases decide ((m.2.2.1.length:Int)≤16) <;> simp only[aA,aB,eD,kD]
theorem aAq (c:Int) (pc:Nat):∀(q:List Int) (t:Bool) (phi:List Int),(mV c pc q t phi).2.length=phi.length
 | [],_,_=>rfl
 | to::q,t,phi=>by
  unfold mV
  cases decide (IntKind.i64.wrap (c+phi.getD to.toNat 0)>phi.getD pc 0) <;> simp only[aA,aB]
  ·exact aAq c pc q t phi
  ·rw[aAq c pc q];simp
theorem aMo (m:Im) (l:List (List Sh)) (f:Int) (pc:Nat) (t:Bool) (phi:List Int):(mU m l f pc t phi).2.length=phi.length:=by
 unfold mU
 cases !(bQ l f (pc:Int)).1 <;> simp only[aA,aB]
 exact aAq ..
theorem aFB (m:Im) (l:List (List Sh)) (f:Int):∀(q:List Nat) (t:Bool) (phi:List Int),(iH m l f q t phi).2.length=phi.length
 | [],_,_=>rfl
 | pc::q,t,phi=>by rw[iH,aFB m l f q,aMo]
theorem aKq {m:Im} (hs:aK m=true) {f pc:Int} {s:List Tp}:∀to∈(aN m f pc s).2.1,0≤to∧to<(codeN m f:Int):=by
 intro to ht
 by_cases h:(aN m f pc s).2.2.1=0
 ·exact (lM hs h).2.2.2 to ht
 ·rw[aEQ h] at ht;cases ht
theorem aFA {m:Im} {f:Int} {pc:Nat} (hc:codeN m f<1000000) (hpc:pc<codeN m f) {c:Int} (hcost:lR m (aH m f (pc:Int))=some (c,())) {r6:St4} (hrl:r6.2.1.length<1000000) (hto:∀to∈r6.2.1,0≤to∧to<(codeN m f:Int)) {t0:Bool} {phi0:List Int} {rec4}:
  ∀(q pre:List Int) (t:Bool) (phi:List Int) (F:Nat),r6.2.1=pre++q→q.length<F→phi.length=codeN m f→
   aE (aAN m f (t0,(pc:Int),phi0,()) rec4 r6) F (t,(pre.length:Int),phi,())=rec4 ((mV c pc q t phi).1,((pc+1:Nat):Int),(mV c pc q t phi).2,())
 | [],pre,t,phi,F,hx,hF,hphi=>by
  obtain⟨F,rfl⟩:∃n,F=n+1:=⟨F - 1,by simp at hF;omega⟩
  rw[bY] at hx
  rw[aX,aAN]
  simp only[hx,bT,aB,bH hpc (show _≤lenMax by simp only[lenMax];omega),mV]
 | to::q,pre,t,phi,F,hx,hF,hphi=>by
  obtain⟨F,rfl⟩:∃n,F=n+1:=⟨F - 1,by simp at hF;omega⟩
  have hk:pre.length<r6.2.1.length:=by rw[hx,aW];simp
  have hget:r6.2.1.getD pre.length 0=to:=by rw[hx];simp
  obtain⟨t1,t2⟩:=hto to (by rw[hx];simp)
  have ih:=fun t' phi' hphi'=>aFA hc hpc hcost hrl hto (t0:=t0) (phi0:=phi0) (rec4:=rec4) q (pre++[to]) t' phi' F (by rw[hx,cE];rfl) (by simp only[aF] at hF;omega) hphi'
  simp only[aW,aF,bP,bK] at ih
  have fold:∀g:Int,m.2.2.2.1.getD g.toNat zMt=aD m g:=fun _=>rfl
  have fold2:(aD m f).2.2.2.1.getD pc cT=aH m f (pc:Int):=rfl
  have d1:decide (to<(phi.length:Int))=true:=aG (by rw[hphi];exact t2)
  have d2:decide ((pc:Int)<(phi.length:Int))=true:=by rw[hphi];exact dlt hpc
  rw[aX,aAN]
  simp only[dlt hk,dge,aI,aA,aR,hget,fold,fold2,hcost,aJ,aG t1,d1,d2,bH hk (show _≤lenMax by simp only[lenMax];omega)]
  rw[mV]
  cases decide (IntKind.i64.wrap (c+phi.getD to.toNat 0)>phi.getD pc 0) <;> simp only[aA,aB]
  ·exact ih t phi hphi
  ·exact ih true _ (by rw[dE];exact hphi)
theorem aFh {m:Im} {l:List (List Sh)} {f:Int} (hs:aK m=true) (hl:fC l=true) (hf:inM m f=true) {fuel:Nat} (hfu:1000<fuel) {s1:Int×List Int×Unit} {rec2}:
  ∀(k pc:Nat) (t:Bool) (phi:List Int) (F:Nat),pc+k=codeN m f→k<F→phi.length=codeN m f→
   aE (yD m l f fuel s1 rec2) F (t,(pc:Int),phi,())=bif !(iH m l f (List.range' pc k) t phi).1 then some ((iH m l f (List.range' pc k) t phi).2,decide (yM ((iH m l f (List.range' pc k) t phi).2++[0])≤4096),())
    else rec2 (IntKind.i64.wrap (s1.1+1),(iH m l f (List.range' pc k) t phi).2,())
 | 0,pc,t,phi,F,hx,hF,hphi=>by
  obtain⟨F,rfl⟩:∃n,F=n+1:=⟨F - 1,by omega⟩
  have hc:=eW hs hf
  have fold:∀g:Int,m.2.2.2.1.getD g.toNat zMt=aD m g:=fun _=>rfl
  have fold3:(aD m f).2.2.2.1.length=codeN m f:=rfl
  have hpc:pc=codeN m f:=by omega
  have hroom:decide (phi.length+([0]:List Int).length<rowMax)=true:=lP (by simp;omega)
  have hmax:vE (phi++[0])=some (yM (phi++[0]),()):=by unfold vE;rw[fD (by simp;omega)];simp
  rw[aX,yD]
  simp only[fold,fold3,hpc,bT,aB,List.range'_zero,iH,hroom,aI,aA,hmax,aJ]
 | k+1,pc,t,phi,F,hx,hF,hphi=>by
  obtain⟨F,rfl⟩:∃n,F=n+1:=⟨F - 1,by omega⟩
  have hc:=eW hs hf
  obtain⟨f0,f1⟩:=bS.1 hf
  have hpc:pc<codeN m f:=by omega
  have ih:=fun t' phi' hphi'=>aFh hs hl hf hfu (s1:=s1) (rec2:=rec2) k (pc+1) t' phi' F (by omega) (by omega) hphi'
  have fold:∀g:Int,m.2.2.2.1.getD g.toNat zMt=aD m g:=fun _=>rfl
  have fold3:(aD m f).2.2.2.1.length=codeN m f:=rfl
  have hp:oH l f (pc:Int)=some (bQ l f (pc:Int),()):=by unfold oH;simp only[f0,dge,aM,aI,aA]
  have hst:oV m f (pc:Int) (bQ l f (pc:Int)).2.1=some (aN m f (pc:Int) (bQ l f (pc:Int)).2.1):=by unfold oV;rw[hs,aE1 hl];rfl
  have hcost:lR m (aH m f (pc:Int))=some (jY m (aH m f (pc:Int)),()):=by unfold lR;rw[(dL hs).1];rfl
  have h2:(aN m f (pc:Int) (bQ l f (pc:Int)).2.1).2.1.length≤2:=tW ..
  have d1:decide ((pc:Int)<(codeN m f:Int))=true:=dlt hpc
  rw[aX,yD]
  simp only[fold,fold3,d1,dge,aI,aA,hp,aJ,List.range'_succ]
  have hrel:∀r,iH m l f (pc::r) t phi=iH m l f r (mU m l f pc t phi).1 (mU m l f pc t phi).2:=fun _=>rfl
  rw[hrel]
  cases h1:(bQ l f (pc:Int)).1
  case false=>
   have hrp:mU m l f pc t phi=(t,phi):=by unfold mU;rw[h1];rfl
   rw[cA,aA,bH hpc (show _≤lenMax by simp only[lenMax];omega),hrp]
   exact ih t phi hphi
  have hrp:mU m l f pc t phi=mV (jY m (aH m f (pc:Int))) pc (aN m f (pc:Int) (bQ l f (pc:Int)).2.1).2.1 t phi:=by unfold mU;rw[h1];rfl
  rw[aY,aB,hst,aJ]
  have:=aFA (m:=m) (f:=f) (pc:=pc) (by omega) hpc hcost (r6:=aN m f (pc:Int) (bQ l f (pc:Int)).2.1) (Nat.lt_of_le_of_lt h2 (by omega)) (aKq hs) (t0:=t) (phi0:=phi) (rec4:=aE (yD m l f fuel s1 rec2) F) _ [] t phi fuel rfl (Nat.lt_of_le_of_lt h2 (by omega)) hphi
  simp only[bP,Int.cast_ofNat_Int] at this
  refine this.trans ?_
  rw[hrp]
  exact ih _ _ (by rw[aAq];exact hphi)
theorem aNo (m:Im) (l:List (List Sh)) (f:Int) (r) (h:rZ m l f=some r):∃k,aGi k m l f=some r:=by
 unfold rZ at h
 cases hb:aK m&&(fC l&&inM m f) <;> simp only[hb,aA,aB] at h
 ·cases h
 injection h with h
 subst h
 simp only[aC] at hb
 obtain⟨hs,hl,hf⟩:=hb
 have hc:=eW hs hf
 obtain⟨f0,f1⟩:=bS.1 hf
 have fold:∀g:Int,m.2.2.2.1.getD g.toNat zMt=aD m g:=fun _=>rfl
 have fold3:(aD m f).2.2.2.1.length=codeN m f:=rfl
 have rounds:∀(k i:Nat) (phi:List Int) (F:Nat),i+k=codeN m f+1→k<F→phi.length=codeN m f→aE (yC m l f 1001) F ((i:Int),phi,())=some (yW m l f k phi):=by
  intro k
  induction k with
  | zero=>
   intro i phi F hi hF hphi
   obtain⟨F,rfl⟩:∃n,F=n+1:=⟨F - 1,by omega⟩
   rw[aX,yC]
   have hw:IntKind.i64.wrap ((codeN m f:Int)+1)=((codeN m f+1:Nat):Int):=by rw[cO] <;> omega
   have hi':i=codeN m f+1:=by omega
   simp only[fold,fold3,hw,hi',bT,aB,yW]
  | succ k ih=>
   intro i phi F hi hF hphi
   obtain⟨F,rfl⟩:∃n,F=n+1:=⟨F - 1,by omega⟩
   have hw:IntKind.i64.wrap ((codeN m f:Int)+1)=((codeN m f+1:Nat):Int):=by rw[cO] <;> omega
   have hlt:i<codeN m f+1:=by omega
   rw[aX,yC]
   simp only[fold,fold3,hw,dlt hlt,aA]
   have:=aFh hs hl hf (fuel:=1001) (by omega) (s1:=((i:Int),phi,())) (rec2:=aE (yC m l f 1001) F) (codeN m f) 0 false phi 1001 (by omega) (by omega) hphi
   simp only[Int.cast_ofNat_Int] at this
   refine this.trans ?_
   rw[yW,List.range_eq_range']
   have hw2:=bH hlt (show codeN m f+1≤lenMax by simp only[lenMax];omega)
   cases (iH m l f (List.range' 0 (codeN m f)) false phi).1 <;> simp only[aY,cA,aA,aB]
   rw[hw2]
   exact ih (i+1) _ F (by omega) (by omega) (by rw[aFB];exact hphi)
 refine⟨1001,?_⟩
 unfold aGi aHs
 have e0:decide ((0:Int)≤(codeN m f:Int))=true:=aG (by omega)
 have e1:decide ((codeN m f:Int)<(rowMax:Int))=true:=aG (by simp only[rowMax];omega)
 have e2:decide ((codeN m f:Int)≤(codeN m f:Int))=true:=aG (by omega)
 simp only[fold,fold3,aG f0,aG f1,aI,aA,e0,e1,e2,aR]
 exact rounds (codeN m f+1) 0 _ 1001 (by omega) (by omega) (by simp)
end Go.Pli

namespace Go.Pli
open Go Go.PM
def strip (x:Mt):List Tp×List Tp×Tp×List Ins×Int:=(x.1,x.2.1,x.2.2.1,x.2.2.2.1,x.2.2.2.2.1)
def Like (m:Im) (ms:List Mt):Prop:=ms.map strip=m.2.2.2.1.map strip
theorem iG {x y:Mt} (h:strip x=strip y):x.1=y.1∧x.2.1=y.2.1∧x.2.2.1=y.2.2.1∧x.2.2.2.1=y.2.2.2.1∧x.2.2.2.2.1=y.2.2.2.2.1:=by
 unfold strip at h
 simp only[lC] at h
 exact h
theorem Like.len {m:Im} {ms:List Mt} (h:Like m ms):ms.length=m.2.2.2.1.length:=by
 have:=dG List.length h
 simpa using this
theorem Like.refl (m:Im):Like m m.2.2.2.1:=rfl
theorem aDi (g:Mt→List Tp×List Tp×Tp×List Ins×Int):∀(l:List Mt) (i:Nat),g (l.getD i zMt)=(l.map g).getD i (g zMt)
 | [],i=>by simp
 | x::l,0=>by simp
 | x::l,i+1=>by rw[List.getD_cons_succ,dI,List.getD_cons_succ];exact aDi g l i
theorem Like.at {m:Im} {ms:List Mt} (h:Like m ms) (i:Nat):strip (ms.getD i zMt)=strip (m.2.2.2.1.getD i zMt):=by
 rw[aDi strip,aDi strip,h]
theorem Like.mt {m:Im} {ms:List Mt} (h:Like m ms) (f:Int):strip (aD (dO m ms) f)=strip (aD m f):=h.at f.toNat
theorem Like.mem {m:Im} {ms:List Mt} (h:Like m ms) {x:Mt} (hx:x∈ms):∃y∈m.2.2.2.1,strip x=strip y:=by
 have:strip x∈m.2.2.2.1.map strip:=by rw[←h];exact List.mem_map_of_mem hx
 obtain⟨y,h1,h2⟩:=fU.1 this
 exact⟨y,h1,h2.symm⟩
theorem Like.set {m:Im} {ms:List Mt} (h:Like m ms) {i:Nat} {x:Mt} (hx:strip x=strip (ms.getD i zMt)):Like m (ms.set i x):=by
 unfold Like
 rw[←h]
 refine List.ext_getElem? fun j=>?_
 rw[lH,lH,iP]
 by_cases hij:i=j
 ·subst hij
  by_cases hi:i<ms.length
  ·simp[hi,hx]
  ·rw[wO (by omega)];simp[hi]
 ·simp[hij]
section
variable {m:Im} {ms:List Mt}
theorem Like.inM (h:Like m ms) (f:Int):inM (dO m ms) f=Pli.inM m f:=by
 unfold Pli.inM nM dO
 rw[h.len]
theorem Like.code (h:Like m ms) (f:Int):(aD (dO m ms) f).2.2.2.1=(aD m f).2.2.2.1:=(iG (h.mt f)).2.2.2.1
theorem Like.codeN (h:Like m ms) (f:Int):codeN (dO m ms) f=Pli.codeN m f:=by unfold Pli.codeN;rw[h.code]
theorem Like.ins (h:Like m ms) (f pc:Int):aH (dO m ms) f pc=aH m f pc:=by unfold aH;rw[h.code]
theorem Like.of (h:Like m ms) (f:Int):ofB (dO m ms) f=ofB m f:=by
 unfold ofB pD
 rw[h.inM,h.code]
 rfl
theorem aOx {x y:Mt} (h:strip x=strip y) (n:Int):iZ x n=iZ y n:=by
 unfold iZ
 rw[(iG h).1,(iG h).2.1]
theorem aJs {x y:Mt} (h:strip x=strip y) (t:List Tp):iB x t=iB y t:=by
 unfold iB
 rw[(iG h).1,(iG h).2.2.1]
theorem aP4 (h:Like m ms) {x y:Mt} (hxy:strip x=strip y) (i:Ins):eL (dO m ms) x i=eL m y i:=by
 unfold eL
 rw[aOx hxy,(iG hxy).2.2.1,aJs (h.mt i.2.1),aJs (h.mt (dN (dO m ms) i.2.1 i.2.2.1).1)]
 rfl
theorem Like.step (h:Like m ms) (f pc:Int) (s:List Tp):aN (dO m ms) f pc s=aN m f pc s:=by
 unfold aN
 rw[h.inM,h.codeN,h.ins,aP4 h (h.mt f)]
 rfl
theorem aRK {a a' b b':Mt} (h1:strip a=strip a') (h2:strip b=strip b'):qS a b=qS a' b':=by
 unfold qS
 rw[(iG h1).1,(iG h1).2.2.1,(iG h2).1,(iG h2).2.2.1]
theorem Like.slot (h:Like m ms) (c:Int):oA (dO m ms) c=oA m c:=by
 funext n f
 have e1:vU (dO m ms) c f=vU m c f:=by
  unfold vU
  rw[(iG (h.mt f)).1]
  rfl
 have e2:qS (aD (dO m ms) f) (aD (dO m ms) ((eQ (dO m ms) c).getD n 0))=qS (aD m f) (aD m ((eQ m c).getD n 0)):=aRK (h.mt f) (h.mt _)
 have e3:sin f ((dO m ms).2.2.2.1.length:Int)=sin f (m.2.2.2.1.length:Int):=by rw[show (dO m ms).2.2.2.1.length=m.2.2.2.1.length from h.len]
 unfold oA
 rw[e1,e2,e3]
 rfl
theorem Like.classes (h:Like m ms):kB (dO m ms)=kB m:=by
 have:∀c,iA (dO m ms) c=iA m c:=fun c=>by
  unfold iA
  rw[h.slot]
  rfl
 unfold kB
 simp only[this]
 rfl
theorem Like.instr (h:Like m ms) {x y:Mt} (hxy:strip x=strip y) (i:Ins):cB (dO m ms) x i=cB m y i:=by
 unfold cB
 obtain⟨e1,e2,e3,e4,-⟩:=iG hxy
 have e5:(dO m ms).2.2.2.1.length=m.2.2.2.1.length:=h.len
 rw[e1,e2,e4,e5]
 rfl
def aEe (x:Mt):Prop:=(0≤x.2.2.2.2.2.1∧x.2.2.2.2.2.1≤4096)∧x.2.2.2.2.2.2.1.length=x.2.2.2.1.length∧∀n∈x.2.2.2.2.2.2.1,0≤n∧n≤4096
theorem Like.sane (h:Like m ms) (hs:aK m=true) (hn:∀x∈ms,aEe x):aK (dO m ms)=true:=by
 obtain⟨hi,hb⟩:=dL hs
 have hf:=dA hi
 have h1:cC (dO m ms)=true:=by
  unfold cC at hi⊢
  simp only[aC] at hi⊢
  obtain⟨a1,a2,a3,a4,a5,a6,a7⟩:=hi
  refine⟨a1,a2,a3,?_,a5,?_,a7⟩
  ·rw[show (dO m ms).2.2.2.1.length=m.2.2.2.1.length from h.len];exact a4
  ·rw[bG] at a6⊢
   intro x hx
   obtain⟨y,hy,hxy⟩:=h.mem hx
   obtain⟨e1,e2,e3,e4,e5⟩:=iG hxy
   have hy:=a6 y hy
   have hc:=(kO hy).2.2.2.1.1
   obtain⟨n1,n2,n3⟩:=hn x hx
   unfold kU at hy⊢
   simp only[aC] at hy⊢
   rw[e1,e2,e3,e4,e5]
   refine⟨hy.1,hy.2.1,hy.2.2.1,hy.2.2.2.1,hy.2.2.2.2.1,hy.2.2.2.2.2.1,?_,?_⟩
   ·simp only[fF,aC,aO];exact n1
   ·simp only[jB,fF,aC,aO,bG]
    exact⟨by rw[n2,e4];omega,n3⟩
 have h2:jP (dO m ms)=true:=by
  unfold jP at hb⊢
  simp only[aC] at hb⊢
  obtain⟨b1,b2,b3,b4⟩:=hb
  refine⟨b1,by rw[h.classes];exact b2,?_,?_⟩
  ·rw[bG] at b3⊢
   intro x hx
   obtain⟨y,hy,hxy⟩:=h.mem hx
   obtain⟨e1,e2,e3,e4,e5⟩:=iG hxy
   obtain⟨n1,n2,n3⟩:=hn x hx
   have hy:=b3 y hy
   unfold eR at hy⊢
   simp only[aC] at hy⊢
   rw[funext (h.instr hxy),n2,e1,e2,e3,e4]
   exact⟨hy.1,hy.2.1,hy.2.2.1,hy.2.2.2.1,aG rfl,hy.2.2.2.2.2⟩
  ·rw[bG] at b4⊢
   intro f hfm
   have:=b4 f hfm
   unfold qH at this⊢
   obtain⟨e1,e2,e3,e4,e5⟩:=iG (h.mt f)
   rw[e1,e3,show (dO m ms).2.2.2.1.length=m.2.2.2.1.length from h.len]
   exact this
 unfold aK
 rw[h1,h2];rfl
end
end Go.Pli

namespace Go.Pli
open Go Go.PM
def aBn (rec:List Mt→Option (Im×Bool×Unit)):Option (List Mt)→Option (Im×Bool×Unit)
 | none=>some (zIm,false,())
 | some ms=>rec ms
theorem aCD (ms:List Mt) (f:Int):(mY ms f).length=ms.length:=by
 unfold mY
 cases decide (((ms.getD f.toNat zMt).2.2.2.2.2.2.1.length:Int)>0) <;> simp only[aA,aB,dE]
theorem aIj (ed:List (List Int)) (part:List Int):∀(q:List Int) (ms ms2:List Mt),qE ed part q ms=some ms2→ms2.length=ms.length
 | [],ms,ms2,h=>by injection h with h;rw[h]
 | f::q,ms,ms2,h=>by
  rw[qE] at h
  cases hc:decide (((mY ms f).getD f.toNat zMt).2.2.2.2.2.1>0)&&sW ed part <;> simp only[hc,aA,aB] at h
  ·rw[aIj ed part q _ _ h,aCD]
  ·cases h
theorem aIl (m:Im) (l:List (List Sh)):∀(q:List Int) (ms ms2:List Mt),sQ m l q ms=some (some ms2)→ms2.length=ms.length
 | [],ms,ms2,h=>by injection h with h;injection h with h;rw[h]
 | f::q,ms,ms2,h=>by
  rw[sQ] at h
  cases hp:rZ (dO m ms) l f with
  | none=>rw[hp] at h;cases h
  | some r=>
   rw[hp] at h
   simp only[aJ] at h
   cases hr:r.2.1 <;> simp only[hr,aY,cA,aA,aB] at h
   ·injection h with h;cases h
   ·rw[aIl m l q _ _ h,dE]
theorem aIi {ed:List (List Int)} {s2:List (List Int)×Int×List Mt×Unit} (hed:s2.1=ed) {r5:List (List Int)×Unit} {s6:Int×List Mt×Unit} {part:List Int} (hp:r5.1.getD s6.1.toNat []=part) (hpl:part.length<1000000) {N:Nat} (hin:∀f∈part,0≤f∧f<(N:Int)) {rec7}:
  ∀(q pre:List Int) (ms:List Mt) (F:Nat),part=pre++q→q.length<F→ms.length=N→aE (uU s2 r5 s6 rec7) F ((pre.length:Int),ms,())=aBn (fun ms2=>rec7 (IntKind.i64.wrap (s6.1+1),ms2,())) (qE ed part q ms)
 | [],pre,ms,F,hx,hF,_=>by
  obtain⟨F,rfl⟩:∃n,F=n+1:=⟨F - 1,by simp at hF;omega⟩
  rw[bY] at hx
  rw[aX,uU]
  simp only[hp,←hx,bT,aB]
  rfl
 | f::q,pre,ms,F,hx,hF,hms=>by
  obtain⟨F,rfl⟩:∃n,F=n+1:=⟨F - 1,by simp at hF;omega⟩
  have hk:pre.length<part.length:=by rw[hx,aW];simp
  have hget:part.getD pre.length 0=f:=by rw[hx];simp
  obtain⟨f0,f1⟩:=hin f (by rw[hx];simp)
  have ih:=aIi hed hp hpl hin (rec7:=rec7) q (pre++[f]) (mY ms f) F (by rw[hx,cE];rfl) (by simp only[aF] at hF;omega) (by rw[aCD];exact hms)
  simp only[aW,aF,bP,bK] at ih
  have hcy:sX s2.1 part=some (sW ed part,()):=by unfold sX;rw[fD hpl,hed];rfl
  have d1:decide (f<(ms.length:Int))=true:=aG (by rw[hms];exact f1)
  have d2:decide (f<((mY ms f).length:Int))=true:=aG (by rw[aCD,hms];exact f1)
  have hw:=bH hk (show part.length≤lenMax by simp only[lenMax];omega)
  rw[aX,uU]
  simp only[hp,dlt hk,dge,aI,aA,aR,hget,aG f0,d1]
  have hpot:(bif decide (((ms.getD f.toNat zMt).2.2.2.2.2.2.1.length:Int)>0) then
    bif decide ((0:Int)<((ms.getD f.toNat zMt).2.2.2.2.2.2.1.length:Int)) then
     some (.inl (ms.set f.toNat (mR (ms.getD f.toNat zMt) ((ms.getD f.toNat zMt).2.2.2.2.2.2.1.getD 0 0)),()))
    else none
   else some (.inl (ms,())):Option ((List Mt×Unit)⊕(Im×Bool×Unit)))=some (.inl (mY ms f,())):=by
   unfold mY
   by_cases h:((ms.getD f.toNat zMt).2.2.2.2.2.2.1.length:Int)>0
   ·rw[aG h];rfl
   ·rw[bA h];rfl
  have hpot':=dG (fun o=>o.bind fun q=>match q with
   | .inr r14=>some r14
   | .inl s13=>bif decide (0≤f)&&decide (f<(s13.1.length:Int)) then
     bif decide ((s13.1.getD f.toNat zMt).2.2.2.2.2.1>0) then
      (sX s2.1 part).bind fun r15=>bif r15.1 then some (zIm,false,()) else aE (uU s2 r5 s6 rec7) F (IntKind.i64.wrap ((pre.length:Int)+1),s13.1,())
     else aE (uU s2 r5 s6 rec7) F (IntKind.i64.wrap ((pre.length:Int)+1),s13.1,())
    else none) hpot
  have e1:decide (0≤f)=true:=aG f0
  simp only[e1,eD] at hpot'
  refine Eq.trans ?_ (hpot'.trans ?_)
  ·rfl
  ·simp only[aJ,d2,aA,hcy,hw,ih]
   rw[qE]
   cases decide (((mY ms f).getD f.toNat zMt).2.2.2.2.2.1>0) <;> cases sW ed part <;> rfl
theorem aIk {m:Im} {l:List (List Sh)} {fuel:Nat} (hfu:1000000<fuel) {ed:List (List Int)} {s2:List (List Int)×Int×List Mt×Unit} (hed:s2.1=ed) {r5:List (List Int)×Unit} {s6:Int×List Mt×Unit} {part:List Int} (hp:r5.1.getD s6.1.toNat []=part) (hpl:part.length<1000000) {N:Nat} (hin:∀f∈part,0≤f∧f<(N:Int)) {rec7}:
  ∀(q pre:List Int) (ms:List Mt) (F:Nat) (r),part=pre++q→q.length<F→ms.length=N→
   ((sQ m l q ms).bind fun o=>aBn (fun ms1=>aBn (fun ms2=>rec7 (IntKind.i64.wrap (s6.1+1),ms2,())) (qE ed part part ms1)) o)=some r→aE (aAR l fuel (m,()) s2 r5 s6 rec7) F ((pre.length:Int),ms,())=some r
 | [],pre,ms,F,r,hx,hF,hms,h=>by
  obtain⟨F,rfl⟩:∃n,F=n+1:=⟨F - 1,by simp at hF;omega⟩
  rw[bY] at hx
  rw[aX,aAR]
  simp only[hp,←hx,bT,aB]
  have:=aIi hed hp hpl hin (rec7:=rec7) part [] ms fuel rfl (by omega) hms
  simp only[bP,Int.cast_ofNat_Int] at this
  exact this.trans h
 | f::q,pre,ms,F,r,hx,hF,hms,h=>by
  obtain⟨F,rfl⟩:∃n,F=n+1:=⟨F - 1,by simp at hF;omega⟩
  have hk:pre.length<part.length:=by rw[hx,aW];simp
  have hget:part.getD pre.length 0=f:=by rw[hx];simp
  obtain⟨f0,f1⟩:=hin f (by rw[hx];simp)
  have d1:decide (f<(ms.length:Int))=true:=aG (by rw[hms];exact f1)
  have hw:=bH hk (show part.length≤lenMax by simp only[lenMax];omega)
  rw[sQ] at h
  have hwm:dO m ms=(m.1,m.2.1,m.2.2.1,ms,m.2.2.2.2):=rfl
  rw[hwm] at h
  rw[aX,aAR]
  simp only[hp,dlt hk,dge,aI,aA,aR,hget]
  cases hpl2:rZ (m.1,m.2.1,m.2.2.1,ms,m.2.2.2.2) l f with
  | none=>rw[hpl2] at h;cases h
  | some q2=>
   rw[hpl2] at h
   simp only[aJ] at h⊢
   cases hq:q2.2.1 <;> simp only[hq,aY,cA,aA,aB] at h⊢
   ·exact h
   ·have ih:=aIk hfu hed hp hpl hin (rec7:=rec7) q (pre++[f]) _ F r (by rw[hx,cE];rfl) (by simp only[aF] at hF;omega) (by rw[dE];exact hms) h
    simp only[aW,aF,bP,bK] at ih
    simp only[aG f0,d1,aI,aA,hw]
    exact ih
theorem aIg {m:Im} {l:List (List Sh)} {fuel:Nat} (hfu:1000000<fuel) {ed:List (List Int)} {s2:List (List Int)×Int×List Mt×Unit} (hed:s2.1=ed) {r5:List (List Int)×Unit} (hrl:r5.1.length<1000000) {N:Nat} (hr:∀p∈r5.1,p.length<1000000∧∀f∈p,0≤f∧f<(N:Int)):
  ∀(ps pre:List (List Int)) (ms:List Mt) (F:Nat) (r),r5.1=pre++ps→ps.length<F→ms.length=N→((aBo m l ed ps ms).bind fun q=>some (aIh m q))=some r→aE (yF l fuel (m,()) s2 r5) F ((pre.length:Int),ms,())=some r
 | [],pre,ms,F,r,hx,hF,hms,h=>by
  obtain⟨F,rfl⟩:∃n,F=n+1:=⟨F - 1,by simp at hF;omega⟩
  rw[bY] at hx
  rw[aX,yF]
  simp only[hx,bT,aB]
  exact h
 | p::ps,pre,ms,F,r,hx,hF,hms,h=>by
  obtain⟨F,rfl⟩:∃n,F=n+1:=⟨F - 1,by simp at hF;omega⟩
  have hk:pre.length<r5.1.length:=by rw[hx,aW];simp
  have hget:r5.1.getD pre.length []=p:=by rw[hx];simp
  obtain⟨hpl,hin⟩:=hr p (by rw[hx];simp)
  have hw:=bH hk (show r5.1.length≤lenMax by simp only[lenMax];omega)
  rw[aX,yF]
  simp only[dlt hk,dge,aI,aA]
  refine aIk hfu hed (s6:=((pre.length:Int),ms,())) (part:=p) (by simpa using hget) hpl hin (rec7:=aE (yF l fuel (m,()) s2 r5) F) p [] ms fuel r rfl (by omega) hms ?_
  rw[aBo] at h
  cases ha:sQ m l p ms with
  | none=>rw[ha] at h;cases h
  | some o=>
   rw[ha] at h
   simp only[aJ] at h⊢
   cases o with
   | none=>exact h
   | some ms1=>
    simp only[aBn] at h⊢
    have hl1:=aIl m l p ms ms1 ha
    cases hc:qE ed p p ms1 with
    | none=>rw[hc] at h;exact h
    | some ms2=>
     rw[hc] at h
     have hl2:=aIj ed p p ms1 ms2 hc
     simp only[hw]
     have ih:=aIg hfu hed hrl hr (l:=l) (m:=m) ps (pre++[p]) ms2 F r (by rw[hx,cE];rfl) (by simp only[aF] at hF;omega) (by omega) h
     simp only[aW,aF,bP,bK] at ih
     exact ih
def gO (m:Im) (k:Nat):List Mt:=(m.2.2.2.1.take k).map (fun x=>mR x 0)++m.2.2.2.1.drop k
theorem aJ4 (m:Im) (k:Nat):Like m (gO m k):=by
 unfold Like gO
 rw[jG,List.map_map]
 have:(strip∘fun x=>mR x 0)=strip:=rfl
 rw[this,←jG,wN]
theorem aJ2 {m:Im} {k:Nat} (hk:k<m.2.2.2.1.length):(gO m k).set k (mR ((gO m k).getD k zMt) 0)=gO m (k+1):=by
 have hl:((m.2.2.2.1.take k).map fun x=>mR x 0).length=k:=by rw[qZ,bU];omega
 have hd:m.2.2.2.1.drop k=m.2.2.2.1[k]::m.2.2.2.1.drop (k+1):=List.drop_eq_getElem_cons hk
 have hz:gO m k=((m.2.2.2.1.take k).map fun x=>mR x 0)++m.2.2.2.1[k]::m.2.2.2.1.drop (k+1):=by unfold gO;rw[hd]
 have hg:(gO m k).getD k zMt=m.2.2.2.1[k]:=by
  rw[hz,dX,cN (by omega),hl,Nat.sub_self];rfl
 rw[hg,hz,List.set_append_right _ _ (by omega),hl,Nat.sub_self,List.set_cons_zero]
 unfold gO
 rw[qV,aU hk,jG,cE]
 rfl
theorem aGL {m:Im} (hs:aK m=true):∀x∈m.2.2.2.1,aEe x:=fun x hx=>by
 obtain⟨i,hi,rfl⟩:=List.mem_iff_getElem.1 hx
 have hf:inM m (i:Int)=true:=bS.2 ⟨by omega,by omega⟩
 have e:aD m (i:Int)=m.2.2.2.1[i]:=by unfold aD;rw[aR,getD_some (aU hi)]
 have h1:=kO ((dA (dL hs).1).mts _ hx)
 have h2:=aLE hs hf
 unfold cZ codeN at h2
 rw[e] at h2
 exact⟨h1.2.2.2.2.2.1,h2,h1.2.2.2.2.2.2.2⟩
theorem aJ3 {m:Im} (hs:aK m=true) (k:Nat):∀x∈gO m k,aEe x:=fun x hx=>by
 rcases cR.1 hx with hx | hx
 ·obtain⟨y,hy,rfl⟩:=fU.1 hx
  obtain⟨-,h2,h3⟩:=aGL hs y (aEf hy)
  exact⟨⟨iQ 0,by show (0:Int)≤4096;decide⟩,h2,h3⟩
 ·exact aGL hs x (List.mem_of_mem_drop hx)
theorem aNs (m:Im) (l:List (List Sh)) (r) (h:sA m l=some r):∃k,aGk k m l=some r:=by
 unfold sA at h
 cases hb:aK m&&vY m <;> simp only[hb,aA,aB] at h
 ·cases h
 simp only[aC] at hb
 obtain⟨hs,hok⟩:=hb
 cases hr:jS (gB m) with
 | none=>rw[hr] at h;cases h
 | some r4=>
  rw[hr] at h
  simp only[aJ] at h
  cases hb:okL r4.1&&r4.1.all (fun p=>okL p&&p.all (inM m)) <;> simp only[hb,aA,aB] at h
  ·cases h
  simp only[aC,bG] at hb
  have hrl:=hJ hb.1
  have h12:=(dA (dL hs).1).methods
  have hcopy:vP m=some (m,()):=by unfold vP;rw[(dL hs).1];rfl
  refine⟨1000001,?_⟩
  unfold aGk
  rw[hcopy,aJ]
  refine sH (L:=aAQ l 1000001 (m,())) (n:=m.2.2.2.1.length) (st:=fun k=>((gB m).take k,(k:Int),gO m k,())) (fun k rec hk=>?_) (fun rec=>?_) 1000001 (by omega)
  ·have hk':=aJ4 m k
   have hc:cof (dO m (gO m k)) (k:Int)=some (ofB m (k:Int),()):=by unfold cof;rw[(dL (hk'.sane hs (aJ3 hs k))).1,hk'.of];rfl
   have hx:(gB m)[k]? =some (ofB m (k:Int)):=by
    unfold gB ints
    simp[hk]
   have hlen:(gO m k).length=m.2.2.2.1.length:=hk'.len
   have hc':cof (m.1,m.2.1,m.2.2.1,gO m k,m.2.2.2.2) (k:Int)=some (ofB m (k:Int),()):=hc
   have hz:=aJ2 hk
   unfold mR at hz
   rw[aAQ]
   simp only[dlt hk,aA,hc',aJ,aF,bP,lP (show ((gB m).take k).length+(0+1)<549755813888 by rw[bU];omega),bH hk (show _≤lenMax by simp only[lenMax];omega),hlen,dge,aI,aR,hz]
   rw[qV,hx]
   rfl
  ·have e:(gB m).take m.2.2.2.1.length=gB m:=by rw[←aGH,iD]
   have ez:gO m m.2.2.2.1.length=m.2.2.2.1.map fun x=>mR x 0:=by unfold gO;rw[iD,List.drop_length,bY]
   rw[aAQ]
   simp only[bT,aB,e,hr,aJ]
   have:=aIg (m:=m) (l:=l) (fuel:=1000001) (by omega) (ed:=gB m) (s2:=(gB m,(m.2.2.2.1.length:Int),gO m m.2.2.2.1.length,())) rfl (r5:=r4) hrl (N:=m.2.2.2.1.length) (fun p hp=>⟨hJ (hb.2 p hp).1,fun f hf=>bS.1 ((hb.2 p hp).2 f hf)⟩) r4.1 [] _ 1000001 r rfl (by omega) (by rw[qZ]) h
   rw[ez]
   rw[ez] at this
   simpa using this
end Go.Pli
