/- Types: the typer ends on every sane image. -/
import Derived.Test.YtcofionghgmldaaGreatPliL13E
import Derived.Test.YtcofionghgmldaaGreatPliNt
import Derived.Test.YtcofionghgmldaaGreatPliReach
namespace Go.Pli
open Go Go.PM
def okT (t:Tp):Prop:=t.1=4→t.2.1=0
def lU (l:List Cl) (t:Tp):Nat:=if t.1=4 then 12 else if t.1=3 then (bU l t.2.1).length else 0
theorem aBu {l:List Cl} (hl:l.length≤8) (c:Int):(bU l c).length≤8:=by
 by_cases h0:c<0
 ·rw[eX h0];simp
 ·by_cases h1:c<(l.length:Int)
  ·have:=sR l (c.toNat+1) c (by omega)
   omega
  ·have hk:kup l c= -1:=by
    unfold kup
    have:c≥(l.length:Int):=by omega
    simp[this]
   rw[gM (by omega),hk,eX (by omega)]
   simp
theorem aBt {l:List Cl} {x:Int}:∀(n:Nat) (c:Int),c.toNat<n→x∈bU l c→(bU l x).length≤(bU l c).length∧(x≠c→(bU l x).length<(bU l c).length)
 | 0,_,h,_=>by omega
 | n+1,c,h,hx=>by
  by_cases h0:c<0
  ·rw[eX h0] at hx;cases hx
  have hk:=kN (l:=l) (c:=c) (by omega)
  rw[gM (by omega)] at hx
  have hlen:(bU l c).length=(bU l (kup l c)).length+1:=by rw[gM (by omega)];rfl
  rcases bW.1 hx with rfl | hx
  ·exact⟨aU _,fun h=>absurd rfl h⟩
  ·by_cases h2:kup l c<0
   ·rw[eX h2] at hx;cases hx
   ·have:=(aBt n (kup l c) (by omega) hx).1
    exact⟨by omega,fun _=>by omega⟩
theorem qX {a b:Tp} (h1:a.1=b.1) (h2:a.2.1=b.2.1):a=b:=by
 obtain⟨a1,a2,⟨⟩⟩:=a
 obtain⟨b1,b2,⟨⟩⟩:=b
 simp only at h1 h2
 subst h1 h2
 rfl
theorem aOF {l:List Cl} (hl:l.length≤8) {a b:Tp} (ha:okT a) (hb:okT b) (h:(fP l a b).1≠0):okT (fP l a b)∧(fP l a b=a∨lU l (fP l a b)<lU l a):=by
 unfold fP at h⊢
 cases h1:cG l a b <;> simp only[h1,aA,aB] at h⊢
 ·cases h2:cG l b a <;> simp only[h2,aA,aB] at h⊢
  ·cases h3:a.1 !=3 || b.1 !=3 <;> simp only[h3,aA,aB] at h⊢
   ·have h3a:a.1=3:=by
     have:=(Bool.or_eq_false_iff.1 h3).1
     simpa using this
    cases hf:(bU l (kup l a.2.1)).find? fun c=>dD l b.2.1 c with
    | none=>rw[hf] at h;exact absurd rfl h
    | some c=>
     refine⟨fun h4=>by simp at h4,.inr ?_⟩
     have hm:=List.mem_of_find?_eq_some hf
     have h0:0≤a.2.1:=by
      by_cases h0:0≤a.2.1
      ·exact h0
      ·have hk:kup l a.2.1= -1:=by
        unfold kup
        have:a.2.1<0:=by omega
        simp[this]
       rw[hk,eX (by omega)] at hm
       cases hm
     have:=(aBt _ _ (gO _) hm).1
     simp only[lU,h3a]
     rw[gM h0]
     simp
     omega
   ·exact absurd rfl h
  ·refine⟨ha,?_⟩
   simp
 ·refine⟨hb,?_⟩
  unfold cG at h1
  cases h4:a.1==4 <;> simp only[h4,aA,aB] at h1
  ·cases h33:a.1==3&&b.1==3 <;> simp only[h33,aA,aB] at h1
   ·simp only[aC,gN] at h1
    exact .inl h1.1.symm
   ·simp only[aC,gN] at h33
    unfold dD at h1
    simp only[aC,aP,aEg] at h1
    by_cases he:b.2.1=a.2.1
    ·exact .inl (qX (by omega) he)
    ·refine .inr ?_
     have:=(aBt _ _ (gO _) h1.2.2.2).2 he
     simp only[lU,h33.1,h33.2]
     simpa using this
  ·have ea:a.1=4:=by simpa using h4
   unfold hZ at h1
   simp only[fW,gN] at h1
   have h12:lU l a=12:=by simp[lU,ea]
   rcases h1 with h2 | h3 | h4'
   ·right;rw[h12];simp[lU,h2]
   ·right;rw[h12]
    have:=aBu hl b.2.1
    simp only[lU,h3]
    simp
    omega
   ·exact .inl (qX (by omega) (by rw[hb h4',ha ea]))
def mZ (l:List Cl) (s:List Tp):Nat:=bA (s.map (lU l))
theorem aO5 {l:List Cl} (hl:l.length≤8) (t:Tp):lU l t≤12:=by
 unfold lU
 split
 ·omega
 ·split
  ·exact lY (aBu hl _) (by omega)
  ·omega
theorem aHE {l:List Cl} (hl:l.length≤8):∀s:List Tp,mZ l s≤12*s.length
 | []=>by simp[mZ,bA]
 | t::s=>by
  have:=aHE hl s
  have:=aO5 hl t
  unfold mZ at*
  simp only[dH,bA,aF]
  omega
theorem aGU {l:List Cl} (hl:l.length≤8):∀(a s:List Tp),a.length=s.length→(∀t∈a,okT t)→(∀t∈s,okT t)→(∀t∈bP l a s,t.1≠0)→
  (∀t∈bP l a s,okT t)∧mZ l (bP l a s)≤mZ l a∧(bP l a s≠a→mZ l (bP l a s)<mZ l a)
 | [],[],_,_,_,_=>⟨fun _ h=>(by cases h),aU _,fun h=>absurd rfl h⟩
 | [],_::_,h,_,_,_=>by cases h
 | _::_,[],h,_,_,_=>by cases h
 | x::a,y::s,h,ha,hs,hz=>by
  have hm:bP l (x::a) (y::s)=fP l x y::bP l a s:=rfl
  rw[hm] at hz⊢
  obtain⟨i1,i2,i3⟩:=aGU hl a s (by simpa using h) (fun t ht=>ha t (cD _ ht)) (fun t ht=>hs t (cD _ ht)) (fun t ht=>hz t (cD _ ht))
  obtain⟨j1,j2⟩:=aOF hl (ha x (cY ..)) (hs y (cY ..)) (hz _ (cY ..))
  refine⟨fun t ht=>?_,?_,fun hne=>?_⟩
  ·rcases bW.1 ht with rfl | ht
   ·exact j1
   ·exact i1 t ht
  ·unfold mZ at*
   simp only[dH,bA]
   rcases j2 with j2 | j2
   ·rw[j2];omega
   ·omega
  ·unfold mZ at*
   simp only[dH,bA]
   rcases j2 with j2 | j2
   ·rw[j2] at hne⊢
    have:=i3 fun he=>hne (by rw[he])
    omega
   ·omega
def mN (l:List Cl) (s:Sh):Nat:=if s.1 then mZ l s.2.1 else 97
structure zL (s:Sh):Prop where
 len:s.2.1.length≤8
 ok:∀t∈s.2.1,okT t
theorem aN9 {l:List Cl} (hl:l.length≤8) {o:Sh} (ho:zL o) {s:List Tp} (hs8:s.length≤8) (hs:∀t∈s,okT t):
  ((cW l o s).2.2.1=true→(cW l o s).2.1=true→zL (cW l o s).1∧mN l (cW l o s).1<mN l o):=by
 unfold cW
 cases h1:o.1 <;> simp only[aZ,bY,aA,aB]
 ·intro _ _
  refine⟨⟨hs8,hs⟩,?_⟩
  have:=aHE hl s
  simp only[mN,h1]
  simp
  omega
 ·cases h2:decide (o.2.1.length≠s.length) <;> simp only[aA,aB]
  ·have hlen:o.2.1.length=s.length:=by simpa using h2
   cases h3:(bP l o.2.1 s).any fun t=>t.1==0 <;> simp only[aA,aB]
   ·intro _ h4
    have hz:∀t∈bP l o.2.1 s,t.1≠0:=fun t ht h0=>by
     have:((bP l o.2.1 s).any fun t=>t.1==0)=true:=iP.2 ⟨t,ht,by simp[h0]⟩
     rw[h3] at this;cases this
    obtain⟨i1,-,i3⟩:=aGU hl o.2.1 s hlen ho.ok hs hz
    refine⟨⟨by rw[uU l hlen];exact hs8,i1⟩,?_⟩
    simp only[mN,h1,cK]
    exact i3 fun he=>by rw[he] at h4;simp at h4
   ·intro h _;cases h
  ·intro h _;cases h
theorem rA {α:Type} (g:α→Nat) (z:α):∀(l:List α) (k:Nat) (y:α),k<l.length→bA ((l.set k y).map g)+g (l.getD k z)=bA (l.map g)+g y
 | [],_,_,h=>by simp at h
 | x::l,0,y,_=>by simp[bA];omega
 | x::l,k+1,y,h=>by
  have:=rA g z l k y (by simpa using h)
  simp only[List.set_cons_succ,dH,bA,List.getD_cons_succ] at this⊢
  omega
def b2n (b:Bool):Nat:=if b then 1 else 0
def mu (l:List Cl) (h:List Sh) (q:List Bool):Nat:=bA (h.map (mN l))+bA (q.map b2n)
structure zM (N:Nat) (h:List Sh) (q:List Bool):Prop where
 hl:h.length=N
 ql:q.length=N
 ok:∀s∈h,zL s
theorem aCJ {l:List Cl} (hl:l.length≤8) {N:Nat} {a:List Tp} (ha8:a.length≤8) (ha:∀t∈a,okT t):∀(ts:List Int) (h:List Sh) (q:List Bool),zM N h q→(∀to∈ts,0≤to∧to<(N:Int))→
  zM N (fM l a ts h q).2.1 (fM l a ts h q).2.2.1∧mu l (fM l a ts h q).2.1 (fM l a ts h q).2.2.1≤mu l h q
 | [],h,q,hg,_=>⟨hg,aU _⟩
 | to::ts,h,q,hg,ht=>by
  unfold fM
  obtain⟨t0,t1⟩:=ht to (cY ..)
  have hk:to.toNat<h.length:=by rw[hg.hl];omega
  have hkq:to.toNat<q.length:=by rw[hg.ql];omega
  have hgo:zL (h.getD to.toNat zSh):=by rw[getD_some (aW hk)];exact hg.ok _ (eE hk)
  have hup:=aN9 hl hgo ha8 ha
  generalize cW l (h.getD to.toNat zSh) a=r at hup
  cases h1:r.2.2.1 <;> simp only[aZ,bY,aA,aB]
  ·exact⟨hg,aU _⟩
  ·cases h2:r.2.1 <;> simp only[aA,aB]
   ·exact aCJ hl ha8 ha ts h q hg fun x hx=>ht x (cD _ hx)
   ·obtain⟨g1,g2⟩:=hup h1 h2
    have hg':zM N (h.set to.toNat r.1) (q.set to.toNat true):=⟨by rw[dB,hg.hl],by rw[dB,hg.ql],fun s hs=>by
     rcases wI hs with hs | rfl
     ·exact hg.ok s hs
     ·exact g1⟩
    obtain⟨i1,i2⟩:=aCJ hl ha8 ha ts _ _ hg' fun x hx=>ht x (cD _ hx)
    refine⟨i1,lY i2 ?_⟩
    unfold mu
    have e1:=rA (mN l) zSh h to.toNat r.1 hk
    have e2:=rA b2n false q to.toNat true hkq
    have e3:b2n true=1:=rfl
    omega
theorem aDx {t:Tp} {n:Int} (h:fO t n=true):okT t:=by
 intro h4
 unfold fO at h
 rw[h4] at h
 simp at h
theorem aDu {m:Im} {l:List Tp} (h:eV m l=true) (k:Nat):okT (l.getD k zTp):=by
 by_cases hk:k<l.length
 ·rw[getD_some (aW hk)]
  exact aDx (bL.1 h _ (eE hk))
 ·rw[gY (by omega)];intro h4;cases h4
theorem aOp {m:Im} (hs:aM m=true) {f:Int} (hf:inM m f=true) (n:Int):okT (iZ (aD m f) n):=by
 have h:=pN hs hf
 simp only[eU,aC] at h
 unfold iZ
 cases decide (n<0) <;> simp only[aA,aB]
 ·rw[aDA]
  split
  ·exact aDu h.1 _
  ·exact aDu h.2.1 _
 ·intro h4;cases h4
theorem aMi {m:Im} (hs:aM m=true) {f:Int} (hf:inM m f=true):okT (aD m f).2.2.1:=by
 have h:=pN hs hf
 simp only[eU,aC,fW] at h
 rcases h.2.2.1 with h | h
 ·intro h4
  have:(aD m f).2.2.1=(5,0,()):=by simpa using h
  rw[this] at h4;cases h4
 ·exact aDx h
theorem aIh {m:Im} (hs:aM m=true) (c:Int) (hc:sin c (m.1.length:Int)=true):eV m (bQ m c).2.1=true:=by
 simp only[sin,aC,aP] at hc
 have:=sV (tL hs) hc.1 hc.2
 simp only[iA,aC] at this
 exact this.2.1
theorem aPD {m:Im} (hs:aM m=true) (c:Int) (k:Nat):okT ((dT m c).getD k zTp):=by
 have key:∀t∈dT m c,okT t:=by
  intro t ht
  unfold dT at ht
  simp only[nP,fJ,List.mem_reverse] at ht
  obtain⟨x,⟨s,hsm,rfl⟩,ht⟩:=ht
  have hin:sin s (m.1.length:Int)=true:=by
   unfold cF at hsm
   cases hd:decide (c<(m.1.length:Int)) <;> simp only[hd,aA,aB] at hsm
   ·cases hsm
   ·have:=oU _ _ (gO _) hsm
    have hd:c<(m.1.length:Int):=by simpa using hd
    simp only[sin,aC,aP]
    omega
  exact aDx (bL.1 (aIh hs s hin) t ht)
 by_cases hk:k<(dT m c).length
 ·rw[getD_some (aW hk)]
  exact key _ (eE hk)
 ·rw[gY (by omega)];intro h4;cases h4
def hC (e:Eff):Prop:=∀t∈e.2.1,okT t
theorem kK {a:List Tp}:hC (a,[],()):=fun _ h=>by cases h
theorem iW {a:List Tp} {t:Tp} (h:okT t):hC (a,[t],()):=fun _ hx=>by rw[dY] at hx;subst hx;exact h
theorem yD {k n:Int} (h:k≠4∨n=0):okT (k,n,()):=fun h4=>by
 rcases h with h | h
 ·exact absurd h4 h
 ·exact h
theorem aGr {m:Im} (hs:aM m=true) {g:Int} (hg:inM m g=true) (t:List Tp):hC (iB (aD m g) t):=by
 unfold iB
 cases (aD m g).2.2.1.1 !=5 <;> simp only[aA,aB]
 ·exact kK
 ·exact iW (aMi hs hg)
theorem aNx (o:Int):hC (eI o).1:=by
 unfold eI
 have h1:okT tI:=yD (.inr rfl)
 have h2:okT tA:=yD (.inr rfl)
 have h3:okT tN:=yD (.inr rfl)
 refine cL (P:=fun z:Eff×Bool×Unit=>hC z.1) (iW h3) ?_
 refine cL (P:=fun z:Eff×Bool×Unit=>hC z.1) kK ?_
 refine cL (P:=fun z:Eff×Bool×Unit=>hC z.1) (iW h1) ?_
 refine cL (P:=fun z:Eff×Bool×Unit=>hC z.1) (iW h1) ?_
 refine cL (P:=fun z:Eff×Bool×Unit=>hC z.1) (iW h1) ?_
 refine cL (P:=fun z:Eff×Bool×Unit=>hC z.1) kK ?_
 refine cL (P:=fun z:Eff×Bool×Unit=>hC z.1) (iW h1) ?_
 refine cL (P:=fun z:Eff×Bool×Unit=>hC z.1) (iW h1) ?_
 refine cL (P:=fun z:Eff×Bool×Unit=>hC z.1) kK ?_
 refine cL (P:=fun z:Eff×Bool×Unit=>hC z.1) kK ?_
 refine cL (P:=fun z:Eff×Bool×Unit=>hC z.1) (iW h2) ?_
 exact cL (P:=fun z:Eff×Bool×Unit=>hC z.1) (iW h1) kK
theorem aNy {m:Im} (hs:aM m=true) {i:Ins} {f:Int} (hf:inM m f=true) (hi:bZ m (aD m f) i=true):hC (eJ m (aD m f) i):=by
 have hcl:=tL hs
 unfold eJ
 rcases i with⟨o,a,b,⟨⟩⟩
 refine cL (aNx _) ?_
 refine cL (iW (aOp hs hf _)) (cL kK (cL (iW (yD (.inl (by decide)))) (cL (iW (aPD hs _ _)) (cL kK (cL (iW (aDu (aE6 hs) _)) (cL kK ?_))))))
 cases e:o==31
 case true=>
  obtain rfl:o=31:=by simpa using e
  have:sin a (m.2.2.2.1.length:Int)=true:=by simpa[bZ] using hi
  exact aGr hs this _
 simp only[aB]
 cases e:o==32
 case true=>
  obtain rfl:o=32:=by simpa using e
  have:sin a (m.1.length:Int)=true∧sin b ((bQ m a).2.2.1.length:Int)=true:=by simpa[bZ] using hi
  have hsl:gX m a b=true:=by unfold gX;unfold sin at this;rw[this.1,this.2];rfl
  have h1:=xB hsl
  simp only[sin,aC,aP] at this
  obtain⟨h2,h3⟩:=rC (sV hcl this.1.1 this.1.2) h1
  exact aGr hs (cA.2 h2) _
 simp only[aB]
 exact cL (iW (yD (.inl (by decide)))) (cL (cL kK kK) kK)
theorem aKc {m:Im} (hs:aM m=true) {f pc:Int} {s:List Tp} (hok:∀t∈s,okT t):∀t∈(aN m f pc s).1,okT t:=by
 unfold aN
 cases hf:inM m f
 ·intro t ht;simp at ht
 cases hp:sin pc (codeN m f:Int)
 ·intro t ht;simp at ht
 simp only[aI,aZ,aB]
 cases (dS (aH m f pc) pc).contains (codeN m f:Int)
 case true=>intro t ht;simp at ht
 simp only[aB]
 cases h6:(aH m f pc).1==6 <;> simp only[aA,aB]
 ·have ho:=aNy hs hf (rG hs hf hp)
  unfold mG
  generalize eJ m (aD m f) (aH m f pc)=E at ho⊢
  cases decide (s.length<E.1.length) || decide (s.length - E.1.length+E.2.1.length>8) <;> simp only[aA,aB]
  ·cases ((s.drop (s.length - E.1.length)).zip E.1).all fun p=>dV m (aH m f pc).1 p.1 p.2 <;> simp only[aA,aB]
   ·intro t ht;cases ht
   ·intro t ht
    rcases cM.1 ht with ht | ht
    ·exact hok t (aEd ht)
    ·exact ho t ht
  ·intro t ht;cases ht
 ·cases decide (s.length=0) || decide (s.length≥8) <;> simp only[aA,aB]
  ·intro t ht
   rcases cM.1 ht with ht | ht
   ·exact hok t ht
   ·exact hok t (List.mem_of_mem_drop ht)
  ·intro t ht;cases ht
structure wK (N:Nat) (h:List Sh):Prop where
 len:h.length≤N
 ok:∀s∈h,s.2.1.length≤8
theorem aH8 {q:List Bool} (h:q.any id=true):q.findIdx id<q.length:=List.findIdx_lt_length_of_exists (by
 obtain⟨x,hx,h⟩:=iP.1 h
 exact⟨x,hx,h⟩)
theorem aEo {m:Im} (hs:aM m=true) {f:Int} (hf:inM m f=true):∀(n:Nat) (h:List Sh) (q:List Bool),zM (codeN m f) h q→mu m.1 h q<n→∃r,pI m f n h q=some r∧wK (codeN m f) r.1
 | 0,_,_,_,hm=>by omega
 | n+1,h,q,hg,hm=>by
  have hl:=(dI (dR hs).1).classes
  unfold pI
  cases ha:q.any id <;> simp only[aA,aB]
  ·exact⟨_,rfl,by rw[hg.hl];exact aU _,fun s hs=>(hg.ok s hs).len⟩
  ·have hk:=aH8 ha
   generalize hpc:q.findIdx id=pc at hk
   have htrue:q.getD pc false=true:=by
    subst hpc
    have:=List.findIdx_getElem (p:=id) (xs:=q) (w:=hk)
    rw[getD_some (aW hk)]
    exact this
   have hpcN:pc<codeN m f:=by rw[←hg.ql];exact hk
   have hkh:pc<h.length:=by rw[hg.hl];exact hpcN
   have hg1:zM (codeN m f) h (q.set pc false):=⟨hg.hl,by rw[dB,hg.ql],hg.ok⟩
   have hone:rV m f (pc:Int) h (q.set pc false)=true:=OneP.to ⟨hs,hf,by simp only[sin,aC,aP];omega,hg1.hl,hg1.ql,fun s hs=>fB (by have:=(hg.ok s hs).len;omega)⟩
   have hmu:mu m.1 h (q.set pc false)+1=mu m.1 h q:=by
    unfold mu
    have:=rA b2n false q pc false hk
    rw[htrue] at this
    have e0:b2n false=0:=rfl
    have e1:b2n true=1:=rfl
    omega
   unfold zV
   rw[hone]
   simp only[aA,aJ]
   have hgs:zL (h.getD pc zSh):=by rw[getD_some (aW hkh)];exact hg.ok _ (eE hkh)
   cases hr:(lF m f (pc:Int) h (q.set pc false)).1 <;> simp only[aZ,bY,aA,aB]
   ·exact⟨_,rfl,dG _,fun s hs=>by cases hs⟩
   ·unfold lF at hr⊢
    rw[aT] at hr⊢
    cases he:(aN m f (pc:Int) (h.getD pc zSh).2.1).2.2.1 !=0 <;> simp only[he,aA,aB] at hr⊢
    ·obtain⟨-,-,h8,hto⟩:=mF hs (f:=f) (pc:=(pc:Int)) (s:=(h.getD pc zSh).2.1) (by simpa using he)
     obtain⟨i1,i2⟩:=aCJ hl (N:=codeN m f) h8 (aKc hs hgs.ok) (aN m f (pc:Int) (h.getD pc zSh).2.1).2.1 h (q.set pc false) hg1 hto
     exact aEo hs hf n _ _ i1 (by omega)
    ·cases hr
theorem aEx {m:Im} (hs:aM m=true) {f:Int} (hf:inM m f=true):∃r,wR m f=some r∧wK (codeN m f) r.1:=by
 unfold wR
 rw[hs,hf]
 simp only[aI,aA]
 have hc:=fA hs hf
 refine aEo hs hf _ _ _ ⟨by simp,by simp,fun s hs'=>?_⟩ ?_
 ·rcases wI hs' with h | rfl
  ·rw[zI] at h
   rw[h.2]
   exact⟨dG _,fun _ h=>by cases h⟩
  ·exact⟨dG _,fun _ h=>by cases h⟩
 ·unfold mu
  have e1:=rA (mN m.1) zSh (List.replicate (codeN m f) zSh) 0 (true,[],()) (by simp;omega)
  have e2:=rA b2n false (List.replicate (codeN m f) false) 0 true (by simp;omega)
  have s1:∀n:Nat,bA ((List.replicate n zSh).map (mN m.1))=97*n:=by
   intro n
   induction n with
   | zero=>rfl
   | succ n ih=>rw[List.replicate_succ,dH,bA,ih];simp[mN];omega
  have s2:∀n:Nat,bA ((List.replicate n false).map b2n)=0:=by
   intro n
   induction n with
   | zero=>rfl
   | succ n ih=>rw[List.replicate_succ,dH,bA,ih];rfl
  rw[s1] at e1
  rw[s2] at e2
  have r1:mN m.1 (true,[],())=0:=rfl
  have r2:b2n true=1:=rfl
  omega
theorem aJb {m:Im} (hs:aM m=true):∀(l:List Int) (out:List (List Sh)),(∀f∈l,inM m f=true)→(∀h∈out,wK 64 h)→∃r,qL m l out=some r∧(∀h∈r.1,wK 64 h)∧(r.2.2.2.1=0→r.1.length=out.length+l.length)∧(r.2.2.2.1≠0→r.1=[])
 | [],out,_,ho=>⟨_,rfl,ho,fun _=>rfl,fun h=>absurd rfl h⟩
 | f::l,out,hl,ho=>by
  have hf:=hl f (cY ..)
  obtain⟨r,hr,hg⟩:=aEx hs hf
  have hc:=fA hs hf
  unfold qL
  rw[hr]
  simp only[aJ]
  cases he:r.2.2.1 !=0 <;> simp only[aA,aB]
  ·obtain⟨r',h1,h2,h3,h4⟩:=aJb hs l (out++[r.1]) (fun x hx=>hl x (cD _ hx)) (fun h hh=>by
    rcases cM.1 hh with hh | hh
    ·exact ho h hh
    ·rw[dY] at hh;subst hh;exact⟨by have:=hg.len;omega,hg.ok⟩)
   exact⟨r',h1,h2,fun h0=>by rw[h3 h0];simp;omega,h4⟩
  ·have:r.2.2.1≠0:=by simpa using he
   exact⟨_,rfl,fun h hh=>(by cases hh),fun h0=>absurd h0 this,fun _=>rfl⟩
theorem aNI {l:List (List Sh)} (hl:l.length≤12) (h:∀x∈l,wK 64 x):gA l=true:=by
 simp only[gA,aC,bL]
 refine⟨fB (by omega),fun x hx=>?_⟩
 have:=h x hx
 exact⟨fB (by have:=this.len;omega),fun s hs=>fB (by have:=this.ok s hs;omega)⟩
theorem aEG {m:Im} (hs:aM m=true):∃r,tG m=some r∧gA r.1=true∧(r.2.2.2.1=0→r.1.length=m.2.2.2.1.length):=by
 have h12:=(dI (dR hs).1).methods
 unfold tG
 rw[hs]
 simp only[aA]
 obtain⟨r,h1,h2,h3,h4⟩:=aJb hs (ints m.2.2.2.1.length) [] (fun f hf=>cA.2 (pW.1 hf)) (fun _ h=>by cases h)
 have hn:r.2.2.2.1=0→r.1.length=m.2.2.2.1.length:=fun h0=>by rw[h3 h0,vH];simp
 refine⟨r,h1,aNI ?_ h2,hn⟩
 by_cases h0:r.2.2.2.1=0
 ·rw[hn h0];exact h12
 ·rw[h4 h0];exact dG _
end Go.Pli

namespace Go.Pli
open Go Go.PM
def gT (n:Int) (t:Tp):Prop:=fO t n=true∨t=(4,0,())
theorem sG {n:Int} {t:Tp} (h:gT n t):(t.1=1∧t.2.1=0)∨(t.1=2∧t.2.1=0)∨(t.1=3∧0≤t.2.1∧t.2.1<n)∨(t.1=4∧t.2.1=0):=by
 rcases h with h | rfl
 ·unfold fO at h
  cases h1:t.1==1
  ·cases h2:t.1==2
   ·rw[h1,h2] at h
    simp only[Bool.or_self,aB,aC,gN,aP] at h
    exact .inr (.inr (.inl ⟨h.1,h.2.1,h.2.2⟩))
   ·rw[h2,Bool.or_true] at h
    exact .inr (.inl ⟨by simpa using h2,by simpa using h⟩)
  ·rw[h1,sY] at h
   exact .inl ⟨by simpa using h1,by simpa using h⟩
 ·exact .inr (.inr (.inr ⟨rfl,rfl⟩))
theorem aHS {n:Int} {t:Tp} (h:gT n t):t.1≠0:=by rcases sG h with h | h | h | h <;> omega
theorem aA8 {n:Int} {t:Tp} (h:gT n t):okT t:=fun h4=>by rcases sG h with h | h | h | h <;> omega
theorem aJd {l:List Cl} {b c:Int}:∀(n:Nat) (a:Int),a.toNat<n→b∈bU l a→c∈bU l b→c∈bU l a
 | 0,_,h,_,_=>by omega
 | n+1,a,h,hb,hc=>by
  by_cases h0:a<0
  ·rw[eX h0] at hb;cases hb
  have hk:=kN (l:=l) (c:=a) (by omega)
  rw[gM (by omega)] at hb⊢
  rcases bW.1 hb with rfl | hb
  ·rwa [gM (by omega)] at hc
  ·by_cases h2:kup l a<0
   ·rw[eX h2] at hb;cases hb
   ·exact cD _ (aJd n (kup l a) (by omega) hb hc)
theorem aQ7 {l:List Cl} {a:Int} (h:0≤a):a∈bU l a:=by rw[gM h];exact cY ..
theorem nK {l:List Cl} {a b:Int}:dD l a b=true↔0≤b∧b<(l.length:Int)∧a<(l.length:Int)∧b∈bU l a:=by
 unfold dD
 simp only[aC,aP,aEg]
theorem aRm {l:List Cl} {a b c:Int} (h1:dD l a b=true) (h2:dD l b c=true):dD l a c=true:=by
 rw[nK] at*
 exact⟨h2.1,h2.2.1,h1.2.2.1,aJd _ _ (gO _) h1.2.2.2 h2.2.2.2⟩
theorem iE {l:List Cl} {a b:Tp}:cG l a b=true↔(a.1=4∧hZ b=true)∨(a.1=3∧b.1=3∧dD l a.2.1 b.2.1=true)∨(a=b∧(a.1=1∨a.1=2)):=by
 unfold cG
 cases h4:a.1==4
 ·have n4:a.1≠4:=by simpa using h4
  cases h33:a.1==3&&b.1==3 <;> simp only[aA,aB]
  ·simp only[aC,fW,gN]
   constructor
   ·exact fun h=> .inr (.inr h)
   ·rintro (h | h | h)
    ·exact absurd h.1 n4
    ·simp[h.1,h.2.1] at h33
    ·exact h
  ·simp only[aC,gN] at h33
   constructor
   ·exact fun h=> .inr (.inl ⟨h33.1,h33.2,h⟩)
   ·rintro (h | h | h)
    ·exact absurd h.1 n4
    ·exact h.2.2
    ·omega
 ·have e4:a.1=4:=by simpa using h4
  simp only[aA]
  constructor
  ·exact fun h=> .inl ⟨e4,h⟩
  ·rintro (h | h | h)
   ·exact h.2
   ·omega
   ·omega
theorem vD {t:Tp}:hZ t=true↔t.1=2∨t.1=3∨t.1=4:=by
 unfold hZ
 simp only[fW,gN]
theorem aB2 {l:List Cl} {a:Tp} (h:gT (l.length:Int) a):cG l a a=true:=by
 rw[iE]
 rcases sG h with h | h | h | h
 ·exact .inr (.inr ⟨rfl,.inl h.1⟩)
 ·exact .inr (.inr ⟨rfl,.inr h.1⟩)
 ·exact .inr (.inl ⟨h.1,h.1,nK.2 ⟨h.2.1,h.2.2,h.2.2,aQ7 h.2.1⟩⟩)
 ·exact .inl ⟨h.1,vD.2 (.inr (.inr h.1))⟩
theorem aEQ {l:List Cl} {a b c:Tp} (h1:cG l a b=true) (h2:cG l b c=true):cG l a c=true:=by
 rw[iE] at*
 rcases h1 with⟨a4,hb⟩ | ⟨a3,b3,hab⟩ | ⟨rfl,ha⟩
 ·refine .inl ⟨a4,?_⟩
  rcases h2 with⟨_,hc⟩ | ⟨_,c3,_⟩ | ⟨rfl,_⟩
  ·exact hc
  ·exact vD.2 (.inr (.inl c3))
  ·exact hb
 ·rcases h2 with⟨b4,_⟩ | ⟨_,c3,hbc⟩ | ⟨rfl,hb⟩
  ·omega
  ·exact .inr (.inl ⟨a3,c3,aRm hab hbc⟩)
  ·omega
 ·exact h2
theorem aJ9 {l:List Cl} {a b:Tp} (ga:gT (l.length:Int) a) (gb:gT (l.length:Int) b) (h1:cG l a b=true) (h2:cG l b a=true):a=b:=by
 rw[iE] at*
 rcases h1 with⟨a4,hb⟩ | ⟨a3,b3,hab⟩ | ⟨h,_⟩
 ·rcases h2 with⟨b4,_⟩ | ⟨_,a3,_⟩ | ⟨h,_⟩
  ·have e1:=aA8 ga a4
   have e2:=aA8 gb b4
   exact qX (by omega) (by omega)
  ·omega
  ·exact h.symm
 ·rcases h2 with⟨b4,_⟩ | ⟨_,_,hba⟩ | ⟨h,_⟩
  ·omega
  ·have i1:=(oU _ _ (gO _) (nK.1 hab).2.2.2).2
   have i2:=(oU _ _ (gO _) (nK.1 hba).2.2.2).2
   exact qX (by omega) (by omega)
  ·exact h.symm
 ·exact h
theorem aH9 {l:List Cl} {p:Int→Bool} {x c:Int}:∀(n:Nat) (d:Int),d.toNat<n→(bU l d).find? p=some x→c∈bU l d→p c=true→c∈bU l x
 | 0,_,h,_,_,_=>by omega
 | n+1,d,h,hf,hc,hp=>by
  by_cases h0:d<0
  ·rw[eX h0] at hc;cases hc
  have hk:=kN (l:=l) (c:=d) (by omega)
  rw[gM (by omega),aEe] at hf
  cases hpd:p d
  ·rw[hpd] at hf
   rw[gM (by omega)] at hc
   rcases bW.1 hc with rfl | hc
   ·rw[hpd] at hp;cases hp
   ·by_cases h2:kup l d<0
    ·rw[eX h2] at hc;cases hc
    ·exact aH9 n (kup l d) (by omega) hf hc hp
  ·rw[hpd] at hf
   injection hf with hf
   subst hf
   exact hc
theorem aOG {l:List Cl} {a b:Tp} (ga:gT (l.length:Int) a) (gb:gT (l.length:Int) b) (h:(fP l a b).1≠0):cG l a (fP l a b)=true∧cG l b (fP l a b)=true∧gT (l.length:Int) (fP l a b):=by
 unfold fP at h⊢
 cases h1:cG l a b <;> simp only[h1,aA,aB] at h⊢
 ·cases h2:cG l b a <;> simp only[h2,aA,aB] at h⊢
  ·cases h3:a.1 !=3 || b.1 !=3 <;> simp only[h3,aA,aB] at h⊢
   ·have h3a:a.1=3:=by simpa using (Bool.or_eq_false_iff.1 h3).1
    have h3b:b.1=3:=by simpa using (Bool.or_eq_false_iff.1 h3).2
    cases hf:(bU l (kup l a.2.1)).find? fun c=>dD l b.2.1 c with
    | none=>rw[hf] at h;exact absurd rfl h
    | some c=>
     have hm:=List.mem_of_find?_eq_some hf
     have hb:dD l b.2.1 c=true:=by simpa using List.find?_some hf
     have hb':=nK.1 hb
     have ga':0≤a.2.1∧a.2.1<(l.length:Int):=by rcases sG ga with h | h | h | h <;> omega
     have hca:c∈bU l a.2.1:=by rw[gM ga'.1];exact cD _ hm
     refine⟨iE.2 (.inr (.inl ⟨h3a,rfl,nK.2 ⟨hb'.1,hb'.2.1,ga'.2,hca⟩⟩)),iE.2 (.inr (.inl ⟨h3b,rfl,hb⟩)),.inl ?_⟩
     simp only[fO]
     rw[aG hb'.1,aG hb'.2.1]
     rfl
   ·exact absurd rfl h
  ·exact⟨aB2 ga,trivial,ga⟩
 ·exact⟨trivial,aB2 gb,gb⟩
theorem aOI {l:List Cl} {a b c:Tp} (ga:gT (l.length:Int) a) (gb:gT (l.length:Int) b) (gc:gT (l.length:Int) c) (hac:cG l a c=true) (hbc:cG l b c=true):(fP l a b).1≠0∧cG l (fP l a b) c=true:=by
 unfold fP
 cases h1:cG l a b <;> simp only[aA,aB]
 ·cases h2:cG l b a <;> simp only[aA,aB]
  ·have n1:¬cG l a b=true:=by rw[h1];exact Bool.false_ne_true
   have n2:¬cG l b a=true:=by rw[h2];exact Bool.false_ne_true
   have h33:a.1=3∧b.1=3:=by
    have ka:=sG ga
    have kb:=sG gb
    rcases iE.1 hac with⟨a4,hc⟩ | ⟨a3,c3,_⟩ | ⟨e,ha⟩
    ·exfalso
     refine n1 (iE.2 (.inl ⟨a4,?_⟩))
     rw[vD] at hc⊢
     rcases iE.1 hbc with⟨b4,_⟩ | ⟨b3,_⟩ | ⟨e,hb⟩
     ·exact .inr (.inr b4)
     ·exact .inr (.inl b3)
     ·subst e;omega
    ·refine⟨a3,?_⟩
     rcases iE.1 hbc with⟨b4,_⟩ | ⟨b3,_⟩ | ⟨e,hb⟩
     ·exact absurd (iE.2 (.inl ⟨b4,vD.2 (.inr (.inl a3))⟩)) n2
     ·exact b3
     ·subst e;omega
    ·exfalso
     subst e
     exact n2 hbc
   have h3:(a.1 !=3 || b.1 !=3)=false:=by simp[h33.1,h33.2]
   rw[h3]
   simp only[aB]
   have hac':a.1=3∧c.1=3∧dD l a.2.1 c.2.1=true:=by
    rcases iE.1 hac with⟨a4,hc⟩ | h | ⟨e,ha⟩
    ·omega
    ·exact h
    ·omega
   have hbc':dD l b.2.1 c.2.1=true:=by
    rcases iE.1 hbc with⟨a4,hc⟩ | h | ⟨e,ha⟩
    ·omega
    ·exact h.2.2
    ·omega
   have ga':0≤a.2.1∧a.2.1<(l.length:Int):=by rcases sG ga with h | h | h | h <;> omega
   have hc:=nK.1 hac'.2.2
   have hne:c.2.1≠a.2.1:=fun e=>n2 (by
    have:c=a:=qX (by omega) e
    rw[←this];exact hbc)
   have hcm:c.2.1∈bU l (kup l a.2.1):=by
    have:=hc.2.2.2
    rw[gM ga'.1] at this
    rcases bW.1 this with h | h
    ·exact absurd h hne
    ·exact h
   cases hf:(bU l (kup l a.2.1)).find? fun c=>dD l b.2.1 c with
   | none=>
    have:=List.find?_eq_none.1 hf _ hcm
    exact absurd hbc' this
   | some x=>
    have hx:dD l b.2.1 x=true:=by simpa using List.find?_some hf
    have hx':=nK.1 hx
    refine⟨fun h=>by simp at h,iE.2 (.inr (.inl ⟨rfl,hac'.2.1,nK.2 ⟨hc.1,hc.2.1,hx'.2.1,?_⟩⟩))⟩
    exact aH9 _ _ (gO _) hf hcm hbc'
  ·exact⟨aHS ga,hac⟩
 ·exact⟨aHS gb,hbc⟩
def leS (l:List Cl):List Tp→List Tp→Prop
 | [],[]=>True
 | x::a,y::b=>cG l x y=true∧leS l a b
 | _,_=>False
def gS (n:Int) (s:List Tp):Prop:=∀t∈s,gT n t
theorem fS {n:Int} {t:Tp} {s:List Tp} (h:gS n (t::s)):gT n t∧gS n s:=⟨h t (cY ..),fun x hx=>h x (cD _ hx)⟩
theorem pZ {l:List Cl}:∀{a b:List Tp},leS l a b→a.length=b.length
 | [],[],_=>rfl
 | [],_::_,h=>h.elim
 | _::_,[],h=>h.elim
 | _::_,_::_,h=>by simp only[aF,pZ h.2]
theorem yR {l:List Cl}:∀{a:List Tp},gS (l.length:Int) a→leS l a a
 | [],_=>trivial
 | _::_,h=>⟨aB2 (fS h).1,yR (fS h).2⟩
theorem sB {l:List Cl}:∀{a b c:List Tp},leS l a b→leS l b c→leS l a c
 | [],[],[],_,_=>trivial
 | _::_,_::_,_::_,h1,h2=>⟨aEQ h1.1 h2.1,sB h1.2 h2.2⟩
 | [],[],_::_,_,h=>h.elim
 | [],_::_,_,h,_=>h.elim
 | _::_,[],_,h,_=>h.elim
 | _::_,_::_,[],_,h=>h.elim
theorem aHq {l:List Cl}:∀{a b:List Tp},gS (l.length:Int) a→gS (l.length:Int) b→leS l a b→leS l b a→a=b
 | [],[],_,_,_,_=>rfl
 | _::_,_::_,ga,gb,h1,h2=>by rw[aJ9 (fS ga).1 (fS gb).1 h1.1 h2.1,aHq (fS ga).2 (fS gb).2 h1.2 h2.2]
 | [],_::_,_,_,h,_=>h.elim
 | _::_,[],_,_,h,_=>h.elim
theorem aDh {l:List Cl}:∀(n:Nat) {a b:List Tp},leS l a b→leS l (a.drop n) (b.drop n)
 | 0,_,_,h=>h
 | _+1,[],[],h=>h
 | n+1,_::_,_::_,h=>aDh n h.2
 | _+1,[],_::_,h=>h.elim
 | _+1,_::_,[],h=>h.elim
theorem aHp {l:List Cl}:∀(n:Nat) {a b:List Tp},leS l a b→leS l (a.take n) (b.take n)
 | 0,_,_,_=>trivial
 | _+1,[],[],h=>h
 | n+1,_::_,_::_,h=>⟨h.1,aHp n h.2⟩
 | _+1,[],_::_,h=>h.elim
 | _+1,_::_,[],h=>h.elim
theorem aDi {l:List Cl}:∀{a b c d:List Tp},leS l a b→leS l c d→leS l (a++c) (b++d)
 | [],[],_,_,_,h=>h
 | _::_,_::_,_,_,h1,h2=>⟨h1.1,aDi h1.2 h2⟩
 | [],_::_,_,_,h,_=>h.elim
 | _::_,[],_,_,h,_=>h.elim
theorem aGV {l:List Cl}:∀{a s:List Tp},a.length=s.length→gS (l.length:Int) a→gS (l.length:Int) s→(∀t∈bP l a s,t.1≠0)→leS l a (bP l a s)∧leS l s (bP l a s)∧gS (l.length:Int) (bP l a s)
 | [],[],_,_,_,_=>⟨trivial,trivial,fun _ h=>(by cases h)⟩
 | [],_::_,h,_,_,_=>by cases h
 | _::_,[],h,_,_,_=>by cases h
 | x::a,y::s,h,ga,gs,hz=>by
  have hm:bP l (x::a) (y::s)=fP l x y::bP l a s:=rfl
  rw[hm] at hz⊢
  obtain⟨i1,i2,i3⟩:=aGV (l:=l) (a:=a) (s:=s) (by simpa using h) (fS ga).2 (fS gs).2 fun t ht=>hz t (cD _ ht)
  obtain⟨j1,j2,j3⟩:=aOG (fS ga).1 (fS gs).1 (hz _ (cY ..))
  exact⟨⟨j1,i1⟩,⟨j2,i2⟩,fun t ht=>by
   rcases bW.1 ht with rfl | ht
   ·exact j3
   ·exact i3 t ht⟩
theorem aGW {l:List Cl}:∀{a s c:List Tp},gS (l.length:Int) a→gS (l.length:Int) s→gS (l.length:Int) c→leS l a c→leS l s c→(∀t∈bP l a s,t.1≠0)∧leS l (bP l a s) c
 | [],[],[],_,_,_,_,_=>⟨fun _ h=>(by cases h),trivial⟩
 | x::a,y::s,z::c,ga,gs,gc,h1,h2=>by
  have hm:bP l (x::a) (y::s)=fP l x y::bP l a s:=rfl
  rw[hm]
  obtain⟨i1,i2⟩:=aGW (fS ga).2 (fS gs).2 (fS gc).2 h1.2 h2.2
  obtain⟨j1,j2⟩:=aOI (fS ga).1 (fS gs).1 (fS gc).1 h1.1 h2.1
  exact⟨fun t ht=>by
   rcases bW.1 ht with rfl | ht
   ·exact j1
   ·exact i1 t ht,⟨j2,i2⟩⟩
 | [],_,_::_,_,_,_,h,_=>h.elim
 | _::_,_,[],_,_,_,h,_=>h.elim
 | [],_::_,[],_,_,_,_,h=>h.elim
 | _::_,[],_::_,_,_,_,_,h=>h.elim
end Go.Pli

namespace Go.Pli
open Go Go.PM
abbrev nC (m:Im):Int:=(m.1.length:Int)
theorem aDv {m:Im} {l:List Tp} (h:eV m l=true) {k:Nat} (hk:k<l.length):gT (nC m) (l.getD k zTp):=by
 rw[getD_some (aW hk)]
 exact .inl (bL.1 h _ (eE hk))
theorem aOr {m:Im} (hs:aM m=true) {f:Int} (hf:inM m f=true) {n:Int} (hn:sin n (((aD m f).1.length+(aD m f).2.1.length:Nat):Int)=true):gT (nC m) (iZ (aD m f) n):=by
 have h:=pN hs hf
 simp only[eU,aC] at h
 simp only[sin,aC,aP] at hn
 unfold iZ
 rw[bH (show ¬n<0 by omega),aB,aDA]
 split
 ·exact aDv h.1 (by assumption)
 ·exact aDv h.2.1 (by omega)
theorem aMj {m:Im} (hs:aM m=true) {f:Int} (hf:inM m f=true) (h5:((aD m f).2.2.1.1 !=5)=true):gT (nC m) (aD m f).2.2.1:=by
 have h:=pN hs hf
 simp only[eU,aC,fW] at h
 rcases h.2.2.1 with h | h
 ·have:(aD m f).2.2.1=(5,0,()):=by simpa using h
  rw[this] at h5;cases h5
 ·exact .inl h
theorem aPE {m:Im} (hs:aM m=true) {c:Int} {k:Nat} (hk:k<(dT m c).length):gT (nC m) ((dT m c).getD k zTp):=by
 rw[getD_some (aW hk)]
 have ht:=eE hk
 generalize (dT m c)[k]=t at ht
 unfold dT at ht
 simp only[nP,fJ,List.mem_reverse] at ht
 obtain⟨x,⟨s,hsm,rfl⟩,ht⟩:=ht
 have hin:sin s (m.1.length:Int)=true:=by
  unfold cF at hsm
  cases hd:decide (c<(m.1.length:Int)) <;> simp only[hd,aA,aB] at hsm
  ·cases hsm
  ·have:=oU _ _ (gO _) hsm
   have hd:c<(m.1.length:Int):=by simpa using hd
   simp only[sin,aC,aP]
   omega
 exact .inl (bL.1 (aIh hs s hin) t ht)
theorem aI9 {m:Im} {c:Int} (h:sin c (m.1.length:Int)=true):gT (nC m) (tR c):=by
 simp only[sin,aC,aP] at h
 refine .inl ?_
 simp only[fO,tR]
 rw[aG h.1,aG h.2]
 rfl
def qR (n:Int) (e:Eff):Prop:=gS n e.2.1
theorem lJ {n:Int} {a:List Tp}:qR n (a,[],()):=fun _ h=>by cases h
theorem iX {n:Int} {a:List Tp} {t:Tp} (h:gT n t):qR n (a,[t],()):=fun _ hx=>by rw[dY] at hx;subst hx;exact h
theorem aGt {m:Im} (hs:aM m=true) {g:Int} (hg:inM m g=true) (t:List Tp):qR (nC m) (iB (aD m g) t):=by
 unfold iB
 cases h:(aD m g).2.2.1.1 !=5 <;> simp only[aA,aB]
 ·exact lJ
 ·exact iX (aMj hs hg h)
theorem aNA {n:Int} (o:Int):qR n (eI o).1:=by
 have h1:gT n tI:= .inl rfl
 have h2:gT n tA:= .inl rfl
 have h3:gT n tN:= .inr rfl
 have P:∀{b:Bool} {x y:Eff×Bool×Unit},qR n x.1→qR n y.1→qR n (bif b then x else y).1:=fun {b} {x} {y} h1 h2=>by cases b;exact h2;exact h1
 unfold eI
 exact P (iX h3) (P lJ (P (iX h1) (P (iX h1) (P (iX h1) (P lJ (P (iX h1) (P (iX h1) (P lJ (P lJ (P (iX h2) (P (iX h1) lJ)))))))))))
theorem aGs {m:Im} (hs:aM m=true) {i:Ins} {f:Int} (hf:inM m f=true) (hi:bZ m (aD m f) i=true):qR (nC m) (eJ m (aD m f) i):=by
 have hcl:=tL hs
 rcases i with⟨o,a,b,⟨⟩⟩
 unfold eJ
 cases hp:(eI o).2.1
 case true=>exact aNA _
 simp only[aB]
 cases e:o==3
 case true=>
  obtain rfl:o=3:=by simpa using e
  exact iX (aOr hs hf (by simpa[bZ] using hi))
 simp only[aB]
 cases e:o==4
 case true=>exact lJ
 simp only[aB]
 cases e:o==22
 case true=>
  obtain rfl:o=22:=by simpa using e
  exact iX (aI9 (by simpa[bZ] using hi))
 simp only[aB]
 cases e:o==27
 case true=>
  obtain rfl:o=27:=by simpa using e
  have:sin a (m.1.length:Int)=true∧sin b (iL m a:Int)=true:=by simpa[bZ] using hi
  obtain⟨h1,h2⟩:=this
  simp only[sin,aC,aP] at h1 h2
  rw[←yZ h1.2] at h2
  exact iX (aPE hs (by omega))
 simp only[aB]
 cases e:o==28
 case true=>exact lJ
 simp only[aB]
 cases e:o==29
 case true=>
  obtain rfl:o=29:=by simpa using e
  have:sin a (m.2.1.length:Int)=true:=by simpa[bZ] using hi
  simp only[sin,aC,aP] at this
  exact iX (aDv (aE6 hs) (by omega))
 simp only[aB]
 cases e:o==30
 case true=>exact lJ
 simp only[aB]
 cases e:o==31
 case true=>
  obtain rfl:o=31:=by simpa using e
  have:sin a (m.2.2.2.1.length:Int)=true:=by simpa[bZ] using hi
  exact aGt hs this _
 simp only[aB]
 cases e:o==32
 case true=>
  obtain rfl:o=32:=by simpa using e
  have:sin a (m.1.length:Int)=true∧sin b ((bQ m a).2.2.1.length:Int)=true:=by simpa[bZ] using hi
  have hsl:gX m a b=true:=by unfold gX;unfold sin at this;rw[this.1,this.2];rfl
  have h1:=xB hsl
  simp only[sin,aC,aP] at this
  obtain⟨h2,h3⟩:=rC (sV hcl this.1.1 this.1.2) h1
  exact aGt hs (cA.2 h2) _
 simp only[aB]
 cases e:o==34
 case true=>
  obtain rfl:o=34:=by simpa using e
  exact iX (aI9 (by simpa[bZ] using hi))
 simp only[aB]
 cases o==33 <;> simp only[aA,aB]
 ·exact lJ
 ·cases (aD m f).2.2.1.1 !=5 <;> exact lJ
theorem aAc {m:Im} (hs:aM m=true) {f pc:Int} {s:List Tp} (hok:gS (nC m) s):gS (nC m) (aN m f pc s).1:=by
 have nil:gS (nC m) []:=fun _ h=>by cases h
 unfold aN
 cases hf:inM m f
 ·exact nil
 cases hp:sin pc (codeN m f:Int)
 ·exact nil
 simp only[aI,aZ,aB]
 cases (dS (aH m f pc) pc).contains (codeN m f:Int)
 case true=>exact nil
 simp only[aB]
 cases h6:(aH m f pc).1==6 <;> simp only[aA,aB]
 ·have ho:=aGs hs hf (rG hs hf hp)
  unfold mG
  generalize eJ m (aD m f) (aH m f pc)=E at ho⊢
  cases decide (s.length<E.1.length) || decide (s.length - E.1.length+E.2.1.length>8) <;> simp only[aA,aB]
  ·cases ((s.drop (s.length - E.1.length)).zip E.1).all fun p=>dV m (aH m f pc).1 p.1 p.2 <;> simp only[aA,aB]
   ·exact nil
   ·intro t ht
    rcases cM.1 ht with ht | ht
    ·exact hok t (aEd ht)
    ·exact ho t ht
  ·exact nil
 ·cases decide (s.length=0) || decide (s.length≥8) <;> simp only[aA,aB]
  ·intro t ht
   rcases cM.1 ht with ht | ht
   ·exact hok t ht
   ·exact hok t (List.mem_of_mem_drop ht)
  ·exact nil
theorem aPA {m:Im} {o:Int} {a b w:Tp} (h:cG m.1 a b=true) (hb:dV m o b w=true):dV m o a w=true:=by
 unfold dV at hb⊢
 cases h0:w.1==0 <;> simp only[h0,aA,aB] at hb⊢
 cases h4:w.1==4 <;> simp only[h4,aA,aB] at hb⊢
 ·exact aEQ h hb
 ·simp only[aC,fW,bne_iff_ne] at hb⊢
  rcases iE.1 h with⟨a4,_⟩ | ⟨a3,_⟩ | ⟨rfl,_⟩
  ·exact⟨vD.2 (.inr (.inr a4)),.inr (by omega)⟩
  ·exact⟨vD.2 (.inr (.inl a3)),.inr (by omega)⟩
  ·exact hb
theorem aJK {m:Im} {o:Int}:∀{a b:List Tp} {w:List Tp},leS m.1 a b→((b.zip w).all fun p=>dV m o p.1 p.2)=true→((a.zip w).all fun p=>dV m o p.1 p.2)=true
 | [],[],_,_,_=>by simp
 | x::a,y::b,[],_,_=>by simp
 | x::a,y::b,w::ws,hle,h=>by
  simp only[List.zip_cons_cons,eY,aC] at h⊢
  exact⟨aPA hle.1 h.1,aJK hle.2 h.2⟩
 | [],_::_,_,h,_=>h.elim
 | _::_,[],_,h,_=>h.elim
theorem aES {m:Im} (hs:aM m=true) {f pc:Int} {s t:List Tp} (hle:leS m.1 s t) (h:(aN m f pc t).2.2.1=0):
  (aN m f pc s).2.2.1=0∧(aN m f pc s).2.1=(aN m f pc t).2.1∧leS m.1 (aN m f pc s).1 (aN m f pc t).1:=by
 have hlen:=pZ hle
 unfold aN at h⊢
 cases hf:inM m f
 ·rw[hf] at h;simp at h
 cases hp:sin pc (codeN m f:Int)
 ·rw[hf,hp] at h;simp at h
 simp only[hf,hp,aI,aZ,aB] at h⊢
 cases hn:(dS (aH m f pc) pc).contains (codeN m f:Int)
 case true=>rw[hn] at h;simp at h
 simp only[hn,aB] at h⊢
 have hi:=rG hs hf hp
 cases h6:(aH m f pc).1==6 <;> simp only[h6,aA,aB] at h⊢
 ·have ho:=aGs hs hf hi
  unfold mG at h⊢
  rw[hlen]
  generalize eJ m (aD m f) (aH m f pc)=E at h ho⊢
  cases hb:decide (t.length<E.1.length) || decide (t.length - E.1.length+E.2.1.length>8) <;> simp only[hb,aA,aB] at h⊢
  ·cases hz:((t.drop (t.length - E.1.length)).zip E.1).all fun p=>dV m (aH m f pc).1 p.1 p.2 <;> simp only[hz,aA,aB] at h⊢
   ·cases h
   ·rw[aJK (aDh _ hle) hz]
    exact⟨rfl,rfl,aDi (aHp _ hle) (yR ho)⟩
  ·cases h
 ·rw[hlen]
  cases hb:decide (t.length=0) || decide (t.length≥8) <;> simp only[hb,aA,aB] at h⊢
  ·exact⟨trivial,trivial,aDi hle (aDh _ hle)⟩
  ·cases h
structure Gd (m:Im) (N:Nat) (h:List Sh):Prop where
 len:h.length=N
 good:∀s∈h,s.2.1.length≤8∧gS (nC m) s.2.1
 bare:∀s∈h,s.1=false→s=zSh
def sh (h:List Sh) (k:Nat):Sh:=h.getD k zSh
theorem Gd.at' {m:Im} {N:Nat} {h:List Sh} (hg:Gd m N h) (k:Nat):(sh h k).2.1.length≤8∧gS (nC m) (sh h k).2.1:=by
 unfold sh
 by_cases hk:k<h.length
 ·rw[getD_some (aW hk)];exact hg.good _ (eE hk)
 ·rw[gY (by omega)];exact⟨dG _,fun _ h=>by cases h⟩
def Bel (m:Im) (h S:List Sh):Prop:=∀k,(sh h k).1=true→(sh S k).1=true∧leS m.1 (sh h k).2.1 (sh S k).2.1
def Cov (m:Im) (f:Int) (h:List Sh) (pc:Nat):Prop:=
 (aN m f (pc:Int) (sh h pc).2.1).2.2.1=0∧∀to∈(aN m f (pc:Int) (sh h pc).2.1).2.1,(sh h to.toNat).1=true∧leS m.1 (aN m f (pc:Int) (sh h pc).2.1).1 (sh h to.toNat).2.1
structure PF (m:Im) (f:Int) (S:List Sh):Prop where
 gd:Gd m (codeN m f) S
 start:(sh S 0).1=true∧(sh S 0).2.1=[]
 cov:∀pc,(sh S pc).1=true→Cov m f S pc
theorem aJD {m:Im} {N:Nat} {h:List Sh} (hg:Gd m N h):Bel m h h:=fun k hk=>⟨hk,yR (hg.at' k).2⟩
theorem aJB {m:Im} {a b c:List Sh} (h1:Bel m a b) (h2:Bel m b c):Bel m a c:=fun k hk=>by
 obtain⟨i1,i2⟩:=h1 k hk
 obtain⟨j1,j2⟩:=h2 k i1
 exact⟨j1,sB i2 j2⟩
theorem aBB {m:Im} {N:Nat} {a b:List Sh} (ga:Gd m N a) (gb:Gd m N b) (h1:Bel m a b) (h2:Bel m b a):a=b:=by
 refine aEf (by rw[ga.len,gb.len]) fun k k1 k2=>?_
 have e1:sh a k=a[k]:=getD_some (aW k1)
 have e2:sh b k=b[k]:=getD_some (aW k2)
 rw[←e1,←e2]
 have key:∀(x y:Sh),x.1=y.1→x.2.1=y.2.1→x=y:=by
  rintro ⟨x1,x2,⟨⟩⟩ ⟨y1,y2,⟨⟩⟩ h1 h2
  simp only at h1 h2
  subst h1 h2
  rfl
 cases hs:(sh a k).1
 ·cases hb:(sh b k).1
  ·rw[e1] at hs⊢
   rw[e2] at hb⊢
   rw[ga.bare _ (eE k1) hs,gb.bare _ (eE k2) hb]
  ·have:=(h2 k hb).1
   rw[hs] at this;cases this
 ·obtain⟨i1,i2⟩:=h1 k hs
  exact key _ _ (by rw[hs,i1]) (aHq (ga.at' k).2 (gb.at' k).2 i2 (h2 k i1).2)
theorem nX {h:List Sh} {k:Nat} (hk:k<h.length) (s:Sh) (j:Nat):sh (h.set k s) j=if j=k then s else sh h j:=by
 unfold sh
 rw[dZ,dZ,iO]
 by_cases hj:k=j
 ·subst hj;simp[hk]
 ·have:¬j=k:=fun h=>hj h.symm
  simp[hj,this]
theorem aGX {m:Im} {o:Sh} {s:List Tp} (ho:o.2.1.length≤8∧gS (nC m) o.2.1) (hs8:s.length≤8) (hs:gS (nC m) s) (h:(cW m.1 o s).2.2.1=true):
  ((cW m.1 o s).1.2.1.length≤8∧gS (nC m) (cW m.1 o s).1.2.1)∧(cW m.1 o s).1.1=true∧leS m.1 s (cW m.1 o s).1.2.1∧(o.1=true→leS m.1 o.2.1 (cW m.1 o s).1.2.1)∧((cW m.1 o s).2.1=false→o.1=true∧(cW m.1 o s).1.2.1=o.2.1):=by
 unfold cW at h⊢
 cases h1:o.1 <;> simp only[h1,aZ,bY,aA,aB] at h⊢
 ·exact⟨⟨hs8,hs⟩,trivial,yR hs,fun h=>(by cases h),fun h=>(by cases h)⟩
 ·cases h2:decide (o.2.1.length≠s.length) <;> simp only[h2,aA,aB] at h⊢
  ·have hlen:o.2.1.length=s.length:=by simpa using h2
   cases h3:(bP m.1 o.2.1 s).any fun t=>t.1==0 <;> simp only[h3,aA,aB] at h⊢
   ·have hz:∀t∈bP m.1 o.2.1 s,t.1≠0:=fun t ht h0=>by
     have:((bP m.1 o.2.1 s).any fun t=>t.1==0)=true:=iP.2 ⟨t,ht,by simp[h0]⟩
     rw[h3] at this;cases this
    obtain⟨i1,i2,i3⟩:=aGV hlen ho.2 hs hz
    refine⟨⟨by rw[uU m.1 hlen];exact hs8,i3⟩,trivial,i2,fun _=>i1,fun h=>⟨trivial,by simpa using h⟩⟩
   ·cases h
  ·cases h
theorem aN6 {m:Im} {o S:Sh} {s:List Tp} (ho:gS (nC m) o.2.1) (hS:gS (nC m) S.2.1) (hs:gS (nC m) s) (h1:o.1=true→leS m.1 o.2.1 S.2.1) (h2:leS m.1 s S.2.1):
  (cW m.1 o s).2.2.1=true∧leS m.1 (cW m.1 o s).1.2.1 S.2.1:=by
 unfold cW
 cases ho1:o.1 <;> simp only[aZ,bY,aA,aB]
 ·exact⟨trivial,h2⟩
 ·have hle:=h1 ho1
  have hlen:o.2.1.length=s.length:=by rw[pZ hle,pZ h2]
  have e:decide (o.2.1.length≠s.length)=false:=bH fun h=>h hlen
  rw[e]
  simp only[aB]
  obtain⟨i1,i2⟩:=aGW ho hs hS hle h2
  have h3:((bP m.1 o.2.1 s).any fun t=>t.1==0)=false:=by
   cases hh:(bP m.1 o.2.1 s).any fun t=>t.1==0
   ·rfl
   ·obtain⟨t,ht,h0⟩:=iP.1 hh
    exact absurd (by simpa using h0) (i1 t ht)
  rw[h3]
  exact⟨rfl,i2⟩
end Go.Pli

namespace Go.Pli
open Go Go.PM
theorem aKe {m:Im} (hs:aM m=true) {f pc:Int} {s:List Tp} (h:(aN m f pc s).2.2.1=0):(aN m f pc s).1.length≤s.length+1:=by
 unfold aN at h⊢
 cases hf:inM m f
 ·rw[hf] at h;simp at h
 cases hp:sin pc (codeN m f:Int)
 ·rw[hf,hp] at h;simp at h
 simp only[hf,hp,aI,aZ,aB] at h⊢
 cases hn:(dS (aH m f pc) pc).contains (codeN m f:Int)
 case true=>rw[hn] at h;simp at h
 simp only[hn,aB] at h⊢
 cases h6:(aH m f pc).1==6 <;> simp only[h6,aA,aB] at h⊢
 ·have ho:(eJ m (aD m f) (aH m f pc)).2.1.length≤1:=by
   have C:∀(x:Mt) (t:List Tp),(iB x t).2.1.length≤1:=fun x t=>by
    unfold iB
    cases x.2.2.1.1 !=5 <;> simp
   have P:∀{b:Bool} {x y:Eff},x.2.1.length≤1→y.2.1.length≤1→(bif b then x else y).2.1.length≤1:=fun {b} {x} {y} h1 h2=>by cases b;exact h2;exact h1
   have Q:∀{b:Bool} {x y:Eff×Bool×Unit},x.1.2.1.length≤1→y.1.2.1.length≤1→(bif b then x else y).1.2.1.length≤1:=fun {b} {x} {y} h1 h2=>by cases b;exact h2;exact h1
   have h1:∀(a:List Tp) (t:Tp),((a,[t],()):Eff).2.1.length≤1:=fun _ _=>aU _
   have h0:∀(a:List Tp),((a,[],()):Eff).2.1.length≤1:=fun _=>dG _
   have hp:(eI (aH m f pc).1).1.2.1.length≤1:=by
    unfold eI
    exact Q (h1 _ _) (Q (h0 _) (Q (h1 _ _) (Q (h1 _ _) (Q (h1 _ _) (Q (h0 _) (Q (h1 _ _) (Q (h1 _ _) (Q (h0 _) (Q (h0 _) (Q (h1 _ _) (Q (h1 _ _) (h0 _))))))))))))
   unfold eJ
   exact P hp (P (h1 _ _) (P (h0 _) (P (h1 _ _) (P (h1 _ _) (P (h0 _) (P (h1 _ _) (P (h0 _) (P (C _ _) (P (C _ _) (P (h1 _ _) (P (P (h0 _) (h0 _)) (h0 _))))))))))))
  unfold mG at h⊢
  generalize eJ m (aD m f) (aH m f pc)=E at h ho⊢
  cases hb:decide (s.length<E.1.length) || decide (s.length - E.1.length+E.2.1.length>8) <;> simp only[hb,aA,aB] at h⊢
  ·cases hz:((s.drop (s.length - E.1.length)).zip E.1).all fun p=>dV m (aH m f pc).1 p.1 p.2 <;> simp only[hz,aA,aB] at h⊢
   ·exact dG _
   ·rw[aV,bR];omega
  ·exact dG _
 ·cases hb:decide (s.length=0) || decide (s.length≥8) <;> simp only[hb,aA,aB] at h⊢
  ·rw[aV,eF]
   omega
  ·exact dG _
theorem aN4 {m:Im} {o:Sh} {s:List Tp} (h:(cW m.1 o s).2.2.1=true) (h':(cW m.1 o s).2.1=true):(cW m.1 o s).1≠o:=by
 unfold cW at h h'⊢
 cases h1:o.1 <;> simp only[h1,aZ,bY,aA,aB] at h h'⊢
 ·intro e;rw[←e] at h1;cases h1
 ·cases h2:decide (o.2.1.length≠s.length) <;> simp only[h2,aA,aB] at h h'⊢
  ·cases h3:(bP m.1 o.2.1 s).any fun t=>t.1==0 <;> simp only[h3,aA,aB] at h h'⊢
   ·intro e
    have e2:bP m.1 o.2.1 s=o.2.1:=dF (fun z:Sh=>z.2.1) e
    rw[e2] at h'
    simp at h'
   ·cases h
  ·cases h
theorem aN7 {m:Im} {o:Sh} {s:List Tp} (h:(cW m.1 o s).2.2.1=true):(cW m.1 o s).1.2.1.length=s.length:=by
 unfold cW at h⊢
 cases h1:o.1 <;> simp only[h1,aZ,bY,aA,aB] at h⊢
 cases h2:decide (o.2.1.length≠s.length) <;> simp only[h2,aA,aB] at h⊢
 ·have hlen:o.2.1.length=s.length:=by simpa using h2
  cases h3:(bP m.1 o.2.1 s).any fun t=>t.1==0 <;> simp only[h3,aA,aB] at h⊢
  ·exact uU m.1 hlen
  ·cases h
 ·cases h
structure aEb (m:Im) (N:Nat) (a:List Tp) (ts:List Int) (h:List Sh) (q:List Bool) (r:Bool×List Sh×List Bool×Unit):Prop where
 gd:Gd m N r.2.1
 ql:r.2.2.1.length=N
 bel:Bel m h r.2.1
 tos:∀to∈ts,(sh r.2.1 to.toNat).1=true∧leS m.1 a (sh r.2.1 to.toNat).2.1
 same:∀k,r.2.2.1.getD k false=false→q.getD k false=false∧sh r.2.1 k=sh h k
 new:∀k,(sh r.2.1 k).1=true→(sh h k).1=true∧(sh r.2.1 k).2.1.length=(sh h k).2.1.length∨(sh r.2.1 k).2.1.length=a.length
 pn:∀k,r.2.2.1.getD k false=true→q.getD k false=true∨(sh r.2.1 k).1=true
 any:q.any id=true→r.2.2.1.any id=true
 mov:q.any id=false→r.2.2.1.any id=true→r.2.1≠h
theorem aJI {q:List Bool} {k:Nat} (hk:k<q.length):(q.set k true).any id=true:=iP.2 ⟨true,by
 have:=eE (l:=q.set k true) (n:=k) (by rwa [dB])
 rwa [List.getElem_set_self] at this,rfl⟩
theorem aRo {m:Im} {N:Nat} {h:List Sh} (hg:Gd m N h) {k:Nat} (hk:k<h.length) {s:Sh} (h1:s.1=true) (h2:(sh h k).1=true→leS m.1 (sh h k).2.1 s.2.1):Bel m h (h.set k s):=fun j hj=>by
 rw[nX hk]
 by_cases e:j=k
 ·rw[if_pos e];subst e;exact⟨h1,h2 hj⟩
 ·rw[if_neg e];exact⟨hj,yR (hg.at' j).2⟩
theorem aHQ {m:Im} {N:Nat} {h:List Sh} (hg:Gd m N h) {k:Nat} {s:Sh} (h1:s.1=true) (h2:s.2.1.length≤8∧gS (nC m) s.2.1):Gd m N (h.set k s):=
 ⟨by rw[dB,hg.len],fun x hx=>by
  rcases wI hx with hx | rfl
  ·exact hg.good x hx
  ·exact h2,fun x hx hf=>by
  rcases wI hx with hx | rfl
  ·exact hg.bare x hx hf
  ·rw[h1] at hf;cases hf⟩
theorem aAL {m:Im} {N:Nat} {a:List Tp} (ha8:a.length≤8) (ha:gS (nC m) a):∀(ts:List Int) (h:List Sh) (q:List Bool),Gd m N h→q.length=N→(∀to∈ts,0≤to∧to<(N:Int))→
  (fM m.1 a ts h q).1=true→aEb m N a ts h q (fM m.1 a ts h q)
 | [],h,q,hg,hq,_,_=>⟨hg,hq,aJD hg,fun _ h=>(by cases h),fun _ h=>⟨h,rfl⟩,fun _ h=> .inl ⟨h,rfl⟩,fun _ h=> .inl h,fun h=>h,fun h1 h2=>by rw[show (fM m.1 a [] h q).2.2.1=q from rfl,h1] at h2;cases h2⟩
 | to::ts,h,q,hg,hq,ht,hr=>by
  obtain⟨t0,t1⟩:=ht to (cY ..)
  have hk:to.toNat<h.length:=by rw[hg.len];omega
  have hkq:to.toNat<q.length:=by rw[hq];omega
  have ht':∀x∈ts,0≤x∧x<(N:Int):=fun x hx=>ht x (cD _ hx)
  unfold fM at hr⊢
  have hmf:=aGX (m:=m) (o:=h.getD to.toNat zSh) (hg.at' to.toNat) ha8 ha
  have hmm:=aN4 (m:=m) (o:=h.getD to.toNat zSh) (s:=a)
  have hml:=aN7 (m:=m) (o:=h.getD to.toNat zSh) (s:=a)
  generalize hM:cW m.1 (h.getD to.toNat zSh) a=M at hr hmf hmm hml⊢
  cases h1:M.2.2.1 <;> simp only[h1,aZ,bY,aA,aB] at hr⊢
  ·cases hr
  obtain⟨m1,m2,m3,m4,m5⟩:=hmf h1
  cases h2:M.2.1 <;> simp only[h2,aA,aB] at hr⊢
  ·have I:=aAL ha8 ha ts h q hg hq ht' hr
   obtain⟨e1,e2⟩:=m5 h2
   refine⟨I.gd,I.ql,I.bel,fun x hx=>?_,I.same,I.new,I.pn,I.any,I.mov⟩
   rcases bW.1 hx with rfl | hx
   ·obtain⟨b1,b2⟩:=I.bel x.toNat e1
    rw[e2] at m3
    exact⟨b1,sB m3 b2⟩
   ·exact I.tos x hx
  ·have hg':=aHQ (k:=to.toNat) hg m2 m1
   have hb:=aRo hg hk m2 m4
   have I:=aAL ha8 ha ts (h.set to.toNat M.1) (q.set to.toNat true) hg' (by rw[dB,hq]) ht' hr
   have hne:h.set to.toNat M.1≠h:=fun e=>hmm h1 h2 (by
    have:=dF (fun z=>sh z to.toNat) e
    simp only[nX hk] at this
    exact this)
   refine⟨I.gd,I.ql,aJB hb I.bel,fun x hx=>?_,fun k hk0=>?_,fun k hk1=>?_,fun k hk1=>?_,fun _=>I.any (aJI hkq),fun _ _ e=>?_⟩
   ·rcases bW.1 hx with rfl | hx
    ·have e1:sh (h.set x.toNat M.1) x.toNat=M.1:=by rw[nX hk,if_pos rfl]
     obtain⟨b1,b2⟩:=I.bel x.toNat (by rw[e1];exact m2)
     rw[e1] at b2
     exact⟨b1,sB m3 b2⟩
    ·exact I.tos x hx
   ·obtain⟨i1,i2⟩:=I.same k hk0
    have hkn:k≠to.toNat:=fun e=>by
     rw[e,dZ,sX hkq] at i1
     cases i1
    rw[nX hk,if_neg hkn] at i2
    rw[dZ,pG (fun e=>hkn e.symm),←dZ] at i1
    exact⟨i1,i2⟩
   ·rcases I.new k hk1 with⟨i1,i2⟩ | i
    ·by_cases e:k=to.toNat
     ·rw[nX hk,if_pos e] at i2
      exact .inr (by rw[i2,hml h1])
     ·rw[nX hk,if_neg e] at i1 i2
      exact .inl ⟨i1,i2⟩
    ·exact .inr i
   ·rcases I.pn k hk1 with i | i
    ·by_cases e:k=to.toNat
     ·refine .inr (I.bel k ?_).1
      rw[nX hk,if_pos e]
      exact m2
     ·rw[dZ,pG (fun e'=>e e'.symm),←dZ] at i
      exact .inl i
    ·exact .inr i
   ·refine hne (aBB (N:=N) hg' hg ?_ hb)
    have:=I.bel
    rw[e] at this
    exact this
theorem aAM {m:Im} {N:Nat} {a:List Tp} {S:List Sh} (hS:Gd m N S) (ha8:a.length≤8) (ha:gS (nC m) a):∀(ts:List Int) (h:List Sh) (q:List Bool),Gd m N h→Bel m h S→(∀to∈ts,(0≤to∧to<(N:Int))∧(sh S to.toNat).1=true∧leS m.1 a (sh S to.toNat).2.1)→
  (fM m.1 a ts h q).1=true∧Bel m (fM m.1 a ts h q).2.1 S
 | [],h,q,hg,hb,_=>⟨rfl,hb⟩
 | to::ts,h,q,hg,hb,ht=>by
  obtain⟨⟨t0,t1⟩,t2,t3⟩:=ht to (cY ..)
  have hk:to.toNat<h.length:=by rw[hg.len];omega
  have ht':=fun x hx=>ht x (cD _ hx)
  unfold fM
  have hmf:=aGX (m:=m) (o:=h.getD to.toNat zSh) (hg.at' to.toNat) ha8 ha
  have hmb:=aN6 (m:=m) (o:=h.getD to.toNat zSh) (S:=sh S to.toNat) (hg.at' to.toNat).2 (hS.at' to.toNat).2 ha (fun h1=>(hb to.toNat h1).2) t3
  generalize hM:cW m.1 (h.getD to.toNat zSh) a=M at hmf hmb⊢
  obtain⟨b1,b2⟩:=hmb
  obtain⟨m1,m2,m3,m4,m5⟩:=hmf b1
  rw[b1]
  simp only[aZ,aB]
  cases h2:M.2.1 <;> simp only[aA,aB]
  ·exact aAM hS ha8 ha ts h q hg hb ht'
  ·refine aAM hS ha8 ha ts _ _ (aHQ hg m2 m1) (fun k hk1=>?_) ht'
   rw[nX hk] at hk1⊢
   by_cases e:k=to.toNat
   ·rw[if_pos e] at hk1⊢;subst e;exact⟨t2,b2⟩
   ·rw[if_neg e] at hk1⊢;exact hb k hk1
def DC (h:List Sh):Prop:=∀k,(sh h k).1=true→∀j,j<(sh h k).2.1.length→∃k',(sh h k').1=true∧(sh h k').2.1.length=j
structure WJ (m:Im) (f:Int) (h:List Sh) (q:List Bool):Prop where
 gd:Gd m (codeN m f) h
 ql:q.length=codeN m f
 start:(sh h 0).1=true∧(sh h 0).2.1=[]
 cov:∀pc,(sh h pc).1=true→q.getD pc false=false→Cov m f h pc
 dc:DC h
 pend:∀pc,q.getD pc false=true→(sh h pc).1=true
theorem aJC {m:Im} {h h':List Sh} (hb:Bel m h h') (hs:(sh h 0).1=true∧(sh h 0).2.1=[]):(sh h' 0).1=true∧(sh h' 0).2.1=[]:=by
 obtain⟨i1,i2⟩:=hb 0 hs.1
 refine⟨i1,?_⟩
 have:=pZ i2
 rw[hs.2] at this
 exact List.length_eq_zero_iff.1 this.symm
theorem aQm {m:Im} {f:Int} {h h':List Sh} (hb:Bel m h h') {pc:Nat} (e:sh h' pc=sh h pc) (hc:Cov m f h pc):Cov m f h' pc:=by
 unfold Cov at hc⊢
 rw[e]
 refine⟨hc.1,fun to ht=>?_⟩
 obtain⟨i1,i2⟩:=hc.2 to ht
 obtain⟨j1,j2⟩:=hb _ i1
 exact⟨j1,sB i2 j2⟩
theorem aCt {q:List Bool} (h:q.any id=true):q.findIdx id<q.length∧q.getD (q.findIdx id) false=true:=by
 have hk:=aH8 h
 refine⟨hk,?_⟩
 have:=List.findIdx_getElem (p:=id) (xs:=q) (w:=hk)
 rw[getD_some (aW hk)]
 exact this
theorem aP8 {m:Im} {N:Nat} {a:List Tp} {ts:List Int} {h:List Sh} {q:List Bool} {r:Bool×List Sh×List Bool×Unit} (O:aEb m N a ts h q r) (hd:DC h) {pc:Nat} (hp:(sh h pc).1=true) (ha:a.length≤(sh h pc).2.1.length+1):DC r.2.1:=by
 have up:∀j,(∃k',(sh h k').1=true∧(sh h k').2.1.length=j)→∃k',(sh r.2.1 k').1=true∧(sh r.2.1 k').2.1.length=j:=by
  rintro j ⟨k',h1,h2⟩
  obtain⟨b1,b2⟩:=O.bel k' h1
  exact⟨k',b1,by rw[←pZ b2];exact h2⟩
 intro k hk j hj
 rcases O.new k hk with⟨i1,i2⟩ | i
 ·exact up j (hd k i1 j (by omega))
 ·by_cases e:j=(sh h pc).2.1.length
  ·exact up j ⟨pc,hp,e.symm⟩
  ·exact up j (hd pc hp j (by omega))
theorem aEv {m:Im} (hs:aM m=true) {f:Int} {h:List Sh} {q:List Bool} (W:WJ m f h q) (ha:q.any id=true)
  (hr:(lF m f (q.findIdx id:Int) h (q.set (q.findIdx id) false)).1=true):
  WJ m f (lF m f (q.findIdx id:Int) h (q.set (q.findIdx id) false)).2.1 (lF m f (q.findIdx id:Int) h (q.set (q.findIdx id) false)).2.2.1:=by
 obtain⟨hk,htrue⟩:=aCt ha
 generalize q.findIdx id=pc at hk htrue hr⊢
 have hp:=W.pend pc htrue
 unfold lF at hr⊢
 rw[aT] at hr⊢
 cases he:(aN m f (pc:Int) (h.getD pc zSh).2.1).2.2.1 !=0 <;> simp only[he,aA,aB] at hr⊢
 ·have he0:(aN m f (pc:Int) (h.getD pc zSh).2.1).2.2.1=0:=by simpa using he
  obtain⟨-,-,h8,hto⟩:=mF hs he0
  have hlen:=aKe hs he0
  have O:=aAL (N:=codeN m f) h8 (aAc hs (W.gd.at' pc).2) (aN m f (pc:Int) (h.getD pc zSh).2.1).2.1 h (q.set pc false) W.gd (by rw[dB,W.ql]) hto hr
  have hO:=aP8 O W.dc hp hlen
  have hst:=aJC O.bel W.start
  refine⟨O.gd,O.ql,hst,fun k hk1 hk2=>?_,hO,fun k hk1=>?_⟩
  ·obtain⟨s1,s2⟩:=O.same k hk2
   by_cases e:k=pc
   ·subst e
    refine⟨by rw[s2];exact he0,fun to ht=>?_⟩
    rw[s2] at ht⊢
    exact O.tos to ht
   ·rw[dZ,pG (fun e'=>e e'.symm),←dZ] at s1
    exact aQm O.bel s2 (W.cov k (by rw[←s2];exact hk1) s1)
  ·rcases O.pn k hk1 with i | i
   ·by_cases e:k=pc
    ·subst e
     rw[dZ,sX hk] at i
     cases i
    ·rw[dZ,pG (fun e'=>e e'.symm),←dZ] at i
     exact (O.bel k (W.pend k i)).1
   ·exact i
 ·cases hr
theorem aGx {m:Im} (hs:aM m=true) {f:Int} (hf:inM m f=true) {h:List Sh} {q:List Bool} (hg:Gd m (codeN m f) h) (hq:q.length=codeN m f) (ha:q.any id=true):
  rV m f (q.findIdx id:Int) h (q.set (q.findIdx id) false)=true:=by
 obtain⟨hk,-⟩:=aCt ha
 rw[hq] at hk
 exact OneP.to ⟨hs,hf,by simp only[sin,aC,aP];omega,hg.len,by rw[dB,hq],fun s hs=>fB (by have:=(hg.good s hs).1;omega)⟩
theorem aBS {m:Im} (hs:aM m=true) {f:Int} (hf:inM m f=true):∀(n:Nat) (h:List Sh) (q:List Bool) (r:List Sh×Int×Int×Unit),WJ m f h q→pI m f n h q=some r→r.2.2.1=0→PF m f r.1∧DC r.1
 | 0,_,_,_,_,h,_=>by cases h
 | n+1,h,q,r,W,hr,h0=>by
  unfold pI at hr
  cases ha:q.any id <;> simp only[ha,aA,aB] at hr
  ·have:=nL hr
   subst this
   refine⟨⟨W.gd,W.start,fun pc hp=>W.cov pc hp ?_⟩,W.dc⟩
   by_cases hk:pc<q.length
   ·rw[getD_some (aW hk)]
    cases hx:q[pc]
    ·rfl
    ·exact absurd (iP.2 ⟨_,eE hk,hx⟩) (by rw[ha];exact Bool.false_ne_true)
   ·rw[gY (by omega)]
  ·unfold zV at hr
   rw[aGx hs hf W.gd W.ql ha] at hr
   simp only[aA,aJ] at hr
   cases hb:(lF m f (q.findIdx id:Int) h (q.set (q.findIdx id) false)).1 <;> simp only[hb,aZ,bY,aA,aB] at hr
   ·have:=nL hr
    subst this
    cases h0
   ·exact aBS hs hf n _ _ r (aEv hs W ha hb) hr h0
theorem aBT {m:Im} (hs:aM m=true) {f:Int} (hf:inM m f=true) {S:List Sh} (hS:PF m f S):∀(n:Nat) (h:List Sh) (q:List Bool) (r:List Sh×Int×Int×Unit),WJ m f h q→Bel m h S→pI m f n h q=some r→r.2.2.1=0∧Bel m r.1 S
 | 0,_,_,_,_,_,h=>by cases h
 | n+1,h,q,r,W,hb,hr=>by
  unfold pI at hr
  cases ha:q.any id <;> simp only[ha,aA,aB] at hr
  ·have:=nL hr
   subst this
   exact⟨rfl,hb⟩
  ·unfold zV at hr
   rw[aGx hs hf W.gd W.ql ha] at hr
   simp only[aA,aJ] at hr
   have key:(lF m f (q.findIdx id:Int) h (q.set (q.findIdx id) false)).1=true∧Bel m (lF m f (q.findIdx id:Int) h (q.set (q.findIdx id) false)).2.1 S:=by
    obtain⟨hk,htrue⟩:=aCt ha
    generalize q.findIdx id=pc at hk htrue
    have hp:=W.pend pc htrue
    obtain⟨p1,p2⟩:=hb pc hp
    obtain⟨c1,c2⟩:=hS.cov pc p1
    obtain⟨s1,s2,s3⟩:=aES hs p2 c1
    obtain⟨-,-,h8,hto⟩:=mF hs s1
    unfold lF
    rw[aT]
    rw[show (aN m f (pc:Int) (h.getD pc zSh).2.1).2.2.1=0 from s1]
    simp only[bne_self_eq_false,aB]
    refine aAM hS.gd h8 (aAc hs (W.gd.at' pc).2) _ h _ W.gd hb fun to ht=>⟨hto to ht,?_⟩
    rw[show (aN m f (pc:Int) (h.getD pc zSh).2.1).2.1=_ from s2] at ht
    obtain⟨d1,d2⟩:=c2 to ht
    exact⟨d1,sB s3 d2⟩
   rw[key.1] at hr
   simp only[aZ,aB] at hr
   exact aBT hs hf hS n _ _ r (aEv hs W ha key.1) key.2 hr
theorem xC {m:Im} {f:Int} (hc:0<codeN m f) (k:Nat):sh (gI m f) k=if k=0 then (true,[],()) else zSh:=by
 unfold gI
 rw[nX (by simpa using hc)]
 by_cases e:k=0
 ·rw[if_pos e,if_pos e]
 ·rw[if_neg e,if_neg e]
  unfold sh
  by_cases hk:k<codeN m f
  ·rw[getD_some (aW (by simpa using hk))];simp
  ·rw[gY (by simpa using hk)]
theorem aB5 {m:Im} {f:Int}:Gd m (codeN m f) (gI m f):=by
 refine⟨by simp[gI],fun s hs=>?_,fun s hs h=>?_⟩ <;>
  rcases wI hs with hs | rfl
 ·rw[zI] at hs
  rw[hs.2]
  exact⟨dG _,fun _ h=>by cases h⟩
 ·exact⟨dG _,fun _ h=>by cases h⟩
 ·rw[zI] at hs
  exact hs.2
 ·cases h
theorem aKj {m:Im} (hs:aM m=true) {f:Int} (hf:inM m f=true):WJ m f (gI m f) ((List.replicate (codeN m f) false).set 0 true):=by
 have hc:=(fA hs hf).1
 have sq:∀k,((List.replicate (codeN m f) false).set 0 true).getD k false=decide (k=0):=fun k=>by
  by_cases e:k=0
  ·subst e
   rw[dZ,sX (by simpa using hc)];rfl
  ·rw[dZ,pG (fun e'=>e e'.symm),bH e]
   rw[List.getElem?_replicate]
   split <;> rfl
 refine⟨aB5,by simp,by rw[xC hc];exact⟨rfl,rfl⟩,fun pc h1 h2=>?_,fun k h1 j hj=>?_,fun k h=>?_⟩
 ·rw[sq] at h2
  rw[xC hc,if_neg (by simpa using h2)] at h1
  cases h1
 ·rw[xC hc] at hj
  by_cases e:k=0
  ·rw[if_pos e] at hj;cases hj
  ·rw[if_neg e] at hj;cases hj
 ·rw[sq] at h
  rw[xC hc,if_pos (by simpa using h)]
theorem aAd {m:Im} (hs:aM m=true) {f:Int} (hf:inM m f=true) {S:List Sh} (hS:PF m f S):Bel m (gI m f) S:=fun k h=>by
 have hc:=(fA hs hf).1
 rw[xC hc] at h⊢
 by_cases e:k=0
 ·subst e
  rw[if_pos rfl,hS.start.2]
  exact⟨hS.start.1,trivial⟩
 ·rw[if_neg e] at h;cases h
end Go.Pli

namespace Go.Pli
open Go Go.PM
structure wL (m:Im) (N:Nat) (t:Bool) (h:List Sh) (r:Bool×List Sh):Prop where
 gd:Gd m N r.2
 bel:Bel m h r.2
 still:r.1=false→t=false∧r.2=h
 moved:r.1=true→t=true∨r.2≠h
theorem aH2 {m:Im} {N:Nat} {t:Bool} {h:List Sh} (hg:Gd m N h):wL m N t h (t,h):=⟨hg,aJD hg,fun h=>⟨h,rfl⟩,fun h=> .inl h⟩
theorem aPu {m:Im} {N:Nat} {t:Bool} {h:List Sh} {r z:Bool×List Sh} (hg:Gd m N h) (h1:wL m N t h r) (h2:wL m N r.1 r.2 z):wL m N t h z:=
 ⟨h2.gd,aJB h1.bel h2.bel,fun hz=>by
  obtain⟨a,b⟩:=h2.still hz
  obtain⟨c,d⟩:=h1.still a
  exact⟨c,b.trans d⟩,fun hz=>by
  rcases h2.moved hz with a | a
  ·rcases h1.moved a with b | b
   ·exact .inl b
   ·refine .inr fun e=>b (aBB h1.gd hg ?_ h1.bel)
    rw[←e];exact h2.bel
  ·refine .inr fun e=>a ?_
   have:Bel m r.2 h:=by rw[←e];exact h2.bel
   rw[e]
   exact aBB hg h1.gd h1.bel this⟩
theorem aBb {m:Im} {N:Nat} {a:List Tp}:∀(ts:List Int) (h:List Sh) (q:List Bool),q.length=N→(∀to∈ts,0≤to∧to<(N:Int))→
  jX m.1 a ts (q.any id) h=bif (fM m.1 a ts h q).1 then some ((fM m.1 a ts h q).2.2.1.any id,(fM m.1 a ts h q).2.1) else none
 | [],_,_,_,_=>rfl
 | to::ts,h,q,hq,ht=>by
  obtain⟨t0,t1⟩:=ht to (cY ..)
  have hkq:to.toNat<q.length:=by rw[hq];omega
  have ht':∀x∈ts,0≤x∧x<(N:Int):=fun x hx=>ht x (cD _ hx)
  unfold jX fM
  generalize cW m.1 (h.getD to.toNat zSh) a=M
  cases h1:M.2.2.1 <;> simp only[aZ,bY,aA,aB]
  cases h2:M.2.1 <;> simp only[aA,aB]
  ·exact aBb ts h q hq ht'
  ·have:=aBb (m:=m) (a:=a) ts (h.set to.toNat M.1) (q.set to.toNat true) (by rw[dB,hq]) ht'
   rw[aJI hkq] at this
   exact this
theorem aBD {N:Nat} (hN:0<N) (t:Bool):(List.replicate N t).any id=t:=by
 cases t
 ·cases h:(List.replicate N false).any id
  ·rfl
  ·obtain⟨x,hx,hx'⟩:=iP.1 h
   rw[zI] at hx
   rw[hx.2] at hx';cases hx'
 ·exact iP.2 ⟨true,zI.2 ⟨by omega,rfl⟩,rfl⟩
theorem aJJ {m:Im} {N:Nat} {a:List Tp} {ts:List Int} {h:List Sh} {q:List Bool} {r:Bool×List Sh×List Bool×Unit} (O:aEb m N a ts h q r) (hg:Gd m N h) (h0:r.2.2.1.any id=false):r.2.1=h:=by
 have hk:∀k,sh r.2.1 k=sh h k:=fun k=>(O.same k (by
  by_cases hk:k<r.2.2.1.length
  ·rw[getD_some (aW hk)]
   cases hx:r.2.2.1[k]
   ·rfl
   ·exact absurd (iP.2 ⟨_,eE hk,hx⟩) (by rw[h0];exact Bool.false_ne_true)
  ·rw[gY (by omega)])).2
 refine aEf (by rw[O.gd.len,hg.len]) fun k k1 k2=>?_
 have:=hk k
 unfold sh at this
 rwa [getD_some (aW k1),getD_some (aW k2)] at this
theorem aH4 {m:Im} (hs:aM m=true) {f:Int} {pc:Nat} {t:Bool} {h:List Sh} {r:Bool×List Sh} (hg:Gd m (codeN m f) h) (hr:nA m f pc t h=some r):
  wL m (codeN m f) t h r∧(r.1=false→(sh h pc).1=true→Cov m f h pc):=by
 unfold nA at hr
 cases h1:(h.getD pc zSh).1 <;> simp only[h1,aZ,bY,aA,aB] at hr
 ·have:=nL hr
  subst this
  exact⟨aH2 hg,fun _ h2=>by rw[show (sh h pc).1=false from h1] at h2;cases h2⟩
 ·cases he:(aN m f (pc:Int) (h.getD pc zSh).2.1).2.2.1 !=0 <;> simp only[he,aA,aB] at hr
  ·have he0:(aN m f (pc:Int) (h.getD pc zSh).2.1).2.2.1=0:=by simpa using he
   obtain⟨-,hp,h8,hto⟩:=mF hs he0
   have hN:0<codeN m f:=by simp only[sin,aC,aP] at hp;omega
   have hE:=aBb (m:=m) (N:=codeN m f) (a:=(aN m f (pc:Int) (h.getD pc zSh).2.1).1) (aN m f (pc:Int) (h.getD pc zSh).2.1).2.1 h (List.replicate (codeN m f) t) (by simp) hto
   rw[aBD hN,hr] at hE
   have O:=aAL (N:=codeN m f) h8 (aAc hs (hg.at' pc).2) (aN m f (pc:Int) (h.getD pc zSh).2.1).2.1 h (List.replicate (codeN m f) t) hg (by simp) hto
   generalize fM m.1 (aN m f (pc:Int) (h.getD pc zSh).2.1).1 (aN m f (pc:Int) (h.getD pc zSh).2.1).2.1 h (List.replicate (codeN m f) t)=z at hE O
   cases hz:z.1 <;> rw[hz] at hE <;> simp only[aA,aB] at hE
   ·cases hE
   have O:=O hz
   have:=nL hE
   subst this
   refine⟨⟨O.gd,O.bel,fun h0=>⟨?_,aJJ O hg h0⟩,fun h1=>?_⟩,fun h0 _=>⟨he0,fun to ht=>?_⟩⟩
   ·cases t
    ·rfl
    ·have:=O.any (aBD hN true)
     rw[show z.2.2.1.any id=false from h0] at this;cases this
   ·cases t
    ·exact .inr (O.mov (aBD hN false) h1)
    ·exact .inl rfl
   ·have:=O.tos to ht
    rw[aJJ O hg h0] at this
    exact this
  ·cases hr
theorem aBa {m:Im} (hs:aM m=true) {f:Int}:∀(n:Nat) (t:Bool) (h:List Sh) (r:Bool×List Sh),Gd m (codeN m f) h→iK m f n t h=some r→
  wL m (codeN m f) t h r∧(r.1=false→∀pc,pc<n→(sh h pc).1=true→Cov m f h pc)
 | 0,t,h,r,hg,hr=>by
  have:=nL hr
  subst this
  exact⟨aH2 hg,fun _ _ h=>(by cases h)⟩
 | n+1,t,h,r,hg,hr=>by
  unfold iK at hr
  cases hz:nA m f n t h with
  | none=>rw[hz] at hr;cases hr
  | some z=>
   rw[hz] at hr
   simp only[aJ] at hr
   obtain⟨F1,F2⟩:=aH4 hs hg hz
   obtain⟨G1,G2⟩:=aBa hs n z.1 z.2 r F1.gd hr
   refine⟨aPu hg F1 G1,fun h0 pc hp hseen=>?_⟩
   obtain⟨a,b⟩:=G1.still h0
   obtain⟨c,d⟩:=F1.still a
   by_cases e:pc=n
   ·subst e;exact F2 a hseen
   ·have:=G2 h0 pc (by omega)
    rw[d] at this
    exact this hseen
theorem aPv {m:Im} {N:Nat} {a:List Tp} {S:List Sh} (hS:Gd m N S) (ha8:a.length≤8) (ha:gS (nC m) a) (hN:0<N) {ts:List Int} {t:Bool} {h:List Sh} (hg:Gd m N h) (hb:Bel m h S) (ht:∀to∈ts,(0≤to∧to<(N:Int))∧(sh S to.toNat).1=true∧leS m.1 a (sh S to.toNat).2.1):
  ∃r,jX m.1 a ts t h=some r∧Bel m r.2 S:=by
 have hE:=aBb (m:=m) (N:=N) (a:=a) ts h (List.replicate N t) (by simp) (fun to h=>(ht to h).1)
 rw[aBD hN] at hE
 obtain⟨b1,b2⟩:=aAM hS ha8 ha ts h (List.replicate N t) hg hb ht
 rw[b1] at hE
 exact⟨_,hE,b2⟩
theorem aH1 {m:Im} (hs:aM m=true) {f:Int} {S:List Sh} (hS:PF m f S):∀(n:Nat) (t:Bool) (h:List Sh),Gd m (codeN m f) h→Bel m h S→∃r,iK m f n t h=some r∧Bel m r.2 S
 | 0,t,h,_,hb=>⟨_,rfl,hb⟩
 | n+1,t,h,hg,hb=>by
  have key:∃r,nA m f n t h=some r∧Bel m r.2 S:=by
   unfold nA
   cases h1:(h.getD n zSh).1 <;> simp only[aZ,bY,aA,aB]
   ·exact⟨_,rfl,hb⟩
   ·obtain⟨p1,p2⟩:=hb n h1
    obtain⟨c1,c2⟩:=hS.cov n p1
    obtain⟨s1,s2,s3⟩:=aES hs p2 c1
    obtain⟨-,hp,h8,hto⟩:=mF hs s1
    have hN:0<codeN m f:=by simp only[sin,aC,aP] at hp;omega
    rw[show (aN m f (n:Int) (h.getD n zSh).2.1).2.2.1=0 from s1]
    simp only[bne_self_eq_false,aB]
    refine aPv hS.gd h8 (aAc hs (hg.at' n).2) hN hg hb fun to ht=>⟨hto to ht,?_⟩
    rw[show (aN m f (n:Int) (h.getD n zSh).2.1).2.1=_ from s2] at ht
    obtain⟨d1,d2⟩:=c2 to ht
    exact⟨d1,sB s3 d2⟩
  obtain⟨z,hz,hzb⟩:=key
  obtain⟨F1,-⟩:=aH4 hs hg hz
  obtain⟨r,hr,hrb⟩:=aH1 hs hS n z.1 z.2 F1.gd hzb
  unfold iK
  rw[hz]
  exact⟨r,hr,hrb⟩
def h8 (l:List Cl) (t:Tp):Nat:=if t.1=4 then 8 else if t.1=3 then (bU l t.2.1).length - 1 else 0
theorem aO7 {l:List Cl} (hl:l.length≤8) (t:Tp):h8 l t≤8:=by
 have:=aBu hl t.2.1
 unfold h8
 split
 ·omega
 ·split <;> omega
theorem aO6 {l:List Cl} (hl:l.length≤8) {a b:Tp} (ga:gT (l.length:Int) a) (gb:gT (l.length:Int) b) (h:cG l a b=true):a=b∨h8 l b<h8 l a:=by
 have hc:=aBu hl b.2.1
 rcases iE.1 h with⟨a4,hb⟩ | ⟨a3,b3,hab⟩ | ⟨h,_⟩
 ·by_cases b4:b.1=4
  ·have e1:=aA8 ga a4
   have e2:=aA8 gb b4
   exact .inl (qX (by omega) (by omega))
  ·refine .inr ?_
   unfold h8
   rw[if_neg b4,if_pos a4]
   split <;> omega
 ·by_cases e:b.2.1=a.2.1
  ·exact .inl (qX (by omega) e.symm)
  ·refine .inr ?_
   have hb:=nK.1 hab
   have:=(aBt _ _ (gO _) hb.2.2.2).2 e
   have h1:0<(bU l b.2.1).length:=by rw[gM hb.1];simp
   unfold h8
   rw[if_neg (by omega),if_pos b3,if_neg (by omega),if_pos a3]
   omega
 ·exact .inl h
def hs8 (l:List Cl) (s:List Tp):Nat:=bA (s.map (h8 l))
theorem aDs {l:List Cl} (hl:l.length≤8):∀s:List Tp,hs8 l s≤8*s.length
 | []=>aU _
 | t::s=>by
  have:=aDs hl s
  have:=aO7 hl t
  unfold hs8 at*
  simp only[dH,bA,aF]
  omega
theorem aHF {l:List Cl} (hl:l.length≤8):∀{a b:List Tp},gS (l.length:Int) a→gS (l.length:Int) b→leS l a b→hs8 l b≤hs8 l a∧(a≠b→hs8 l b<hs8 l a)
 | [],[],_,_,_=>⟨aU _,fun h=>absurd rfl h⟩
 | x::a,y::b,ga,gb,h=>by
  obtain⟨i1,i2⟩:=aHF hl (fS ga).2 (fS gb).2 h.2
  have j:=aO6 hl (fS ga).1 (fS gb).1 h.1
  unfold hs8 at*
  simp only[dH,bA]
  rcases j with rfl | j
  ·exact⟨by omega,fun hne=>by have:=i2 fun e=>hne (by rw[e]);omega⟩
  ·exact⟨by omega,fun _=>by omega⟩
 | [],_::_,_,_,h=>h.elim
 | _::_,[],_,_,h=>h.elim
def pw (l:List Cl) (S h:Sh):Nat:=if S.1 then (if h.1 then hs8 l h.2.1 else 1+8*S.2.1.length) else 0
def pot (l:List Cl) (N:Nat) (S h:List Sh):Nat:=bA ((List.range N).map fun k=>pw l (sh S k) (sh h k))
theorem zY {α:Type} {f g:α→Nat}:∀(l:List α),(∀x∈l,f x≤g x)→bA (l.map f)≤bA (l.map g)
 | [],_=>aU _
 | x::l,h=>by
  have:=zY l fun y hy=>h y (cD _ hy)
  have:=h x (cY ..)
  simp only[dH,bA]
  omega
theorem aEO {α:Type} {f g:α→Nat}:∀(l:List α),(∀x∈l,f x≤g x)→(∃x∈l,f x<g x)→bA (l.map f)<bA (l.map g)
 | [],_,h=>by obtain⟨x,hx,_⟩:=h;cases hx
 | x::l,h,⟨y,hy,hlt⟩=>by
  have i:=zY l fun y hy=>h y (cD _ hy)
  have j:=h x (cY ..)
  simp only[dH,bA]
  rcases bW.1 hy with rfl | hy
  ·omega
  ·have:=aEO l (fun y hy=>h y (cD _ hy)) ⟨y,hy,hlt⟩
   omega
theorem aNf {m:Im} (hl:m.1.length≤8) {N:Nat} {S h h':List Sh} (hg:Gd m N h) (hg':Gd m N h') (hb:Bel m h h') (hbS:Bel m h' S) (hne:h'≠h):pot m.1 N S h'<pot m.1 N S h:=by
 have key:∀k,pw m.1 (sh S k) (sh h' k)≤pw m.1 (sh S k) (sh h k)∧(sh h' k≠sh h k→pw m.1 (sh S k) (sh h' k)<pw m.1 (sh S k) (sh h k)):=fun k=>by
  unfold pw
  cases h1:(sh h' k).1
  ·have h0:(sh h k).1=false:=by
    cases h0:(sh h k).1
    ·rfl
    ·have:=(hb k h0).1
     rw[h1] at this;cases this
   rw[h0]
   refine⟨aU _,fun hne=>absurd ?_ hne⟩
   have z:∀{x:List Sh},Gd m N x→(sh x k).1=false→sh x k=zSh:=fun {x} hx h=>by
    unfold sh at h⊢
    by_cases hk:k<x.length
    ·rw[getD_some (aW hk)] at h⊢
     exact hx.bare _ (eE hk) h
    ·exact gY (by omega)
   rw[z hg' h1,z hg h0]
  ·obtain⟨s1,s2⟩:=hbS k h1
   rw[s1]
   cases h0:(sh h k).1 <;> simp only[cK,kD,cH]
   ·have:=aDs hl (sh h' k).2.1
    rw[pZ s2] at this
    exact⟨by omega,fun _=>by omega⟩
   ·obtain⟨-,b2⟩:=hb k h0
    obtain⟨c1,c2⟩:=aHF hl (hg.at' k).2 (hg'.at' k).2 b2
    refine⟨c1,fun hne=>c2 fun e=>hne ?_⟩
    generalize sh h' k=x at h1 e⊢
    generalize sh h k=y at h0 e⊢
    obtain⟨x1,x2,⟨⟩⟩:=x
    obtain⟨y1,y2,⟨⟩⟩:=y
    simp only at h1 h0 e
    subst h1 h0 e
    rfl
 refine aEO _ (fun k _=>(key k).1) ?_
 have:∃k,k<N∧sh h' k≠sh h k:=Classical.byContradiction fun hno=>hne (by
  refine aEf (by rw[hg'.len,hg.len]) fun k k1 k2=>?_
  have e:sh h' k=sh h k:=Classical.byContradiction fun h=>hno ⟨k,by rw[←hg'.len];exact k1,h⟩
  unfold sh at e
  rwa [getD_some (aW k1),getD_some (aW k2)] at e)
 obtain⟨k,hk,hne⟩:=this
 exact⟨k,wH.2 hk,(key k).2 hne⟩
theorem zZ {α:Type} (f g:α→Nat):∀l:List α,bA (l.map fun x=>f x+g x)=bA (l.map f)+bA (l.map g)
 | []=>rfl
 | x::l=>by have:=zZ f g l;simp only[dH,bA];omega
theorem aB1 {c:Nat}:∀{N a:Nat},a<N→bA ((List.range N).map fun k=>if k=a then c else 0)=c:=by
 have app:∀(a b:List Nat),bA (a++b)=bA a+bA b:=fun a b=>by
  induction a with
  | nil=>simp[bA]
  | cons x a ih=>simp only[qT,bA,ih];omega
 have z:∀{N a:Nat},N≤a→bA ((List.range N).map fun k=>if k=a then c else 0)=0:=fun {N} {a} h=>by
  induction N with
  | zero=>rfl
  | succ n ih=>
   rw[List.range_succ,jF,app,ih (by omega)]
   simp only[dH,List.map_nil,bA]
   rw[if_neg (by omega)]
 intro N a h
 induction N with
 | zero=>cases h
 | succ n ih=>
  rw[List.range_succ,jF,app]
  simp only[dH,List.map_nil,bA]
  by_cases e:n=a
  ·rw[z (by omega),if_pos e];omega
  ·rw[ih (by omega),if_neg e];omega
theorem aEN {f:Nat→Nat} {c:Nat}:∀(N:Nat),(∀k,f k≤c)→bA ((List.range N).map f)≤c*N:=fun N h=>by
 have:=zY (f:=f) (g:=fun _=>c) (List.range N) fun k _=>h k
 have e:bA ((List.range N).map fun _=>c)=c*N:=by
  have:∀l:List Nat,bA (l.map fun _=>c)=c*l.length:=fun l=>by
   induction l with
   | nil=>rfl
   | cons x l ih=>simp only[dH,bA,ih,aF];rw[Nat.mul_succ];omega
  rw[this,List.length_range]
 omega
theorem aNe {m:Im} {f:Int} (hc:codeN m f≤64) {S h:List Sh} (hl:m.1.length≤8) (hS:PF m f S) (hd:DC S) (hb:Bel m h S):pot m.1 (codeN m f) S h<4000:=by
 let v:Nat→Nat:=fun k=>if (sh S k).1 then 1+8*(sh S k).2.1.length else 0
 have hv:∀k,pw m.1 (sh S k) (sh h k)≤v k:=fun k=>by
  show _≤(if (sh S k).1 then 1+8*(sh S k).2.1.length else 0)
  unfold pw
  split
  ·split
   ·rename_i h1
    have:=aDs hl (sh h k).2.1
    rw[pZ (hb k h1).2] at this
    omega
   ·omega
  ·omega
 have h1:pot m.1 (codeN m f) S h≤bA ((List.range (codeN m f)).map v):=zY _ fun k _=>hv k
 have h65:∀k,v k≤65:=fun k=>by
  show (if (sh S k).1 then 1+8*(sh S k).2.1.length else 0)≤65
  have:=(hS.gd.at' k).1
  split <;> omega
 by_cases h3:∃k,(sh S k).1=true∧2<(sh S k).2.1.length
 ·obtain⟨k,k1,k2⟩:=h3
  obtain⟨k0,a1,a2⟩:=hd k k1 0 (by omega)
  obtain⟨k1',b1,b2⟩:=hd k k1 1 (by omega)
  obtain⟨k2',c1,c2⟩:=hd k k1 2 (by omega)
  have inN:∀{j},(sh S j).1=true→j<codeN m f:=fun {j} h=>by
   by_cases hj:j<codeN m f
   ·exact hj
   ·unfold sh at h
    rw[gY (by rw[hS.gd.len];omega)] at h
    cases h
  have n01:k0≠k1':=fun e=>by subst e;omega
  have n02:k0≠k2':=fun e=>by subst e;omega
  have n12:k1'≠k2':=fun e=>by subst e;omega
  have key:=aEN (f:=fun k=>v k+((if k=k0 then 64 else 0)+((if k=k1' then 56 else 0)+(if k=k2' then 48 else 0)))) (c:=65) (codeN m f) fun k=>by
   have:=h65 k
   by_cases e0:k=k0
   ·have:v k=1:=by show (if (sh S k).1 then 1+8*(sh S k).2.1.length else 0)=1;subst e0;rw[a1,a2];rfl
    simp only[if_pos e0,if_neg (show k≠k1' by omega),if_neg (show k≠k2' by omega)]
    omega
   ·by_cases e1:k=k1'
    ·have:v k=9:=by show (if (sh S k).1 then 1+8*(sh S k).2.1.length else 0)=9;subst e1;rw[b1,b2];rfl
     simp only[if_pos e1,if_neg e0,if_neg (show k≠k2' by omega)]
     omega
    ·by_cases e2:k=k2'
     ·have:v k=17:=by show (if (sh S k).1 then 1+8*(sh S k).2.1.length else 0)=17;subst e2;rw[c1,c2];rfl
      simp only[if_pos e2,if_neg e0,if_neg e1]
      omega
     ·simp only[if_neg e2,if_neg e0,if_neg e1]
      omega
  rw[zZ v,zZ,zZ,aB1 (inN a1),aB1 (inN b1),aB1 (inN c1)] at key
  omega
 ·have:=aEN (f:=v) (c:=17) (codeN m f) fun k=>by
   show (if (sh S k).1 then 1+8*(sh S k).2.1.length else 0)≤17
   split
   ·rename_i hk
    have:¬2<(sh S k).2.1.length:=fun h=>h3 ⟨k,hk,h⟩
    omega
   ·omega
  omega
theorem aLY {m:Im} (hs:aM m=true) {f:Int} {h:List Sh} {r:Bool×List Sh} (hg:Gd m (codeN m f) h) (hst:(sh h 0).1=true∧(sh h 0).2.1=[]) (hr:iK m f (codeN m f) false h=some r) (h0:r.1=false):PF m f r.2:=by
 obtain⟨F,G⟩:=aBa hs _ _ _ _ hg hr
 obtain⟨-,e⟩:=F.still h0
 rw[e]
 refine⟨hg,hst,fun pc hp=>?_⟩
 by_cases hk:pc<codeN m f
 ·exact G h0 pc hk hp
 ·unfold sh at hp
  rw[gY (by rw[hg.len];omega)] at hp
  cases hp
theorem aFj {m:Im} (hs:aM m=true) {f:Int}:∀(n:Nat) (h:List Sh),Gd m (codeN m f) h→((sh h 0).1=true∧(sh h 0).2.1=[])→(gK m f n h=([],false,()))∨((gK m f n h).2.1=true∧PF m f (gK m f n h).1)
 | 0,_,_,_=> .inl rfl
 | n+1,h,hg,hst=>by
  unfold gK
  cases hr:iK m f (codeN m f) false h with
  | none=>exact .inl rfl
  | some r=>
   simp only
   cases h1:r.1 <;> simp only[aA,aB]
   ·exact .inr ⟨trivial,aLY hs hg hst hr h1⟩
   ·obtain⟨F,-⟩:=aBa hs _ _ _ _ hg hr
    exact aFj hs n r.2 F.gd (aJC F.bel hst)
theorem aFl {m:Im} (hs:aM m=true) {f:Int} {S:List Sh} (hl:m.1.length≤8) (hS:PF m f S):∀(n:Nat) (h:List Sh),Gd m (codeN m f) h→Bel m h S→pot m.1 (codeN m f) S h<n→(gK m f n h).2.1=true∧Bel m (gK m f n h).1 S
 | 0,_,_,_,h=>by omega
 | n+1,h,hg,hb,hp=>by
  obtain⟨r,hr,hrb⟩:=aH1 hs hS (codeN m f) false h hg hb
  obtain⟨F,-⟩:=aBa hs _ _ _ _ hg hr
  unfold gK
  rw[hr]
  simp only
  cases h1:r.1 <;> simp only[aA,aB]
  ·exact⟨trivial,hrb⟩
  ·refine aFl hs hl hS n r.2 F.gd hrb ?_
   have:=aNf hl hg F.gd F.bel hrb ((F.moved h1).resolve_left Bool.false_ne_true)
   omega
theorem aGT {m:Im} (hs:aM m=true) {f:Int} (hf:inM m f=true):∃r,wR m f=some r∧wK (codeN m f) r.1∧
  (r.2.2.1=0→gK m f 4000 (gI m f)=(r.1,true,()))∧(r.2.2.1≠0→gK m f 4000 (gI m f)=([],false,()))∧(r.2.2.1=0→PF m f r.1):=by
 obtain⟨r,hr,hg⟩:=aEx hs hf
 have hl:=(dI (dR hs).1).classes
 have hc:=fA hs hf
 have W:=aKj hs hf
 have hw:=hr
 unfold wR at hw
 rw[hs,hf] at hw
 simp only[aI,aA] at hw
 have R:=aFj hs (f:=f) 4000 (gI m f) aB5 W.start
 refine⟨r,hr,hg,fun h0=>?_,fun h0=>?_,fun h0=>(aBS hs hf _ _ _ _ W hw h0).1⟩
 ·obtain⟨P,D⟩:=aBS hs hf _ _ _ _ W hw h0
  obtain⟨e1,e2⟩:=aFl hs hl P 4000 (gI m f) aB5 (aAd hs hf P) (aNe hc.2 hl P D (aAd hs hf P))
  rcases R with R | ⟨_,R⟩
  ·rw[R] at e1;cases e1
  ·obtain⟨-,b⟩:=aBT hs hf R _ _ _ _ W (aAd hs hf R) hw
   have e:=aBB R.gd P.gd e2 b
   generalize gK m f 4000 (gI m f)=z at e1 e
   obtain⟨z1,z2,⟨⟩⟩:=z
   simp only at e1 e
   rw[e1,e]
 ·rcases R with R | ⟨_,R⟩
  ·exact R
  ·exact absurd (aBT hs hf R _ _ _ _ W (aAd hs hf R) hw).1 h0
theorem aJc {m:Im} (hs:aM m=true):∀(l:List Int) (out:List (List Sh)),(∀f∈l,inM m f=true)→∃r,qL m l out=some r∧
  (r.2.2.2.1=0→sU m l out=(r.1,-1,()))∧(r.2.2.2.1≠0→sU m l out=([],r.2.1,())∧inM m r.2.1=true)∧(r.2.2.2.1=0→r.1.length=out.length+l.length)
 | [],out,_=>⟨_,rfl,fun _=>rfl,fun h=>absurd rfl h,fun _=>rfl⟩
 | f::l,out,hl=>by
  have hf:=hl f (cY ..)
  obtain⟨r,hr,-,h1,h2,-⟩:=aGT hs hf
  unfold qL sU
  rw[hr]
  simp only[aJ]
  cases he:r.2.2.1 !=0 <;> simp only[aA,aB]
  ·rw[h1 (by simpa using he)]
   obtain⟨r',i1,i2,i3,i4⟩:=aJc hs l (out++[r.1]) fun x hx=>hl x (cD _ hx)
   exact⟨r',i1,i2,i3,fun h0=>by rw[i4 h0];simp;omega⟩
  ·have h0:r.2.2.1≠0:=by simpa using he
   rw[h2 h0]
   exact⟨_,rfl,fun h=>absurd h h0,fun _=>⟨rfl,hf⟩,fun h=>absurd h h0⟩
theorem aJ5 {m:Im} (hs:aM m=true):∃r,tG m=some r∧(r.2.2.2.1=0→jS m=some (r.1,-1,())∧r.1.length=m.2.2.2.1.length)∧(r.2.2.2.1≠0→jS m=some ([],r.2.1,())∧inM m r.2.1=true):=by
 obtain⟨r,h1,h2,h3,h4⟩:=aJc hs (ints m.2.2.2.1.length) [] fun f hf=>cA.2 (pW.1 hf)
 refine⟨r,?_,fun h0=>⟨?_,?_⟩,fun h0=>⟨?_,(h3 h0).2⟩⟩
 ·unfold tG;rw[hs];exact h1
 ·unfold jS;rw[hs,h2 h0];rfl
 ·rw[h4 h0,vH];simp
 ·unfold jS;rw[hs,(h3 h0).1];rfl
end Go.Pli

namespace Go.Pli
open Go Go.PM
theorem aOP {m:Im} (hs:aM m=true) {f:Int} (hf:inM m f=true) {pc:Int} (hp:sin pc (codeN m f:Int)=true):fF (aH m f pc)=true:=by
 obtain⟨h0,h1⟩:=cA.1 hf
 exact (mS ((dI (dR hs).1).mts _ (rX h0 h1))).2.2.2.1.2 _ (aDo hp)
theorem aEE {m:Im} (hs:aM m=true) {f:Int} (hf:inM m f=true) {pc:Int} (hp:sin pc (codeN m f:Int)=true):∀g∈cO m (aH m f pc),inM m g=true:=fun g hg=>
 aED (aEF (dR hs).2) hf (aC3.1 (nP.2 ⟨_,fJ.2 ⟨_,aDo hp,rfl⟩,hg⟩))
theorem aII {m:Im} (hs:aM m=true) {f:Int} (hf:inM m f=true) {pc:Int} (hp:sin pc (codeN m f:Int)=true):gL m (aH m f pc)=uG m (aH m f pc):=by
 have hg:=aOP hs hf hp
 have ht:=aEE hs hf hp
 have hfil:(cO m (aH m f pc)).filter (inM m)=cO m (aH m f pc):=List.filter_eq_self.2 ht
 unfold gL uG
 rw[hfil]
 generalize aH m f pc=i at hg
 cases h22:i.1==22 <;> simp only[aA,aB]
 cases h23:i.1==23 <;> simp only[aA,aB]
 have e:i.1=23:=by simpa using h23
 unfold fF at hg
 rw[e] at hg
 simp only[aC] at hg
 have h1:=hg.2.1
 unfold wN at h1
 rw[show eH 23=1 from rfl] at h1
 simp only[show decide ((0:Int)≥1)=false from rfl,aB,aC,aP] at h1
 congr 2
 omega
end Go.Pli

namespace Go.Pli
open Go Go.PM
theorem aKd {m:Im} {f pc:Int} {s:List Tp} (h:(aN m f pc s).2.2.1≠0):(aN m f pc s).2.1=[]:=by
 have C:∀{b:Bool} {x y:St4},(x.2.2.1≠0→x.2.1=[])→(y.2.2.1≠0→y.2.1=[])→((bif b then x else y).2.2.1≠0→(bif b then x else y).2.1=[]):=fun {b} {x} {y} h1 h2=>by cases b;exact h2;exact h1
 revert h
 unfold aN mG
 exact C (fun _=>rfl) (C (fun _=>rfl) (C (C (fun _=>rfl) (fun h=>absurd rfl h)) (C (fun _=>rfl) (C (fun h=>absurd rfl h) (fun _=>rfl)))))
end Go.Pli

namespace Go.Pli
open Go Go.PM
theorem aQW (s:List Mt):aI0 s=some (idL s,()):=by simp[aI0,idL]
theorem aO3 (m:Im) (r) (h:vI m=some r):∃k,aHC k m=some r:=by
 unfold vI at h
 cases hi:cB m <;> simp only[hi,aA,aB] at h
 ·cases h
 injection h with h
 subst h
 have hf:=dI hi
 have h8:=hf.classes
 have h12:=hf.methods
 have h16:=hf.ints
 have hst:=hf.statics
 have hent:=hf.entries
 simp only[gV,jB,aC,aP] at hst hent
 refine⟨100,?_⟩
 have k1:aE (aA5 m ((m.1.length:Int),(m.1,m.2.1,m.2.2.1,(),m.2.2.2.2.1,m.2.2.2.2.2),())) 100 ((0:Int),([]:List Mt),())=some (m,()):=by
  refine aG9 (xs:=m.2.2.2.1) (f:=id) (st:=fun k acc=>((k:Int),acc,())) (fun k x acc rec hk hlt hacc=>?_) (fun rec=>?_) 100 (by omega)
  ·rw[aA5]
   obtain⟨⟨x1,_⟩,⟨x2,_⟩,_,⟨x4,_⟩,_,_,⟨x7,_⟩⟩:=mS (hf.mts x (kB hk))
   have hroom:∀y:Mt,decide (acc.length+[y].length<rowMax)=true:=fun y=>aG (by simp[rowMax];omega)
   simp only[dlt hlt,dge,aI,aA,aT,getD_some hk,aBG (show x.1.length<1000000 by omega),aBG (show x.2.1.length<1000000 by omega),aRx (show x.2.2.2.1.length<1000000 by omega),
    aD6 (show x.2.2.2.2.2.2.1.length<1000000 by omega),aJ,hroom,bG hlt (show m.2.2.2.1.length≤lenMax by simp only[lenMax];omega)]
   rfl
  ·rw[aA5]
   simp only[bO,aB,List.map_id]
   rfl
 have k2:aE (aA4 m 100) 100 ((0:Int),(([]:List Cl),m.2.1,m.2.2.1,(),m.2.2.2.2.1,m.2.2.2.2.2),())=some (m,()):=by
  refine aG9 (xs:=m.1) (f:=id) (st:=fun k acc=>((k:Int),(acc,m.2.1,m.2.2.1,(),m.2.2.2.2.1,m.2.2.2.2.2),())) (fun k x acc rec hk hlt hacc=>?_) (fun rec=>?_) 100 (by omega)
  ·rw[aA4]
   obtain⟨_,⟨c3,_⟩,⟨c5,_⟩⟩:=aBo (hf.cls x (kB hk))
   have hroom:∀y:Cl,decide (acc.length+[y].length<rowMax)=true:=fun y=>aG (by simp[rowMax];omega)
   simp only[dlt hlt,dge,aI,aA,aT,getD_some hk,aBG (show x.2.1.length<1000000 by omega),aD6 (show x.2.2.1.length<1000000 by omega),aJ,hroom,
    bG hlt (show m.1.length≤lenMax by simp only[lenMax];omega)]
   rfl
  ·rw[aA4]
   simp only[bO,aB,List.map_id]
   exact k1
 unfold aHC
 rw[aBG (by omega),aRA (by omega),aD6 (by omega)]
 exact k2
theorem aQA (m:Im) (f:Int) (r) (h:cof m f=some r):∃k,aIV k m f=some r:=by
 unfold cof at h
 cases hi:cB m <;> simp only[hi,aA,aB] at h
 ·cases h
 injection h with h
 subst h
 refine⟨(aD m f).2.2.2.1.length+1,?_⟩
 unfold aIV ofB
 by_cases h0:f<0
 ·have:inM m f=false:=by cases hh:inM m f;rfl;have:=cA.1 hh;omega
  rw[this,aG h0];rfl
 ·by_cases h1:f≥(m.2.2.2.1.length:Int)
  ·have:inM m f=false:=by cases hh:inM m f;rfl;have:=cA.1 hh;omega
   rw[this,bH h0,aG h1];rfl
  ·have hf:inM m f=true:=cA.2 ⟨by omega,by omega⟩
   have hd:m.2.2.2.1.getD f.toNat zMt=aD m f:=rfl
   have hr:(decide (0≤f)&&decide (f<(m.2.2.2.1.length:Int)))=true:=by simp;omega
   have hx:=(mS ((dI hi).mts _ (rX (show 0≤f by omega) (show f<(m.2.2.2.1.length:Int) by omega)))).2.2.2.1.1
   rw[hf,bH h0,bH h1,hr]
   simp only[aA,aB]
   have:=uY (L:=aBn m f) (n:=(aD m f).2.2.2.1.length) (B:=8) (st:=fun k out=>(out,(k:Int),())) (f:=fun k=>cO m ((aD m f).2.2.2.1.getD k cR)) (fin:=fun out=>some (dP (eZ out),())) (fun k _=>wU hi _)
    (fun k out rec hk ho=>by
     have ht:∀x,oT m x=some (cO m x,()):=fun x=>by unfold oT;rw[hi];rfl
     have htl:=wU hi ((aD m f).2.2.2.1.getD k cR)
     rw[aBn]
     simp only[hd,dlt hk,dge,aI,aA,aT,ht,aJ,jQ (show out.length+(cO m ((aD m f).2.2.2.1.getD k cR)).length<549755813888 by omega),bG hk (by simp only[lenMax];omega)])
    (fun out rec _=>by rw[aBn];simp only[hd,bO,aB];rfl) ((aD m f).2.2.2.1.length+1) (by omega)
   rw[aFE] at this
   exact this
theorem aG2 {l:List Int} (hl:l.length<1000000):∀(q pre:List Int) (a:Int) (F:Nat),l=pre++q→q.length<F→aE (aAU l) F (a,(pre.length:Int),())=some (q.foldl max a,())
 | [],pre,a,F,hx,hF=>by
  obtain⟨F,rfl⟩:∃n,F=n+1:=⟨F - 1,by simp at hF;omega⟩
  rw[bS] at hx
  rw[aY,aAU]
  simp only[hx,bO,aB]
  rfl
 | x::q,pre,a,F,hx,hF=>by
  obtain⟨F,rfl⟩:∃n,F=n+1:=⟨F - 1,by simp at hF;omega⟩
  have hk:pre.length<l.length:=by rw[hx,aV];simp
  have hget:l.getD pre.length 0=x:=by rw[hx];simp
  have ih:=aG2 hl q (pre++[x]) (max a x) F (by rw[hx,bX];rfl) (by simp only[aF] at hF;omega)
  simp only[aV,aF,bI,bK] at ih
  rw[aY,aAU]
  simp only[dlt hk,dge,aI,aA,aT,hget,bG hk (show _≤lenMax by simp only[lenMax];omega)]
  exact ih
theorem aOc (l:List Int) (r) (h:uV l=some r):∃k,aG3 k l=some r:=by
 unfold uV at h
 cases hb:okL l&&decide (0<l.length) <;> simp only[hb,aA,aB] at h
 ·cases h
 injection h with h
 subst h
 simp only[aC,aP] at hb
 have hl:=hU hb.1
 refine⟨1000001,?_⟩
 match l,hb.2 with
 | x::q,_=>
  unfold aG3
  rw[bH (by simp only[aF];omega),aB,aG (by simp only[aF];omega),aA]
  have:=aG2 hl q [x] x 1000001 rfl (by simp only[aF] at hl;omega)
  simpa[yJ] using this
theorem aLu (m:Im):aE7 m=some (tM m,()):=by
 unfold aE7 tM
 cases decide ((m.2.2.2.1.length:Int)≤12) <;> simp only[aA,aB,eG,lD]
 cases decide ((m.1.length:Int)≤8) <;> simp only[aA,aB,eG,lD]
 cases decide ((m.2.2.1.length:Int)≤16) <;> simp only[aA,aB,eG,lD]
theorem aM4 (p q:Iq) (r) (h:uF p q=some r):aF2 p q=some r:=by
 unfold uF at h
 cases hb:okL p.1&&okL q.1 <;> simp only[hb,aA,aB] at h
 ·cases h
 injection h with h
 subst h
 unfold aF2 aCs
 cases p.2.1==q.2.1 <;> rfl
theorem aLN (n a b c:Int) (r) (h:pO n a b c=some r):aFc n a b c=some r:=by
 unfold pO at h
 cases hh:decide (0≤n)&&(Nat.blt n.toNat 1000000&&(decide (a<n)&&decide (b<n))) <;> simp only[hh,aA,aB] at h
 ·cases h
 injection h with h
 subst h
 simp only[aC,aP,eS] at hh
 obtain⟨n0,n1,an,bn⟩:=hh
 have e0:decide (n≤n)=true:=aG (by omega)
 have e1:decide (n<(rowMax:Int))=true:=aG (by simp only[rowMax];omega)
 have en:((n.toNat:Nat):Int)=n:=by omega
 unfold aFc cU sW
 simp only[n0,e0,e1,aK,aI,aA,dB,pE,en,an,bn,zN]
 by_cases ha:a≥0 <;> by_cases hb:b≥0
 ·have ha':0≤a:=ha
  have hb':0≤b:=hb
  simp only[ha,hb,aK,aA]
  rfl
 ·have ha':0≤a:=ha
  simp only[ha,hb,aK,bE,aA,aB]
  rfl
 ·have hb':0≤b:=hb
  simp only[ha,hb,aK,bE,aA,aB]
 ·simp only[ha,hb,bE,aB]
theorem aAi (c:Int) (pc:Nat):∀(q:List Int) (t:Bool) (phi:List Int),(mM c pc q t phi).2.length=phi.length
 | [],_,_=>rfl
 | to::q,t,phi=>by
  unfold mM
  cases decide (IntKind.i64.wrap (c+phi.getD to.toNat 0)>phi.getD pc 0) <;> simp only[aA,aB]
  ·exact aAi c pc q t phi
  ·rw[aAi c pc q];simp
theorem aMl (m:Im) (l:List (List Sh)) (f:Int) (pc:Nat) (t:Bool) (phi:List Int):(mL m l f pc t phi).2.length=phi.length:=by
 unfold mL
 cases !(bT l f (pc:Int)).1 <;> simp only[aA,aB]
 exact aAi ..
theorem aFB (m:Im) (l:List (List Sh)) (f:Int):∀(q:List Nat) (t:Bool) (phi:List Int),(iG m l f q t phi).2.length=phi.length
 | [],_,_=>rfl
 | pc::q,t,phi=>by rw[iG,aFB m l f q,aMl]
theorem aKf {m:Im} (hs:aM m=true) {f pc:Int} {s:List Tp}:∀to∈(aN m f pc s).2.1,0≤to∧to<(codeN m f:Int):=by
 intro to ht
 by_cases h:(aN m f pc s).2.2.1=0
 ·exact (mF hs h).2.2.2 to ht
 ·rw[aKd h] at ht;cases ht
theorem aFA {m:Im} {f:Int} {pc:Nat} (hc:codeN m f<1000000) (hpc:pc<codeN m f) {c:Int} (hcost:jT m (aH m f (pc:Int))=some (c,())) {r6:St4} (hrl:r6.2.1.length<1000000) (hto:∀to∈r6.2.1,0≤to∧to<(codeN m f:Int)) {t0:Bool} {phi0:List Int} {rec4}:
  ∀(q pre:List Int) (t:Bool) (phi:List Int) (F:Nat),r6.2.1=pre++q→q.length<F→phi.length=codeN m f→
   aE (aAD m f (t0,(pc:Int),phi0,()) rec4 r6) F (t,(pre.length:Int),phi,())=rec4 ((mM c pc q t phi).1,((pc+1:Nat):Int),(mM c pc q t phi).2,())
 | [],pre,t,phi,F,hx,hF,hphi=>by
  obtain⟨F,rfl⟩:∃n,F=n+1:=⟨F - 1,by simp at hF;omega⟩
  rw[bS] at hx
  rw[aY,aAD]
  simp only[hx,bO,aB,bG hpc (show _≤lenMax by simp only[lenMax];omega),mM]
 | to::q,pre,t,phi,F,hx,hF,hphi=>by
  obtain⟨F,rfl⟩:∃n,F=n+1:=⟨F - 1,by simp at hF;omega⟩
  have hk:pre.length<r6.2.1.length:=by rw[hx,aV];simp
  have hget:r6.2.1.getD pre.length 0=to:=by rw[hx];simp
  obtain⟨t1,t2⟩:=hto to (by rw[hx];simp)
  have ih:=fun t' phi' hphi'=>aFA hc hpc hcost hrl hto (t0:=t0) (phi0:=phi0) (rec4:=rec4) q (pre++[to]) t' phi' F (by rw[hx,bX];rfl) (by simp only[aF] at hF;omega) hphi'
  simp only[aV,aF,bI,bK] at ih
  have fold:∀g:Int,m.2.2.2.1.getD g.toNat zMt=aD m g:=fun _=>rfl
  have fold2:(aD m f).2.2.2.1.getD pc cR=aH m f (pc:Int):=rfl
  have d1:decide (to<(phi.length:Int))=true:=aG (by rw[hphi];exact t2)
  have d2:decide ((pc:Int)<(phi.length:Int))=true:=by rw[hphi];exact dlt hpc
  rw[aY,aAD]
  simp only[dlt hk,dge,aI,aA,aT,hget,fold,fold2,hcost,aJ,aG t1,d1,d2,bG hk (show _≤lenMax by simp only[lenMax];omega)]
  rw[mM]
  cases decide (IntKind.i64.wrap (c+phi.getD to.toNat 0)>phi.getD pc 0) <;> simp only[aA,aB]
  ·exact ih t phi hphi
  ·exact ih true _ (by rw[dB];exact hphi)
theorem aFh {m:Im} {l:List (List Sh)} {f:Int} (hs:aM m=true) (hl:gA l=true) (hf:inM m f=true) {fuel:Nat} (hfu:1000<fuel) {s1:Int×List Int×Unit} {rec2}:
  ∀(k pc:Nat) (t:Bool) (phi:List Int) (F:Nat),pc+k=codeN m f→k<F→phi.length=codeN m f→
   aE (yB m l f fuel s1 rec2) F (t,(pc:Int),phi,())=bif !(iG m l f (List.range' pc k) t phi).1 then some ((iG m l f (List.range' pc k) t phi).2,decide (yJ ((iG m l f (List.range' pc k) t phi).2++[0])≤4096),())
    else rec2 (IntKind.i64.wrap (s1.1+1),(iG m l f (List.range' pc k) t phi).2,())
 | 0,pc,t,phi,F,hx,hF,hphi=>by
  obtain⟨F,rfl⟩:∃n,F=n+1:=⟨F - 1,by omega⟩
  have hc:=fA hs hf
  have fold:∀g:Int,m.2.2.2.1.getD g.toNat zMt=aD m g:=fun _=>rfl
  have fold3:(aD m f).2.2.2.1.length=codeN m f:=rfl
  have hpc:pc=codeN m f:=by omega
  have hroom:decide (phi.length+([0]:List Int).length<rowMax)=true:=jQ (by simp;omega)
  have hmax:uV (phi++[0])=some (yJ (phi++[0]),()):=by unfold uV;rw[fB (by simp;omega)];simp
  rw[aY,yB]
  simp only[fold,fold3,hpc,bO,aB,List.range'_zero,iG,hroom,aI,aA,hmax,aJ]
 | k+1,pc,t,phi,F,hx,hF,hphi=>by
  obtain⟨F,rfl⟩:∃n,F=n+1:=⟨F - 1,by omega⟩
  have hc:=fA hs hf
  obtain⟨f0,f1⟩:=cA.1 hf
  have hpc:pc<codeN m f:=by omega
  have ih:=fun t' phi' hphi'=>aFh hs hl hf hfu (s1:=s1) (rec2:=rec2) k (pc+1) t' phi' F (by omega) (by omega) hphi'
  have fold:∀g:Int,m.2.2.2.1.getD g.toNat zMt=aD m g:=fun _=>rfl
  have fold3:(aD m f).2.2.2.1.length=codeN m f:=rfl
  have hp:oB l f (pc:Int)=some (bT l f (pc:Int),()):=by unfold oB;simp only[f0,dge,aK,aI,aA]
  have hst:oP m f (pc:Int) (bT l f (pc:Int)).2.1=some (aN m f (pc:Int) (bT l f (pc:Int)).2.1):=by unfold oP;rw[hs,aCa hl];rfl
  have hcost:jT m (aH m f (pc:Int))=some (gL m (aH m f (pc:Int)),()):=by unfold jT;rw[(dR hs).1];rfl
  have h2:(aN m f (pc:Int) (bT l f (pc:Int)).2.1).2.1.length≤2:=tJ ..
  have d1:decide ((pc:Int)<(codeN m f:Int))=true:=dlt hpc
  rw[aY,yB]
  simp only[fold,fold3,d1,dge,aI,aA,hp,aJ,List.range'_succ]
  have hrel:∀r,iG m l f (pc::r) t phi=iG m l f r (mL m l f pc t phi).1 (mL m l f pc t phi).2:=fun _=>rfl
  rw[hrel]
  cases h1:(bT l f (pc:Int)).1
  case false=>
   have hrp:mL m l f pc t phi=(t,phi):=by unfold mL;rw[h1];rfl
   rw[bY,aA,bG hpc (show _≤lenMax by simp only[lenMax];omega),hrp]
   exact ih t phi hphi
  have hrp:mL m l f pc t phi=mM (gL m (aH m f (pc:Int))) pc (aN m f (pc:Int) (bT l f (pc:Int)).2.1).2.1 t phi:=by unfold mL;rw[h1];rfl
  rw[aZ,aB,hst,aJ]
  have:=aFA (m:=m) (f:=f) (pc:=pc) (by omega) hpc hcost (r6:=aN m f (pc:Int) (bT l f (pc:Int)).2.1) (Nat.lt_of_le_of_lt h2 (by omega)) (aKf hs) (t0:=t) (phi0:=phi) (rec4:=aE (yB m l f fuel s1 rec2) F) _ [] t phi fuel rfl (Nat.lt_of_le_of_lt h2 (by omega)) hphi
  simp only[bI,Int.cast_ofNat_Int] at this
  refine this.trans ?_
  rw[hrp]
  exact ih _ _ (by rw[aAi];exact hphi)
theorem aNk (m:Im) (l:List (List Sh)) (f:Int) (r) (h:rQ m l f=some r):∃k,aGg k m l f=some r:=by
 unfold rQ at h
 cases hb:aM m&&(gA l&&inM m f) <;> simp only[hb,aA,aB] at h
 ·cases h
 injection h with h
 subst h
 simp only[aC] at hb
 obtain⟨hs,hl,hf⟩:=hb
 have hc:=fA hs hf
 obtain⟨f0,f1⟩:=cA.1 hf
 have fold:∀g:Int,m.2.2.2.1.getD g.toNat zMt=aD m g:=fun _=>rfl
 have fold3:(aD m f).2.2.2.1.length=codeN m f:=rfl
 have rounds:∀(k i:Nat) (phi:List Int) (F:Nat),i+k=codeN m f+1→k<F→phi.length=codeN m f→aE (yA m l f 1001) F ((i:Int),phi,())=some (yQ m l f k phi):=by
  intro k
  induction k with
  | zero=>
   intro i phi F hi hF hphi
   obtain⟨F,rfl⟩:∃n,F=n+1:=⟨F - 1,by omega⟩
   rw[aY,yA]
   have hw:IntKind.i64.wrap ((codeN m f:Int)+1)=((codeN m f+1:Nat):Int):=by rw[cT] <;> omega
   have hi':i=codeN m f+1:=by omega
   simp only[fold,fold3,hw,hi',bO,aB,yQ]
  | succ k ih=>
   intro i phi F hi hF hphi
   obtain⟨F,rfl⟩:∃n,F=n+1:=⟨F - 1,by omega⟩
   have hw:IntKind.i64.wrap ((codeN m f:Int)+1)=((codeN m f+1:Nat):Int):=by rw[cT] <;> omega
   have hlt:i<codeN m f+1:=by omega
   rw[aY,yA]
   simp only[fold,fold3,hw,dlt hlt,aA]
   have:=aFh hs hl hf (fuel:=1001) (by omega) (s1:=((i:Int),phi,())) (rec2:=aE (yA m l f 1001) F) (codeN m f) 0 false phi 1001 (by omega) (by omega) hphi
   simp only[Int.cast_ofNat_Int] at this
   refine this.trans ?_
   rw[yQ,List.range_eq_range']
   have hw2:=bG hlt (show codeN m f+1≤lenMax by simp only[lenMax];omega)
   cases (iG m l f (List.range' 0 (codeN m f)) false phi).1 <;> simp only[aZ,bY,aA,aB]
   rw[hw2]
   exact ih (i+1) _ F (by omega) (by omega) (by rw[aFB];exact hphi)
 refine⟨1001,?_⟩
 unfold aGg aHo
 have e0:decide ((0:Int)≤(codeN m f:Int))=true:=aG (by omega)
 have e1:decide ((codeN m f:Int)<(rowMax:Int))=true:=aG (by simp only[rowMax];omega)
 have e2:decide ((codeN m f:Int)≤(codeN m f:Int))=true:=aG (by omega)
 simp only[fold,fold3,aG f0,aG f1,aI,aA,e0,e1,e2,aT]
 exact rounds (codeN m f+1) 0 _ 1001 (by omega) (by omega) (by simp)
end Go.Pli

namespace Go.Pli
open Go Go.PM
def strip (x:Mt):List Tp×List Tp×Tp×List Ins×Int:=(x.1,x.2.1,x.2.2.1,x.2.2.2.1,x.2.2.2.2.1)
def Like (m:Im) (ms:List Mt):Prop:=ms.map strip=m.2.2.2.1.map strip
theorem iF {x y:Mt} (h:strip x=strip y):x.1=y.1∧x.2.1=y.2.1∧x.2.2.1=y.2.2.1∧x.2.2.2.1=y.2.2.2.1∧x.2.2.2.2.1=y.2.2.2.2.1:=by
 unfold strip at h
 simp only[kX] at h
 exact h
theorem Like.len {m:Im} {ms:List Mt} (h:Like m ms):ms.length=m.2.2.2.1.length:=by
 have:=dF List.length h
 simpa using this
theorem Like.refl (m:Im):Like m m.2.2.2.1:=rfl
theorem aDe (g:Mt→List Tp×List Tp×Tp×List Ins×Int):∀(l:List Mt) (i:Nat),g (l.getD i zMt)=(l.map g).getD i (g zMt)
 | [],i=>by simp
 | x::l,0=>by simp
 | x::l,i+1=>by rw[List.getD_cons_succ,dH,List.getD_cons_succ];exact aDe g l i
theorem Like.at {m:Im} {ms:List Mt} (h:Like m ms) (i:Nat):strip (ms.getD i zMt)=strip (m.2.2.2.1.getD i zMt):=by
 rw[aDe strip,aDe strip,h]
theorem Like.mt {m:Im} {ms:List Mt} (h:Like m ms) (f:Int):strip (aD (dM m ms) f)=strip (aD m f):=h.at f.toNat
theorem Like.mem {m:Im} {ms:List Mt} (h:Like m ms) {x:Mt} (hx:x∈ms):∃y∈m.2.2.2.1,strip x=strip y:=by
 have:strip x∈m.2.2.2.1.map strip:=by rw[←h];exact List.mem_map_of_mem hx
 obtain⟨y,h1,h2⟩:=fJ.1 this
 exact⟨y,h1,h2.symm⟩
theorem Like.set {m:Im} {ms:List Mt} (h:Like m ms) {i:Nat} {x:Mt} (hx:strip x=strip (ms.getD i zMt)):Like m (ms.set i x):=by
 unfold Like
 rw[←h]
 refine List.ext_getElem? fun j=>?_
 rw[kC,kC,iO]
 by_cases hij:i=j
 ·subst hij
  by_cases hi:i<ms.length
  ·simp[hi,hx]
  ·rw[wJ (by omega)];simp[hi]
 ·simp[hij]
section
variable {m:Im} {ms:List Mt}
theorem Like.inM (h:Like m ms) (f:Int):inM (dM m ms) f=Pli.inM m f:=by
 unfold Pli.inM nM dM
 rw[h.len]
theorem Like.code (h:Like m ms) (f:Int):(aD (dM m ms) f).2.2.2.1=(aD m f).2.2.2.1:=(iF (h.mt f)).2.2.2.1
theorem Like.codeN (h:Like m ms) (f:Int):codeN (dM m ms) f=Pli.codeN m f:=by unfold Pli.codeN;rw[h.code]
theorem Like.ins (h:Like m ms) (f pc:Int):aH (dM m ms) f pc=aH m f pc:=by unfold aH;rw[h.code]
theorem Like.of (h:Like m ms) (f:Int):ofB (dM m ms) f=ofB m f:=by
 unfold ofB oY
 rw[h.inM,h.code]
 rfl
theorem aOq {x y:Mt} (h:strip x=strip y) (n:Int):iZ x n=iZ y n:=by
 unfold iZ
 rw[(iF h).1,(iF h).2.1]
theorem aJm {x y:Mt} (h:strip x=strip y) (t:List Tp):iB x t=iB y t:=by
 unfold iB
 rw[(iF h).1,(iF h).2.2.1]
theorem aPZ (h:Like m ms) {x y:Mt} (hxy:strip x=strip y) (i:Ins):eJ (dM m ms) x i=eJ m y i:=by
 unfold eJ
 rw[aOq hxy,(iF hxy).2.2.1,aJm (h.mt i.2.1),aJm (h.mt (dL (dM m ms) i.2.1 i.2.2.1).1)]
 rfl
theorem Like.step (h:Like m ms) (f pc:Int) (s:List Tp):aN (dM m ms) f pc s=aN m f pc s:=by
 unfold aN
 rw[h.inM,h.codeN,h.ins,aPZ h (h.mt f)]
 rfl
theorem aRF {a a' b b':Mt} (h1:strip a=strip a') (h2:strip b=strip b'):qP a b=qP a' b':=by
 unfold qP
 rw[(iF h1).1,(iF h1).2.2.1,(iF h2).1,(iF h2).2.2.1]
theorem Like.slot (h:Like m ms) (c:Int):nV (dM m ms) c=nV m c:=by
 funext n f
 have e1:vN (dM m ms) c f=vN m c f:=by
  unfold vN
  rw[(iF (h.mt f)).1]
  rfl
 have e2:qP (aD (dM m ms) f) (aD (dM m ms) ((eO (dM m ms) c).getD n 0))=qP (aD m f) (aD m ((eO m c).getD n 0)):=aRF (h.mt f) (h.mt _)
 have e3:sin f ((dM m ms).2.2.2.1.length:Int)=sin f (m.2.2.2.1.length:Int):=by rw[show (dM m ms).2.2.2.1.length=m.2.2.2.1.length from h.len]
 unfold nV
 rw[e1,e2,e3]
 rfl
theorem Like.classes (h:Like m ms):kA (dM m ms)=kA m:=by
 have:∀c,iA (dM m ms) c=iA m c:=fun c=>by
  unfold iA
  rw[h.slot]
  rfl
 unfold kA
 simp only[this]
 rfl
theorem Like.instr (h:Like m ms) {x y:Mt} (hxy:strip x=strip y) (i:Ins):bZ (dM m ms) x i=bZ m y i:=by
 unfold bZ
 obtain⟨e1,e2,e3,e4,-⟩:=iF hxy
 have e5:(dM m ms).2.2.2.1.length=m.2.2.2.1.length:=h.len
 rw[e1,e2,e4,e5]
 rfl
def aEc (x:Mt):Prop:=(0≤x.2.2.2.2.2.1∧x.2.2.2.2.2.1≤4096)∧x.2.2.2.2.2.2.1.length=x.2.2.2.1.length∧∀n∈x.2.2.2.2.2.2.1,0≤n∧n≤4096
theorem Like.sane (h:Like m ms) (hs:aM m=true) (hn:∀x∈ms,aEc x):aM (dM m ms)=true:=by
 obtain⟨hi,hb⟩:=dR hs
 have hf:=dI hi
 have h1:cB (dM m ms)=true:=by
  unfold cB at hi⊢
  simp only[aC] at hi⊢
  obtain⟨a1,a2,a3,a4,a5,a6,a7⟩:=hi
  refine⟨a1,a2,a3,?_,a5,?_,a7⟩
  ·rw[show (dM m ms).2.2.2.1.length=m.2.2.2.1.length from h.len];exact a4
  ·rw[bL] at a6⊢
   intro x hx
   obtain⟨y,hy,hxy⟩:=h.mem hx
   obtain⟨e1,e2,e3,e4,e5⟩:=iF hxy
   have hy:=a6 y hy
   have hc:=(mS hy).2.2.2.1.1
   obtain⟨n1,n2,n3⟩:=hn x hx
   unfold kP at hy⊢
   simp only[aC] at hy⊢
   rw[e1,e2,e3,e4,e5]
   refine⟨hy.1,hy.2.1,hy.2.2.1,hy.2.2.2.1,hy.2.2.2.2.1,hy.2.2.2.2.2.1,?_,?_⟩
   ·simp only[fE,aC,aP];exact n1
   ·simp only[jB,fE,aC,aP,bL]
    exact⟨by rw[n2,e4];omega,n3⟩
 have h2:jO (dM m ms)=true:=by
  unfold jO at hb⊢
  simp only[aC] at hb⊢
  obtain⟨b1,b2,b3,b4⟩:=hb
  refine⟨b1,by rw[h.classes];exact b2,?_,?_⟩
  ·rw[bL] at b3⊢
   intro x hx
   obtain⟨y,hy,hxy⟩:=h.mem hx
   obtain⟨e1,e2,e3,e4,e5⟩:=iF hxy
   obtain⟨n1,n2,n3⟩:=hn x hx
   have hy:=b3 y hy
   unfold eU at hy⊢
   simp only[aC] at hy⊢
   rw[funext (h.instr hxy),n2,e1,e2,e3,e4]
   exact⟨hy.1,hy.2.1,hy.2.2.1,hy.2.2.2.1,aG rfl,hy.2.2.2.2.2⟩
  ·rw[bL] at b4⊢
   intro f hfm
   have:=b4 f hfm
   unfold qF at this⊢
   obtain⟨e1,e2,e3,e4,e5⟩:=iF (h.mt f)
   rw[e1,e3,show (dM m ms).2.2.2.1.length=m.2.2.2.1.length from h.len]
   exact this
 unfold aM
 rw[h1,h2];rfl
end
end Go.Pli

namespace Go.Pli
open Go Go.PM
def aBd (rec:List Mt→Option (Im×Bool×Unit)):Option (List Mt)→Option (Im×Bool×Unit)
 | none=>some (zIm,false,())
 | some ms=>rec ms
theorem aCA (ms:List Mt) (f:Int):(mQ ms f).length=ms.length:=by
 unfold mQ
 cases decide (((ms.getD f.toNat zMt).2.2.2.2.2.2.1.length:Int)>0) <;> simp only[aA,aB,dB]
theorem aId (ed:List (List Int)) (part:List Int):∀(q:List Int) (ms ms2:List Mt),qC ed part q ms=some ms2→ms2.length=ms.length
 | [],ms,ms2,h=>by injection h with h;rw[h]
 | f::q,ms,ms2,h=>by
  rw[qC] at h
  cases hc:decide (((mQ ms f).getD f.toNat zMt).2.2.2.2.2.1>0)&&sN ed part <;> simp only[hc,aA,aB] at h
  ·rw[aId ed part q _ _ h,aCA]
  ·cases h
theorem aIf (m:Im) (l:List (List Sh)):∀(q:List Int) (ms ms2:List Mt),sH m l q ms=some (some ms2)→ms2.length=ms.length
 | [],ms,ms2,h=>by injection h with h;injection h with h;rw[h]
 | f::q,ms,ms2,h=>by
  rw[sH] at h
  cases hp:rQ (dM m ms) l f with
  | none=>rw[hp] at h;cases h
  | some r=>
   rw[hp] at h
   simp only[aJ] at h
   cases hr:r.2.1 <;> simp only[hr,aZ,bY,aA,aB] at h
   ·injection h with h;cases h
   ·rw[aIf m l q _ _ h,dB]
theorem aIc {ed:List (List Int)} {s2:List (List Int)×Int×List Mt×Unit} (hed:s2.1=ed) {r5:List (List Int)×Unit} {s6:Int×List Mt×Unit} {part:List Int} (hp:r5.1.getD s6.1.toNat []=part) (hpl:part.length<1000000) {N:Nat} (hin:∀f∈part,0≤f∧f<(N:Int)) {rec7}:
  ∀(q pre:List Int) (ms:List Mt) (F:Nat),part=pre++q→q.length<F→ms.length=N→aE (uK s2 r5 s6 rec7) F ((pre.length:Int),ms,())=aBd (fun ms2=>rec7 (IntKind.i64.wrap (s6.1+1),ms2,())) (qC ed part q ms)
 | [],pre,ms,F,hx,hF,_=>by
  obtain⟨F,rfl⟩:∃n,F=n+1:=⟨F - 1,by simp at hF;omega⟩
  rw[bS] at hx
  rw[aY,uK]
  simp only[hp,←hx,bO,aB]
  rfl
 | f::q,pre,ms,F,hx,hF,hms=>by
  obtain⟨F,rfl⟩:∃n,F=n+1:=⟨F - 1,by simp at hF;omega⟩
  have hk:pre.length<part.length:=by rw[hx,aV];simp
  have hget:part.getD pre.length 0=f:=by rw[hx];simp
  obtain⟨f0,f1⟩:=hin f (by rw[hx];simp)
  have ih:=aIc hed hp hpl hin (rec7:=rec7) q (pre++[f]) (mQ ms f) F (by rw[hx,bX];rfl) (by simp only[aF] at hF;omega) (by rw[aCA];exact hms)
  simp only[aV,aF,bI,bK] at ih
  have hcy:sO s2.1 part=some (sN ed part,()):=by unfold sO;rw[fB hpl,hed];rfl
  have d1:decide (f<(ms.length:Int))=true:=aG (by rw[hms];exact f1)
  have d2:decide (f<((mQ ms f).length:Int))=true:=aG (by rw[aCA,hms];exact f1)
  have hw:=bG hk (show part.length≤lenMax by simp only[lenMax];omega)
  rw[aY,uK]
  simp only[hp,dlt hk,dge,aI,aA,aT,hget,aG f0,d1]
  have hpot:(bif decide (((ms.getD f.toNat zMt).2.2.2.2.2.2.1.length:Int)>0) then
    bif decide ((0:Int)<((ms.getD f.toNat zMt).2.2.2.2.2.2.1.length:Int)) then
     some (.inl (ms.set f.toNat (mI (ms.getD f.toNat zMt) ((ms.getD f.toNat zMt).2.2.2.2.2.2.1.getD 0 0)),()))
    else none
   else some (.inl (ms,())):Option ((List Mt×Unit)⊕(Im×Bool×Unit)))=some (.inl (mQ ms f,())):=by
   unfold mQ
   by_cases h:((ms.getD f.toNat zMt).2.2.2.2.2.2.1.length:Int)>0
   ·rw[aG h];rfl
   ·rw[bH h];rfl
  have hpot':=dF (fun o=>o.bind fun q=>match q with
   | .inr r14=>some r14
   | .inl s13=>bif decide (0≤f)&&decide (f<(s13.1.length:Int)) then
     bif decide ((s13.1.getD f.toNat zMt).2.2.2.2.2.1>0) then
      (sO s2.1 part).bind fun r15=>bif r15.1 then some (zIm,false,()) else aE (uK s2 r5 s6 rec7) F (IntKind.i64.wrap ((pre.length:Int)+1),s13.1,())
     else aE (uK s2 r5 s6 rec7) F (IntKind.i64.wrap ((pre.length:Int)+1),s13.1,())
    else none) hpot
  have e1:decide (0≤f)=true:=aG f0
  simp only[e1,eG] at hpot'
  refine Eq.trans ?_ (hpot'.trans ?_)
  ·rfl
  ·simp only[aJ,d2,aA,hcy,hw,ih]
   rw[qC]
   cases decide (((mQ ms f).getD f.toNat zMt).2.2.2.2.2.1>0) <;> cases sN ed part <;> rfl
theorem aIe {m:Im} {l:List (List Sh)} {fuel:Nat} (hfu:1000000<fuel) {ed:List (List Int)} {s2:List (List Int)×Int×List Mt×Unit} (hed:s2.1=ed) {r5:List (List Int)×Unit} {s6:Int×List Mt×Unit} {part:List Int} (hp:r5.1.getD s6.1.toNat []=part) (hpl:part.length<1000000) {N:Nat} (hin:∀f∈part,0≤f∧f<(N:Int)) {rec7}:
  ∀(q pre:List Int) (ms:List Mt) (F:Nat) (r),part=pre++q→q.length<F→ms.length=N→
   ((sH m l q ms).bind fun o=>aBd (fun ms1=>aBd (fun ms2=>rec7 (IntKind.i64.wrap (s6.1+1),ms2,())) (qC ed part part ms1)) o)=some r→aE (aAH l fuel (m,()) s2 r5 s6 rec7) F ((pre.length:Int),ms,())=some r
 | [],pre,ms,F,r,hx,hF,hms,h=>by
  obtain⟨F,rfl⟩:∃n,F=n+1:=⟨F - 1,by simp at hF;omega⟩
  rw[bS] at hx
  rw[aY,aAH]
  simp only[hp,←hx,bO,aB]
  have:=aIc hed hp hpl hin (rec7:=rec7) part [] ms fuel rfl (by omega) hms
  simp only[bI,Int.cast_ofNat_Int] at this
  exact this.trans h
 | f::q,pre,ms,F,r,hx,hF,hms,h=>by
  obtain⟨F,rfl⟩:∃n,F=n+1:=⟨F - 1,by simp at hF;omega⟩
  have hk:pre.length<part.length:=by rw[hx,aV];simp
  have hget:part.getD pre.length 0=f:=by rw[hx];simp
  obtain⟨f0,f1⟩:=hin f (by rw[hx];simp)
  have d1:decide (f<(ms.length:Int))=true:=aG (by rw[hms];exact f1)
  have hw:=bG hk (show part.length≤lenMax by simp only[lenMax];omega)
  rw[sH] at h
  have hwm:dM m ms=(m.1,m.2.1,m.2.2.1,ms,m.2.2.2.2):=rfl
  rw[hwm] at h
  rw[aY,aAH]
  simp only[hp,dlt hk,dge,aI,aA,aT,hget]
  cases hpl2:rQ (m.1,m.2.1,m.2.2.1,ms,m.2.2.2.2) l f with
  | none=>rw[hpl2] at h;cases h
  | some q2=>
   rw[hpl2] at h
   simp only[aJ] at h⊢
   cases hq:q2.2.1 <;> simp only[hq,aZ,bY,aA,aB] at h⊢
   ·exact h
   ·have ih:=aIe hfu hed hp hpl hin (rec7:=rec7) q (pre++[f]) _ F r (by rw[hx,bX];rfl) (by simp only[aF] at hF;omega) (by rw[dB];exact hms) h
    simp only[aV,aF,bI,bK] at ih
    simp only[aG f0,d1,aI,aA,hw]
    exact ih
theorem aIa {m:Im} {l:List (List Sh)} {fuel:Nat} (hfu:1000000<fuel) {ed:List (List Int)} {s2:List (List Int)×Int×List Mt×Unit} (hed:s2.1=ed) {r5:List (List Int)×Unit} (hrl:r5.1.length<1000000) {N:Nat} (hr:∀p∈r5.1,p.length<1000000∧∀f∈p,0≤f∧f<(N:Int)):
  ∀(ps pre:List (List Int)) (ms:List Mt) (F:Nat) (r),r5.1=pre++ps→ps.length<F→ms.length=N→((aBe m l ed ps ms).bind fun q=>some (aIb m q))=some r→aE (yC l fuel (m,()) s2 r5) F ((pre.length:Int),ms,())=some r
 | [],pre,ms,F,r,hx,hF,hms,h=>by
  obtain⟨F,rfl⟩:∃n,F=n+1:=⟨F - 1,by simp at hF;omega⟩
  rw[bS] at hx
  rw[aY,yC]
  simp only[hx,bO,aB]
  exact h
 | p::ps,pre,ms,F,r,hx,hF,hms,h=>by
  obtain⟨F,rfl⟩:∃n,F=n+1:=⟨F - 1,by simp at hF;omega⟩
  have hk:pre.length<r5.1.length:=by rw[hx,aV];simp
  have hget:r5.1.getD pre.length []=p:=by rw[hx];simp
  obtain⟨hpl,hin⟩:=hr p (by rw[hx];simp)
  have hw:=bG hk (show r5.1.length≤lenMax by simp only[lenMax];omega)
  rw[aY,yC]
  simp only[dlt hk,dge,aI,aA]
  refine aIe hfu hed (s6:=((pre.length:Int),ms,())) (part:=p) (by simpa using hget) hpl hin (rec7:=aE (yC l fuel (m,()) s2 r5) F) p [] ms fuel r rfl (by omega) hms ?_
  rw[aBe] at h
  cases ha:sH m l p ms with
  | none=>rw[ha] at h;cases h
  | some o=>
   rw[ha] at h
   simp only[aJ] at h⊢
   cases o with
   | none=>exact h
   | some ms1=>
    simp only[aBd] at h⊢
    have hl1:=aIf m l p ms ms1 ha
    cases hc:qC ed p p ms1 with
    | none=>rw[hc] at h;exact h
    | some ms2=>
     rw[hc] at h
     have hl2:=aId ed p p ms1 ms2 hc
     simp only[hw]
     have ih:=aIa hfu hed hrl hr (l:=l) (m:=m) ps (pre++[p]) ms2 F r (by rw[hx,bX];rfl) (by simp only[aF] at hF;omega) (by omega) h
     simp only[aV,aF,bI,bK] at ih
     exact ih
def gP (m:Im) (k:Nat):List Mt:=(m.2.2.2.1.take k).map (fun x=>mI x 0)++m.2.2.2.1.drop k
theorem aJU (m:Im) (k:Nat):Like m (gP m k):=by
 unfold Like gP
 rw[jF,List.map_map]
 have:(strip∘fun x=>mI x 0)=strip:=rfl
 rw[this,←jF,wG]
theorem aJS {m:Im} {k:Nat} (hk:k<m.2.2.2.1.length):(gP m k).set k (mI ((gP m k).getD k zMt) 0)=gP m (k+1):=by
 have hl:((m.2.2.2.1.take k).map fun x=>mI x 0).length=k:=by rw[pF,bR];omega
 have hd:m.2.2.2.1.drop k=m.2.2.2.1[k]::m.2.2.2.1.drop (k+1):=List.drop_eq_getElem_cons hk
 have hz:gP m k=((m.2.2.2.1.take k).map fun x=>mI x 0)++m.2.2.2.1[k]::m.2.2.2.1.drop (k+1):=by unfold gP;rw[hd]
 have hg:(gP m k).getD k zMt=m.2.2.2.1[k]:=by
  rw[hz,dZ,cN (by omega),hl,Nat.sub_self];rfl
 rw[hg,hz,List.set_append_right _ _ (by omega),hl,Nat.sub_self,List.set_cons_zero]
 unfold gP
 rw[pC,aW hk,jF,bX]
 rfl
theorem aGH {m:Im} (hs:aM m=true):∀x∈m.2.2.2.1,aEc x:=fun x hx=>by
 obtain⟨i,hi,rfl⟩:=List.mem_iff_getElem.1 hx
 have hf:inM m (i:Int)=true:=cA.2 ⟨by omega,by omega⟩
 have e:aD m (i:Int)=m.2.2.2.1[i]:=by unfold aD;rw[aT,getD_some (aW hi)]
 have h1:=mS ((dI (dR hs).1).mts _ hx)
 have h2:=aLt hs hf
 unfold iV codeN at h2
 rw[e] at h2
 exact⟨h1.2.2.2.2.2.1,h2,h1.2.2.2.2.2.2.2⟩
theorem aJT {m:Im} (hs:aM m=true) (k:Nat):∀x∈gP m k,aEc x:=fun x hx=>by
 rcases cM.1 hx with hx | hx
 ·obtain⟨y,hy,rfl⟩:=fJ.1 hx
  obtain⟨-,h2,h3⟩:=aGH hs y (aEd hy)
  exact⟨⟨jJ 0,by show (0:Int)≤4096;decide⟩,h2,h3⟩
 ·exact aGH hs x (List.mem_of_mem_drop hx)
theorem aNn (m:Im) (l:List (List Sh)) (r) (h:rR m l=some r):∃k,aGi k m l=some r:=by
 unfold rR at h
 cases hb:aM m&&vR m <;> simp only[hb,aA,aB] at h
 ·cases h
 simp only[aC] at hb
 obtain⟨hs,hok⟩:=hb
 cases hr:jR (gB m) with
 | none=>rw[hr] at h;cases h
 | some r4=>
  rw[hr] at h
  simp only[aJ] at h
  cases hb:okL r4.1&&r4.1.all (fun p=>okL p&&p.all (inM m)) <;> simp only[hb,aA,aB] at h
  ·cases h
  simp only[aC,bL] at hb
  have hrl:=hU hb.1
  have h12:=(dI (dR hs).1).methods
  have hcopy:vI m=some (m,()):=by unfold vI;rw[(dR hs).1];rfl
  refine⟨1000001,?_⟩
  unfold aGi
  rw[hcopy,aJ]
  refine oF (L:=aAG l 1000001 (m,())) (n:=m.2.2.2.1.length) (st:=fun k=>((gB m).take k,(k:Int),gP m k,())) (fun k rec hk=>?_) (fun rec=>?_) 1000001 (by omega)
  ·have hk':=aJU m k
   have hc:cof (dM m (gP m k)) (k:Int)=some (ofB m (k:Int),()):=by unfold cof;rw[(dR (hk'.sane hs (aJT hs k))).1,hk'.of];rfl
   have hx:(gB m)[k]? =some (ofB m (k:Int)):=by
    unfold gB ints
    simp[hk]
   have hlen:(gP m k).length=m.2.2.2.1.length:=hk'.len
   have hc':cof (m.1,m.2.1,m.2.2.1,gP m k,m.2.2.2.2) (k:Int)=some (ofB m (k:Int),()):=hc
   have hz:=aJS hk
   unfold mI at hz
   rw[aAG]
   simp only[dlt hk,aA,hc',aJ,aF,bI,jQ (show ((gB m).take k).length+(0+1)<549755813888 by rw[bR];omega),bG hk (show _≤lenMax by simp only[lenMax];omega),hlen,dge,aI,aT,hz]
   rw[pC,hx]
   rfl
  ·have e:(gB m).take m.2.2.2.1.length=gB m:=by rw[←aGD,iD]
   have ez:gP m m.2.2.2.1.length=m.2.2.2.1.map fun x=>mI x 0:=by unfold gP;rw[iD,List.drop_length,bS]
   rw[aAG]
   simp only[bO,aB,e,hr,aJ]
   have:=aIa (m:=m) (l:=l) (fuel:=1000001) (by omega) (ed:=gB m) (s2:=(gB m,(m.2.2.2.1.length:Int),gP m m.2.2.2.1.length,())) rfl (r5:=r4) hrl (N:=m.2.2.2.1.length) (fun p hp=>⟨hU (hb.2 p hp).1,fun f hf=>cA.1 ((hb.2 p hp).2 f hf)⟩) r4.1 [] _ 1000001 r rfl (by omega) (by rw[pF]) h
   rw[ez]
   rw[ez] at this
   simpa using this
end Go.Pli
