/- Types: the typer ends on every sane image. -/
import Derived.Test.YtcofionghgmldaaGreatPliL13E
import Derived.Test.YtcofionghgmldaaGreatPliNt
import Derived.Test.YtcofionghgmldaaGreatPliReach
namespace Go.Pli
open Go Go.PM
def okT (t:Tp):Prop:=t.1=4→t.2.1=0
def lT (l:List Cl) (t:Tp):Nat:=if t.1=4 then 12 else if t.1=3 then (bS l t.2.1).length else 0
theorem aBn {l:List Cl} (hl:l.length≤8) (c:Int):(bS l c).length≤8:=by
 by_cases h0:c<0
 ·rw[eU h0];simp
 ·by_cases h1:c<(l.length:Int)
  ·have:=sN l (c.toNat+1) c (by omega)
   omega
  ·have hk:kup l c= -1:=by
    unfold kup
    have:c≥(l.length:Int):=by omega
    simp[this]
   rw[gI (by omega),hk,eU (by omega)]
   simp
theorem aBm {l:List Cl} {x:Int}:∀(n:Nat) (c:Int),c.toNat<n→x∈bS l c→(bS l x).length≤(bS l c).length∧(x≠c→(bS l x).length<(bS l c).length)
 | 0,_,h,_=>by omega
 | n+1,c,h,hx=>by
  by_cases h0:c<0
  ·rw[eU h0] at hx;cases hx
  have hk:=kJ (l:=l) (c:=c) (by omega)
  rw[gI (by omega)] at hx
  have hlen:(bS l c).length=(bS l (kup l c)).length+1:=by rw[gI (by omega)];rfl
  rcases bV.1 hx with rfl | hx
  ·exact⟨aT _,fun h=>absurd rfl h⟩
  ·by_cases h2:kup l c<0
   ·rw[eU h2] at hx;cases hx
   ·have:=(aBm n (kup l c) (by omega) hx).1
    exact⟨by omega,fun _=>by omega⟩
theorem qR {a b:Tp} (h1:a.1=b.1) (h2:a.2.1=b.2.1):a=b:=by
 obtain⟨a1,a2,⟨⟩⟩:=a
 obtain⟨b1,b2,⟨⟩⟩:=b
 simp only at h1 h2
 subst h1 h2
 rfl
theorem aOg {l:List Cl} (hl:l.length≤8) {a b:Tp} (ha:okT a) (hb:okT b) (h:(fN l a b).1≠0):okT (fN l a b)∧(fN l a b=a∨lT l (fN l a b)<lT l a):=by
 unfold fN at h⊢
 cases h1:cF l a b <;> simp only[h1,aA,aB] at h⊢
 ·cases h2:cF l b a <;> simp only[h2,aA,aB] at h⊢
  ·cases h3:a.1 !=3 || b.1 !=3 <;> simp only[h3,aA,aB] at h⊢
   ·have h3a:a.1=3:=by
     have:=(Bool.or_eq_false_iff.1 h3).1
     simpa using this
    cases hf:(bS l (kup l a.2.1)).find? fun c=>dA l b.2.1 c with
    | none=>rw[hf] at h;exact absurd rfl h
    | some c=>
     refine⟨fun h4=>by simp at h4,.inr ?_⟩
     have hm:=List.mem_of_find?_eq_some hf
     have h0:0≤a.2.1:=by
      by_cases h0:0≤a.2.1
      ·exact h0
      ·have hk:kup l a.2.1= -1:=by
        unfold kup
        have:a.2.1<0:=by omega
        simp[this]
       rw[hk,eU (by omega)] at hm
       cases hm
     have:=(aBm _ _ (gX _) hm).1
     simp only[lT,h3a]
     rw[gI h0]
     simp
     omega
   ·exact absurd rfl h
  ·refine⟨ha,?_⟩
   simp
 ·refine⟨hb,?_⟩
  unfold cF at h1
  cases h4:a.1==4 <;> simp only[h4,aA,aB] at h1
  ·cases h33:a.1==3&&b.1==3 <;> simp only[h33,aA,aB] at h1
   ·simp only[aC,gJ] at h1
    exact .inl h1.1.symm
   ·simp only[aC,gJ] at h33
    unfold dA at h1
    simp only[aC,aQ,aD3] at h1
    by_cases he:b.2.1=a.2.1
    ·exact .inl (qR (by omega) he)
    ·refine .inr ?_
     have:=(aBm _ _ (gX _) h1.2.2.2).2 he
     simp only[lT,h33.1,h33.2]
     simpa using this
  ·have ea:a.1=4:=by simpa using h4
   unfold hJ at h1
   simp only[fT,gJ] at h1
   have h12:lT l a=12:=by simp[lT,ea]
   rcases h1 with h2 | h3 | h4'
   ·right;rw[h12];simp[lT,h2]
   ·right;rw[h12]
    have:=aBn hl b.2.1
    simp only[lT,h3]
    simp
    omega
   ·exact .inl (qR (by omega) (by rw[hb h4',ha ea]))
def mW (l:List Cl) (s:List Tp):Nat:=aZ (s.map (lT l))
theorem aOG {l:List Cl} (hl:l.length≤8) (t:Tp):lT l t≤12:=by
 unfold lT
 split
 ·omega
 ·split
  ·exact lX (aBn hl _) (by omega)
  ·omega
theorem aHp {l:List Cl} (hl:l.length≤8):∀s:List Tp,mW l s≤12*s.length
 | []=>by simp[mW,aZ]
 | t::s=>by
  have:=aHp hl s
  have:=aOG hl t
  unfold mW at*
  simp only[dK,aZ,aF]
  omega
theorem aGF {l:List Cl} (hl:l.length≤8):∀(a s:List Tp),a.length=s.length→(∀t∈a,okT t)→(∀t∈s,okT t)→(∀t∈bN l a s,t.1≠0)→
  (∀t∈bN l a s,okT t)∧mW l (bN l a s)≤mW l a∧(bN l a s≠a→mW l (bN l a s)<mW l a)
 | [],[],_,_,_,_=>⟨fun _ h=>(by cases h),aT _,fun h=>absurd rfl h⟩
 | [],_::_,h,_,_,_=>by cases h
 | _::_,[],h,_,_,_=>by cases h
 | x::a,y::s,h,ha,hs,hz=>by
  have hm:bN l (x::a) (y::s)=fN l x y::bN l a s:=rfl
  rw[hm] at hz⊢
  obtain⟨i1,i2,i3⟩:=aGF hl a s (by simpa using h) (fun t ht=>ha t (bZ _ ht)) (fun t ht=>hs t (bZ _ ht)) (fun t ht=>hz t (bZ _ ht))
  obtain⟨j1,j2⟩:=aOg hl (ha x (cW ..)) (hs y (cW ..)) (hz _ (cW ..))
  refine⟨fun t ht=>?_,?_,fun hne=>?_⟩
  ·rcases bV.1 ht with rfl | ht
   ·exact j1
   ·exact i1 t ht
  ·unfold mW at*
   simp only[dK,aZ]
   rcases j2 with j2 | j2
   ·rw[j2];omega
   ·omega
  ·unfold mW at*
   simp only[dK,aZ]
   rcases j2 with j2 | j2
   ·rw[j2] at hne⊢
    have:=i3 fun he=>hne (by rw[he])
    omega
   ·omega
def mL (l:List Cl) (s:Sh):Nat:=if s.1 then mW l s.2.1 else 97
structure zD (s:Sh):Prop where
 len:s.2.1.length≤8
 ok:∀t∈s.2.1,okT t
theorem aNJ {l:List Cl} (hl:l.length≤8) {o:Sh} (ho:zD o) {s:List Tp} (hs8:s.length≤8) (hs:∀t∈s,okT t):
  ((cU l o s).2.2.1=true→(cU l o s).2.1=true→zD (cU l o s).1∧mL l (cU l o s).1<mL l o):=by
 unfold cU
 cases h1:o.1 <;> simp only[bA,cD,aA,aB]
 ·intro _ _
  refine⟨⟨hs8,hs⟩,?_⟩
  have:=aHp hl s
  simp only[mL,h1]
  simp
  omega
 ·cases h2:decide (o.2.1.length≠s.length) <;> simp only[aA,aB]
  ·have hlen:o.2.1.length=s.length:=by simpa using h2
   cases h3:(bN l o.2.1 s).any fun t=>t.1==0 <;> simp only[aA,aB]
   ·intro _ h4
    have hz:∀t∈bN l o.2.1 s,t.1≠0:=fun t ht h0=>by
     have:((bN l o.2.1 s).any fun t=>t.1==0)=true:=iM.2 ⟨t,ht,by simp[h0]⟩
     rw[h3] at this;cases this
    obtain⟨i1,-,i3⟩:=aGF hl o.2.1 s hlen ho.ok hs hz
    refine⟨⟨by rw[uO l hlen];exact hs8,i1⟩,?_⟩
    simp only[mL,h1,cJ]
    exact i3 fun he=>by rw[he] at h4;simp at h4
   ·intro h _;cases h
  ·intro h _;cases h
theorem qU {α:Type} (g:α→Nat) (z:α):∀(l:List α) (k:Nat) (y:α),k<l.length→aZ ((l.set k y).map g)+g (l.getD k z)=aZ (l.map g)+g y
 | [],_,_,h=>by simp at h
 | x::l,0,y,_=>by simp[aZ];omega
 | x::l,k+1,y,h=>by
  have:=qU g z l k y (by simpa using h)
  simp only[List.set_cons_succ,dK,aZ,List.getD_cons_succ] at this⊢
  omega
def b2n (b:Bool):Nat:=if b then 1 else 0
def mu (l:List Cl) (h:List Sh) (q:List Bool):Nat:=aZ (h.map (mL l))+aZ (q.map b2n)
structure zE (N:Nat) (h:List Sh) (q:List Bool):Prop where
 hl:h.length=N
 ql:q.length=N
 ok:∀s∈h,zD s
theorem aCy {l:List Cl} (hl:l.length≤8) {N:Nat} {a:List Tp} (ha8:a.length≤8) (ha:∀t∈a,okT t):∀(ts:List Int) (h:List Sh) (q:List Bool),zE N h q→(∀to∈ts,0≤to∧to<(N:Int))→
  zE N (fJ l a ts h q).2.1 (fJ l a ts h q).2.2.1∧mu l (fJ l a ts h q).2.1 (fJ l a ts h q).2.2.1≤mu l h q
 | [],h,q,hg,_=>⟨hg,aT _⟩
 | to::ts,h,q,hg,ht=>by
  unfold fJ
  obtain⟨t0,t1⟩:=ht to (cW ..)
  have hk:to.toNat<h.length:=by rw[hg.hl];omega
  have hkq:to.toNat<q.length:=by rw[hg.ql];omega
  have hgo:zD (h.getD to.toNat zSh):=by rw[getD_some (aV hk)];exact hg.ok _ (eH hk)
  have hup:=aNJ hl hgo ha8 ha
  generalize cU l (h.getD to.toNat zSh) a=r at hup
  cases h1:r.2.2.1 <;> simp only[bA,cD,aA,aB]
  ·exact⟨hg,aT _⟩
  ·cases h2:r.2.1 <;> simp only[aA,aB]
   ·exact aCy hl ha8 ha ts h q hg fun x hx=>ht x (bZ _ hx)
   ·obtain⟨g1,g2⟩:=hup h1 h2
    have hg':zE N (h.set to.toNat r.1) (q.set to.toNat true):=⟨by rw[dE,hg.hl],by rw[dE,hg.ql],fun s hs=>by
     rcases wB hs with hs | rfl
     ·exact hg.ok s hs
     ·exact g1⟩
    obtain⟨i1,i2⟩:=aCy hl ha8 ha ts _ _ hg' fun x hx=>ht x (bZ _ hx)
    refine⟨i1,lX i2 ?_⟩
    unfold mu
    have e1:=qU (mL l) zSh h to.toNat r.1 hk
    have e2:=qU b2n false q to.toNat true hkq
    have e3:b2n true=1:=rfl
    omega
theorem aDl {t:Tp} {n:Int} (h:fM t n=true):okT t:=by
 intro h4
 unfold fM at h
 rw[h4] at h
 simp at h
theorem aDi {m:Im} {l:List Tp} (h:eS m l=true) (k:Nat):okT (l.getD k zTp):=by
 by_cases hk:k<l.length
 ·rw[getD_some (aV hk)]
  exact aDl (bI.1 h _ (eH hk))
 ·rw[gU (by omega)];intro h4;cases h4
theorem aN0 {m:Im} (hs:aL m=true) {f:Int} (hf:inM m f=true) (n:Int):okT (iX (aD m f) n):=by
 have h:=pG hs hf
 simp only[eR,aC] at h
 unfold iX
 cases decide (n<0) <;> simp only[aA,aB]
 ·rw[aDo]
  split
  ·exact aDi h.1 _
  ·exact aDi h.2.1 _
 ·intro h4;cases h4
theorem aLT {m:Im} (hs:aL m=true) {f:Int} (hf:inM m f=true):okT (aD m f).2.2.1:=by
 have h:=pG hs hf
 simp only[eR,aC,fT] at h
 rcases h.2.2.1 with h | h
 ·intro h4
  have:(aD m f).2.2.1=(5,0,()):=by simpa using h
  rw[this] at h4;cases h4
 ·exact aDl h
theorem aH2 {m:Im} (hs:aL m=true) (c:Int) (hc:sin c (m.1.length:Int)=true):eS m (bP m c).2.1=true:=by
 simp only[sin,aC,aQ] at hc
 have:=sR (tF hs) hc.1 hc.2
 simp only[hU,aC] at this
 exact this.2.1
theorem aPe {m:Im} (hs:aL m=true) (c:Int) (k:Nat):okT ((dS m c).getD k zTp):=by
 have key:∀t∈dS m c,okT t:=by
  intro t ht
  unfold dS at ht
  simp only[oY,gF,List.mem_reverse] at ht
  obtain⟨x,⟨s,hsm,rfl⟩,ht⟩:=ht
  have hin:sin s (m.1.length:Int)=true:=by
   unfold cE at hsm
   cases hd:decide (c<(m.1.length:Int)) <;> simp only[hd,aA,aB] at hsm
   ·cases hsm
   ·have:=oP _ _ (gX _) hsm
    have hd:c<(m.1.length:Int):=by simpa using hd
    simp only[sin,aC,aQ]
    omega
  exact aDl (bI.1 (aH2 hs s hin) t ht)
 by_cases hk:k<(dS m c).length
 ·rw[getD_some (aV hk)]
  exact key _ (eH hk)
 ·rw[gU (by omega)];intro h4;cases h4
def gW (e:Eff):Prop:=∀t∈e.2.1,okT t
theorem kG {a:List Tp}:gW (a,[],()):=fun _ h=>by cases h
theorem iU {a:List Tp} {t:Tp} (h:okT t):gW (a,[t],()):=fun _ hx=>by rw[dY] at hx;subst hx;exact h
theorem xU {k n:Int} (h:k≠4∨n=0):okT (k,n,()):=fun h4=>by
 rcases h with h | h
 ·exact absurd h4 h
 ·exact h
theorem aGc {m:Im} (hs:aL m=true) {g:Int} (hg:inM m g=true) (t:List Tp):gW (hY (aD m g) t):=by
 unfold hY
 cases (aD m g).2.2.1.1 !=5 <;> simp only[aA,aB]
 ·exact kG
 ·exact iU (aLT hs hg)
theorem aM7 (o:Int):gW (eE o).1:=by
 unfold eE
 have h1:okT tI:=xU (.inr rfl)
 have h2:okT tA:=xU (.inr rfl)
 have h3:okT tN:=xU (.inr rfl)
 refine cK (P:=fun z:Eff×Bool×Unit=>gW z.1) (iU h3) ?_
 refine cK (P:=fun z:Eff×Bool×Unit=>gW z.1) kG ?_
 refine cK (P:=fun z:Eff×Bool×Unit=>gW z.1) (iU h1) ?_
 refine cK (P:=fun z:Eff×Bool×Unit=>gW z.1) (iU h1) ?_
 refine cK (P:=fun z:Eff×Bool×Unit=>gW z.1) (iU h1) ?_
 refine cK (P:=fun z:Eff×Bool×Unit=>gW z.1) kG ?_
 refine cK (P:=fun z:Eff×Bool×Unit=>gW z.1) (iU h1) ?_
 refine cK (P:=fun z:Eff×Bool×Unit=>gW z.1) (iU h1) ?_
 refine cK (P:=fun z:Eff×Bool×Unit=>gW z.1) kG ?_
 refine cK (P:=fun z:Eff×Bool×Unit=>gW z.1) kG ?_
 refine cK (P:=fun z:Eff×Bool×Unit=>gW z.1) (iU h2) ?_
 exact cK (P:=fun z:Eff×Bool×Unit=>gW z.1) (iU h1) kG
theorem aM8 {m:Im} (hs:aL m=true) {i:Ins} {f:Int} (hf:inM m f=true) (hi:bW m (aD m f) i=true):gW (eF m (aD m f) i):=by
 have hcl:=tF hs
 unfold eF
 rcases i with⟨o,a,b,⟨⟩⟩
 refine cK (aM7 _) ?_
 refine cK (iU (aN0 hs hf _)) (cK kG (cK (iU (xU (.inl (by decide)))) (cK (iU (aPe hs _ _)) (cK kG (cK (iU (aDi (aES hs) _)) (cK kG ?_))))))
 cases e:o==31
 case true=>
  obtain rfl:o=31:=by simpa using e
  have:sin a (m.2.2.2.1.length:Int)=true:=by simpa[bW] using hi
  exact aGc hs this _
 simp only[aB]
 cases e:o==32
 case true=>
  obtain rfl:o=32:=by simpa using e
  have:sin a (m.1.length:Int)=true∧sin b ((bP m a).2.2.1.length:Int)=true:=by simpa[bW] using hi
  have hsl:gR m a b=true:=by unfold gR;unfold sin at this;rw[this.1,this.2];rfl
  have h1:=wV hsl
  simp only[sin,aC,aQ] at this
  obtain⟨h2,h3⟩:=qW (sR hcl this.1.1 this.1.2) h1
  exact aGc hs (cC.2 h2) _
 simp only[aB]
 exact cK (iU (xU (.inl (by decide)))) (cK (cK kG kG) kG)
theorem aJX {m:Im} (hs:aL m=true) {f pc:Int} {s:List Tp} (hok:∀t∈s,okT t):∀t∈(aN m f pc s).1,okT t:=by
 unfold aN
 cases hf:inM m f
 ·intro t ht;simp at ht
 cases hp:sin pc (codeN m f:Int)
 ·intro t ht;simp at ht
 simp only[aH,bA,aB]
 cases (dR (aG m f pc) pc).contains (codeN m f:Int)
 case true=>intro t ht;simp at ht
 simp only[aB]
 cases h6:(aG m f pc).1==6 <;> simp only[aA,aB]
 ·have ho:=aM8 hs hf (rA hs hf hp)
  unfold mD
  generalize eF m (aD m f) (aG m f pc)=E at ho⊢
  cases decide (s.length<E.1.length) || decide (s.length - E.1.length+E.2.1.length>8) <;> simp only[aA,aB]
  ·cases ((s.drop (s.length - E.1.length)).zip E.1).all fun p=>dU m (aG m f pc).1 p.1 p.2 <;> simp only[aA,aB]
   ·intro t ht;cases ht
   ·intro t ht
    rcases cP.1 ht with ht | ht
    ·exact hok t (aD0 ht)
    ·exact ho t ht
  ·intro t ht;cases ht
 ·cases decide (s.length=0) || decide (s.length≥8) <;> simp only[aA,aB]
  ·intro t ht
   rcases cP.1 ht with ht | ht
   ·exact hok t ht
   ·exact hok t (List.mem_of_mem_drop ht)
  ·intro t ht;cases ht
structure wD (N:Nat) (h:List Sh):Prop where
 len:h.length≤N
 ok:∀s∈h,s.2.1.length≤8
theorem aHT {q:List Bool} (h:q.any id=true):q.findIdx id<q.length:=List.findIdx_lt_length_of_exists (by
 obtain⟨x,hx,h⟩:=iM.1 h
 exact⟨x,hx,h⟩)
theorem aD9 {m:Im} (hs:aL m=true) {f:Int} (hf:inM m f=true):∀(n:Nat) (h:List Sh) (q:List Bool),zE (codeN m f) h q→mu m.1 h q<n→∃r,pB m f n h q=some r∧wD (codeN m f) r.1
 | 0,_,_,_,hm=>by omega
 | n+1,h,q,hg,hm=>by
  have hl:=(dG (dQ hs).1).classes
  unfold pB
  cases ha:q.any id <;> simp only[aA,aB]
  ·exact⟨_,rfl,by rw[hg.hl];exact aT _,fun s hs=>(hg.ok s hs).len⟩
  ·have hk:=aHT ha
   generalize hpc:q.findIdx id=pc at hk
   have htrue:q.getD pc false=true:=by
    subst hpc
    have:=List.findIdx_getElem (p:=id) (xs:=q) (w:=hk)
    rw[getD_some (aV hk)]
    exact this
   have hpcN:pc<codeN m f:=by rw[←hg.ql];exact hk
   have hkh:pc<h.length:=by rw[hg.hl];exact hpcN
   have hg1:zE (codeN m f) h (q.set pc false):=⟨hg.hl,by rw[dE,hg.ql],hg.ok⟩
   have hone:rR m f (pc:Int) h (q.set pc false)=true:=OneP.to ⟨hs,hf,by simp only[sin,aC,aQ];omega,hg1.hl,hg1.ql,fun s hs=>fK (by have:=(hg.ok s hs).len;omega)⟩
   have hmu:mu m.1 h (q.set pc false)+1=mu m.1 h q:=by
    unfold mu
    have:=qU b2n false q pc false hk
    rw[htrue] at this
    have e0:b2n false=0:=rfl
    have e1:b2n true=1:=rfl
    omega
   unfold zN
   rw[hone]
   simp only[aA,aJ]
   have hgs:zD (h.getD pc zSh):=by rw[getD_some (aV hkh)];exact hg.ok _ (eH hkh)
   cases hr:(lC m f (pc:Int) h (q.set pc false)).1 <;> simp only[bA,cD,aA,aB]
   ·exact⟨_,rfl,dF _,fun s hs=>by cases hs⟩
   ·unfold lC at hr⊢
    rw[aU] at hr⊢
    cases he:(aN m f (pc:Int) (h.getD pc zSh).2.1).2.2.1 !=0 <;> simp only[he,aA,aB] at hr⊢
    ·obtain⟨-,-,h8,hto⟩:=nQ hs (f:=f) (pc:=(pc:Int)) (s:=(h.getD pc zSh).2.1) (by simpa using he)
     obtain⟨i1,i2⟩:=aCy hl (N:=codeN m f) h8 (aJX hs hgs.ok) (aN m f (pc:Int) (h.getD pc zSh).2.1).2.1 h (q.set pc false) hg1 hto
     exact aD9 hs hf n _ _ i1 (by omega)
    ·cases hr
theorem aEi {m:Im} (hs:aL m=true) {f:Int} (hf:inM m f=true):∃r,wK m f=some r∧wD (codeN m f) r.1:=by
 unfold wK
 rw[hs,hf]
 simp only[aH,aA]
 have hc:=fH hs hf
 refine aD9 hs hf _ _ _ ⟨by simp,by simp,fun s hs'=>?_⟩ ?_
 ·rcases wB hs' with h | rfl
  ·rw[zA] at h
   rw[h.2]
   exact⟨dF _,fun _ h=>by cases h⟩
  ·exact⟨dF _,fun _ h=>by cases h⟩
 ·unfold mu
  have e1:=qU (mL m.1) zSh (List.replicate (codeN m f) zSh) 0 (true,[],()) (by simp;omega)
  have e2:=qU b2n false (List.replicate (codeN m f) false) 0 true (by simp;omega)
  have s1:∀n:Nat,aZ ((List.replicate n zSh).map (mL m.1))=97*n:=by
   intro n
   induction n with
   | zero=>rfl
   | succ n ih=>rw[List.replicate_succ,dK,aZ,ih];simp[mL];omega
  have s2:∀n:Nat,aZ ((List.replicate n false).map b2n)=0:=by
   intro n
   induction n with
   | zero=>rfl
   | succ n ih=>rw[List.replicate_succ,dK,aZ,ih];rfl
  rw[s1] at e1
  rw[s2] at e2
  have r1:mL m.1 (true,[],())=0:=rfl
  have r2:b2n true=1:=rfl
  omega
theorem aIU {m:Im} (hs:aL m=true):∀(l:List Int) (out:List (List Sh)),(∀f∈l,inM m f=true)→(∀h∈out,wD 64 h)→∃r,qC m l out=some r∧(∀h∈r.1,wD 64 h)∧(r.2.2.2.1=0→r.1.length=out.length+l.length)∧(r.2.2.2.1≠0→r.1=[])
 | [],out,_,ho=>⟨_,rfl,ho,fun _=>rfl,fun h=>absurd rfl h⟩
 | f::l,out,hl,ho=>by
  have hf:=hl f (cW ..)
  obtain⟨r,hr,hg⟩:=aEi hs hf
  have hc:=fH hs hf
  unfold qC
  rw[hr]
  simp only[aJ]
  cases he:r.2.2.1 !=0 <;> simp only[aA,aB]
  ·obtain⟨r',h1,h2,h3,h4⟩:=aIU hs l (out++[r.1]) (fun x hx=>hl x (bZ _ hx)) (fun h hh=>by
    rcases cP.1 hh with hh | hh
    ·exact ho h hh
    ·rw[dY] at hh;subst hh;exact⟨by have:=hg.len;omega,hg.ok⟩)
   exact⟨r',h1,h2,fun h0=>by rw[h3 h0];simp;omega,h4⟩
  ·have:r.2.2.1≠0:=by simpa using he
   exact⟨_,rfl,fun h hh=>(by cases hh),fun h0=>absurd h0 this,fun _=>rfl⟩
theorem aNi {l:List (List Sh)} (hl:l.length≤12) (h:∀x∈l,wD 64 x):fX l=true:=by
 simp only[fX,aC,bI]
 refine⟨fK (by omega),fun x hx=>?_⟩
 have:=h x hx
 exact⟨fK (by have:=this.len;omega),fun s hs=>fK (by have:=this.ok s hs;omega)⟩
theorem aEr {m:Im} (hs:aL m=true):∃r,tC m=some r∧fX r.1=true∧(r.2.2.2.1=0→r.1.length=m.2.2.2.1.length):=by
 have h12:=(dG (dQ hs).1).methods
 unfold tC
 rw[hs]
 simp only[aA]
 obtain⟨r,h1,h2,h3,h4⟩:=aIU hs (ints m.2.2.2.1.length) [] (fun f hf=>cC.2 (pN.1 hf)) (fun _ h=>by cases h)
 have hn:r.2.2.2.1=0→r.1.length=m.2.2.2.1.length:=fun h0=>by rw[h3 h0,vA];simp
 refine⟨r,h1,aNi ?_ h2,hn⟩
 by_cases h0:r.2.2.2.1=0
 ·rw[hn h0];exact h12
 ·rw[h4 h0];exact dF _
end Go.Pli

namespace Go.Pli
open Go Go.PM
def gT (n:Int) (t:Tp):Prop:=fM t n=true∨t=(4,0,())
theorem sC {n:Int} {t:Tp} (h:gT n t):(t.1=1∧t.2.1=0)∨(t.1=2∧t.2.1=0)∨(t.1=3∧0≤t.2.1∧t.2.1<n)∨(t.1=4∧t.2.1=0):=by
 rcases h with h | rfl
 ·unfold fM at h
  cases h1:t.1==1
  ·cases h2:t.1==2
   ·rw[h1,h2] at h
    simp only[Bool.or_self,aB,aC,gJ,aQ] at h
    exact .inr (.inr (.inl ⟨h.1,h.2.1,h.2.2⟩))
   ·rw[h2,Bool.or_true] at h
    exact .inr (.inl ⟨by simpa using h2,by simpa using h⟩)
  ·rw[h1,sU] at h
   exact .inl ⟨by simpa using h1,by simpa using h⟩
 ·exact .inr (.inr (.inr ⟨rfl,rfl⟩))
theorem aHD {n:Int} {t:Tp} (h:gT n t):t.1≠0:=by rcases sC h with h | h | h | h <;> omega
theorem aA2 {n:Int} {t:Tp} (h:gT n t):okT t:=fun h4=>by rcases sC h with h | h | h | h <;> omega
theorem aIW {l:List Cl} {b c:Int}:∀(n:Nat) (a:Int),a.toNat<n→b∈bS l a→c∈bS l b→c∈bS l a
 | 0,_,h,_,_=>by omega
 | n+1,a,h,hb,hc=>by
  by_cases h0:a<0
  ·rw[eU h0] at hb;cases hb
  have hk:=kJ (l:=l) (c:=a) (by omega)
  rw[gI (by omega)] at hb⊢
  rcases bV.1 hb with rfl | hb
  ·rwa [gI (by omega)] at hc
  ·by_cases h2:kup l a<0
   ·rw[eU h2] at hb;cases hb
   ·exact bZ _ (aIW n (kup l a) (by omega) hb hc)
theorem aQH {l:List Cl} {a:Int} (h:0≤a):a∈bS l a:=by rw[gI h];exact cW ..
theorem nH {l:List Cl} {a b:Int}:dA l a b=true↔0≤b∧b<(l.length:Int)∧a<(l.length:Int)∧b∈bS l a:=by
 unfold dA
 simp only[aC,aQ,aD3]
theorem aQV {l:List Cl} {a b c:Int} (h1:dA l a b=true) (h2:dA l b c=true):dA l a c=true:=by
 rw[nH] at*
 exact⟨h2.1,h2.2.1,h1.2.2.1,aIW _ _ (gX _) h1.2.2.2 h2.2.2.2⟩
theorem iB {l:List Cl} {a b:Tp}:cF l a b=true↔(a.1=4∧hJ b=true)∨(a.1=3∧b.1=3∧dA l a.2.1 b.2.1=true)∨(a=b∧(a.1=1∨a.1=2)):=by
 unfold cF
 cases h4:a.1==4
 ·have n4:a.1≠4:=by simpa using h4
  cases h33:a.1==3&&b.1==3 <;> simp only[aA,aB]
  ·simp only[aC,fT,gJ]
   constructor
   ·exact fun h=> .inr (.inr h)
   ·rintro (h | h | h)
    ·exact absurd h.1 n4
    ·simp[h.1,h.2.1] at h33
    ·exact h
  ·simp only[aC,gJ] at h33
   constructor
   ·exact fun h=> .inr (.inl ⟨h33.1,h33.2,h⟩)
   ·rintro (h | h | h)
    ·exact absurd h.1 n4
    ·exact h.2.2
    ·omega
 ·have e4:a.1=4:=by simpa using h4
  simp only[aA]
  constructor
  ·exact fun h=> .inl ⟨e4,h⟩
  ·rintro (h | h | h)
   ·exact h.2
   ·omega
   ·omega
theorem uW {t:Tp}:hJ t=true↔t.1=2∨t.1=3∨t.1=4:=by
 unfold hJ
 simp only[fT,gJ]
theorem aBX {l:List Cl} {a:Tp} (h:gT (l.length:Int) a):cF l a a=true:=by
 rw[iB]
 rcases sC h with h | h | h | h
 ·exact .inr (.inr ⟨rfl,.inl h.1⟩)
 ·exact .inr (.inr ⟨rfl,.inr h.1⟩)
 ·exact .inr (.inl ⟨h.1,h.1,nH.2 ⟨h.2.1,h.2.2,h.2.2,aQH h.2.1⟩⟩)
 ·exact .inl ⟨h.1,uW.2 (.inr (.inr h.1))⟩
theorem aEB {l:List Cl} {a b c:Tp} (h1:cF l a b=true) (h2:cF l b c=true):cF l a c=true:=by
 rw[iB] at*
 rcases h1 with⟨a4,hb⟩ | ⟨a3,b3,hab⟩ | ⟨rfl,ha⟩
 ·refine .inl ⟨a4,?_⟩
  rcases h2 with⟨_,hc⟩ | ⟨_,c3,_⟩ | ⟨rfl,_⟩
  ·exact hc
  ·exact uW.2 (.inr (.inl c3))
  ·exact hb
 ·rcases h2 with⟨b4,_⟩ | ⟨_,c3,hbc⟩ | ⟨rfl,hb⟩
  ·omega
  ·exact .inr (.inl ⟨a3,c3,aQV hab hbc⟩)
  ·omega
 ·exact h2
theorem aJU {l:List Cl} {a b:Tp} (ga:gT (l.length:Int) a) (gb:gT (l.length:Int) b) (h1:cF l a b=true) (h2:cF l b a=true):a=b:=by
 rw[iB] at*
 rcases h1 with⟨a4,hb⟩ | ⟨a3,b3,hab⟩ | ⟨h,_⟩
 ·rcases h2 with⟨b4,_⟩ | ⟨_,a3,_⟩ | ⟨h,_⟩
  ·have e1:=aA2 ga a4
   have e2:=aA2 gb b4
   exact qR (by omega) (by omega)
  ·omega
  ·exact h.symm
 ·rcases h2 with⟨b4,_⟩ | ⟨_,_,hba⟩ | ⟨h,_⟩
  ·omega
  ·have i1:=(oP _ _ (gX _) (nH.1 hab).2.2.2).2
   have i2:=(oP _ _ (gX _) (nH.1 hba).2.2.2).2
   exact qR (by omega) (by omega)
  ·exact h.symm
 ·exact h
theorem aHU {l:List Cl} {p:Int→Bool} {x c:Int}:∀(n:Nat) (d:Int),d.toNat<n→(bS l d).find? p=some x→c∈bS l d→p c=true→c∈bS l x
 | 0,_,h,_,_,_=>by omega
 | n+1,d,h,hf,hc,hp=>by
  by_cases h0:d<0
  ·rw[eU h0] at hc;cases hc
  have hk:=kJ (l:=l) (c:=d) (by omega)
  rw[gI (by omega),aD1] at hf
  cases hpd:p d
  ·rw[hpd] at hf
   rw[gI (by omega)] at hc
   rcases bV.1 hc with rfl | hc
   ·rw[hpd] at hp;cases hp
   ·by_cases h2:kup l d<0
    ·rw[eU h2] at hc;cases hc
    ·exact aHU n (kup l d) (by omega) hf hc hp
  ·rw[hpd] at hf
   injection hf with hf
   subst hf
   exact hc
theorem aOh {l:List Cl} {a b:Tp} (ga:gT (l.length:Int) a) (gb:gT (l.length:Int) b) (h:(fN l a b).1≠0):cF l a (fN l a b)=true∧cF l b (fN l a b)=true∧gT (l.length:Int) (fN l a b):=by
 unfold fN at h⊢
 cases h1:cF l a b <;> simp only[h1,aA,aB] at h⊢
 ·cases h2:cF l b a <;> simp only[h2,aA,aB] at h⊢
  ·cases h3:a.1 !=3 || b.1 !=3 <;> simp only[h3,aA,aB] at h⊢
   ·have h3a:a.1=3:=by simpa using (Bool.or_eq_false_iff.1 h3).1
    have h3b:b.1=3:=by simpa using (Bool.or_eq_false_iff.1 h3).2
    cases hf:(bS l (kup l a.2.1)).find? fun c=>dA l b.2.1 c with
    | none=>rw[hf] at h;exact absurd rfl h
    | some c=>
     have hm:=List.mem_of_find?_eq_some hf
     have hb:dA l b.2.1 c=true:=by simpa using List.find?_some hf
     have hb':=nH.1 hb
     have ga':0≤a.2.1∧a.2.1<(l.length:Int):=by rcases sC ga with h | h | h | h <;> omega
     have hca:c∈bS l a.2.1:=by rw[gI ga'.1];exact bZ _ hm
     refine⟨iB.2 (.inr (.inl ⟨h3a,rfl,nH.2 ⟨hb'.1,hb'.2.1,ga'.2,hca⟩⟩)),iB.2 (.inr (.inl ⟨h3b,rfl,hb⟩)),.inl ?_⟩
     simp only[fM]
     rw[aI hb'.1,aI hb'.2.1]
     rfl
   ·exact absurd rfl h
  ·exact⟨aBX ga,trivial,ga⟩
 ·exact⟨trivial,aBX gb,gb⟩
theorem aOj {l:List Cl} {a b c:Tp} (ga:gT (l.length:Int) a) (gb:gT (l.length:Int) b) (gc:gT (l.length:Int) c) (hac:cF l a c=true) (hbc:cF l b c=true):(fN l a b).1≠0∧cF l (fN l a b) c=true:=by
 unfold fN
 cases h1:cF l a b <;> simp only[aA,aB]
 ·cases h2:cF l b a <;> simp only[aA,aB]
  ·have n1:¬cF l a b=true:=by rw[h1];exact Bool.false_ne_true
   have n2:¬cF l b a=true:=by rw[h2];exact Bool.false_ne_true
   have h33:a.1=3∧b.1=3:=by
    have ka:=sC ga
    have kb:=sC gb
    rcases iB.1 hac with⟨a4,hc⟩ | ⟨a3,c3,_⟩ | ⟨e,ha⟩
    ·exfalso
     refine n1 (iB.2 (.inl ⟨a4,?_⟩))
     rw[uW] at hc⊢
     rcases iB.1 hbc with⟨b4,_⟩ | ⟨b3,_⟩ | ⟨e,hb⟩
     ·exact .inr (.inr b4)
     ·exact .inr (.inl b3)
     ·subst e;omega
    ·refine⟨a3,?_⟩
     rcases iB.1 hbc with⟨b4,_⟩ | ⟨b3,_⟩ | ⟨e,hb⟩
     ·exact absurd (iB.2 (.inl ⟨b4,uW.2 (.inr (.inl a3))⟩)) n2
     ·exact b3
     ·subst e;omega
    ·exfalso
     subst e
     exact n2 hbc
   have h3:(a.1 !=3 || b.1 !=3)=false:=by simp[h33.1,h33.2]
   rw[h3]
   simp only[aB]
   have hac':a.1=3∧c.1=3∧dA l a.2.1 c.2.1=true:=by
    rcases iB.1 hac with⟨a4,hc⟩ | h | ⟨e,ha⟩
    ·omega
    ·exact h
    ·omega
   have hbc':dA l b.2.1 c.2.1=true:=by
    rcases iB.1 hbc with⟨a4,hc⟩ | h | ⟨e,ha⟩
    ·omega
    ·exact h.2.2
    ·omega
   have ga':0≤a.2.1∧a.2.1<(l.length:Int):=by rcases sC ga with h | h | h | h <;> omega
   have hc:=nH.1 hac'.2.2
   have hne:c.2.1≠a.2.1:=fun e=>n2 (by
    have:c=a:=qR (by omega) e
    rw[←this];exact hbc)
   have hcm:c.2.1∈bS l (kup l a.2.1):=by
    have:=hc.2.2.2
    rw[gI ga'.1] at this
    rcases bV.1 this with h | h
    ·exact absurd h hne
    ·exact h
   cases hf:(bS l (kup l a.2.1)).find? fun c=>dA l b.2.1 c with
   | none=>
    have:=List.find?_eq_none.1 hf _ hcm
    exact absurd hbc' this
   | some x=>
    have hx:dA l b.2.1 x=true:=by simpa using List.find?_some hf
    have hx':=nH.1 hx
    refine⟨fun h=>by simp at h,iB.2 (.inr (.inl ⟨rfl,hac'.2.1,nH.2 ⟨hc.1,hc.2.1,hx'.2.1,?_⟩⟩))⟩
    exact aHU _ _ (gX _) hf hcm hbc'
  ·exact⟨aHD ga,hac⟩
 ·exact⟨aHD gb,hbc⟩
def leS (l:List Cl):List Tp→List Tp→Prop
 | [],[]=>True
 | x::a,y::b=>cF l x y=true∧leS l a b
 | _,_=>False
def gS (n:Int) (s:List Tp):Prop:=∀t∈s,gT n t
theorem fQ {n:Int} {t:Tp} {s:List Tp} (h:gS n (t::s)):gT n t∧gS n s:=⟨h t (cW ..),fun x hx=>h x (bZ _ hx)⟩
theorem pQ {l:List Cl}:∀{a b:List Tp},leS l a b→a.length=b.length
 | [],[],_=>rfl
 | [],_::_,h=>h.elim
 | _::_,[],h=>h.elim
 | _::_,_::_,h=>by simp only[aF,pQ h.2]
theorem yJ {l:List Cl}:∀{a:List Tp},gS (l.length:Int) a→leS l a a
 | [],_=>trivial
 | _::_,h=>⟨aBX (fQ h).1,yJ (fQ h).2⟩
theorem rX {l:List Cl}:∀{a b c:List Tp},leS l a b→leS l b c→leS l a c
 | [],[],[],_,_=>trivial
 | _::_,_::_,_::_,h1,h2=>⟨aEB h1.1 h2.1,rX h1.2 h2.2⟩
 | [],[],_::_,_,h=>h.elim
 | [],_::_,_,h,_=>h.elim
 | _::_,[],_,h,_=>h.elim
 | _::_,_::_,[],_,h=>h.elim
theorem aHb {l:List Cl}:∀{a b:List Tp},gS (l.length:Int) a→gS (l.length:Int) b→leS l a b→leS l b a→a=b
 | [],[],_,_,_,_=>rfl
 | _::_,_::_,ga,gb,h1,h2=>by rw[aJU (fQ ga).1 (fQ gb).1 h1.1 h2.1,aHb (fQ ga).2 (fQ gb).2 h1.2 h2.2]
 | [],_::_,_,_,h,_=>h.elim
 | _::_,[],_,_,h,_=>h.elim
theorem aC5 {l:List Cl}:∀(n:Nat) {a b:List Tp},leS l a b→leS l (a.drop n) (b.drop n)
 | 0,_,_,h=>h
 | _+1,[],[],h=>h
 | n+1,_::_,_::_,h=>aC5 n h.2
 | _+1,[],_::_,h=>h.elim
 | _+1,_::_,[],h=>h.elim
theorem aHa {l:List Cl}:∀(n:Nat) {a b:List Tp},leS l a b→leS l (a.take n) (b.take n)
 | 0,_,_,_=>trivial
 | _+1,[],[],h=>h
 | n+1,_::_,_::_,h=>⟨h.1,aHa n h.2⟩
 | _+1,[],_::_,h=>h.elim
 | _+1,_::_,[],h=>h.elim
theorem aC6 {l:List Cl}:∀{a b c d:List Tp},leS l a b→leS l c d→leS l (a++c) (b++d)
 | [],[],_,_,_,h=>h
 | _::_,_::_,_,_,h1,h2=>⟨h1.1,aC6 h1.2 h2⟩
 | [],_::_,_,_,h,_=>h.elim
 | _::_,[],_,_,h,_=>h.elim
theorem aGG {l:List Cl}:∀{a s:List Tp},a.length=s.length→gS (l.length:Int) a→gS (l.length:Int) s→(∀t∈bN l a s,t.1≠0)→leS l a (bN l a s)∧leS l s (bN l a s)∧gS (l.length:Int) (bN l a s)
 | [],[],_,_,_,_=>⟨trivial,trivial,fun _ h=>(by cases h)⟩
 | [],_::_,h,_,_,_=>by cases h
 | _::_,[],h,_,_,_=>by cases h
 | x::a,y::s,h,ga,gs,hz=>by
  have hm:bN l (x::a) (y::s)=fN l x y::bN l a s:=rfl
  rw[hm] at hz⊢
  obtain⟨i1,i2,i3⟩:=aGG (l:=l) (a:=a) (s:=s) (by simpa using h) (fQ ga).2 (fQ gs).2 fun t ht=>hz t (bZ _ ht)
  obtain⟨j1,j2,j3⟩:=aOh (fQ ga).1 (fQ gs).1 (hz _ (cW ..))
  exact⟨⟨j1,i1⟩,⟨j2,i2⟩,fun t ht=>by
   rcases bV.1 ht with rfl | ht
   ·exact j3
   ·exact i3 t ht⟩
theorem aGH {l:List Cl}:∀{a s c:List Tp},gS (l.length:Int) a→gS (l.length:Int) s→gS (l.length:Int) c→leS l a c→leS l s c→(∀t∈bN l a s,t.1≠0)∧leS l (bN l a s) c
 | [],[],[],_,_,_,_,_=>⟨fun _ h=>(by cases h),trivial⟩
 | x::a,y::s,z::c,ga,gs,gc,h1,h2=>by
  have hm:bN l (x::a) (y::s)=fN l x y::bN l a s:=rfl
  rw[hm]
  obtain⟨i1,i2⟩:=aGH (fQ ga).2 (fQ gs).2 (fQ gc).2 h1.2 h2.2
  obtain⟨j1,j2⟩:=aOj (fQ ga).1 (fQ gs).1 (fQ gc).1 h1.1 h2.1
  exact⟨fun t ht=>by
   rcases bV.1 ht with rfl | ht
   ·exact j1
   ·exact i1 t ht,⟨j2,i2⟩⟩
 | [],_,_::_,_,_,_,h,_=>h.elim
 | _::_,_,[],_,_,_,h,_=>h.elim
 | [],_::_,[],_,_,_,_,h=>h.elim
 | _::_,[],_::_,_,_,_,_,h=>h.elim
end Go.Pli

namespace Go.Pli
open Go Go.PM
abbrev nC (m:Im):Int:=(m.1.length:Int)
theorem aDj {m:Im} {l:List Tp} (h:eS m l=true) {k:Nat} (hk:k<l.length):gT (nC m) (l.getD k zTp):=by
 rw[getD_some (aV hk)]
 exact .inl (bI.1 h _ (eH hk))
theorem aN2 {m:Im} (hs:aL m=true) {f:Int} (hf:inM m f=true) {n:Int} (hn:sin n (((aD m f).1.length+(aD m f).2.1.length:Nat):Int)=true):gT (nC m) (iX (aD m f) n):=by
 have h:=pG hs hf
 simp only[eR,aC] at h
 simp only[sin,aC,aQ] at hn
 unfold iX
 rw[bO (show ¬n<0 by omega),aB,aDo]
 split
 ·exact aDj h.1 (by assumption)
 ·exact aDj h.2.1 (by omega)
theorem aLU {m:Im} (hs:aL m=true) {f:Int} (hf:inM m f=true) (h5:((aD m f).2.2.1.1 !=5)=true):gT (nC m) (aD m f).2.2.1:=by
 have h:=pG hs hf
 simp only[eR,aC,fT] at h
 rcases h.2.2.1 with h | h
 ·have:(aD m f).2.2.1=(5,0,()):=by simpa using h
  rw[this] at h5;cases h5
 ·exact .inl h
theorem aPf {m:Im} (hs:aL m=true) {c:Int} {k:Nat} (hk:k<(dS m c).length):gT (nC m) ((dS m c).getD k zTp):=by
 rw[getD_some (aV hk)]
 have ht:=eH hk
 generalize (dS m c)[k]=t at ht
 unfold dS at ht
 simp only[oY,gF,List.mem_reverse] at ht
 obtain⟨x,⟨s,hsm,rfl⟩,ht⟩:=ht
 have hin:sin s (m.1.length:Int)=true:=by
  unfold cE at hsm
  cases hd:decide (c<(m.1.length:Int)) <;> simp only[hd,aA,aB] at hsm
  ·cases hsm
  ·have:=oP _ _ (gX _) hsm
   have hd:c<(m.1.length:Int):=by simpa using hd
   simp only[sin,aC,aQ]
   omega
 exact .inl (bI.1 (aH2 hs s hin) t ht)
theorem aIS {m:Im} {c:Int} (h:sin c (m.1.length:Int)=true):gT (nC m) (tR c):=by
 simp only[sin,aC,aQ] at h
 refine .inl ?_
 simp only[fM,tR]
 rw[aI h.1,aI h.2]
 rfl
def qJ (n:Int) (e:Eff):Prop:=gS n e.2.1
theorem lI {n:Int} {a:List Tp}:qJ n (a,[],()):=fun _ h=>by cases h
theorem iV {n:Int} {a:List Tp} {t:Tp} (h:gT n t):qJ n (a,[t],()):=fun _ hx=>by rw[dY] at hx;subst hx;exact h
theorem aGe {m:Im} (hs:aL m=true) {g:Int} (hg:inM m g=true) (t:List Tp):qJ (nC m) (hY (aD m g) t):=by
 unfold hY
 cases h:(aD m g).2.2.1.1 !=5 <;> simp only[aA,aB]
 ·exact lI
 ·exact iV (aLU hs hg h)
theorem aNa {n:Int} (o:Int):qJ n (eE o).1:=by
 have h1:gT n tI:= .inl rfl
 have h2:gT n tA:= .inl rfl
 have h3:gT n tN:= .inr rfl
 have P:∀{b:Bool} {x y:Eff×Bool×Unit},qJ n x.1→qJ n y.1→qJ n (bif b then x else y).1:=fun {b} {x} {y} h1 h2=>by cases b;exact h2;exact h1
 unfold eE
 exact P (iV h3) (P lI (P (iV h1) (P (iV h1) (P (iV h1) (P lI (P (iV h1) (P (iV h1) (P lI (P lI (P (iV h2) (P (iV h1) lI)))))))))))
theorem aGd {m:Im} (hs:aL m=true) {i:Ins} {f:Int} (hf:inM m f=true) (hi:bW m (aD m f) i=true):qJ (nC m) (eF m (aD m f) i):=by
 have hcl:=tF hs
 rcases i with⟨o,a,b,⟨⟩⟩
 unfold eF
 cases hp:(eE o).2.1
 case true=>exact aNa _
 simp only[aB]
 cases e:o==3
 case true=>
  obtain rfl:o=3:=by simpa using e
  exact iV (aN2 hs hf (by simpa[bW] using hi))
 simp only[aB]
 cases e:o==4
 case true=>exact lI
 simp only[aB]
 cases e:o==22
 case true=>
  obtain rfl:o=22:=by simpa using e
  exact iV (aIS (by simpa[bW] using hi))
 simp only[aB]
 cases e:o==27
 case true=>
  obtain rfl:o=27:=by simpa using e
  have:sin a (m.1.length:Int)=true∧sin b (iI m a:Int)=true:=by simpa[bW] using hi
  obtain⟨h1,h2⟩:=this
  simp only[sin,aC,aQ] at h1 h2
  rw[←yR h1.2] at h2
  exact iV (aPf hs (by omega))
 simp only[aB]
 cases e:o==28
 case true=>exact lI
 simp only[aB]
 cases e:o==29
 case true=>
  obtain rfl:o=29:=by simpa using e
  have:sin a (m.2.1.length:Int)=true:=by simpa[bW] using hi
  simp only[sin,aC,aQ] at this
  exact iV (aDj (aES hs) (by omega))
 simp only[aB]
 cases e:o==30
 case true=>exact lI
 simp only[aB]
 cases e:o==31
 case true=>
  obtain rfl:o=31:=by simpa using e
  have:sin a (m.2.2.2.1.length:Int)=true:=by simpa[bW] using hi
  exact aGe hs this _
 simp only[aB]
 cases e:o==32
 case true=>
  obtain rfl:o=32:=by simpa using e
  have:sin a (m.1.length:Int)=true∧sin b ((bP m a).2.2.1.length:Int)=true:=by simpa[bW] using hi
  have hsl:gR m a b=true:=by unfold gR;unfold sin at this;rw[this.1,this.2];rfl
  have h1:=wV hsl
  simp only[sin,aC,aQ] at this
  obtain⟨h2,h3⟩:=qW (sR hcl this.1.1 this.1.2) h1
  exact aGe hs (cC.2 h2) _
 simp only[aB]
 cases e:o==34
 case true=>
  obtain rfl:o=34:=by simpa using e
  exact iV (aIS (by simpa[bW] using hi))
 simp only[aB]
 cases o==33 <;> simp only[aA,aB]
 ·exact lI
 ·cases (aD m f).2.2.1.1 !=5 <;> exact lI
theorem zU {m:Im} (hs:aL m=true) {f pc:Int} {s:List Tp} (hok:gS (nC m) s):gS (nC m) (aN m f pc s).1:=by
 have nil:gS (nC m) []:=fun _ h=>by cases h
 unfold aN
 cases hf:inM m f
 ·exact nil
 cases hp:sin pc (codeN m f:Int)
 ·exact nil
 simp only[aH,bA,aB]
 cases (dR (aG m f pc) pc).contains (codeN m f:Int)
 case true=>exact nil
 simp only[aB]
 cases h6:(aG m f pc).1==6 <;> simp only[aA,aB]
 ·have ho:=aGd hs hf (rA hs hf hp)
  unfold mD
  generalize eF m (aD m f) (aG m f pc)=E at ho⊢
  cases decide (s.length<E.1.length) || decide (s.length - E.1.length+E.2.1.length>8) <;> simp only[aA,aB]
  ·cases ((s.drop (s.length - E.1.length)).zip E.1).all fun p=>dU m (aG m f pc).1 p.1 p.2 <;> simp only[aA,aB]
   ·exact nil
   ·intro t ht
    rcases cP.1 ht with ht | ht
    ·exact hok t (aD0 ht)
    ·exact ho t ht
  ·exact nil
 ·cases decide (s.length=0) || decide (s.length≥8) <;> simp only[aA,aB]
  ·intro t ht
   rcases cP.1 ht with ht | ht
   ·exact hok t ht
   ·exact hok t (List.mem_of_mem_drop ht)
  ·exact nil
theorem aPb {m:Im} {o:Int} {a b w:Tp} (h:cF m.1 a b=true) (hb:dU m o b w=true):dU m o a w=true:=by
 unfold dU at hb⊢
 cases h0:w.1==0 <;> simp only[h0,aA,aB] at hb⊢
 cases h4:w.1==4 <;> simp only[h4,aA,aB] at hb⊢
 ·exact aEB h hb
 ·simp only[aC,fT,bne_iff_ne] at hb⊢
  rcases iB.1 h with⟨a4,_⟩ | ⟨a3,_⟩ | ⟨rfl,_⟩
  ·exact⟨uW.2 (.inr (.inr a4)),.inr (by omega)⟩
  ·exact⟨uW.2 (.inr (.inl a3)),.inr (by omega)⟩
  ·exact hb
theorem aJu {m:Im} {o:Int}:∀{a b:List Tp} {w:List Tp},leS m.1 a b→((b.zip w).all fun p=>dU m o p.1 p.2)=true→((a.zip w).all fun p=>dU m o p.1 p.2)=true
 | [],[],_,_,_=>by simp
 | x::a,y::b,[],_,_=>by simp
 | x::a,y::b,w::ws,hle,h=>by
  simp only[List.zip_cons_cons,eV,aC] at h⊢
  exact⟨aPb hle.1 h.1,aJu hle.2 h.2⟩
 | [],_::_,_,h,_=>h.elim
 | _::_,[],_,h,_=>h.elim
theorem aED {m:Im} (hs:aL m=true) {f pc:Int} {s t:List Tp} (hle:leS m.1 s t) (h:(aN m f pc t).2.2.1=0):
  (aN m f pc s).2.2.1=0∧(aN m f pc s).2.1=(aN m f pc t).2.1∧leS m.1 (aN m f pc s).1 (aN m f pc t).1:=by
 have hlen:=pQ hle
 unfold aN at h⊢
 cases hf:inM m f
 ·rw[hf] at h;simp at h
 cases hp:sin pc (codeN m f:Int)
 ·rw[hf,hp] at h;simp at h
 simp only[hf,hp,aH,bA,aB] at h⊢
 cases hn:(dR (aG m f pc) pc).contains (codeN m f:Int)
 case true=>rw[hn] at h;simp at h
 simp only[hn,aB] at h⊢
 have hi:=rA hs hf hp
 cases h6:(aG m f pc).1==6 <;> simp only[h6,aA,aB] at h⊢
 ·have ho:=aGd hs hf hi
  unfold mD at h⊢
  rw[hlen]
  generalize eF m (aD m f) (aG m f pc)=E at h ho⊢
  cases hb:decide (t.length<E.1.length) || decide (t.length - E.1.length+E.2.1.length>8) <;> simp only[hb,aA,aB] at h⊢
  ·cases hz:((t.drop (t.length - E.1.length)).zip E.1).all fun p=>dU m (aG m f pc).1 p.1 p.2 <;> simp only[hz,aA,aB] at h⊢
   ·cases h
   ·rw[aJu (aC5 _ hle) hz]
    exact⟨rfl,rfl,aC6 (aHa _ hle) (yJ ho)⟩
  ·cases h
 ·rw[hlen]
  cases hb:decide (t.length=0) || decide (t.length≥8) <;> simp only[hb,aA,aB] at h⊢
  ·exact⟨trivial,trivial,aC6 hle (aC5 _ hle)⟩
  ·cases h
structure Gd (m:Im) (N:Nat) (h:List Sh):Prop where
 len:h.length=N
 good:∀s∈h,s.2.1.length≤8∧gS (nC m) s.2.1
 bare:∀s∈h,s.1=false→s=zSh
def sh (h:List Sh) (k:Nat):Sh:=h.getD k zSh
theorem Gd.at' {m:Im} {N:Nat} {h:List Sh} (hg:Gd m N h) (k:Nat):(sh h k).2.1.length≤8∧gS (nC m) (sh h k).2.1:=by
 unfold sh
 by_cases hk:k<h.length
 ·rw[getD_some (aV hk)];exact hg.good _ (eH hk)
 ·rw[gU (by omega)];exact⟨dF _,fun _ h=>by cases h⟩
def Bel (m:Im) (h S:List Sh):Prop:=∀k,(sh h k).1=true→(sh S k).1=true∧leS m.1 (sh h k).2.1 (sh S k).2.1
def Cov (m:Im) (f:Int) (h:List Sh) (pc:Nat):Prop:=
 (aN m f (pc:Int) (sh h pc).2.1).2.2.1=0∧∀to∈(aN m f (pc:Int) (sh h pc).2.1).2.1,(sh h to.toNat).1=true∧leS m.1 (aN m f (pc:Int) (sh h pc).2.1).1 (sh h to.toNat).2.1
structure PF (m:Im) (f:Int) (S:List Sh):Prop where
 gd:Gd m (codeN m f) S
 start:(sh S 0).1=true∧(sh S 0).2.1=[]
 cov:∀pc,(sh S pc).1=true→Cov m f S pc
theorem aJm {m:Im} {N:Nat} {h:List Sh} (hg:Gd m N h):Bel m h h:=fun k hk=>⟨hk,yJ (hg.at' k).2⟩
theorem aJk {m:Im} {a b c:List Sh} (h1:Bel m a b) (h2:Bel m b c):Bel m a c:=fun k hk=>by
 obtain⟨i1,i2⟩:=h1 k hk
 obtain⟨j1,j2⟩:=h2 k i1
 exact⟨j1,rX i2 j2⟩
theorem aBu {m:Im} {N:Nat} {a b:List Sh} (ga:Gd m N a) (gb:Gd m N b) (h1:Bel m a b) (h2:Bel m b a):a=b:=by
 refine aD2 (by rw[ga.len,gb.len]) fun k k1 k2=>?_
 have e1:sh a k=a[k]:=getD_some (aV k1)
 have e2:sh b k=b[k]:=getD_some (aV k2)
 rw[←e1,←e2]
 have key:∀(x y:Sh),x.1=y.1→x.2.1=y.2.1→x=y:=by
  rintro ⟨x1,x2,⟨⟩⟩ ⟨y1,y2,⟨⟩⟩ h1 h2
  simp only at h1 h2
  subst h1 h2
  rfl
 cases hs:(sh a k).1
 ·cases hb:(sh b k).1
  ·rw[e1] at hs⊢
   rw[e2] at hb⊢
   rw[ga.bare _ (eH k1) hs,gb.bare _ (eH k2) hb]
  ·have:=(h2 k hb).1
   rw[hs] at this;cases this
 ·obtain⟨i1,i2⟩:=h1 k hs
  exact key _ _ (by rw[hs,i1]) (aHb (ga.at' k).2 (gb.at' k).2 i2 (h2 k i1).2)
theorem nT {h:List Sh} {k:Nat} (hk:k<h.length) (s:Sh) (j:Nat):sh (h.set k s) j=if j=k then s else sh h j:=by
 unfold sh
 rw[dX,dX,iL]
 by_cases hj:k=j
 ·subst hj;simp[hk]
 ·have:¬j=k:=fun h=>hj h.symm
  simp[hj,this]
theorem aGI {m:Im} {o:Sh} {s:List Tp} (ho:o.2.1.length≤8∧gS (nC m) o.2.1) (hs8:s.length≤8) (hs:gS (nC m) s) (h:(cU m.1 o s).2.2.1=true):
  ((cU m.1 o s).1.2.1.length≤8∧gS (nC m) (cU m.1 o s).1.2.1)∧(cU m.1 o s).1.1=true∧leS m.1 s (cU m.1 o s).1.2.1∧(o.1=true→leS m.1 o.2.1 (cU m.1 o s).1.2.1)∧((cU m.1 o s).2.1=false→o.1=true∧(cU m.1 o s).1.2.1=o.2.1):=by
 unfold cU at h⊢
 cases h1:o.1 <;> simp only[h1,bA,cD,aA,aB] at h⊢
 ·exact⟨⟨hs8,hs⟩,trivial,yJ hs,fun h=>(by cases h),fun h=>(by cases h)⟩
 ·cases h2:decide (o.2.1.length≠s.length) <;> simp only[h2,aA,aB] at h⊢
  ·have hlen:o.2.1.length=s.length:=by simpa using h2
   cases h3:(bN m.1 o.2.1 s).any fun t=>t.1==0 <;> simp only[h3,aA,aB] at h⊢
   ·have hz:∀t∈bN m.1 o.2.1 s,t.1≠0:=fun t ht h0=>by
     have:((bN m.1 o.2.1 s).any fun t=>t.1==0)=true:=iM.2 ⟨t,ht,by simp[h0]⟩
     rw[h3] at this;cases this
    obtain⟨i1,i2,i3⟩:=aGG hlen ho.2 hs hz
    refine⟨⟨by rw[uO m.1 hlen];exact hs8,i3⟩,trivial,i2,fun _=>i1,fun h=>⟨trivial,by simpa using h⟩⟩
   ·cases h
  ·cases h
theorem aNG {m:Im} {o S:Sh} {s:List Tp} (ho:gS (nC m) o.2.1) (hS:gS (nC m) S.2.1) (hs:gS (nC m) s) (h1:o.1=true→leS m.1 o.2.1 S.2.1) (h2:leS m.1 s S.2.1):
  (cU m.1 o s).2.2.1=true∧leS m.1 (cU m.1 o s).1.2.1 S.2.1:=by
 unfold cU
 cases ho1:o.1 <;> simp only[bA,cD,aA,aB]
 ·exact⟨trivial,h2⟩
 ·have hle:=h1 ho1
  have hlen:o.2.1.length=s.length:=by rw[pQ hle,pQ h2]
  have e:decide (o.2.1.length≠s.length)=false:=bO fun h=>h hlen
  rw[e]
  simp only[aB]
  obtain⟨i1,i2⟩:=aGH ho hs hS hle h2
  have h3:((bN m.1 o.2.1 s).any fun t=>t.1==0)=false:=by
   cases hh:(bN m.1 o.2.1 s).any fun t=>t.1==0
   ·rfl
   ·obtain⟨t,ht,h0⟩:=iM.1 hh
    exact absurd (by simpa using h0) (i1 t ht)
  rw[h3]
  exact⟨rfl,i2⟩
end Go.Pli

namespace Go.Pli
open Go Go.PM
theorem aJZ {m:Im} (hs:aL m=true) {f pc:Int} {s:List Tp} (h:(aN m f pc s).2.2.1=0):(aN m f pc s).1.length≤s.length+1:=by
 unfold aN at h⊢
 cases hf:inM m f
 ·rw[hf] at h;simp at h
 cases hp:sin pc (codeN m f:Int)
 ·rw[hf,hp] at h;simp at h
 simp only[hf,hp,aH,bA,aB] at h⊢
 cases hn:(dR (aG m f pc) pc).contains (codeN m f:Int)
 case true=>rw[hn] at h;simp at h
 simp only[hn,aB] at h⊢
 cases h6:(aG m f pc).1==6 <;> simp only[h6,aA,aB] at h⊢
 ·have ho:(eF m (aD m f) (aG m f pc)).2.1.length≤1:=by
   have C:∀(x:Mt) (t:List Tp),(hY x t).2.1.length≤1:=fun x t=>by
    unfold hY
    cases x.2.2.1.1 !=5 <;> simp
   have P:∀{b:Bool} {x y:Eff},x.2.1.length≤1→y.2.1.length≤1→(bif b then x else y).2.1.length≤1:=fun {b} {x} {y} h1 h2=>by cases b;exact h2;exact h1
   have Q:∀{b:Bool} {x y:Eff×Bool×Unit},x.1.2.1.length≤1→y.1.2.1.length≤1→(bif b then x else y).1.2.1.length≤1:=fun {b} {x} {y} h1 h2=>by cases b;exact h2;exact h1
   have h1:∀(a:List Tp) (t:Tp),((a,[t],()):Eff).2.1.length≤1:=fun _ _=>aT _
   have h0:∀(a:List Tp),((a,[],()):Eff).2.1.length≤1:=fun _=>dF _
   have hp:(eE (aG m f pc).1).1.2.1.length≤1:=by
    unfold eE
    exact Q (h1 _ _) (Q (h0 _) (Q (h1 _ _) (Q (h1 _ _) (Q (h1 _ _) (Q (h0 _) (Q (h1 _ _) (Q (h1 _ _) (Q (h0 _) (Q (h0 _) (Q (h1 _ _) (Q (h1 _ _) (h0 _))))))))))))
   unfold eF
   exact P hp (P (h1 _ _) (P (h0 _) (P (h1 _ _) (P (h1 _ _) (P (h0 _) (P (h1 _ _) (P (h0 _) (P (C _ _) (P (C _ _) (P (h1 _ _) (P (P (h0 _) (h0 _)) (h0 _))))))))))))
  unfold mD at h⊢
  generalize eF m (aD m f) (aG m f pc)=E at h ho⊢
  cases hb:decide (s.length<E.1.length) || decide (s.length - E.1.length+E.2.1.length>8) <;> simp only[hb,aA,aB] at h⊢
  ·cases hz:((s.drop (s.length - E.1.length)).zip E.1).all fun p=>dU m (aG m f pc).1 p.1 p.2 <;> simp only[hz,aA,aB] at h⊢
   ·exact dF _
   ·rw[aW,bR];omega
  ·exact dF _
 ·cases hb:decide (s.length=0) || decide (s.length≥8) <;> simp only[hb,aA,aB] at h⊢
  ·rw[aW,eB]
   omega
  ·exact dF _
theorem aNE {m:Im} {o:Sh} {s:List Tp} (h:(cU m.1 o s).2.2.1=true) (h':(cU m.1 o s).2.1=true):(cU m.1 o s).1≠o:=by
 unfold cU at h h'⊢
 cases h1:o.1 <;> simp only[h1,bA,cD,aA,aB] at h h'⊢
 ·intro e;rw[←e] at h1;cases h1
 ·cases h2:decide (o.2.1.length≠s.length) <;> simp only[h2,aA,aB] at h h'⊢
  ·cases h3:(bN m.1 o.2.1 s).any fun t=>t.1==0 <;> simp only[h3,aA,aB] at h h'⊢
   ·intro e
    have e2:bN m.1 o.2.1 s=o.2.1:=dD (fun z:Sh=>z.2.1) e
    rw[e2] at h'
    simp at h'
   ·cases h
  ·cases h
theorem aNH {m:Im} {o:Sh} {s:List Tp} (h:(cU m.1 o s).2.2.1=true):(cU m.1 o s).1.2.1.length=s.length:=by
 unfold cU at h⊢
 cases h1:o.1 <;> simp only[h1,bA,cD,aA,aB] at h⊢
 cases h2:decide (o.2.1.length≠s.length) <;> simp only[h2,aA,aB] at h⊢
 ·have hlen:o.2.1.length=s.length:=by simpa using h2
  cases h3:(bN m.1 o.2.1 s).any fun t=>t.1==0 <;> simp only[h3,aA,aB] at h⊢
  ·exact uO m.1 hlen
  ·cases h
 ·cases h
structure aDY (m:Im) (N:Nat) (a:List Tp) (ts:List Int) (h:List Sh) (q:List Bool) (r:Bool×List Sh×List Bool×Unit):Prop where
 gd:Gd m N r.2.1
 ql:r.2.2.1.length=N
 bel:Bel m h r.2.1
 tos:∀to∈ts,(sh r.2.1 to.toNat).1=true∧leS m.1 a (sh r.2.1 to.toNat).2.1
 same:∀k,r.2.2.1.getD k false=false→q.getD k false=false∧sh r.2.1 k=sh h k
 new:∀k,(sh r.2.1 k).1=true→(sh h k).1=true∧(sh r.2.1 k).2.1.length=(sh h k).2.1.length∨(sh r.2.1 k).2.1.length=a.length
 pn:∀k,r.2.2.1.getD k false=true→q.getD k false=true∨(sh r.2.1 k).1=true
 any:q.any id=true→r.2.2.1.any id=true
 mov:q.any id=false→r.2.2.1.any id=true→r.2.1≠h
theorem aJs {q:List Bool} {k:Nat} (hk:k<q.length):(q.set k true).any id=true:=iM.2 ⟨true,by
 have:=eH (l:=q.set k true) (n:=k) (by rwa [dE])
 rwa [List.getElem_set_self] at this,rfl⟩
theorem aQX {m:Im} {N:Nat} {h:List Sh} (hg:Gd m N h) {k:Nat} (hk:k<h.length) {s:Sh} (h1:s.1=true) (h2:(sh h k).1=true→leS m.1 (sh h k).2.1 s.2.1):Bel m h (h.set k s):=fun j hj=>by
 rw[nT hk]
 by_cases e:j=k
 ·rw[if_pos e];subst e;exact⟨h1,h2 hj⟩
 ·rw[if_neg e];exact⟨hj,yJ (hg.at' j).2⟩
theorem aHB {m:Im} {N:Nat} {h:List Sh} (hg:Gd m N h) {k:Nat} {s:Sh} (h1:s.1=true) (h2:s.2.1.length≤8∧gS (nC m) s.2.1):Gd m N (h.set k s):=
 ⟨by rw[dE,hg.len],fun x hx=>by
  rcases wB hx with hx | rfl
  ·exact hg.good x hx
  ·exact h2,fun x hx hf=>by
  rcases wB hx with hx | rfl
  ·exact hg.bare x hx hf
  ·rw[h1] at hf;cases hf⟩
theorem aAF {m:Im} {N:Nat} {a:List Tp} (ha8:a.length≤8) (ha:gS (nC m) a):∀(ts:List Int) (h:List Sh) (q:List Bool),Gd m N h→q.length=N→(∀to∈ts,0≤to∧to<(N:Int))→
  (fJ m.1 a ts h q).1=true→aDY m N a ts h q (fJ m.1 a ts h q)
 | [],h,q,hg,hq,_,_=>⟨hg,hq,aJm hg,fun _ h=>(by cases h),fun _ h=>⟨h,rfl⟩,fun _ h=> .inl ⟨h,rfl⟩,fun _ h=> .inl h,fun h=>h,fun h1 h2=>by rw[show (fJ m.1 a [] h q).2.2.1=q from rfl,h1] at h2;cases h2⟩
 | to::ts,h,q,hg,hq,ht,hr=>by
  obtain⟨t0,t1⟩:=ht to (cW ..)
  have hk:to.toNat<h.length:=by rw[hg.len];omega
  have hkq:to.toNat<q.length:=by rw[hq];omega
  have ht':∀x∈ts,0≤x∧x<(N:Int):=fun x hx=>ht x (bZ _ hx)
  unfold fJ at hr⊢
  have hmf:=aGI (m:=m) (o:=h.getD to.toNat zSh) (hg.at' to.toNat) ha8 ha
  have hmm:=aNE (m:=m) (o:=h.getD to.toNat zSh) (s:=a)
  have hml:=aNH (m:=m) (o:=h.getD to.toNat zSh) (s:=a)
  generalize hM:cU m.1 (h.getD to.toNat zSh) a=M at hr hmf hmm hml⊢
  cases h1:M.2.2.1 <;> simp only[h1,bA,cD,aA,aB] at hr⊢
  ·cases hr
  obtain⟨m1,m2,m3,m4,m5⟩:=hmf h1
  cases h2:M.2.1 <;> simp only[h2,aA,aB] at hr⊢
  ·have I:=aAF ha8 ha ts h q hg hq ht' hr
   obtain⟨e1,e2⟩:=m5 h2
   refine⟨I.gd,I.ql,I.bel,fun x hx=>?_,I.same,I.new,I.pn,I.any,I.mov⟩
   rcases bV.1 hx with rfl | hx
   ·obtain⟨b1,b2⟩:=I.bel x.toNat e1
    rw[e2] at m3
    exact⟨b1,rX m3 b2⟩
   ·exact I.tos x hx
  ·have hg':=aHB (k:=to.toNat) hg m2 m1
   have hb:=aQX hg hk m2 m4
   have I:=aAF ha8 ha ts (h.set to.toNat M.1) (q.set to.toNat true) hg' (by rw[dE,hq]) ht' hr
   have hne:h.set to.toNat M.1≠h:=fun e=>hmm h1 h2 (by
    have:=dD (fun z=>sh z to.toNat) e
    simp only[nT hk] at this
    exact this)
   refine⟨I.gd,I.ql,aJk hb I.bel,fun x hx=>?_,fun k hk0=>?_,fun k hk1=>?_,fun k hk1=>?_,fun _=>I.any (aJs hkq),fun _ _ e=>?_⟩
   ·rcases bV.1 hx with rfl | hx
    ·have e1:sh (h.set x.toNat M.1) x.toNat=M.1:=by rw[nT hk,if_pos rfl]
     obtain⟨b1,b2⟩:=I.bel x.toNat (by rw[e1];exact m2)
     rw[e1] at b2
     exact⟨b1,rX m3 b2⟩
    ·exact I.tos x hx
   ·obtain⟨i1,i2⟩:=I.same k hk0
    have hkn:k≠to.toNat:=fun e=>by
     rw[e,dX,sT hkq] at i1
     cases i1
    rw[nT hk,if_neg hkn] at i2
    rw[dX,oZ (fun e=>hkn e.symm),←dX] at i1
    exact⟨i1,i2⟩
   ·rcases I.new k hk1 with⟨i1,i2⟩ | i
    ·by_cases e:k=to.toNat
     ·rw[nT hk,if_pos e] at i2
      exact .inr (by rw[i2,hml h1])
     ·rw[nT hk,if_neg e] at i1 i2
      exact .inl ⟨i1,i2⟩
    ·exact .inr i
   ·rcases I.pn k hk1 with i | i
    ·by_cases e:k=to.toNat
     ·refine .inr (I.bel k ?_).1
      rw[nT hk,if_pos e]
      exact m2
     ·rw[dX,oZ (fun e'=>e e'.symm),←dX] at i
      exact .inl i
    ·exact .inr i
   ·refine hne (aBu (N:=N) hg' hg ?_ hb)
    have:=I.bel
    rw[e] at this
    exact this
theorem aAG {m:Im} {N:Nat} {a:List Tp} {S:List Sh} (hS:Gd m N S) (ha8:a.length≤8) (ha:gS (nC m) a):∀(ts:List Int) (h:List Sh) (q:List Bool),Gd m N h→Bel m h S→(∀to∈ts,(0≤to∧to<(N:Int))∧(sh S to.toNat).1=true∧leS m.1 a (sh S to.toNat).2.1)→
  (fJ m.1 a ts h q).1=true∧Bel m (fJ m.1 a ts h q).2.1 S
 | [],h,q,hg,hb,_=>⟨rfl,hb⟩
 | to::ts,h,q,hg,hb,ht=>by
  obtain⟨⟨t0,t1⟩,t2,t3⟩:=ht to (cW ..)
  have hk:to.toNat<h.length:=by rw[hg.len];omega
  have ht':=fun x hx=>ht x (bZ _ hx)
  unfold fJ
  have hmf:=aGI (m:=m) (o:=h.getD to.toNat zSh) (hg.at' to.toNat) ha8 ha
  have hmb:=aNG (m:=m) (o:=h.getD to.toNat zSh) (S:=sh S to.toNat) (hg.at' to.toNat).2 (hS.at' to.toNat).2 ha (fun h1=>(hb to.toNat h1).2) t3
  generalize hM:cU m.1 (h.getD to.toNat zSh) a=M at hmf hmb⊢
  obtain⟨b1,b2⟩:=hmb
  obtain⟨m1,m2,m3,m4,m5⟩:=hmf b1
  rw[b1]
  simp only[bA,aB]
  cases h2:M.2.1 <;> simp only[aA,aB]
  ·exact aAG hS ha8 ha ts h q hg hb ht'
  ·refine aAG hS ha8 ha ts _ _ (aHB hg m2 m1) (fun k hk1=>?_) ht'
   rw[nT hk] at hk1⊢
   by_cases e:k=to.toNat
   ·rw[if_pos e] at hk1⊢;subst e;exact⟨t2,b2⟩
   ·rw[if_neg e] at hk1⊢;exact hb k hk1
def DC (h:List Sh):Prop:=∀k,(sh h k).1=true→∀j,j<(sh h k).2.1.length→∃k',(sh h k').1=true∧(sh h k').2.1.length=j
structure WJ (m:Im) (f:Int) (h:List Sh) (q:List Bool):Prop where
 gd:Gd m (codeN m f) h
 ql:q.length=codeN m f
 start:(sh h 0).1=true∧(sh h 0).2.1=[]
 cov:∀pc,(sh h pc).1=true→q.getD pc false=false→Cov m f h pc
 dc:DC h
 pend:∀pc,q.getD pc false=true→(sh h pc).1=true
theorem aJl {m:Im} {h h':List Sh} (hb:Bel m h h') (hs:(sh h 0).1=true∧(sh h 0).2.1=[]):(sh h' 0).1=true∧(sh h' 0).2.1=[]:=by
 obtain⟨i1,i2⟩:=hb 0 hs.1
 refine⟨i1,?_⟩
 have:=pQ i2
 rw[hs.2] at this
 exact List.length_eq_zero_iff.1 this.symm
theorem aPV {m:Im} {f:Int} {h h':List Sh} (hb:Bel m h h') {pc:Nat} (e:sh h' pc=sh h pc) (hc:Cov m f h pc):Cov m f h' pc:=by
 unfold Cov at hc⊢
 rw[e]
 refine⟨hc.1,fun to ht=>?_⟩
 obtain⟨i1,i2⟩:=hc.2 to ht
 obtain⟨j1,j2⟩:=hb _ i1
 exact⟨j1,rX i2 j2⟩
theorem aCk {q:List Bool} (h:q.any id=true):q.findIdx id<q.length∧q.getD (q.findIdx id) false=true:=by
 have hk:=aHT h
 refine⟨hk,?_⟩
 have:=List.findIdx_getElem (p:=id) (xs:=q) (w:=hk)
 rw[getD_some (aV hk)]
 exact this
theorem aPH {m:Im} {N:Nat} {a:List Tp} {ts:List Int} {h:List Sh} {q:List Bool} {r:Bool×List Sh×List Bool×Unit} (O:aDY m N a ts h q r) (hd:DC h) {pc:Nat} (hp:(sh h pc).1=true) (ha:a.length≤(sh h pc).2.1.length+1):DC r.2.1:=by
 have up:∀j,(∃k',(sh h k').1=true∧(sh h k').2.1.length=j)→∃k',(sh r.2.1 k').1=true∧(sh r.2.1 k').2.1.length=j:=by
  rintro j ⟨k',h1,h2⟩
  obtain⟨b1,b2⟩:=O.bel k' h1
  exact⟨k',b1,by rw[←pQ b2];exact h2⟩
 intro k hk j hj
 rcases O.new k hk with⟨i1,i2⟩ | i
 ·exact up j (hd k i1 j (by omega))
 ·by_cases e:j=(sh h pc).2.1.length
  ·exact up j ⟨pc,hp,e.symm⟩
  ·exact up j (hd pc hp j (by omega))
theorem aEg {m:Im} (hs:aL m=true) {f:Int} {h:List Sh} {q:List Bool} (W:WJ m f h q) (ha:q.any id=true)
  (hr:(lC m f (q.findIdx id:Int) h (q.set (q.findIdx id) false)).1=true):
  WJ m f (lC m f (q.findIdx id:Int) h (q.set (q.findIdx id) false)).2.1 (lC m f (q.findIdx id:Int) h (q.set (q.findIdx id) false)).2.2.1:=by
 obtain⟨hk,htrue⟩:=aCk ha
 generalize q.findIdx id=pc at hk htrue hr⊢
 have hp:=W.pend pc htrue
 unfold lC at hr⊢
 rw[aU] at hr⊢
 cases he:(aN m f (pc:Int) (h.getD pc zSh).2.1).2.2.1 !=0 <;> simp only[he,aA,aB] at hr⊢
 ·have he0:(aN m f (pc:Int) (h.getD pc zSh).2.1).2.2.1=0:=by simpa using he
  obtain⟨-,-,h8,hto⟩:=nQ hs he0
  have hlen:=aJZ hs he0
  have O:=aAF (N:=codeN m f) h8 (zU hs (W.gd.at' pc).2) (aN m f (pc:Int) (h.getD pc zSh).2.1).2.1 h (q.set pc false) W.gd (by rw[dE,W.ql]) hto hr
  have hO:=aPH O W.dc hp hlen
  have hst:=aJl O.bel W.start
  refine⟨O.gd,O.ql,hst,fun k hk1 hk2=>?_,hO,fun k hk1=>?_⟩
  ·obtain⟨s1,s2⟩:=O.same k hk2
   by_cases e:k=pc
   ·subst e
    refine⟨by rw[s2];exact he0,fun to ht=>?_⟩
    rw[s2] at ht⊢
    exact O.tos to ht
   ·rw[dX,oZ (fun e'=>e e'.symm),←dX] at s1
    exact aPV O.bel s2 (W.cov k (by rw[←s2];exact hk1) s1)
  ·rcases O.pn k hk1 with i | i
   ·by_cases e:k=pc
    ·subst e
     rw[dX,sT hk] at i
     cases i
    ·rw[dX,oZ (fun e'=>e e'.symm),←dX] at i
     exact (O.bel k (W.pend k i)).1
   ·exact i
 ·cases hr
theorem aGi {m:Im} (hs:aL m=true) {f:Int} (hf:inM m f=true) {h:List Sh} {q:List Bool} (hg:Gd m (codeN m f) h) (hq:q.length=codeN m f) (ha:q.any id=true):
  rR m f (q.findIdx id:Int) h (q.set (q.findIdx id) false)=true:=by
 obtain⟨hk,-⟩:=aCk ha
 rw[hq] at hk
 exact OneP.to ⟨hs,hf,by simp only[sin,aC,aQ];omega,hg.len,by rw[dE,hq],fun s hs=>fK (by have:=(hg.good s hs).1;omega)⟩
theorem aBN {m:Im} (hs:aL m=true) {f:Int} (hf:inM m f=true):∀(n:Nat) (h:List Sh) (q:List Bool) (r:List Sh×Int×Int×Unit),WJ m f h q→pB m f n h q=some r→r.2.2.1=0→PF m f r.1∧DC r.1
 | 0,_,_,_,_,h,_=>by cases h
 | n+1,h,q,r,W,hr,h0=>by
  unfold pB at hr
  cases ha:q.any id <;> simp only[ha,aA,aB] at hr
  ·have:=nI hr
   subst this
   refine⟨⟨W.gd,W.start,fun pc hp=>W.cov pc hp ?_⟩,W.dc⟩
   by_cases hk:pc<q.length
   ·rw[getD_some (aV hk)]
    cases hx:q[pc]
    ·rfl
    ·exact absurd (iM.2 ⟨_,eH hk,hx⟩) (by rw[ha];exact Bool.false_ne_true)
   ·rw[gU (by omega)]
  ·unfold zN at hr
   rw[aGi hs hf W.gd W.ql ha] at hr
   simp only[aA,aJ] at hr
   cases hb:(lC m f (q.findIdx id:Int) h (q.set (q.findIdx id) false)).1 <;> simp only[hb,bA,cD,aA,aB] at hr
   ·have:=nI hr
    subst this
    cases h0
   ·exact aBN hs hf n _ _ r (aEg hs W ha hb) hr h0
theorem aBO {m:Im} (hs:aL m=true) {f:Int} (hf:inM m f=true) {S:List Sh} (hS:PF m f S):∀(n:Nat) (h:List Sh) (q:List Bool) (r:List Sh×Int×Int×Unit),WJ m f h q→Bel m h S→pB m f n h q=some r→r.2.2.1=0∧Bel m r.1 S
 | 0,_,_,_,_,_,h=>by cases h
 | n+1,h,q,r,W,hb,hr=>by
  unfold pB at hr
  cases ha:q.any id <;> simp only[ha,aA,aB] at hr
  ·have:=nI hr
   subst this
   exact⟨rfl,hb⟩
  ·unfold zN at hr
   rw[aGi hs hf W.gd W.ql ha] at hr
   simp only[aA,aJ] at hr
   have key:(lC m f (q.findIdx id:Int) h (q.set (q.findIdx id) false)).1=true∧Bel m (lC m f (q.findIdx id:Int) h (q.set (q.findIdx id) false)).2.1 S:=by
    obtain⟨hk,htrue⟩:=aCk ha
    generalize q.findIdx id=pc at hk htrue
    have hp:=W.pend pc htrue
    obtain⟨p1,p2⟩:=hb pc hp
    obtain⟨c1,c2⟩:=hS.cov pc p1
    obtain⟨s1,s2,s3⟩:=aED hs p2 c1
    obtain⟨-,-,h8,hto⟩:=nQ hs s1
    unfold lC
    rw[aU]
    rw[show (aN m f (pc:Int) (h.getD pc zSh).2.1).2.2.1=0 from s1]
    simp only[bne_self_eq_false,aB]
    refine aAG hS.gd h8 (zU hs (W.gd.at' pc).2) _ h _ W.gd hb fun to ht=>⟨hto to ht,?_⟩
    rw[show (aN m f (pc:Int) (h.getD pc zSh).2.1).2.1=_ from s2] at ht
    obtain⟨d1,d2⟩:=c2 to ht
    exact⟨d1,rX s3 d2⟩
   rw[key.1] at hr
   simp only[bA,aB] at hr
   exact aBO hs hf hS n _ _ r (aEg hs W ha key.1) key.2 hr
theorem wW {m:Im} {f:Int} (hc:0<codeN m f) (k:Nat):sh (gG m f) k=if k=0 then (true,[],()) else zSh:=by
 unfold gG
 rw[nT (by simpa using hc)]
 by_cases e:k=0
 ·rw[if_pos e,if_pos e]
 ·rw[if_neg e,if_neg e]
  unfold sh
  by_cases hk:k<codeN m f
  ·rw[getD_some (aV (by simpa using hk))];simp
  ·rw[gU (by simpa using hk)]
theorem aB0 {m:Im} {f:Int}:Gd m (codeN m f) (gG m f):=by
 refine⟨by simp[gG],fun s hs=>?_,fun s hs h=>?_⟩ <;>
  rcases wB hs with hs | rfl
 ·rw[zA] at hs
  rw[hs.2]
  exact⟨dF _,fun _ h=>by cases h⟩
 ·exact⟨dF _,fun _ h=>by cases h⟩
 ·rw[zA] at hs
  exact hs.2
 ·cases h
theorem aJ4 {m:Im} (hs:aL m=true) {f:Int} (hf:inM m f=true):WJ m f (gG m f) ((List.replicate (codeN m f) false).set 0 true):=by
 have hc:=(fH hs hf).1
 have sq:∀k,((List.replicate (codeN m f) false).set 0 true).getD k false=decide (k=0):=fun k=>by
  by_cases e:k=0
  ·subst e
   rw[dX,sT (by simpa using hc)];rfl
  ·rw[dX,oZ (fun e'=>e e'.symm),bO e]
   rw[List.getElem?_replicate]
   split <;> rfl
 refine⟨aB0,by simp,by rw[wW hc];exact⟨rfl,rfl⟩,fun pc h1 h2=>?_,fun k h1 j hj=>?_,fun k h=>?_⟩
 ·rw[sq] at h2
  rw[wW hc,if_neg (by simpa using h2)] at h1
  cases h1
 ·rw[wW hc] at hj
  by_cases e:k=0
  ·rw[if_pos e] at hj;cases hj
  ·rw[if_neg e] at hj;cases hj
 ·rw[sq] at h
  rw[wW hc,if_pos (by simpa using h)]
theorem zV {m:Im} (hs:aL m=true) {f:Int} (hf:inM m f=true) {S:List Sh} (hS:PF m f S):Bel m (gG m f) S:=fun k h=>by
 have hc:=(fH hs hf).1
 rw[wW hc] at h⊢
 by_cases e:k=0
 ·subst e
  rw[if_pos rfl,hS.start.2]
  exact⟨hS.start.1,trivial⟩
 ·rw[if_neg e] at h;cases h
end Go.Pli

namespace Go.Pli
open Go Go.PM
structure wE (m:Im) (N:Nat) (t:Bool) (h:List Sh) (r:Bool×List Sh):Prop where
 gd:Gd m N r.2
 bel:Bel m h r.2
 still:r.1=false→t=false∧r.2=h
 moved:r.1=true→t=true∨r.2≠h
theorem aHN {m:Im} {N:Nat} {t:Bool} {h:List Sh} (hg:Gd m N h):wE m N t h (t,h):=⟨hg,aJm hg,fun h=>⟨h,rfl⟩,fun h=> .inl h⟩
theorem aO5 {m:Im} {N:Nat} {t:Bool} {h:List Sh} {r z:Bool×List Sh} (hg:Gd m N h) (h1:wE m N t h r) (h2:wE m N r.1 r.2 z):wE m N t h z:=
 ⟨h2.gd,aJk h1.bel h2.bel,fun hz=>by
  obtain⟨a,b⟩:=h2.still hz
  obtain⟨c,d⟩:=h1.still a
  exact⟨c,b.trans d⟩,fun hz=>by
  rcases h2.moved hz with a | a
  ·rcases h1.moved a with b | b
   ·exact .inl b
   ·refine .inr fun e=>b (aBu h1.gd hg ?_ h1.bel)
    rw[←e];exact h2.bel
  ·refine .inr fun e=>a ?_
   have:Bel m r.2 h:=by rw[←e];exact h2.bel
   rw[e]
   exact aBu hg h1.gd h1.bel this⟩
theorem aA5 {m:Im} {N:Nat} {a:List Tp}:∀(ts:List Int) (h:List Sh) (q:List Bool),q.length=N→(∀to∈ts,0≤to∧to<(N:Int))→
  jT m.1 a ts (q.any id) h=bif (fJ m.1 a ts h q).1 then some ((fJ m.1 a ts h q).2.2.1.any id,(fJ m.1 a ts h q).2.1) else none
 | [],_,_,_,_=>rfl
 | to::ts,h,q,hq,ht=>by
  obtain⟨t0,t1⟩:=ht to (cW ..)
  have hkq:to.toNat<q.length:=by rw[hq];omega
  have ht':∀x∈ts,0≤x∧x<(N:Int):=fun x hx=>ht x (bZ _ hx)
  unfold jT fJ
  generalize cU m.1 (h.getD to.toNat zSh) a=M
  cases h1:M.2.2.1 <;> simp only[bA,cD,aA,aB]
  cases h2:M.2.1 <;> simp only[aA,aB]
  ·exact aA5 ts h q hq ht'
  ·have:=aA5 (m:=m) (a:=a) ts (h.set to.toNat M.1) (q.set to.toNat true) (by rw[dE,hq]) ht'
   rw[aJs hkq] at this
   exact this
theorem aBw {N:Nat} (hN:0<N) (t:Bool):(List.replicate N t).any id=t:=by
 cases t
 ·cases h:(List.replicate N false).any id
  ·rfl
  ·obtain⟨x,hx,hx'⟩:=iM.1 h
   rw[zA] at hx
   rw[hx.2] at hx';cases hx'
 ·exact iM.2 ⟨true,zA.2 ⟨by omega,rfl⟩,rfl⟩
theorem aJt {m:Im} {N:Nat} {a:List Tp} {ts:List Int} {h:List Sh} {q:List Bool} {r:Bool×List Sh×List Bool×Unit} (O:aDY m N a ts h q r) (hg:Gd m N h) (h0:r.2.2.1.any id=false):r.2.1=h:=by
 have hk:∀k,sh r.2.1 k=sh h k:=fun k=>(O.same k (by
  by_cases hk:k<r.2.2.1.length
  ·rw[getD_some (aV hk)]
   cases hx:r.2.2.1[k]
   ·rfl
   ·exact absurd (iM.2 ⟨_,eH hk,hx⟩) (by rw[h0];exact Bool.false_ne_true)
  ·rw[gU (by omega)])).2
 refine aD2 (by rw[O.gd.len,hg.len]) fun k k1 k2=>?_
 have:=hk k
 unfold sh at this
 rwa [getD_some (aV k1),getD_some (aV k2)] at this
theorem aHP {m:Im} (hs:aL m=true) {f:Int} {pc:Nat} {t:Bool} {h:List Sh} {r:Bool×List Sh} (hg:Gd m (codeN m f) h) (hr:mX m f pc t h=some r):
  wE m (codeN m f) t h r∧(r.1=false→(sh h pc).1=true→Cov m f h pc):=by
 unfold mX at hr
 cases h1:(h.getD pc zSh).1 <;> simp only[h1,bA,cD,aA,aB] at hr
 ·have:=nI hr
  subst this
  exact⟨aHN hg,fun _ h2=>by rw[show (sh h pc).1=false from h1] at h2;cases h2⟩
 ·cases he:(aN m f (pc:Int) (h.getD pc zSh).2.1).2.2.1 !=0 <;> simp only[he,aA,aB] at hr
  ·have he0:(aN m f (pc:Int) (h.getD pc zSh).2.1).2.2.1=0:=by simpa using he
   obtain⟨-,hp,h8,hto⟩:=nQ hs he0
   have hN:0<codeN m f:=by simp only[sin,aC,aQ] at hp;omega
   have hE:=aA5 (m:=m) (N:=codeN m f) (a:=(aN m f (pc:Int) (h.getD pc zSh).2.1).1) (aN m f (pc:Int) (h.getD pc zSh).2.1).2.1 h (List.replicate (codeN m f) t) (by simp) hto
   rw[aBw hN,hr] at hE
   have O:=aAF (N:=codeN m f) h8 (zU hs (hg.at' pc).2) (aN m f (pc:Int) (h.getD pc zSh).2.1).2.1 h (List.replicate (codeN m f) t) hg (by simp) hto
   generalize fJ m.1 (aN m f (pc:Int) (h.getD pc zSh).2.1).1 (aN m f (pc:Int) (h.getD pc zSh).2.1).2.1 h (List.replicate (codeN m f) t)=z at hE O
   cases hz:z.1 <;> rw[hz] at hE <;> simp only[aA,aB] at hE
   ·cases hE
   have O:=O hz
   have:=nI hE
   subst this
   refine⟨⟨O.gd,O.bel,fun h0=>⟨?_,aJt O hg h0⟩,fun h1=>?_⟩,fun h0 _=>⟨he0,fun to ht=>?_⟩⟩
   ·cases t
    ·rfl
    ·have:=O.any (aBw hN true)
     rw[show z.2.2.1.any id=false from h0] at this;cases this
   ·cases t
    ·exact .inr (O.mov (aBw hN false) h1)
    ·exact .inl rfl
   ·have:=O.tos to ht
    rw[aJt O hg h0] at this
    exact this
  ·cases hr
theorem aA4 {m:Im} (hs:aL m=true) {f:Int}:∀(n:Nat) (t:Bool) (h:List Sh) (r:Bool×List Sh),Gd m (codeN m f) h→iH m f n t h=some r→
  wE m (codeN m f) t h r∧(r.1=false→∀pc,pc<n→(sh h pc).1=true→Cov m f h pc)
 | 0,t,h,r,hg,hr=>by
  have:=nI hr
  subst this
  exact⟨aHN hg,fun _ _ h=>(by cases h)⟩
 | n+1,t,h,r,hg,hr=>by
  unfold iH at hr
  cases hz:mX m f n t h with
  | none=>rw[hz] at hr;cases hr
  | some z=>
   rw[hz] at hr
   simp only[aJ] at hr
   obtain⟨F1,F2⟩:=aHP hs hg hz
   obtain⟨G1,G2⟩:=aA4 hs n z.1 z.2 r F1.gd hr
   refine⟨aO5 hg F1 G1,fun h0 pc hp hseen=>?_⟩
   obtain⟨a,b⟩:=G1.still h0
   obtain⟨c,d⟩:=F1.still a
   by_cases e:pc=n
   ·subst e;exact F2 a hseen
   ·have:=G2 h0 pc (by omega)
    rw[d] at this
    exact this hseen
theorem aO6 {m:Im} {N:Nat} {a:List Tp} {S:List Sh} (hS:Gd m N S) (ha8:a.length≤8) (ha:gS (nC m) a) (hN:0<N) {ts:List Int} {t:Bool} {h:List Sh} (hg:Gd m N h) (hb:Bel m h S) (ht:∀to∈ts,(0≤to∧to<(N:Int))∧(sh S to.toNat).1=true∧leS m.1 a (sh S to.toNat).2.1):
  ∃r,jT m.1 a ts t h=some r∧Bel m r.2 S:=by
 have hE:=aA5 (m:=m) (N:=N) (a:=a) ts h (List.replicate N t) (by simp) (fun to h=>(ht to h).1)
 rw[aBw hN] at hE
 obtain⟨b1,b2⟩:=aAG hS ha8 ha ts h (List.replicate N t) hg hb ht
 rw[b1] at hE
 exact⟨_,hE,b2⟩
theorem aHM {m:Im} (hs:aL m=true) {f:Int} {S:List Sh} (hS:PF m f S):∀(n:Nat) (t:Bool) (h:List Sh),Gd m (codeN m f) h→Bel m h S→∃r,iH m f n t h=some r∧Bel m r.2 S
 | 0,t,h,_,hb=>⟨_,rfl,hb⟩
 | n+1,t,h,hg,hb=>by
  have key:∃r,mX m f n t h=some r∧Bel m r.2 S:=by
   unfold mX
   cases h1:(h.getD n zSh).1 <;> simp only[bA,cD,aA,aB]
   ·exact⟨_,rfl,hb⟩
   ·obtain⟨p1,p2⟩:=hb n h1
    obtain⟨c1,c2⟩:=hS.cov n p1
    obtain⟨s1,s2,s3⟩:=aED hs p2 c1
    obtain⟨-,hp,h8,hto⟩:=nQ hs s1
    have hN:0<codeN m f:=by simp only[sin,aC,aQ] at hp;omega
    rw[show (aN m f (n:Int) (h.getD n zSh).2.1).2.2.1=0 from s1]
    simp only[bne_self_eq_false,aB]
    refine aO6 hS.gd h8 (zU hs (hg.at' n).2) hN hg hb fun to ht=>⟨hto to ht,?_⟩
    rw[show (aN m f (n:Int) (h.getD n zSh).2.1).2.1=_ from s2] at ht
    obtain⟨d1,d2⟩:=c2 to ht
    exact⟨d1,rX s3 d2⟩
  obtain⟨z,hz,hzb⟩:=key
  obtain⟨F1,-⟩:=aHP hs hg hz
  obtain⟨r,hr,hrb⟩:=aHM hs hS n z.1 z.2 F1.gd hzb
  unfold iH
  rw[hz]
  exact⟨r,hr,hrb⟩
def h8 (l:List Cl) (t:Tp):Nat:=if t.1=4 then 8 else if t.1=3 then (bS l t.2.1).length - 1 else 0
theorem aOI {l:List Cl} (hl:l.length≤8) (t:Tp):h8 l t≤8:=by
 have:=aBn hl t.2.1
 unfold h8
 split
 ·omega
 ·split <;> omega
theorem aOH {l:List Cl} (hl:l.length≤8) {a b:Tp} (ga:gT (l.length:Int) a) (gb:gT (l.length:Int) b) (h:cF l a b=true):a=b∨h8 l b<h8 l a:=by
 have hc:=aBn hl b.2.1
 rcases iB.1 h with⟨a4,hb⟩ | ⟨a3,b3,hab⟩ | ⟨h,_⟩
 ·by_cases b4:b.1=4
  ·have e1:=aA2 ga a4
   have e2:=aA2 gb b4
   exact .inl (qR (by omega) (by omega))
  ·refine .inr ?_
   unfold h8
   rw[if_neg b4,if_pos a4]
   split <;> omega
 ·by_cases e:b.2.1=a.2.1
  ·exact .inl (qR (by omega) e.symm)
  ·refine .inr ?_
   have hb:=nH.1 hab
   have:=(aBm _ _ (gX _) hb.2.2.2).2 e
   have h1:0<(bS l b.2.1).length:=by rw[gI hb.1];simp
   unfold h8
   rw[if_neg (by omega),if_pos b3,if_neg (by omega),if_pos a3]
   omega
 ·exact .inl h
def hs8 (l:List Cl) (s:List Tp):Nat:=aZ (s.map (h8 l))
theorem aDg {l:List Cl} (hl:l.length≤8):∀s:List Tp,hs8 l s≤8*s.length
 | []=>aT _
 | t::s=>by
  have:=aDg hl s
  have:=aOI hl t
  unfold hs8 at*
  simp only[dK,aZ,aF]
  omega
theorem aHq {l:List Cl} (hl:l.length≤8):∀{a b:List Tp},gS (l.length:Int) a→gS (l.length:Int) b→leS l a b→hs8 l b≤hs8 l a∧(a≠b→hs8 l b<hs8 l a)
 | [],[],_,_,_=>⟨aT _,fun h=>absurd rfl h⟩
 | x::a,y::b,ga,gb,h=>by
  obtain⟨i1,i2⟩:=aHq hl (fQ ga).2 (fQ gb).2 h.2
  have j:=aOH hl (fQ ga).1 (fQ gb).1 h.1
  unfold hs8 at*
  simp only[dK,aZ]
  rcases j with rfl | j
  ·exact⟨by omega,fun hne=>by have:=i2 fun e=>hne (by rw[e]);omega⟩
  ·exact⟨by omega,fun _=>by omega⟩
 | [],_::_,_,_,h=>h.elim
 | _::_,[],_,_,h=>h.elim
def pw (l:List Cl) (S h:Sh):Nat:=if S.1 then (if h.1 then hs8 l h.2.1 else 1+8*S.2.1.length) else 0
def pot (l:List Cl) (N:Nat) (S h:List Sh):Nat:=aZ ((List.range N).map fun k=>pw l (sh S k) (sh h k))
theorem zQ {α:Type} {f g:α→Nat}:∀(l:List α),(∀x∈l,f x≤g x)→aZ (l.map f)≤aZ (l.map g)
 | [],_=>aT _
 | x::l,h=>by
  have:=zQ l fun y hy=>h y (bZ _ hy)
  have:=h x (cW ..)
  simp only[dK,aZ]
  omega
theorem aEz {α:Type} {f g:α→Nat}:∀(l:List α),(∀x∈l,f x≤g x)→(∃x∈l,f x<g x)→aZ (l.map f)<aZ (l.map g)
 | [],_,h=>by obtain⟨x,hx,_⟩:=h;cases hx
 | x::l,h,⟨y,hy,hlt⟩=>by
  have i:=zQ l fun y hy=>h y (bZ _ hy)
  have j:=h x (cW ..)
  simp only[dK,aZ]
  rcases bV.1 hy with rfl | hy
  ·omega
  ·have:=aEz l (fun y hy=>h y (bZ _ hy)) ⟨y,hy,hlt⟩
   omega
theorem aMP {m:Im} (hl:m.1.length≤8) {N:Nat} {S h h':List Sh} (hg:Gd m N h) (hg':Gd m N h') (hb:Bel m h h') (hbS:Bel m h' S) (hne:h'≠h):pot m.1 N S h'<pot m.1 N S h:=by
 have key:∀k,pw m.1 (sh S k) (sh h' k)≤pw m.1 (sh S k) (sh h k)∧(sh h' k≠sh h k→pw m.1 (sh S k) (sh h' k)<pw m.1 (sh S k) (sh h k)):=fun k=>by
  unfold pw
  cases h1:(sh h' k).1
  ·have h0:(sh h k).1=false:=by
    cases h0:(sh h k).1
    ·rfl
    ·have:=(hb k h0).1
     rw[h1] at this;cases this
   rw[h0]
   refine⟨aT _,fun hne=>absurd ?_ hne⟩
   have z:∀{x:List Sh},Gd m N x→(sh x k).1=false→sh x k=zSh:=fun {x} hx h=>by
    unfold sh at h⊢
    by_cases hk:k<x.length
    ·rw[getD_some (aV hk)] at h⊢
     exact hx.bare _ (eH hk) h
    ·exact gU (by omega)
   rw[z hg' h1,z hg h0]
  ·obtain⟨s1,s2⟩:=hbS k h1
   rw[s1]
   cases h0:(sh h k).1 <;> simp only[cJ,jZ,cG]
   ·have:=aDg hl (sh h' k).2.1
    rw[pQ s2] at this
    exact⟨by omega,fun _=>by omega⟩
   ·obtain⟨-,b2⟩:=hb k h0
    obtain⟨c1,c2⟩:=aHq hl (hg.at' k).2 (hg'.at' k).2 b2
    refine⟨c1,fun hne=>c2 fun e=>hne ?_⟩
    generalize sh h' k=x at h1 e⊢
    generalize sh h k=y at h0 e⊢
    obtain⟨x1,x2,⟨⟩⟩:=x
    obtain⟨y1,y2,⟨⟩⟩:=y
    simp only at h1 h0 e
    subst h1 h0 e
    rfl
 refine aEz _ (fun k _=>(key k).1) ?_
 have:∃k,k<N∧sh h' k≠sh h k:=Classical.byContradiction fun hno=>hne (by
  refine aD2 (by rw[hg'.len,hg.len]) fun k k1 k2=>?_
  have e:sh h' k=sh h k:=Classical.byContradiction fun h=>hno ⟨k,by rw[←hg'.len];exact k1,h⟩
  unfold sh at e
  rwa [getD_some (aV k1),getD_some (aV k2)] at e)
 obtain⟨k,hk,hne⟩:=this
 exact⟨k,wA.2 hk,(key k).2 hne⟩
theorem zR {α:Type} (f g:α→Nat):∀l:List α,aZ (l.map fun x=>f x+g x)=aZ (l.map f)+aZ (l.map g)
 | []=>rfl
 | x::l=>by have:=zR f g l;simp only[dK,aZ];omega
theorem aBW {c:Nat}:∀{N a:Nat},a<N→aZ ((List.range N).map fun k=>if k=a then c else 0)=c:=by
 have app:∀(a b:List Nat),aZ (a++b)=aZ a+aZ b:=fun a b=>by
  induction a with
  | nil=>simp[aZ]
  | cons x a ih=>simp only[qN,aZ,ih];omega
 have z:∀{N a:Nat},N≤a→aZ ((List.range N).map fun k=>if k=a then c else 0)=0:=fun {N} {a} h=>by
  induction N with
  | zero=>rfl
  | succ n ih=>
   rw[List.range_succ,jD,app,ih (by omega)]
   simp only[dK,List.map_nil,aZ]
   rw[if_neg (by omega)]
 intro N a h
 induction N with
 | zero=>cases h
 | succ n ih=>
  rw[List.range_succ,jD,app]
  simp only[dK,List.map_nil,aZ]
  by_cases e:n=a
  ·rw[z (by omega),if_pos e];omega
  ·rw[ih (by omega),if_neg e];omega
theorem aEy {f:Nat→Nat} {c:Nat}:∀(N:Nat),(∀k,f k≤c)→aZ ((List.range N).map f)≤c*N:=fun N h=>by
 have:=zQ (f:=f) (g:=fun _=>c) (List.range N) fun k _=>h k
 have e:aZ ((List.range N).map fun _=>c)=c*N:=by
  have:∀l:List Nat,aZ (l.map fun _=>c)=c*l.length:=fun l=>by
   induction l with
   | nil=>rfl
   | cons x l ih=>simp only[dK,aZ,ih,aF];rw[Nat.mul_succ];omega
  rw[this,List.length_range]
 omega
theorem aMO {m:Im} {f:Int} (hc:codeN m f≤64) {S h:List Sh} (hl:m.1.length≤8) (hS:PF m f S) (hd:DC S) (hb:Bel m h S):pot m.1 (codeN m f) S h<4000:=by
 let v:Nat→Nat:=fun k=>if (sh S k).1 then 1+8*(sh S k).2.1.length else 0
 have hv:∀k,pw m.1 (sh S k) (sh h k)≤v k:=fun k=>by
  show _≤(if (sh S k).1 then 1+8*(sh S k).2.1.length else 0)
  unfold pw
  split
  ·split
   ·rename_i h1
    have:=aDg hl (sh h k).2.1
    rw[pQ (hb k h1).2] at this
    omega
   ·omega
  ·omega
 have h1:pot m.1 (codeN m f) S h≤aZ ((List.range (codeN m f)).map v):=zQ _ fun k _=>hv k
 have h65:∀k,v k≤65:=fun k=>by
  show (if (sh S k).1 then 1+8*(sh S k).2.1.length else 0)≤65
  have:=(hS.gd.at' k).1
  split <;> omega
 by_cases h3:∃k,(sh S k).1=true∧2<(sh S k).2.1.length
 ·obtain⟨k,k1,k2⟩:=h3
  obtain⟨k0,a1,a2⟩:=hd k k1 0 (by omega)
  obtain⟨k1',b1,b2⟩:=hd k k1 1 (by omega)
  obtain⟨k2',c1,c2⟩:=hd k k1 2 (by omega)
  have inN:∀{j},(sh S j).1=true→j<codeN m f:=fun {j} h=>by
   by_cases hj:j<codeN m f
   ·exact hj
   ·unfold sh at h
    rw[gU (by rw[hS.gd.len];omega)] at h
    cases h
  have n01:k0≠k1':=fun e=>by subst e;omega
  have n02:k0≠k2':=fun e=>by subst e;omega
  have n12:k1'≠k2':=fun e=>by subst e;omega
  have key:=aEy (f:=fun k=>v k+((if k=k0 then 64 else 0)+((if k=k1' then 56 else 0)+(if k=k2' then 48 else 0)))) (c:=65) (codeN m f) fun k=>by
   have:=h65 k
   by_cases e0:k=k0
   ·have:v k=1:=by show (if (sh S k).1 then 1+8*(sh S k).2.1.length else 0)=1;subst e0;rw[a1,a2];rfl
    simp only[if_pos e0,if_neg (show k≠k1' by omega),if_neg (show k≠k2' by omega)]
    omega
   ·by_cases e1:k=k1'
    ·have:v k=9:=by show (if (sh S k).1 then 1+8*(sh S k).2.1.length else 0)=9;subst e1;rw[b1,b2];rfl
     simp only[if_pos e1,if_neg e0,if_neg (show k≠k2' by omega)]
     omega
    ·by_cases e2:k=k2'
     ·have:v k=17:=by show (if (sh S k).1 then 1+8*(sh S k).2.1.length else 0)=17;subst e2;rw[c1,c2];rfl
      simp only[if_pos e2,if_neg e0,if_neg e1]
      omega
     ·simp only[if_neg e2,if_neg e0,if_neg e1]
      omega
  rw[zR v,zR,zR,aBW (inN a1),aBW (inN b1),aBW (inN c1)] at key
  omega
 ·have:=aEy (f:=v) (c:=17) (codeN m f) fun k=>by
   show (if (sh S k).1 then 1+8*(sh S k).2.1.length else 0)≤17
   split
   ·rename_i hk
    have:¬2<(sh S k).2.1.length:=fun h=>h3 ⟨k,hk,h⟩
    omega
   ·omega
  omega
theorem aLF {m:Im} (hs:aL m=true) {f:Int} {h:List Sh} {r:Bool×List Sh} (hg:Gd m (codeN m f) h) (hst:(sh h 0).1=true∧(sh h 0).2.1=[]) (hr:iH m f (codeN m f) false h=some r) (h0:r.1=false):PF m f r.2:=by
 obtain⟨F,G⟩:=aA4 hs _ _ _ _ hg hr
 obtain⟨-,e⟩:=F.still h0
 rw[e]
 refine⟨hg,hst,fun pc hp=>?_⟩
 by_cases hk:pc<codeN m f
 ·exact G h0 pc hk hp
 ·unfold sh at hp
  rw[gU (by rw[hg.len];omega)] at hp
  cases hp
theorem aE5 {m:Im} (hs:aL m=true) {f:Int}:∀(n:Nat) (h:List Sh),Gd m (codeN m f) h→((sh h 0).1=true∧(sh h 0).2.1=[])→(gH m f n h=([],false,()))∨((gH m f n h).2.1=true∧PF m f (gH m f n h).1)
 | 0,_,_,_=> .inl rfl
 | n+1,h,hg,hst=>by
  unfold gH
  cases hr:iH m f (codeN m f) false h with
  | none=>exact .inl rfl
  | some r=>
   simp only
   cases h1:r.1 <;> simp only[aA,aB]
   ·exact .inr ⟨trivial,aLF hs hg hst hr h1⟩
   ·obtain⟨F,-⟩:=aA4 hs _ _ _ _ hg hr
    exact aE5 hs n r.2 F.gd (aJl F.bel hst)
theorem aE7 {m:Im} (hs:aL m=true) {f:Int} {S:List Sh} (hl:m.1.length≤8) (hS:PF m f S):∀(n:Nat) (h:List Sh),Gd m (codeN m f) h→Bel m h S→pot m.1 (codeN m f) S h<n→(gH m f n h).2.1=true∧Bel m (gH m f n h).1 S
 | 0,_,_,_,h=>by omega
 | n+1,h,hg,hb,hp=>by
  obtain⟨r,hr,hrb⟩:=aHM hs hS (codeN m f) false h hg hb
  obtain⟨F,-⟩:=aA4 hs _ _ _ _ hg hr
  unfold gH
  rw[hr]
  simp only
  cases h1:r.1 <;> simp only[aA,aB]
  ·exact⟨trivial,hrb⟩
  ·refine aE7 hs hl hS n r.2 F.gd hrb ?_
   have:=aMP hl hg F.gd F.bel hrb ((F.moved h1).resolve_left Bool.false_ne_true)
   omega
theorem aGE {m:Im} (hs:aL m=true) {f:Int} (hf:inM m f=true):∃r,wK m f=some r∧wD (codeN m f) r.1∧
  (r.2.2.1=0→gH m f 4000 (gG m f)=(r.1,true,()))∧(r.2.2.1≠0→gH m f 4000 (gG m f)=([],false,()))∧(r.2.2.1=0→PF m f r.1):=by
 obtain⟨r,hr,hg⟩:=aEi hs hf
 have hl:=(dG (dQ hs).1).classes
 have hc:=fH hs hf
 have W:=aJ4 hs hf
 have hw:=hr
 unfold wK at hw
 rw[hs,hf] at hw
 simp only[aH,aA] at hw
 have R:=aE5 hs (f:=f) 4000 (gG m f) aB0 W.start
 refine⟨r,hr,hg,fun h0=>?_,fun h0=>?_,fun h0=>(aBN hs hf _ _ _ _ W hw h0).1⟩
 ·obtain⟨P,D⟩:=aBN hs hf _ _ _ _ W hw h0
  obtain⟨e1,e2⟩:=aE7 hs hl P 4000 (gG m f) aB0 (zV hs hf P) (aMO hc.2 hl P D (zV hs hf P))
  rcases R with R | ⟨_,R⟩
  ·rw[R] at e1;cases e1
  ·obtain⟨-,b⟩:=aBO hs hf R _ _ _ _ W (zV hs hf R) hw
   have e:=aBu R.gd P.gd e2 b
   generalize gH m f 4000 (gG m f)=z at e1 e
   obtain⟨z1,z2,⟨⟩⟩:=z
   simp only at e1 e
   rw[e1,e]
 ·rcases R with R | ⟨_,R⟩
  ·exact R
  ·exact absurd (aBO hs hf R _ _ _ _ W (zV hs hf R) hw).1 h0
theorem aIV {m:Im} (hs:aL m=true):∀(l:List Int) (out:List (List Sh)),(∀f∈l,inM m f=true)→∃r,qC m l out=some r∧
  (r.2.2.2.1=0→sQ m l out=(r.1,-1,()))∧(r.2.2.2.1≠0→sQ m l out=([],r.2.1,())∧inM m r.2.1=true)∧(r.2.2.2.1=0→r.1.length=out.length+l.length)
 | [],out,_=>⟨_,rfl,fun _=>rfl,fun h=>absurd rfl h,fun _=>rfl⟩
 | f::l,out,hl=>by
  have hf:=hl f (cW ..)
  obtain⟨r,hr,-,h1,h2,-⟩:=aGE hs hf
  unfold qC sQ
  rw[hr]
  simp only[aJ]
  cases he:r.2.2.1 !=0 <;> simp only[aA,aB]
  ·rw[h1 (by simpa using he)]
   obtain⟨r',i1,i2,i3,i4⟩:=aIV hs l (out++[r.1]) fun x hx=>hl x (bZ _ hx)
   exact⟨r',i1,i2,i3,fun h0=>by rw[i4 h0];simp;omega⟩
  ·have h0:r.2.2.1≠0:=by simpa using he
   rw[h2 h0]
   exact⟨_,rfl,fun h=>absurd h h0,fun _=>⟨rfl,hf⟩,fun h=>absurd h h0⟩
theorem aJQ {m:Im} (hs:aL m=true):∃r,tC m=some r∧(r.2.2.2.1=0→jP m=some (r.1,-1,())∧r.1.length=m.2.2.2.1.length)∧(r.2.2.2.1≠0→jP m=some ([],r.2.1,())∧inM m r.2.1=true):=by
 obtain⟨r,h1,h2,h3,h4⟩:=aIV hs (ints m.2.2.2.1.length) [] fun f hf=>cC.2 (pN.1 hf)
 refine⟨r,?_,fun h0=>⟨?_,?_⟩,fun h0=>⟨?_,(h3 h0).2⟩⟩
 ·unfold tC;rw[hs];exact h1
 ·unfold jP;rw[hs,h2 h0];rfl
 ·rw[h4 h0,vA];simp
 ·unfold jP;rw[hs,(h3 h0).1];rfl
end Go.Pli

namespace Go.Pli
open Go Go.PM
theorem aOq {m:Im} (hs:aL m=true) {f:Int} (hf:inM m f=true) {pc:Int} (hp:sin pc (codeN m f:Int)=true):fB (aG m f pc)=true:=by
 obtain⟨h0,h1⟩:=cC.1 hf
 exact (mP ((dG (dQ hs).1).mts _ (rT h0 h1))).2.2.2.1.2 _ (aDc hp)
theorem aEp {m:Im} (hs:aL m=true) {f:Int} (hf:inM m f=true) {pc:Int} (hp:sin pc (codeN m f:Int)=true):∀g∈cN m (aG m f pc),inM m g=true:=fun g hg=>
 aEo (aEq (dQ hs).2) hf (aCS.1 (oY.2 ⟨_,gF.2 ⟨_,aDc hp,rfl⟩,hg⟩))
theorem aPX {m:Im} (hs:aL m=true) {f:Int} (hf:inM m f=true) {pc:Int} (hp:sin pc (codeN m f:Int)=true):jU m (aG m f pc)=uA m (aG m f pc):=by
 have hg:=aOq hs hf hp
 have ht:=aEp hs hf hp
 have hfil:(cN m (aG m f pc)).filter (inM m)=cN m (aG m f pc):=List.filter_eq_self.2 ht
 unfold jU uA
 rw[hfil]
 generalize aG m f pc=i at hg
 cases h22:i.1==22 <;> simp only[aA,aB]
 cases h23:i.1==23 <;> simp only[aA,aB]
 have e:i.1=23:=by simpa using h23
 unfold fB at hg
 rw[e] at hg
 simp only[aC] at hg
 have h1:=hg.2.1
 unfold wG at h1
 rw[show eD 23=1 from rfl] at h1
 simp only[show decide ((0:Int)≥1)=false from rfl,aB,aC,aQ] at h1
 congr 2
 omega
end Go.Pli

namespace Go.Pli
open Go Go.PM
theorem aJY {m:Im} {f pc:Int} {s:List Tp} (h:(aN m f pc s).2.2.1≠0):(aN m f pc s).2.1=[]:=by
 have C:∀{b:Bool} {x y:St4},(x.2.2.1≠0→x.2.1=[])→(y.2.2.1≠0→y.2.1=[])→((bif b then x else y).2.2.1≠0→(bif b then x else y).2.1=[]):=fun {b} {x} {y} h1 h2=>by cases b;exact h2;exact h1
 revert h
 unfold aN mD
 exact C (fun _=>rfl) (C (fun _=>rfl) (C (C (fun _=>rfl) (fun h=>absurd rfl h)) (C (fun _=>rfl) (C (fun h=>absurd rfl h) (fun _=>rfl)))))
end Go.Pli

namespace Go.Pli
open Go Go.PM
theorem aQw (s:List Mt):aIJ s=some (idL s,()):=by simp[aIJ,idL]
theorem aOE (m:Im) (r) (h:vB m=some r):∃k,aHn k m=some r:=by
 unfold vB at h
 cases hi:bX m <;> simp only[hi,aA,aB] at h
 ·cases h
 injection h with h
 subst h
 have hf:=dG hi
 have h8:=hf.classes
 have h12:=hf.methods
 have h16:=hf.ints
 have hst:=hf.statics
 have hent:=hf.entries
 simp only[gP,iZ,aC,aQ] at hst hent
 refine⟨100,?_⟩
 have k1:aE (aAZ m ((m.1.length:Int),(m.1,m.2.1,m.2.2.1,(),m.2.2.2.2.1,m.2.2.2.2.2),())) 100 ((0:Int),([]:List Mt),())=some (m,()):=by
  refine aGT (xs:=m.2.2.2.1) (f:=id) (st:=fun k acc=>((k:Int),acc,())) (fun k x acc rec hk hlt hacc=>?_) (fun rec=>?_) 100 (by omega)
  ·rw[aAZ]
   obtain⟨⟨x1,_⟩,⟨x2,_⟩,_,⟨x4,_⟩,_,_,⟨x7,_⟩⟩:=mP (hf.mts x (jY hk))
   have hroom:∀y:Mt,decide (acc.length+[y].length<rowMax)=true:=fun y=>aI (by simp[rowMax];omega)
   simp only[dlt hlt,dge,aH,aA,aU,getD_some hk,aBz (show x.1.length<1000000 by omega),aBz (show x.2.1.length<1000000 by omega),aQ6 (show x.2.2.2.1.length<1000000 by omega),
    aDT (show x.2.2.2.2.2.2.1.length<1000000 by omega),aJ,hroom,bJ hlt (show m.2.2.2.1.length≤lenMax by simp only[lenMax];omega)]
   rfl
  ·rw[aAZ]
   simp only[bQ,aB,List.map_id]
   rfl
 have k2:aE (aAY m 100) 100 ((0:Int),(([]:List Cl),m.2.1,m.2.2.1,(),m.2.2.2.2.1,m.2.2.2.2.2),())=some (m,()):=by
  refine aGT (xs:=m.1) (f:=id) (st:=fun k acc=>((k:Int),(acc,m.2.1,m.2.2.1,(),m.2.2.2.2.1,m.2.2.2.2.2),())) (fun k x acc rec hk hlt hacc=>?_) (fun rec=>?_) 100 (by omega)
  ·rw[aAY]
   obtain⟨_,⟨c3,_⟩,⟨c5,_⟩⟩:=aBh (hf.cls x (jY hk))
   have hroom:∀y:Cl,decide (acc.length+[y].length<rowMax)=true:=fun y=>aI (by simp[rowMax];omega)
   simp only[dlt hlt,dge,aH,aA,aU,getD_some hk,aBz (show x.2.1.length<1000000 by omega),aDT (show x.2.2.1.length<1000000 by omega),aJ,hroom,
    bJ hlt (show m.1.length≤lenMax by simp only[lenMax];omega)]
   rfl
  ·rw[aAY]
   simp only[bQ,aB,List.map_id]
   exact k1
 unfold aHn
 rw[aBz (by omega),aQ9 (by omega),aDT (by omega)]
 exact k2
theorem aQa (m:Im) (f:Int) (r) (h:cof m f=some r):∃k,aIE k m f=some r:=by
 unfold cof at h
 cases hi:bX m <;> simp only[hi,aA,aB] at h
 ·cases h
 injection h with h
 subst h
 refine⟨(aD m f).2.2.2.1.length+1,?_⟩
 unfold aIE ofB
 by_cases h0:f<0
 ·have:inM m f=false:=by cases hh:inM m f;rfl;have:=cC.1 hh;omega
  rw[this,aI h0];rfl
 ·by_cases h1:f≥(m.2.2.2.1.length:Int)
  ·have:inM m f=false:=by cases hh:inM m f;rfl;have:=cC.1 hh;omega
   rw[this,bO h0,aI h1];rfl
  ·have hf:inM m f=true:=cC.2 ⟨by omega,by omega⟩
   have hd:m.2.2.2.1.getD f.toNat zMt=aD m f:=rfl
   have hr:(decide (0≤f)&&decide (f<(m.2.2.2.1.length:Int)))=true:=by simp;omega
   have hx:=(mP ((dG hi).mts _ (rT (show 0≤f by omega) (show f<(m.2.2.2.1.length:Int) by omega)))).2.2.2.1.1
   rw[hf,bO h0,bO h1,hr]
   simp only[aA,aB]
   have:=yD (L:=aBg m f) (n:=(aD m f).2.2.2.1.length) (B:=8) (st:=fun k out=>(out,(k:Int),())) (f:=fun k=>cN m ((aD m f).2.2.2.1.getD k cM)) (fin:=fun out=>some (dO (eW out),())) (fun k _=>wN hi _)
    (fun k out rec hk ho=>by
     have ht:∀x,oO m x=some (cN m x,()):=fun x=>by unfold oO;rw[hi];rfl
     have htl:=wN hi ((aD m f).2.2.2.1.getD k cM)
     rw[aBg]
     simp only[hd,dlt hk,dge,aH,aA,aU,ht,aJ,lG (show out.length+(cN m ((aD m f).2.2.2.1.getD k cM)).length<549755813888 by omega),bJ hk (by simp only[lenMax];omega)])
    (fun out rec _=>by rw[aBg];simp only[hd,bQ,aB];rfl) ((aD m f).2.2.2.1.length+1) (by omega)
   rw[aFq] at this
   exact this
theorem aGN {l:List Int} (hl:l.length<1000000):∀(q pre:List Int) (a:Int) (F:Nat),l=pre++q→q.length<F→aE (aAO l) F (a,(pre.length:Int),())=some (q.foldl max a,())
 | [],pre,a,F,hx,hF=>by
  obtain⟨F,rfl⟩:∃n,F=n+1:=⟨F - 1,by simp at hF;omega⟩
  rw[bU] at hx
  rw[aX,aAO]
  simp only[hx,bQ,aB]
  rfl
 | x::q,pre,a,F,hx,hF=>by
  obtain⟨F,rfl⟩:∃n,F=n+1:=⟨F - 1,by simp at hF;omega⟩
  have hk:pre.length<l.length:=by rw[hx,aW];simp
  have hget:l.getD pre.length 0=x:=by rw[hx];simp
  have ih:=aGN hl q (pre++[x]) (max a x) F (by rw[hx,cA];rfl) (by simp only[aF] at hF;omega)
  simp only[aW,aF,bM,bH] at ih
  rw[aX,aAO]
  simp only[dlt hk,dge,aH,aA,aU,hget,bJ hk (show _≤lenMax by simp only[lenMax];omega)]
  exact ih
theorem aNM (l:List Int) (r) (h:uP l=some r):∃k,aGO k l=some r:=by
 unfold uP at h
 cases hb:okL l&&decide (0<l.length) <;> simp only[hb,aA,aB] at h
 ·cases h
 injection h with h
 subst h
 simp only[aC,aQ] at hb
 have hl:=gZ hb.1
 refine⟨1000001,?_⟩
 match l,hb.2 with
 | x::q,_=>
  unfold aGO
  rw[bO (by simp only[aF];omega),aB,aI (by simp only[aF];omega),aA]
  have:=aGN hl q [x] x 1000001 rfl (by simp only[aF] at hl;omega)
  simpa[yA] using this
theorem aLf (m:Im):aET m=some (tG m,()):=by
 unfold aET tG
 cases decide ((m.2.2.2.1.length:Int)≤12) <;> simp only[aA,aB,eC,lA]
 cases decide ((m.1.length:Int)≤8) <;> simp only[aA,aB,eC,lA]
 cases decide ((m.2.2.1.length:Int)≤16) <;> simp only[aA,aB,eC,lA]
theorem aAa (c:Int) (pc:Nat):∀(q:List Int) (t:Bool) (phi:List Int),(mK c pc q t phi).2.length=phi.length
 | [],_,_=>rfl
 | to::q,t,phi=>by
  unfold mK
  cases decide (IntKind.i64.wrap (c+phi.getD to.toNat 0)>phi.getD pc 0) <;> simp only[aA,aB]
  ·exact aAa c pc q t phi
  ·rw[aAa c pc q];simp
theorem aLW (m:Im) (l:List (List Sh)) (f:Int) (pc:Nat) (t:Bool) (phi:List Int):(mJ m l f pc t phi).2.length=phi.length:=by
 unfold mJ
 cases !(dB l f (pc:Int)).1 <;> simp only[aA,aB]
 exact aAa ..
theorem aFn (m:Im) (l:List (List Sh)) (f:Int):∀(q:List Nat) (t:Bool) (phi:List Int),(iD m l f q t phi).2.length=phi.length
 | [],_,_=>rfl
 | pc::q,t,phi=>by rw[iD,aFn m l f q,aLW]
theorem aJ0 {m:Im} (hs:aL m=true) {f pc:Int} {s:List Tp}:∀to∈(aN m f pc s).2.1,0≤to∧to<(codeN m f:Int):=by
 intro to ht
 by_cases h:(aN m f pc s).2.2.1=0
 ·exact (nQ hs h).2.2.2 to ht
 ·rw[aJY h] at ht;cases ht
theorem aFm {m:Im} {f:Int} {pc:Nat} (hc:codeN m f<1000000) (hpc:pc<codeN m f) {c:Int} (hcost:iT m (aG m f (pc:Int))=some (c,())) {r6:St4} (hrl:r6.2.1.length<1000000) (hto:∀to∈r6.2.1,0≤to∧to<(codeN m f:Int)) {t0:Bool} {phi0:List Int} {rec4}:
  ∀(q pre:List Int) (t:Bool) (phi:List Int) (F:Nat),r6.2.1=pre++q→q.length<F→phi.length=codeN m f→
   aE (aAw m f (t0,(pc:Int),phi0,()) rec4 r6) F (t,(pre.length:Int),phi,())=rec4 ((mK c pc q t phi).1,((pc+1:Nat):Int),(mK c pc q t phi).2,())
 | [],pre,t,phi,F,hx,hF,hphi=>by
  obtain⟨F,rfl⟩:∃n,F=n+1:=⟨F - 1,by simp at hF;omega⟩
  rw[bU] at hx
  rw[aX,aAw]
  simp only[hx,bQ,aB,bJ hpc (show _≤lenMax by simp only[lenMax];omega),mK]
 | to::q,pre,t,phi,F,hx,hF,hphi=>by
  obtain⟨F,rfl⟩:∃n,F=n+1:=⟨F - 1,by simp at hF;omega⟩
  have hk:pre.length<r6.2.1.length:=by rw[hx,aW];simp
  have hget:r6.2.1.getD pre.length 0=to:=by rw[hx];simp
  obtain⟨t1,t2⟩:=hto to (by rw[hx];simp)
  have ih:=fun t' phi' hphi'=>aFm hc hpc hcost hrl hto (t0:=t0) (phi0:=phi0) (rec4:=rec4) q (pre++[to]) t' phi' F (by rw[hx,cA];rfl) (by simp only[aF] at hF;omega) hphi'
  simp only[aW,aF,bM,bH] at ih
  have fold:∀g:Int,m.2.2.2.1.getD g.toNat zMt=aD m g:=fun _=>rfl
  have fold2:(aD m f).2.2.2.1.getD pc cM=aG m f (pc:Int):=rfl
  have d1:decide (to<(phi.length:Int))=true:=aI (by rw[hphi];exact t2)
  have d2:decide ((pc:Int)<(phi.length:Int))=true:=by rw[hphi];exact dlt hpc
  rw[aX,aAw]
  simp only[dlt hk,dge,aH,aA,aU,hget,fold,fold2,hcost,aJ,aI t1,d1,d2,bJ hk (show _≤lenMax by simp only[lenMax];omega)]
  rw[mK]
  cases decide (IntKind.i64.wrap (c+phi.getD to.toNat 0)>phi.getD pc 0) <;> simp only[aA,aB]
  ·exact ih t phi hphi
  ·exact ih true _ (by rw[dE];exact hphi)
theorem aE3 {m:Im} {l:List (List Sh)} {f:Int} (hs:aL m=true) (hl:fX l=true) (hf:inM m f=true) {fuel:Nat} (hfu:1000<fuel) {s1:Int×List Int×Unit} {rec2}:
  ∀(k pc:Nat) (t:Bool) (phi:List Int) (F:Nat),pc+k=codeN m f→k<F→phi.length=codeN m f→
   aE (xS m l f fuel s1 rec2) F (t,(pc:Int),phi,())=bif !(iD m l f (List.range' pc k) t phi).1 then some ((iD m l f (List.range' pc k) t phi).2,decide (yA ((iD m l f (List.range' pc k) t phi).2++[0])≤4096),())
    else rec2 (IntKind.i64.wrap (s1.1+1),(iD m l f (List.range' pc k) t phi).2,())
 | 0,pc,t,phi,F,hx,hF,hphi=>by
  obtain⟨F,rfl⟩:∃n,F=n+1:=⟨F - 1,by omega⟩
  have hc:=fH hs hf
  have fold:∀g:Int,m.2.2.2.1.getD g.toNat zMt=aD m g:=fun _=>rfl
  have fold3:(aD m f).2.2.2.1.length=codeN m f:=rfl
  have hpc:pc=codeN m f:=by omega
  have hroom:decide (phi.length+([0]:List Int).length<rowMax)=true:=lG (by simp;omega)
  have hmax:uP (phi++[0])=some (yA (phi++[0]),()):=by unfold uP;rw[fK (by simp;omega)];simp
  rw[aX,xS]
  simp only[fold,fold3,hpc,bQ,aB,List.range'_zero,iD,hroom,aH,aA,hmax,aJ]
 | k+1,pc,t,phi,F,hx,hF,hphi=>by
  obtain⟨F,rfl⟩:∃n,F=n+1:=⟨F - 1,by omega⟩
  have hc:=fH hs hf
  obtain⟨f0,f1⟩:=cC.1 hf
  have hpc:pc<codeN m f:=by omega
  have ih:=fun t' phi' hphi'=>aE3 hs hl hf hfu (s1:=s1) (rec2:=rec2) k (pc+1) t' phi' F (by omega) (by omega) hphi'
  have fold:∀g:Int,m.2.2.2.1.getD g.toNat zMt=aD m g:=fun _=>rfl
  have fold3:(aD m f).2.2.2.1.length=codeN m f:=rfl
  have hp:nW l f (pc:Int)=some (dB l f (pc:Int),()):=by unfold nW;simp only[f0,dge,aM,aH,aA]
  have hst:oK m f (pc:Int) (dB l f (pc:Int)).2.1=some (aN m f (pc:Int) (dB l f (pc:Int)).2.1):=by unfold oK;rw[hs,aEN hl];rfl
  have hcost:iT m (aG m f (pc:Int))=some (jU m (aG m f (pc:Int)),()):=by unfold iT;rw[(dQ hs).1];rfl
  have h2:(aN m f (pc:Int) (dB l f (pc:Int)).2.1).2.1.length≤2:=wS ..
  have d1:decide ((pc:Int)<(codeN m f:Int))=true:=dlt hpc
  rw[aX,xS]
  simp only[fold,fold3,d1,dge,aH,aA,hp,aJ,List.range'_succ]
  have hrel:∀r,iD m l f (pc::r) t phi=iD m l f r (mJ m l f pc t phi).1 (mJ m l f pc t phi).2:=fun _=>rfl
  rw[hrel]
  cases h1:(dB l f (pc:Int)).1
  case false=>
   have hrp:mJ m l f pc t phi=(t,phi):=by unfold mJ;rw[h1];rfl
   rw[cD,aA,bJ hpc (show _≤lenMax by simp only[lenMax];omega),hrp]
   exact ih t phi hphi
  have hrp:mJ m l f pc t phi=mK (jU m (aG m f (pc:Int))) pc (aN m f (pc:Int) (dB l f (pc:Int)).2.1).2.1 t phi:=by unfold mJ;rw[h1];rfl
  rw[bA,aB,hst,aJ]
  have:=aFm (m:=m) (f:=f) (pc:=pc) (by omega) hpc hcost (r6:=aN m f (pc:Int) (dB l f (pc:Int)).2.1) (Nat.lt_of_le_of_lt h2 (by omega)) (aJ0 hs) (t0:=t) (phi0:=phi) (rec4:=aE (xS m l f fuel s1 rec2) F) _ [] t phi fuel rfl (Nat.lt_of_le_of_lt h2 (by omega)) hphi
  simp only[bM,Int.cast_ofNat_Int] at this
  refine this.trans ?_
  rw[hrp]
  exact ih _ _ (by rw[aAa];exact hphi)
theorem aMU (m:Im) (l:List (List Sh)) (f:Int) (r) (h:rM m l f=some r):∃k,aF1 k m l f=some r:=by
 unfold rM at h
 cases hb:aL m&&(fX l&&inM m f) <;> simp only[hb,aA,aB] at h
 ·cases h
 injection h with h
 subst h
 simp only[aC] at hb
 obtain⟨hs,hl,hf⟩:=hb
 have hc:=fH hs hf
 obtain⟨f0,f1⟩:=cC.1 hf
 have fold:∀g:Int,m.2.2.2.1.getD g.toNat zMt=aD m g:=fun _=>rfl
 have fold3:(aD m f).2.2.2.1.length=codeN m f:=rfl
 have rounds:∀(k i:Nat) (phi:List Int) (F:Nat),i+k=codeN m f+1→k<F→phi.length=codeN m f→aE (xR m l f 1001) F ((i:Int),phi,())=some (yI m l f k phi):=by
  intro k
  induction k with
  | zero=>
   intro i phi F hi hF hphi
   obtain⟨F,rfl⟩:∃n,F=n+1:=⟨F - 1,by omega⟩
   rw[aX,xR]
   have hw:IntKind.i64.wrap ((codeN m f:Int)+1)=((codeN m f+1:Nat):Int):=by rw[cS] <;> omega
   have hi':i=codeN m f+1:=by omega
   simp only[fold,fold3,hw,hi',bQ,aB,yI]
  | succ k ih=>
   intro i phi F hi hF hphi
   obtain⟨F,rfl⟩:∃n,F=n+1:=⟨F - 1,by omega⟩
   have hw:IntKind.i64.wrap ((codeN m f:Int)+1)=((codeN m f+1:Nat):Int):=by rw[cS] <;> omega
   have hlt:i<codeN m f+1:=by omega
   rw[aX,xR]
   simp only[fold,fold3,hw,dlt hlt,aA]
   have:=aE3 hs hl hf (fuel:=1001) (by omega) (s1:=((i:Int),phi,())) (rec2:=aE (xR m l f 1001) F) (codeN m f) 0 false phi 1001 (by omega) (by omega) hphi
   simp only[Int.cast_ofNat_Int] at this
   refine this.trans ?_
   rw[yI,List.range_eq_range']
   have hw2:=bJ hlt (show codeN m f+1≤lenMax by simp only[lenMax];omega)
   cases (iD m l f (List.range' 0 (codeN m f)) false phi).1 <;> simp only[bA,cD,aA,aB]
   rw[hw2]
   exact ih (i+1) _ F (by omega) (by omega) (by rw[aFn];exact hphi)
 refine⟨1001,?_⟩
 unfold aF1 aG9
 have e0:decide ((0:Int)≤(codeN m f:Int))=true:=aI (by omega)
 have e1:decide ((codeN m f:Int)<(rowMax:Int))=true:=aI (by simp only[rowMax];omega)
 have e2:decide ((codeN m f:Int)≤(codeN m f:Int))=true:=aI (by omega)
 simp only[fold,fold3,aI f0,aI f1,aH,aA,e0,e1,e2,aU]
 exact rounds (codeN m f+1) 0 _ 1001 (by omega) (by omega) (by simp)
end Go.Pli

namespace Go.Pli
open Go Go.PM
def strip (x:Mt):List Tp×List Tp×Tp×List Ins×Int:=(x.1,x.2.1,x.2.2.1,x.2.2.2.1,x.2.2.2.2.1)
def Like (m:Im) (ms:List Mt):Prop:=ms.map strip=m.2.2.2.1.map strip
theorem iC {x y:Mt} (h:strip x=strip y):x.1=y.1∧x.2.1=y.2.1∧x.2.2.1=y.2.2.1∧x.2.2.2.1=y.2.2.2.1∧x.2.2.2.2.1=y.2.2.2.2.1:=by
 unfold strip at h
 simp only[kT] at h
 exact h
theorem Like.len {m:Im} {ms:List Mt} (h:Like m ms):ms.length=m.2.2.2.1.length:=by
 have:=dD List.length h
 simpa using this
theorem Like.refl (m:Im):Like m m.2.2.2.1:=rfl
theorem aC3 (g:Mt→List Tp×List Tp×Tp×List Ins×Int):∀(l:List Mt) (i:Nat),g (l.getD i zMt)=(l.map g).getD i (g zMt)
 | [],i=>by simp
 | x::l,0=>by simp
 | x::l,i+1=>by rw[List.getD_cons_succ,dK,List.getD_cons_succ];exact aC3 g l i
theorem Like.at {m:Im} {ms:List Mt} (h:Like m ms) (i:Nat):strip (ms.getD i zMt)=strip (m.2.2.2.1.getD i zMt):=by
 rw[aC3 strip,aC3 strip,h]
theorem Like.mt {m:Im} {ms:List Mt} (h:Like m ms) (f:Int):strip (aD (dL m ms) f)=strip (aD m f):=h.at f.toNat
theorem Like.mem {m:Im} {ms:List Mt} (h:Like m ms) {x:Mt} (hx:x∈ms):∃y∈m.2.2.2.1,strip x=strip y:=by
 have:strip x∈m.2.2.2.1.map strip:=by rw[←h];exact List.mem_map_of_mem hx
 obtain⟨y,h1,h2⟩:=gF.1 this
 exact⟨y,h1,h2.symm⟩
theorem Like.set {m:Im} {ms:List Mt} (h:Like m ms) {i:Nat} {x:Mt} (hx:strip x=strip (ms.getD i zMt)):Like m (ms.set i x):=by
 unfold Like
 rw[←h]
 refine List.ext_getElem? fun j=>?_
 rw[kX,kX,iL]
 by_cases hij:i=j
 ·subst hij
  by_cases hi:i<ms.length
  ·simp[hi,hx]
  ·rw[wC (by omega)];simp[hi]
 ·simp[hij]
section
variable {m:Im} {ms:List Mt}
theorem Like.inM (h:Like m ms) (f:Int):inM (dL m ms) f=Pli.inM m f:=by
 unfold Pli.inM nM dL
 rw[h.len]
theorem Like.code (h:Like m ms) (f:Int):(aD (dL m ms) f).2.2.2.1=(aD m f).2.2.2.1:=(iC (h.mt f)).2.2.2.1
theorem Like.codeN (h:Like m ms) (f:Int):codeN (dL m ms) f=Pli.codeN m f:=by unfold Pli.codeN;rw[h.code]
theorem Like.ins (h:Like m ms) (f pc:Int):aG (dL m ms) f pc=aG m f pc:=by unfold aG;rw[h.code]
theorem Like.of (h:Like m ms) (f:Int):ofB (dL m ms) f=ofB m f:=by
 unfold ofB oS
 rw[h.inM,h.code]
 rfl
theorem aN1 {x y:Mt} (h:strip x=strip y) (n:Int):iX x n=iX y n:=by
 unfold iX
 rw[(iC h).1,(iC h).2.1]
theorem aI5 {x y:Mt} (h:strip x=strip y) (t:List Tp):hY x t=hY y t:=by
 unfold hY
 rw[(iC h).1,(iC h).2.2.1]
theorem aPy (h:Like m ms) {x y:Mt} (hxy:strip x=strip y) (i:Ins):eF (dL m ms) x i=eF m y i:=by
 unfold eF
 rw[aN1 hxy,(iC hxy).2.2.1,aI5 (h.mt i.2.1),aI5 (h.mt (dJ (dL m ms) i.2.1 i.2.2.1).1)]
 rfl
theorem Like.step (h:Like m ms) (f pc:Int) (s:List Tp):aN (dL m ms) f pc s=aN m f pc s:=by
 unfold aN
 rw[h.inM,h.codeN,h.ins,aPy h (h.mt f)]
 rfl
theorem aRe {a a' b b':Mt} (h1:strip a=strip a') (h2:strip b=strip b'):qH a b=qH a' b':=by
 unfold qH
 rw[(iC h1).1,(iC h1).2.2.1,(iC h2).1,(iC h2).2.2.1]
theorem Like.slot (h:Like m ms) (c:Int):nR (dL m ms) c=nR m c:=by
 funext n f
 have e1:vG (dL m ms) c f=vG m c f:=by
  unfold vG
  rw[(iC (h.mt f)).1]
  rfl
 have e2:qH (aD (dL m ms) f) (aD (dL m ms) ((eL (dL m ms) c).getD n 0))=qH (aD m f) (aD m ((eL m c).getD n 0)):=aRe (h.mt f) (h.mt _)
 have e3:sin f ((dL m ms).2.2.2.1.length:Int)=sin f (m.2.2.2.1.length:Int):=by rw[show (dL m ms).2.2.2.1.length=m.2.2.2.1.length from h.len]
 unfold nR
 rw[e1,e2,e3]
 rfl
theorem Like.classes (h:Like m ms):jX (dL m ms)=jX m:=by
 have:∀c,hU (dL m ms) c=hU m c:=fun c=>by
  unfold hU
  rw[h.slot]
  rfl
 unfold jX
 simp only[this]
 rfl
theorem Like.instr (h:Like m ms) {x y:Mt} (hxy:strip x=strip y) (i:Ins):bW (dL m ms) x i=bW m y i:=by
 unfold bW
 obtain⟨e1,e2,e3,e4,-⟩:=iC hxy
 have e5:(dL m ms).2.2.2.1.length=m.2.2.2.1.length:=h.len
 rw[e1,e2,e4,e5]
 rfl
def aDZ (x:Mt):Prop:=(0≤x.2.2.2.2.2.1∧x.2.2.2.2.2.1≤4096)∧x.2.2.2.2.2.2.1.length=x.2.2.2.1.length∧∀n∈x.2.2.2.2.2.2.1,0≤n∧n≤4096
theorem Like.sane (h:Like m ms) (hs:aL m=true) (hn:∀x∈ms,aDZ x):aL (dL m ms)=true:=by
 obtain⟨hi,hb⟩:=dQ hs
 have hf:=dG hi
 have h1:bX (dL m ms)=true:=by
  unfold bX at hi⊢
  simp only[aC] at hi⊢
  obtain⟨a1,a2,a3,a4,a5,a6,a7⟩:=hi
  refine⟨a1,a2,a3,?_,a5,?_,a7⟩
  ·rw[show (dL m ms).2.2.2.1.length=m.2.2.2.1.length from h.len];exact a4
  ·rw[bI] at a6⊢
   intro x hx
   obtain⟨y,hy,hxy⟩:=h.mem hx
   obtain⟨e1,e2,e3,e4,e5⟩:=iC hxy
   have hy:=a6 y hy
   have hc:=(mP hy).2.2.2.1.1
   obtain⟨n1,n2,n3⟩:=hn x hx
   unfold kL at hy⊢
   simp only[aC] at hy⊢
   rw[e1,e2,e3,e4,e5]
   refine⟨hy.1,hy.2.1,hy.2.2.1,hy.2.2.2.1,hy.2.2.2.2.1,hy.2.2.2.2.2.1,?_,?_⟩
   ·simp only[fA,aC,aQ];exact n1
   ·simp only[iZ,fA,aC,aQ,bI]
    exact⟨by rw[n2,e4];omega,n3⟩
 have h2:jM (dL m ms)=true:=by
  unfold jM at hb⊢
  simp only[aC] at hb⊢
  obtain⟨b1,b2,b3,b4⟩:=hb
  refine⟨b1,by rw[h.classes];exact b2,?_,?_⟩
  ·rw[bI] at b3⊢
   intro x hx
   obtain⟨y,hy,hxy⟩:=h.mem hx
   obtain⟨e1,e2,e3,e4,e5⟩:=iC hxy
   obtain⟨n1,n2,n3⟩:=hn x hx
   have hy:=b3 y hy
   unfold eR at hy⊢
   simp only[aC] at hy⊢
   rw[funext (h.instr hxy),n2,e1,e2,e3,e4]
   exact⟨hy.1,hy.2.1,hy.2.2.1,hy.2.2.2.1,aI rfl,hy.2.2.2.2.2⟩
  ·rw[bI] at b4⊢
   intro f hfm
   have:=b4 f hfm
   unfold pW at this⊢
   obtain⟨e1,e2,e3,e4,e5⟩:=iC (h.mt f)
   rw[e1,e3,show (dL m ms).2.2.2.1.length=m.2.2.2.1.length from h.len]
   exact this
 unfold aL
 rw[h1,h2];rfl
end
end Go.Pli

namespace Go.Pli
open Go Go.PM
def aA7 (rec:List Mt→Option (Im×Bool×Unit)):Option (List Mt)→Option (Im×Bool×Unit)
 | none=>some (zIm,false,())
 | some ms=>rec ms
theorem aCq (ms:List Mt) (f:Int):(mN ms f).length=ms.length:=by
 unfold mN
 cases decide (((ms.getD f.toNat zMt).2.2.2.2.2.2.1.length:Int)>0) <;> simp only[aA,aB,dE]
theorem aHY (ed:List (List Int)) (part:List Int):∀(q:List Int) (ms ms2:List Mt),pT ed part q ms=some ms2→ms2.length=ms.length
 | [],ms,ms2,h=>by injection h with h;rw[h]
 | f::q,ms,ms2,h=>by
  rw[pT] at h
  cases hc:decide (((mN ms f).getD f.toNat zMt).2.2.2.2.2.1>0)&&sJ ed part <;> simp only[hc,aA,aB] at h
  ·rw[aHY ed part q _ _ h,aCq]
  ·cases h
theorem aH0 (m:Im) (l:List (List Sh)):∀(q:List Int) (ms ms2:List Mt),sD m l q ms=some (some ms2)→ms2.length=ms.length
 | [],ms,ms2,h=>by injection h with h;injection h with h;rw[h]
 | f::q,ms,ms2,h=>by
  rw[sD] at h
  cases hp:rM (dL m ms) l f with
  | none=>rw[hp] at h;cases h
  | some r=>
   rw[hp] at h
   simp only[aJ] at h
   cases hr:r.2.1 <;> simp only[hr,bA,cD,aA,aB] at h
   ·injection h with h;cases h
   ·rw[aH0 m l q _ _ h,dE]
theorem aHX {ed:List (List Int)} {s2:List (List Int)×Int×List Mt×Unit} (hed:s2.1=ed) {r5:List (List Int)×Unit} {s6:Int×List Mt×Unit} {part:List Int} (hp:r5.1.getD s6.1.toNat []=part) (hpl:part.length<1000000) {N:Nat} (hin:∀f∈part,0≤f∧f<(N:Int)) {rec7}:
  ∀(q pre:List Int) (ms:List Mt) (F:Nat),part=pre++q→q.length<F→ms.length=N→aE (uE s2 r5 s6 rec7) F ((pre.length:Int),ms,())=aA7 (fun ms2=>rec7 (IntKind.i64.wrap (s6.1+1),ms2,())) (pT ed part q ms)
 | [],pre,ms,F,hx,hF,_=>by
  obtain⟨F,rfl⟩:∃n,F=n+1:=⟨F - 1,by simp at hF;omega⟩
  rw[bU] at hx
  rw[aX,uE]
  simp only[hp,←hx,bQ,aB]
  rfl
 | f::q,pre,ms,F,hx,hF,hms=>by
  obtain⟨F,rfl⟩:∃n,F=n+1:=⟨F - 1,by simp at hF;omega⟩
  have hk:pre.length<part.length:=by rw[hx,aW];simp
  have hget:part.getD pre.length 0=f:=by rw[hx];simp
  obtain⟨f0,f1⟩:=hin f (by rw[hx];simp)
  have ih:=aHX hed hp hpl hin (rec7:=rec7) q (pre++[f]) (mN ms f) F (by rw[hx,cA];rfl) (by simp only[aF] at hF;omega) (by rw[aCq];exact hms)
  simp only[aW,aF,bM,bH] at ih
  have hcy:sK s2.1 part=some (sJ ed part,()):=by unfold sK;rw[fK hpl,hed];rfl
  have d1:decide (f<(ms.length:Int))=true:=aI (by rw[hms];exact f1)
  have d2:decide (f<((mN ms f).length:Int))=true:=aI (by rw[aCq,hms];exact f1)
  have hw:=bJ hk (show part.length≤lenMax by simp only[lenMax];omega)
  rw[aX,uE]
  simp only[hp,dlt hk,dge,aH,aA,aU,hget,aI f0,d1]
  have hpot:(bif decide (((ms.getD f.toNat zMt).2.2.2.2.2.2.1.length:Int)>0) then
    bif decide ((0:Int)<((ms.getD f.toNat zMt).2.2.2.2.2.2.1.length:Int)) then
     some (.inl (ms.set f.toNat (mF (ms.getD f.toNat zMt) ((ms.getD f.toNat zMt).2.2.2.2.2.2.1.getD 0 0)),()))
    else none
   else some (.inl (ms,())):Option ((List Mt×Unit)⊕(Im×Bool×Unit)))=some (.inl (mN ms f,())):=by
   unfold mN
   by_cases h:((ms.getD f.toNat zMt).2.2.2.2.2.2.1.length:Int)>0
   ·rw[aI h];rfl
   ·rw[bO h];rfl
  have hpot':=dD (fun o=>o.bind fun q=>match q with
   | .inr r14=>some r14
   | .inl s13=>bif decide (0≤f)&&decide (f<(s13.1.length:Int)) then
     bif decide ((s13.1.getD f.toNat zMt).2.2.2.2.2.1>0) then
      (sK s2.1 part).bind fun r15=>bif r15.1 then some (zIm,false,()) else aE (uE s2 r5 s6 rec7) F (IntKind.i64.wrap ((pre.length:Int)+1),s13.1,())
     else aE (uE s2 r5 s6 rec7) F (IntKind.i64.wrap ((pre.length:Int)+1),s13.1,())
    else none) hpot
  have e1:decide (0≤f)=true:=aI f0
  simp only[e1,eC] at hpot'
  refine Eq.trans ?_ (hpot'.trans ?_)
  ·rfl
  ·simp only[aJ,d2,aA,hcy,hw,ih]
   rw[pT]
   cases decide (((mN ms f).getD f.toNat zMt).2.2.2.2.2.1>0) <;> cases sJ ed part <;> rfl
theorem aHZ {m:Im} {l:List (List Sh)} {fuel:Nat} (hfu:1000000<fuel) {ed:List (List Int)} {s2:List (List Int)×Int×List Mt×Unit} (hed:s2.1=ed) {r5:List (List Int)×Unit} {s6:Int×List Mt×Unit} {part:List Int} (hp:r5.1.getD s6.1.toNat []=part) (hpl:part.length<1000000) {N:Nat} (hin:∀f∈part,0≤f∧f<(N:Int)) {rec7}:
  ∀(q pre:List Int) (ms:List Mt) (F:Nat) (r),part=pre++q→q.length<F→ms.length=N→
   ((sD m l q ms).bind fun o=>aA7 (fun ms1=>aA7 (fun ms2=>rec7 (IntKind.i64.wrap (s6.1+1),ms2,())) (pT ed part part ms1)) o)=some r→aE (aAA l fuel (m,()) s2 r5 s6 rec7) F ((pre.length:Int),ms,())=some r
 | [],pre,ms,F,r,hx,hF,hms,h=>by
  obtain⟨F,rfl⟩:∃n,F=n+1:=⟨F - 1,by simp at hF;omega⟩
  rw[bU] at hx
  rw[aX,aAA]
  simp only[hp,←hx,bQ,aB]
  have:=aHX hed hp hpl hin (rec7:=rec7) part [] ms fuel rfl (by omega) hms
  simp only[bM,Int.cast_ofNat_Int] at this
  exact this.trans h
 | f::q,pre,ms,F,r,hx,hF,hms,h=>by
  obtain⟨F,rfl⟩:∃n,F=n+1:=⟨F - 1,by simp at hF;omega⟩
  have hk:pre.length<part.length:=by rw[hx,aW];simp
  have hget:part.getD pre.length 0=f:=by rw[hx];simp
  obtain⟨f0,f1⟩:=hin f (by rw[hx];simp)
  have d1:decide (f<(ms.length:Int))=true:=aI (by rw[hms];exact f1)
  have hw:=bJ hk (show part.length≤lenMax by simp only[lenMax];omega)
  rw[sD] at h
  have hwm:dL m ms=(m.1,m.2.1,m.2.2.1,ms,m.2.2.2.2):=rfl
  rw[hwm] at h
  rw[aX,aAA]
  simp only[hp,dlt hk,dge,aH,aA,aU,hget]
  cases hpl2:rM (m.1,m.2.1,m.2.2.1,ms,m.2.2.2.2) l f with
  | none=>rw[hpl2] at h;cases h
  | some q2=>
   rw[hpl2] at h
   simp only[aJ] at h⊢
   cases hq:q2.2.1 <;> simp only[hq,bA,cD,aA,aB] at h⊢
   ·exact h
   ·have ih:=aHZ hfu hed hp hpl hin (rec7:=rec7) q (pre++[f]) _ F r (by rw[hx,cA];rfl) (by simp only[aF] at hF;omega) (by rw[dE];exact hms) h
    simp only[aW,aF,bM,bH] at ih
    simp only[aI f0,d1,aH,aA,hw]
    exact ih
theorem aHV {m:Im} {l:List (List Sh)} {fuel:Nat} (hfu:1000000<fuel) {ed:List (List Int)} {s2:List (List Int)×Int×List Mt×Unit} (hed:s2.1=ed) {r5:List (List Int)×Unit} (hrl:r5.1.length<1000000) {N:Nat} (hr:∀p∈r5.1,p.length<1000000∧∀f∈p,0≤f∧f<(N:Int)):
  ∀(ps pre:List (List Int)) (ms:List Mt) (F:Nat) (r),r5.1=pre++ps→ps.length<F→ms.length=N→((aA8 m l ed ps ms).bind fun q=>some (aHW m q))=some r→aE (xT l fuel (m,()) s2 r5) F ((pre.length:Int),ms,())=some r
 | [],pre,ms,F,r,hx,hF,hms,h=>by
  obtain⟨F,rfl⟩:∃n,F=n+1:=⟨F - 1,by simp at hF;omega⟩
  rw[bU] at hx
  rw[aX,xT]
  simp only[hx,bQ,aB]
  exact h
 | p::ps,pre,ms,F,r,hx,hF,hms,h=>by
  obtain⟨F,rfl⟩:∃n,F=n+1:=⟨F - 1,by simp at hF;omega⟩
  have hk:pre.length<r5.1.length:=by rw[hx,aW];simp
  have hget:r5.1.getD pre.length []=p:=by rw[hx];simp
  obtain⟨hpl,hin⟩:=hr p (by rw[hx];simp)
  have hw:=bJ hk (show r5.1.length≤lenMax by simp only[lenMax];omega)
  rw[aX,xT]
  simp only[dlt hk,dge,aH,aA]
  refine aHZ hfu hed (s6:=((pre.length:Int),ms,())) (part:=p) (by simpa using hget) hpl hin (rec7:=aE (xT l fuel (m,()) s2 r5) F) p [] ms fuel r rfl (by omega) hms ?_
  rw[aA8] at h
  cases ha:sD m l p ms with
  | none=>rw[ha] at h;cases h
  | some o=>
   rw[ha] at h
   simp only[aJ] at h⊢
   cases o with
   | none=>exact h
   | some ms1=>
    simp only[aA7] at h⊢
    have hl1:=aH0 m l p ms ms1 ha
    cases hc:pT ed p p ms1 with
    | none=>rw[hc] at h;exact h
    | some ms2=>
     rw[hc] at h
     have hl2:=aHY ed p p ms1 ms2 hc
     simp only[hw]
     have ih:=aHV hfu hed hrl hr (l:=l) (m:=m) ps (pre++[p]) ms2 F r (by rw[hx,cA];rfl) (by simp only[aF] at hF;omega) (by omega) h
     simp only[aW,aF,bM,bH] at ih
     exact ih
def gL (m:Im) (k:Nat):List Mt:=(m.2.2.2.1.take k).map (fun x=>mF x 0)++m.2.2.2.1.drop k
theorem aJF (m:Im) (k:Nat):Like m (gL m k):=by
 unfold Like gL
 rw[jD,List.map_map]
 have:(strip∘fun x=>mF x 0)=strip:=rfl
 rw[this,←jD,vZ]
theorem aJD {m:Im} {k:Nat} (hk:k<m.2.2.2.1.length):(gL m k).set k (mF ((gL m k).getD k zMt) 0)=gL m (k+1):=by
 have hl:((m.2.2.2.1.take k).map fun x=>mF x 0).length=k:=by rw[qM,bR];omega
 have hd:m.2.2.2.1.drop k=m.2.2.2.1[k]::m.2.2.2.1.drop (k+1):=List.drop_eq_getElem_cons hk
 have hz:gL m k=((m.2.2.2.1.take k).map fun x=>mF x 0)++m.2.2.2.1[k]::m.2.2.2.1.drop (k+1):=by unfold gL;rw[hd]
 have hg:(gL m k).getD k zMt=m.2.2.2.1[k]:=by
  rw[hz,dX,cL (by omega),hl,Nat.sub_self];rfl
 rw[hg,hz,List.set_append_right _ _ (by omega),hl,Nat.sub_self,List.set_cons_zero]
 unfold gL
 rw[qK,aV hk,jD,cA]
 rfl
theorem aGs {m:Im} (hs:aL m=true):∀x∈m.2.2.2.1,aDZ x:=fun x hx=>by
 obtain⟨i,hi,rfl⟩:=List.mem_iff_getElem.1 hx
 have hf:inM m (i:Int)=true:=cC.2 ⟨by omega,by omega⟩
 have e:aD m (i:Int)=m.2.2.2.1[i]:=by unfold aD;rw[aU,getD_some (aV hi)]
 have h1:=mP ((dG (dQ hs).1).mts _ hx)
 have h2:=aLe hs hf
 unfold iS codeN at h2
 rw[e] at h2
 exact⟨h1.2.2.2.2.2.1,h2,h1.2.2.2.2.2.2.2⟩
theorem aJE {m:Im} (hs:aL m=true) (k:Nat):∀x∈gL m k,aDZ x:=fun x hx=>by
 rcases cP.1 hx with hx | hx
 ·obtain⟨y,hy,rfl⟩:=gF.1 hx
  obtain⟨-,h2,h3⟩:=aGs hs y (aD0 hy)
  exact⟨⟨jH 0,by show (0:Int)≤4096;decide⟩,h2,h3⟩
 ·exact aGs hs x (List.mem_of_mem_drop hx)
theorem aMX (m:Im) (l:List (List Sh)) (r) (h:rN m l=some r):∃k,aF3 k m l=some r:=by
 unfold rN at h
 cases hb:aL m&&vK m <;> simp only[hb,aA,aB] at h
 ·cases h
 simp only[aC] at hb
 obtain⟨hs,hok⟩:=hb
 cases hr:jO (fY m) with
 | none=>rw[hr] at h;cases h
 | some r4=>
  rw[hr] at h
  simp only[aJ] at h
  cases hb:okL r4.1&&r4.1.all (fun p=>okL p&&p.all (inM m)) <;> simp only[hb,aA,aB] at h
  ·cases h
  simp only[aC,bI] at hb
  have hrl:=gZ hb.1
  have h12:=(dG (dQ hs).1).methods
  have hcopy:vB m=some (m,()):=by unfold vB;rw[(dQ hs).1];rfl
  refine⟨1000001,?_⟩
  unfold aF3
  rw[hcopy,aJ]
  refine oA (L:=aAz l 1000001 (m,())) (n:=m.2.2.2.1.length) (st:=fun k=>((fY m).take k,(k:Int),gL m k,())) (fun k rec hk=>?_) (fun rec=>?_) 1000001 (by omega)
  ·have hk':=aJF m k
   have hc:cof (dL m (gL m k)) (k:Int)=some (ofB m (k:Int),()):=by unfold cof;rw[(dQ (hk'.sane hs (aJE hs k))).1,hk'.of];rfl
   have hx:(fY m)[k]? =some (ofB m (k:Int)):=by
    unfold fY ints
    simp[hk]
   have hlen:(gL m k).length=m.2.2.2.1.length:=hk'.len
   have hc':cof (m.1,m.2.1,m.2.2.1,gL m k,m.2.2.2.2) (k:Int)=some (ofB m (k:Int),()):=hc
   have hz:=aJD hk
   unfold mF at hz
   rw[aAz]
   simp only[dlt hk,aA,hc',aJ,aF,bM,lG (show ((fY m).take k).length+(0+1)<549755813888 by rw[bR];omega),bJ hk (show _≤lenMax by simp only[lenMax];omega),hlen,dge,aH,aU,hz]
   rw[qK,hx]
   rfl
  ·have e:(fY m).take m.2.2.2.1.length=fY m:=by rw[←aGo,iA]
   have ez:gL m m.2.2.2.1.length=m.2.2.2.1.map fun x=>mF x 0:=by unfold gL;rw[iA,List.drop_length,bU]
   rw[aAz]
   simp only[bQ,aB,e,hr,aJ]
   have:=aHV (m:=m) (l:=l) (fuel:=1000001) (by omega) (ed:=fY m) (s2:=(fY m,(m.2.2.2.1.length:Int),gL m m.2.2.2.1.length,())) rfl (r5:=r4) hrl (N:=m.2.2.2.1.length) (fun p hp=>⟨gZ (hb.2 p hp).1,fun f hf=>cC.1 ((hb.2 p hp).2 f hf)⟩) r4.1 [] _ 1000001 r rfl (by omega) (by rw[qM]) h
   rw[ez]
   rw[ez] at this
   simpa using this
end Go.Pli
