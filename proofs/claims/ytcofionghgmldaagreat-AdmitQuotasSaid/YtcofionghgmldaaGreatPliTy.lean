/- Types: the typer ends on every sane image. -/
import Derived.Test.YtcofionghgmldaaGreatPliL13E
import Derived.Test.YtcofionghgmldaaGreatPliNt
import Derived.Test.YtcofionghgmldaaGreatPliReach
namespace Go.Pli
open Go Go.PM
def okT (t:Tp):Prop:=t.1=4→t.2.1=0
def mD (l:List Cl) (t:Tp):Nat:=if t.1=4 then 12 else if t.1=3 then (bQ l t.2.1).length else 0
theorem vH {l:List Cl} (hl:l.length≤8) (c:Int):(bQ l c).length≤8:=by
 by_cases h0:c<0
 ·rw[bO h0];simp
 ·by_cases h1:c<(l.length:Int)
  ·have:=mF l (c.toNat+1) c (by omega)
   omega
  ·have hk:kup l c= -1:=by
    unfold kup
    have:c≥(l.length:Int):=by omega
    simp[this]
   rw[cF (by omega),hk,bO (by omega)]
   simp
theorem aAt {l:List Cl} {x:Int}:∀(n:Nat) (c:Int),c.toNat<n→x∈bQ l c→(bQ l x).length≤(bQ l c).length∧(x≠c→(bQ l x).length<(bQ l c).length)
 | 0,_,h,_=>by omega
 | n+1,c,h,hx=>by
  by_cases h0:c<0
  ·rw[bO h0] at hx;cases hx
  have hk:=kC (l:=l) (c:=c) (by omega)
  rw[cF (by omega)] at hx
  have hlen:(bQ l c).length=(bQ l (kup l c)).length+1:=by rw[cF (by omega)];rfl
  rcases List.mem_cons.1 hx with rfl | hx
  ·exact⟨Nat.le_refl _,fun h=>absurd rfl h⟩
  ·by_cases h2:kup l c<0
   ·rw[bO h2] at hx;cases hx
   ·have:=(aAt n (kup l c) (by omega) hx).1
    exact⟨by omega,fun _=>by omega⟩
theorem uL {a b:Tp} (h1:a.1=b.1) (h2:a.2.1=b.2.1):a=b:=by
 obtain⟨a1,a2,⟨⟩⟩:=a
 obtain⟨b1,b2,⟨⟩⟩:=b
 simp only at h1 h2
 subst h1 h2
 rfl
theorem aTx {l:List Cl} (hl:l.length≤8) {a b:Tp} (ha:okT a) (hb:okT b) (h:(fG l a b).1≠0):okT (fG l a b)∧(fG l a b=a∨mD l (fG l a b)<mD l a):=by
 unfold fG at h⊢
 cases h1:cP l a b <;> simp only[h1,cond_true,cond_false] at h⊢
 ·cases h2:cP l b a <;> simp only[h2,cond_true,cond_false] at h⊢
  ·cases h3:a.1 !=3 || b.1 !=3 <;> simp only[h3,cond_true,cond_false] at h⊢
   ·have h3a:a.1=3:=by
     have:=(Bool.or_eq_false_iff.1 h3).1
     simpa using this
    cases hf:(bQ l (kup l a.2.1)).find? fun c=>bZ l b.2.1 c with
    | none=>rw[hf] at h;exact absurd rfl h
    | some c=>
     refine⟨fun h4=>by simp at h4,.inr ?_⟩
     have hm:=List.mem_of_find?_eq_some hf
     have h0:0≤a.2.1:=by
      by_cases h0:0≤a.2.1
      ·exact h0
      ·have hk:kup l a.2.1= -1:=by
        unfold kup
        have:a.2.1<0:=by omega
        simp[this]
       rw[hk,bO (by omega)] at hm
       cases hm
     have:=(aAt _ _ (Nat.lt_succ_self _) hm).1
     simp only[mD,h3a]
     rw[cF h0]
     simp
     omega
   ·exact absurd rfl h
  ·refine⟨ha,?_⟩
   simp
 ·refine⟨hb,?_⟩
  unfold cP at h1
  cases h4:a.1==4 <;> simp only[h4,cond_true,cond_false] at h1
  ·cases h33:a.1==3&&b.1==3 <;> simp only[h33,cond_true,cond_false] at h1
   ·simp only[Bool.and_eq_true,beq_iff_eq] at h1
    exact .inl h1.1.symm
   ·simp only[Bool.and_eq_true,beq_iff_eq] at h33
    unfold bZ at h1
    simp only[Bool.and_eq_true,decide_eq_true_eq,List.contains_iff_mem] at h1
    by_cases he:b.2.1=a.2.1
    ·exact .inl (uL (by omega) he)
    ·refine .inr ?_
     have:=(aAt _ _ (Nat.lt_succ_self _) h1.2.2.2).2 he
     simp only[mD,h33.1,h33.2]
     simpa using this
  ·have ea:a.1=4:=by simpa using h4
   unfold gW at h1
   simp only[Bool.or_eq_true,beq_iff_eq] at h1
   have h12:mD l a=12:=by simp[mD,ea]
   rcases h1 with h2 | h3 | h4'
   ·right;rw[h12];simp[mD,h2]
   ·right;rw[h12]
    have:=vH hl b.2.1
    simp only[mD,h3]
    simp
    omega
   ·exact .inl (uL (by omega) (by rw[hb h4',ha ea]))
def xI (l:List Cl) (s:List Tp):Nat:=bK (s.map (mD l))
theorem aPA {l:List Cl} (hl:l.length≤8) (t:Tp):mD l t≤12:=by
 unfold mD
 split
 ·omega
 ·split
  ·exact Nat.le_trans (vH hl _) (by omega)
  ·omega
theorem aLQ {l:List Cl} (hl:l.length≤8):∀s:List Tp,xI l s≤12*s.length
 | []=>by simp[xI,bK]
 | t::s=>by
  have:=aLQ hl s
  have:=aPA hl t
  unfold xI at*
  simp only[List.map_cons,bK,List.length_cons]
  omega
theorem aI2 {l:List Cl} (hl:l.length≤8):∀(a s:List Tp),a.length=s.length→(∀t∈a,okT t)→(∀t∈s,okT t)→(∀t∈aU l a s,t.1≠0)→
  (∀t∈aU l a s,okT t)∧xI l (aU l a s)≤xI l a∧(aU l a s≠a→xI l (aU l a s)<xI l a)
 | [],[],_,_,_,_=>⟨fun _ h=>(by cases h),Nat.le_refl _,fun h=>absurd rfl h⟩
 | [],_::_,h,_,_,_=>by cases h
 | _::_,[],h,_,_,_=>by cases h
 | x::a,y::s,h,ha,hs,hz=>by
  have hm:aU l (x::a) (y::s)=fG l x y::aU l a s:=rfl
  rw[hm] at hz⊢
  obtain⟨i1,i2,i3⟩:=aI2 hl a s (by simpa using h) (fun t ht=>ha t (List.mem_cons_of_mem _ ht)) (fun t ht=>hs t (List.mem_cons_of_mem _ ht)) (fun t ht=>hz t (List.mem_cons_of_mem _ ht))
  obtain⟨j1,j2⟩:=aTx hl (ha x (List.mem_cons_self ..)) (hs y (List.mem_cons_self ..)) (hz _ (List.mem_cons_self ..))
  refine⟨fun t ht=>?_,?_,fun hne=>?_⟩
  ·rcases List.mem_cons.1 ht with rfl | ht
   ·exact j1
   ·exact i1 t ht
  ·unfold xI at*
   simp only[List.map_cons,bK]
   rcases j2 with j2 | j2
   ·rw[j2];omega
   ·omega
  ·unfold xI at*
   simp only[List.map_cons,bK]
   rcases j2 with j2 | j2
   ·rw[j2] at hne⊢
    have:=i3 fun he=>hne (by rw[he])
    omega
   ·omega
def xP (l:List Cl) (s:Sh):Nat:=if s.1 then xI l s.2.1 else 97
structure aFO (s:Sh):Prop where
 len:s.2.1.length≤8
 ok:∀t∈s.2.1,okT t
theorem aO9 {l:List Cl} (hl:l.length≤8) {o:Sh} (ho:aFO o) {s:List Tp} (hs8:s.length≤8) (hs:∀t∈s,okT t):
  ((bJ l o s).2.2.1=true→(bJ l o s).2.1=true→aFO (bJ l o s).1∧xP l (bJ l o s).1<xP l o):=by
 unfold bJ
 cases h1:o.1 <;> simp only[Bool.not_true,Bool.not_false,cond_true,cond_false]
 ·intro _ _
  refine⟨⟨hs8,hs⟩,?_⟩
  have:=aLQ hl s
  simp only[xP,h1]
  simp
  omega
 ·cases h2:decide (o.2.1.length≠s.length) <;> simp only[cond_true,cond_false]
  ·have hlen:o.2.1.length=s.length:=by simpa using h2
   cases h3:(aU l o.2.1 s).any fun t=>t.1==0 <;> simp only[cond_true,cond_false]
   ·intro _ h4
    have hz:∀t∈aU l o.2.1 s,t.1≠0:=fun t ht h0=>by
     have:((aU l o.2.1 s).any fun t=>t.1==0)=true:=List.any_eq_true.2 ⟨t,ht,by simp[h0]⟩
     rw[h3] at this;cases this
    obtain⟨i1,-,i3⟩:=aI2 hl o.2.1 s hlen ho.ok hs hz
    refine⟨⟨by rw[kL l hlen];exact hs8,i1⟩,?_⟩
    simp only[xP,h1,if_true]
    exact i3 fun he=>by rw[he] at h4;simp at h4
   ·intro h _;cases h
  ·intro h _;cases h
theorem oB {α:Type} (g:α→Nat) (z:α):∀(l:List α) (k:Nat) (y:α),k<l.length→bK ((l.set k y).map g)+g (l.getD k z)=bK (l.map g)+g y
 | [],_,_,h=>by simp at h
 | x::l,0,y,_=>by simp[bK];omega
 | x::l,k+1,y,h=>by
  have:=oB g z l k y (by simpa using h)
  simp only[List.set_cons_succ,List.map_cons,bK,List.getD_cons_succ] at this⊢
  omega
def b2n (b:Bool):Nat:=if b then 1 else 0
def mu (l:List Cl) (h:List Sh) (q:List Bool):Nat:=bK (h.map (xP l))+bK (q.map b2n)
structure aFx (N:Nat) (h:List Sh) (q:List Bool):Prop where
 hl:h.length=N
 ql:q.length=N
 ok:∀s∈h,aFO s
theorem aKe {l:List Cl} (hl:l.length≤8) {N:Nat} {a:List Tp} (ha8:a.length≤8) (ha:∀t∈a,okT t):∀(ts:List Int) (h:List Sh) (q:List Bool),aFx N h q→(∀to∈ts,0≤to∧to<(N:Int))→
  aFx N (gG l a ts h q).2.1 (gG l a ts h q).2.2.1∧mu l (gG l a ts h q).2.1 (gG l a ts h q).2.2.1≤mu l h q
 | [],h,q,hg,_=>⟨hg,Nat.le_refl _⟩
 | to::ts,h,q,hg,ht=>by
  unfold gG
  obtain⟨t0,t1⟩:=ht to (List.mem_cons_self ..)
  have hk:to.toNat<h.length:=by rw[hg.hl];omega
  have hkq:to.toNat<q.length:=by rw[hg.ql];omega
  have hgo:aFO (h.getD to.toNat zSh):=by rw[getD_some (List.getElem?_eq_getElem hk)];exact hg.ok _ (List.getElem_mem hk)
  have hup:=aO9 hl hgo ha8 ha
  generalize bJ l (h.getD to.toNat zSh) a=r at hup
  cases h1:r.2.2.1 <;> simp only[Bool.not_true,Bool.not_false,cond_true,cond_false]
  ·exact⟨hg,Nat.le_refl _⟩
  ·cases h2:r.2.1 <;> simp only[cond_true,cond_false]
   ·exact aKe hl ha8 ha ts h q hg fun x hx=>ht x (List.mem_cons_of_mem _ hx)
   ·obtain⟨g1,g2⟩:=hup h1 h2
    have hg':aFx N (h.set to.toNat r.1) (q.set to.toNat true):=⟨by rw[List.length_set,hg.hl],by rw[List.length_set,hg.ql],fun s hs=>by
     rcases List.mem_or_eq_of_mem_set hs with hs | rfl
     ·exact hg.ok s hs
     ·exact g1⟩
    obtain⟨i1,i2⟩:=aKe hl ha8 ha ts _ _ hg' fun x hx=>ht x (List.mem_cons_of_mem _ hx)
    refine⟨i1,Nat.le_trans i2 ?_⟩
    unfold mu
    have e1:=oB (xP l) zSh h to.toNat r.1 hk
    have e2:=oB b2n false q to.toNat true hkq
    have e3:b2n true=1:=rfl
    omega
theorem aDJ {t:Tp} {n:Int} (h:dY t n=true):okT t:=by
 intro h4
 unfold dY at h
 rw[h4] at h
 simp at h
theorem aBQ {m:Im} {l:List Tp} (h:cZ m l=true) (k:Nat):okT (l.getD k zTp):=by
 by_cases hk:k<l.length
 ·rw[getD_some (List.getElem?_eq_getElem hk)]
  exact aDJ (List.all_eq_true.1 h _ (List.getElem_mem hk))
 ·rw[dJ (by omega)];intro h4;cases h4
theorem aPI {m:Im} (hs:aF m=true) {f:Int} (hf:inM m f=true) (n:Int):okT (lX (aC m f) n):=by
 have h:=iD hs hf
 simp only[cJ,Bool.and_eq_true] at h
 unfold lX
 cases decide (n<0) <;> simp only[cond_true,cond_false]
 ·rw[zR]
  split
  ·exact aBQ h.1 _
  ·exact aBQ h.2.1 _
 ·intro h4;cases h4
theorem aTT {m:Im} (hs:aF m=true) {f:Int} (hf:inM m f=true):okT (aC m f).2.2.1:=by
 have h:=iD hs hf
 simp only[cJ,Bool.and_eq_true,Bool.or_eq_true] at h
 rcases h.2.2.1 with h | h
 ·intro h4
  have:(aC m f).2.2.1=(5,0,()):=by simpa using h
  rw[this] at h4;cases h4
 ·exact aDJ h
theorem aCo {m:Im} (hs:aF m=true) (c:Int) (hc:sin c (m.1.length:Int)=true):cZ m (bH m c).2.1=true:=by
 simp only[sin,Bool.and_eq_true,decide_eq_true_eq] at hc
 have:=mU (oM hs) hc.1 hc.2
 simp only[cO,Bool.and_eq_true] at this
 exact this.2.1
theorem aP0 {m:Im} (hs:aF m=true) (c:Int) (k:Nat):okT ((cE m c).getD k zTp):=by
 have key:∀t∈cE m c,okT t:=by
  intro t ht
  unfold cE at ht
  simp only[List.mem_flatten,List.mem_map,List.mem_reverse] at ht
  obtain⟨x,⟨s,hsm,rfl⟩,ht⟩:=ht
  have hin:sin s (m.1.length:Int)=true:=by
   unfold aY at hsm
   cases hd:decide (c<(m.1.length:Int)) <;> simp only[hd,cond_true,cond_false] at hsm
   ·cases hsm
   ·have:=iB _ _ (Nat.lt_succ_self _) hsm
    have hd:c<(m.1.length:Int):=by simpa using hd
    simp only[sin,Bool.and_eq_true,decide_eq_true_eq]
    omega
  exact aDJ (List.all_eq_true.1 (aCo hs s hin) t ht)
 by_cases hk:k<(cE m c).length
 ·rw[getD_some (List.getElem?_eq_getElem hk)]
  exact key _ (List.getElem_mem hk)
 ·rw[dJ (by omega)];intro h4;cases h4
def jI (e:Eff):Prop:=∀t∈e.2.1,okT t
theorem iY {a:List Tp}:jI (a,[],()):=fun _ h=>by cases h
theorem gK {a:List Tp} {t:Tp} (h:okT t):jI (a,[t],()):=fun _ hx=>by rw[List.mem_singleton] at hx;subst hx;exact h
theorem xW {k n:Int} (h:k≠4∨n=0):okT (k,n,()):=fun h4=>by
 rcases h with h | h
 ·exact absurd h4 h
 ·exact h
theorem aFs {m:Im} (hs:aF m=true) {g:Int} (hg:inM m g=true) (t:List Tp):jI (iN (aC m g) t):=by
 unfold iN
 cases (aC m g).2.2.1.1 !=5 <;> simp only[cond_true,cond_false]
 ·exact iY
 ·exact gK (aTT hs hg)
theorem aOY (o:Int):jI (dP o).1:=by
 unfold dP
 have h1:okT tI:=xW (.inr rfl)
 have h2:okT tA:=xW (.inr rfl)
 have h3:okT tN:=xW (.inr rfl)
 refine bT (P:=fun z:Eff×Bool×Unit=>jI z.1) (gK h3) ?_
 refine bT (P:=fun z:Eff×Bool×Unit=>jI z.1) iY ?_
 refine bT (P:=fun z:Eff×Bool×Unit=>jI z.1) (gK h1) ?_
 refine bT (P:=fun z:Eff×Bool×Unit=>jI z.1) (gK h1) ?_
 refine bT (P:=fun z:Eff×Bool×Unit=>jI z.1) (gK h1) ?_
 refine bT (P:=fun z:Eff×Bool×Unit=>jI z.1) iY ?_
 refine bT (P:=fun z:Eff×Bool×Unit=>jI z.1) (gK h1) ?_
 refine bT (P:=fun z:Eff×Bool×Unit=>jI z.1) (gK h1) ?_
 refine bT (P:=fun z:Eff×Bool×Unit=>jI z.1) iY ?_
 refine bT (P:=fun z:Eff×Bool×Unit=>jI z.1) iY ?_
 refine bT (P:=fun z:Eff×Bool×Unit=>jI z.1) (gK h2) ?_
 exact bT (P:=fun z:Eff×Bool×Unit=>jI z.1) (gK h1) iY
theorem aT2 {m:Im} (hs:aF m=true) {i:Ins} {f:Int} (hf:inM m f=true) (hi:bI m (aC m f) i=true):jI (iX m (aC m f) i):=by
 have hcl:=oM hs
 unfold iX
 rcases i with⟨o,a,b,⟨⟩⟩
 refine bT (aOY _) ?_
 refine bT (gK (aPI hs hf _)) (bT iY (bT (gK (xW (.inl (by decide)))) (bT (gK (aP0 hs _ _)) (bT iY (bT (gK (aBQ (aEt hs) _)) (bT iY ?_))))))
 cases e:o==31
 case true=>
  obtain rfl:o=31:=by simpa using e
  have:sin a (m.2.2.2.1.length:Int)=true:=by simpa[bI] using hi
  exact aFs hs this _
 simp only[cond_false]
 cases e:o==32
 case true=>
  obtain rfl:o=32:=by simpa using e
  have:sin a (m.1.length:Int)=true∧sin b ((bH m a).2.2.1.length:Int)=true:=by simpa[bI] using hi
  have hsl:eZ m a b=true:=by unfold eZ;unfold sin at this;rw[this.1,this.2];rfl
  have h1:=yQ hsl
  simp only[sin,Bool.and_eq_true,decide_eq_true_eq] at this
  obtain⟨h2,h3⟩:=nY (mU hcl this.1.1 this.1.2) h1
  exact aFs hs (aP.2 h2) _
 simp only[cond_false]
 exact bT (gK (xW (.inl (by decide)))) (bT (bT iY iY) iY)
theorem aRC {m:Im} (hs:aF m=true) {f pc:Int} {s:List Tp} (hok:∀t∈s,okT t):∀t∈(aM m f pc s).1,okT t:=by
 unfold aM
 cases hf:inM m f
 ·intro t ht;simp at ht
 cases hp:sin pc (aB m f:Int)
 ·intro t ht;simp at ht
 simp only[Bool.and_self,Bool.not_true,cond_false]
 cases (cV (aH m f pc) pc).contains (aB m f:Int)
 case true=>intro t ht;simp at ht
 simp only[cond_false]
 cases h6:(aH m f pc).1==6 <;> simp only[cond_true,cond_false]
 ·have ho:=aT2 hs hf (kQ hs hf hp)
  unfold qU
  generalize iX m (aC m f) (aH m f pc)=E at ho⊢
  cases decide (s.length<E.1.length) || decide (s.length - E.1.length+E.2.1.length>8) <;> simp only[cond_true,cond_false]
  ·cases ((s.drop (s.length - E.1.length)).zip E.1).all fun p=>dT m (aH m f pc).1 p.1 p.2 <;> simp only[cond_true,cond_false]
   ·intro t ht;cases ht
   ·intro t ht
    rcases List.mem_append.1 ht with ht | ht
    ·exact hok t (List.mem_of_mem_take ht)
    ·exact ho t ht
  ·intro t ht;cases ht
 ·cases decide (s.length=0) || decide (s.length≥8) <;> simp only[cond_true,cond_false]
  ·intro t ht
   rcases List.mem_append.1 ht with ht | ht
   ·exact hok t ht
   ·exact hok t (List.mem_of_mem_drop ht)
  ·intro t ht;cases ht
structure aCW (N:Nat) (h:List Sh):Prop where
 len:h.length≤N
 ok:∀s∈h,s.2.1.length≤8
theorem aLJ {q:List Bool} (h:q.any id=true):q.findIdx id<q.length:=List.findIdx_lt_length_of_exists (by
 obtain⟨x,hx,h⟩:=List.any_eq_true.1 h
 exact⟨x,hx,h⟩)
theorem aG4 {m:Im} (hs:aF m=true) {f:Int} (hf:inM m f=true):∀(n:Nat) (h:List Sh) (q:List Bool),aFx (aB m f) h q→mu m.1 h q<n→∃r,kT m f n h q=some r∧aCW (aB m f) r.1
 | 0,_,_,_,hm=>by omega
 | n+1,h,q,hg,hm=>by
  have hl:=(bE (aV hs).1).classes
  unfold kT
  cases ha:q.any id <;> simp only[cond_true,cond_false]
  ·exact⟨_,rfl,by rw[hg.hl];exact Nat.le_refl _,fun s hs=>(hg.ok s hs).len⟩
  ·have hk:=aLJ ha
   generalize hpc:q.findIdx id=pc at hk
   have htrue:q.getD pc false=true:=by
    subst hpc
    have:=List.findIdx_getElem (p:=id) (xs:=q) (w:=hk)
    rw[getD_some (List.getElem?_eq_getElem hk)]
    exact this
   have hpcN:pc<aB m f:=by rw[←hg.ql];exact hk
   have hkh:pc<h.length:=by rw[hg.hl];exact hpcN
   have hg1:aFx (aB m f) h (q.set pc false):=⟨hg.hl,by rw[List.length_set,hg.ql],hg.ok⟩
   have hone:sL m f (pc:Int) h (q.set pc false)=true:=OneP.to ⟨hs,hf,by simp only[sin,Bool.and_eq_true,decide_eq_true_eq];omega,hg1.hl,hg1.ql,fun s hs=>dZ (by have:=(hg.ok s hs).len;omega)⟩
   have hmu:mu m.1 h (q.set pc false)+1=mu m.1 h q:=by
    unfold mu
    have:=oB b2n false q pc false hk
    rw[htrue] at this
    have e0:b2n false=0:=rfl
    have e1:b2n true=1:=rfl
    omega
   unfold nZ
   rw[hone]
   simp only[cond_true,Option.bind_some]
   have hgs:aFO (h.getD pc zSh):=by rw[getD_some (List.getElem?_eq_getElem hkh)];exact hg.ok _ (List.getElem_mem hkh)
   cases hr:(jR m f (pc:Int) h (q.set pc false)).1 <;> simp only[Bool.not_true,Bool.not_false,cond_true,cond_false]
   ·exact⟨_,rfl,Nat.zero_le _,fun s hs=>by cases hs⟩
   ·unfold jR at hr⊢
    rw[Int.toNat_natCast] at hr⊢
    cases he:(aM m f (pc:Int) (h.getD pc zSh).2.1).2.2.1 !=0 <;> simp only[he,cond_true,cond_false] at hr⊢
    ·obtain⟨-,-,h8,hto⟩:=fE hs (f:=f) (pc:=(pc:Int)) (s:=(h.getD pc zSh).2.1) (by simpa using he)
     obtain⟨i1,i2⟩:=aKe hl (N:=aB m f) h8 (aRC hs hgs.ok) (aM m f (pc:Int) (h.getD pc zSh).2.1).2.1 h (q.set pc false) hg1 hto
     exact aG4 hs hf n _ _ i1 (by omega)
    ·cases hr
theorem aBW {m:Im} (hs:aF m=true) {f:Int} (hf:inM m f=true):∃r,fZ m f=some r∧aCW (aB m f) r.1:=by
 unfold fZ
 rw[hs,hf]
 simp only[Bool.and_self,cond_true]
 have hc:=cN hs hf
 refine aG4 hs hf _ _ _ ⟨by simp,by simp,fun s hs'=>?_⟩ ?_
 ·rcases List.mem_or_eq_of_mem_set hs' with h | rfl
  ·rw[List.mem_replicate] at h
   rw[h.2]
   exact⟨Nat.zero_le _,fun _ h=>by cases h⟩
  ·exact⟨Nat.zero_le _,fun _ h=>by cases h⟩
 ·unfold mu
  have e1:=oB (xP m.1) zSh (List.replicate (aB m f) zSh) 0 (true,[],()) (by simp;omega)
  have e2:=oB b2n false (List.replicate (aB m f) false) 0 true (by simp;omega)
  have s1:∀n:Nat,bK ((List.replicate n zSh).map (xP m.1))=97*n:=by
   intro n
   induction n with
   | zero=>rfl
   | succ n ih=>rw[List.replicate_succ,List.map_cons,bK,ih];simp[xP];omega
  have s2:∀n:Nat,bK ((List.replicate n false).map b2n)=0:=by
   intro n
   induction n with
   | zero=>rfl
   | succ n ih=>rw[List.replicate_succ,List.map_cons,bK,ih];rfl
  rw[s1] at e1
  rw[s2] at e2
  have r1:xP m.1 (true,[],())=0:=rfl
  have r2:b2n true=1:=rfl
  omega
theorem aE9 {m:Im} (hs:aF m=true):∀(l:List Int) (out:List (List Sh)),(∀f∈l,inM m f=true)→(∀h∈out,aCW 64 h)→∃r,jZ m l out=some r∧(∀h∈r.1,aCW 64 h)∧(r.2.2.2.1=0→r.1.length=out.length+l.length)∧(r.2.2.2.1≠0→r.1=[])
 | [],out,_,ho=>⟨_,rfl,ho,fun _=>rfl,fun h=>absurd rfl h⟩
 | f::l,out,hl,ho=>by
  have hf:=hl f (List.mem_cons_self ..)
  obtain⟨r,hr,hg⟩:=aBW hs hf
  have hc:=cN hs hf
  unfold jZ
  rw[hr]
  simp only[Option.bind_some]
  cases he:r.2.2.1 !=0 <;> simp only[cond_true,cond_false]
  ·obtain⟨r',h1,h2,h3,h4⟩:=aE9 hs l (out++[r.1]) (fun x hx=>hl x (List.mem_cons_of_mem _ hx)) (fun h hh=>by
    rcases List.mem_append.1 hh with hh | hh
    ·exact ho h hh
    ·rw[List.mem_singleton] at hh;subst hh;exact⟨by have:=hg.len;omega,hg.ok⟩)
   exact⟨r',h1,h2,fun h0=>by rw[h3 h0];simp;omega,h4⟩
  ·have:r.2.2.1≠0:=by simpa using he
   exact⟨_,rfl,fun h hh=>(by cases hh),fun h0=>absurd h0 this,fun _=>rfl⟩
theorem aQE {l:List (List Sh)} (hl:l.length≤12) (h:∀x∈l,aCW 64 x):eS l=true:=by
 simp only[eS,Bool.and_eq_true,List.all_eq_true]
 refine⟨dZ (by omega),fun x hx=>?_⟩
 have:=h x hx
 exact⟨dZ (by have:=this.len;omega),fun s hs=>dZ (by have:=this.ok s hs;omega)⟩
theorem aKM {m:Im} (hs:aF m=true):∃r,iS m=some r∧eS r.1=true∧(r.2.2.2.1=0→r.1.length=m.2.2.2.1.length):=by
 have h12:=(bE (aV hs).1).methods
 unfold iS
 rw[hs]
 simp only[cond_true]
 obtain⟨r,h1,h2,h3,h4⟩:=aE9 hs (ints m.2.2.2.1.length) [] (fun f hf=>aP.2 (cX.1 hf)) (fun _ h=>by cases h)
 have hn:r.2.2.2.1=0→r.1.length=m.2.2.2.1.length:=fun h0=>by rw[h3 h0,dG];simp
 refine⟨r,h1,aQE ?_ h2,hn⟩
 by_cases h0:r.2.2.2.1=0
 ·rw[hn h0];exact h12
 ·rw[h4 h0];exact Nat.zero_le _
end Go.Pli

namespace Go.Pli
open Go Go.PM
def gT (n:Int) (t:Tp):Prop:=dY t n=true∨t=(4,0,())
theorem qH {n:Int} {t:Tp} (h:gT n t):(t.1=1∧t.2.1=0)∨(t.1=2∧t.2.1=0)∨(t.1=3∧0≤t.2.1∧t.2.1<n)∨(t.1=4∧t.2.1=0):=by
 rcases h with h | rfl
 ·unfold dY at h
  cases h1:t.1==1
  ·cases h2:t.1==2
   ·rw[h1,h2] at h
    simp only[Bool.or_self,cond_false,Bool.and_eq_true,beq_iff_eq,decide_eq_true_eq] at h
    exact .inr (.inr (.inl ⟨h.1,h.2.1,h.2.2⟩))
   ·rw[h2,Bool.or_true] at h
    exact .inr (.inl ⟨by simpa using h2,by simpa using h⟩)
  ·rw[h1,Bool.true_or] at h
   exact .inl ⟨by simpa using h1,by simpa using h⟩
 ·exact .inr (.inr (.inr ⟨rfl,rfl⟩))
theorem aSR {n:Int} {t:Tp} (h:gT n t):t.1≠0:=by rcases qH h with h | h | h | h <;> omega
theorem aIh {n:Int} {t:Tp} (h:gT n t):okT t:=fun h4=>by rcases qH h with h | h | h | h <;> omega
theorem aC9 {l:List Cl} {b c:Int}:∀(n:Nat) (a:Int),a.toNat<n→b∈bQ l a→c∈bQ l b→c∈bQ l a
 | 0,_,h,_,_=>by omega
 | n+1,a,h,hb,hc=>by
  by_cases h0:a<0
  ·rw[bO h0] at hb;cases hb
  have hk:=kC (l:=l) (c:=a) (by omega)
  rw[cF (by omega)] at hb⊢
  rcases List.mem_cons.1 hb with rfl | hb
  ·rwa [cF (by omega)] at hc
  ·by_cases h2:kup l a<0
   ·rw[bO h2] at hb;cases hb
   ·exact List.mem_cons_of_mem _ (aC9 n (kup l a) (by omega) hb hc)
theorem aNT {l:List Cl} {a:Int} (h:0≤a):a∈bQ l a:=by rw[cF h];exact List.mem_cons_self ..
theorem iF {l:List Cl} {a b:Int}:bZ l a b=true↔0≤b∧b<(l.length:Int)∧a<(l.length:Int)∧b∈bQ l a:=by
 unfold bZ
 simp only[Bool.and_eq_true,decide_eq_true_eq,List.contains_iff_mem]
theorem aK1 {l:List Cl} {a b c:Int} (h1:bZ l a b=true) (h2:bZ l b c=true):bZ l a c=true:=by
 rw[iF] at*
 exact⟨h2.1,h2.2.1,h1.2.2.1,aC9 _ _ (Nat.lt_succ_self _) h1.2.2.2 h2.2.2.2⟩
theorem fX {l:List Cl} {a b:Tp}:cP l a b=true↔(a.1=4∧gW b=true)∨(a.1=3∧b.1=3∧bZ l a.2.1 b.2.1=true)∨(a=b∧(a.1=1∨a.1=2)):=by
 unfold cP
 cases h4:a.1==4
 ·have n4:a.1≠4:=by simpa using h4
  cases h33:a.1==3&&b.1==3 <;> simp only[cond_true,cond_false]
  ·simp only[Bool.and_eq_true,Bool.or_eq_true,beq_iff_eq]
   constructor
   ·exact fun h=> .inr (.inr h)
   ·rintro (h | h | h)
    ·exact absurd h.1 n4
    ·simp[h.1,h.2.1] at h33
    ·exact h
  ·simp only[Bool.and_eq_true,beq_iff_eq] at h33
   constructor
   ·exact fun h=> .inr (.inl ⟨h33.1,h33.2,h⟩)
   ·rintro (h | h | h)
    ·exact absurd h.1 n4
    ·exact h.2.2
    ·omega
 ·have e4:a.1=4:=by simpa using h4
  simp only[cond_true]
  constructor
  ·exact fun h=> .inl ⟨e4,h⟩
  ·rintro (h | h | h)
   ·exact h.2
   ·omega
   ·omega
theorem oK {t:Tp}:gW t=true↔t.1=2∨t.1=3∨t.1=4:=by
 unfold gW
 simp only[Bool.or_eq_true,beq_iff_eq]
theorem aEh {l:List Cl} {a:Tp} (h:gT (l.length:Int) a):cP l a a=true:=by
 rw[fX]
 rcases qH h with h | h | h | h
 ·exact .inr (.inr ⟨rfl,.inl h.1⟩)
 ·exact .inr (.inr ⟨rfl,.inr h.1⟩)
 ·exact .inr (.inl ⟨h.1,h.1,iF.2 ⟨h.2.1,h.2.2,h.2.2,aNT h.2.1⟩⟩)
 ·exact .inl ⟨h.1,oK.2 (.inr (.inr h.1))⟩
theorem aG8 {l:List Cl} {a b c:Tp} (h1:cP l a b=true) (h2:cP l b c=true):cP l a c=true:=by
 rw[fX] at*
 rcases h1 with⟨a4,hb⟩ | ⟨a3,b3,hab⟩ | ⟨rfl,ha⟩
 ·refine .inl ⟨a4,?_⟩
  rcases h2 with⟨_,hc⟩ | ⟨_,c3,_⟩ | ⟨rfl,_⟩
  ·exact hc
  ·exact oK.2 (.inr (.inl c3))
  ·exact hb
 ·rcases h2 with⟨b4,_⟩ | ⟨_,c3,hbc⟩ | ⟨rfl,hb⟩
  ·omega
  ·exact .inr (.inl ⟨a3,c3,aK1 hab hbc⟩)
  ·omega
 ·exact h2
theorem aQ1 {l:List Cl} {a b:Tp} (ga:gT (l.length:Int) a) (gb:gT (l.length:Int) b) (h1:cP l a b=true) (h2:cP l b a=true):a=b:=by
 rw[fX] at*
 rcases h1 with⟨a4,hb⟩ | ⟨a3,b3,hab⟩ | ⟨h,_⟩
 ·rcases h2 with⟨b4,_⟩ | ⟨_,a3,_⟩ | ⟨h,_⟩
  ·have e1:=aIh ga a4
   have e2:=aIh gb b4
   exact uL (by omega) (by omega)
  ·omega
  ·exact h.symm
 ·rcases h2 with⟨b4,_⟩ | ⟨_,_,hba⟩ | ⟨h,_⟩
  ·omega
  ·have i1:=(iB _ _ (Nat.lt_succ_self _) (iF.1 hab).2.2.2).2
   have i2:=(iB _ _ (Nat.lt_succ_self _) (iF.1 hba).2.2.2).2
   exact uL (by omega) (by omega)
  ·exact h.symm
 ·exact h
theorem aEJ {l:List Cl} {p:Int→Bool} {x c:Int}:∀(n:Nat) (d:Int),d.toNat<n→(bQ l d).find? p=some x→c∈bQ l d→p c=true→c∈bQ l x
 | 0,_,h,_,_,_=>by omega
 | n+1,d,h,hf,hc,hp=>by
  by_cases h0:d<0
  ·rw[bO h0] at hc;cases hc
  have hk:=kC (l:=l) (c:=d) (by omega)
  rw[cF (by omega),List.find?_cons] at hf
  cases hpd:p d
  ·rw[hpd] at hf
   rw[cF (by omega)] at hc
   rcases List.mem_cons.1 hc with rfl | hc
   ·rw[hpd] at hp;cases hp
   ·by_cases h2:kup l d<0
    ·rw[bO h2] at hc;cases hc
    ·exact aEJ n (kup l d) (by omega) hf hc hp
  ·rw[hpd] at hf
   injection hf with hf
   subst hf
   exact hc
theorem aTW {l:List Cl} {a b:Tp} (ga:gT (l.length:Int) a) (gb:gT (l.length:Int) b) (h:(fG l a b).1≠0):cP l a (fG l a b)=true∧cP l b (fG l a b)=true∧gT (l.length:Int) (fG l a b):=by
 unfold fG at h⊢
 cases h1:cP l a b <;> simp only[h1,cond_true,cond_false] at h⊢
 ·cases h2:cP l b a <;> simp only[h2,cond_true,cond_false] at h⊢
  ·cases h3:a.1 !=3 || b.1 !=3 <;> simp only[h3,cond_true,cond_false] at h⊢
   ·have h3a:a.1=3:=by simpa using (Bool.or_eq_false_iff.1 h3).1
    have h3b:b.1=3:=by simpa using (Bool.or_eq_false_iff.1 h3).2
    cases hf:(bQ l (kup l a.2.1)).find? fun c=>bZ l b.2.1 c with
    | none=>rw[hf] at h;exact absurd rfl h
    | some c=>
     have hm:=List.mem_of_find?_eq_some hf
     have hb:bZ l b.2.1 c=true:=by simpa using List.find?_some hf
     have hb':=iF.1 hb
     have ga':0≤a.2.1∧a.2.1<(l.length:Int):=by rcases qH ga with h | h | h | h <;> omega
     have hca:c∈bQ l a.2.1:=by rw[cF ga'.1];exact List.mem_cons_of_mem _ hm
     refine⟨fX.2 (.inr (.inl ⟨h3a,rfl,iF.2 ⟨hb'.1,hb'.2.1,ga'.2,hca⟩⟩)),fX.2 (.inr (.inl ⟨h3b,rfl,hb⟩)),.inl ?_⟩
     simp only[dY]
     rw[decide_eq_true hb'.1,decide_eq_true hb'.2.1]
     rfl
   ·exact absurd rfl h
  ·exact⟨aEh ga,trivial,ga⟩
 ·exact⟨trivial,aEh gb,gb⟩
theorem aRX {l:List Cl} {a b c:Tp} (ga:gT (l.length:Int) a) (gb:gT (l.length:Int) b) (gc:gT (l.length:Int) c) (hac:cP l a c=true) (hbc:cP l b c=true):(fG l a b).1≠0∧cP l (fG l a b) c=true:=by
 unfold fG
 cases h1:cP l a b <;> simp only[cond_true,cond_false]
 ·cases h2:cP l b a <;> simp only[cond_true,cond_false]
  ·have n1:¬cP l a b=true:=by rw[h1];exact Bool.false_ne_true
   have n2:¬cP l b a=true:=by rw[h2];exact Bool.false_ne_true
   have h33:a.1=3∧b.1=3:=by
    have ka:=qH ga
    have kb:=qH gb
    rcases fX.1 hac with⟨a4,hc⟩ | ⟨a3,c3,_⟩ | ⟨e,ha⟩
    ·exfalso
     refine n1 (fX.2 (.inl ⟨a4,?_⟩))
     rw[oK] at hc⊢
     rcases fX.1 hbc with⟨b4,_⟩ | ⟨b3,_⟩ | ⟨e,hb⟩
     ·exact .inr (.inr b4)
     ·exact .inr (.inl b3)
     ·subst e;omega
    ·refine⟨a3,?_⟩
     rcases fX.1 hbc with⟨b4,_⟩ | ⟨b3,_⟩ | ⟨e,hb⟩
     ·exact absurd (fX.2 (.inl ⟨b4,oK.2 (.inr (.inl a3))⟩)) n2
     ·exact b3
     ·subst e;omega
    ·exfalso
     subst e
     exact n2 hbc
   have h3:(a.1 !=3 || b.1 !=3)=false:=by simp[h33.1,h33.2]
   rw[h3]
   simp only[cond_false]
   have hac':a.1=3∧c.1=3∧bZ l a.2.1 c.2.1=true:=by
    rcases fX.1 hac with⟨a4,hc⟩ | h | ⟨e,ha⟩
    ·omega
    ·exact h
    ·omega
   have hbc':bZ l b.2.1 c.2.1=true:=by
    rcases fX.1 hbc with⟨a4,hc⟩ | h | ⟨e,ha⟩
    ·omega
    ·exact h.2.2
    ·omega
   have ga':0≤a.2.1∧a.2.1<(l.length:Int):=by rcases qH ga with h | h | h | h <;> omega
   have hc:=iF.1 hac'.2.2
   have hne:c.2.1≠a.2.1:=fun e=>n2 (by
    have:c=a:=uL (by omega) e
    rw[←this];exact hbc)
   have hcm:c.2.1∈bQ l (kup l a.2.1):=by
    have:=hc.2.2.2
    rw[cF ga'.1] at this
    rcases List.mem_cons.1 this with h | h
    ·exact absurd h hne
    ·exact h
   cases hf:(bQ l (kup l a.2.1)).find? fun c=>bZ l b.2.1 c with
   | none=>
    have:=List.find?_eq_none.1 hf _ hcm
    exact absurd hbc' this
   | some x=>
    have hx:bZ l b.2.1 x=true:=by simpa using List.find?_some hf
    have hx':=iF.1 hx
    refine⟨fun h=>by simp at h,fX.2 (.inr (.inl ⟨rfl,hac'.2.1,iF.2 ⟨hc.1,hc.2.1,hx'.2.1,?_⟩⟩))⟩
    exact aEJ _ _ (Nat.lt_succ_self _) hf hcm hbc'
  ·exact⟨aSR ga,hac⟩
 ·exact⟨aSR gb,hbc⟩
def leS (l:List Cl):List Tp→List Tp→Prop
 | [],[]=>True
 | x::a,y::b=>cP l x y=true∧leS l a b
 | _,_=>False
def gS (n:Int) (s:List Tp):Prop:=∀t∈s,gT n t
theorem dX {n:Int} {t:Tp} {s:List Tp} (h:gS n (t::s)):gT n t∧gS n s:=⟨h t (List.mem_cons_self ..),fun x hx=>h x (List.mem_cons_of_mem _ hx)⟩
theorem oO {l:List Cl}:∀{a b:List Tp},leS l a b→a.length=b.length
 | [],[],_=>rfl
 | [],_::_,h=>h.elim
 | _::_,[],h=>h.elim
 | _::_,_::_,h=>by simp only[List.length_cons,oO h.2]
theorem uW {l:List Cl}:∀{a:List Tp},gS (l.length:Int) a→leS l a a
 | [],_=>trivial
 | _::_,h=>⟨aEh (dX h).1,uW (dX h).2⟩
theorem lT {l:List Cl}:∀{a b c:List Tp},leS l a b→leS l b c→leS l a c
 | [],[],[],_,_=>trivial
 | _::_,_::_,_::_,h1,h2=>⟨aG8 h1.1 h2.1,lT h1.2 h2.2⟩
 | [],[],_::_,_,h=>h.elim
 | [],_::_,_,h,_=>h.elim
 | _::_,[],_,h,_=>h.elim
 | _::_,_::_,[],_,h=>h.elim
theorem aJ4 {l:List Cl}:∀{a b:List Tp},gS (l.length:Int) a→gS (l.length:Int) b→leS l a b→leS l b a→a=b
 | [],[],_,_,_,_=>rfl
 | _::_,_::_,ga,gb,h1,h2=>by rw[aQ1 (dX ga).1 (dX gb).1 h1.1 h2.1,aJ4 (dX ga).2 (dX gb).2 h1.2 h2.2]
 | [],_::_,_,_,h,_=>h.elim
 | _::_,[],_,_,h,_=>h.elim
theorem aEc {l:List Cl}:∀(n:Nat) {a b:List Tp},leS l a b→leS l (a.drop n) (b.drop n)
 | 0,_,_,h=>h
 | _+1,[],[],h=>h
 | n+1,_::_,_::_,h=>aEc n h.2
 | _+1,[],_::_,h=>h.elim
 | _+1,_::_,[],h=>h.elim
theorem aKr {l:List Cl}:∀(n:Nat) {a b:List Tp},leS l a b→leS l (a.take n) (b.take n)
 | 0,_,_,_=>trivial
 | _+1,[],[],h=>h
 | n+1,_::_,_::_,h=>⟨h.1,aKr n h.2⟩
 | _+1,[],_::_,h=>h.elim
 | _+1,_::_,[],h=>h.elim
theorem aGp {l:List Cl}:∀{a b c d:List Tp},leS l a b→leS l c d→leS l (a++c) (b++d)
 | [],[],_,_,_,h=>h
 | _::_,_::_,_,_,h1,h2=>⟨h1.1,aGp h1.2 h2⟩
 | [],_::_,_,_,h,_=>h.elim
 | _::_,[],_,_,h,_=>h.elim
theorem aIT {l:List Cl}:∀{a s:List Tp},a.length=s.length→gS (l.length:Int) a→gS (l.length:Int) s→(∀t∈aU l a s,t.1≠0)→leS l a (aU l a s)∧leS l s (aU l a s)∧gS (l.length:Int) (aU l a s)
 | [],[],_,_,_,_=>⟨trivial,trivial,fun _ h=>(by cases h)⟩
 | [],_::_,h,_,_,_=>by cases h
 | _::_,[],h,_,_,_=>by cases h
 | x::a,y::s,h,ga,gs,hz=>by
  have hm:aU l (x::a) (y::s)=fG l x y::aU l a s:=rfl
  rw[hm] at hz⊢
  obtain⟨i1,i2,i3⟩:=aIT (l:=l) (a:=a) (s:=s) (by simpa using h) (dX ga).2 (dX gs).2 fun t ht=>hz t (List.mem_cons_of_mem _ ht)
  obtain⟨j1,j2,j3⟩:=aTW (dX ga).1 (dX gs).1 (hz _ (List.mem_cons_self ..))
  exact⟨⟨j1,i1⟩,⟨j2,i2⟩,fun t ht=>by
   rcases List.mem_cons.1 ht with rfl | ht
   ·exact j3
   ·exact i3 t ht⟩
theorem aHh {l:List Cl}:∀{a s c:List Tp},gS (l.length:Int) a→gS (l.length:Int) s→gS (l.length:Int) c→leS l a c→leS l s c→(∀t∈aU l a s,t.1≠0)∧leS l (aU l a s) c
 | [],[],[],_,_,_,_,_=>⟨fun _ h=>(by cases h),trivial⟩
 | x::a,y::s,z::c,ga,gs,gc,h1,h2=>by
  have hm:aU l (x::a) (y::s)=fG l x y::aU l a s:=rfl
  rw[hm]
  obtain⟨i1,i2⟩:=aHh (dX ga).2 (dX gs).2 (dX gc).2 h1.2 h2.2
  obtain⟨j1,j2⟩:=aRX (dX ga).1 (dX gs).1 (dX gc).1 h1.1 h2.1
  exact⟨fun t ht=>by
   rcases List.mem_cons.1 ht with rfl | ht
   ·exact j1
   ·exact i1 t ht,⟨j2,i2⟩⟩
 | [],_,_::_,_,_,_,h,_=>h.elim
 | _::_,_,[],_,_,_,h,_=>h.elim
 | [],_::_,[],_,_,_,_,h=>h.elim
 | _::_,[],_::_,_,_,_,_,h=>h.elim
end Go.Pli

namespace Go.Pli
open Go Go.PM
abbrev nC (m:Im):Int:=(m.1.length:Int)
theorem aDS {m:Im} {l:List Tp} (h:cZ m l=true) {k:Nat} (hk:k<l.length):gT (nC m) (l.getD k zTp):=by
 rw[getD_some (List.getElem?_eq_getElem hk)]
 exact .inl (List.all_eq_true.1 h _ (List.getElem_mem hk))
theorem aRp {m:Im} (hs:aF m=true) {f:Int} (hf:inM m f=true) {n:Int} (hn:sin n (((aC m f).1.length+(aC m f).2.1.length:Nat):Int)=true):gT (nC m) (lX (aC m f) n):=by
 have h:=iD hs hf
 simp only[cJ,Bool.and_eq_true] at h
 simp only[sin,Bool.and_eq_true,decide_eq_true_eq] at hn
 unfold lX
 rw[decide_eq_false (show ¬n<0 by omega),cond_false,zR]
 split
 ·exact aDS h.1 (by assumption)
 ·exact aDS h.2.1 (by omega)
theorem aUI {m:Im} (hs:aF m=true) {f:Int} (hf:inM m f=true) (h5:((aC m f).2.2.1.1 !=5)=true):gT (nC m) (aC m f).2.2.1:=by
 have h:=iD hs hf
 simp only[cJ,Bool.and_eq_true,Bool.or_eq_true] at h
 rcases h.2.2.1 with h | h
 ·have:(aC m f).2.2.1=(5,0,()):=by simpa using h
  rw[this] at h5;cases h5
 ·exact .inl h
theorem aQ5 {m:Im} (hs:aF m=true) {c:Int} {k:Nat} (hk:k<(cE m c).length):gT (nC m) ((cE m c).getD k zTp):=by
 rw[getD_some (List.getElem?_eq_getElem hk)]
 have ht:=List.getElem_mem hk
 generalize (cE m c)[k]=t at ht
 unfold cE at ht
 simp only[List.mem_flatten,List.mem_map,List.mem_reverse] at ht
 obtain⟨x,⟨s,hsm,rfl⟩,ht⟩:=ht
 have hin:sin s (m.1.length:Int)=true:=by
  unfold aY at hsm
  cases hd:decide (c<(m.1.length:Int)) <;> simp only[hd,cond_true,cond_false] at hsm
  ·cases hsm
  ·have:=iB _ _ (Nat.lt_succ_self _) hsm
   have hd:c<(m.1.length:Int):=by simpa using hd
   simp only[sin,Bool.and_eq_true,decide_eq_true_eq]
   omega
 exact .inl (List.all_eq_true.1 (aCo hs s hin) t ht)
theorem aIB {m:Im} {c:Int} (h:sin c (m.1.length:Int)=true):gT (nC m) (tR c):=by
 simp only[sin,Bool.and_eq_true,decide_eq_true_eq] at h
 refine .inl ?_
 simp only[dY,tR]
 rw[decide_eq_true h.1,decide_eq_true h.2]
 rfl
def aBn (n:Int) (e:Eff):Prop:=gS n e.2.1
theorem iP {n:Int} {a:List Tp}:aBn n (a,[],()):=fun _ h=>by cases h
theorem fC {n:Int} {a:List Tp} {t:Tp} (h:gT n t):aBn n (a,[t],()):=fun _ hx=>by rw[List.mem_singleton] at hx;subst hx;exact h
theorem aDi {m:Im} (hs:aF m=true) {g:Int} (hg:inM m g=true) (t:List Tp):aBn (nC m) (iN (aC m g) t):=by
 unfold iN
 cases h:(aC m g).2.2.1.1 !=5 <;> simp only[cond_true,cond_false]
 ·exact iP
 ·exact fC (aUI hs hg h)
theorem aNg {n:Int} (o:Int):aBn n (dP o).1:=by
 have h1:gT n tI:= .inl rfl
 have h2:gT n tA:= .inl rfl
 have h3:gT n tN:= .inr rfl
 have P:∀{b:Bool} {x y:Eff×Bool×Unit},aBn n x.1→aBn n y.1→aBn n (bif b then x else y).1:=fun {b} {x} {y} h1 h2=>by cases b;exact h2;exact h1
 unfold dP
 exact P (fC h3) (P iP (P (fC h1) (P (fC h1) (P (fC h1) (P iP (P (fC h1) (P (fC h1) (P iP (P iP (P (fC h2) (P (fC h1) iP)))))))))))
theorem aJP {m:Im} (hs:aF m=true) {i:Ins} {f:Int} (hf:inM m f=true) (hi:bI m (aC m f) i=true):aBn (nC m) (iX m (aC m f) i):=by
 have hcl:=oM hs
 rcases i with⟨o,a,b,⟨⟩⟩
 unfold iX
 cases hp:(dP o).2.1
 case true=>exact aNg _
 simp only[cond_false]
 cases e:o==3
 case true=>
  obtain rfl:o=3:=by simpa using e
  exact fC (aRp hs hf (by simpa[bI] using hi))
 simp only[cond_false]
 cases e:o==4
 case true=>exact iP
 simp only[cond_false]
 cases e:o==22
 case true=>
  obtain rfl:o=22:=by simpa using e
  exact fC (aIB (by simpa[bI] using hi))
 simp only[cond_false]
 cases e:o==27
 case true=>
  obtain rfl:o=27:=by simpa using e
  have:sin a (m.1.length:Int)=true∧sin b (dR m a:Int)=true:=by simpa[bI] using hi
  obtain⟨h1,h2⟩:=this
  simp only[sin,Bool.and_eq_true,decide_eq_true_eq] at h1 h2
  rw[←lE h1.2] at h2
  exact fC (aQ5 hs (by omega))
 simp only[cond_false]
 cases e:o==28
 case true=>exact iP
 simp only[cond_false]
 cases e:o==29
 case true=>
  obtain rfl:o=29:=by simpa using e
  have:sin a (m.2.1.length:Int)=true:=by simpa[bI] using hi
  simp only[sin,Bool.and_eq_true,decide_eq_true_eq] at this
  exact fC (aDS (aEt hs) (by omega))
 simp only[cond_false]
 cases e:o==30
 case true=>exact iP
 simp only[cond_false]
 cases e:o==31
 case true=>
  obtain rfl:o=31:=by simpa using e
  have:sin a (m.2.2.2.1.length:Int)=true:=by simpa[bI] using hi
  exact aDi hs this _
 simp only[cond_false]
 cases e:o==32
 case true=>
  obtain rfl:o=32:=by simpa using e
  have:sin a (m.1.length:Int)=true∧sin b ((bH m a).2.2.1.length:Int)=true:=by simpa[bI] using hi
  have hsl:eZ m a b=true:=by unfold eZ;unfold sin at this;rw[this.1,this.2];rfl
  have h1:=yQ hsl
  simp only[sin,Bool.and_eq_true,decide_eq_true_eq] at this
  obtain⟨h2,h3⟩:=nY (mU hcl this.1.1 this.1.2) h1
  exact aDi hs (aP.2 h2) _
 simp only[cond_false]
 cases e:o==34
 case true=>
  obtain rfl:o=34:=by simpa using e
  exact fC (aIB (by simpa[bI] using hi))
 simp only[cond_false]
 cases o==33 <;> simp only[cond_true,cond_false]
 ·exact iP
 ·cases (aC m f).2.2.1.1 !=5 <;> exact iP
theorem vN {m:Im} (hs:aF m=true) {f pc:Int} {s:List Tp} (hok:gS (nC m) s):gS (nC m) (aM m f pc s).1:=by
 have nil:gS (nC m) []:=fun _ h=>by cases h
 unfold aM
 cases hf:inM m f
 ·exact nil
 cases hp:sin pc (aB m f:Int)
 ·exact nil
 simp only[Bool.and_self,Bool.not_true,cond_false]
 cases (cV (aH m f pc) pc).contains (aB m f:Int)
 case true=>exact nil
 simp only[cond_false]
 cases h6:(aH m f pc).1==6 <;> simp only[cond_true,cond_false]
 ·have ho:=aJP hs hf (kQ hs hf hp)
  unfold qU
  generalize iX m (aC m f) (aH m f pc)=E at ho⊢
  cases decide (s.length<E.1.length) || decide (s.length - E.1.length+E.2.1.length>8) <;> simp only[cond_true,cond_false]
  ·cases ((s.drop (s.length - E.1.length)).zip E.1).all fun p=>dT m (aH m f pc).1 p.1 p.2 <;> simp only[cond_true,cond_false]
   ·exact nil
   ·intro t ht
    rcases List.mem_append.1 ht with ht | ht
    ·exact hok t (List.mem_of_mem_take ht)
    ·exact ho t ht
  ·exact nil
 ·cases decide (s.length=0) || decide (s.length≥8) <;> simp only[cond_true,cond_false]
  ·intro t ht
   rcases List.mem_append.1 ht with ht | ht
   ·exact hok t ht
   ·exact hok t (List.mem_of_mem_drop ht)
  ·exact nil
theorem aPa {m:Im} {o:Int} {a b w:Tp} (h:cP m.1 a b=true) (hb:dT m o b w=true):dT m o a w=true:=by
 unfold dT at hb⊢
 cases h0:w.1==0 <;> simp only[h0,cond_true,cond_false] at hb⊢
 cases h4:w.1==4 <;> simp only[h4,cond_true,cond_false] at hb⊢
 ·exact aG8 h hb
 ·simp only[Bool.and_eq_true,Bool.or_eq_true,bne_iff_ne] at hb⊢
  rcases fX.1 h with⟨a4,_⟩ | ⟨a3,_⟩ | ⟨rfl,_⟩
  ·exact⟨oK.2 (.inr (.inr a4)),.inr (by omega)⟩
  ·exact⟨oK.2 (.inr (.inl a3)),.inr (by omega)⟩
  ·exact hb
theorem aKi {m:Im} {o:Int}:∀{a b:List Tp} {w:List Tp},leS m.1 a b→((b.zip w).all fun p=>dT m o p.1 p.2)=true→((a.zip w).all fun p=>dT m o p.1 p.2)=true
 | [],[],_,_,_=>by simp
 | x::a,y::b,[],_,_=>by simp
 | x::a,y::b,w::ws,hle,h=>by
  simp only[List.zip_cons_cons,List.all_cons,Bool.and_eq_true] at h⊢
  exact⟨aPa hle.1 h.1,aKi hle.2 h.2⟩
 | [],_::_,_,h,_=>h.elim
 | _::_,[],_,h,_=>h.elim
theorem aHl {m:Im} (hs:aF m=true) {f pc:Int} {s t:List Tp} (hle:leS m.1 s t) (h:(aM m f pc t).2.2.1=0):
  (aM m f pc s).2.2.1=0∧(aM m f pc s).2.1=(aM m f pc t).2.1∧leS m.1 (aM m f pc s).1 (aM m f pc t).1:=by
 have hlen:=oO hle
 unfold aM at h⊢
 cases hf:inM m f
 ·rw[hf] at h;simp at h
 cases hp:sin pc (aB m f:Int)
 ·rw[hf,hp] at h;simp at h
 simp only[hf,hp,Bool.and_self,Bool.not_true,cond_false] at h⊢
 cases hn:(cV (aH m f pc) pc).contains (aB m f:Int)
 case true=>rw[hn] at h;simp at h
 simp only[hn,cond_false] at h⊢
 have hi:=kQ hs hf hp
 cases h6:(aH m f pc).1==6 <;> simp only[h6,cond_true,cond_false] at h⊢
 ·have ho:=aJP hs hf hi
  unfold qU at h⊢
  rw[hlen]
  generalize iX m (aC m f) (aH m f pc)=E at h ho⊢
  cases hb:decide (t.length<E.1.length) || decide (t.length - E.1.length+E.2.1.length>8) <;> simp only[hb,cond_true,cond_false] at h⊢
  ·cases hz:((t.drop (t.length - E.1.length)).zip E.1).all fun p=>dT m (aH m f pc).1 p.1 p.2 <;> simp only[hz,cond_true,cond_false] at h⊢
   ·cases h
   ·rw[aKi (aEc _ hle) hz]
    exact⟨rfl,rfl,aGp (aKr _ hle) (uW ho)⟩
  ·cases h
 ·rw[hlen]
  cases hb:decide (t.length=0) || decide (t.length≥8) <;> simp only[hb,cond_true,cond_false] at h⊢
  ·exact⟨trivial,trivial,aGp hle (aEc _ hle)⟩
  ·cases h
structure Gd (m:Im) (N:Nat) (h:List Sh):Prop where
 len:h.length=N
 good:∀s∈h,s.2.1.length≤8∧gS (nC m) s.2.1
 bare:∀s∈h,s.1=false→s=zSh
def sh (h:List Sh) (k:Nat):Sh:=h.getD k zSh
theorem Gd.at' {m:Im} {N:Nat} {h:List Sh} (hg:Gd m N h) (k:Nat):(sh h k).2.1.length≤8∧gS (nC m) (sh h k).2.1:=by
 unfold sh
 by_cases hk:k<h.length
 ·rw[getD_some (List.getElem?_eq_getElem hk)];exact hg.good _ (List.getElem_mem hk)
 ·rw[dJ (by omega)];exact⟨Nat.zero_le _,fun _ h=>by cases h⟩
def Bel (m:Im) (h S:List Sh):Prop:=∀k,(sh h k).1=true→(sh S k).1=true∧leS m.1 (sh h k).2.1 (sh S k).2.1
def Cov (m:Im) (f:Int) (h:List Sh) (pc:Nat):Prop:=
 (aM m f (pc:Int) (sh h pc).2.1).2.2.1=0∧∀to∈(aM m f (pc:Int) (sh h pc).2.1).2.1,(sh h to.toNat).1=true∧leS m.1 (aM m f (pc:Int) (sh h pc).2.1).1 (sh h to.toNat).2.1
structure PF (m:Im) (f:Int) (S:List Sh):Prop where
 gd:Gd m (aB m f) S
 start:(sh S 0).1=true∧(sh S 0).2.1=[]
 cov:∀pc,(sh S pc).1=true→Cov m f S pc
theorem aI8 {m:Im} {N:Nat} {h:List Sh} (hg:Gd m N h):Bel m h h:=fun k hk=>⟨hk,uW (hg.at' k).2⟩
theorem aHi {m:Im} {a b c:List Sh} (h1:Bel m a b) (h2:Bel m b c):Bel m a c:=fun k hk=>by
 obtain⟨i1,i2⟩:=h1 k hk
 obtain⟨j1,j2⟩:=h2 k i1
 exact⟨j1,lT i2 j2⟩
theorem aAd {m:Im} {N:Nat} {a b:List Sh} (ga:Gd m N a) (gb:Gd m N b) (h1:Bel m a b) (h2:Bel m b a):a=b:=by
 refine List.ext_getElem (by rw[ga.len,gb.len]) fun k k1 k2=>?_
 have e1:sh a k=a[k]:=getD_some (List.getElem?_eq_getElem k1)
 have e2:sh b k=b[k]:=getD_some (List.getElem?_eq_getElem k2)
 rw[←e1,←e2]
 have key:∀(x y:Sh),x.1=y.1→x.2.1=y.2.1→x=y:=by
  rintro ⟨x1,x2,⟨⟩⟩ ⟨y1,y2,⟨⟩⟩ h1 h2
  simp only at h1 h2
  subst h1 h2
  rfl
 cases hs:(sh a k).1
 ·cases hb:(sh b k).1
  ·rw[e1] at hs⊢
   rw[e2] at hb⊢
   rw[ga.bare _ (List.getElem_mem k1) hs,gb.bare _ (List.getElem_mem k2) hb]
  ·have:=(h2 k hb).1
   rw[hs] at this;cases this
 ·obtain⟨i1,i2⟩:=h1 k hs
  exact key _ _ (by rw[hs,i1]) (aJ4 (ga.at' k).2 (gb.at' k).2 i2 (h2 k i1).2)
theorem oZ {h:List Sh} {k:Nat} (hk:k<h.length) (s:Sh) (j:Nat):sh (h.set k s) j=if j=k then s else sh h j:=by
 unfold sh
 rw[List.getD_eq_getElem?_getD,List.getD_eq_getElem?_getD,List.getElem?_set]
 by_cases hj:k=j
 ·subst hj;simp[hk]
 ·have:¬j=k:=fun h=>hj h.symm
  simp[hj,this]
theorem aDo {m:Im} {o:Sh} {s:List Tp} (ho:o.2.1.length≤8∧gS (nC m) o.2.1) (hs8:s.length≤8) (hs:gS (nC m) s) (h:(bJ m.1 o s).2.2.1=true):
  ((bJ m.1 o s).1.2.1.length≤8∧gS (nC m) (bJ m.1 o s).1.2.1)∧(bJ m.1 o s).1.1=true∧leS m.1 s (bJ m.1 o s).1.2.1∧(o.1=true→leS m.1 o.2.1 (bJ m.1 o s).1.2.1)∧((bJ m.1 o s).2.1=false→o.1=true∧(bJ m.1 o s).1.2.1=o.2.1):=by
 unfold bJ at h⊢
 cases h1:o.1 <;> simp only[h1,Bool.not_true,Bool.not_false,cond_true,cond_false] at h⊢
 ·exact⟨⟨hs8,hs⟩,trivial,uW hs,fun h=>(by cases h),fun h=>(by cases h)⟩
 ·cases h2:decide (o.2.1.length≠s.length) <;> simp only[h2,cond_true,cond_false] at h⊢
  ·have hlen:o.2.1.length=s.length:=by simpa using h2
   cases h3:(aU m.1 o.2.1 s).any fun t=>t.1==0 <;> simp only[h3,cond_true,cond_false] at h⊢
   ·have hz:∀t∈aU m.1 o.2.1 s,t.1≠0:=fun t ht h0=>by
     have:((aU m.1 o.2.1 s).any fun t=>t.1==0)=true:=List.any_eq_true.2 ⟨t,ht,by simp[h0]⟩
     rw[h3] at this;cases this
    obtain⟨i1,i2,i3⟩:=aIT hlen ho.2 hs hz
    refine⟨⟨by rw[kL m.1 hlen];exact hs8,i3⟩,trivial,i2,fun _=>i1,fun h=>⟨trivial,by simpa using h⟩⟩
   ·cases h
  ·cases h
theorem aKE {m:Im} {o S:Sh} {s:List Tp} (ho:gS (nC m) o.2.1) (hS:gS (nC m) S.2.1) (hs:gS (nC m) s) (h1:o.1=true→leS m.1 o.2.1 S.2.1) (h2:leS m.1 s S.2.1):
  (bJ m.1 o s).2.2.1=true∧leS m.1 (bJ m.1 o s).1.2.1 S.2.1:=by
 unfold bJ
 cases ho1:o.1 <;> simp only[Bool.not_true,Bool.not_false,cond_true,cond_false]
 ·exact⟨trivial,h2⟩
 ·have hle:=h1 ho1
  have hlen:o.2.1.length=s.length:=by rw[oO hle,oO h2]
  have e:decide (o.2.1.length≠s.length)=false:=decide_eq_false fun h=>h hlen
  rw[e]
  simp only[cond_false]
  obtain⟨i1,i2⟩:=aHh ho hs hS hle h2
  have h3:((aU m.1 o.2.1 s).any fun t=>t.1==0)=false:=by
   cases hh:(aU m.1 o.2.1 s).any fun t=>t.1==0
   ·rfl
   ·obtain⟨t,ht,h0⟩:=List.any_eq_true.1 hh
    exact absurd (by simpa using h0) (i1 t ht)
  rw[h3]
  exact⟨rfl,i2⟩
end Go.Pli

namespace Go.Pli
open Go Go.PM
theorem aSa {m:Im} (hs:aF m=true) {f pc:Int} {s:List Tp} (h:(aM m f pc s).2.2.1=0):(aM m f pc s).1.length≤s.length+1:=by
 unfold aM at h⊢
 cases hf:inM m f
 ·rw[hf] at h;simp at h
 cases hp:sin pc (aB m f:Int)
 ·rw[hf,hp] at h;simp at h
 simp only[hf,hp,Bool.and_self,Bool.not_true,cond_false] at h⊢
 cases hn:(cV (aH m f pc) pc).contains (aB m f:Int)
 case true=>rw[hn] at h;simp at h
 simp only[hn,cond_false] at h⊢
 cases h6:(aH m f pc).1==6 <;> simp only[h6,cond_true,cond_false] at h⊢
 ·have ho:(iX m (aC m f) (aH m f pc)).2.1.length≤1:=by
   have C:∀(x:Mt) (t:List Tp),(iN x t).2.1.length≤1:=fun x t=>by
    unfold iN
    cases x.2.2.1.1 !=5 <;> simp
   have P:∀{b:Bool} {x y:Eff},x.2.1.length≤1→y.2.1.length≤1→(bif b then x else y).2.1.length≤1:=fun {b} {x} {y} h1 h2=>by cases b;exact h2;exact h1
   have Q:∀{b:Bool} {x y:Eff×Bool×Unit},x.1.2.1.length≤1→y.1.2.1.length≤1→(bif b then x else y).1.2.1.length≤1:=fun {b} {x} {y} h1 h2=>by cases b;exact h2;exact h1
   have h1:∀(a:List Tp) (t:Tp),((a,[t],()):Eff).2.1.length≤1:=fun _ _=>Nat.le_refl _
   have h0:∀(a:List Tp),((a,[],()):Eff).2.1.length≤1:=fun _=>Nat.zero_le _
   have hp:(dP (aH m f pc).1).1.2.1.length≤1:=by
    unfold dP
    exact Q (h1 _ _) (Q (h0 _) (Q (h1 _ _) (Q (h1 _ _) (Q (h1 _ _) (Q (h0 _) (Q (h1 _ _) (Q (h1 _ _) (Q (h0 _) (Q (h0 _) (Q (h1 _ _) (Q (h1 _ _) (h0 _))))))))))))
   unfold iX
   exact P hp (P (h1 _ _) (P (h0 _) (P (h1 _ _) (P (h1 _ _) (P (h0 _) (P (h1 _ _) (P (h0 _) (P (C _ _) (P (C _ _) (P (h1 _ _) (P (P (h0 _) (h0 _)) (h0 _))))))))))))
  unfold qU at h⊢
  generalize iX m (aC m f) (aH m f pc)=E at h ho⊢
  cases hb:decide (s.length<E.1.length) || decide (s.length - E.1.length+E.2.1.length>8) <;> simp only[hb,cond_true,cond_false] at h⊢
  ·cases hz:((s.drop (s.length - E.1.length)).zip E.1).all fun p=>dT m (aH m f pc).1 p.1 p.2 <;> simp only[hz,cond_true,cond_false] at h⊢
   ·exact Nat.zero_le _
   ·rw[List.length_append,List.length_take];omega
  ·exact Nat.zero_le _
 ·cases hb:decide (s.length=0) || decide (s.length≥8) <;> simp only[hb,cond_true,cond_false] at h⊢
  ·rw[List.length_append,List.length_drop]
   omega
  ·exact Nat.zero_le _
theorem aKx {m:Im} {o:Sh} {s:List Tp} (h:(bJ m.1 o s).2.2.1=true) (h':(bJ m.1 o s).2.1=true):(bJ m.1 o s).1≠o:=by
 unfold bJ at h h'⊢
 cases h1:o.1 <;> simp only[h1,Bool.not_true,Bool.not_false,cond_true,cond_false] at h h'⊢
 ·intro e;rw[←e] at h1;cases h1
 ·cases h2:decide (o.2.1.length≠s.length) <;> simp only[h2,cond_true,cond_false] at h h'⊢
  ·cases h3:(aU m.1 o.2.1 s).any fun t=>t.1==0 <;> simp only[h3,cond_true,cond_false] at h h'⊢
   ·intro e
    have e2:aU m.1 o.2.1 s=o.2.1:=congrArg (fun z:Sh=>z.2.1) e
    rw[e2] at h'
    simp at h'
   ·cases h
  ·cases h
theorem aNj {m:Im} {o:Sh} {s:List Tp} (h:(bJ m.1 o s).2.2.1=true):(bJ m.1 o s).1.2.1.length=s.length:=by
 unfold bJ at h⊢
 cases h1:o.1 <;> simp only[h1,Bool.not_true,Bool.not_false,cond_true,cond_false] at h⊢
 cases h2:decide (o.2.1.length≠s.length) <;> simp only[h2,cond_true,cond_false] at h⊢
 ·have hlen:o.2.1.length=s.length:=by simpa using h2
  cases h3:(aU m.1 o.2.1 s).any fun t=>t.1==0 <;> simp only[h3,cond_true,cond_false] at h⊢
  ·exact kL m.1 hlen
  ·cases h
 ·cases h
structure aSA (m:Im) (N:Nat) (a:List Tp) (ts:List Int) (h:List Sh) (q:List Bool) (r:Bool×List Sh×List Bool×Unit):Prop where
 gd:Gd m N r.2.1
 ql:r.2.2.1.length=N
 bel:Bel m h r.2.1
 tos:∀to∈ts,(sh r.2.1 to.toNat).1=true∧leS m.1 a (sh r.2.1 to.toNat).2.1
 same:∀k,r.2.2.1.getD k false=false→q.getD k false=false∧sh r.2.1 k=sh h k
 new:∀k,(sh r.2.1 k).1=true→(sh h k).1=true∧(sh r.2.1 k).2.1.length=(sh h k).2.1.length∨(sh r.2.1 k).2.1.length=a.length
 pn:∀k,r.2.2.1.getD k false=true→q.getD k false=true∨(sh r.2.1 k).1=true
 any:q.any id=true→r.2.2.1.any id=true
 mov:q.any id=false→r.2.2.1.any id=true→r.2.1≠h
theorem aLD {q:List Bool} {k:Nat} (hk:k<q.length):(q.set k true).any id=true:=List.any_eq_true.2 ⟨true,by
 have:=List.getElem_mem (l:=q.set k true) (n:=k) (by rwa [List.length_set])
 rwa [List.getElem_set_self] at this,rfl⟩
theorem aTd {m:Im} {N:Nat} {h:List Sh} (hg:Gd m N h) {k:Nat} (hk:k<h.length) {s:Sh} (h1:s.1=true) (h2:(sh h k).1=true→leS m.1 (sh h k).2.1 s.2.1):Bel m h (h.set k s):=fun j hj=>by
 rw[oZ hk]
 by_cases e:j=k
 ·rw[if_pos e];subst e;exact⟨h1,h2 hj⟩
 ·rw[if_neg e];exact⟨hj,uW (hg.at' j).2⟩
theorem aO3 {m:Im} {N:Nat} {h:List Sh} (hg:Gd m N h) {k:Nat} {s:Sh} (h1:s.1=true) (h2:s.2.1.length≤8∧gS (nC m) s.2.1):Gd m N (h.set k s):=
 ⟨by rw[List.length_set,hg.len],fun x hx=>by
  rcases List.mem_or_eq_of_mem_set hx with hx | rfl
  ·exact hg.good x hx
  ·exact h2,fun x hx hf=>by
  rcases List.mem_or_eq_of_mem_set hx with hx | rfl
  ·exact hg.bare x hx hf
  ·rw[h1] at hf;cases hf⟩
theorem wS {m:Im} {N:Nat} {a:List Tp} (ha8:a.length≤8) (ha:gS (nC m) a):∀(ts:List Int) (h:List Sh) (q:List Bool),Gd m N h→q.length=N→(∀to∈ts,0≤to∧to<(N:Int))→
  (gG m.1 a ts h q).1=true→aSA m N a ts h q (gG m.1 a ts h q)
 | [],h,q,hg,hq,_,_=>⟨hg,hq,aI8 hg,fun _ h=>(by cases h),fun _ h=>⟨h,rfl⟩,fun _ h=> .inl ⟨h,rfl⟩,fun _ h=> .inl h,fun h=>h,fun h1 h2=>by rw[show (gG m.1 a [] h q).2.2.1=q from rfl,h1] at h2;cases h2⟩
 | to::ts,h,q,hg,hq,ht,hr=>by
  obtain⟨t0,t1⟩:=ht to (List.mem_cons_self ..)
  have hk:to.toNat<h.length:=by rw[hg.len];omega
  have hkq:to.toNat<q.length:=by rw[hq];omega
  have ht':∀x∈ts,0≤x∧x<(N:Int):=fun x hx=>ht x (List.mem_cons_of_mem _ hx)
  unfold gG at hr⊢
  have hmf:=aDo (m:=m) (o:=h.getD to.toNat zSh) (hg.at' to.toNat) ha8 ha
  have hmm:=aKx (m:=m) (o:=h.getD to.toNat zSh) (s:=a)
  have hml:=aNj (m:=m) (o:=h.getD to.toNat zSh) (s:=a)
  generalize hM:bJ m.1 (h.getD to.toNat zSh) a=M at hr hmf hmm hml⊢
  cases h1:M.2.2.1 <;> simp only[h1,Bool.not_true,Bool.not_false,cond_true,cond_false] at hr⊢
  ·cases hr
  obtain⟨m1,m2,m3,m4,m5⟩:=hmf h1
  cases h2:M.2.1 <;> simp only[h2,cond_true,cond_false] at hr⊢
  ·have I:=wS ha8 ha ts h q hg hq ht' hr
   obtain⟨e1,e2⟩:=m5 h2
   refine⟨I.gd,I.ql,I.bel,fun x hx=>?_,I.same,I.new,I.pn,I.any,I.mov⟩
   rcases List.mem_cons.1 hx with rfl | hx
   ·obtain⟨b1,b2⟩:=I.bel x.toNat e1
    rw[e2] at m3
    exact⟨b1,lT m3 b2⟩
   ·exact I.tos x hx
  ·have hg':=aO3 (k:=to.toNat) hg m2 m1
   have hb:=aTd hg hk m2 m4
   have I:=wS ha8 ha ts (h.set to.toNat M.1) (q.set to.toNat true) hg' (by rw[List.length_set,hq]) ht' hr
   have hne:h.set to.toNat M.1≠h:=fun e=>hmm h1 h2 (by
    have:=congrArg (fun z=>sh z to.toNat) e
    simp only[oZ hk] at this
    exact this)
   refine⟨I.gd,I.ql,aHi hb I.bel,fun x hx=>?_,fun k hk0=>?_,fun k hk1=>?_,fun k hk1=>?_,fun _=>I.any (aLD hkq),fun _ _ e=>?_⟩
   ·rcases List.mem_cons.1 hx with rfl | hx
    ·have e1:sh (h.set x.toNat M.1) x.toNat=M.1:=by rw[oZ hk,if_pos rfl]
     obtain⟨b1,b2⟩:=I.bel x.toNat (by rw[e1];exact m2)
     rw[e1] at b2
     exact⟨b1,lT m3 b2⟩
    ·exact I.tos x hx
   ·obtain⟨i1,i2⟩:=I.same k hk0
    have hkn:k≠to.toNat:=fun e=>by
     rw[e,List.getD_eq_getElem?_getD,List.getElem?_set_self hkq] at i1
     cases i1
    rw[oZ hk,if_neg hkn] at i2
    rw[List.getD_eq_getElem?_getD,List.getElem?_set_ne (fun e=>hkn e.symm),←List.getD_eq_getElem?_getD] at i1
    exact⟨i1,i2⟩
   ·rcases I.new k hk1 with⟨i1,i2⟩ | i
    ·by_cases e:k=to.toNat
     ·rw[oZ hk,if_pos e] at i2
      exact .inr (by rw[i2,hml h1])
     ·rw[oZ hk,if_neg e] at i1 i2
      exact .inl ⟨i1,i2⟩
    ·exact .inr i
   ·rcases I.pn k hk1 with i | i
    ·by_cases e:k=to.toNat
     ·refine .inr (I.bel k ?_).1
      rw[oZ hk,if_pos e]
      exact m2
     ·rw[List.getD_eq_getElem?_getD,List.getElem?_set_ne (fun e'=>e e'.symm),←List.getD_eq_getElem?_getD] at i
      exact .inl i
    ·exact .inr i
   ·refine hne (aAd (N:=N) hg' hg ?_ hb)
    have:=I.bel
    rw[e] at this
    exact this
theorem wT {m:Im} {N:Nat} {a:List Tp} {S:List Sh} (hS:Gd m N S) (ha8:a.length≤8) (ha:gS (nC m) a):∀(ts:List Int) (h:List Sh) (q:List Bool),Gd m N h→Bel m h S→(∀to∈ts,(0≤to∧to<(N:Int))∧(sh S to.toNat).1=true∧leS m.1 a (sh S to.toNat).2.1)→
  (gG m.1 a ts h q).1=true∧Bel m (gG m.1 a ts h q).2.1 S
 | [],h,q,hg,hb,_=>⟨rfl,hb⟩
 | to::ts,h,q,hg,hb,ht=>by
  obtain⟨⟨t0,t1⟩,t2,t3⟩:=ht to (List.mem_cons_self ..)
  have hk:to.toNat<h.length:=by rw[hg.len];omega
  have ht':=fun x hx=>ht x (List.mem_cons_of_mem _ hx)
  unfold gG
  have hmf:=aDo (m:=m) (o:=h.getD to.toNat zSh) (hg.at' to.toNat) ha8 ha
  have hmb:=aKE (m:=m) (o:=h.getD to.toNat zSh) (S:=sh S to.toNat) (hg.at' to.toNat).2 (hS.at' to.toNat).2 ha (fun h1=>(hb to.toNat h1).2) t3
  generalize hM:bJ m.1 (h.getD to.toNat zSh) a=M at hmf hmb⊢
  obtain⟨b1,b2⟩:=hmb
  obtain⟨m1,m2,m3,m4,m5⟩:=hmf b1
  rw[b1]
  simp only[Bool.not_true,cond_false]
  cases h2:M.2.1 <;> simp only[cond_true,cond_false]
  ·exact wT hS ha8 ha ts h q hg hb ht'
  ·refine wT hS ha8 ha ts _ _ (aO3 hg m2 m1) (fun k hk1=>?_) ht'
   rw[oZ hk] at hk1⊢
   by_cases e:k=to.toNat
   ·rw[if_pos e] at hk1⊢;subst e;exact⟨t2,b2⟩
   ·rw[if_neg e] at hk1⊢;exact hb k hk1
def DC (h:List Sh):Prop:=∀k,(sh h k).1=true→∀j,j<(sh h k).2.1.length→∃k',(sh h k').1=true∧(sh h k').2.1.length=j
structure WJ (m:Im) (f:Int) (h:List Sh) (q:List Bool):Prop where
 gd:Gd m (aB m f) h
 ql:q.length=aB m f
 start:(sh h 0).1=true∧(sh h 0).2.1=[]
 cov:∀pc,(sh h pc).1=true→q.getD pc false=false→Cov m f h pc
 dc:DC h
 pend:∀pc,q.getD pc false=true→(sh h pc).1=true
theorem aGV {m:Im} {h h':List Sh} (hb:Bel m h h') (hs:(sh h 0).1=true∧(sh h 0).2.1=[]):(sh h' 0).1=true∧(sh h' 0).2.1=[]:=by
 obtain⟨i1,i2⟩:=hb 0 hs.1
 refine⟨i1,?_⟩
 have:=oO i2
 rw[hs.2] at this
 exact List.length_eq_zero_iff.1 this.symm
theorem aTO {m:Im} {f:Int} {h h':List Sh} (hb:Bel m h h') {pc:Nat} (e:sh h' pc=sh h pc) (hc:Cov m f h pc):Cov m f h' pc:=by
 unfold Cov at hc⊢
 rw[e]
 refine⟨hc.1,fun to ht=>?_⟩
 obtain⟨i1,i2⟩:=hc.2 to ht
 obtain⟨j1,j2⟩:=hb _ i1
 exact⟨j1,lT i2 j2⟩
theorem aIU {q:List Bool} (h:q.any id=true):q.findIdx id<q.length∧q.getD (q.findIdx id) false=true:=by
 have hk:=aLJ h
 refine⟨hk,?_⟩
 have:=List.findIdx_getElem (p:=id) (xs:=q) (w:=hk)
 rw[getD_some (List.getElem?_eq_getElem hk)]
 exact this
theorem aU9 {m:Im} {N:Nat} {a:List Tp} {ts:List Int} {h:List Sh} {q:List Bool} {r:Bool×List Sh×List Bool×Unit} (O:aSA m N a ts h q r) (hd:DC h) {pc:Nat} (hp:(sh h pc).1=true) (ha:a.length≤(sh h pc).2.1.length+1):DC r.2.1:=by
 have up:∀j,(∃k',(sh h k').1=true∧(sh h k').2.1.length=j)→∃k',(sh r.2.1 k').1=true∧(sh r.2.1 k').2.1.length=j:=by
  rintro j ⟨k',h1,h2⟩
  obtain⟨b1,b2⟩:=O.bel k' h1
  exact⟨k',b1,by rw[←oO b2];exact h2⟩
 intro k hk j hj
 rcases O.new k hk with⟨i1,i2⟩ | i
 ·exact up j (hd k i1 j (by omega))
 ·by_cases e:j=(sh h pc).2.1.length
  ·exact up j ⟨pc,hp,e.symm⟩
  ·exact up j (hd pc hp j (by omega))
theorem aHg {m:Im} (hs:aF m=true) {f:Int} {h:List Sh} {q:List Bool} (W:WJ m f h q) (ha:q.any id=true)
  (hr:(jR m f (q.findIdx id:Int) h (q.set (q.findIdx id) false)).1=true):
  WJ m f (jR m f (q.findIdx id:Int) h (q.set (q.findIdx id) false)).2.1 (jR m f (q.findIdx id:Int) h (q.set (q.findIdx id) false)).2.2.1:=by
 obtain⟨hk,htrue⟩:=aIU ha
 generalize q.findIdx id=pc at hk htrue hr⊢
 have hp:=W.pend pc htrue
 unfold jR at hr⊢
 rw[Int.toNat_natCast] at hr⊢
 cases he:(aM m f (pc:Int) (h.getD pc zSh).2.1).2.2.1 !=0 <;> simp only[he,cond_true,cond_false] at hr⊢
 ·have he0:(aM m f (pc:Int) (h.getD pc zSh).2.1).2.2.1=0:=by simpa using he
  obtain⟨-,-,h8,hto⟩:=fE hs he0
  have hlen:=aSa hs he0
  have O:=wS (N:=aB m f) h8 (vN hs (W.gd.at' pc).2) (aM m f (pc:Int) (h.getD pc zSh).2.1).2.1 h (q.set pc false) W.gd (by rw[List.length_set,W.ql]) hto hr
  have hO:=aU9 O W.dc hp hlen
  have hst:=aGV O.bel W.start
  refine⟨O.gd,O.ql,hst,fun k hk1 hk2=>?_,hO,fun k hk1=>?_⟩
  ·obtain⟨s1,s2⟩:=O.same k hk2
   by_cases e:k=pc
   ·subst e
    refine⟨by rw[s2];exact he0,fun to ht=>?_⟩
    rw[s2] at ht⊢
    exact O.tos to ht
   ·rw[List.getD_eq_getElem?_getD,List.getElem?_set_ne (fun e'=>e e'.symm),←List.getD_eq_getElem?_getD] at s1
    exact aTO O.bel s2 (W.cov k (by rw[←s2];exact hk1) s1)
  ·rcases O.pn k hk1 with i | i
   ·by_cases e:k=pc
    ·subst e
     rw[List.getD_eq_getElem?_getD,List.getElem?_set_self hk] at i
     cases i
    ·rw[List.getD_eq_getElem?_getD,List.getElem?_set_ne (fun e'=>e e'.symm),←List.getD_eq_getElem?_getD] at i
     exact (O.bel k (W.pend k i)).1
   ·exact i
 ·cases hr
theorem aJt {m:Im} (hs:aF m=true) {f:Int} (hf:inM m f=true) {h:List Sh} {q:List Bool} (hg:Gd m (aB m f) h) (hq:q.length=aB m f) (ha:q.any id=true):
  sL m f (q.findIdx id:Int) h (q.set (q.findIdx id) false)=true:=by
 obtain⟨hk,-⟩:=aIU ha
 rw[hq] at hk
 exact OneP.to ⟨hs,hf,by simp only[sin,Bool.and_eq_true,decide_eq_true_eq];omega,hg.len,by rw[List.length_set,hq],fun s hs=>dZ (by have:=(hg.good s hs).1;omega)⟩
theorem aAJ {m:Im} (hs:aF m=true) {f:Int} (hf:inM m f=true):∀(n:Nat) (h:List Sh) (q:List Bool) (r:List Sh×Int×Int×Unit),WJ m f h q→kT m f n h q=some r→r.2.2.1=0→PF m f r.1∧DC r.1
 | 0,_,_,_,_,h,_=>by cases h
 | n+1,h,q,r,W,hr,h0=>by
  unfold kT at hr
  cases ha:q.any id <;> simp only[ha,cond_true,cond_false] at hr
  ·have:=Option.some.inj hr
   subst this
   refine⟨⟨W.gd,W.start,fun pc hp=>W.cov pc hp ?_⟩,W.dc⟩
   by_cases hk:pc<q.length
   ·rw[getD_some (List.getElem?_eq_getElem hk)]
    cases hx:q[pc]
    ·rfl
    ·exact absurd (List.any_eq_true.2 ⟨_,List.getElem_mem hk,hx⟩) (by rw[ha];exact Bool.false_ne_true)
   ·rw[dJ (by omega)]
  ·unfold nZ at hr
   rw[aJt hs hf W.gd W.ql ha] at hr
   simp only[cond_true,Option.bind_some] at hr
   cases hb:(jR m f (q.findIdx id:Int) h (q.set (q.findIdx id) false)).1 <;> simp only[hb,Bool.not_true,Bool.not_false,cond_true,cond_false] at hr
   ·have:=Option.some.inj hr
    subst this
    cases h0
   ·exact aAJ hs hf n _ _ r (aHg hs W ha hb) hr h0
theorem aAz {m:Im} (hs:aF m=true) {f:Int} (hf:inM m f=true) {S:List Sh} (hS:PF m f S):∀(n:Nat) (h:List Sh) (q:List Bool) (r:List Sh×Int×Int×Unit),WJ m f h q→Bel m h S→kT m f n h q=some r→r.2.2.1=0∧Bel m r.1 S
 | 0,_,_,_,_,_,h=>by cases h
 | n+1,h,q,r,W,hb,hr=>by
  unfold kT at hr
  cases ha:q.any id <;> simp only[ha,cond_true,cond_false] at hr
  ·have:=Option.some.inj hr
   subst this
   exact⟨rfl,hb⟩
  ·unfold nZ at hr
   rw[aJt hs hf W.gd W.ql ha] at hr
   simp only[cond_true,Option.bind_some] at hr
   have key:(jR m f (q.findIdx id:Int) h (q.set (q.findIdx id) false)).1=true∧Bel m (jR m f (q.findIdx id:Int) h (q.set (q.findIdx id) false)).2.1 S:=by
    obtain⟨hk,htrue⟩:=aIU ha
    generalize q.findIdx id=pc at hk htrue
    have hp:=W.pend pc htrue
    obtain⟨p1,p2⟩:=hb pc hp
    obtain⟨c1,c2⟩:=hS.cov pc p1
    obtain⟨s1,s2,s3⟩:=aHl hs p2 c1
    obtain⟨-,-,h8,hto⟩:=fE hs s1
    unfold jR
    rw[Int.toNat_natCast]
    rw[show (aM m f (pc:Int) (h.getD pc zSh).2.1).2.2.1=0 from s1]
    simp only[bne_self_eq_false,cond_false]
    refine wT hS.gd h8 (vN hs (W.gd.at' pc).2) _ h _ W.gd hb fun to ht=>⟨hto to ht,?_⟩
    rw[show (aM m f (pc:Int) (h.getD pc zSh).2.1).2.1=_ from s2] at ht
    obtain⟨d1,d2⟩:=c2 to ht
    exact⟨d1,lT s3 d2⟩
   rw[key.1] at hr
   simp only[Bool.not_true,cond_false] at hr
   exact aAz hs hf hS n _ _ r (aHg hs W ha key.1) key.2 hr
theorem uY {m:Im} {f:Int} (hc:0<aB m f) (k:Nat):sh (fS m f) k=if k=0 then (true,[],()) else zSh:=by
 unfold fS
 rw[oZ (by simpa using hc)]
 by_cases e:k=0
 ·rw[if_pos e,if_pos e]
 ·rw[if_neg e,if_neg e]
  unfold sh
  by_cases hk:k<aB m f
  ·rw[getD_some (List.getElem?_eq_getElem (by simpa using hk))];simp
  ·rw[dJ (by simpa using hk)]
theorem aDX {m:Im} {f:Int}:Gd m (aB m f) (fS m f):=by
 refine⟨by simp[fS],fun s hs=>?_,fun s hs h=>?_⟩ <;>
  rcases List.mem_or_eq_of_mem_set hs with hs | rfl
 ·rw[List.mem_replicate] at hs
  rw[hs.2]
  exact⟨Nat.zero_le _,fun _ h=>by cases h⟩
 ·exact⟨Nat.zero_le _,fun _ h=>by cases h⟩
 ·rw[List.mem_replicate] at hs
  exact hs.2
 ·cases h
theorem aRY {m:Im} (hs:aF m=true) {f:Int} (hf:inM m f=true):WJ m f (fS m f) ((List.replicate (aB m f) false).set 0 true):=by
 have hc:=(cN hs hf).1
 have sq:∀k,((List.replicate (aB m f) false).set 0 true).getD k false=decide (k=0):=fun k=>by
  by_cases e:k=0
  ·subst e
   rw[List.getD_eq_getElem?_getD,List.getElem?_set_self (by simpa using hc)];rfl
  ·rw[List.getD_eq_getElem?_getD,List.getElem?_set_ne (fun e'=>e e'.symm),decide_eq_false e]
   rw[List.getElem?_replicate]
   split <;> rfl
 refine⟨aDX,by simp,by rw[uY hc];exact⟨rfl,rfl⟩,fun pc h1 h2=>?_,fun k h1 j hj=>?_,fun k h=>?_⟩
 ·rw[sq] at h2
  rw[uY hc,if_neg (by simpa using h2)] at h1
  cases h1
 ·rw[uY hc] at hj
  by_cases e:k=0
  ·rw[if_pos e] at hj;cases hj
  ·rw[if_neg e] at hj;cases hj
 ·rw[sq] at h
  rw[uY hc,if_pos (by simpa using h)]
theorem qY {m:Im} (hs:aF m=true) {f:Int} (hf:inM m f=true) {S:List Sh} (hS:PF m f S):Bel m (fS m f) S:=fun k h=>by
 have hc:=(cN hs hf).1
 rw[uY hc] at h⊢
 by_cases e:k=0
 ·subst e
  rw[if_pos rfl,hS.start.2]
  exact⟨hS.start.1,trivial⟩
 ·rw[if_neg e] at h;cases h
end Go.Pli

namespace Go.Pli
open Go Go.PM
structure aCH (m:Im) (N:Nat) (t:Bool) (h:List Sh) (r:Bool×List Sh):Prop where
 gd:Gd m N r.2
 bel:Bel m h r.2
 still:r.1=false→t=false∧r.2=h
 moved:r.1=true→t=true∨r.2≠h
theorem aFl {m:Im} {N:Nat} {t:Bool} {h:List Sh} (hg:Gd m N h):aCH m N t h (t,h):=⟨hg,aI8 hg,fun h=>⟨h,rfl⟩,fun h=> .inl h⟩
theorem aKD {m:Im} {N:Nat} {t:Bool} {h:List Sh} {r z:Bool×List Sh} (hg:Gd m N h) (h1:aCH m N t h r) (h2:aCH m N r.1 r.2 z):aCH m N t h z:=
 ⟨h2.gd,aHi h1.bel h2.bel,fun hz=>by
  obtain⟨a,b⟩:=h2.still hz
  obtain⟨c,d⟩:=h1.still a
  exact⟨c,b.trans d⟩,fun hz=>by
  rcases h2.moved hz with a | a
  ·rcases h1.moved a with b | b
   ·exact .inl b
   ·refine .inr fun e=>b (aAd h1.gd hg ?_ h1.bel)
    rw[←e];exact h2.bel
  ·refine .inr fun e=>a ?_
   have:Bel m r.2 h:=by rw[←e];exact h2.bel
   rw[e]
   exact aAd hg h1.gd h1.bel this⟩
theorem wE {m:Im} {N:Nat} {a:List Tp}:∀(ts:List Int) (h:List Sh) (q:List Bool),q.length=N→(∀to∈ts,0≤to∧to<(N:Int))→
  mK m.1 a ts (q.any id) h=bif (gG m.1 a ts h q).1 then some ((gG m.1 a ts h q).2.2.1.any id,(gG m.1 a ts h q).2.1) else none
 | [],_,_,_,_=>rfl
 | to::ts,h,q,hq,ht=>by
  obtain⟨t0,t1⟩:=ht to (List.mem_cons_self ..)
  have hkq:to.toNat<q.length:=by rw[hq];omega
  have ht':∀x∈ts,0≤x∧x<(N:Int):=fun x hx=>ht x (List.mem_cons_of_mem _ hx)
  unfold mK gG
  generalize bJ m.1 (h.getD to.toNat zSh) a=M
  cases h1:M.2.2.1 <;> simp only[Bool.not_true,Bool.not_false,cond_true,cond_false]
  cases h2:M.2.1 <;> simp only[cond_true,cond_false]
  ·exact wE ts h q hq ht'
  ·have:=wE (m:=m) (a:=a) ts (h.set to.toNat M.1) (q.set to.toNat true) (by rw[List.length_set,hq]) ht'
   rw[aLD hkq] at this
   exact this
theorem aCs {N:Nat} (hN:0<N) (t:Bool):(List.replicate N t).any id=t:=by
 cases t
 ·cases h:(List.replicate N false).any id
  ·rfl
  ·obtain⟨x,hx,hx'⟩:=List.any_eq_true.1 h
   rw[List.mem_replicate] at hx
   rw[hx.2] at hx';cases hx'
 ·exact List.any_eq_true.2 ⟨true,List.mem_replicate.2 ⟨by omega,rfl⟩,rfl⟩
theorem aJ5 {m:Im} {N:Nat} {a:List Tp} {ts:List Int} {h:List Sh} {q:List Bool} {r:Bool×List Sh×List Bool×Unit} (O:aSA m N a ts h q r) (hg:Gd m N h) (h0:r.2.2.1.any id=false):r.2.1=h:=by
 have hk:∀k,sh r.2.1 k=sh h k:=fun k=>(O.same k (by
  by_cases hk:k<r.2.2.1.length
  ·rw[getD_some (List.getElem?_eq_getElem hk)]
   cases hx:r.2.2.1[k]
   ·rfl
   ·exact absurd (List.any_eq_true.2 ⟨_,List.getElem_mem hk,hx⟩) (by rw[h0];exact Bool.false_ne_true)
  ·rw[dJ (by omega)])).2
 refine List.ext_getElem (by rw[O.gd.len,hg.len]) fun k k1 k2=>?_
 have:=hk k
 unfold sh at this
 rwa [getD_some (List.getElem?_eq_getElem k1),getD_some (List.getElem?_eq_getElem k2)] at this
theorem aDh {m:Im} (hs:aF m=true) {f:Int} {pc:Nat} {t:Bool} {h:List Sh} {r:Bool×List Sh} (hg:Gd m (aB m f) h) (hr:qV m f pc t h=some r):
  aCH m (aB m f) t h r∧(r.1=false→(sh h pc).1=true→Cov m f h pc):=by
 unfold qV at hr
 cases h1:(h.getD pc zSh).1 <;> simp only[h1,Bool.not_true,Bool.not_false,cond_true,cond_false] at hr
 ·have:=Option.some.inj hr
  subst this
  exact⟨aFl hg,fun _ h2=>by rw[show (sh h pc).1=false from h1] at h2;cases h2⟩
 ·cases he:(aM m f (pc:Int) (h.getD pc zSh).2.1).2.2.1 !=0 <;> simp only[he,cond_true,cond_false] at hr
  ·have he0:(aM m f (pc:Int) (h.getD pc zSh).2.1).2.2.1=0:=by simpa using he
   obtain⟨-,hp,h8,hto⟩:=fE hs he0
   have hN:0<aB m f:=by simp only[sin,Bool.and_eq_true,decide_eq_true_eq] at hp;omega
   have hE:=wE (m:=m) (N:=aB m f) (a:=(aM m f (pc:Int) (h.getD pc zSh).2.1).1) (aM m f (pc:Int) (h.getD pc zSh).2.1).2.1 h (List.replicate (aB m f) t) (by simp) hto
   rw[aCs hN,hr] at hE
   have O:=wS (N:=aB m f) h8 (vN hs (hg.at' pc).2) (aM m f (pc:Int) (h.getD pc zSh).2.1).2.1 h (List.replicate (aB m f) t) hg (by simp) hto
   generalize gG m.1 (aM m f (pc:Int) (h.getD pc zSh).2.1).1 (aM m f (pc:Int) (h.getD pc zSh).2.1).2.1 h (List.replicate (aB m f) t)=z at hE O
   cases hz:z.1 <;> rw[hz] at hE <;> simp only[cond_true,cond_false] at hE
   ·cases hE
   have O:=O hz
   have:=Option.some.inj hE
   subst this
   refine⟨⟨O.gd,O.bel,fun h0=>⟨?_,aJ5 O hg h0⟩,fun h1=>?_⟩,fun h0 _=>⟨he0,fun to ht=>?_⟩⟩
   ·cases t
    ·rfl
    ·have:=O.any (aCs hN true)
     rw[show z.2.2.1.any id=false from h0] at this;cases this
   ·cases t
    ·exact .inr (O.mov (aCs hN false) h1)
    ·exact .inl rfl
   ·have:=O.tos to ht
    rw[aJ5 O hg h0] at this
    exact this
  ·cases hr
theorem rA {m:Im} (hs:aF m=true) {f:Int}:∀(n:Nat) (t:Bool) (h:List Sh) (r:Bool×List Sh),Gd m (aB m f) h→kM m f n t h=some r→
  aCH m (aB m f) t h r∧(r.1=false→∀pc,pc<n→(sh h pc).1=true→Cov m f h pc)
 | 0,t,h,r,hg,hr=>by
  have:=Option.some.inj hr
  subst this
  exact⟨aFl hg,fun _ _ h=>(by cases h)⟩
 | n+1,t,h,r,hg,hr=>by
  unfold kM at hr
  cases hz:qV m f n t h with
  | none=>rw[hz] at hr;cases hr
  | some z=>
   rw[hz] at hr
   simp only[Option.bind_some] at hr
   obtain⟨F1,F2⟩:=aDh hs hg hz
   obtain⟨G1,G2⟩:=rA hs n z.1 z.2 r F1.gd hr
   refine⟨aKD hg F1 G1,fun h0 pc hp hseen=>?_⟩
   obtain⟨a,b⟩:=G1.still h0
   obtain⟨c,d⟩:=F1.still a
   by_cases e:pc=n
   ·subst e;exact F2 a hseen
   ·have:=G2 h0 pc (by omega)
    rw[d] at this
    exact this hseen
theorem aLe {m:Im} {N:Nat} {a:List Tp} {S:List Sh} (hS:Gd m N S) (ha8:a.length≤8) (ha:gS (nC m) a) (hN:0<N) {ts:List Int} {t:Bool} {h:List Sh} (hg:Gd m N h) (hb:Bel m h S) (ht:∀to∈ts,(0≤to∧to<(N:Int))∧(sh S to.toNat).1=true∧leS m.1 a (sh S to.toNat).2.1):
  ∃r,mK m.1 a ts t h=some r∧Bel m r.2 S:=by
 have hE:=wE (m:=m) (N:=N) (a:=a) ts h (List.replicate N t) (by simp) (fun to h=>(ht to h).1)
 rw[aCs hN] at hE
 obtain⟨b1,b2⟩:=wT hS ha8 ha ts h (List.replicate N t) hg hb ht
 rw[b1] at hE
 exact⟨_,hE,b2⟩
theorem aDm {m:Im} (hs:aF m=true) {f:Int} {S:List Sh} (hS:PF m f S):∀(n:Nat) (t:Bool) (h:List Sh),Gd m (aB m f) h→Bel m h S→∃r,kM m f n t h=some r∧Bel m r.2 S
 | 0,t,h,_,hb=>⟨_,rfl,hb⟩
 | n+1,t,h,hg,hb=>by
  have key:∃r,qV m f n t h=some r∧Bel m r.2 S:=by
   unfold qV
   cases h1:(h.getD n zSh).1 <;> simp only[Bool.not_true,Bool.not_false,cond_true,cond_false]
   ·exact⟨_,rfl,hb⟩
   ·obtain⟨p1,p2⟩:=hb n h1
    obtain⟨c1,c2⟩:=hS.cov n p1
    obtain⟨s1,s2,s3⟩:=aHl hs p2 c1
    obtain⟨-,hp,h8,hto⟩:=fE hs s1
    have hN:0<aB m f:=by simp only[sin,Bool.and_eq_true,decide_eq_true_eq] at hp;omega
    rw[show (aM m f (n:Int) (h.getD n zSh).2.1).2.2.1=0 from s1]
    simp only[bne_self_eq_false,cond_false]
    refine aLe hS.gd h8 (vN hs (hg.at' n).2) hN hg hb fun to ht=>⟨hto to ht,?_⟩
    rw[show (aM m f (n:Int) (h.getD n zSh).2.1).2.1=_ from s2] at ht
    obtain⟨d1,d2⟩:=c2 to ht
    exact⟨d1,lT s3 d2⟩
  obtain⟨z,hz,hzb⟩:=key
  obtain⟨F1,-⟩:=aDh hs hg hz
  obtain⟨r,hr,hrb⟩:=aDm hs hS n z.1 z.2 F1.gd hzb
  unfold kM
  rw[hz]
  exact⟨r,hr,hrb⟩
def h8 (l:List Cl) (t:Tp):Nat:=if t.1=4 then 8 else if t.1=3 then (bQ l t.2.1).length - 1 else 0
theorem aVx {l:List Cl} (hl:l.length≤8) (t:Tp):h8 l t≤8:=by
 have:=vH hl t.2.1
 unfold h8
 split
 ·omega
 ·split <;> omega
theorem aUz {l:List Cl} (hl:l.length≤8) {a b:Tp} (ga:gT (l.length:Int) a) (gb:gT (l.length:Int) b) (h:cP l a b=true):a=b∨h8 l b<h8 l a:=by
 have hc:=vH hl b.2.1
 rcases fX.1 h with⟨a4,hb⟩ | ⟨a3,b3,hab⟩ | ⟨h,_⟩
 ·by_cases b4:b.1=4
  ·have e1:=aIh ga a4
   have e2:=aIh gb b4
   exact .inl (uL (by omega) (by omega))
  ·refine .inr ?_
   unfold h8
   rw[if_neg b4,if_pos a4]
   split <;> omega
 ·by_cases e:b.2.1=a.2.1
  ·exact .inl (uL (by omega) e.symm)
  ·refine .inr ?_
   have hb:=iF.1 hab
   have:=(aAt _ _ (Nat.lt_succ_self _) hb.2.2.2).2 e
   have h1:0<(bQ l b.2.1).length:=by rw[cF hb.1];simp
   unfold h8
   rw[if_neg (by omega),if_pos b3,if_neg (by omega),if_pos a3]
   omega
 ·exact .inl h
def hs8 (l:List Cl) (s:List Tp):Nat:=bK (s.map (h8 l))
theorem aI6 {l:List Cl} (hl:l.length≤8):∀s:List Tp,hs8 l s≤8*s.length
 | []=>Nat.le_refl _
 | t::s=>by
  have:=aI6 hl s
  have:=aVx hl t
  unfold hs8 at*
  simp only[List.map_cons,bK,List.length_cons]
  omega
theorem aMG {l:List Cl} (hl:l.length≤8):∀{a b:List Tp},gS (l.length:Int) a→gS (l.length:Int) b→leS l a b→hs8 l b≤hs8 l a∧(a≠b→hs8 l b<hs8 l a)
 | [],[],_,_,_=>⟨Nat.le_refl _,fun h=>absurd rfl h⟩
 | x::a,y::b,ga,gb,h=>by
  obtain⟨i1,i2⟩:=aMG hl (dX ga).2 (dX gb).2 h.2
  have j:=aUz hl (dX ga).1 (dX gb).1 h.1
  unfold hs8 at*
  simp only[List.map_cons,bK]
  rcases j with rfl | j
  ·exact⟨by omega,fun hne=>by have:=i2 fun e=>hne (by rw[e]);omega⟩
  ·exact⟨by omega,fun _=>by omega⟩
 | [],_::_,_,_,h=>h.elim
 | _::_,[],_,_,h=>h.elim
def pw (l:List Cl) (S h:Sh):Nat:=if S.1 then (if h.1 then hs8 l h.2.1 else 1+8*S.2.1.length) else 0
def pot (l:List Cl) (N:Nat) (S h:List Sh):Nat:=bK ((List.range N).map fun k=>pw l (sh S k) (sh h k))
theorem aCA {α:Type} {f g:α→Nat}:∀(l:List α),(∀x∈l,f x≤g x)→bK (l.map f)≤bK (l.map g)
 | [],_=>Nat.le_refl _
 | x::l,h=>by
  have:=aCA l fun y hy=>h y (List.mem_cons_of_mem _ hy)
  have:=h x (List.mem_cons_self ..)
  simp only[List.map_cons,bK]
  omega
theorem aMB {α:Type} {f g:α→Nat}:∀(l:List α),(∀x∈l,f x≤g x)→(∃x∈l,f x<g x)→bK (l.map f)<bK (l.map g)
 | [],_,h=>by obtain⟨x,hx,_⟩:=h;cases hx
 | x::l,h,⟨y,hy,hlt⟩=>by
  have i:=aCA l fun y hy=>h y (List.mem_cons_of_mem _ hy)
  have j:=h x (List.mem_cons_self ..)
  simp only[List.map_cons,bK]
  rcases List.mem_cons.1 hy with rfl | hy
  ·omega
  ·have:=aMB l (fun y hy=>h y (List.mem_cons_of_mem _ hy)) ⟨y,hy,hlt⟩
   omega
theorem aU6 {m:Im} (hl:m.1.length≤8) {N:Nat} {S h h':List Sh} (hg:Gd m N h) (hg':Gd m N h') (hb:Bel m h h') (hbS:Bel m h' S) (hne:h'≠h):pot m.1 N S h'<pot m.1 N S h:=by
 have key:∀k,pw m.1 (sh S k) (sh h' k)≤pw m.1 (sh S k) (sh h k)∧(sh h' k≠sh h k→pw m.1 (sh S k) (sh h' k)<pw m.1 (sh S k) (sh h k)):=fun k=>by
  unfold pw
  cases h1:(sh h' k).1
  ·have h0:(sh h k).1=false:=by
    cases h0:(sh h k).1
    ·rfl
    ·have:=(hb k h0).1
     rw[h1] at this;cases this
   rw[h0]
   refine⟨Nat.le_refl _,fun hne=>absurd ?_ hne⟩
   have z:∀{x:List Sh},Gd m N x→(sh x k).1=false→sh x k=zSh:=fun {x} hx h=>by
    unfold sh at h⊢
    by_cases hk:k<x.length
    ·rw[getD_some (List.getElem?_eq_getElem hk)] at h⊢
     exact hx.bare _ (List.getElem_mem hk) h
    ·exact dJ (by omega)
   rw[z hg' h1,z hg h0]
  ·obtain⟨s1,s2⟩:=hbS k h1
   rw[s1]
   cases h0:(sh h k).1 <;> simp only[if_true,Bool.false_eq_true,if_false]
   ·have:=aI6 hl (sh h' k).2.1
    rw[oO s2] at this
    exact⟨by omega,fun _=>by omega⟩
   ·obtain⟨-,b2⟩:=hb k h0
    obtain⟨c1,c2⟩:=aMG hl (hg.at' k).2 (hg'.at' k).2 b2
    refine⟨c1,fun hne=>c2 fun e=>hne ?_⟩
    generalize sh h' k=x at h1 e⊢
    generalize sh h k=y at h0 e⊢
    obtain⟨x1,x2,⟨⟩⟩:=x
    obtain⟨y1,y2,⟨⟩⟩:=y
    simp only at h1 h0 e
    subst h1 h0 e
    rfl
 refine aMB _ (fun k _=>(key k).1) ?_
 have:∃k,k<N∧sh h' k≠sh h k:=Classical.byContradiction fun hno=>hne (by
  refine List.ext_getElem (by rw[hg'.len,hg.len]) fun k k1 k2=>?_
  have e:sh h' k=sh h k:=Classical.byContradiction fun h=>hno ⟨k,by rw[←hg'.len];exact k1,h⟩
  unfold sh at e
  rwa [getD_some (List.getElem?_eq_getElem k1),getD_some (List.getElem?_eq_getElem k2)] at e)
 obtain⟨k,hk,hne⟩:=this
 exact⟨k,List.mem_range.2 hk,(key k).2 hne⟩
theorem aAy {α:Type} (f g:α→Nat):∀l:List α,bK (l.map fun x=>f x+g x)=bK (l.map f)+bK (l.map g)
 | []=>rfl
 | x::l=>by have:=aAy f g l;simp only[List.map_cons,bK];omega
theorem aD5 {c:Nat}:∀{N a:Nat},a<N→bK ((List.range N).map fun k=>if k=a then c else 0)=c:=by
 have app:∀(a b:List Nat),bK (a++b)=bK a+bK b:=fun a b=>by
  induction a with
  | nil=>simp[bK]
  | cons x a ih=>simp only[List.cons_append,bK,ih];omega
 have z:∀{N a:Nat},N≤a→bK ((List.range N).map fun k=>if k=a then c else 0)=0:=fun {N} {a} h=>by
  induction N with
  | zero=>rfl
  | succ n ih=>
   rw[List.range_succ,List.map_append,app,ih (by omega)]
   simp only[List.map_cons,List.map_nil,bK]
   rw[if_neg (by omega)]
 intro N a h
 induction N with
 | zero=>cases h
 | succ n ih=>
  rw[List.range_succ,List.map_append,app]
  simp only[List.map_cons,List.map_nil,bK]
  by_cases e:n=a
  ·rw[z (by omega),if_pos e];omega
  ·rw[ih (by omega),if_neg e];omega
theorem aHI {f:Nat→Nat} {c:Nat}:∀(N:Nat),(∀k,f k≤c)→bK ((List.range N).map f)≤c*N:=fun N h=>by
 have:=aCA (f:=f) (g:=fun _=>c) (List.range N) fun k _=>h k
 have e:bK ((List.range N).map fun _=>c)=c*N:=by
  have:∀l:List Nat,bK (l.map fun _=>c)=c*l.length:=fun l=>by
   induction l with
   | nil=>rfl
   | cons x l ih=>simp only[List.map_cons,bK,ih,List.length_cons];rw[Nat.mul_succ];omega
  rw[this,List.length_range]
 omega
theorem aOz {m:Im} {f:Int} (hc:aB m f≤64) {S h:List Sh} (hl:m.1.length≤8) (hS:PF m f S) (hd:DC S) (hb:Bel m h S):pot m.1 (aB m f) S h<4000:=by
 let v:Nat→Nat:=fun k=>if (sh S k).1 then 1+8*(sh S k).2.1.length else 0
 have hv:∀k,pw m.1 (sh S k) (sh h k)≤v k:=fun k=>by
  show _≤(if (sh S k).1 then 1+8*(sh S k).2.1.length else 0)
  unfold pw
  split
  ·split
   ·rename_i h1
    have:=aI6 hl (sh h k).2.1
    rw[oO (hb k h1).2] at this
    omega
   ·omega
  ·omega
 have h1:pot m.1 (aB m f) S h≤bK ((List.range (aB m f)).map v):=aCA _ fun k _=>hv k
 have h65:∀k,v k≤65:=fun k=>by
  show (if (sh S k).1 then 1+8*(sh S k).2.1.length else 0)≤65
  have:=(hS.gd.at' k).1
  split <;> omega
 by_cases h3:∃k,(sh S k).1=true∧2<(sh S k).2.1.length
 ·obtain⟨k,k1,k2⟩:=h3
  obtain⟨k0,a1,a2⟩:=hd k k1 0 (by omega)
  obtain⟨k1',b1,b2⟩:=hd k k1 1 (by omega)
  obtain⟨k2',c1,c2⟩:=hd k k1 2 (by omega)
  have inN:∀{j},(sh S j).1=true→j<aB m f:=fun {j} h=>by
   by_cases hj:j<aB m f
   ·exact hj
   ·unfold sh at h
    rw[dJ (by rw[hS.gd.len];omega)] at h
    cases h
  have n01:k0≠k1':=fun e=>by subst e;omega
  have n02:k0≠k2':=fun e=>by subst e;omega
  have n12:k1'≠k2':=fun e=>by subst e;omega
  have key:=aHI (f:=fun k=>v k+((if k=k0 then 64 else 0)+((if k=k1' then 56 else 0)+(if k=k2' then 48 else 0)))) (c:=65) (aB m f) fun k=>by
   have:=h65 k
   by_cases e0:k=k0
   ·have:v k=1:=by show (if (sh S k).1 then 1+8*(sh S k).2.1.length else 0)=1;subst e0;rw[a1,a2];rfl
    simp only[if_pos e0,if_neg (show k≠k1' by omega),if_neg (show k≠k2' by omega)]
    omega
   ·by_cases e1:k=k1'
    ·have:v k=9:=by show (if (sh S k).1 then 1+8*(sh S k).2.1.length else 0)=9;subst e1;rw[b1,b2];rfl
     simp only[if_pos e1,if_neg e0,if_neg (show k≠k2' by omega)]
     omega
    ·by_cases e2:k=k2'
     ·have:v k=17:=by show (if (sh S k).1 then 1+8*(sh S k).2.1.length else 0)=17;subst e2;rw[c1,c2];rfl
      simp only[if_pos e2,if_neg e0,if_neg e1]
      omega
     ·simp only[if_neg e2,if_neg e0,if_neg e1]
      omega
  rw[aAy v,aAy,aAy,aD5 (inN a1),aD5 (inN b1),aD5 (inN c1)] at key
  omega
 ·have:=aHI (f:=v) (c:=17) (aB m f) fun k=>by
   show (if (sh S k).1 then 1+8*(sh S k).2.1.length else 0)≤17
   split
   ·rename_i hk
    have:¬2<(sh S k).2.1.length:=fun h=>h3 ⟨k,hk,h⟩
    omega
   ·omega
  omega
theorem aKC {m:Im} (hs:aF m=true) {f:Int} {h:List Sh} {r:Bool×List Sh} (hg:Gd m (aB m f) h) (hst:(sh h 0).1=true∧(sh h 0).2.1=[]) (hr:kM m f (aB m f) false h=some r) (h0:r.1=false):PF m f r.2:=by
 obtain⟨F,G⟩:=rA hs _ _ _ _ hg hr
 obtain⟨-,e⟩:=F.still h0
 rw[e]
 refine⟨hg,hst,fun pc hp=>?_⟩
 by_cases hk:pc<aB m f
 ·exact G h0 pc hk hp
 ·unfold sh at hp
  rw[dJ (by rw[hg.len];omega)] at hp
  cases hp
theorem aBP {m:Im} (hs:aF m=true) {f:Int}:∀(n:Nat) (h:List Sh),Gd m (aB m f) h→((sh h 0).1=true∧(sh h 0).2.1=[])→(eK m f n h=([],false,()))∨((eK m f n h).2.1=true∧PF m f (eK m f n h).1)
 | 0,_,_,_=> .inl rfl
 | n+1,h,hg,hst=>by
  unfold eK
  cases hr:kM m f (aB m f) false h with
  | none=>exact .inl rfl
  | some r=>
   simp only
   cases h1:r.1 <;> simp only[cond_true,cond_false]
   ·exact .inr ⟨trivial,aKC hs hg hst hr h1⟩
   ·obtain⟨F,-⟩:=rA hs _ _ _ _ hg hr
    exact aBP hs n r.2 F.gd (aGV F.bel hst)
theorem aEZ {m:Im} (hs:aF m=true) {f:Int} {S:List Sh} (hl:m.1.length≤8) (hS:PF m f S):∀(n:Nat) (h:List Sh),Gd m (aB m f) h→Bel m h S→pot m.1 (aB m f) S h<n→(eK m f n h).2.1=true∧Bel m (eK m f n h).1 S
 | 0,_,_,_,h=>by omega
 | n+1,h,hg,hb,hp=>by
  obtain⟨r,hr,hrb⟩:=aDm hs hS (aB m f) false h hg hb
  obtain⟨F,-⟩:=rA hs _ _ _ _ hg hr
  unfold eK
  rw[hr]
  simp only
  cases h1:r.1 <;> simp only[cond_true,cond_false]
  ·exact⟨trivial,hrb⟩
  ·refine aEZ hs hl hS n r.2 F.gd hrb ?_
   have:=aU6 hl hg F.gd F.bel hrb ((F.moved h1).resolve_left Bool.false_ne_true)
   omega
theorem aBa {m:Im} (hs:aF m=true) {f:Int} (hf:inM m f=true):∃r,fZ m f=some r∧aCW (aB m f) r.1∧
  (r.2.2.1=0→eK m f 4000 (fS m f)=(r.1,true,()))∧(r.2.2.1≠0→eK m f 4000 (fS m f)=([],false,()))∧(r.2.2.1=0→PF m f r.1):=by
 obtain⟨r,hr,hg⟩:=aBW hs hf
 have hl:=(bE (aV hs).1).classes
 have hc:=cN hs hf
 have W:=aRY hs hf
 have hw:=hr
 unfold fZ at hw
 rw[hs,hf] at hw
 simp only[Bool.and_self,cond_true] at hw
 have R:=aBP hs (f:=f) 4000 (fS m f) aDX W.start
 refine⟨r,hr,hg,fun h0=>?_,fun h0=>?_,fun h0=>(aAJ hs hf _ _ _ _ W hw h0).1⟩
 ·obtain⟨P,D⟩:=aAJ hs hf _ _ _ _ W hw h0
  obtain⟨e1,e2⟩:=aEZ hs hl P 4000 (fS m f) aDX (qY hs hf P) (aOz hc.2 hl P D (qY hs hf P))
  rcases R with R | ⟨_,R⟩
  ·rw[R] at e1;cases e1
  ·obtain⟨-,b⟩:=aAz hs hf R _ _ _ _ W (qY hs hf R) hw
   have e:=aAd R.gd P.gd e2 b
   generalize eK m f 4000 (fS m f)=z at e1 e
   obtain⟨z1,z2,⟨⟩⟩:=z
   simp only at e1 e
   rw[e1,e]
 ·rcases R with R | ⟨_,R⟩
  ·exact R
  ·exact absurd (aAz hs hf R _ _ _ _ W (qY hs hf R) hw).1 h0
theorem aG9 {m:Im} (hs:aF m=true):∀(l:List Int) (out:List (List Sh)),(∀f∈l,inM m f=true)→∃r,jZ m l out=some r∧
  (r.2.2.2.1=0→aEr m l out=(r.1,-1,()))∧(r.2.2.2.1≠0→aEr m l out=([],r.2.1,())∧inM m r.2.1=true)∧(r.2.2.2.1=0→r.1.length=out.length+l.length)
 | [],out,_=>⟨_,rfl,fun _=>rfl,fun h=>absurd rfl h,fun _=>rfl⟩
 | f::l,out,hl=>by
  have hf:=hl f (List.mem_cons_self ..)
  obtain⟨r,hr,-,h1,h2,-⟩:=aBa hs hf
  unfold jZ aEr
  rw[hr]
  simp only[Option.bind_some]
  cases he:r.2.2.1 !=0 <;> simp only[cond_true,cond_false]
  ·rw[h1 (by simpa using he)]
   obtain⟨r',i1,i2,i3,i4⟩:=aG9 hs l (out++[r.1]) fun x hx=>hl x (List.mem_cons_of_mem _ hx)
   exact⟨r',i1,i2,i3,fun h0=>by rw[i4 h0];simp;omega⟩
  ·have h0:r.2.2.1≠0:=by simpa using he
   rw[h2 h0]
   exact⟨_,rfl,fun h=>absurd h h0,fun _=>⟨rfl,hf⟩,fun h=>absurd h h0⟩
theorem aFy {m:Im} (hs:aF m=true):∃r,iS m=some r∧(r.2.2.2.1=0→qX m=some (r.1,-1,())∧r.1.length=m.2.2.2.1.length)∧(r.2.2.2.1≠0→qX m=some ([],r.2.1,())∧inM m r.2.1=true):=by
 obtain⟨r,h1,h2,h3,h4⟩:=aG9 hs (ints m.2.2.2.1.length) [] fun f hf=>aP.2 (cX.1 hf)
 refine⟨r,?_,fun h0=>⟨?_,?_⟩,fun h0=>⟨?_,(h3 h0).2⟩⟩
 ·unfold iS;rw[hs];exact h1
 ·unfold qX;rw[hs,h2 h0];rfl
 ·rw[h4 h0,dG];simp
 ·unfold qX;rw[hs,(h3 h0).1];rfl
end Go.Pli

namespace Go.Pli
open Go Go.PM
theorem eP {n:Int} (h1: -1000000000≤n) (h2:n≤1000000000):IntKind.i64.wrap n=n:=by rw[cD] <;> omega
theorem sE {n:Int} (h1: -1000000000≤n) (h2:n≤1000000000):lof n=(n,true,()):=by
 unfold lof
 rw[decide_eq_true (show n> -4611686018427387904 by omega),decide_eq_true (show n<4611686018427387904 by omega)]
 rfl
theorem aLb {a b:Int} (ha:a= -1∨a=0∨a=1) (hb:0≤b∧b≤4096):yP (lof a) (lof b)=(a*b,true,()):=by
 have hab: -4096≤a*b∧a*b≤4096:=by rcases ha with rfl | rfl | rfl <;> omega
 rw[sE (by omega) (by omega),sE (by omega) (by omega)]
 unfold yP
 simp only[Bool.and_self,cond_true]
 have h1:dO a=0∨dO a=1:=by rcases ha with rfl | rfl | rfl <;> decide
 have h2:dO b=b:=by
  unfold dO
  rw[decide_eq_false (show ¬b<0 by omega),cond_false]
  show (b % 18446744073709551616)=b
  omega
 have h3:0≤dO a*dO b∧dO a*dO b≤4096:=by rw[h2];rcases h1 with h | h <;> rw[h] <;> omega
 generalize dO a*dO b=z at h3
 rw[decide_eq_false (show ¬(z/18446744073709551616≠0) by omega),decide_eq_false (show ¬(z % 18446744073709551616≥4611686018427387904) by omega)]
 simp only[Bool.or_self,cond_false]
 rw[eP (by omega) (by omega),sE (by omega) (by omega)]
def nB:List (Int×Int)→Int
 | []=>0
 | p::r=>p.1*p.2+nB r
theorem aNF (l:List (Int×Int)):∀(s k:Int),(∀p∈l,(p.1= -1∨p.1=0∨p.1=1)∧0≤p.2∧p.2≤4096)→-k≤s→s≤k→k+4096*(l.length:Int)≤1000000→vC l (s,true,())=(s+nB l,true,()):=by
 induction l with
 | nil=>intro s k _ _ _ _;rw[vC,nB,Int.add_zero]
 | cons p r ih=>
  intro s k h h1 h2 h3
  have hp:=h p (List.mem_cons_self ..)
  have hab: -4096≤p.1*p.2∧p.1*p.2≤4096:=by
   obtain⟨ha,hb⟩:=hp
   rcases ha with e | e | e <;> rw[e] <;> omega
  rw[List.length_cons] at h3
  rw[vC,nB,aLb hp.1 hp.2]
  have:aCJ (s,true,()) (p.1*p.2,true,())=(s+p.1*p.2,true,()):=by
   unfold aCJ
   rw[Bool.and_self,cond_true,eP (by omega) (by omega),sE (by omega) (by omega)]
  rw[this,ih _ (k+4096) (fun q hq=>h q (List.mem_cons_of_mem _ hq)) (by omega) (by omega) (by omega),Int.add_assoc]
theorem aJV:∀(n:Nat) (v:List Int),nB ((List.replicate n 0).zip v)=0
 | 0,v=>by simp[nB]
 | n+1,[]=>by simp[nB]
 | n+1,x::v=>by
  rw[List.replicate_succ,List.zip_cons_cons,nB,aJV n v]
  simp
theorem aMz:∀(z v:List Int) (k:Nat) (d:Int),k<z.length→z.length=v.length→nB ((z.set k d).zip v)=nB (z.zip v)+(d - z.getD k 0)*v.getD k 0
 | [],_,_,_,h,_=>by simp at h
 | _::_,[],_,_,_,h=>by simp at h
 | a::z,x::v,0,d,_,_=>by
  simp only[List.set_cons_zero,List.zip_cons_cons,nB,List.getD_cons_zero]
  rw[Int.sub_mul]
  omega
 | a::z,x::v,k+1,d,h,hl=>by
  have:=aMz z v k d (by simpa using h) (by simpa using hl)
  simp only[List.set_cons_succ,List.zip_cons_cons,nB,List.getD_cons_succ,this]
  omega
theorem aMe {z v:List Int} {a d:Int} (hl:z.length=v.length) (ha:a<(z.length:Int)) (hz:∀x∈z,x= -1∨x=0∨x=1) (hd: -1≤d∧d≤1):
  nB ((mA z a d).zip v)=nB (z.zip v)+(if 0≤a then d*v.getD a.toNat 0 else 0)∧(mA z a d).length=z.length:=by
 unfold mA
 by_cases h:0≤a
 ·rw[decide_eq_true (show a≥0 from h),cond_true,if_pos h]
  have hk:a.toNat<z.length:=by omega
  have hg:z.getD a.toNat 0= -1∨z.getD a.toNat 0=0∨z.getD a.toNat 0=1:=by rw[getD_some (List.getElem?_eq_getElem hk)];exact hz _ (List.getElem_mem hk)
  rw[eP (by omega) (by omega),aMz z v _ _ hk hl]
  refine⟨?_,List.length_set⟩
  congr 1
  congr 1
  omega
 ·rw[decide_eq_false (show ¬a≥0 from h),cond_false,if_neg h]
  exact⟨by omega,rfl⟩
theorem row_holds {v:List Int} {n a b c:Int} (hn:n=(v.length:Int)) (h64:v.length≤64) (ha:a<n) (hb:b<n) (hv:∀x∈v,0≤x∧x≤4096):
  mB (eT n a b c) v=(decide ((if 0≤a then -(v.getD a.toNat 0) else 0)+(if 0≤b then v.getD b.toNat 0 else 0)≤c),0,()):=by
 subst hn
 have l0:(List.replicate ((v.length:Int)).toNat (0:Int)).length=v.length:=by simp
 obtain⟨d1,l1⟩:=aMe (z:=List.replicate ((v.length:Int)).toNat 0) (v:=v) (a:=a) (d:= -1) l0 (by rw[l0];exact ha) (fun x hx=>by rw[List.mem_replicate] at hx;exact .inr (.inl hx.2)) ⟨by decide,by decide⟩
 have hz1:∀x∈mA (List.replicate ((v.length:Int)).toNat 0) a (-1),x= -1∨x=0:=by
  intro x hx
  unfold mA at hx
  by_cases h:0≤a
  ·rw[decide_eq_true (show a≥0 from h),cond_true] at hx
   rcases List.mem_or_eq_of_mem_set hx with hx | hx
   ·rw[List.mem_replicate] at hx;exact .inr hx.2
   ·have hg:(List.replicate ((v.length:Int)).toNat (0:Int)).getD a.toNat 0=0:=by
     rw[List.getD_eq_getElem?_getD,List.getElem?_replicate]
     split <;> rfl
    rw[hg,eP (by omega) (by omega)] at hx
    exact .inl (by omega)
  ·rw[decide_eq_false (show ¬a≥0 from h),cond_false,List.mem_replicate] at hx
   exact .inr hx.2
 obtain⟨d2,l2⟩:=aMe (z:=mA (List.replicate ((v.length:Int)).toNat 0) a (-1)) (v:=v) (a:=b) (d:=1) (by rw[l1,l0]) (by rw[l1,l0];exact hb) (fun x hx=>(hz1 x hx).imp id .inl) ⟨by decide,by decide⟩
 have hz2:∀x∈(eT (v.length:Int) a b c).1,x= -1∨x=0∨x=1:=by
  intro x hx
  show _
  have hx:x∈mA (mA (List.replicate ((v.length:Int)).toNat 0) a (-1)) b 1:=hx
  unfold mA at hx
  by_cases h:0≤b
  ·rw[decide_eq_true (show b≥0 from h),cond_true] at hx
   rcases List.mem_or_eq_of_mem_set hx with hx | hx
   ·exact (hz1 x hx).imp id .inl
   ·change x=IntKind.i64.wrap ((mA (List.replicate ((v.length:Int)).toNat 0) a (-1)).getD b.toNat 0+1) at hx
    have hk:b.toNat<(mA (List.replicate ((v.length:Int)).toNat 0) a (-1)).length:=by rw[l1,l0];omega
    have hg:=hz1 _ (List.getElem_mem hk)
    rw[getD_some (List.getElem?_eq_getElem hk),eP (by omega) (by omega)] at hx
    omega
  ·rw[decide_eq_false (show ¬b≥0 from h),cond_false] at hx
   exact (hz1 x hx).imp id .inl
 have hlen:(eT (v.length:Int) a b c).1.length=v.length:=l2.trans (l1.trans l0)
 have hdot:nB ((eT (v.length:Int) a b c).1.zip v)=(if 0≤a then -(v.getD a.toNat 0) else 0)+(if 0≤b then v.getD b.toNat 0 else 0):=by
  show nB ((mA (mA (List.replicate ((v.length:Int)).toNat 0) a (-1)) b 1).zip v)=_
  rw[d2,d1,aJV]
  split <;> split <;> omega
 unfold mB
 rw[decide_eq_false (show ¬((eT (v.length:Int) a b c).1.length≠v.length) from fun h=>h hlen),cond_false,sE (by omega) (by omega)]
 rw[aNF _ 0 0 (fun p hp=>by
  obtain⟨h1,h2⟩:=List.of_mem_zip hp
  exact⟨hz2 _ h1,hv _ h2⟩) (by omega) (by omega) (by rw[List.length_zip,hlen];omega),hdot]
 unfold aEP
 simp only[Bool.not_true,cond_false,Int.zero_add]
 rfl
theorem aEM {m:Im} (hs:aF m=true) {f:Int} (hf:inM m f=true) {pc:Int} (hp:sin pc (aB m f:Int)=true):dQ (aH m f pc)=true:=by
 obtain⟨h0,h1⟩:=aP.1 hf
 exact (jY ((bE (aV hs).1).mts _ (jP h0 h1))).2.2.2.1.2 _ (aBj hp)
theorem aF2 {m:Im} (hs:aF m=true) {f:Int} (hf:inM m f=true) {pc:Int} (hp:sin pc (aB m f:Int)=true):∀g∈aT m (aH m f pc),inM m g=true:=fun g hg=>
 aJW (aDZ (aV hs).2) hf (aD4.1 (List.mem_flatten.2 ⟨_,List.mem_map.2 ⟨_,aBj hp,rfl⟩,hg⟩))
theorem aTH {m:Im} (hs:aF m=true) {f:Int} (hf:inM m f=true) {pc:Int} (hp:sin pc (aB m f:Int)=true):rB m (aH m f pc)=gU m (aH m f pc):=by
 have hg:=aEM hs hf hp
 have ht:=aF2 hs hf hp
 have hfil:(aT m (aH m f pc)).filter (inM m)=aT m (aH m f pc):=List.filter_eq_self.2 ht
 unfold rB gU
 rw[hfil]
 generalize aH m f pc=i at hg
 cases h22:i.1==22 <;> simp only[cond_true,cond_false]
 cases h23:i.1==23 <;> simp only[cond_true,cond_false]
 have e:i.1=23:=by simpa using h23
 unfold dQ at hg
 rw[e] at hg
 simp only[Bool.and_eq_true] at hg
 have h1:=hg.2.1
 unfold kV at h1
 rw[show cR 23=1 from rfl] at h1
 simp only[show decide ((0:Int)≥1)=false from rfl,cond_false,Bool.and_eq_true,decide_eq_true_eq] at h1
 congr 2
 omega
theorem aTE {l:List Int} {b:Int} (h:∀x∈l,x≤b):∀a,a≤b→l.foldl max a≤b:=by
 induction l with
 | nil=>exact fun a h=>h
 | cons x l ih=>exact fun a ha=>ih (fun y hy=>h y (List.mem_cons_of_mem _ hy)) _ (by have:=h x (List.mem_cons_self ..);omega)
theorem aTr (l:List Int):∀a,a≤l.foldl max a:=by
 induction l with
 | nil=>exact fun a=>Int.le_refl _
 | cons x l ih=>exact fun a=>Int.le_trans (by omega) (ih (max a x))
theorem aHs {m:Im} (hs:aF m=true) {f:Int} (hf:inM m f=true):0≤dF m f∧dF m f≤4096:=by
 obtain⟨h0,h1⟩:=aP.1 hf
 exact (jY ((bE (aV hs).1).mts _ (jP h0 h1))).2.2.2.2.2.1
theorem rJ {m:Im} (hs:aF m=true) {f:Int} (hf:inM m f=true):(cS m f).length=aB m f∧∀x∈cS m f,0≤x∧x≤4096:=by
 obtain⟨h0,h1⟩:=aP.1 hf
 have:=iD hs hf
 simp only[cJ,Bool.and_eq_true,decide_eq_true_eq] at this
 exact⟨this.2.2.2.2.1,(jY ((bE (aV hs).1).mts _ (jP h0 h1))).2.2.2.2.2.2.2⟩
theorem aPD {m:Im} (hs:aF m=true) (c:Int):(cE m c).length≤64:=by
 have hl:=(bE (aV hs).1).classes
 have key:∀(l:List Int),(∀s∈l,sin s (m.1.length:Int)=true)→((l.map fun s=>(bH m s).2.1).flatten).length≤8*l.length:=by
  intro l
  induction l with
  | nil=>intro _;simp
  | cons s l ih=>
   intro h
   have h1:=h s (List.mem_cons_self ..)
   simp only[sin,Bool.and_eq_true,decide_eq_true_eq] at h1
   have h2:=(rL ((bE (aV hs).1).cls _ (oG h1.1 h1.2))).2.1.1
   have:=ih fun x hx=>h x (List.mem_cons_of_mem _ hx)
   rw[List.map_cons,List.flatten_cons,List.length_append,List.length_cons]
   omega
 unfold cE
 have hin:∀s∈(aY m.1 c).reverse,sin s (m.1.length:Int)=true:=fun s hs'=>by
  rw[List.mem_reverse] at hs'
  unfold aY at hs'
  cases hd:decide (c<(m.1.length:Int)) <;> simp only[hd,cond_true,cond_false] at hs'
  ·cases hs'
  ·have:=iB _ _ (Nat.lt_succ_self _) hs'
   have hd:c<(m.1.length:Int):=by simpa using hd
   simp only[sin,Bool.and_eq_true,decide_eq_true_eq]
   omega
 have h1:=key _ hin
 have h2:((aY m.1 c).reverse).length≤8:=by
  rw[List.length_reverse]
  unfold aY
  cases decide (c<(m.1.length:Int)) <;> simp only[cond_true,cond_false]
  ·exact Nat.zero_le _
  ·exact vH hl c
 omega
theorem aOi {m:Im} (hs:aF m=true) {f:Int} (hf:inM m f=true) {pc:Int} (hp:sin pc (aB m f:Int)=true):0≤gU m (aH m f pc)∧gU m (aH m f pc)≤4096:=by
 have hg:=aEM hs hf hp
 have ht:=aF2 hs hf hp
 unfold gU
 generalize aH m f pc=i at hg ht
 cases h22:i.1==22 <;> simp only[cond_true,cond_false]
 ·cases h23:i.1==23 <;> simp only[cond_true,cond_false]
  ·have hx:∀x∈(aT m i).map (dF m),x≤4096:=fun x hx=>by
    obtain⟨g,hg,rfl⟩:=List.mem_map.1 hx
    exact (aHs hs (ht g hg)).2
   exact⟨aTr _ 0,aTE hx 0 (by decide)⟩
  ·have e:i.1=23:=by simpa using h23
   unfold dQ at hg
   rw[e] at hg
   simp only[Bool.and_eq_true] at hg
   have h1:=hg.2.1
   unfold kV at h1
   rw[show cR 23=1 from rfl] at h1
   simp only[show decide ((0:Int)≥1)=false from rfl,cond_false,Bool.and_eq_true,decide_eq_true_eq] at h1
   rw[eP (by omega) (by omega)]
   omega
 ·have:=aPD hs i.2.1
  unfold vR
  omega
theorem aN6 {v:List Int} (hv:∀x∈v,0≤x∧x≤4096) (k:Nat):0≤v.getD k 0∧v.getD k 0≤4096:=by
 by_cases h:k<v.length
 ·rw[getD_some (List.getElem?_eq_getElem h)];exact hv _ (List.getElem_mem h)
 ·rw[dJ (by omega)];decide
theorem aDN {m:Im} (hs:aF m=true) {f:Int} (hf:inM m f=true) {a b c:Int} (ha:a<(aB m f:Int)) (hb:b<(aB m f:Int)):
  nV m f (eT (aB m f:Int) a b c)=decide ((if 0≤a then -((cS m f).getD a.toNat 0) else 0)+(if 0≤b then (cS m f).getD b.toNat 0 else 0)≤c):=by
 obtain⟨p1,p2⟩:=rJ hs hf
 have hc:=cN hs hf
 unfold nV
 rw[row_holds (by rw[p1]) (by rw[p1];exact hc.2) ha hb p2]
 simp
theorem aLT {α:Type} {l:List α} {p q:α→Bool} (h:∀x∈l,p x= !q x):l.all p= !l.any q:=by
 induction l with
 | nil=>rfl
 | cons x l ih=>rw[List.all_cons,List.any_cons,h x (List.mem_cons_self ..),ih fun y hy=>h y (List.mem_cons_of_mem _ hy),Bool.not_or]
theorem aKg {m:Im} (hs:aF m=true) {f:Int} (hf:inM m f=true) {l:List (List Sh)} (P:PF m f (l.getD f.toNat [])) {pc:Nat} (hpc:pc<aB m f):
  (kW m l f (pc:Int)).all (nV m f)= !aEK m l f pc:=by
 obtain⟨p1,p2⟩:=rJ hs hf
 have hshape:bY l f (pc:Int)=sh (l.getD f.toNat []) pc:=by unfold bY sh;rw[Int.toNat_natCast]
 have hp:sin (pc:Int) (aB m f:Int)=true:=by simp only[sin,Bool.and_eq_true,decide_eq_true_eq];omega
 have hg:∀k,0≤(cS m f).getD k 0∧(cS m f).getD k 0≤4096:=aN6 p2
 unfold kW aEK
 rw[hshape]
 cases hseen:(sh (l.getD f.toNat []) pc).1
 ·simp
 ·obtain⟨c1,c2⟩:=P.cov pc hseen
  obtain⟨-,-,-,hto⟩:=fE hs c1
  have hb:((aM m f (pc:Int) (sh (l.getD f.toNat []) pc).2.1).2.2.1 !=0)=false:=by rw[c1];rfl
  rw[hb]
  simp only[Bool.not_true,cond_false,Bool.true_and]
  have hcost:=aOi hs hf hp
  rw[aTH hs hf hp]
  generalize (aM m f (pc:Int) (sh (l.getD f.toNat []) pc).2.1).2.1=ts at hto
  rw[List.all_append,List.all_map]
  have h1:(bif decide (ts.length=0) then[eT (aB m f:Int) (pc:Int) (-1) 0] else[]).all (nV m f)=true:=by
   cases decide (ts.length=0) <;> simp only[cond_true,cond_false]
   ·rfl
   ·rw[List.all_cons,List.all_nil,Bool.and_true,aDN hs hf (by omega) (by omega),if_pos (by omega),if_neg (by decide)]
    have:=hg ((pc:Int)).toNat
    exact decide_eq_true (by omega)
  rw[h1,Bool.true_and]
  refine aLT fun to ht=>?_
  have h2:=hto to ht
  show nV m f (eT (aB m f:Int) (pc:Int) to (IntKind.i64.wrap (0 - gU m (aH m f (pc:Int)))))=_
  rw[aDN hs hf (by omega) h2.2,if_pos (by omega),if_pos h2.1,Int.toNat_natCast,eP (by omega) (by omega)]
  have:=hg pc
  have:=hg to.toNat
  rw[eP (by omega) (by omega)]
  by_cases h:(cS m f).getD pc 0<gU m (aH m f (pc:Int))+(cS m f).getD to.toNat 0
  ·rw[decide_eq_true h,decide_eq_false (by omega)];rfl
  ·rw[decide_eq_false h,decide_eq_true (by omega)];rfl
theorem aNl {m:Im} (hs:aF m=true) {f:Int} (hf:inM m f=true) {l:List (List Sh)} (P:PF m f (l.getD f.toNat [])):
  (iO m l f).all (nV m f)= !aAe m l f:=by
 have hc:=cN hs hf
 obtain⟨p1,p2⟩:=rJ hs hf
 unfold iO aAe
 rw[hf]
 simp only[cond_true,List.all_cons]
 rw[aDN hs hf (by omega) (by omega),if_neg (by decide),if_pos (by decide)]
 have e1:decide ((0:Int)+(cS m f).getD (0:Int).toNat 0≤dF m f)= !decide ((cS m f).getD 0 0>dF m f):=by
  rw[show (0:Int).toNat=0 from rfl]
  by_cases h:(cS m f).getD 0 0>dF m f
  ·rw[decide_eq_true h,decide_eq_false (by omega)];rfl
  ·rw[decide_eq_false h,decide_eq_true (by omega)];rfl
 rw[e1,Bool.not_or]
 congr 1
 rw[all_flat]
 exact aLT fun pc hpc=>aKg hs hf P (List.mem_range.1 hpc)
where
 all_flat {α β:Type} {l:List α} {g:α→List β} {p:β→Bool}:((l.map g).flatten).all p=l.all fun x=>(g x).all p:=by
  induction l with
  | nil=>rfl
  | cons x l ih=>rw[List.map_cons,List.flatten_cons,List.all_append,List.all_cons,ih]
theorem aTy {m:Im} (hs:aF m=true) {f:Int} (hf:inM m f=true):(cS m f).any aAX=false:=by
 cases h:(cS m f).any aAX
 ·rfl
 ·obtain⟨x,hx,hn⟩:=List.any_eq_true.1 h
  have:=(rJ hs hf).2 x hx
  unfold aAX at hn
  have:x<0:=by simpa using hn
  omega
theorem aMu {m:Im} (hs:aF m=true) {l:List (List Sh)} (P:∀f,inM m f=true→PF m f (l.getD f.toNat [])):∀(fs:List Int),(∀f∈fs,inM m f=true)→
  ((qJ m l fs).2.1=0∧fs.find? (aAe m l)=none)∨((qJ m l fs).2.1=6∧∃f∈fs,fs.find? (aAe m l)=some f)
 | [],_=> .inl ⟨rfl,rfl⟩
 | f::fs,h=>by
  have hf:=h f (List.mem_cons_self ..)
  unfold qJ
  rw[aNl hs hf (P f hf),aTy hs hf,List.find?_cons]
  cases aAe m l f <;> simp only[Bool.not_true,Bool.not_false,cond_true,cond_false]
  ·rcases aMu hs P fs fun x hx=>h x (List.mem_cons_of_mem _ hx) with h1 | ⟨h1,g,h2,h3⟩
   ·exact .inl h1
   ·exact .inr ⟨h1,g,List.mem_cons_of_mem _ h2,h3⟩
  ·exact .inr ⟨trivial,f,List.mem_cons_self ..,rfl⟩
theorem aRi {m:Im} (hs:aF m=true) {l:List (List Sh)} (P:∀f,inM m f=true→PF m f (l.getD f.toNat [])):
  ((qJ m l (ints m.2.2.2.1.length)).2.1=0∧aCE m l= -1)∨((qJ m l (ints m.2.2.2.1.length)).2.1=6∧0≤aCE m l):=by
 unfold aCE
 rcases aMu hs P (ints m.2.2.2.1.length) fun f hf=>aP.2 (cX.1 hf) with⟨h1,h2⟩ | ⟨h1,f,h2,h3⟩
 ·rw[h2];exact .inl ⟨h1,rfl⟩
 ·rw[h3];exact .inr ⟨h1,(cX.1 h2).1⟩
end Go.Pli

namespace Go.Pli
open Go Go.PM
theorem zP {α σ R:Type} {L:σ→(σ→Option R)→Option R} {xs:List α} {st:Nat→σ} {p:α→Bool} {ex:α→Option R} {fin:Option R}
  (h1:∀(k:Nat) (x:α) (rec),xs[k]? =some x→k<xs.length→L (st k) rec=bif p x then ex x else rec (st (k+1)))
  (h2:∀rec,L (st xs.length) rec=fin):∀F:Nat,xs.length<F→aA L F (st 0)=match xs.find? p with
   | some x=>ex x
   | none=>fin:=by
 have key:∀(l pre:List α) (F:Nat),xs=pre++l→l.length<F→aA L F (st pre.length)=match l.find? p with
   | some x=>ex x
   | none=>fin:=by
  intro l
  induction l with
  | nil=>
   intro pre F hx hF
   obtain⟨F,rfl⟩:∃n,F=n+1:=⟨F - 1,by simp at hF;omega⟩
   rw[aD,List.find?_nil]
   have:pre.length=xs.length:=by rw[hx];simp
   rw[this,h2]
  | cons x l ih=>
   intro pre F hx hF
   obtain⟨F,rfl⟩:∃n,F=n+1:=⟨F - 1,by simp at hF;omega⟩
   rw[aD,List.find?_cons,h1 pre.length x _ (by rw[hx];simp) (by rw[hx];simp)]
   cases hp:p x <;> simp only[cond_true,cond_false]
   have:=ih (pre++[x]) F (by rw[hx];simp) (by simp at hF;omega)
   rw[List.length_append] at this
   exact this
 exact fun F hF=>key xs [] F rfl hF
theorem aDM {α R:Type} {p:α→Bool} {ex fin:R}:∀xs:List α,(match xs.find? p with | some _=>ex | none=>fin)=bif xs.any p then ex else fin
 | []=>rfl
 | x::xs=>by
  rw[List.find?_cons,List.any_cons]
  cases p x
  ·simp only[Bool.false_or]
   exact aDM xs
  ·rfl
theorem aPz {m:Im} {f pc:Int} {s:List Tp} (h:(aM m f pc s).2.2.1≠0):(aM m f pc s).2.1=[]:=by
 have C:∀{b:Bool} {x y:St4},(x.2.2.1≠0→x.2.1=[])→(y.2.2.1≠0→y.2.1=[])→((bif b then x else y).2.2.1≠0→(bif b then x else y).2.1=[]):=fun {b} {x} {y} h1 h2=>by cases b;exact h2;exact h1
 revert h
 unfold aM qU
 exact C (fun _=>rfl) (C (fun _=>rfl) (C (C (fun _=>rfl) (fun h=>absurd rfl h)) (C (fun _=>rfl) (C (fun h=>absurd rfl h) (fun _=>rfl)))))
theorem aN4 (m:Im) (l:List (List Sh)) (r) (h:oL m l=some r):∃k,aII k m l=some r:=by
 unfold oL at h
 cases hg:aF m&&aBr m l <;> rw[hg] at h <;> simp only[cond_true,cond_false] at h
 ·cases h
 have:=Option.some.inj h
 subst this
 simp only[aBr,Bool.and_eq_true,decide_eq_true_eq,List.all_eq_true] at hg
 obtain⟨hs,hok,hl,hrow⟩:=hg
 have hfi:=(aV hs).1
 have h12:=(bE hfi).methods
 refine⟨1001,?_⟩
 unfold aII aCE
 have fold:∀g:Nat,m.2.2.2.1.getD g zMt=aC m (g:Int):=fun g=>by unfold aC;rw[Int.toNat_natCast]
 have key:=zP (L:=wD m l 1001) (xs:=ints m.2.2.2.1.length) (st:=fun k=>((k:Int),())) (p:=aAe m l) (ex:=fun f=>some (f,())) (fin:=some ((-1:Int),()))
  (fun f x rec hk hlt=>by
   rw[dG] at hlt
   have hx:x=(f:Int):=by have:=aEl hlt 0;rw[getD_some hk] at this;exact this
   subst hx
   have hf:inM m (f:Int)=true:=aP.2 ⟨by omega,by omega⟩
   have hc:=cN hs hf
   obtain⟨p1,p2⟩:=rJ hs hf
   have ephi:(aC m (f:Int)).2.2.2.2.2.2.1=cS m (f:Int):=rfl
   have epot:(aC m (f:Int)).2.2.2.2.2.1=dF m (f:Int):=rfl
   have ecode:(aC m (f:Int)).2.2.2.1.length=aB m (f:Int):=rfl
   have eins:∀pc:Nat,(aC m (f:Int)).2.2.2.1.getD pc dN=aH m (f:Int) (pc:Int):=fun pc=>by unfold aH;rw[Int.toNat_natCast]
   have hphi0:decide ((0:Int)<((cS m (f:Int)).length:Int))=true:=decide_eq_true (by omega)
   have hw:=aN hlt (show _≤lenMax by simp only[lenMax];omega)
   have hlf:=hrow (f:Int) (cX.2 (aP.1 hf))
   rw[Int.toNat_natCast] at hlf
   have hfl:decide ((f:Int)<(l.length:Int))=true:=decide_eq_true (by omega)
   rw[wD]
   simp only[dlt hlt,dge,Bool.and_self,cond_true,Int.toNat_natCast,fold,ephi,epot,hphi0]
   unfold aAe
   cases hd:decide ((cS m (f:Int)).getD 0 0>dF m (f:Int)) <;> simp only[Bool.true_or,Bool.false_or,cond_true,cond_false]
   have inner:=zP (L:=vY m l 1001 ((f:Int),()) rec) (xs:=List.range (aB m (f:Int))) (st:=fun k=>((k:Int),())) (p:=aEK m l (f:Int)) (ex:=fun _=>some ((f:Int),())) (fin:=rec (((f+1:Nat):Int),()))
    (fun pc x rec4 hk2 hlt2=>by
     rw[List.length_range] at hlt2
     have hx:x=pc:=by
      rw[List.getElem?_range hlt2] at hk2
      exact (Option.some.inj hk2).symm
     subst hx
     have hp:sin (x:Int) (aB m (f:Int):Int)=true:=by simp only[sin,Bool.and_eq_true,decide_eq_true_eq];omega
     have hpl:decide ((x:Int)<((l.getD f []).length:Int))=true:=decide_eq_true (by omega)
     have hpp:decide ((x:Int)<((cS m (f:Int)).length:Int))=true:=decide_eq_true (by omega)
     have hw2:=aN hlt2 (show _≤lenMax by simp only[lenMax];omega)
     have eshape:(l.getD f []).getD x zSh=bY l (f:Int) (x:Int):=by unfold bY;rw[Int.toNat_natCast,Int.toNat_natCast]
     have hsl:okL (bY l (f:Int) (x:Int)).2.1=true:=by
      rw[←eshape]
      have:=(vJ hok (n:=f) (by omega)).2
      have hm:(l.getD f []).getD x zSh∈l.getD f []:=by
       have:x<(l.getD f []).length:=by omega
       rw[getD_some (List.getElem?_eq_getElem this)];exact List.getElem_mem this
      exact dZ (this _ hm)
     have hstep:oS m (f:Int) (x:Int) (bY l (f:Int) (x:Int)).2.1=some (aM m (f:Int) (x:Int) (bY l (f:Int) (x:Int)).2.1):=by unfold oS;rw[hs,hsl];rfl
     have hcost:qN m (aH m (f:Int) (x:Int))=some (gU m (aH m (f:Int) (x:Int)),()):=by
      unfold qN
      rw[hfi,List.all_eq_true.2 (aF2 hs hf hp)]
      rfl
     rw[vY]
     simp only[fold,ecode,dlt hlt2,dge,hfl,hpl,Bool.and_self,cond_true,Int.toNat_natCast,eshape,hstep,hw2,Option.bind_some]
     unfold aEK
     cases hseen:(bY l (f:Int) (x:Int)).1 <;> simp only[Bool.not_true,Bool.not_false,Bool.true_and,Bool.false_and,cond_true,cond_false]
     have hts:(aM m (f:Int) (x:Int) (bY l (f:Int) (x:Int)).2.1).2.1.length≤2∧∀to∈(aM m (f:Int) (x:Int) (bY l (f:Int) (x:Int)).2.1).2.1,0≤to∧to<(aB m (f:Int):Int):=by
      refine⟨qS m (f:Int) (x:Int) _,?_⟩
      by_cases e0:(aM m (f:Int) (x:Int) (bY l (f:Int) (x:Int)).2.1).2.2.1=0
      ·exact (fE hs e0).2.2.2
      ·rw[aPz e0]
       exact fun _ h=>by cases h
     generalize aM m (f:Int) (x:Int) (bY l (f:Int) (x:Int)).2.1=Z at hts
     obtain⟨hts2,hts⟩:=hts
     have edges:=zP (L:=wZ m ((f:Int),()) ((x:Int),()) rec4 Z) (xs:=Z.2.1) (st:=fun k=>((k:Int),())) (p:=fun to=>decide ((cS m (f:Int)).getD x 0<IntKind.i64.wrap (gU m (aH m (f:Int) (x:Int))+(cS m (f:Int)).getD to.toNat 0))) (ex:=fun _=>some ((f:Int),())) (fin:=rec4 (((x+1:Nat):Int),()))
      (fun k to rec7 hk3 hlt3=>by
       have hm3:to∈Z.2.1:=List.mem_of_getElem? hk3
       obtain⟨t0,t1⟩:=hts to hm3
       have t2:decide (to<((cS m (f:Int)).length:Int))=true:=decide_eq_true (by omega)
       have hw3:=aN hlt3 (show _≤lenMax by simp only[lenMax];omega)
       rw[wZ]
       simp only[dlt hlt3,dge,Bool.and_self,cond_true,Int.toNat_natCast,fold,ephi,ecode,eins,dlt hlt2,hpp,hcost,getD_some hk3,t0,t2,decide_true,hw3,Option.bind_some])
      (fun rec7=>by
       rw[wZ]
       simp only[bB,cond_false,hw2]) 1001 (by omega)
     rw[aDM] at edges
     exact edges)
    (fun rec4=>by
     rw[List.length_range,vY]
     simp only[Int.toNat_natCast,fold,ecode,bB,cond_false,hw]) 1001 (by rw[List.length_range];omega)
   rw[aDM] at inner
   exact inner)
  (fun rec=>by
   rw[dG,wD]
   simp only[bB,cond_false]) 1001 (by rw[dG];omega)
 refine (show _=_ from key).trans ?_
 cases (ints m.2.2.2.1.length).find? (aAe m l) <;> rfl
theorem aGQ (m:Im) (bd:List Int):∀(p q:List Int) (s h:Int),dH m bd (p++q) s h=dH m bd q (dH m bd p s h).1 (dH m bd p s h).2
 | [],_,_,_=>rfl
 | f::p,q,s,h=>by
  rw[List.cons_append,dH,dH]
  cases decide (f≥0)&&decide (f<(bd.length:Int)) <;> simp only[cond_true,cond_false] <;> exact aGQ m bd p q _ _
theorem aNi (m:Im) (l:List (List Sh)):(lA m l).2.1=true→(lA m l).1.length=m.2.2.2.1.length:=by
 unfold lA
 cases fU m <;> simp only[cond_true,cond_false]
 ·intro _;rw[aBv,List.length_replicate]
 ·intro h;cases h
theorem aEv {m:Im} (hs:aF m=true):∀f∈m.2.2.2.2.1,inM m f=true:=fun f hf=>by
 have:=(aV hs).2
 simp only[jQ,Bool.and_eq_true] at this
 have:=List.all_eq_true.1 this.2.2.2 f hf
 simp only[gV,Bool.and_eq_true] at this
 exact this.1
theorem aKR (m:Im) (l:List (List Sh)) (r) (h:iR m l=some r):∃k,aHa k m l=some r:=by
 unfold iR at h
 cases hs:aF m <;> rw[hs] at h <;> simp only[cond_true,cond_false] at h
 ·cases h
 cases hb:mR m l with
 | none=>rw[hb] at h;cases h
 | some B=>
  rw[hb,Option.bind_some] at h
  have:=Option.some.inj h
  subst this
  have hB:B=lA m l:=by
   unfold mR at hb
   cases hg:aF m&&(eS l&&(sP m&&rR (aG m))) <;> rw[hg] at hb <;> simp only[cond_true,cond_false] at hb
   ·cases hb
   ·exact (Option.some.inj hb).symm
  have hlen:=aNi m l
  rw[←hB] at hlen
  have h12:=(bE (aV hs).1).methods
  have hen:=aEv hs
  have hel:m.2.2.2.2.1.length≤12:=by
   have:=(bE (aV hs).1).entries
   simp only[eO,Bool.and_eq_true,decide_eq_true_eq] at this
   omega
  refine⟨1001,?_⟩
  unfold aHa aIf
  rw[hb,Option.bind_some]
  cases hb1:B.2.1 <;> simp only[Bool.not_true,Bool.not_false,cond_true,cond_false]
  have hBl:=hlen hb1
  have epot:∀g:Int,(m.2.2.2.1.getD g.toNat zMt).2.2.2.2.2.1=dF m g:=fun _=>rfl
  exact fJ (L:=sS m B) (n:=m.2.2.2.2.1.length) (st:=fun k=>((dH m B.1 (m.2.2.2.2.1.take k) 0 0).1,(dH m B.1 (m.2.2.2.2.1.take k) 0 0).2,(k:Int),()))
   (fun k rec hk=>by
    have hx:m.2.2.2.2.1[k]? =some m.2.2.2.2.1[k]:=List.getElem?_eq_getElem hk
    obtain⟨g0,g1⟩:=aP.1 (hen _ (List.getElem_mem hk))
    have hst:m.2.2.2.2.1.take (k+1)=m.2.2.2.2.1.take k++[m.2.2.2.2.1[k]]:=by rw[List.take_add_one,hx];rfl
    have hw:=aN hk (show _≤lenMax by simp only[lenMax];omega)
    rw[hst,aGQ]
    generalize dH m B.1 (m.2.2.2.2.1.take k) 0 0=S
    rw[sS]
    have gb:decide (m.2.2.2.2.1[k]<(B.1.length:Int))=true:=decide_eq_true (by omega)
    simp only[dlt hk,dge,Bool.and_self,cond_true,Int.toNat_natCast,getD_some hx,g0,g1,gb,decide_true,hw,epot]
    generalize m.2.2.2.2.1[k]=g at g0 gb
    rw[dH,dH,decide_eq_true (show g≥0 from g0),gb]
    simp only[Bool.and_self,cond_true]
    by_cases h1:B.1.getD g.toNat 0>S.1
    ·rw[decide_eq_true h1,Int.max_eq_right (by omega)]
     simp only[cond_true,Option.bind_some]
     by_cases h2:dF m g>S.2
     ·rw[decide_eq_true h2,Int.max_eq_right (by omega)];rfl
     ·rw[decide_eq_false h2,Int.max_eq_left (by omega)];rfl
    ·rw[decide_eq_false h1,Int.max_eq_left (by omega)]
     simp only[cond_false,Option.bind_some]
     by_cases h2:dF m g>S.2
     ·rw[decide_eq_true h2,Int.max_eq_right (by omega)];rfl
     ·rw[decide_eq_false h2,Int.max_eq_left (by omega)];rfl)
   (fun rec=>by
    rw[List.take_length,sS]
    simp only[bB,cond_false]) 1001 (by omega)
end Go.Pli
