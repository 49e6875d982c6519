/- Types: the typer ends on every sane image. -/
import Derived.Test.YtcofionghgmldaaGreatPliL13E
import Derived.Test.YtcofionghgmldaaGreatPliNt
import Derived.Test.YtcofionghgmldaaGreatPliReach
namespace Go.Pli
open Go Go.PM
def okT (t:Tp):Prop:=t.1=4→t.2.1=0
def pC (l:List Cl) (t:Tp):Nat:=if t.1=4 then 12 else if t.1=3 then (cI l t.2.1).length else 0
theorem aB8 {l:List Cl} (hl:l.length≤8) (c:Int):(cI l c).length≤8:=by
 by_cases h0:c<0
 ·rw[fG h0];simp
 ·by_cases h1:c<(l.length:Int)
  ·have:=xF l (c.toNat+1) c (by omega);omega
  ·have hk:kup l c= -1:=by
    unfold kup;have:c≥(l.length:Int):=by omega
    simp[this]
   rw[gM (by omega),hk,fG (by omega)];simp
theorem aEF {l:List Cl} {x:Int}:∀(n:Nat) (c:Int),c.toNat<n→x∈cI l c→(cI l x).length≤(cI l c).length∧(x≠c→(cI l x).length<(cI l c).length)
 | 0,_,h,_=>by omega
 | n+1,c,h,hx=>by
  by_cases h0:c<0
  ·rw[fG h0] at hx;cases hx
  have hk:=mK (l:=l) (c:=c) (by omega);rw[gM (by omega)] at hx;have hlen:(cI l c).length=(cI l (kup l c)).length+1:=by rw[gM (by omega)];rfl
  rcases cB.1 hx with rfl | hx
  ·exact⟨bL _,fun h=>absurd rfl h⟩
  ·by_cases h2:kup l c<0
   ·rw[fG h2] at hx;cases hx
   ·have:=(aEF n (kup l c) (by omega) hx).1;exact⟨by omega,fun _=>by omega⟩
theorem vI {a b:Tp} (h1:a.1=b.1) (h2:a.2.1=b.2.1):a=b:=by
 obtain⟨a1,a2,⟨⟩⟩:=a;obtain⟨b1,b2,⟨⟩⟩:=b;simp only at h1 h2;subst h1 h2;rfl
theorem aVE {l:List Cl} (hl:l.length≤8) {a b:Tp} (ha:okT a) (hb:okT b) (h:(gD l a b).1≠0):okT (gD l a b)∧(gD l a b=a∨pC l (gD l a b)<pC l a):=by
 unfold gD at h⊢;cases h1:cN l a b <;> simp only[h1,aA,aB] at h⊢
 ·cases h2:cN l b a <;> simp only[h2,aA,aB] at h⊢
  ·cases h3:a.1 !=3 || b.1 !=3 <;> simp only[h3,aA,aB] at h⊢
   ·have h3a:a.1=3:=by
     have:=(Bool.or_eq_false_iff.1 h3).1;simpa using this
    cases hf:(cI l (kup l a.2.1)).find? fun c=>dL l b.2.1 c with
    | none=>rw[hf] at h;exact absurd rfl h
    | some c=>
     refine⟨fun h4=>by simp at h4,.inr ?_⟩;have hm:=List.mem_of_find?_eq_some hf;have h0:0≤a.2.1:=by
      by_cases h0:0≤a.2.1
      ·exact h0
      ·have hk:kup l a.2.1= -1:=by
        unfold kup;have:a.2.1<0:=by omega
        simp[this]
       rw[hk,fG (by omega)] at hm;cases hm
     have:=(aEF _ _ (fM _) hm).1;simp only[pC,h3a];rw[gM h0];simp;omega
   ·exact absurd rfl h
  ·refine⟨ha,?_⟩;simp
 ·refine⟨hb,?_⟩;unfold cN at h1;cases h4:a.1==4 <;> simp only[h4,aA,aB] at h1
  ·cases h33:a.1==3&&b.1==3 <;> simp only[h33,aA,aB] at h1
   ·simp only[aC,hC] at h1;exact .inl h1.1.symm
   ·simp only[aC,hC] at h33;unfold dL at h1;simp only[aC,aO,vC] at h1;by_cases he:b.2.1=a.2.1
    ·exact .inl (vI (by omega) he)
    ·refine .inr ?_;have:=(aEF _ _ (fM _) h1.2.2.2).2 he;simp only[pC,h33.1,h33.2];simpa using this
  ·have ea:a.1=4:=by simpa using h4
   unfold jY at h1;simp only[fS,hC] at h1;have h12:pC l a=12:=by simp[pC,ea]
   rcases h1 with h2 | h3 | h4'
   ·right;rw[h12];simp[pC,h2]
   ·right;rw[h12];have:=aB8 hl b.2.1;simp only[pC,h3];simp;omega
   ·exact .inl (vI (by omega) (by rw[hb h4',ha ea]))
def qJ (l:List Cl) (s:List Tp):Nat:=bK (s.map (pC l))
theorem aW4 {l:List Cl} (hl:l.length≤8) (t:Tp):pC l t≤12:=by
 unfold pC;split
 ·omega
 ·split
  ·exact pI (aB8 hl _) (by omega)
  ·omega
theorem aMS {l:List Cl} (hl:l.length≤8):∀s:List Tp,qJ l s≤12*s.length
 | []=>by simp[qJ,bK]
 | t::s=>by
  have:=aMS hl s;have:=aW4 hl t;unfold qJ at*
  simp only[dM,bK,aJ];omega
theorem aLP {l:List Cl} (hl:l.length≤8):∀(a s:List Tp),a.length=s.length→(∀t∈a,okT t)→(∀t∈s,okT t)→(∀t∈bY l a s,t.1≠0)→
  (∀t∈bY l a s,okT t)∧qJ l (bY l a s)≤qJ l a∧(bY l a s≠a→qJ l (bY l a s)<qJ l a)
 | [],[],_,_,_,_=>⟨fun _ h=>(by cases h),bL _,fun h=>absurd rfl h⟩
 | [],_::_,h,_,_,_=>by cases h
 | _::_,[],h,_,_,_=>by cases h
 | x::a,y::s,h,ha,hs,hz=>by
  have hm:bY l (x::a) (y::s)=gD l x y::bY l a s:=rfl;rw[hm] at hz⊢;obtain⟨i1,i2,i3⟩:=aLP hl a s (by simpa using h) (fun t ht=>ha t (bW _ ht)) (fun t ht=>hs t (bW _ ht)) (fun t ht=>hz t (bW _ ht));obtain⟨j1,j2⟩:=aVE hl (ha x (cF ..)) (hs y (cF ..)) (hz _ (cF ..));refine⟨fun t ht=>?_,?_,fun hne=>?_⟩
  ·rcases cB.1 ht with rfl | ht
   ·exact j1
   ·exact i1 t ht
  ·unfold qJ at*
   simp only[dM,bK];rcases j2 with j2 | j2
   ·rw[j2];omega
   ·omega
  ·unfold qJ at*
   simp only[dM,bK];rcases j2 with j2 | j2
   ·rw[j2] at hne⊢;have:=i3 fun he=>hne (by rw[he]);omega
   ·omega
def pU (l:List Cl) (s:Sh):Nat:=if s.1 then qJ l s.2.1 else 97
structure aCm (s:Sh):Prop where
 len:s.2.1.length≤8
 ok:∀t∈s.2.1,okT t
theorem aUZ {l:List Cl} (hl:l.length≤8) {o:Sh} (ho:aCm o) {s:List Tp} (hs8:s.length≤8) (hs:∀t∈s,okT t):
  ((cQ l o s).2.2.1=true→(cQ l o s).2.1=true→aCm (cQ l o s).1∧pU l (cQ l o s).1<pU l o):=by
 unfold cQ;cases h1:o.1 <;> simp only[aV,bU,aA,aB]
 ·intro _ _;refine⟨⟨hs8,hs⟩,?_⟩;have:=aMS hl s;simp only[pU,h1];simp;omega
 ·cases h2:decide (o.2.1.length≠s.length) <;> simp only[aA,aB]
  ·have hlen:o.2.1.length=s.length:=by simpa using h2
   cases h3:(bY l o.2.1 s).any fun t=>t.1==0 <;> simp only[aA,aB]
   ·intro _ h4;have hz:∀t∈bY l o.2.1 s,t.1≠0:=fun t ht h0=>by
     have:((bY l o.2.1 s).any fun t=>t.1==0)=true:=gP.2 ⟨t,ht,by simp[h0]⟩;rw[h3] at this;cases this
    obtain⟨i1,-,i3⟩:=aLP hl o.2.1 s hlen ho.ok hs hz;refine⟨⟨by rw[wG l hlen];exact hs8,i1⟩,?_⟩;simp only[pU,h1,dA];exact i3 fun he=>by rw[he] at h4;simp at h4
   ·intro h _;cases h
  ·intro h _;cases h
theorem vK {α:Type} (g:α→Nat) (z:α):∀(l:List α) (k:Nat) (y:α),k<l.length→bK ((l.set k y).map g)+g (l.getD k z)=bK (l.map g)+g y
 | [],_,_,h=>by simp at h
 | x::l,0,y,_=>by simp[bK];omega
 | x::l,k+1,y,h=>by
  have:=vK g z l k y (by simpa using h);simp only[List.set_cons_succ,dM,bK,List.getD_cons_succ] at this⊢;omega
def b2n (b:Bool):Nat:=if b then 1 else 0
def mu (l:List Cl) (h:List Sh) (q:List Bool):Nat:=bK (h.map (pU l))+bK (q.map b2n)
structure aCn (N:Nat) (h:List Sh) (q:List Bool):Prop where
 hl:h.length=N
 ql:q.length=N
 ok:∀s∈h,aCm s
theorem aGl {l:List Cl} (hl:l.length≤8) {N:Nat} {a:List Tp} (ha8:a.length≤8) (ha:∀t∈a,okT t):∀(ts:List Int) (h:List Sh) (q:List Bool),aCn N h q→(∀to∈ts,0≤to∧to<(N:Int))→
  aCn N (fK l a ts h q).2.1 (fK l a ts h q).2.2.1∧mu l (fK l a ts h q).2.1 (fK l a ts h q).2.2.1≤mu l h q
 | [],h,q,hg,_=>⟨hg,bL _⟩
 | to::ts,h,q,hg,ht=>by
  unfold fK;obtain⟨t0,t1⟩:=ht to (cF ..);have hk:to.toNat<h.length:=by rw[hg.hl];omega
  have hkq:to.toNat<q.length:=by rw[hg.ql];omega
  have hgo:aCm (h.getD to.toNat zSh):=by rw[getD_some (aX hk)];exact hg.ok _ (dT hk)
  have hup:=aUZ hl hgo ha8 ha;generalize cQ l (h.getD to.toNat zSh) a=r at hup;cases h1:r.2.2.1 <;> simp only[aV,bU,aA,aB]
  ·exact⟨hg,bL _⟩
  ·cases h2:r.2.1 <;> simp only[aA,aB]
   ·exact aGl hl ha8 ha ts h q hg fun x hx=>ht x (bW _ hx)
   ·obtain⟨g1,g2⟩:=hup h1 h2;have hg':aCn N (h.set to.toNat r.1) (q.set to.toNat true):=⟨by rw[dB,hg.hl],by rw[dB,hg.ql],fun s hs=>by
     rcases sY hs with hs | rfl
     ·exact hg.ok s hs
     ·exact g1⟩
    obtain⟨i1,i2⟩:=aGl hl ha8 ha ts _ _ hg' fun x hx=>ht x (bW _ hx);refine⟨i1,pI i2 ?_⟩;unfold mu;have e1:=vK (pU l) zSh h to.toNat r.1 hk;have e2:=vK b2n false q to.toNat true hkq;have e3:b2n true=1:=rfl;omega
theorem aHo {t:Tp} {n:Int} (h:fE t n=true):okT t:=by
 intro h4;unfold fE at h;rw[h4] at h;simp at h
theorem aHl {m:Im} {l:List Tp} (h:eC m l=true) (k:Nat):okT (l.getD k zTp):=by
 by_cases hk:k<l.length
 ·rw[getD_some (aX hk)];exact aHo (bT.1 h _ (dT hk))
 ·rw[iL (by omega)];intro h4;cases h4
theorem aVl {m:Im} (hs:aM m=true) {f:Int} (hf:inM m f=true) (n:Int):okT (oV (aE m f) n):=by
 have h:=tP hs hf;simp only[fD,aC] at h;unfold oV;cases decide (n<0) <;> simp only[aA,aB]
 ·rw[aEf];split
  ·exact aHl h.1 _
  ·exact aHl h.2.1 _
 ·intro h4;cases h4
theorem aSz {m:Im} (hs:aM m=true) {f:Int} (hf:inM m f=true):okT (aE m f).2.2.1:=by
 have h:=tP hs hf;simp only[fD,aC,fS] at h;rcases h.2.2.1 with h | h
 ·intro h4;have:(aE m f).2.2.1=(5,0,()):=by simpa using h
  rw[this] at h4;cases h4
 ·exact aHo h
theorem aNz {m:Im} (hs:aM m=true) (c:Int) (hc:sin c (m.1.length:Int)=true):eC m (bF m c).2.1=true:=by
 simp only[sin,aC,aO] at hc;have:=sU (yH hs) hc.1 hc.2;simp only[eN,aC] at this;exact this.2.1
theorem aX0 {m:Im} (hs:aM m=true) (c:Int) (k:Nat):okT ((eL m c).getD k zTp):=by
 have key:∀t∈eL m c,okT t:=by
  intro t ht;unfold eL at ht;simp only[iY,gE,List.mem_reverse] at ht;obtain⟨x,⟨s,hsm,rfl⟩,ht⟩:=ht;have hin:sin s (m.1.length:Int)=true:=by
   unfold cP at hsm;cases hd:decide (c<(m.1.length:Int)) <;> simp only[hd,aA,aB] at hsm
   ·cases hsm
   ·have:=qV _ _ (fM _) hsm;have hd:c<(m.1.length:Int):=by simpa using hd
    simp only[sin,aC,aO];omega
  exact aHo (bT.1 (aNz hs s hin) t ht)
 by_cases hk:k<(eL m c).length
 ·rw[getD_some (aX hk)];exact key _ (dT hk)
 ·rw[iL (by omega)];intro h4;cases h4
def jO (e:Eff):Prop:=∀t∈e.2.1,okT t
theorem nO {a:List Tp}:jO (a,[],()):=fun _ h=>by cases h
theorem lG {a:List Tp} {t:Tp} (h:okT t):jO (a,[t],()):=fun _ hx=>by rw[fI] at hx;subst hx;exact h
theorem aBw {k n:Int} (h:k≠4∨n=0):okT (k,n,()):=fun h4=>by
 rcases h with h | h
 ·exact absurd h4 h
 ·exact h
theorem aLp {m:Im} (hs:aM m=true) {g:Int} (hg:inM m g=true) (t:List Tp):jO (mU (aE m g) t):=by
 unfold mU;cases (aE m g).2.2.1.1 !=5 <;> simp only[aA,aB]
 ·exact nO
 ·exact lG (aSz hs hg)
theorem aUc (o:Int):jO (fO o).1:=by
 unfold fO;have h1:okT tI:=aBw (.inr rfl);have h2:okT tA:=aBw (.inr rfl);have h3:okT tN:=aBw (.inr rfl);refine dE (P:=fun z:Eff×Bool×Unit=>jO z.1) (lG h3) ?_;refine dE (P:=fun z:Eff×Bool×Unit=>jO z.1) nO ?_;refine dE (P:=fun z:Eff×Bool×Unit=>jO z.1) (lG h1) ?_;refine dE (P:=fun z:Eff×Bool×Unit=>jO z.1) (lG h1) ?_;refine dE (P:=fun z:Eff×Bool×Unit=>jO z.1) (lG h1) ?_;refine dE (P:=fun z:Eff×Bool×Unit=>jO z.1) nO ?_;refine dE (P:=fun z:Eff×Bool×Unit=>jO z.1) (lG h1) ?_;refine dE (P:=fun z:Eff×Bool×Unit=>jO z.1) (lG h1) ?_;refine dE (P:=fun z:Eff×Bool×Unit=>jO z.1) nO ?_;refine dE (P:=fun z:Eff×Bool×Unit=>jO z.1) nO ?_;refine dE (P:=fun z:Eff×Bool×Unit=>jO z.1) (lG h2) ?_;exact dE (P:=fun z:Eff×Bool×Unit=>jO z.1) (lG h1) nO
theorem aUd {m:Im} (hs:aM m=true) {i:Ins} {f:Int} (hf:inM m f=true) (hi:cL m (aE m f) i=true):jO (gL m (aE m f) i):=by
 have hcl:=yH hs;unfold gL;rcases i with⟨o,a,b,⟨⟩⟩
 refine dE (aUc _) ?_;refine dE (lG (aVl hs hf _)) (dE nO (dE (lG (aBw (.inl (by decide)))) (dE (lG (aX0 hs _ _)) (dE nO (dE (lG (aHl (aJF hs) _)) (dE nO ?_))))));cases e:o==31
 case true=>
  obtain rfl:o=31:=by simpa using e
  have:sin a (m.2.2.2.1.length:Int)=true:=by simpa[cL] using hi
  exact aLp hs this _
 simp only[aB];cases e:o==32
 case true=>
  obtain rfl:o=32:=by simpa using e
  have:sin a (m.1.length:Int)=true∧sin b ((bF m a).2.2.1.length:Int)=true:=by simpa[cL] using hi
  have hsl:jH m a b=true:=by unfold jH;unfold sin at this;rw[this.1,this.2];rfl
  have h1:=aA3 hsl;simp only[sin,aC,aO] at this;obtain⟨h2,h3⟩:=vN (sU hcl this.1.1 this.1.2) h1;exact aLp hs (bR.2 h2) _
 simp only[aB];exact dE (lG (aBw (.inl (by decide)))) (dE (dE nO nO) nO)
theorem aP8 {m:Im} (hs:aM m=true) {f pc:Int} {s:List Tp} (hok:∀t∈s,okT t):∀t∈(aW m f pc s).1,okT t:=by
 unfold aW;cases hf:inM m f
 ·intro t ht;simp at ht
 cases hp:sin pc (aI m f:Int)
 ·intro t ht;simp at ht
 simp only[aG,aV,aB];cases (eV (aN m f pc) pc).contains (aI m f:Int)
 case true=>intro t ht;simp at ht
 simp only[aB];cases h6:(aN m f pc).1==6 <;> simp only[aA,aB]
 ·have ho:=aUd hs hf (vR hs hf hp);unfold pQ;generalize gL m (aE m f) (aN m f pc)=E at ho⊢;cases decide (s.length<E.1.length) || decide (s.length - E.1.length+E.2.1.length>8) <;> simp only[aA,aB]
  ·cases ((s.drop (s.length - E.1.length)).zip E.1).all fun p=>eX m (aN m f pc).1 p.1 p.2 <;> simp only[aA,aB]
   ·intro t ht;cases ht
   ·intro t ht;rcases dF.1 ht with ht | ht
    ·exact hok t (aPs ht)
    ·exact ho t ht
  ·intro t ht;cases ht
 ·cases decide (s.length=0) || decide (s.length≥8) <;> simp only[aA,aB]
  ·intro t ht;rcases dF.1 ht with ht | ht
   ·exact hok t ht
   ·exact hok t (List.mem_of_mem_drop ht)
  ·intro t ht;cases ht
structure aAL (N:Nat) (h:List Sh):Prop where
 len:h.length≤N
 ok:∀s∈h,s.2.1.length≤8
theorem aNu {q:List Bool} (h:q.any id=true):q.findIdx id<q.length:=List.findIdx_lt_length_of_exists (by
 obtain⟨x,hx,h⟩:=gP.1 h;exact⟨x,hx,h⟩)
theorem aIz {m:Im} (hs:aM m=true) {f:Int} (hf:inM m f=true):∀(n:Nat) (h:List Sh) (q:List Bool),aCn (aI m f) h q→mu m.1 h q<n→∃r,mZ m f n h q=some r∧aAL (aI m f) r.1
 | 0,_,_,_,hm=>by omega
 | n+1,h,q,hg,hm=>by
  have hl:=(cH (cX hs).1).classes;unfold mZ;cases ha:q.any id <;> simp only[aA,aB]
  ·exact⟨_,rfl,by rw[hg.hl];exact bL _,fun s hs=>(hg.ok s hs).len⟩
  ·have hk:=aNu ha;generalize hpc:q.findIdx id=pc at hk;have htrue:q.getD pc false=true:=by
    subst hpc;have:=List.findIdx_getElem (p:=id) (xs:=q) (w:=hk);rw[getD_some (aX hk)];exact this
   have hpcN:pc<aI m f:=by rw[←hg.ql];exact hk
   have hkh:pc<h.length:=by rw[hg.hl];exact hpcN
   have hg1:aCn (aI m f) h (q.set pc false):=⟨hg.hl,by rw[dB,hg.ql],hg.ok⟩;have hone:rU m f (pc:Int) h (q.set pc false)=true:=OneP.to ⟨hs,hf,by simp only[sin,aC,aO];omega,hg1.hl,hg1.ql,fun s hs=>gB (by have:=(hg.ok s hs).len;omega)⟩;have hmu:mu m.1 h (q.set pc false)+1=mu m.1 h q:=by
    unfold mu;have:=vK b2n false q pc false hk;rw[htrue] at this;have e0:b2n false=0:=rfl;have e1:b2n true=1:=rfl;omega
   unfold nD;rw[hone];simp only[aA,aF];have hgs:aCm (h.getD pc zSh):=by rw[getD_some (aX hkh)];exact hg.ok _ (dT hkh)
   cases hr:(jQ m f (pc:Int) h (q.set pc false)).1 <;> simp only[aV,bU,aA,aB]
   ·exact⟨_,rfl,dY _,fun s hs=>by cases hs⟩
   ·unfold jQ at hr⊢;rw[aL] at hr⊢;cases he:(aW m f (pc:Int) (h.getD pc zSh).2.1).2.2.1 !=0 <;> simp only[he,aA,aB] at hr⊢
    ·obtain⟨-,-,h8,hto⟩:=oI hs (f:=f) (pc:=(pc:Int)) (s:=(h.getD pc zSh).2.1) (by simpa using he);obtain⟨i1,i2⟩:=aGl hl (N:=aI m f) h8 (aP8 hs hgs.ok) (aW m f (pc:Int) (h.getD pc zSh).2.1).2.1 h (q.set pc false) hg1 hto;exact aIz hs hf n _ _ i1 (by omega)
    ·cases hr
theorem aIJ {m:Im} (hs:aM m=true) {f:Int} (hf:inM m f=true):∃r,nE m f=some r∧aAL (aI m f) r.1:=by
 unfold nE;rw[hs,hf];simp only[aG,aA];have hc:=gR hs hf;refine aIz hs hf _ _ _ ⟨by simp,by simp,fun s hs'=>?_⟩ ?_
 ·rcases sY hs' with h | rfl
  ·rw[vB] at h;rw[h.2];exact⟨dY _,fun _ h=>by cases h⟩
  ·exact⟨dY _,fun _ h=>by cases h⟩
 ·unfold mu;have e1:=vK (pU m.1) zSh (List.replicate (aI m f) zSh) 0 (true,[],()) (by simp;omega);have e2:=vK b2n false (List.replicate (aI m f) false) 0 true (by simp;omega);have s1:∀n:Nat,bK ((List.replicate n zSh).map (pU m.1))=97*n:=by
   intro n
   induction n with
   | zero=>rfl
   | succ n ih=>rw[List.replicate_succ,dM,bK,ih];simp[pU];omega
  have s2:∀n:Nat,bK ((List.replicate n false).map b2n)=0:=by
   intro n
   induction n with
   | zero=>rfl
   | succ n ih=>rw[List.replicate_succ,dM,bK,ih];rfl
  rw[s1] at e1;rw[s2] at e2;have r1:pU m.1 (true,[],())=0:=rfl;have r2:b2n true=1:=rfl;omega
theorem aOH {m:Im} (hs:aM m=true):∀(l:List Int) (out:List (List Sh)),(∀f∈l,inM m f=true)→(∀h∈out,aAL 64 h)→∃r,qU m l out=some r∧(∀h∈r.1,aAL 64 h)∧(r.2.2.2.1=0→r.1.length=out.length+l.length)∧(r.2.2.2.1≠0→r.1=[])
 | [],out,_,ho=>⟨_,rfl,ho,fun _=>rfl,fun h=>absurd rfl h⟩
 | f::l,out,hl,ho=>by
  have hf:=hl f (cF ..);obtain⟨r,hr,hg⟩:=aIJ hs hf;have hc:=gR hs hf;unfold qU;rw[hr];simp only[aF];cases he:r.2.2.1 !=0 <;> simp only[aA,aB]
  ·obtain⟨r',h1,h2,h3,h4⟩:=aOH hs l (out++[r.1]) (fun x hx=>hl x (bW _ hx)) (fun h hh=>by
    rcases dF.1 hh with hh | hh
    ·exact ho h hh
    ·rw[fI] at hh;subst hh;exact⟨by have:=hg.len;omega,hg.ok⟩)
   exact⟨r',h1,h2,fun h0=>by rw[h3 h0];simp;omega,h4⟩
  ·have:r.2.2.1≠0:=by simpa using he
   exact⟨_,rfl,fun h hh=>(by cases hh),fun h0=>absurd h0 this,fun _=>rfl⟩
theorem aUo {l:List (List Sh)} (hl:l.length≤12) (h:∀x∈l,aAL 64 x):dK l=true:=by
 simp only[dK,aC,bT];refine⟨gB (by omega),fun x hx=>?_⟩;have:=h x hx;exact⟨gB (by have:=this.len;omega),fun s hs=>gB (by have:=this.ok s hs;omega)⟩
theorem aPY {m:Im} (hs:aM m=true):∃r,nF m=some r∧dK r.1=true∧(r.2.2.2.1=0→r.1.length=m.2.2.2.1.length):=by
 have h12:=(cH (cX hs).1).methods;unfold nF;rw[hs];simp only[aA];obtain⟨r,h1,h2,h3,h4⟩:=aOH hs (ints m.2.2.2.1.length) [] (fun f hf=>bR.2 (gH.1 hf)) (fun _ h=>by cases h);have hn:r.2.2.2.1=0→r.1.length=m.2.2.2.1.length:=fun h0=>by rw[h3 h0,hY];simp
 refine⟨r,h1,aUo ?_ h2,hn⟩;by_cases h0:r.2.2.2.1=0
 ·rw[hn h0];exact h12
 ·rw[h4 h0];exact dY _
end Go.Pli

namespace Go.Pli
open Go Go.PM
def gT (n:Int) (t:Tp):Prop:=fE t n=true∨t=(4,0,())
theorem wS {n:Int} {t:Tp} (h:gT n t):(t.1=1∧t.2.1=0)∨(t.1=2∧t.2.1=0)∨(t.1=3∧0≤t.2.1∧t.2.1<n)∨(t.1=4∧t.2.1=0):=by
 rcases h with h | rfl
 ·unfold fE at h;cases h1:t.1==1
  ·cases h2:t.1==2
   ·rw[h1,h2] at h;simp only[Bool.or_self,aB,aC,hC,aO] at h;exact .inr (.inr (.inl ⟨h.1,h.2.1,h.2.2⟩))
   ·rw[h2,Bool.or_true] at h;exact .inr (.inl ⟨by simpa using h2,by simpa using h⟩)
  ·rw[h1,vD] at h;exact .inl ⟨by simpa using h1,by simpa using h⟩
 ·exact .inr (.inr (.inr ⟨rfl,rfl⟩))
theorem aNb {n:Int} {t:Tp} (h:gT n t):t.1≠0:=by rcases wS h with h | h | h | h <;> omega
theorem aEg {n:Int} {t:Tp} (h:gT n t):okT t:=fun h4=>by rcases wS h with h | h | h | h <;> omega
theorem aOJ {l:List Cl} {b c:Int}:∀(n:Nat) (a:Int),a.toNat<n→b∈cI l a→c∈cI l b→c∈cI l a
 | 0,_,h,_,_=>by omega
 | n+1,a,h,hb,hc=>by
  by_cases h0:a<0
  ·rw[fG h0] at hb;cases hb
  have hk:=mK (l:=l) (c:=a) (by omega);rw[gM (by omega)] at hb⊢;rcases cB.1 hb with rfl | hb
  ·rwa [gM (by omega)] at hc
  ·by_cases h2:kup l a<0
   ·rw[fG h2] at hb;cases hb
   ·exact bW _ (aOJ n (kup l a) (by omega) hb hc)
theorem aZU {l:List Cl} {a:Int} (h:0≤a):a∈cI l a:=by rw[gM h];exact cF ..
theorem qX {l:List Cl} {a b:Int}:dL l a b=true↔0≤b∧b<(l.length:Int)∧a<(l.length:Int)∧b∈cI l a:=by
 unfold dL;simp only[aC,aO,vC]
theorem bAf {l:List Cl} {a b c:Int} (h1:dL l a b=true) (h2:dL l b c=true):dL l a c=true:=by
 rw[qX] at*
 exact⟨h2.1,h2.2.1,h1.2.2.1,aOJ _ _ (fM _) h1.2.2.2 h2.2.2.2⟩
theorem kI {l:List Cl} {a b:Tp}:cN l a b=true↔(a.1=4∧jY b=true)∨(a.1=3∧b.1=3∧dL l a.2.1 b.2.1=true)∨(a=b∧(a.1=1∨a.1=2)):=by
 unfold cN;cases h4:a.1==4
 ·have n4:a.1≠4:=by simpa using h4
  cases h33:a.1==3&&b.1==3 <;> simp only[aA,aB]
  ·simp only[aC,fS,hC];constructor
   ·exact fun h=> .inr (.inr h)
   ·rintro (h | h | h)
    ·exact absurd h.1 n4
    ·simp[h.1,h.2.1] at h33
    ·exact h
  ·simp only[aC,hC] at h33;constructor
   ·exact fun h=> .inr (.inl ⟨h33.1,h33.2,h⟩)
   ·rintro (h | h | h)
    ·exact absurd h.1 n4
    ·exact h.2.2
    ·omega
 ·have e4:a.1=4:=by simpa using h4
  simp only[aA];constructor
  ·exact fun h=> .inl ⟨e4,h⟩
  ·rintro (h | h | h)
   ·exact h.2
   ·omega
   ·omega
theorem aAb {t:Tp}:jY t=true↔t.1=2∨t.1=3∨t.1=4:=by
 unfold jY;simp only[fS,hC]
theorem aFp {l:List Cl} {a:Tp} (h:gT (l.length:Int) a):cN l a a=true:=by
 rw[kI];rcases wS h with h | h | h | h
 ·exact .inr (.inr ⟨rfl,.inl h.1⟩)
 ·exact .inr (.inr ⟨rfl,.inr h.1⟩)
 ·exact .inr (.inl ⟨h.1,h.1,qX.2 ⟨h.2.1,h.2.2,h.2.2,aZU h.2.1⟩⟩)
 ·exact .inl ⟨h.1,aAb.2 (.inr (.inr h.1))⟩
theorem aI5 {l:List Cl} {a b c:Tp} (h1:cN l a b=true) (h2:cN l b c=true):cN l a c=true:=by
 rw[kI] at*
 rcases h1 with⟨a4,hb⟩ | ⟨a3,b3,hab⟩ | ⟨rfl,ha⟩
 ·refine .inl ⟨a4,?_⟩;rcases h2 with⟨_,hc⟩ | ⟨_,c3,_⟩ | ⟨rfl,_⟩
  ·exact hc
  ·exact aAb.2 (.inr (.inl c3))
  ·exact hb
 ·rcases h2 with⟨b4,_⟩ | ⟨_,c3,hbc⟩ | ⟨rfl,hb⟩
  ·omega
  ·exact .inr (.inl ⟨a3,c3,bAf hab hbc⟩)
  ·omega
 ·exact h2
theorem aP4 {l:List Cl} {a b:Tp} (ga:gT (l.length:Int) a) (gb:gT (l.length:Int) b) (h1:cN l a b=true) (h2:cN l b a=true):a=b:=by
 rw[kI] at*
 rcases h1 with⟨a4,hb⟩ | ⟨a3,b3,hab⟩ | ⟨h,_⟩
 ·rcases h2 with⟨b4,_⟩ | ⟨_,a3,_⟩ | ⟨h,_⟩
  ·have e1:=aEg ga a4;have e2:=aEg gb b4;exact vI (by omega) (by omega)
  ·omega
  ·exact h.symm
 ·rcases h2 with⟨b4,_⟩ | ⟨_,_,hba⟩ | ⟨h,_⟩
  ·omega
  ·have i1:=(qV _ _ (fM _) (qX.1 hab).2.2.2).2;have i2:=(qV _ _ (fM _) (qX.1 hba).2.2.2).2;exact vI (by omega) (by omega)
  ·exact h.symm
 ·exact h
theorem aNv {l:List Cl} {p:Int→Bool} {x c:Int}:∀(n:Nat) (d:Int),d.toNat<n→(cI l d).find? p=some x→c∈cI l d→p c=true→c∈cI l x
 | 0,_,h,_,_,_=>by omega
 | n+1,d,h,hf,hc,hp=>by
  by_cases h0:d<0
  ·rw[fG h0] at hc;cases hc
  have hk:=mK (l:=l) (c:=d) (by omega);rw[gM (by omega),xO] at hf;cases hpd:p d
  ·rw[hpd] at hf;rw[gM (by omega)] at hc;rcases cB.1 hc with rfl | hc
   ·rw[hpd] at hp;cases hp
   ·by_cases h2:kup l d<0
    ·rw[fG h2] at hc;cases hc
    ·exact aNv n (kup l d) (by omega) hf hc hp
  ·rw[hpd] at hf;injection hf with hf
   subst hf;exact hc
theorem aVF {l:List Cl} {a b:Tp} (ga:gT (l.length:Int) a) (gb:gT (l.length:Int) b) (h:(gD l a b).1≠0):cN l a (gD l a b)=true∧cN l b (gD l a b)=true∧gT (l.length:Int) (gD l a b):=by
 unfold gD at h⊢;cases h1:cN l a b <;> simp only[h1,aA,aB] at h⊢
 ·cases h2:cN l b a <;> simp only[h2,aA,aB] at h⊢
  ·cases h3:a.1 !=3 || b.1 !=3 <;> simp only[h3,aA,aB] at h⊢
   ·have h3a:a.1=3:=by simpa using (Bool.or_eq_false_iff.1 h3).1
    have h3b:b.1=3:=by simpa using (Bool.or_eq_false_iff.1 h3).2
    cases hf:(cI l (kup l a.2.1)).find? fun c=>dL l b.2.1 c with
    | none=>rw[hf] at h;exact absurd rfl h
    | some c=>
     have hm:=List.mem_of_find?_eq_some hf;have hb:dL l b.2.1 c=true:=by simpa using List.find?_some hf
     have hb':=qX.1 hb;have ga':0≤a.2.1∧a.2.1<(l.length:Int):=by rcases wS ga with h | h | h | h <;> omega
     have hca:c∈cI l a.2.1:=by rw[gM ga'.1];exact bW _ hm
     refine⟨kI.2 (.inr (.inl ⟨h3a,rfl,qX.2 ⟨hb'.1,hb'.2.1,ga'.2,hca⟩⟩)),kI.2 (.inr (.inl ⟨h3b,rfl,hb⟩)),.inl ?_⟩;simp only[fE];rw[aH hb'.1,aH hb'.2.1];rfl
   ·exact absurd rfl h
  ·exact⟨aFp ga,trivial,ga⟩
 ·exact⟨trivial,aFp gb,gb⟩
theorem aVH {l:List Cl} {a b c:Tp} (ga:gT (l.length:Int) a) (gb:gT (l.length:Int) b) (gc:gT (l.length:Int) c) (hac:cN l a c=true) (hbc:cN l b c=true):(gD l a b).1≠0∧cN l (gD l a b) c=true:=by
 unfold gD;cases h1:cN l a b <;> simp only[aA,aB]
 ·cases h2:cN l b a <;> simp only[aA,aB]
  ·have n1:¬cN l a b=true:=by rw[h1];exact Bool.false_ne_true
   have n2:¬cN l b a=true:=by rw[h2];exact Bool.false_ne_true
   have h33:a.1=3∧b.1=3:=by
    have ka:=wS ga;have kb:=wS gb;rcases kI.1 hac with⟨a4,hc⟩ | ⟨a3,c3,_⟩ | ⟨e,ha⟩
    ·exfalso;refine n1 (kI.2 (.inl ⟨a4,?_⟩));rw[aAb] at hc⊢;rcases kI.1 hbc with⟨b4,_⟩ | ⟨b3,_⟩ | ⟨e,hb⟩
     ·exact .inr (.inr b4)
     ·exact .inr (.inl b3)
     ·subst e;omega
    ·refine⟨a3,?_⟩;rcases kI.1 hbc with⟨b4,_⟩ | ⟨b3,_⟩ | ⟨e,hb⟩
     ·exact absurd (kI.2 (.inl ⟨b4,aAb.2 (.inr (.inl a3))⟩)) n2
     ·exact b3
     ·subst e;omega
    ·exfalso;subst e;exact n2 hbc
   have h3:(a.1 !=3 || b.1 !=3)=false:=by simp[h33.1,h33.2]
   rw[h3];simp only[aB];have hac':a.1=3∧c.1=3∧dL l a.2.1 c.2.1=true:=by
    rcases kI.1 hac with⟨a4,hc⟩ | h | ⟨e,ha⟩
    ·omega
    ·exact h
    ·omega
   have hbc':dL l b.2.1 c.2.1=true:=by
    rcases kI.1 hbc with⟨a4,hc⟩ | h | ⟨e,ha⟩
    ·omega
    ·exact h.2.2
    ·omega
   have ga':0≤a.2.1∧a.2.1<(l.length:Int):=by rcases wS ga with h | h | h | h <;> omega
   have hc:=qX.1 hac'.2.2;have hne:c.2.1≠a.2.1:=fun e=>n2 (by
    have:c=a:=vI (by omega) e;rw[←this];exact hbc)
   have hcm:c.2.1∈cI l (kup l a.2.1):=by
    have:=hc.2.2.2;rw[gM ga'.1] at this;rcases cB.1 this with h | h
    ·exact absurd h hne
    ·exact h
   cases hf:(cI l (kup l a.2.1)).find? fun c=>dL l b.2.1 c with
   | none=>
    have:=List.find?_eq_none.1 hf _ hcm;exact absurd hbc' this
   | some x=>
    have hx:dL l b.2.1 x=true:=by simpa using List.find?_some hf
    have hx':=qX.1 hx;refine⟨fun h=>by simp at h,kI.2 (.inr (.inl ⟨rfl,hac'.2.1,qX.2 ⟨hc.1,hc.2.1,hx'.2.1,?_⟩⟩))⟩;exact aNv _ _ (fM _) hf hcm hbc'
  ·exact⟨aNb ga,hac⟩
 ·exact⟨aNb gb,hbc⟩
def leS (l:List Cl):List Tp→List Tp→Prop
 | [],[]=>True
 | x::a,y::b=>cN l x y=true∧leS l a b
 | _,_=>False
def gS (n:Int) (s:List Tp):Prop:=∀t∈s,gT n t
theorem iB {n:Int} {t:Tp} {s:List Tp} (h:gS n (t::s)):gT n t∧gS n s:=⟨h t (cF ..),fun x hx=>h x (bW _ hx)⟩
theorem uG {l:List Cl}:∀{a b:List Tp},leS l a b→a.length=b.length
 | [],[],_=>rfl
 | [],_::_,h=>h.elim
 | _::_,[],h=>h.elim
 | _::_,_::_,h=>by simp only[aJ,uG h.2]
theorem aBK {l:List Cl}:∀{a:List Tp},gS (l.length:Int) a→leS l a a
 | [],_=>trivial
 | _::_,h=>⟨aFp (iB h).1,aBK (iB h).2⟩
theorem wK {l:List Cl}:∀{a b c:List Tp},leS l a b→leS l b c→leS l a c
 | [],[],[],_,_=>trivial
 | _::_,_::_,_::_,h1,h2=>⟨aI5 h1.1 h2.1,wK h1.2 h2.2⟩
 | [],[],_::_,_,h=>h.elim
 | [],_::_,_,h,_=>h.elim
 | _::_,[],_,h,_=>h.elim
 | _::_,_::_,[],_,h=>h.elim
theorem aMl {l:List Cl}:∀{a b:List Tp},gS (l.length:Int) a→gS (l.length:Int) b→leS l a b→leS l b a→a=b
 | [],[],_,_,_,_=>rfl
 | _::_,_::_,ga,gb,h1,h2=>by rw[aP4 (iB ga).1 (iB gb).1 h1.1 h2.1,aMl (iB ga).2 (iB gb).2 h1.2 h2.2]
 | [],_::_,_,_,h,_=>h.elim
 | _::_,[],_,_,h,_=>h.elim
theorem aGX {l:List Cl}:∀(n:Nat) {a b:List Tp},leS l a b→leS l (a.drop n) (b.drop n)
 | 0,_,_,h=>h
 | _+1,[],[],h=>h
 | n+1,_::_,_::_,h=>aGX n h.2
 | _+1,[],_::_,h=>h.elim
 | _+1,_::_,[],h=>h.elim
theorem aMk {l:List Cl}:∀(n:Nat) {a b:List Tp},leS l a b→leS l (a.take n) (b.take n)
 | 0,_,_,_=>trivial
 | _+1,[],[],h=>h
 | n+1,_::_,_::_,h=>⟨h.1,aMk n h.2⟩
 | _+1,[],_::_,h=>h.elim
 | _+1,_::_,[],h=>h.elim
theorem aGY {l:List Cl}:∀{a b c d:List Tp},leS l a b→leS l c d→leS l (a++c) (b++d)
 | [],[],_,_,_,h=>h
 | _::_,_::_,_,_,h1,h2=>⟨h1.1,aGY h1.2 h2⟩
 | [],_::_,_,_,h,_=>h.elim
 | _::_,[],_,_,h,_=>h.elim
theorem aLQ {l:List Cl}:∀{a s:List Tp},a.length=s.length→gS (l.length:Int) a→gS (l.length:Int) s→(∀t∈bY l a s,t.1≠0)→leS l a (bY l a s)∧leS l s (bY l a s)∧gS (l.length:Int) (bY l a s)
 | [],[],_,_,_,_=>⟨trivial,trivial,fun _ h=>(by cases h)⟩
 | [],_::_,h,_,_,_=>by cases h
 | _::_,[],h,_,_,_=>by cases h
 | x::a,y::s,h,ga,gs,hz=>by
  have hm:bY l (x::a) (y::s)=gD l x y::bY l a s:=rfl;rw[hm] at hz⊢;obtain⟨i1,i2,i3⟩:=aLQ (l:=l) (a:=a) (s:=s) (by simpa using h) (iB ga).2 (iB gs).2 fun t ht=>hz t (bW _ ht);obtain⟨j1,j2,j3⟩:=aVF (iB ga).1 (iB gs).1 (hz _ (cF ..));exact⟨⟨j1,i1⟩,⟨j2,i2⟩,fun t ht=>by
   rcases cB.1 ht with rfl | ht
   ·exact j3
   ·exact i3 t ht⟩
theorem aLR {l:List Cl}:∀{a s c:List Tp},gS (l.length:Int) a→gS (l.length:Int) s→gS (l.length:Int) c→leS l a c→leS l s c→(∀t∈bY l a s,t.1≠0)∧leS l (bY l a s) c
 | [],[],[],_,_,_,_,_=>⟨fun _ h=>(by cases h),trivial⟩
 | x::a,y::s,z::c,ga,gs,gc,h1,h2=>by
  have hm:bY l (x::a) (y::s)=gD l x y::bY l a s:=rfl;rw[hm];obtain⟨i1,i2⟩:=aLR (iB ga).2 (iB gs).2 (iB gc).2 h1.2 h2.2;obtain⟨j1,j2⟩:=aVH (iB ga).1 (iB gs).1 (iB gc).1 h1.1 h2.1;exact⟨fun t ht=>by
   rcases cB.1 ht with rfl | ht
   ·exact j1
   ·exact i1 t ht,⟨j2,i2⟩⟩
 | [],_,_::_,_,_,_,h,_=>h.elim
 | _::_,_,[],_,_,_,h,_=>h.elim
 | [],_::_,[],_,_,_,_,h=>h.elim
 | _::_,[],_::_,_,_,_,_,h=>h.elim
end Go.Pli

namespace Go.Pli
open Go Go.PM
abbrev nC (m:Im):Int:=(m.1.length:Int)
theorem aHm {m:Im} {l:List Tp} (h:eC m l=true) {k:Nat} (hk:k<l.length):gT (nC m) (l.getD k zTp):=by
 rw[getD_some (aX hk)];exact .inl (bT.1 h _ (dT hk))
theorem aVm {m:Im} (hs:aM m=true) {f:Int} (hf:inM m f=true) {n:Int} (hn:sin n (((aE m f).1.length+(aE m f).2.1.length:Nat):Int)=true):gT (nC m) (oV (aE m f) n):=by
 have h:=tP hs hf;simp only[fD,aC] at h;simp only[sin,aC,aO] at hn;unfold oV;rw[aT (show ¬n<0 by omega),aB,aEf];split
 ·exact aHm h.1 (by assumption)
 ·exact aHm h.2.1 (by omega)
theorem aSA {m:Im} (hs:aM m=true) {f:Int} (hf:inM m f=true) (h5:((aE m f).2.2.1.1 !=5)=true):gT (nC m) (aE m f).2.2.1:=by
 have h:=tP hs hf;simp only[fD,aC,fS] at h;rcases h.2.2.1 with h | h
 ·have:(aE m f).2.2.1=(5,0,()):=by simpa using h
  rw[this] at h5;cases h5
 ·exact .inl h
theorem aX1 {m:Im} (hs:aM m=true) {c:Int} {k:Nat} (hk:k<(eL m c).length):gT (nC m) ((eL m c).getD k zTp):=by
 rw[getD_some (aX hk)];have ht:=dT hk;generalize (eL m c)[k]=t at ht;unfold eL at ht;simp only[iY,gE,List.mem_reverse] at ht;obtain⟨x,⟨s,hsm,rfl⟩,ht⟩:=ht;have hin:sin s (m.1.length:Int)=true:=by
  unfold cP at hsm;cases hd:decide (c<(m.1.length:Int)) <;> simp only[hd,aA,aB] at hsm
  ·cases hsm
  ·have:=qV _ _ (fM _) hsm;have hd:c<(m.1.length:Int):=by simpa using hd
   simp only[sin,aC,aO];omega
 exact .inl (bT.1 (aNz hs s hin) t ht)
theorem aOE {m:Im} {c:Int} (h:sin c (m.1.length:Int)=true):gT (nC m) (tR c):=by
 simp only[sin,aC,aO] at h;refine .inl ?_;simp only[fE,tR];rw[aH h.1,aH h.2];rfl
def uZ (n:Int) (e:Eff):Prop:=gS n e.2.1
theorem oQ {n:Int} {a:List Tp}:uZ n (a,[],()):=fun _ h=>by cases h
theorem lH {n:Int} {a:List Tp} {t:Tp} (h:gT n t):uZ n (a,[t],()):=fun _ hx=>by rw[fI] at hx;subst hx;exact h
theorem aLr {m:Im} (hs:aM m=true) {g:Int} (hg:inM m g=true) (t:List Tp):uZ (nC m) (mU (aE m g) t):=by
 unfold mU;cases h:(aE m g).2.2.1.1 !=5 <;> simp only[aA,aB]
 ·exact oQ
 ·exact lH (aSA hs hg h)
theorem aUf {n:Int} (o:Int):uZ n (fO o).1:=by
 have h1:gT n tI:= .inl rfl;have h2:gT n tA:= .inl rfl;have h3:gT n tN:= .inr rfl;have P:∀{b:Bool} {x y:Eff×Bool×Unit},uZ n x.1→uZ n y.1→uZ n (bif b then x else y).1:=fun {b} {x} {y} h1 h2=>by cases b;exact h2;exact h1
 unfold fO;exact P (lH h3) (P oQ (P (lH h1) (P (lH h1) (P (lH h1) (P oQ (P (lH h1) (P (lH h1) (P oQ (P oQ (P (lH h2) (P (lH h1) oQ)))))))))))
theorem aLq {m:Im} (hs:aM m=true) {i:Ins} {f:Int} (hf:inM m f=true) (hi:cL m (aE m f) i=true):uZ (nC m) (gL m (aE m f) i):=by
 have hcl:=yH hs;rcases i with⟨o,a,b,⟨⟩⟩
 unfold gL;cases hp:(fO o).2.1
 case true=>exact aUf _
 simp only[aB];cases e:o==3
 case true=>
  obtain rfl:o=3:=by simpa using e
  exact lH (aVm hs hf (by simpa[cL] using hi))
 simp only[aB];cases e:o==4
 case true=>exact oQ
 simp only[aB];cases e:o==22
 case true=>
  obtain rfl:o=22:=by simpa using e
  exact lH (aOE (by simpa[cL] using hi))
 simp only[aB];cases e:o==27
 case true=>
  obtain rfl:o=27:=by simpa using e
  have:sin a (m.1.length:Int)=true∧sin b (gZ m a:Int)=true:=by simpa[cL] using hi
  obtain⟨h1,h2⟩:=this;simp only[sin,aC,aO] at h1 h2;rw[←aBW h1.2] at h2;exact lH (aX1 hs (by omega))
 simp only[aB];cases e:o==28
 case true=>exact oQ
 simp only[aB];cases e:o==29
 case true=>
  obtain rfl:o=29:=by simpa using e
  have:sin a (m.2.1.length:Int)=true:=by simpa[cL] using hi
  simp only[sin,aC,aO] at this;exact lH (aHm (aJF hs) (by omega))
 simp only[aB];cases e:o==30
 case true=>exact oQ
 simp only[aB];cases e:o==31
 case true=>
  obtain rfl:o=31:=by simpa using e
  have:sin a (m.2.2.2.1.length:Int)=true:=by simpa[cL] using hi
  exact aLr hs this _
 simp only[aB];cases e:o==32
 case true=>
  obtain rfl:o=32:=by simpa using e
  have:sin a (m.1.length:Int)=true∧sin b ((bF m a).2.2.1.length:Int)=true:=by simpa[cL] using hi
  have hsl:jH m a b=true:=by unfold jH;unfold sin at this;rw[this.1,this.2];rfl
  have h1:=aA3 hsl;simp only[sin,aC,aO] at this;obtain⟨h2,h3⟩:=vN (sU hcl this.1.1 this.1.2) h1;exact aLr hs (bR.2 h2) _
 simp only[aB];cases e:o==34
 case true=>
  obtain rfl:o=34:=by simpa using e
  exact lH (aOE (by simpa[cL] using hi))
 simp only[aB];cases o==33 <;> simp only[aA,aB]
 ·exact oQ
 ·cases (aE m f).2.2.1.1 !=5 <;> exact oQ
theorem aCH {m:Im} (hs:aM m=true) {f pc:Int} {s:List Tp} (hok:gS (nC m) s):gS (nC m) (aW m f pc s).1:=by
 have nil:gS (nC m) []:=fun _ h=>by cases h
 unfold aW;cases hf:inM m f
 ·exact nil
 cases hp:sin pc (aI m f:Int)
 ·exact nil
 simp only[aG,aV,aB];cases (eV (aN m f pc) pc).contains (aI m f:Int)
 case true=>exact nil
 simp only[aB];cases h6:(aN m f pc).1==6 <;> simp only[aA,aB]
 ·have ho:=aLq hs hf (vR hs hf hp);unfold pQ;generalize gL m (aE m f) (aN m f pc)=E at ho⊢;cases decide (s.length<E.1.length) || decide (s.length - E.1.length+E.2.1.length>8) <;> simp only[aA,aB]
  ·cases ((s.drop (s.length - E.1.length)).zip E.1).all fun p=>eX m (aN m f pc).1 p.1 p.2 <;> simp only[aA,aB]
   ·exact nil
   ·intro t ht;rcases dF.1 ht with ht | ht
    ·exact hok t (aPs ht)
    ·exact ho t ht
  ·exact nil
 ·cases decide (s.length=0) || decide (s.length≥8) <;> simp only[aA,aB]
  ·intro t ht;rcases dF.1 ht with ht | ht
   ·exact hok t ht
   ·exact hok t (List.mem_of_mem_drop ht)
  ·exact nil
theorem aXT {m:Im} {o:Int} {a b w:Tp} (h:cN m.1 a b=true) (hb:eX m o b w=true):eX m o a w=true:=by
 unfold eX at hb⊢;cases h0:w.1==0 <;> simp only[h0,aA,aB] at hb⊢;cases h4:w.1==4 <;> simp only[h4,aA,aB] at hb⊢
 ·exact aI5 h hb
 ·simp only[aC,fS,bne_iff_ne] at hb⊢;rcases kI.1 h with⟨a4,_⟩ | ⟨a3,_⟩ | ⟨rfl,_⟩
  ·exact⟨aAb.2 (.inr (.inr a4)),.inr (by omega)⟩
  ·exact⟨aAb.2 (.inr (.inl a3)),.inr (by omega)⟩
  ·exact hb
theorem aPk {m:Im} {o:Int}:∀{a b:List Tp} {w:List Tp},leS m.1 a b→((b.zip w).all fun p=>eX m o p.1 p.2)=true→((a.zip w).all fun p=>eX m o p.1 p.2)=true
 | [],[],_,_,_=>by simp
 | x::a,y::b,[],_,_=>by simp
 | x::a,y::b,w::ws,hle,h=>by
  simp only[List.zip_cons_cons,fA,aC] at h⊢;exact⟨aXT hle.1 h.1,aPk hle.2 h.2⟩
 | [],_::_,_,h,_=>h.elim
 | _::_,[],_,h,_=>h.elim
theorem aJb {m:Im} (hs:aM m=true) {f pc:Int} {s t:List Tp} (hle:leS m.1 s t) (h:(aW m f pc t).2.2.1=0):
  (aW m f pc s).2.2.1=0∧(aW m f pc s).2.1=(aW m f pc t).2.1∧leS m.1 (aW m f pc s).1 (aW m f pc t).1:=by
 have hlen:=uG hle;unfold aW at h⊢;cases hf:inM m f
 ·rw[hf] at h;simp at h
 cases hp:sin pc (aI m f:Int)
 ·rw[hf,hp] at h;simp at h
 simp only[hf,hp,aG,aV,aB] at h⊢;cases hn:(eV (aN m f pc) pc).contains (aI m f:Int)
 case true=>rw[hn] at h;simp at h
 simp only[hn,aB] at h⊢;have hi:=vR hs hf hp;cases h6:(aN m f pc).1==6 <;> simp only[h6,aA,aB] at h⊢
 ·have ho:=aLq hs hf hi;unfold pQ at h⊢;rw[hlen];generalize gL m (aE m f) (aN m f pc)=E at h ho⊢;cases hb:decide (t.length<E.1.length) || decide (t.length - E.1.length+E.2.1.length>8) <;> simp only[hb,aA,aB] at h⊢
  ·cases hz:((t.drop (t.length - E.1.length)).zip E.1).all fun p=>eX m (aN m f pc).1 p.1 p.2 <;> simp only[hz,aA,aB] at h⊢
   ·cases h
   ·rw[aPk (aGX _ hle) hz];exact⟨rfl,rfl,aGY (aMk _ hle) (aBK ho)⟩
  ·cases h
 ·rw[hlen];cases hb:decide (t.length=0) || decide (t.length≥8) <;> simp only[hb,aA,aB] at h⊢
  ·exact⟨trivial,trivial,aGY hle (aGX _ hle)⟩
  ·cases h
structure Gd (m:Im) (N:Nat) (h:List Sh):Prop where
 len:h.length=N
 good:∀s∈h,s.2.1.length≤8∧gS (nC m) s.2.1
 bare:∀s∈h,s.1=false→s=zSh
def sh (h:List Sh) (k:Nat):Sh:=h.getD k zSh
theorem Gd.at' {m:Im} {N:Nat} {h:List Sh} (hg:Gd m N h) (k:Nat):(sh h k).2.1.length≤8∧gS (nC m) (sh h k).2.1:=by
 unfold sh;by_cases hk:k<h.length
 ·rw[getD_some (aX hk)];exact hg.good _ (dT hk)
 ·rw[iL (by omega)];exact⟨dY _,fun _ h=>by cases h⟩
def Bel (m:Im) (h S:List Sh):Prop:=∀k,(sh h k).1=true→(sh S k).1=true∧leS m.1 (sh h k).2.1 (sh S k).2.1
def Cov (m:Im) (f:Int) (h:List Sh) (pc:Nat):Prop:=
 (aW m f (pc:Int) (sh h pc).2.1).2.2.1=0∧∀to∈(aW m f (pc:Int) (sh h pc).2.1).2.1,(sh h to.toNat).1=true∧leS m.1 (aW m f (pc:Int) (sh h pc).2.1).1 (sh h to.toNat).2.1
structure PF (m:Im) (f:Int) (S:List Sh):Prop where
 gd:Gd m (aI m f) S
 start:(sh S 0).1=true∧(sh S 0).2.1=[]
 cov:∀pc,(sh S pc).1=true→Cov m f S pc
theorem aO9 {m:Im} {N:Nat} {h:List Sh} (hg:Gd m N h):Bel m h h:=fun k hk=>⟨hk,aBK (hg.at' k).2⟩
theorem aO7 {m:Im} {a b c:List Sh} (h1:Bel m a b) (h2:Bel m b c):Bel m a c:=fun k hk=>by
 obtain⟨i1,i2⟩:=h1 k hk;obtain⟨j1,j2⟩:=h2 k i1;exact⟨j1,wK i2 j2⟩
theorem aEO {m:Im} {N:Nat} {a b:List Sh} (ga:Gd m N a) (gb:Gd m N b) (h1:Bel m a b) (h2:Bel m b a):a=b:=by
 refine tC (by rw[ga.len,gb.len]) fun k k1 k2=>?_;have e1:sh a k=a[k]:=getD_some (aX k1);have e2:sh b k=b[k]:=getD_some (aX k2);rw[←e1,←e2];have key:∀(x y:Sh),x.1=y.1→x.2.1=y.2.1→x=y:=by
  rintro ⟨x1,x2,⟨⟩⟩ ⟨y1,y2,⟨⟩⟩ h1 h2
  simp only at h1 h2;subst h1 h2;rfl
 cases hs:(sh a k).1
 ·cases hb:(sh b k).1
  ·rw[e1] at hs⊢;rw[e2] at hb⊢;rw[ga.bare _ (dT k1) hs,gb.bare _ (dT k2) hb]
  ·have:=(h2 k hb).1;rw[hs] at this;cases this
 ·obtain⟨i1,i2⟩:=h1 k hs;exact key _ _ (by rw[hs,i1]) (aMl (ga.at' k).2 (gb.at' k).2 i2 (h2 k i1).2)
theorem rM {h:List Sh} {k:Nat} (hk:k<h.length) (s:Sh) (j:Nat):sh (h.set k s) j=if j=k then s else sh h j:=by
 unfold sh;rw[eK,eK,pL];by_cases hj:k=j
 ·subst hj;simp[hk]
 ·have:¬j=k:=fun h=>hj h.symm;simp[hj,this]
theorem aLS {m:Im} {o:Sh} {s:List Tp} (ho:o.2.1.length≤8∧gS (nC m) o.2.1) (hs8:s.length≤8) (hs:gS (nC m) s) (h:(cQ m.1 o s).2.2.1=true):
  ((cQ m.1 o s).1.2.1.length≤8∧gS (nC m) (cQ m.1 o s).1.2.1)∧(cQ m.1 o s).1.1=true∧leS m.1 s (cQ m.1 o s).1.2.1∧(o.1=true→leS m.1 o.2.1 (cQ m.1 o s).1.2.1)∧((cQ m.1 o s).2.1=false→o.1=true∧(cQ m.1 o s).1.2.1=o.2.1):=by
 unfold cQ at h⊢;cases h1:o.1 <;> simp only[h1,aV,bU,aA,aB] at h⊢
 ·exact⟨⟨hs8,hs⟩,trivial,aBK hs,fun h=>(by cases h),fun h=>(by cases h)⟩
 ·cases h2:decide (o.2.1.length≠s.length) <;> simp only[h2,aA,aB] at h⊢
  ·have hlen:o.2.1.length=s.length:=by simpa using h2
   cases h3:(bY m.1 o.2.1 s).any fun t=>t.1==0 <;> simp only[h3,aA,aB] at h⊢
   ·have hz:∀t∈bY m.1 o.2.1 s,t.1≠0:=fun t ht h0=>by
     have:((bY m.1 o.2.1 s).any fun t=>t.1==0)=true:=gP.2 ⟨t,ht,by simp[h0]⟩;rw[h3] at this;cases this
    obtain⟨i1,i2,i3⟩:=aLQ hlen ho.2 hs hz;refine⟨⟨by rw[wG m.1 hlen];exact hs8,i3⟩,trivial,i2,fun _=>i1,fun h=>⟨trivial,by simpa using h⟩⟩
   ·cases h
  ·cases h
theorem aUX {m:Im} {o S:Sh} {s:List Tp} (ho:gS (nC m) o.2.1) (hS:gS (nC m) S.2.1) (hs:gS (nC m) s) (h1:o.1=true→leS m.1 o.2.1 S.2.1) (h2:leS m.1 s S.2.1):
  (cQ m.1 o s).2.2.1=true∧leS m.1 (cQ m.1 o s).1.2.1 S.2.1:=by
 unfold cQ;cases ho1:o.1 <;> simp only[aV,bU,aA,aB]
 ·exact⟨trivial,h2⟩
 ·have hle:=h1 ho1;have hlen:o.2.1.length=s.length:=by rw[uG hle,uG h2]
  have e:decide (o.2.1.length≠s.length)=false:=aT fun h=>h hlen;rw[e];simp only[aB];obtain⟨i1,i2⟩:=aLR ho hs hS hle h2;have h3:((bY m.1 o.2.1 s).any fun t=>t.1==0)=false:=by
   cases hh:(bY m.1 o.2.1 s).any fun t=>t.1==0
   ·rfl
   ·obtain⟨t,ht,h0⟩:=gP.1 hh;exact absurd (by simpa using h0) (i1 t ht)
  rw[h3];exact⟨rfl,i2⟩
end Go.Pli

namespace Go.Pli
open Go Go.PM
theorem aQa {m:Im} (hs:aM m=true) {f pc:Int} {s:List Tp} (h:(aW m f pc s).2.2.1=0):(aW m f pc s).1.length≤s.length+1:=by
 unfold aW at h⊢;cases hf:inM m f
 ·rw[hf] at h;simp at h
 cases hp:sin pc (aI m f:Int)
 ·rw[hf,hp] at h;simp at h
 simp only[hf,hp,aG,aV,aB] at h⊢;cases hn:(eV (aN m f pc) pc).contains (aI m f:Int)
 case true=>rw[hn] at h;simp at h
 simp only[hn,aB] at h⊢;cases h6:(aN m f pc).1==6 <;> simp only[h6,aA,aB] at h⊢
 ·have ho:(gL m (aE m f) (aN m f pc)).2.1.length≤1:=by
   have C:∀(x:Mt) (t:List Tp),(mU x t).2.1.length≤1:=fun x t=>by
    unfold mU;cases x.2.2.1.1 !=5 <;> simp
   have P:∀{b:Bool} {x y:Eff},x.2.1.length≤1→y.2.1.length≤1→(bif b then x else y).2.1.length≤1:=fun {b} {x} {y} h1 h2=>by cases b;exact h2;exact h1
   have Q:∀{b:Bool} {x y:Eff×Bool×Unit},x.1.2.1.length≤1→y.1.2.1.length≤1→(bif b then x else y).1.2.1.length≤1:=fun {b} {x} {y} h1 h2=>by cases b;exact h2;exact h1
   have h1:∀(a:List Tp) (t:Tp),((a,[t],()):Eff).2.1.length≤1:=fun _ _=>bL _;have h0:∀(a:List Tp),((a,[],()):Eff).2.1.length≤1:=fun _=>dY _;have hp:(fO (aN m f pc).1).1.2.1.length≤1:=by
    unfold fO;exact Q (h1 _ _) (Q (h0 _) (Q (h1 _ _) (Q (h1 _ _) (Q (h1 _ _) (Q (h0 _) (Q (h1 _ _) (Q (h1 _ _) (Q (h0 _) (Q (h0 _) (Q (h1 _ _) (Q (h1 _ _) (h0 _))))))))))))
   unfold gL;exact P hp (P (h1 _ _) (P (h0 _) (P (h1 _ _) (P (h1 _ _) (P (h0 _) (P (h1 _ _) (P (h0 _) (P (C _ _) (P (C _ _) (P (h1 _ _) (P (P (h0 _) (h0 _)) (h0 _))))))))))))
  unfold pQ at h⊢;generalize gL m (aE m f) (aN m f pc)=E at h ho⊢;cases hb:decide (s.length<E.1.length) || decide (s.length - E.1.length+E.2.1.length>8) <;> simp only[hb,aA,aB] at h⊢
  ·cases hz:((s.drop (s.length - E.1.length)).zip E.1).all fun p=>eX m (aN m f pc).1 p.1 p.2 <;> simp only[hz,aA,aB] at h⊢
   ·exact dY _
   ·rw[aS,cO];omega
  ·exact dY _
 ·cases hb:decide (s.length=0) || decide (s.length≥8) <;> simp only[hb,aA,aB] at h⊢
  ·rw[aS,fX];omega
  ·exact dY _
theorem aUV {m:Im} {o:Sh} {s:List Tp} (h:(cQ m.1 o s).2.2.1=true) (h':(cQ m.1 o s).2.1=true):(cQ m.1 o s).1≠o:=by
 unfold cQ at h h'⊢;cases h1:o.1 <;> simp only[h1,aV,bU,aA,aB] at h h'⊢
 ·intro e;rw[←e] at h1;cases h1
 ·cases h2:decide (o.2.1.length≠s.length) <;> simp only[h2,aA,aB] at h h'⊢
  ·cases h3:(bY m.1 o.2.1 s).any fun t=>t.1==0 <;> simp only[h3,aA,aB] at h h'⊢
   ·intro e;have e2:bY m.1 o.2.1 s=o.2.1:=dP (fun z:Sh=>z.2.1) e;rw[e2] at h';simp at h'
   ·cases h
  ·cases h
theorem aUY {m:Im} {o:Sh} {s:List Tp} (h:(cQ m.1 o s).2.2.1=true):(cQ m.1 o s).1.2.1.length=s.length:=by
 unfold cQ at h⊢;cases h1:o.1 <;> simp only[h1,aV,bU,aA,aB] at h⊢;cases h2:decide (o.2.1.length≠s.length) <;> simp only[h2,aA,aB] at h⊢
 ·have hlen:o.2.1.length=s.length:=by simpa using h2
  cases h3:(bY m.1 o.2.1 s).any fun t=>t.1==0 <;> simp only[h3,aA,aB] at h⊢
  ·exact wG m.1 hlen
  ·cases h
 ·cases h
structure aIk (m:Im) (N:Nat) (a:List Tp) (ts:List Int) (h:List Sh) (q:List Bool) (r:Bool×List Sh×List Bool×Unit):Prop where
 gd:Gd m N r.2.1
 ql:r.2.2.1.length=N
 bel:Bel m h r.2.1
 tos:∀to∈ts,(sh r.2.1 to.toNat).1=true∧leS m.1 a (sh r.2.1 to.toNat).2.1
 same:∀k,r.2.2.1.getD k false=false→q.getD k false=false∧sh r.2.1 k=sh h k
 new:∀k,(sh r.2.1 k).1=true→(sh h k).1=true∧(sh r.2.1 k).2.1.length=(sh h k).2.1.length∨(sh r.2.1 k).2.1.length=a.length
 pn:∀k,r.2.2.1.getD k false=true→q.getD k false=true∨(sh r.2.1 k).1=true
 any:q.any id=true→r.2.2.1.any id=true
 mov:q.any id=false→r.2.2.1.any id=true→r.2.1≠h
theorem aPe {q:List Bool} {k:Nat} (hk:k<q.length):(q.set k true).any id=true:=gP.2 ⟨true,by
 have:=dT (l:=q.set k true) (n:=k) (by rwa [dB])
 rwa [List.getElem_set_self] at this,rfl⟩
theorem bAh {m:Im} {N:Nat} {h:List Sh} (hg:Gd m N h) {k:Nat} (hk:k<h.length) {s:Sh} (h1:s.1=true) (h2:(sh h k).1=true→leS m.1 (sh h k).2.1 s.2.1):Bel m h (h.set k s):=fun j hj=>by
 rw[rM hk];by_cases e:j=k
 ·rw[if_pos e];subst e;exact⟨h1,h2 hj⟩
 ·rw[if_neg e];exact⟨hj,aBK (hg.at' j).2⟩
theorem aNa {m:Im} {N:Nat} {h:List Sh} (hg:Gd m N h) {k:Nat} {s:Sh} (h1:s.1=true) (h2:s.2.1.length≤8∧gS (nC m) s.2.1):Gd m N (h.set k s):=
 ⟨by rw[dB,hg.len],fun x hx=>by
  rcases sY hx with hx | rfl
  ·exact hg.good x hx
  ·exact h2,fun x hx hf=>by
  rcases sY hx with hx | rfl
  ·exact hg.bare x hx hf
  ·rw[h1] at hf;cases hf⟩
theorem aDB {m:Im} {N:Nat} {a:List Tp} (ha8:a.length≤8) (ha:gS (nC m) a):∀(ts:List Int) (h:List Sh) (q:List Bool),Gd m N h→q.length=N→(∀to∈ts,0≤to∧to<(N:Int))→
  (fK m.1 a ts h q).1=true→aIk m N a ts h q (fK m.1 a ts h q)
 | [],h,q,hg,hq,_,_=>⟨hg,hq,aO9 hg,fun _ h=>(by cases h),fun _ h=>⟨h,rfl⟩,fun _ h=> .inl ⟨h,rfl⟩,fun _ h=> .inl h,fun h=>h,fun h1 h2=>by rw[show (fK m.1 a [] h q).2.2.1=q from rfl,h1] at h2;cases h2⟩
 | to::ts,h,q,hg,hq,ht,hr=>by
  obtain⟨t0,t1⟩:=ht to (cF ..);have hk:to.toNat<h.length:=by rw[hg.len];omega
  have hkq:to.toNat<q.length:=by rw[hq];omega
  have ht':∀x∈ts,0≤x∧x<(N:Int):=fun x hx=>ht x (bW _ hx);unfold fK at hr⊢;have hmf:=aLS (m:=m) (o:=h.getD to.toNat zSh) (hg.at' to.toNat) ha8 ha;have hmm:=aUV (m:=m) (o:=h.getD to.toNat zSh) (s:=a);have hml:=aUY (m:=m) (o:=h.getD to.toNat zSh) (s:=a);generalize hM:cQ m.1 (h.getD to.toNat zSh) a=M at hr hmf hmm hml⊢;cases h1:M.2.2.1 <;> simp only[h1,aV,bU,aA,aB] at hr⊢
  ·cases hr
  obtain⟨m1,m2,m3,m4,m5⟩:=hmf h1;cases h2:M.2.1 <;> simp only[h2,aA,aB] at hr⊢
  ·have I:=aDB ha8 ha ts h q hg hq ht' hr;obtain⟨e1,e2⟩:=m5 h2;refine⟨I.gd,I.ql,I.bel,fun x hx=>?_,I.same,I.new,I.pn,I.any,I.mov⟩;rcases cB.1 hx with rfl | hx
   ·obtain⟨b1,b2⟩:=I.bel x.toNat e1;rw[e2] at m3;exact⟨b1,wK m3 b2⟩
   ·exact I.tos x hx
  ·have hg':=aNa (k:=to.toNat) hg m2 m1;have hb:=bAh hg hk m2 m4;have I:=aDB ha8 ha ts (h.set to.toNat M.1) (q.set to.toNat true) hg' (by rw[dB,hq]) ht' hr;have hne:h.set to.toNat M.1≠h:=fun e=>hmm h1 h2 (by
    have:=dP (fun z=>sh z to.toNat) e;simp only[rM hk] at this;exact this)
   refine⟨I.gd,I.ql,aO7 hb I.bel,fun x hx=>?_,fun k hk0=>?_,fun k hk1=>?_,fun k hk1=>?_,fun _=>I.any (aPe hkq),fun _ _ e=>?_⟩
   ·rcases cB.1 hx with rfl | hx
    ·have e1:sh (h.set x.toNat M.1) x.toNat=M.1:=by rw[rM hk,if_pos rfl]
     obtain⟨b1,b2⟩:=I.bel x.toNat (by rw[e1];exact m2);rw[e1] at b2;exact⟨b1,wK m3 b2⟩
    ·exact I.tos x hx
   ·obtain⟨i1,i2⟩:=I.same k hk0;have hkn:k≠to.toNat:=fun e=>by
     rw[e,eK,xM hkq] at i1;cases i1
    rw[rM hk,if_neg hkn] at i2;rw[eK,tB (fun e=>hkn e.symm),←eK] at i1;exact⟨i1,i2⟩
   ·rcases I.new k hk1 with⟨i1,i2⟩ | i
    ·by_cases e:k=to.toNat
     ·rw[rM hk,if_pos e] at i2;exact .inr (by rw[i2,hml h1])
     ·rw[rM hk,if_neg e] at i1 i2;exact .inl ⟨i1,i2⟩
    ·exact .inr i
   ·rcases I.pn k hk1 with i | i
    ·by_cases e:k=to.toNat
     ·refine .inr (I.bel k ?_).1;rw[rM hk,if_pos e];exact m2
     ·rw[eK,tB (fun e'=>e e'.symm),←eK] at i;exact .inl i
    ·exact .inr i
   ·refine hne (aEO (N:=N) hg' hg ?_ hb);have:=I.bel;rw[e] at this;exact this
theorem aDC {m:Im} {N:Nat} {a:List Tp} {S:List Sh} (hS:Gd m N S) (ha8:a.length≤8) (ha:gS (nC m) a):∀(ts:List Int) (h:List Sh) (q:List Bool),Gd m N h→Bel m h S→(∀to∈ts,(0≤to∧to<(N:Int))∧(sh S to.toNat).1=true∧leS m.1 a (sh S to.toNat).2.1)→
  (fK m.1 a ts h q).1=true∧Bel m (fK m.1 a ts h q).2.1 S
 | [],h,q,hg,hb,_=>⟨rfl,hb⟩
 | to::ts,h,q,hg,hb,ht=>by
  obtain⟨⟨t0,t1⟩,t2,t3⟩:=ht to (cF ..);have hk:to.toNat<h.length:=by rw[hg.len];omega
  have ht':=fun x hx=>ht x (bW _ hx);unfold fK;have hmf:=aLS (m:=m) (o:=h.getD to.toNat zSh) (hg.at' to.toNat) ha8 ha;have hmb:=aUX (m:=m) (o:=h.getD to.toNat zSh) (S:=sh S to.toNat) (hg.at' to.toNat).2 (hS.at' to.toNat).2 ha (fun h1=>(hb to.toNat h1).2) t3;generalize hM:cQ m.1 (h.getD to.toNat zSh) a=M at hmf hmb⊢;obtain⟨b1,b2⟩:=hmb;obtain⟨m1,m2,m3,m4,m5⟩:=hmf b1;rw[b1];simp only[aV,aB];cases h2:M.2.1 <;> simp only[aA,aB]
  ·exact aDC hS ha8 ha ts h q hg hb ht'
  ·refine aDC hS ha8 ha ts _ _ (aNa hg m2 m1) (fun k hk1=>?_) ht';rw[rM hk] at hk1⊢;by_cases e:k=to.toNat
   ·rw[if_pos e] at hk1⊢;subst e;exact⟨t2,b2⟩
   ·rw[if_neg e] at hk1⊢;exact hb k hk1
def DC (h:List Sh):Prop:=∀k,(sh h k).1=true→∀j,j<(sh h k).2.1.length→∃k',(sh h k').1=true∧(sh h k').2.1.length=j
structure WJ (m:Im) (f:Int) (h:List Sh) (q:List Bool):Prop where
 gd:Gd m (aI m f) h
 ql:q.length=aI m f
 start:(sh h 0).1=true∧(sh h 0).2.1=[]
 cov:∀pc,(sh h pc).1=true→q.getD pc false=false→Cov m f h pc
 dc:DC h
 pend:∀pc,q.getD pc false=true→(sh h pc).1=true
theorem aO8 {m:Im} {h h':List Sh} (hb:Bel m h h') (hs:(sh h 0).1=true∧(sh h 0).2.1=[]):(sh h' 0).1=true∧(sh h' 0).2.1=[]:=by
 obtain⟨i1,i2⟩:=hb 0 hs.1;refine⟨i1,?_⟩;have:=uG i2;rw[hs.2] at this;exact List.length_eq_zero_iff.1 this.symm
theorem aYR {m:Im} {f:Int} {h h':List Sh} (hb:Bel m h h') {pc:Nat} (e:sh h' pc=sh h pc) (hc:Cov m f h pc):Cov m f h' pc:=by
 unfold Cov at hc⊢;rw[e];refine⟨hc.1,fun to ht=>?_⟩;obtain⟨i1,i2⟩:=hc.2 to ht;obtain⟨j1,j2⟩:=hb _ i1;exact⟨j1,wK i2 j2⟩
theorem aF6 {q:List Bool} (h:q.any id=true):q.findIdx id<q.length∧q.getD (q.findIdx id) false=true:=by
 have hk:=aNu h;refine⟨hk,?_⟩;have:=List.findIdx_getElem (p:=id) (xs:=q) (w:=hk);rw[getD_some (aX hk)];exact this
theorem aYB {m:Im} {N:Nat} {a:List Tp} {ts:List Int} {h:List Sh} {q:List Bool} {r:Bool×List Sh×List Bool×Unit} (O:aIk m N a ts h q r) (hd:DC h) {pc:Nat} (hp:(sh h pc).1=true) (ha:a.length≤(sh h pc).2.1.length+1):DC r.2.1:=by
 have up:∀j,(∃k',(sh h k').1=true∧(sh h k').2.1.length=j)→∃k',(sh r.2.1 k').1=true∧(sh r.2.1 k').2.1.length=j:=by
  rintro j ⟨k',h1,h2⟩
  obtain⟨b1,b2⟩:=O.bel k' h1;exact⟨k',b1,by rw[←uG b2];exact h2⟩
 intro k hk j hj;rcases O.new k hk with⟨i1,i2⟩ | i
 ·exact up j (hd k i1 j (by omega))
 ·by_cases e:j=(sh h pc).2.1.length
  ·exact up j ⟨pc,hp,e.symm⟩
  ·exact up j (hd pc hp j (by omega))
theorem aIG {m:Im} (hs:aM m=true) {f:Int} {h:List Sh} {q:List Bool} (W:WJ m f h q) (ha:q.any id=true)
  (hr:(jQ m f (q.findIdx id:Int) h (q.set (q.findIdx id) false)).1=true):
  WJ m f (jQ m f (q.findIdx id:Int) h (q.set (q.findIdx id) false)).2.1 (jQ m f (q.findIdx id:Int) h (q.set (q.findIdx id) false)).2.2.1:=by
 obtain⟨hk,htrue⟩:=aF6 ha;generalize q.findIdx id=pc at hk htrue hr⊢;have hp:=W.pend pc htrue;unfold jQ at hr⊢;rw[aL] at hr⊢;cases he:(aW m f (pc:Int) (h.getD pc zSh).2.1).2.2.1 !=0 <;> simp only[he,aA,aB] at hr⊢
 ·have he0:(aW m f (pc:Int) (h.getD pc zSh).2.1).2.2.1=0:=by simpa using he
  obtain⟨-,-,h8,hto⟩:=oI hs he0;have hlen:=aQa hs he0;have O:=aDB (N:=aI m f) h8 (aCH hs (W.gd.at' pc).2) (aW m f (pc:Int) (h.getD pc zSh).2.1).2.1 h (q.set pc false) W.gd (by rw[dB,W.ql]) hto hr;have hO:=aYB O W.dc hp hlen;have hst:=aO8 O.bel W.start;refine⟨O.gd,O.ql,hst,fun k hk1 hk2=>?_,hO,fun k hk1=>?_⟩
  ·obtain⟨s1,s2⟩:=O.same k hk2;by_cases e:k=pc
   ·subst e;refine⟨by rw[s2];exact he0,fun to ht=>?_⟩;rw[s2] at ht⊢;exact O.tos to ht
   ·rw[eK,tB (fun e'=>e e'.symm),←eK] at s1;exact aYR O.bel s2 (W.cov k (by rw[←s2];exact hk1) s1)
  ·rcases O.pn k hk1 with i | i
   ·by_cases e:k=pc
    ·subst e;rw[eK,xM hk] at i;cases i
    ·rw[eK,tB (fun e'=>e e'.symm),←eK] at i;exact (O.bel k (W.pend k i)).1
   ·exact i
 ·cases hr
theorem aLu {m:Im} (hs:aM m=true) {f:Int} (hf:inM m f=true) {h:List Sh} {q:List Bool} (hg:Gd m (aI m f) h) (hq:q.length=aI m f) (ha:q.any id=true):
  rU m f (q.findIdx id:Int) h (q.set (q.findIdx id) false)=true:=by
 obtain⟨hk,-⟩:=aF6 ha;rw[hq] at hk;exact OneP.to ⟨hs,hf,by simp only[sin,aC,aO];omega,hg.len,by rw[dB,hq],fun s hs=>gB (by have:=(hg.good s hs).1;omega)⟩
theorem aE5 {m:Im} (hs:aM m=true) {f:Int} (hf:inM m f=true):∀(n:Nat) (h:List Sh) (q:List Bool) (r:List Sh×Int×Int×Unit),WJ m f h q→mZ m f n h q=some r→r.2.2.1=0→PF m f r.1∧DC r.1
 | 0,_,_,_,_,h,_=>by cases h
 | n+1,h,q,r,W,hr,h0=>by
  unfold mZ at hr;cases ha:q.any id <;> simp only[ha,aA,aB] at hr
  ·have:=fL hr;subst this;refine⟨⟨W.gd,W.start,fun pc hp=>W.cov pc hp ?_⟩,W.dc⟩;by_cases hk:pc<q.length
   ·rw[getD_some (aX hk)];cases hx:q[pc]
    ·rfl
    ·exact absurd (gP.2 ⟨_,dT hk,hx⟩) (by rw[ha];exact Bool.false_ne_true)
   ·rw[iL (by omega)]
  ·unfold nD at hr;rw[aLu hs hf W.gd W.ql ha] at hr;simp only[aA,aF] at hr;cases hb:(jQ m f (q.findIdx id:Int) h (q.set (q.findIdx id) false)).1 <;> simp only[hb,aV,bU,aA,aB] at hr
   ·have:=fL hr;subst this;cases h0
   ·exact aE5 hs hf n _ _ r (aIG hs W ha hb) hr h0
theorem aE6 {m:Im} (hs:aM m=true) {f:Int} (hf:inM m f=true) {S:List Sh} (hS:PF m f S):∀(n:Nat) (h:List Sh) (q:List Bool) (r:List Sh×Int×Int×Unit),WJ m f h q→Bel m h S→mZ m f n h q=some r→r.2.2.1=0∧Bel m r.1 S
 | 0,_,_,_,_,_,h=>by cases h
 | n+1,h,q,r,W,hb,hr=>by
  unfold mZ at hr;cases ha:q.any id <;> simp only[ha,aA,aB] at hr
  ·have:=fL hr;subst this;exact⟨rfl,hb⟩
  ·unfold nD at hr;rw[aLu hs hf W.gd W.ql ha] at hr;simp only[aA,aF] at hr;have key:(jQ m f (q.findIdx id:Int) h (q.set (q.findIdx id) false)).1=true∧Bel m (jQ m f (q.findIdx id:Int) h (q.set (q.findIdx id) false)).2.1 S:=by
    obtain⟨hk,htrue⟩:=aF6 ha;generalize q.findIdx id=pc at hk htrue;have hp:=W.pend pc htrue;obtain⟨p1,p2⟩:=hb pc hp;obtain⟨c1,c2⟩:=hS.cov pc p1;obtain⟨s1,s2,s3⟩:=aJb hs p2 c1;obtain⟨-,-,h8,hto⟩:=oI hs s1;unfold jQ;rw[aL];rw[show (aW m f (pc:Int) (h.getD pc zSh).2.1).2.2.1=0 from s1];simp only[uW,aB];refine aDC hS.gd h8 (aCH hs (W.gd.at' pc).2) _ h _ W.gd hb fun to ht=>⟨hto to ht,?_⟩;rw[show (aW m f (pc:Int) (h.getD pc zSh).2.1).2.1=_ from s2] at ht;obtain⟨d1,d2⟩:=c2 to ht;exact⟨d1,wK s3 d2⟩
   rw[key.1] at hr;simp only[aV,aB] at hr;exact aE6 hs hf hS n _ _ r (aIG hs W ha key.1) key.2 hr
theorem aA4 {m:Im} {f:Int} (hc:0<aI m f) (k:Nat):sh (iT m f) k=if k=0 then (true,[],()) else zSh:=by
 unfold iT;rw[rM (by simpa using hc)];by_cases e:k=0
 ·rw[if_pos e,if_pos e]
 ·rw[if_neg e,if_neg e];unfold sh;by_cases hk:k<aI m f
  ·rw[getD_some (aX (by simpa using hk))];simp
  ·rw[iL (by simpa using hk)]
theorem aFu {m:Im} {f:Int}:Gd m (aI m f) (iT m f):=by
 refine⟨by simp[iT],fun s hs=>?_,fun s hs h=>?_⟩ <;>
  rcases sY hs with hs | rfl
 ·rw[vB] at hs;rw[hs.2];exact⟨dY _,fun _ h=>by cases h⟩
 ·exact⟨dY _,fun _ h=>by cases h⟩
 ·rw[vB] at hs;exact hs.2
 ·cases h
theorem aQe {m:Im} (hs:aM m=true) {f:Int} (hf:inM m f=true):WJ m f (iT m f) ((List.replicate (aI m f) false).set 0 true):=by
 have hc:=(gR hs hf).1;have sq:∀k,((List.replicate (aI m f) false).set 0 true).getD k false=decide (k=0):=fun k=>by
  by_cases e:k=0
  ·subst e;rw[eK,xM (by simpa using hc)];rfl
  ·rw[eK,tB (fun e'=>e e'.symm),aT e];rw[List.getElem?_replicate];split <;> rfl
 refine⟨aFu,by simp,by rw[aA4 hc];exact⟨rfl,rfl⟩,fun pc h1 h2=>?_,fun k h1 j hj=>?_,fun k h=>?_⟩
 ·rw[sq] at h2;rw[aA4 hc,if_neg (by simpa using h2)] at h1;cases h1
 ·rw[aA4 hc] at hj;by_cases e:k=0
  ·rw[if_pos e] at hj;cases hj
  ·rw[if_neg e] at hj;cases hj
 ·rw[sq] at h;rw[aA4 hc,if_pos (by simpa using h)]
theorem aCI {m:Im} (hs:aM m=true) {f:Int} (hf:inM m f=true) {S:List Sh} (hS:PF m f S):Bel m (iT m f) S:=fun k h=>by
 have hc:=(gR hs hf).1;rw[aA4 hc] at h⊢;by_cases e:k=0
 ·subst e;rw[if_pos rfl,hS.start.2];exact⟨hS.start.1,trivial⟩
 ·rw[if_neg e] at h;cases h
end Go.Pli

namespace Go.Pli
open Go Go.PM
structure aAM (m:Im) (N:Nat) (t:Bool) (h:List Sh) (r:Bool×List Sh):Prop where
 gd:Gd m N r.2
 bel:Bel m h r.2
 still:r.1=false→t=false∧r.2=h
 moved:r.1=true→t=true∨r.2≠h
theorem aNo {m:Im} {N:Nat} {t:Bool} {h:List Sh} (hg:Gd m N h):aAM m N t h (t,h):=⟨hg,aO9 hg,fun h=>⟨h,rfl⟩,fun h=> .inl h⟩
theorem aXM {m:Im} {N:Nat} {t:Bool} {h:List Sh} {r z:Bool×List Sh} (hg:Gd m N h) (h1:aAM m N t h r) (h2:aAM m N r.1 r.2 z):aAM m N t h z:=
 ⟨h2.gd,aO7 h1.bel h2.bel,fun hz=>by
  obtain⟨a,b⟩:=h2.still hz;obtain⟨c,d⟩:=h1.still a;exact⟨c,b.trans d⟩,fun hz=>by
  rcases h2.moved hz with a | a
  ·rcases h1.moved a with b | b
   ·exact .inl b
   ·refine .inr fun e=>b (aEO h1.gd hg ?_ h1.bel);rw[←e];exact h2.bel
  ·refine .inr fun e=>a ?_;have:Bel m r.2 h:=by rw[←e];exact h2.bel
   rw[e];exact aEO hg h1.gd h1.bel this⟩
theorem aEk {m:Im} {N:Nat} {a:List Tp}:∀(ts:List Int) (h:List Sh) (q:List Bool),q.length=N→(∀to∈ts,0≤to∧to<(N:Int))→
  mP m.1 a ts (q.any id) h=bif (fK m.1 a ts h q).1 then some ((fK m.1 a ts h q).2.2.1.any id,(fK m.1 a ts h q).2.1) else none
 | [],_,_,_,_=>rfl
 | to::ts,h,q,hq,ht=>by
  obtain⟨t0,t1⟩:=ht to (cF ..);have hkq:to.toNat<q.length:=by rw[hq];omega
  have ht':∀x∈ts,0≤x∧x<(N:Int):=fun x hx=>ht x (bW _ hx);unfold mP fK;generalize cQ m.1 (h.getD to.toNat zSh) a=M;cases h1:M.2.2.1 <;> simp only[aV,bU,aA,aB];cases h2:M.2.1 <;> simp only[aA,aB]
  ·exact aEk ts h q hq ht'
  ·have:=aEk (m:=m) (a:=a) ts (h.set to.toNat M.1) (q.set to.toNat true) (by rw[dB,hq]) ht';rw[aPe hkq] at this;exact this
theorem aEQ {N:Nat} (hN:0<N) (t:Bool):(List.replicate N t).any id=t:=by
 cases t
 ·cases h:(List.replicate N false).any id
  ·rfl
  ·obtain⟨x,hx,hx'⟩:=gP.1 h;rw[vB] at hx;rw[hx.2] at hx';cases hx'
 ·exact gP.2 ⟨true,vB.2 ⟨by omega,rfl⟩,rfl⟩
theorem aPi {m:Im} {N:Nat} {a:List Tp} {ts:List Int} {h:List Sh} {q:List Bool} {r:Bool×List Sh×List Bool×Unit} (O:aIk m N a ts h q r) (hg:Gd m N h) (h0:r.2.2.1.any id=false):r.2.1=h:=by
 have hk:∀k,sh r.2.1 k=sh h k:=fun k=>(O.same k (by
  by_cases hk:k<r.2.2.1.length
  ·rw[getD_some (aX hk)];cases hx:r.2.2.1[k]
   ·rfl
   ·exact absurd (gP.2 ⟨_,dT hk,hx⟩) (by rw[h0];exact Bool.false_ne_true)
  ·rw[iL (by omega)])).2
 refine tC (by rw[O.gd.len,hg.len]) fun k k1 k2=>?_;have:=hk k;unfold sh at this
 rwa [getD_some (aX k1),getD_some (aX k2)] at this
theorem aNq {m:Im} (hs:aM m=true) {f:Int} {pc:Nat} {t:Bool} {h:List Sh} {r:Bool×List Sh} (hg:Gd m (aI m f) h) (hr:qL m f pc t h=some r):
  aAM m (aI m f) t h r∧(r.1=false→(sh h pc).1=true→Cov m f h pc):=by
 unfold qL at hr;cases h1:(h.getD pc zSh).1 <;> simp only[h1,aV,bU,aA,aB] at hr
 ·have:=fL hr;subst this;exact⟨aNo hg,fun _ h2=>by rw[show (sh h pc).1=false from h1] at h2;cases h2⟩
 ·cases he:(aW m f (pc:Int) (h.getD pc zSh).2.1).2.2.1 !=0 <;> simp only[he,aA,aB] at hr
  ·have he0:(aW m f (pc:Int) (h.getD pc zSh).2.1).2.2.1=0:=by simpa using he
   obtain⟨-,hp,h8,hto⟩:=oI hs he0;have hN:0<aI m f:=by simp only[sin,aC,aO] at hp;omega
   have hE:=aEk (m:=m) (N:=aI m f) (a:=(aW m f (pc:Int) (h.getD pc zSh).2.1).1) (aW m f (pc:Int) (h.getD pc zSh).2.1).2.1 h (List.replicate (aI m f) t) (by simp) hto;rw[aEQ hN,hr] at hE;have O:=aDB (N:=aI m f) h8 (aCH hs (hg.at' pc).2) (aW m f (pc:Int) (h.getD pc zSh).2.1).2.1 h (List.replicate (aI m f) t) hg (by simp) hto;generalize fK m.1 (aW m f (pc:Int) (h.getD pc zSh).2.1).1 (aW m f (pc:Int) (h.getD pc zSh).2.1).2.1 h (List.replicate (aI m f) t)=z at hE O;cases hz:z.1 <;> rw[hz] at hE <;> simp only[aA,aB] at hE
   ·cases hE
   have O:=O hz;have:=fL hE;subst this;refine⟨⟨O.gd,O.bel,fun h0=>⟨?_,aPi O hg h0⟩,fun h1=>?_⟩,fun h0 _=>⟨he0,fun to ht=>?_⟩⟩
   ·cases t
    ·rfl
    ·have:=O.any (aEQ hN true);rw[show z.2.2.1.any id=false from h0] at this;cases this
   ·cases t
    ·exact .inr (O.mov (aEQ hN false) h1)
    ·exact .inl rfl
   ·have:=O.tos to ht;rw[aPi O hg h0] at this;exact this
  ·cases hr
theorem aEj {m:Im} (hs:aM m=true) {f:Int}:∀(n:Nat) (t:Bool) (h:List Sh) (r:Bool×List Sh),Gd m (aI m f) h→kU m f n t h=some r→
  aAM m (aI m f) t h r∧(r.1=false→∀pc,pc<n→(sh h pc).1=true→Cov m f h pc)
 | 0,t,h,r,hg,hr=>by
  have:=fL hr;subst this;exact⟨aNo hg,fun _ _ h=>(by cases h)⟩
 | n+1,t,h,r,hg,hr=>by
  unfold kU at hr;cases hz:qL m f n t h with
  | none=>rw[hz] at hr;cases hr
  | some z=>
   rw[hz] at hr;simp only[aF] at hr;obtain⟨F1,F2⟩:=aNq hs hg hz;obtain⟨G1,G2⟩:=aEj hs n z.1 z.2 r F1.gd hr;refine⟨aXM hg F1 G1,fun h0 pc hp hseen=>?_⟩;obtain⟨a,b⟩:=G1.still h0;obtain⟨c,d⟩:=F1.still a;by_cases e:pc=n
   ·subst e;exact F2 a hseen
   ·have:=G2 h0 pc (by omega);rw[d] at this;exact this hseen
theorem aXN {m:Im} {N:Nat} {a:List Tp} {S:List Sh} (hS:Gd m N S) (ha8:a.length≤8) (ha:gS (nC m) a) (hN:0<N) {ts:List Int} {t:Bool} {h:List Sh} (hg:Gd m N h) (hb:Bel m h S) (ht:∀to∈ts,(0≤to∧to<(N:Int))∧(sh S to.toNat).1=true∧leS m.1 a (sh S to.toNat).2.1):
  ∃r,mP m.1 a ts t h=some r∧Bel m r.2 S:=by
 have hE:=aEk (m:=m) (N:=N) (a:=a) ts h (List.replicate N t) (by simp) (fun to h=>(ht to h).1);rw[aEQ hN] at hE;obtain⟨b1,b2⟩:=aDC hS ha8 ha ts h (List.replicate N t) hg hb ht;rw[b1] at hE;exact⟨_,hE,b2⟩
theorem aNn {m:Im} (hs:aM m=true) {f:Int} {S:List Sh} (hS:PF m f S):∀(n:Nat) (t:Bool) (h:List Sh),Gd m (aI m f) h→Bel m h S→∃r,kU m f n t h=some r∧Bel m r.2 S
 | 0,t,h,_,hb=>⟨_,rfl,hb⟩
 | n+1,t,h,hg,hb=>by
  have key:∃r,qL m f n t h=some r∧Bel m r.2 S:=by
   unfold qL;cases h1:(h.getD n zSh).1 <;> simp only[aV,bU,aA,aB]
   ·exact⟨_,rfl,hb⟩
   ·obtain⟨p1,p2⟩:=hb n h1;obtain⟨c1,c2⟩:=hS.cov n p1;obtain⟨s1,s2,s3⟩:=aJb hs p2 c1;obtain⟨-,hp,h8,hto⟩:=oI hs s1;have hN:0<aI m f:=by simp only[sin,aC,aO] at hp;omega
    rw[show (aW m f (n:Int) (h.getD n zSh).2.1).2.2.1=0 from s1];simp only[uW,aB];refine aXN hS.gd h8 (aCH hs (hg.at' n).2) hN hg hb fun to ht=>⟨hto to ht,?_⟩;rw[show (aW m f (n:Int) (h.getD n zSh).2.1).2.1=_ from s2] at ht;obtain⟨d1,d2⟩:=c2 to ht;exact⟨d1,wK s3 d2⟩
  obtain⟨z,hz,hzb⟩:=key;obtain⟨F1,-⟩:=aNq hs hg hz;obtain⟨r,hr,hrb⟩:=aNn hs hS n z.1 z.2 F1.gd hzb;unfold kU;rw[hz];exact⟨r,hr,hrb⟩
def h8 (l:List Cl) (t:Tp):Nat:=if t.1=4 then 8 else if t.1=3 then (cI l t.2.1).length - 1 else 0
theorem aW6 {l:List Cl} (hl:l.length≤8) (t:Tp):h8 l t≤8:=by
 have:=aB8 hl t.2.1;unfold h8;split
 ·omega
 ·split <;> omega
theorem aW5 {l:List Cl} (hl:l.length≤8) {a b:Tp} (ga:gT (l.length:Int) a) (gb:gT (l.length:Int) b) (h:cN l a b=true):a=b∨h8 l b<h8 l a:=by
 have hc:=aB8 hl b.2.1;rcases kI.1 h with⟨a4,hb⟩ | ⟨a3,b3,hab⟩ | ⟨h,_⟩
 ·by_cases b4:b.1=4
  ·have e1:=aEg ga a4;have e2:=aEg gb b4;exact .inl (vI (by omega) (by omega))
  ·refine .inr ?_;unfold h8;rw[if_neg b4,if_pos a4];split <;> omega
 ·by_cases e:b.2.1=a.2.1
  ·exact .inl (vI (by omega) e.symm)
  ·refine .inr ?_;have hb:=qX.1 hab;have:=(aEF _ _ (fM _) hb.2.2.2).2 e;have h1:0<(cI l b.2.1).length:=by rw[gM hb.1];simp
   unfold h8;rw[if_neg (by omega),if_pos b3,if_neg (by omega),if_pos a3];omega
 ·exact .inl h
def hs8 (l:List Cl) (s:List Tp):Nat:=bK (s.map (h8 l))
theorem aHk {l:List Cl} (hl:l.length≤8):∀s:List Tp,hs8 l s≤8*s.length
 | []=>bL _
 | t::s=>by
  have:=aHk hl s;have:=aW6 hl t;unfold hs8 at*
  simp only[dM,bK,aJ];omega
theorem aMT {l:List Cl} (hl:l.length≤8):∀{a b:List Tp},gS (l.length:Int) a→gS (l.length:Int) b→leS l a b→hs8 l b≤hs8 l a∧(a≠b→hs8 l b<hs8 l a)
 | [],[],_,_,_=>⟨bL _,fun h=>absurd rfl h⟩
 | x::a,y::b,ga,gb,h=>by
  obtain⟨i1,i2⟩:=aMT hl (iB ga).2 (iB gb).2 h.2;have j:=aW5 hl (iB ga).1 (iB gb).1 h.1;unfold hs8 at*
  simp only[dM,bK];rcases j with rfl | j
  ·exact⟨by omega,fun hne=>by have:=i2 fun e=>hne (by rw[e]);omega⟩
  ·exact⟨by omega,fun _=>by omega⟩
 | [],_::_,_,_,h=>h.elim
 | _::_,[],_,_,h=>h.elim
def pw (l:List Cl) (S h:Sh):Nat:=if S.1 then (if h.1 then hs8 l h.2.1 else 1+8*S.2.1.length) else 0
def pot (l:List Cl) (N:Nat) (S h:List Sh):Nat:=bK ((List.range N).map fun k=>pw l (sh S k) (sh h k))
theorem aCD {α:Type} {f g:α→Nat}:∀(l:List α),(∀x∈l,f x≤g x)→bK (l.map f)≤bK (l.map g)
 | [],_=>bL _
 | x::l,h=>by
  have:=aCD l fun y hy=>h y (bW _ hy);have:=h x (cF ..);simp only[dM,bK];omega
theorem aI3 {α:Type} {f g:α→Nat}:∀(l:List α),(∀x∈l,f x≤g x)→(∃x∈l,f x<g x)→bK (l.map f)<bK (l.map g)
 | [],_,h=>by obtain⟨x,hx,_⟩:=h;cases hx
 | x::l,h,⟨y,hy,hlt⟩=>by
  have i:=aCD l fun y hy=>h y (bW _ hy);have j:=h x (cF ..);simp only[dM,bK];rcases cB.1 hy with rfl | hy
  ·omega
  ·have:=aI3 l (fun y hy=>h y (bW _ hy)) ⟨y,hy,hlt⟩;omega
theorem aTZ {m:Im} (hl:m.1.length≤8) {N:Nat} {S h h':List Sh} (hg:Gd m N h) (hg':Gd m N h') (hb:Bel m h h') (hbS:Bel m h' S) (hne:h'≠h):pot m.1 N S h'<pot m.1 N S h:=by
 have key:∀k,pw m.1 (sh S k) (sh h' k)≤pw m.1 (sh S k) (sh h k)∧(sh h' k≠sh h k→pw m.1 (sh S k) (sh h' k)<pw m.1 (sh S k) (sh h k)):=fun k=>by
  unfold pw;cases h1:(sh h' k).1
  ·have h0:(sh h k).1=false:=by
    cases h0:(sh h k).1
    ·rfl
    ·have:=(hb k h0).1;rw[h1] at this;cases this
   rw[h0];refine⟨bL _,fun hne=>absurd ?_ hne⟩;have z:∀{x:List Sh},Gd m N x→(sh x k).1=false→sh x k=zSh:=fun {x} hx h=>by
    unfold sh at h⊢;by_cases hk:k<x.length
    ·rw[getD_some (aX hk)] at h⊢;exact hx.bare _ (dT hk) h
    ·exact iL (by omega)
   rw[z hg' h1,z hg h0]
  ·obtain⟨s1,s2⟩:=hbS k h1;rw[s1];cases h0:(sh h k).1 <;> simp only[dA,lX,cU]
   ·have:=aHk hl (sh h' k).2.1;rw[uG s2] at this;exact⟨by omega,fun _=>by omega⟩
   ·obtain⟨-,b2⟩:=hb k h0;obtain⟨c1,c2⟩:=aMT hl (hg.at' k).2 (hg'.at' k).2 b2;refine⟨c1,fun hne=>c2 fun e=>hne ?_⟩;generalize sh h' k=x at h1 e⊢;generalize sh h k=y at h0 e⊢;obtain⟨x1,x2,⟨⟩⟩:=x;obtain⟨y1,y2,⟨⟩⟩:=y;simp only at h1 h0 e;subst h1 h0 e;rfl
 refine aI3 _ (fun k _=>(key k).1) ?_;have:∃k,k<N∧sh h' k≠sh h k:=Classical.byContradiction fun hno=>hne (by
  refine tC (by rw[hg'.len,hg.len]) fun k k1 k2=>?_;have e:sh h' k=sh h k:=Classical.byContradiction fun h=>hno ⟨k,by rw[←hg'.len];exact k1,h⟩;unfold sh at e
  rwa [getD_some (aX k1),getD_some (aX k2)] at e)
 obtain⟨k,hk,hne⟩:=this;exact⟨k,kY.2 hk,(key k).2 hne⟩
theorem aCE {α:Type} (f g:α→Nat):∀l:List α,bK (l.map fun x=>f x+g x)=bK (l.map f)+bK (l.map g)
 | []=>rfl
 | x::l=>by have:=aCE f g l;simp only[dM,bK];omega
theorem aFo {c:Nat}:∀{N a:Nat},a<N→bK ((List.range N).map fun k=>if k=a then c else 0)=c:=by
 have app:∀(a b:List Nat),bK (a++b)=bK a+bK b:=fun a b=>by
  induction a with
  | nil=>simp[bK]
  | cons x a ih=>simp only[lV,bK,ih];omega
 have z:∀{N a:Nat},N≤a→bK ((List.range N).map fun k=>if k=a then c else 0)=0:=fun {N} {a} h=>by
  induction N with
  | zero=>rfl
  | succ n ih=>
   rw[List.range_succ,pJ,app,ih (by omega)];simp only[dM,List.map_nil,bK];rw[if_neg (by omega)]
 intro N a h
 induction N with
 | zero=>cases h
 | succ n ih=>
  rw[List.range_succ,pJ,app];simp only[dM,List.map_nil,bK];by_cases e:n=a
  ·rw[z (by omega),if_pos e];omega
  ·rw[ih (by omega),if_neg e];omega
theorem aI2 {f:Nat→Nat} {c:Nat}:∀(N:Nat),(∀k,f k≤c)→bK ((List.range N).map f)≤c*N:=fun N h=>by
 have:=aCD (f:=f) (g:=fun _=>c) (List.range N) fun k _=>h k;have e:bK ((List.range N).map fun _=>c)=c*N:=by
  have:∀l:List Nat,bK (l.map fun _=>c)=c*l.length:=fun l=>by
   induction l with
   | nil=>rfl
   | cons x l ih=>simp only[dM,bK,ih,aJ];rw[Nat.mul_succ];omega
  rw[this,List.length_range]
 omega
theorem aTY {m:Im} {f:Int} (hc:aI m f≤64) {S h:List Sh} (hl:m.1.length≤8) (hS:PF m f S) (hd:DC S) (hb:Bel m h S):pot m.1 (aI m f) S h<4000:=by
 let v:Nat→Nat:=fun k=>if (sh S k).1 then 1+8*(sh S k).2.1.length else 0
 have hv:∀k,pw m.1 (sh S k) (sh h k)≤v k:=fun k=>by
  show _≤(if (sh S k).1 then 1+8*(sh S k).2.1.length else 0);unfold pw;split
  ·split
   ·rename_i h1;have:=aHk hl (sh h k).2.1;rw[uG (hb k h1).2] at this;omega
   ·omega
  ·omega
 have h1:pot m.1 (aI m f) S h≤bK ((List.range (aI m f)).map v):=aCD _ fun k _=>hv k;have h65:∀k,v k≤65:=fun k=>by
  show (if (sh S k).1 then 1+8*(sh S k).2.1.length else 0)≤65;have:=(hS.gd.at' k).1;split <;> omega
 by_cases h3:∃k,(sh S k).1=true∧2<(sh S k).2.1.length
 ·obtain⟨k,k1,k2⟩:=h3;obtain⟨k0,a1,a2⟩:=hd k k1 0 (by omega);obtain⟨k1',b1,b2⟩:=hd k k1 1 (by omega);obtain⟨k2',c1,c2⟩:=hd k k1 2 (by omega);have inN:∀{j},(sh S j).1=true→j<aI m f:=fun {j} h=>by
   by_cases hj:j<aI m f
   ·exact hj
   ·unfold sh at h;rw[iL (by rw[hS.gd.len];omega)] at h;cases h
  have n01:k0≠k1':=fun e=>by subst e;omega
  have n02:k0≠k2':=fun e=>by subst e;omega
  have n12:k1'≠k2':=fun e=>by subst e;omega
  have key:=aI2 (f:=fun k=>v k+((if k=k0 then 64 else 0)+((if k=k1' then 56 else 0)+(if k=k2' then 48 else 0)))) (c:=65) (aI m f) fun k=>by
   have:=h65 k;by_cases e0:k=k0
   ·have:v k=1:=by show (if (sh S k).1 then 1+8*(sh S k).2.1.length else 0)=1;subst e0;rw[a1,a2];rfl
    simp only[if_pos e0,if_neg (show k≠k1' by omega),if_neg (show k≠k2' by omega)];omega
   ·by_cases e1:k=k1'
    ·have:v k=9:=by show (if (sh S k).1 then 1+8*(sh S k).2.1.length else 0)=9;subst e1;rw[b1,b2];rfl
     simp only[if_pos e1,if_neg e0,if_neg (show k≠k2' by omega)];omega
    ·by_cases e2:k=k2'
     ·have:v k=17:=by show (if (sh S k).1 then 1+8*(sh S k).2.1.length else 0)=17;subst e2;rw[c1,c2];rfl
      simp only[if_pos e2,if_neg e0,if_neg e1];omega
     ·simp only[if_neg e2,if_neg e0,if_neg e1];omega
  rw[aCE v,aCE,aCE,aFo (inN a1),aFo (inN b1),aFo (inN c1)] at key;omega
 ·have:=aI2 (f:=v) (c:=17) (aI m f) fun k=>by
   show (if (sh S k).1 then 1+8*(sh S k).2.1.length else 0)≤17;split
   ·rename_i hk;have:¬2<(sh S k).2.1.length:=fun h=>h3 ⟨k,hk,h⟩;omega
   ·omega
  omega
theorem aSh {m:Im} (hs:aM m=true) {f:Int} {h:List Sh} {r:Bool×List Sh} (hg:Gd m (aI m f) h) (hst:(sh h 0).1=true∧(sh h 0).2.1=[]) (hr:kU m f (aI m f) false h=some r) (h0:r.1=false):PF m f r.2:=by
 obtain⟨F,G⟩:=aEj hs _ _ _ _ hg hr;obtain⟨-,e⟩:=F.still h0;rw[e];refine⟨hg,hst,fun pc hp=>?_⟩;by_cases hk:pc<aI m f
 ·exact G h0 pc hk hp
 ·unfold sh at hp;rw[iL (by rw[hg.len];omega)] at hp;cases hp
theorem aJY {m:Im} (hs:aM m=true) {f:Int}:∀(n:Nat) (h:List Sh),Gd m (aI m f) h→((sh h 0).1=true∧(sh h 0).2.1=[])→(iU m f n h=([],false,()))∨((iU m f n h).2.1=true∧PF m f (iU m f n h).1)
 | 0,_,_,_=> .inl rfl
 | n+1,h,hg,hst=>by
  unfold iU;cases hr:kU m f (aI m f) false h with
  | none=>exact .inl rfl
  | some r=>
   simp only;cases h1:r.1 <;> simp only[aA,aB]
   ·exact .inr ⟨trivial,aSh hs hg hst hr h1⟩
   ·obtain⟨F,-⟩:=aEj hs _ _ _ _ hg hr;exact aJY hs n r.2 F.gd (aO8 F.bel hst)
theorem aJ0 {m:Im} (hs:aM m=true) {f:Int} {S:List Sh} (hl:m.1.length≤8) (hS:PF m f S):∀(n:Nat) (h:List Sh),Gd m (aI m f) h→Bel m h S→pot m.1 (aI m f) S h<n→(iU m f n h).2.1=true∧Bel m (iU m f n h).1 S
 | 0,_,_,_,h=>by omega
 | n+1,h,hg,hb,hp=>by
  obtain⟨r,hr,hrb⟩:=aNn hs hS (aI m f) false h hg hb;obtain⟨F,-⟩:=aEj hs _ _ _ _ hg hr;unfold iU;rw[hr];simp only;cases h1:r.1 <;> simp only[aA,aB]
  ·exact⟨trivial,hrb⟩
  ·refine aJ0 hs hl hS n r.2 F.gd hrb ?_;have:=aTZ hl hg F.gd F.bel hrb ((F.moved h1).resolve_left Bool.false_ne_true);omega
theorem aLO {m:Im} (hs:aM m=true) {f:Int} (hf:inM m f=true):∃r,nE m f=some r∧aAL (aI m f) r.1∧
  (r.2.2.1=0→iU m f 4000 (iT m f)=(r.1,true,()))∧(r.2.2.1≠0→iU m f 4000 (iT m f)=([],false,()))∧(r.2.2.1=0→PF m f r.1):=by
 obtain⟨r,hr,hg⟩:=aIJ hs hf;have hl:=(cH (cX hs).1).classes;have hc:=gR hs hf;have W:=aQe hs hf;have hw:=hr;unfold nE at hw;rw[hs,hf] at hw;simp only[aG,aA] at hw;have R:=aJY hs (f:=f) 4000 (iT m f) aFu W.start;refine⟨r,hr,hg,fun h0=>?_,fun h0=>?_,fun h0=>(aE5 hs hf _ _ _ _ W hw h0).1⟩
 ·obtain⟨P,D⟩:=aE5 hs hf _ _ _ _ W hw h0;obtain⟨e1,e2⟩:=aJ0 hs hl P 4000 (iT m f) aFu (aCI hs hf P) (aTY hc.2 hl P D (aCI hs hf P));rcases R with R | ⟨_,R⟩
  ·rw[R] at e1;cases e1
  ·obtain⟨-,b⟩:=aE6 hs hf R _ _ _ _ W (aCI hs hf R) hw;have e:=aEO R.gd P.gd e2 b;generalize iU m f 4000 (iT m f)=z at e1 e;obtain⟨z1,z2,⟨⟩⟩:=z;simp only at e1 e;rw[e1,e]
 ·rcases R with R | ⟨_,R⟩
  ·exact R
  ·exact absurd (aE6 hs hf R _ _ _ _ W (aCI hs hf R) hw).1 h0
theorem aOI {m:Im} (hs:aM m=true):∀(l:List Int) (out:List (List Sh)),(∀f∈l,inM m f=true)→∃r,qU m l out=some r∧
  (r.2.2.2.1=0→xJ m l out=(r.1,-1,()))∧(r.2.2.2.1≠0→xJ m l out=([],r.2.1,())∧inM m r.2.1=true)∧(r.2.2.2.1=0→r.1.length=out.length+l.length)
 | [],out,_=>⟨_,rfl,fun _=>rfl,fun h=>absurd rfl h,fun _=>rfl⟩
 | f::l,out,hl=>by
  have hf:=hl f (cF ..);obtain⟨r,hr,-,h1,h2,-⟩:=aLO hs hf;unfold qU xJ;rw[hr];simp only[aF];cases he:r.2.2.1 !=0 <;> simp only[aA,aB]
  ·rw[h1 (by simpa using he)];obtain⟨r',i1,i2,i3,i4⟩:=aOI hs l (out++[r.1]) fun x hx=>hl x (bW _ hx);exact⟨r',i1,i2,i3,fun h0=>by rw[i4 h0];simp;omega⟩
  ·have h0:r.2.2.1≠0:=by simpa using he
   rw[h2 h0];exact⟨_,rfl,fun h=>absurd h h0,fun _=>⟨rfl,hf⟩,fun h=>absurd h h0⟩
theorem aIU {m:Im} (hs:aM m=true):∃r,nF m=some r∧(r.2.2.2.1=0→pX m=some (r.1,-1,())∧r.1.length=m.2.2.2.1.length)∧(r.2.2.2.1≠0→pX m=some ([],r.2.1,())∧inM m r.2.1=true):=by
 obtain⟨r,h1,h2,h3,h4⟩:=aOI hs (ints m.2.2.2.1.length) [] fun f hf=>bR.2 (gH.1 hf);refine⟨r,?_,fun h0=>⟨?_,?_⟩,fun h0=>⟨?_,(h3 h0).2⟩⟩
 ·unfold nF;rw[hs];exact h1
 ·unfold pX;rw[hs,h2 h0];rfl
 ·rw[h4 h0,hY];simp
 ·unfold pX;rw[hs,(h3 h0).1];rfl
end Go.Pli

namespace Go.Pli
open Go Go.PM
theorem rG {n:Int} (h1: -1000000000≤n) (h2:n≤1000000000):IntKind.i64.wrap n=n:=by rw[bV] <;> omega
theorem aBI {n:Int} (h1: -1000000000≤n) (h2:n≤1000000000):lof n=(n,true,()):=by
 unfold lof;rw[aH (show n> -4611686018427387904 by omega),aH (show n<4611686018427387904 by omega)];rfl
theorem aPT {a b:Int} (ha:a= -1∨a=0∨a=1) (hb:0≤b∧b≤4096):xY (lof a) (lof b)=(a*b,true,()):=by
 have hab: -4096≤a*b∧a*b≤4096:=by rcases ha with rfl | rfl | rfl <;> omega
 rw[aBI (by omega) (by omega),aBI (by omega) (by omega)];unfold xY;simp only[aG,aA];have h1:eR a=0∨eR a=1:=by rcases ha with rfl | rfl | rfl <;> decide
 have h2:eR b=b:=by
  unfold eR;rw[aT (show ¬b<0 by omega),aB];show (b % 18446744073709551616)=b;omega
 have h3:0≤eR a*eR b∧eR a*eR b≤4096:=by rw[h2];rcases h1 with h | h <;> rw[h] <;> omega
 generalize eR a*eR b=z at h3;rw[aT (show ¬(z/18446744073709551616≠0) by omega),aT (show ¬(z % 18446744073709551616≥4611686018427387904) by omega)];simp only[Bool.or_self,aB];rw[rG (by omega) (by omega),aBI (by omega) (by omega)]
def kC:List (Int×Int)→Int
 | []=>0
 | p::r=>p.1*p.2+kC r
theorem aP2 (l:List (Int×Int)):∀(s k:Int),(∀p∈l,(p.1= -1∨p.1=0∨p.1=1)∧0≤p.2∧p.2≤4096)→-k≤s→s≤k→k+4096*(l.length:Int)≤1000000→oH l (s,true,())=(s+kC l,true,()):=by
 induction l with
 | nil=>intro s k _ _ _ _;rw[oH,kC,Int.add_zero]
 | cons p r ih=>
  intro s k h h1 h2 h3;have hp:=h p (cF ..);have hab: -4096≤p.1*p.2∧p.1*p.2≤4096:=by
   obtain⟨ha,hb⟩:=hp;rcases ha with e | e | e <;> rw[e] <;> omega
  rw[aJ] at h3;rw[oH,kC,aPT hp.1 hp.2];have:zF (s,true,()) (p.1*p.2,true,())=(s+p.1*p.2,true,()):=by
   unfold zF;rw[aG,aA,rG (by omega) (by omega),aBI (by omega) (by omega)]
  rw[this,ih _ (k+4096) (fun q hq=>h q (bW _ hq)) (by omega) (by omega) (by omega),Int.add_assoc]
theorem aNV:∀(n:Nat) (v:List Int),kC ((List.replicate n 0).zip v)=0
 | 0,v=>by simp[kC]
 | n+1,[]=>by simp[kC]
 | n+1,x::v=>by
  rw[List.replicate_succ,List.zip_cons_cons,kC,aNV n v];simp
theorem aNW:∀(z v:List Int) (k:Nat) (d:Int),k<z.length→z.length=v.length→kC ((z.set k d).zip v)=kC (z.zip v)+(d - z.getD k 0)*v.getD k 0
 | [],_,_,_,h,_=>by simp at h
 | _::_,[],_,_,_,h=>by simp at h
 | a::z,x::v,0,d,_,_=>by
  simp only[List.set_cons_zero,List.zip_cons_cons,kC,List.getD_cons_zero];rw[Int.sub_mul];omega
 | a::z,x::v,k+1,d,h,hl=>by
  have:=aNW z v k d (by simpa using h) (by simpa using hl);simp only[List.set_cons_succ,List.zip_cons_cons,kC,List.getD_cons_succ,this];omega
theorem aPn {z v:List Int} {a d:Int} (hl:z.length=v.length) (ha:a<(z.length:Int)) (hz:∀x∈z,x= -1∨x=0∨x=1) (hd: -1≤d∧d≤1):
  kC ((jN z a d).zip v)=kC (z.zip v)+(if 0≤a then d*v.getD a.toNat 0 else 0)∧(jN z a d).length=z.length:=by
 unfold jN;by_cases h:0≤a
 ·rw[aH (show a≥0 from h),aA,if_pos h];have hk:a.toNat<z.length:=by omega
  have hg:z.getD a.toNat 0= -1∨z.getD a.toNat 0=0∨z.getD a.toNat 0=1:=by rw[getD_some (aX hk)];exact hz _ (dT hk)
  rw[rG (by omega) (by omega),aNW z v _ _ hk hl];refine⟨?_,dB⟩;congr 1;congr 1;omega
 ·rw[aT (show ¬a≥0 from h),aB,if_neg h];exact⟨by omega,rfl⟩
theorem row_holds {v:List Int} {n a b c:Int} (hn:n=(v.length:Int)) (h64:v.length≤64) (ha:a<n) (hb:b<n) (hv:∀x∈v,0≤x∧x≤4096):
  pB (eP n a b c) v=(decide ((if 0≤a then -(v.getD a.toNat 0) else 0)+(if 0≤b then v.getD b.toNat 0 else 0)≤c),0,()):=by
 subst hn;have l0:(List.replicate ((v.length:Int)).toNat (0:Int)).length=v.length:=by simp
 obtain⟨d1,l1⟩:=aPn (z:=List.replicate ((v.length:Int)).toNat 0) (v:=v) (a:=a) (d:= -1) l0 (by rw[l0];exact ha) (fun x hx=>by rw[vB] at hx;exact .inr (.inl hx.2)) ⟨by decide,by decide⟩;have hz1:∀x∈jN (List.replicate ((v.length:Int)).toNat 0) a (-1),x= -1∨x=0:=by
  intro x hx;unfold jN at hx;by_cases h:0≤a
  ·rw[aH (show a≥0 from h),aA] at hx;rcases sY hx with hx | hx
   ·rw[vB] at hx;exact .inr hx.2
   ·have hg:(List.replicate ((v.length:Int)).toNat (0:Int)).getD a.toNat 0=0:=by
     rw[eK,List.getElem?_replicate];split <;> rfl
    rw[hg,rG (by omega) (by omega)] at hx;exact .inl (by omega)
  ·rw[aT (show ¬a≥0 from h),aB,vB] at hx;exact .inr hx.2
 obtain⟨d2,l2⟩:=aPn (z:=jN (List.replicate ((v.length:Int)).toNat 0) a (-1)) (v:=v) (a:=b) (d:=1) (by rw[l1,l0]) (by rw[l1,l0];exact hb) (fun x hx=>(hz1 x hx).imp id .inl) ⟨by decide,by decide⟩;have hz2:∀x∈(eP (v.length:Int) a b c).1,x= -1∨x=0∨x=1:=by
  intro x hx;show _;have hx:x∈jN (jN (List.replicate ((v.length:Int)).toNat 0) a (-1)) b 1:=hx;unfold jN at hx;by_cases h:0≤b
  ·rw[aH (show b≥0 from h),aA] at hx;rcases sY hx with hx | hx
   ·exact (hz1 x hx).imp id .inl
   ·change x=IntKind.i64.wrap ((jN (List.replicate ((v.length:Int)).toNat 0) a (-1)).getD b.toNat 0+1) at hx;have hk:b.toNat<(jN (List.replicate ((v.length:Int)).toNat 0) a (-1)).length:=by rw[l1,l0];omega
    have hg:=hz1 _ (dT hk);rw[getD_some (aX hk),rG (by omega) (by omega)] at hx;omega
  ·rw[aT (show ¬b≥0 from h),aB] at hx;exact (hz1 x hx).imp id .inl
 have hlen:(eP (v.length:Int) a b c).1.length=v.length:=l2.trans (l1.trans l0);have hdot:kC ((eP (v.length:Int) a b c).1.zip v)=(if 0≤a then -(v.getD a.toNat 0) else 0)+(if 0≤b then v.getD b.toNat 0 else 0):=by
  show kC ((jN (jN (List.replicate ((v.length:Int)).toNat 0) a (-1)) b 1).zip v)=_;rw[d2,d1,aNV];split <;> split <;> omega
 unfold pB;rw[aT (show ¬((eP (v.length:Int) a b c).1.length≠v.length) from fun h=>h hlen),aB,aBI (by omega) (by omega)];rw[aP2 _ 0 0 (fun p hp=>by
  obtain⟨h1,h2⟩:=List.of_mem_zip hp;exact⟨hz2 _ h1,hv _ h2⟩) (by omega) (by omega) (by rw[List.length_zip,hlen];omega),hdot]
 unfold aD8;simp only[aV,aB,Int.zero_add];rfl
theorem aMG {m:Im} (hs:aM m=true) {f:Int} (hf:inM m f=true) {pc:Int} (hp:sin pc (aI m f:Int)=true):dV (aN m f pc)=true:=by
 obtain⟨h0,h1⟩:=bR.1 hf;exact (jW ((cH (cX hs).1).mts _ (qB h0 h1))).2.2.2.1.2 _ (aHa hp)
theorem aFh {m:Im} (hs:aM m=true) {f:Int} (hf:inM m f=true) {pc:Int} (hp:sin pc (aI m f:Int)=true):∀g∈cT m (aN m f pc),inM m g=true:=fun g hg=>
 aFg (aFi (cX hs).2) hf (aGM.1 (iY.2 ⟨_,gE.2 ⟨_,aHa hp,rfl⟩,hg⟩))
theorem aYT {m:Im} (hs:aM m=true) {f:Int} (hf:inM m f=true) {pc:Int} (hp:sin pc (aI m f:Int)=true):qS m (aN m f pc)=nN m (aN m f pc):=by
 have hg:=aMG hs hf hp;have ht:=aFh hs hf hp;have hfil:(cT m (aN m f pc)).filter (inM m)=cT m (aN m f pc):=List.filter_eq_self.2 ht;unfold qS nN;rw[hfil];generalize aN m f pc=i at hg;cases h22:i.1==22 <;> simp only[aA,aB];cases h23:i.1==23 <;> simp only[aA,aB];have e:i.1=23:=by simpa using h23
 unfold dV at hg;rw[e] at hg;simp only[aC] at hg;have h1:=hg.2.1;unfold lA at h1;rw[show bD 23=1 from rfl] at h1;simp only[show decide ((0:Int)≥1)=false from rfl,aB,aC,aO] at h1;congr 2;omega
theorem aU3 {l:List Int} {b:Int} (h:∀x∈l,x≤b):∀a,a≤b→l.foldl max a≤b:=by
 induction l with
 | nil=>exact fun a h=>h
 | cons x l ih=>exact fun a ha=>ih (fun y hy=>h y (bW _ hy)) _ (by have:=h x (cF ..);omega)
theorem aU4 (l:List Int):∀a,a≤l.foldl max a:=by
 induction l with
 | nil=>exact fun a=>fB _
 | cons x l ih=>exact fun a=>Int.le_trans (by omega) (ih (max a x))
theorem aLb {m:Im} (hs:aM m=true) {f:Int} (hf:inM m f=true):0≤eE m f∧eE m f≤4096:=by
 obtain⟨h0,h1⟩:=bR.1 hf;exact (jW ((cH (cX hs).1).mts _ (qB h0 h1))).2.2.2.2.2.1
theorem aBv {m:Im} (hs:aM m=true) {f:Int} (hf:inM m f=true):(eA m f).length=aI m f∧∀x∈eA m f,0≤x∧x≤4096:=by
 obtain⟨h0,h1⟩:=bR.1 hf;have:=tP hs hf;simp only[fD,aC,aO] at this;exact⟨this.2.2.2.2.1,(jW ((cH (cX hs).1).mts _ (qB h0 h1))).2.2.2.2.2.2.2⟩
theorem aXY {m:Im} (hs:aM m=true) (c:Int):(eL m c).length≤64:=by
 have hl:=(cH (cX hs).1).classes;have key:∀(l:List Int),(∀s∈l,sin s (m.1.length:Int)=true)→((l.map fun s=>(bF m s).2.1).flatten).length≤8*l.length:=by
  intro l
  induction l with
  | nil=>intro _;simp
  | cons s l ih=>
   intro h;have h1:=h s (cF ..);simp only[sin,aC,aO] at h1;have h2:=(pG ((cH (cX hs).1).cls _ (xE h1.1 h1.2))).2.1.1;have:=ih fun x hx=>h x (bW _ hx);rw[dM,gO,aS,aJ];omega
 unfold eL;have hin:∀s∈(cP m.1 c).reverse,sin s (m.1.length:Int)=true:=fun s hs'=>by
  rw[List.mem_reverse] at hs';unfold cP at hs';cases hd:decide (c<(m.1.length:Int)) <;> simp only[hd,aA,aB] at hs'
  ·cases hs'
  ·have:=qV _ _ (fM _) hs';have hd:c<(m.1.length:Int):=by simpa using hd
   simp only[sin,aC,aO];omega
 have h1:=key _ hin;have h2:((cP m.1 c).reverse).length≤8:=by
  rw[List.length_reverse];unfold cP;cases decide (c<(m.1.length:Int)) <;> simp only[aA,aB]
  ·exact dY _
  ·exact aB8 hl c
 omega
theorem aYS {m:Im} (hs:aM m=true) {f:Int} (hf:inM m f=true) {pc:Int} (hp:sin pc (aI m f:Int)=true):0≤nN m (aN m f pc)∧nN m (aN m f pc)≤4096:=by
 have hg:=aMG hs hf hp;have ht:=aFh hs hf hp;unfold nN;generalize aN m f pc=i at hg ht;cases h22:i.1==22 <;> simp only[aA,aB]
 ·cases h23:i.1==23 <;> simp only[aA,aB]
  ·have hx:∀x∈(cT m i).map (eE m),x≤4096:=fun x hx=>by
    obtain⟨g,hg,rfl⟩:=gE.1 hx;exact (aLb hs (ht g hg)).2
   exact⟨aU4 _ 0,aU3 hx 0 (by decide)⟩
  ·have e:i.1=23:=by simpa using h23
   unfold dV at hg;rw[e] at hg;simp only[aC] at hg;have h1:=hg.2.1;unfold lA at h1;rw[show bD 23=1 from rfl] at h1;simp only[show decide ((0:Int)≥1)=false from rfl,aB,aC,aO] at h1;rw[rG (by omega) (by omega)];omega
 ·have:=aXY hs i.2.1;unfold tL;omega
theorem aXp {v:List Int} (hv:∀x∈v,0≤x∧x≤4096) (k:Nat):0≤v.getD k 0∧v.getD k 0≤4096:=by
 by_cases h:k<v.length
 ·rw[getD_some (aX h)];exact hv _ (dT h)
 ·rw[iL (by omega)];decide
theorem aHn {m:Im} (hs:aM m=true) {f:Int} (hf:inM m f=true) {a b c:Int} (ha:a<(aI m f:Int)) (hb:b<(aI m f:Int)):
  qK m f (eP (aI m f:Int) a b c)=decide ((if 0≤a then -((eA m f).getD a.toNat 0) else 0)+(if 0≤b then (eA m f).getD b.toNat 0 else 0)≤c):=by
 obtain⟨p1,p2⟩:=aBv hs hf;have hc:=gR hs hf;unfold qK;rw[row_holds (by rw[p1]) (by rw[p1];exact hc.2) ha hb p2];simp
theorem aPj {α:Type} {l:List α} {p q:α→Bool} (h:∀x∈l,p x= !q x):l.all p= !l.any q:=by
 induction l with
 | nil=>rfl
 | cons x l ih=>rw[fA,List.any_cons,h x (cF ..),ih fun y hy=>h y (bW _ hy),Bool.not_or]
theorem aR2 {m:Im} (hs:aM m=true) {f:Int} (hf:inM m f=true) {l:List (List Sh)} (P:PF m f (l.getD f.toNat [])) {pc:Nat} (hpc:pc<aI m f):
  (nI m l f (pc:Int)).all (qK m f)= !aCc m l f pc:=by
 obtain⟨p1,p2⟩:=aBv hs hf;have hshape:dJ l f (pc:Int)=sh (l.getD f.toNat []) pc:=by unfold dJ sh;rw[aL]
 have hp:sin (pc:Int) (aI m f:Int)=true:=by simp only[sin,aC,aO];omega
 have hg:∀k,0≤(eA m f).getD k 0∧(eA m f).getD k 0≤4096:=aXp p2;unfold nI aCc;rw[hshape];cases hseen:(sh (l.getD f.toNat []) pc).1
 ·simp
 ·obtain⟨c1,c2⟩:=P.cov pc hseen;obtain⟨-,-,-,hto⟩:=oI hs c1;have hb:((aW m f (pc:Int) (sh (l.getD f.toNat []) pc).2.1).2.2.1 !=0)=false:=by rw[c1];rfl
  rw[hb];simp only[aV,aB,cZ];have hcost:=aYS hs hf hp;rw[aYT hs hf hp];generalize (aW m f (pc:Int) (sh (l.getD f.toNat []) pc).2.1).2.1=ts at hto;rw[aAK,List.all_map];have h1:(bif decide (ts.length=0) then[eP (aI m f:Int) (pc:Int) (-1) 0] else[]).all (qK m f)=true:=by
   cases decide (ts.length=0) <;> simp only[aA,aB]
   ·rfl
   ·rw[fA,List.all_nil,kZ,aHn hs hf (by omega) (by omega),if_pos (by omega),if_neg (by decide)];have:=hg ((pc:Int)).toNat;exact aH (by omega)
  rw[h1,cZ];refine aPj fun to ht=>?_;have h2:=hto to ht;show qK m f (eP (aI m f:Int) (pc:Int) to (IntKind.i64.wrap (0 - nN m (aN m f (pc:Int)))))=_;rw[aHn hs hf (by omega) h2.2,if_pos (by omega),if_pos h2.1,aL,rG (by omega) (by omega)];have:=hg pc;have:=hg to.toNat;rw[rG (by omega) (by omega)];by_cases h:(eA m f).getD pc 0<nN m (aN m f (pc:Int))+(eA m f).getD to.toNat 0
  ·rw[aH h,aT (by omega)];rfl
  ·rw[aT h,aH (by omega)];rfl
theorem aRZ {m:Im} (hs:aM m=true) {f:Int} (hf:inM m f=true) {l:List (List Sh)} (P:PF m f (l.getD f.toNat [])):
  (mB m l f).all (qK m f)= !sT m l f:=by
 have hc:=gR hs hf;obtain⟨p1,p2⟩:=aBv hs hf;unfold mB sT;rw[hf];simp only[aA,fA];rw[aHn hs hf (by omega) (by omega),if_neg (by decide),if_pos (by decide)];have e1:decide ((0:Int)+(eA m f).getD (0:Int).toNat 0≤eE m f)= !decide ((eA m f).getD 0 0>eE m f):=by
  rw[show (0:Int).toNat=0 from rfl];by_cases h:(eA m f).getD 0 0>eE m f
  ·rw[aH h,aT (by omega)];rfl
  ·rw[aT h,aH (by omega)];rfl
 rw[e1,Bool.not_or];congr 1;rw[all_flat];exact aPj fun pc hpc=>aR2 hs hf P (kY.1 hpc)
where
 all_flat {α β:Type} {l:List α} {g:α→List β} {p:β→Bool}:((l.map g).flatten).all p=l.all fun x=>(g x).all p:=by
  induction l with
  | nil=>rfl
  | cons x l ih=>rw[dM,gO,aAK,fA,ih]
theorem aT3 {m:Im} (hs:aM m=true) {f:Int} (hf:inM m f=true):(eA m f).any rW=false:=by
 cases h:(eA m f).any rW
 ·rfl
 ·obtain⟨x,hx,hn⟩:=gP.1 h;have:=(aBv hs hf).2 x hx;unfold rW at hn;have:x<0:=by simpa using hn
  omega
theorem aLa {m:Im} (hs:aM m=true) {l:List (List Sh)} (P:∀f,inM m f=true→PF m f (l.getD f.toNat [])):∀(fs:List Int),(∀f∈fs,inM m f=true)→
  ((qA m l fs).2.1=0∧fs.find? (sT m l)=none)∨((qA m l fs).2.1=6∧∃f∈fs,fs.find? (sT m l)=some f)
 | [],_=> .inl ⟨rfl,rfl⟩
 | f::fs,h=>by
  have hf:=h f (cF ..);unfold qA;rw[aRZ hs hf (P f hf),aT3 hs hf,xO];cases sT m l f <;> simp only[aV,bU,aA,aB]
  ·rcases aLa hs P fs fun x hx=>h x (bW _ hx) with h1 | ⟨h1,g,h2,h3⟩
   ·exact .inl h1
   ·exact .inr ⟨h1,g,bW _ h2,h3⟩
  ·exact .inr ⟨trivial,f,cF ..,rfl⟩
theorem aTX {m:Im} (hs:aM m=true) {l:List (List Sh)} (P:∀f,inM m f=true→PF m f (l.getD f.toNat [])):
  ((qA m l (ints m.2.2.2.1.length)).2.1=0∧zE m l= -1)∨((qA m l (ints m.2.2.2.1.length)).2.1=6∧0≤zE m l):=by
 unfold zE;rcases aLa hs P (ints m.2.2.2.1.length) fun f hf=>bR.2 (gH.1 hf) with⟨h1,h2⟩ | ⟨h1,f,h2,h3⟩
 ·rw[h2];exact .inl ⟨h1,rfl⟩
 ·rw[h3];exact .inr ⟨h1,(gH.1 h2).1⟩
end Go.Pli

namespace Go.Pli
open Go Go.PM
theorem aGQ {α σ R:Type} {L:σ→(σ→Option R)→Option R} {xs:List α} {st:Nat→σ} {p:α→Bool} {ex:α→Option R} {fin:Option R}
  (h1:∀(k:Nat) (x:α) (rec),xs[k]? =some x→k<xs.length→L (st k) rec=bif p x then ex x else rec (st (k+1)))
  (h2:∀rec,L (st xs.length) rec=fin):∀F:Nat,xs.length<F→aD L F (st 0)=match xs.find? p with
   | some x=>ex x
   | none=>fin:=by
 have key:∀(l pre:List α) (F:Nat),xs=pre++l→l.length<F→aD L F (st pre.length)=match l.find? p with
   | some x=>ex x
   | none=>fin:=by
  intro l
  induction l with
  | nil=>
   intro pre F hx hF;obtain⟨F,rfl⟩:∃n,F=n+1:=⟨F - 1,by simp at hF;omega⟩;rw[aZ,List.find?_nil];have:pre.length=xs.length:=by rw[hx];simp
   rw[this,h2]
  | cons x l ih=>
   intro pre F hx hF;obtain⟨F,rfl⟩:∃n,F=n+1:=⟨F - 1,by simp at hF;omega⟩;rw[aZ,xO,h1 pre.length x _ (by rw[hx];simp) (by rw[hx];simp)];cases hp:p x <;> simp only[aA,aB];have:=ih (pre++[x]) F (by rw[hx];simp) (by simp at hF;omega);rw[aS] at this;exact this
 exact fun F hF=>key xs [] F rfl hF
theorem aHy {α R:Type} {p:α→Bool} {ex fin:R}:∀xs:List α,(match xs.find? p with | some _=>ex | none=>fin)=bif xs.any p then ex else fin
 | []=>rfl
 | x::xs=>by
  rw[xO,List.any_cons];cases p x
  ·simp only[iR];exact aHy xs
  ·rfl
theorem aP9 {m:Im} {f pc:Int} {s:List Tp} (h:(aW m f pc s).2.2.1≠0):(aW m f pc s).2.1=[]:=by
 have C:∀{b:Bool} {x y:St4},(x.2.2.1≠0→x.2.1=[])→(y.2.2.1≠0→y.2.1=[])→((bif b then x else y).2.2.1≠0→(bif b then x else y).2.1=[]):=fun {b} {x} {y} h1 h2=>by cases b;exact h2;exact h1
 revert h;unfold aW pQ;exact C (fun _=>rfl) (C (fun _=>rfl) (C (C (fun _=>rfl) (fun h=>absurd rfl h)) (C (fun _=>rfl) (C (fun h=>absurd rfl h) (fun _=>rfl)))))
theorem aTI (m:Im) (l:List (List Sh)) (r) (h:tW m l=some r):∃k,aKY k m l=some r:=by
 unfold tW at h;cases hg:aM m&&aBD m l <;> rw[hg] at h <;> simp only[aA,aB] at h
 ·cases h
 have:=fL h;subst this;simp only[aBD,aC,aO,bT] at hg;obtain⟨hs,hok,hl,hrow⟩:=hg;have hfi:=(cX hs).1;have h12:=(cH hfi).methods;refine⟨1001,?_⟩;unfold aKY zE;have fold:∀g:Nat,m.2.2.2.1.getD g zMt=aE m (g:Int):=fun g=>by unfold aE;rw[aL]
 have key:=aGQ (L:=aDq m l 1001) (xs:=ints m.2.2.2.1.length) (st:=fun k=>((k:Int),())) (p:=sT m l) (ex:=fun f=>some (f,())) (fin:=some ((-1:Int),()))
  (fun f x rec hk hlt=>by
   rw[hY] at hlt;have hx:x=(f:Int):=by have:=aG8 hlt 0;rw[getD_some hk] at this;exact this
   subst hx;have hf:inM m (f:Int)=true:=bR.2 ⟨by omega,by omega⟩;have hc:=gR hs hf;obtain⟨p1,p2⟩:=aBv hs hf;have ephi:(aE m (f:Int)).2.2.2.2.2.2.1=eA m (f:Int):=rfl;have epot:(aE m (f:Int)).2.2.2.2.2.1=eE m (f:Int):=rfl;have ecode:(aE m (f:Int)).2.2.2.1.length=aI m (f:Int):=rfl;have eins:∀pc:Nat,(aE m (f:Int)).2.2.2.1.getD pc cC=aN m (f:Int) (pc:Int):=fun pc=>by unfold aN;rw[aL]
   have hphi0:decide ((0:Int)<((eA m (f:Int)).length:Int))=true:=aH (by omega);have hw:=aQ hlt (show _≤lenMax by simp only[lenMax];omega);have hlf:=hrow (f:Int) (gH.2 (bR.1 hf));rw[aL] at hlf;have hfl:decide ((f:Int)<(l.length:Int))=true:=aH (by omega);rw[aDq];simp only[dlt hlt,dge,aG,aA,aL,fold,ephi,epot,hphi0];unfold sT;cases hd:decide ((eA m (f:Int)).getD 0 0>eE m (f:Int)) <;> simp only[vD,iR,aA,aB];have inner:=aGQ (L:=aDr m l 1001 ((f:Int),()) rec) (xs:=List.range (aI m (f:Int))) (st:=fun k=>((k:Int),())) (p:=aCc m l (f:Int)) (ex:=fun _=>some ((f:Int),())) (fin:=rec (((f+1:Nat):Int),()))
    (fun pc x rec4 hk2 hlt2=>by
     rw[List.length_range] at hlt2;have hx:x=pc:=by
      rw[List.getElem?_range hlt2] at hk2;exact (fL hk2).symm
     subst hx;have hp:sin (x:Int) (aI m (f:Int):Int)=true:=by simp only[sin,aC,aO];omega
     have hpl:decide ((x:Int)<((l.getD f []).length:Int))=true:=aH (by omega);have hpp:decide ((x:Int)<((eA m (f:Int)).length:Int))=true:=aH (by omega);have hw2:=aQ hlt2 (show _≤lenMax by simp only[lenMax];omega);have eshape:(l.getD f []).getD x zSh=dJ l (f:Int) (x:Int):=by unfold dJ;rw[aL,aL]
     have hsl:okL (dJ l (f:Int) (x:Int)).2.1=true:=by
      rw[←eshape];have:=(zI hok (n:=f) (by omega)).2;have hm:(l.getD f []).getD x zSh∈l.getD f []:=by
       have:x<(l.getD f []).length:=by omega
       rw[getD_some (aX this)];exact dT this
      exact gB (this _ hm)
     have hstep:rR m (f:Int) (x:Int) (dJ l (f:Int) (x:Int)).2.1=some (aW m (f:Int) (x:Int) (dJ l (f:Int) (x:Int)).2.1):=by unfold rR;rw[hs,hsl];rfl
     have hcost:vZ m (aN m (f:Int) (x:Int))=some (nN m (aN m (f:Int) (x:Int)),()):=by
      unfold vZ;rw[hfi,bT.2 (aFh hs hf hp)];rfl
     rw[aDr];simp only[fold,ecode,dlt hlt2,dge,hfl,hpl,aG,aA,aL,eshape,hstep,hw2,aF];unfold aCc;cases hseen:(dJ l (f:Int) (x:Int)).1 <;> simp only[aV,bU,cZ,jP,aA,aB];have hts:(aW m (f:Int) (x:Int) (dJ l (f:Int) (x:Int)).2.1).2.1.length≤2∧∀to∈(aW m (f:Int) (x:Int) (dJ l (f:Int) (x:Int)).2.1).2.1,0≤to∧to<(aI m (f:Int):Int):=by
      refine⟨yC m (f:Int) (x:Int) _,?_⟩;by_cases e0:(aW m (f:Int) (x:Int) (dJ l (f:Int) (x:Int)).2.1).2.2.1=0
      ·exact (oI hs e0).2.2.2
      ·rw[aP9 e0];exact fun _ h=>by cases h
     generalize aW m (f:Int) (x:Int) (dJ l (f:Int) (x:Int)).2.1=Z at hts;obtain⟨hts2,hts⟩:=hts;have edges:=aGQ (L:=aDs m ((f:Int),()) ((x:Int),()) rec4 Z) (xs:=Z.2.1) (st:=fun k=>((k:Int),())) (p:=fun to=>decide ((eA m (f:Int)).getD x 0<IntKind.i64.wrap (nN m (aN m (f:Int) (x:Int))+(eA m (f:Int)).getD to.toNat 0))) (ex:=fun _=>some ((f:Int),())) (fin:=rec4 (((x+1:Nat):Int),()))
      (fun k to rec7 hk3 hlt3=>by
       have hm3:to∈Z.2.1:=fR hk3;obtain⟨t0,t1⟩:=hts to hm3;have t2:decide (to<((eA m (f:Int)).length:Int))=true:=aH (by omega);have hw3:=aQ hlt3 (show _≤lenMax by simp only[lenMax];omega);rw[aDs];simp only[dlt hlt3,dge,aG,aA,aL,fold,ephi,ecode,eins,dlt hlt2,hpp,hcost,getD_some hk3,t0,t2,aK,hw3,aF])
      (fun rec7=>by
       rw[aDs];simp only[aU,aB,hw2]) 1001 (by omega)
     rw[aHy] at edges;exact edges)
    (fun rec4=>by
     rw[List.length_range,aDr];simp only[aL,fold,ecode,aU,aB,hw]) 1001 (by rw[List.length_range];omega)
   rw[aHy] at inner;exact inner)
  (fun rec=>by
   rw[hY,aDq];simp only[aU,aB]) 1001 (by rw[hY];omega)
 refine (show _=_ from key).trans ?_;cases (ints m.2.2.2.1.length).find? (sT m l) <;> rfl
theorem aLD (m:Im) (bd:List Int):∀(p q:List Int) (s h:Int),eW m bd (p++q) s h=eW m bd q (eW m bd p s h).1 (eW m bd p s h).2
 | [],_,_,_=>rfl
 | f::p,q,s,h=>by
  rw[lV,eW,eW];cases decide (f≥0)&&decide (f<(bd.length:Int)) <;> simp only[aA,aB] <;> exact aLD m bd p q _ _
theorem bAc (m:Im) (l:List (List Sh)):(nU m l).2.1=true→(nU m l).1.length=m.2.2.2.1.length:=by
 unfold nU;cases kJ m <;> simp only[aA,aB]
 ·intro _;rw[aFR,pK]
 ·intro h;cases h
theorem aNK {m:Im} (hs:aM m=true):∀f∈m.2.2.2.2.1,inM m f=true:=fun f hf=>by
 have:=(cX hs).2;simp only[kL,aC] at this;have:=bT.1 this.2.2.2 f hf;simp only[kA,aC] at this;exact this.1
theorem aTK (m:Im) (l:List (List Sh)) (r) (h:tX m l=some r):∃k,aKZ k m l=some r:=by
 unfold tX at h;cases hs:aM m <;> rw[hs] at h <;> simp only[aA,aB] at h
 ·cases h
 cases hb:rS m l with
 | none=>rw[hb] at h;cases h
 | some B=>
  rw[hb,aF] at h;have:=fL h;subst this;have hB:B=nU m l:=by
   unfold rS at hb;cases hg:aM m&&(dK l&&(rJ m&&tJ (aR m))) <;> rw[hg] at hb <;> simp only[aA,aB] at hb
   ·cases hb
   ·exact (fL hb).symm
  have hlen:=bAc m l;rw[←hB] at hlen;have h12:=(cH (cX hs).1).methods;have hen:=aNK hs;have hel:m.2.2.2.2.1.length≤12:=by
   have:=(cH (cX hs).1).entries;simp only[eG,aC,aO] at this;omega
  refine⟨1001,?_⟩;unfold aKZ aDF;rw[hb,aF];cases hb1:B.2.1 <;> simp only[aV,bU,aA,aB];have hBl:=hlen hb1;have epot:∀g:Int,(m.2.2.2.1.getD g.toNat zMt).2.2.2.2.2.1=eE m g:=fun _=>rfl;exact lK (L:=aDt m B) (n:=m.2.2.2.2.1.length) (st:=fun k=>((eW m B.1 (m.2.2.2.2.1.take k) 0 0).1,(eW m B.1 (m.2.2.2.2.1.take k) 0 0).2,(k:Int),()))
   (fun k rec hk=>by
    have hx:m.2.2.2.2.1[k]? =some m.2.2.2.2.1[k]:=aX hk;obtain⟨g0,g1⟩:=bR.1 (hen _ (dT hk));have hst:m.2.2.2.2.1.take (k+1)=m.2.2.2.2.1.take k++[m.2.2.2.2.1[k]]:=by rw[oB,hx];rfl
    have hw:=aQ hk (show _≤lenMax by simp only[lenMax];omega);rw[hst,aLD];generalize eW m B.1 (m.2.2.2.2.1.take k) 0 0=S;rw[aDt];have gb:decide (m.2.2.2.2.1[k]<(B.1.length:Int))=true:=aH (by omega);simp only[dlt hk,dge,aG,aA,aL,getD_some hx,g0,g1,gb,aK,hw,epot];generalize m.2.2.2.2.1[k]=g at g0 gb;rw[eW,eW,aH (show g≥0 from g0),gb];simp only[aG,aA];by_cases h1:B.1.getD g.toNat 0>S.1
    ·rw[aH h1,Int.max_eq_right (by omega)];simp only[aA,aF];by_cases h2:eE m g>S.2
     ·rw[aH h2,Int.max_eq_right (by omega)];rfl
     ·rw[aT h2,Int.max_eq_left (by omega)];rfl
    ·rw[aT h1,Int.max_eq_left (by omega)];simp only[aB,aF];by_cases h2:eE m g>S.2
     ·rw[aH h2,Int.max_eq_right (by omega)];rfl
     ·rw[aT h2,Int.max_eq_left (by omega)];rfl)
   (fun rec=>by
    rw[iD,aDt];simp only[aU,aB]) 1001 (by omega)
end Go.Pli
