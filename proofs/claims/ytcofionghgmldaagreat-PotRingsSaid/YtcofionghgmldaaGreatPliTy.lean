/- Types: the typer ends on every sane image. -/
import Derived.Test.YtcofionghgmldaaGreatPliL13E
import Derived.Test.YtcofionghgmldaaGreatPliNt
import Derived.Test.YtcofionghgmldaaGreatPliReach
namespace Go.Pli
open Go Go.PM
def okT (t:Tp):Prop:=t.1=4→t.2.1=0
def mU (l:List Cl) (t:Tp):Nat:=if t.1=4 then 12 else if t.1=3 then (cC l t.2.1).length else 0
theorem zZ {l:List Cl} (hl:l.length≤8) (c:Int):(cC l c).length≤8:=by
 by_cases h0:c<0
 ·rw[fK h0];simp
 ·by_cases h1:c<(l.length:Int)
  ·have:=tW l (c.toNat+1) c (by omega)
   omega
  ·have hk:kup l c= -1:=by
    unfold kup
    have:c≥(l.length:Int):=by omega
    simp[this]
   rw[hJ (by omega),hk,fK (by omega)]
   simp
theorem aB2 {l:List Cl} {x:Int}:∀(n:Nat) (c:Int),c.toNat<n→x∈cC l c→(cC l x).length≤(cC l c).length∧(x≠c→(cC l x).length<(cC l c).length)
 | 0,_,h,_=>by omega
 | n+1,c,h,hx=>by
  by_cases h0:c<0
  ·rw[fK h0] at hx;cases hx
  have hk:=lL (l:=l) (c:=c) (by omega)
  rw[hJ (by omega)] at hx
  have hlen:(cC l c).length=(cC l (kup l c)).length+1:=by rw[hJ (by omega)];rfl
  rcases bJ.1 hx with rfl | hx
  ·exact⟨aW _,fun h=>absurd rfl h⟩
  ·by_cases h2:kup l c<0
   ·rw[fK h2] at hx;cases hx
   ·have:=(aB2 n (kup l c) (by omega) hx).1
    exact⟨by omega,fun _=>by omega⟩
theorem rY {a b:Tp} (h1:a.1=b.1) (h2:a.2.1=b.2.1):a=b:=by
 obtain⟨a1,a2,⟨⟩⟩:=a
 obtain⟨b1,b2,⟨⟩⟩:=b
 simp only at h1 h2
 subst h1 h2
 rfl
theorem aPY {l:List Cl} (hl:l.length≤8) {a b:Tp} (ha:okT a) (hb:okT b) (h:(gE l a b).1≠0):okT (gE l a b)∧(gE l a b=a∨mU l (gE l a b)<mU l a):=by
 unfold gE at h⊢
 cases h1:cK l a b <;> simp only[h1,aA,aB] at h⊢
 ·cases h2:cK l b a <;> simp only[h2,aA,aB] at h⊢
  ·cases h3:a.1 !=3 || b.1 !=3 <;> simp only[h3,aA,aB] at h⊢
   ·have h3a:a.1=3:=by
     have:=(Bool.or_eq_false_iff.1 h3).1
     simpa using this
    cases hf:(cC l (kup l a.2.1)).find? fun c=>dI l b.2.1 c with
    | none=>rw[hf] at h;exact absurd rfl h
    | some c=>
     refine⟨fun h4=>by simp at h4,.inr ?_⟩
     have hm:=List.mem_of_find?_eq_some hf
     have h0:0≤a.2.1:=by
      by_cases h0:0≤a.2.1
      ·exact h0
      ·have hk:kup l a.2.1= -1:=by
        unfold kup
        have:a.2.1<0:=by omega
        simp[this]
       rw[hk,fK (by omega)] at hm
       cases hm
     have:=(aB2 _ _ (hZ _) hm).1
     simp only[mU,h3a]
     rw[hJ h0]
     simp
     omega
   ·exact absurd rfl h
  ·refine⟨ha,?_⟩
   simp
 ·refine⟨hb,?_⟩
  unfold cK at h1
  cases h4:a.1==4 <;> simp only[h4,aA,aB] at h1
  ·cases h33:a.1==3&&b.1==3 <;> simp only[h33,aA,aB] at h1
   ·simp only[aC,hY] at h1
    exact .inl h1.1.symm
   ·simp only[aC,hY] at h33
    unfold dI at h1
    simp only[aC,aP,rT] at h1
    by_cases he:b.2.1=a.2.1
    ·exact .inl (rY (by omega) he)
    ·refine .inr ?_
     have:=(aB2 _ _ (hZ _) h1.2.2.2).2 he
     simp only[mU,h33.1,h33.2]
     simpa using this
  ·have ea:a.1=4:=by simpa using h4
   unfold iR at h1
   simp only[eQ,hY] at h1
   have h12:mU l a=12:=by simp[mU,ea]
   rcases h1 with h2 | h3 | h4'
   ·right;rw[h12];simp[mU,h2]
   ·right;rw[h12]
    have:=zZ hl b.2.1
    simp only[mU,h3]
    simp
    omega
   ·exact .inl (rY (by omega) (by rw[hb h4',ha ea]))
def nX (l:List Cl) (s:List Tp):Nat:=bC (s.map (mU l))
theorem aQm {l:List Cl} (hl:l.length≤8) (t:Tp):mU l t≤12:=by
 unfold mU
 split
 ·omega
 ·split
  ·exact mZ (zZ hl _) (by omega)
  ·omega
theorem aIH {l:List Cl} (hl:l.length≤8):∀s:List Tp,nX l s≤12*s.length
 | []=>by simp[nX,bC]
 | t::s=>by
  have:=aIH hl s
  have:=aQm hl t
  unfold nX at*
  simp only[dM,bC,aF]
  omega
theorem aHT {l:List Cl} (hl:l.length≤8):∀(a s:List Tp),a.length=s.length→(∀t∈a,okT t)→(∀t∈s,okT t)→(∀t∈bY l a s,t.1≠0)→
  (∀t∈bY l a s,okT t)∧nX l (bY l a s)≤nX l a∧(bY l a s≠a→nX l (bY l a s)<nX l a)
 | [],[],_,_,_,_=>⟨fun _ h=>(by cases h),aW _,fun h=>absurd rfl h⟩
 | [],_::_,h,_,_,_=>by cases h
 | _::_,[],h,_,_,_=>by cases h
 | x::a,y::s,h,ha,hs,hz=>by
  have hm:bY l (x::a) (y::s)=gE l x y::bY l a s:=rfl
  rw[hm] at hz⊢
  obtain⟨i1,i2,i3⟩:=aHT hl a s (by simpa using h) (fun t ht=>ha t (bI _ ht)) (fun t ht=>hs t (bI _ ht)) (fun t ht=>hz t (bI _ ht))
  obtain⟨j1,j2⟩:=aPY hl (ha x (bS ..)) (hs y (bS ..)) (hz _ (bS ..))
  refine⟨fun t ht=>?_,?_,fun hne=>?_⟩
  ·rcases bJ.1 ht with rfl | ht
   ·exact j1
   ·exact i1 t ht
  ·unfold nX at*
   simp only[dM,bC]
   rcases j2 with j2 | j2
   ·rw[j2];omega
   ·omega
  ·unfold nX at*
   simp only[dM,bC]
   rcases j2 with j2 | j2
   ·rw[j2] at hne⊢
    have:=i3 fun he=>hne (by rw[he])
    omega
   ·omega
def nL (l:List Cl) (s:Sh):Nat:=if s.1 then nX l s.2.1 else 97
structure aAj (s:Sh):Prop where
 len:s.2.1.length≤8
 ok:∀t∈s.2.1,okT t
theorem aPn {l:List Cl} (hl:l.length≤8) {o:Sh} (ho:aAj o) {s:List Tp} (hs8:s.length≤8) (hs:∀t∈s,okT t):
  ((dB l o s).2.2.1=true→(dB l o s).2.1=true→aAj (dB l o s).1∧nL l (dB l o s).1<nL l o):=by
 unfold dB
 cases h1:o.1 <;> simp only[bA,cJ,aA,aB]
 ·intro _ _
  refine⟨⟨hs8,hs⟩,?_⟩
  have:=aIH hl s
  simp only[nL,h1]
  simp
  omega
 ·cases h2:decide (o.2.1.length≠s.length) <;> simp only[aA,aB]
  ·have hlen:o.2.1.length=s.length:=by simpa using h2
   cases h3:(bY l o.2.1 s).any fun t=>t.1==0 <;> simp only[aA,aB]
   ·intro _ h4
    have hz:∀t∈bY l o.2.1 s,t.1≠0:=fun t ht h0=>by
     have:((bY l o.2.1 s).any fun t=>t.1==0)=true:=fL.2 ⟨t,ht,by simp[h0]⟩
     rw[h3] at this;cases this
    obtain⟨i1,-,i3⟩:=aHT hl o.2.1 s hlen ho.ok hs hz
    refine⟨⟨by rw[vY l hlen];exact hs8,i1⟩,?_⟩
    simp only[nL,h1,cP]
    exact i3 fun he=>by rw[he] at h4;simp at h4
   ·intro h _;cases h
  ·intro h _;cases h
theorem sB {α:Type} (g:α→Nat) (z:α):∀(l:List α) (k:Nat) (y:α),k<l.length→bC ((l.set k y).map g)+g (l.getD k z)=bC (l.map g)+g y
 | [],_,_,h=>by simp at h
 | x::l,0,y,_=>by simp[bC];omega
 | x::l,k+1,y,h=>by
  have:=sB g z l k y (by simpa using h)
  simp only[List.set_cons_succ,dM,bC,List.getD_cons_succ] at this⊢
  omega
def b2n (b:Bool):Nat:=if b then 1 else 0
def mu (l:List Cl) (h:List Sh) (q:List Bool):Nat:=bC (h.map (nL l))+bC (q.map b2n)
structure aAk (N:Nat) (h:List Sh) (q:List Bool):Prop where
 hl:h.length=N
 ql:q.length=N
 ok:∀s∈h,aAj s
theorem aDm {l:List Cl} (hl:l.length≤8) {N:Nat} {a:List Tp} (ha8:a.length≤8) (ha:∀t∈a,okT t):∀(ts:List Int) (h:List Sh) (q:List Bool),aAk N h q→(∀to∈ts,0≤to∧to<(N:Int))→
  aAk N (gB l a ts h q).2.1 (gB l a ts h q).2.2.1∧mu l (gB l a ts h q).2.1 (gB l a ts h q).2.2.1≤mu l h q
 | [],h,q,hg,_=>⟨hg,aW _⟩
 | to::ts,h,q,hg,ht=>by
  unfold gB
  obtain⟨t0,t1⟩:=ht to (bS ..)
  have hk:to.toNat<h.length:=by rw[hg.hl];omega
  have hkq:to.toNat<q.length:=by rw[hg.ql];omega
  have hgo:aAj (h.getD to.toNat zSh):=by rw[getD_some (aT hk)];exact hg.ok _ (dU hk)
  have hup:=aPn hl hgo ha8 ha
  generalize dB l (h.getD to.toNat zSh) a=r at hup
  cases h1:r.2.2.1 <;> simp only[bA,cJ,aA,aB]
  ·exact⟨hg,aW _⟩
  ·cases h2:r.2.1 <;> simp only[aA,aB]
   ·exact aDm hl ha8 ha ts h q hg fun x hx=>ht x (bI _ hx)
   ·obtain⟨g1,g2⟩:=hup h1 h2
    have hg':aAk N (h.set to.toNat r.1) (q.set to.toNat true):=⟨by rw[dJ,hg.hl],by rw[dJ,hg.ql],fun s hs=>by
     rcases uB hs with hs | rfl
     ·exact hg.ok s hs
     ·exact g1⟩
    obtain⟨i1,i2⟩:=aDm hl ha8 ha ts _ _ hg' fun x hx=>ht x (bI _ hx)
    refine⟨i1,mZ i2 ?_⟩
    unfold mu
    have e1:=sB (nL l) zSh h to.toNat r.1 hk
    have e2:=sB b2n false q to.toNat true hkq
    have e3:b2n true=1:=rfl
    omega
theorem aEd {t:Tp} {n:Int} (h:gD t n=true):okT t:=by
 intro h4
 unfold gD at h
 rw[h4] at h
 simp at h
theorem aEa {m:Im} {l:List Tp} (h:fH m l=true) (k:Nat):okT (l.getD k zTp):=by
 by_cases hk:k<l.length
 ·rw[getD_some (aT hk)]
  exact aEd (bM.1 h _ (dU hk))
 ·rw[fI (by omega)];intro h4;cases h4
theorem aPH {m:Im} (hs:aK m=true) {f:Int} (hf:inM m f=true) (n:Int):okT (jT (aD m f) n):=by
 have h:=qO hs hf
 simp only[fF,aC] at h
 unfold jT
 cases decide (n<0) <;> simp only[aA,aB]
 ·rw[aEg]
  split
  ·exact aEa h.1 _
  ·exact aEa h.2.1 _
 ·intro h4;cases h4
theorem aNj {m:Im} (hs:aK m=true) {f:Int} (hf:inM m f=true):okT (aD m f).2.2.1:=by
 have h:=qO hs hf
 simp only[fF,aC,eQ] at h
 rcases h.2.2.1 with h | h
 ·intro h4
  have:(aD m f).2.2.1=(5,0,()):=by simpa using h
  rw[this] at h4;cases h4
 ·exact aEd h
theorem aJn {m:Im} (hs:aK m=true) (c:Int) (hc:sin c (m.1.length:Int)=true):fH m (bX m c).2.1=true:=by
 simp only[sin,aC,aP] at hc
 have:=uA (uT hs) hc.1 hc.2
 simp only[iS,aC] at this
 exact this.2.1
theorem aQW {m:Im} (hs:aK m=true) (c:Int) (k:Nat):okT ((dQ m c).getD k zTp):=by
 have key:∀t∈dQ m c,okT t:=by
  intro t ht
  unfold dQ at ht
  simp only[iW,eZ,List.mem_reverse] at ht
  obtain⟨x,⟨s,hsm,rfl⟩,ht⟩:=ht
  have hin:sin s (m.1.length:Int)=true:=by
   unfold cB at hsm
   cases hd:decide (c<(m.1.length:Int)) <;> simp only[hd,aA,aB] at hsm
   ·cases hsm
   ·have:=oJ _ _ (hZ _) hsm
    have hd:c<(m.1.length:Int):=by simpa using hd
    simp only[sin,aC,aP]
    omega
  exact aEd (bM.1 (aJn hs s hin) t ht)
 by_cases hk:k<(dQ m c).length
 ·rw[getD_some (aT hk)]
  exact key _ (dU hk)
 ·rw[fI (by omega)];intro h4;cases h4
def iK (e:Eff):Prop:=∀t∈e.2.1,okT t
theorem lG {a:List Tp}:iK (a,[],()):=fun _ h=>by cases h
theorem jQ {a:List Tp} {t:Tp} (h:okT t):iK (a,[t],()):=fun _ hx=>by rw[eD] at hx;subst hx;exact h
theorem yZ {k n:Int} (h:k≠4∨n=0):okT (k,n,()):=fun h4=>by
 rcases h with h | h
 ·exact absurd h4 h
 ·exact h
theorem aHp {m:Im} (hs:aK m=true) {g:Int} (hg:inM m g=true) (t:List Tp):iK (iT (aD m g) t):=by
 unfold iT
 cases (aD m g).2.2.1.1 !=5 <;> simp only[aA,aB]
 ·exact lG
 ·exact jQ (aNj hs hg)
theorem aOD (o:Int):iK (eL o).1:=by
 unfold eL
 have h1:okT tI:=yZ (.inr rfl)
 have h2:okT tA:=yZ (.inr rfl)
 have h3:okT tN:=yZ (.inr rfl)
 refine cQ (P:=fun z:Eff×Bool×Unit=>iK z.1) (jQ h3) ?_
 refine cQ (P:=fun z:Eff×Bool×Unit=>iK z.1) lG ?_
 refine cQ (P:=fun z:Eff×Bool×Unit=>iK z.1) (jQ h1) ?_
 refine cQ (P:=fun z:Eff×Bool×Unit=>iK z.1) (jQ h1) ?_
 refine cQ (P:=fun z:Eff×Bool×Unit=>iK z.1) (jQ h1) ?_
 refine cQ (P:=fun z:Eff×Bool×Unit=>iK z.1) lG ?_
 refine cQ (P:=fun z:Eff×Bool×Unit=>iK z.1) (jQ h1) ?_
 refine cQ (P:=fun z:Eff×Bool×Unit=>iK z.1) (jQ h1) ?_
 refine cQ (P:=fun z:Eff×Bool×Unit=>iK z.1) lG ?_
 refine cQ (P:=fun z:Eff×Bool×Unit=>iK z.1) lG ?_
 refine cQ (P:=fun z:Eff×Bool×Unit=>iK z.1) (jQ h2) ?_
 exact cQ (P:=fun z:Eff×Bool×Unit=>iK z.1) (jQ h1) lG
theorem aOE {m:Im} (hs:aK m=true) {i:Ins} {f:Int} (hf:inM m f=true) (hi:cG m (aD m f) i=true):iK (eM m (aD m f) i):=by
 have hcl:=uT hs
 unfold eM
 rcases i with⟨o,a,b,⟨⟩⟩
 refine cQ (aOD _) ?_
 refine cQ (jQ (aPH hs hf _)) (cQ lG (cQ (jQ (yZ (.inl (by decide)))) (cQ (jQ (aQW hs _ _)) (cQ lG (cQ (jQ (aEa (aFT hs) _)) (cQ lG ?_))))))
 cases e:o==31
 case true=>
  obtain rfl:o=31:=by simpa using e
  have:sin a (m.2.2.2.1.length:Int)=true:=by simpa[cG] using hi
  exact aHp hs this _
 simp only[aB]
 cases e:o==32
 case true=>
  obtain rfl:o=32:=by simpa using e
  have:sin a (m.1.length:Int)=true∧sin b ((bX m a).2.2.1.length:Int)=true:=by simpa[cG] using hi
  have hsl:iH m a b=true:=by unfold iH;unfold sin at this;rw[this.1,this.2];rfl
  have h1:=xZ hsl
  simp only[sin,aC,aP] at this
  obtain⟨h2,h3⟩:=sF (uA hcl this.1.1 this.1.2) h1
  exact aHp hs (bD.2 h2) _
 simp only[aB]
 exact cQ (jQ (yZ (.inl (by decide)))) (cQ (cQ lG lG) lG)
theorem aLp {m:Im} (hs:aK m=true) {f pc:Int} {s:List Tp} (hok:∀t∈s,okT t):∀t∈(aO m f pc s).1,okT t:=by
 unfold aO
 cases hf:inM m f
 ·intro t ht;simp at ht
 cases hp:sin pc (codeN m f:Int)
 ·intro t ht;simp at ht
 simp only[aH,bA,aB]
 cases (dX (aG m f pc) pc).contains (codeN m f:Int)
 case true=>intro t ht;simp at ht
 simp only[aB]
 cases h6:(aG m f pc).1==6 <;> simp only[aA,aB]
 ·have ho:=aOE hs hf (sJ hs hf hp)
  unfold nG
  generalize eM m (aD m f) (aG m f pc)=E at ho⊢
  cases decide (s.length<E.1.length) || decide (s.length - E.1.length+E.2.1.length>8) <;> simp only[aA,aB]
  ·cases ((s.drop (s.length - E.1.length)).zip E.1).all fun p=>dZ m (aG m f pc).1 p.1 p.2 <;> simp only[aA,aB]
   ·intro t ht;cases ht
   ·intro t ht
    rcases cR.1 ht with ht | ht
    ·exact hok t (aEU ht)
    ·exact ho t ht
  ·intro t ht;cases ht
 ·cases decide (s.length=0) || decide (s.length≥8) <;> simp only[aA,aB]
  ·intro t ht
   rcases cR.1 ht with ht | ht
   ·exact hok t ht
   ·exact hok t (List.mem_of_mem_drop ht)
  ·intro t ht;cases ht
structure xK (N:Nat) (h:List Sh):Prop where
 len:h.length≤N
 ok:∀s∈h,s.2.1.length≤8
theorem aJc {q:List Bool} (h:q.any id=true):q.findIdx id<q.length:=List.findIdx_lt_length_of_exists (by
 obtain⟨x,hx,h⟩:=fL.1 h
 exact⟨x,hx,h⟩)
theorem aFa {m:Im} (hs:aK m=true) {f:Int} (hf:inM m f=true):∀(n:Nat) (h:List Sh) (q:List Bool),aAk (codeN m f) h q→mu m.1 h q<n→∃r,qI m f n h q=some r∧xK (codeN m f) r.1
 | 0,_,_,_,hm=>by omega
 | n+1,h,q,hg,hm=>by
  have hl:=(cV (dF hs).1).classes
  unfold qI
  cases ha:q.any id <;> simp only[aA,aB]
  ·exact⟨_,rfl,by rw[hg.hl];exact aW _,fun s hs=>(hg.ok s hs).len⟩
  ·have hk:=aJc ha
   generalize hpc:q.findIdx id=pc at hk
   have htrue:q.getD pc false=true:=by
    subst hpc
    have:=List.findIdx_getElem (p:=id) (xs:=q) (w:=hk)
    rw[getD_some (aT hk)]
    exact this
   have hpcN:pc<codeN m f:=by rw[←hg.ql];exact hk
   have hkh:pc<h.length:=by rw[hg.hl];exact hpcN
   have hg1:aAk (codeN m f) h (q.set pc false):=⟨hg.hl,by rw[dJ,hg.ql],hg.ok⟩
   have hone:sZ m f (pc:Int) h (q.set pc false)=true:=OneP.to ⟨hs,hf,by simp only[sin,aC,aP];omega,hg1.hl,hg1.ql,fun s hs=>fD (by have:=(hg.ok s hs).len;omega)⟩
   have hmu:mu m.1 h (q.set pc false)+1=mu m.1 h q:=by
    unfold mu
    have:=sB b2n false q pc false hk
    rw[htrue] at this
    have e0:b2n false=0:=rfl
    have e1:b2n true=1:=rfl
    omega
   unfold aAv
   rw[hone]
   simp only[aA,aJ]
   have hgs:aAj (h.getD pc zSh):=by rw[getD_some (aT hkh)];exact hg.ok _ (dU hkh)
   cases hr:(mE m f (pc:Int) h (q.set pc false)).1 <;> simp only[bA,cJ,aA,aB]
   ·exact⟨_,rfl,dL _,fun s hs=>by cases hs⟩
   ·unfold mE at hr⊢
    rw[aR] at hr⊢
    cases he:(aO m f (pc:Int) (h.getD pc zSh).2.1).2.2.1 !=0 <;> simp only[he,aA,aB] at hr⊢
    ·obtain⟨-,-,h8,hto⟩:=oT hs (f:=f) (pc:=(pc:Int)) (s:=(h.getD pc zSh).2.1) (by simpa using he)
     obtain⟨i1,i2⟩:=aDm hl (N:=codeN m f) h8 (aLp hs hgs.ok) (aO m f (pc:Int) (h.getD pc zSh).2.1).2.1 h (q.set pc false) hg1 hto
     exact aFa hs hf n _ _ i1 (by omega)
    ·cases hr
theorem aFj {m:Im} (hs:aK m=true) {f:Int} (hf:inM m f=true):∃r,xQ m f=some r∧xK (codeN m f) r.1:=by
 unfold xQ
 rw[hs,hf]
 simp only[aH,aA]
 have hc:=fB hs hf
 refine aFa hs hf _ _ _ ⟨by simp,by simp,fun s hs'=>?_⟩ ?_
 ·rcases uB hs' with h | rfl
  ·rw[aAf] at h
   rw[h.2]
   exact⟨dL _,fun _ h=>by cases h⟩
  ·exact⟨dL _,fun _ h=>by cases h⟩
 ·unfold mu
  have e1:=sB (nL m.1) zSh (List.replicate (codeN m f) zSh) 0 (true,[],()) (by simp;omega)
  have e2:=sB b2n false (List.replicate (codeN m f) false) 0 true (by simp;omega)
  have s1:∀n:Nat,bC ((List.replicate n zSh).map (nL m.1))=97*n:=by
   intro n
   induction n with
   | zero=>rfl
   | succ n ih=>rw[List.replicate_succ,dM,bC,ih];simp[nL];omega
  have s2:∀n:Nat,bC ((List.replicate n false).map b2n)=0:=by
   intro n
   induction n with
   | zero=>rfl
   | succ n ih=>rw[List.replicate_succ,dM,bC,ih];rfl
  rw[s1] at e1
  rw[s2] at e2
  have r1:nL m.1 (true,[],())=0:=rfl
  have r2:b2n true=1:=rfl
  omega
theorem aKi {m:Im} (hs:aK m=true):∀(l:List Int) (out:List (List Sh)),(∀f∈l,inM m f=true)→(∀h∈out,xK 64 h)→∃r,rK m l out=some r∧(∀h∈r.1,xK 64 h)∧(r.2.2.2.1=0→r.1.length=out.length+l.length)∧(r.2.2.2.1≠0→r.1=[])
 | [],out,_,ho=>⟨_,rfl,ho,fun _=>rfl,fun h=>absurd rfl h⟩
 | f::l,out,hl,ho=>by
  have hf:=hl f (bS ..)
  obtain⟨r,hr,hg⟩:=aFj hs hf
  have hc:=fB hs hf
  unfold rK
  rw[hr]
  simp only[aJ]
  cases he:r.2.2.1 !=0 <;> simp only[aA,aB]
  ·obtain⟨r',h1,h2,h3,h4⟩:=aKi hs l (out++[r.1]) (fun x hx=>hl x (bI _ hx)) (fun h hh=>by
    rcases cR.1 hh with hh | hh
    ·exact ho h hh
    ·rw[eD] at hh;subst hh;exact⟨by have:=hg.len;omega,hg.ok⟩)
   exact⟨r',h1,h2,fun h0=>by rw[h3 h0];simp;omega,h4⟩
  ·have:r.2.2.1≠0:=by simpa using he
   exact⟨_,rfl,fun h hh=>(by cases hh),fun h0=>absurd h0 this,fun _=>rfl⟩
theorem aOO {l:List (List Sh)} (hl:l.length≤12) (h:∀x∈l,xK 64 x):fC l=true:=by
 simp only[fC,aC,bM]
 refine⟨fD (by omega),fun x hx=>?_⟩
 have:=h x hx
 exact⟨fD (by have:=this.len;omega),fun s hs=>fD (by have:=this.ok s hs;omega)⟩
theorem aFp {m:Im} (hs:aK m=true):∃r,uO m=some r∧fC r.1=true∧(r.2.2.2.1=0→r.1.length=m.2.2.2.1.length):=by
 have h12:=(cV (dF hs).1).methods
 unfold uO
 rw[hs]
 simp only[aA]
 obtain⟨r,h1,h2,h3,h4⟩:=aKi hs (ints m.2.2.2.1.length) [] (fun f hf=>bD.2 (kO.1 hf)) (fun _ h=>by cases h)
 have hn:r.2.2.2.1=0→r.1.length=m.2.2.2.1.length:=fun h0=>by rw[h3 h0,mQ];simp
 refine⟨r,h1,aOO ?_ h2,hn⟩
 by_cases h0:r.2.2.2.1=0
 ·rw[hn h0];exact h12
 ·rw[h4 h0];exact dL _
end Go.Pli

namespace Go.Pli
open Go Go.PM
def gT (n:Int) (t:Tp):Prop:=gD t n=true∨t=(4,0,())
theorem tL {n:Int} {t:Tp} (h:gT n t):(t.1=1∧t.2.1=0)∨(t.1=2∧t.2.1=0)∨(t.1=3∧0≤t.2.1∧t.2.1<n)∨(t.1=4∧t.2.1=0):=by
 rcases h with h | rfl
 ·unfold gD at h
  cases h1:t.1==1
  ·cases h2:t.1==2
   ·rw[h1,h2] at h
    simp only[Bool.or_self,aB,aC,hY,aP] at h
    exact .inr (.inr (.inl ⟨h.1,h.2.1,h.2.2⟩))
   ·rw[h2,Bool.or_true] at h
    exact .inr (.inl ⟨by simpa using h2,by simpa using h⟩)
  ·rw[h1,uE] at h
   exact .inl ⟨by simpa using h1,by simpa using h⟩
 ·exact .inr (.inr (.inr ⟨rfl,rfl⟩))
theorem aIV {n:Int} {t:Tp} (h:gT n t):t.1≠0:=by rcases tL h with h | h | h | h <;> omega
theorem aBJ {n:Int} {t:Tp} (h:gT n t):okT t:=fun h4=>by rcases tL h with h | h | h | h <;> omega
theorem aKk {l:List Cl} {b c:Int}:∀(n:Nat) (a:Int),a.toNat<n→b∈cC l a→c∈cC l b→c∈cC l a
 | 0,_,h,_,_=>by omega
 | n+1,a,h,hb,hc=>by
  by_cases h0:a<0
  ·rw[fK h0] at hb;cases hb
  have hk:=lL (l:=l) (c:=a) (by omega)
  rw[hJ (by omega)] at hb⊢
  rcases bJ.1 hb with rfl | hb
  ·rwa [hJ (by omega)] at hc
  ·by_cases h2:kup l a<0
   ·rw[fK h2] at hb;cases hb
   ·exact bI _ (aKk n (kup l a) (by omega) hb hc)
theorem aSu {l:List Cl} {a:Int} (h:0≤a):a∈cC l a:=by rw[hJ h];exact bS ..
theorem oL {l:List Cl} {a b:Int}:dI l a b=true↔0≤b∧b<(l.length:Int)∧a<(l.length:Int)∧b∈cC l a:=by
 unfold dI
 simp only[aC,aP,rT]
theorem aSI {l:List Cl} {a b c:Int} (h1:dI l a b=true) (h2:dI l b c=true):dI l a c=true:=by
 rw[oL] at*
 exact⟨h2.1,h2.2.1,h1.2.2.1,aKk _ _ (hZ _) h1.2.2.2 h2.2.2.2⟩
theorem iX {l:List Cl} {a b:Tp}:cK l a b=true↔(a.1=4∧iR b=true)∨(a.1=3∧b.1=3∧dI l a.2.1 b.2.1=true)∨(a=b∧(a.1=1∨a.1=2)):=by
 unfold cK
 cases h4:a.1==4
 ·have n4:a.1≠4:=by simpa using h4
  cases h33:a.1==3&&b.1==3 <;> simp only[aA,aB]
  ·simp only[aC,eQ,hY]
   constructor
   ·exact fun h=> .inr (.inr h)
   ·rintro (h | h | h)
    ·exact absurd h.1 n4
    ·simp[h.1,h.2.1] at h33
    ·exact h
  ·simp only[aC,hY] at h33
   constructor
   ·exact fun h=> .inr (.inl ⟨h33.1,h33.2,h⟩)
   ·rintro (h | h | h)
    ·exact absurd h.1 n4
    ·exact h.2.2
    ·omega
 ·have e4:a.1=4:=by simpa using h4
  simp only[aA]
  constructor
  ·exact fun h=> .inl ⟨e4,h⟩
  ·rintro (h | h | h)
   ·exact h.2
   ·omega
   ·omega
theorem wG {t:Tp}:iR t=true↔t.1=2∨t.1=3∨t.1=4:=by
 unfold iR
 simp only[eQ,hY]
theorem aCF {l:List Cl} {a:Tp} (h:gT (l.length:Int) a):cK l a a=true:=by
 rw[iX]
 rcases tL h with h | h | h | h
 ·exact .inr (.inr ⟨rfl,.inl h.1⟩)
 ·exact .inr (.inr ⟨rfl,.inr h.1⟩)
 ·exact .inr (.inl ⟨h.1,h.1,oL.2 ⟨h.2.1,h.2.2,h.2.2,aSu h.2.1⟩⟩)
 ·exact .inl ⟨h.1,wG.2 (.inr (.inr h.1))⟩
theorem aFA {l:List Cl} {a b c:Tp} (h1:cK l a b=true) (h2:cK l b c=true):cK l a c=true:=by
 rw[iX] at*
 rcases h1 with⟨a4,hb⟩ | ⟨a3,b3,hab⟩ | ⟨rfl,ha⟩
 ·refine .inl ⟨a4,?_⟩
  rcases h2 with⟨_,hc⟩ | ⟨_,c3,_⟩ | ⟨rfl,_⟩
  ·exact hc
  ·exact wG.2 (.inr (.inl c3))
  ·exact hb
 ·rcases h2 with⟨b4,_⟩ | ⟨_,c3,hbc⟩ | ⟨rfl,hb⟩
  ·omega
  ·exact .inr (.inl ⟨a3,c3,aSI hab hbc⟩)
  ·omega
 ·exact h2
theorem aLj {l:List Cl} {a b:Tp} (ga:gT (l.length:Int) a) (gb:gT (l.length:Int) b) (h1:cK l a b=true) (h2:cK l b a=true):a=b:=by
 rw[iX] at*
 rcases h1 with⟨a4,hb⟩ | ⟨a3,b3,hab⟩ | ⟨h,_⟩
 ·rcases h2 with⟨b4,_⟩ | ⟨_,a3,_⟩ | ⟨h,_⟩
  ·have e1:=aBJ ga a4
   have e2:=aBJ gb b4
   exact rY (by omega) (by omega)
  ·omega
  ·exact h.symm
 ·rcases h2 with⟨b4,_⟩ | ⟨_,_,hba⟩ | ⟨h,_⟩
  ·omega
  ·have i1:=(oJ _ _ (hZ _) (oL.1 hab).2.2.2).2
   have i2:=(oJ _ _ (hZ _) (oL.1 hba).2.2.2).2
   exact rY (by omega) (by omega)
  ·exact h.symm
 ·exact h
theorem aJd {l:List Cl} {p:Int→Bool} {x c:Int}:∀(n:Nat) (d:Int),d.toNat<n→(cC l d).find? p=some x→c∈cC l d→p c=true→c∈cC l x
 | 0,_,h,_,_,_=>by omega
 | n+1,d,h,hf,hc,hp=>by
  by_cases h0:d<0
  ·rw[fK h0] at hc;cases hc
  have hk:=lL (l:=l) (c:=d) (by omega)
  rw[hJ (by omega),aEV] at hf
  cases hpd:p d
  ·rw[hpd] at hf
   rw[hJ (by omega)] at hc
   rcases bJ.1 hc with rfl | hc
   ·rw[hpd] at hp;cases hp
   ·by_cases h2:kup l d<0
    ·rw[fK h2] at hc;cases hc
    ·exact aJd n (kup l d) (by omega) hf hc hp
  ·rw[hpd] at hf
   injection hf with hf
   subst hf
   exact hc
theorem aPZ {l:List Cl} {a b:Tp} (ga:gT (l.length:Int) a) (gb:gT (l.length:Int) b) (h:(gE l a b).1≠0):cK l a (gE l a b)=true∧cK l b (gE l a b)=true∧gT (l.length:Int) (gE l a b):=by
 unfold gE at h⊢
 cases h1:cK l a b <;> simp only[h1,aA,aB] at h⊢
 ·cases h2:cK l b a <;> simp only[h2,aA,aB] at h⊢
  ·cases h3:a.1 !=3 || b.1 !=3 <;> simp only[h3,aA,aB] at h⊢
   ·have h3a:a.1=3:=by simpa using (Bool.or_eq_false_iff.1 h3).1
    have h3b:b.1=3:=by simpa using (Bool.or_eq_false_iff.1 h3).2
    cases hf:(cC l (kup l a.2.1)).find? fun c=>dI l b.2.1 c with
    | none=>rw[hf] at h;exact absurd rfl h
    | some c=>
     have hm:=List.mem_of_find?_eq_some hf
     have hb:dI l b.2.1 c=true:=by simpa using List.find?_some hf
     have hb':=oL.1 hb
     have ga':0≤a.2.1∧a.2.1<(l.length:Int):=by rcases tL ga with h | h | h | h <;> omega
     have hca:c∈cC l a.2.1:=by rw[hJ ga'.1];exact bI _ hm
     refine⟨iX.2 (.inr (.inl ⟨h3a,rfl,oL.2 ⟨hb'.1,hb'.2.1,ga'.2,hca⟩⟩)),iX.2 (.inr (.inl ⟨h3b,rfl,hb⟩)),.inl ?_⟩
     simp only[gD]
     rw[aI hb'.1,aI hb'.2.1]
     rfl
   ·exact absurd rfl h
  ·exact⟨aCF ga,trivial,ga⟩
 ·exact⟨trivial,aCF gb,gb⟩
theorem aP1 {l:List Cl} {a b c:Tp} (ga:gT (l.length:Int) a) (gb:gT (l.length:Int) b) (gc:gT (l.length:Int) c) (hac:cK l a c=true) (hbc:cK l b c=true):(gE l a b).1≠0∧cK l (gE l a b) c=true:=by
 unfold gE
 cases h1:cK l a b <;> simp only[aA,aB]
 ·cases h2:cK l b a <;> simp only[aA,aB]
  ·have n1:¬cK l a b=true:=by rw[h1];exact Bool.false_ne_true
   have n2:¬cK l b a=true:=by rw[h2];exact Bool.false_ne_true
   have h33:a.1=3∧b.1=3:=by
    have ka:=tL ga
    have kb:=tL gb
    rcases iX.1 hac with⟨a4,hc⟩ | ⟨a3,c3,_⟩ | ⟨e,ha⟩
    ·exfalso
     refine n1 (iX.2 (.inl ⟨a4,?_⟩))
     rw[wG] at hc⊢
     rcases iX.1 hbc with⟨b4,_⟩ | ⟨b3,_⟩ | ⟨e,hb⟩
     ·exact .inr (.inr b4)
     ·exact .inr (.inl b3)
     ·subst e;omega
    ·refine⟨a3,?_⟩
     rcases iX.1 hbc with⟨b4,_⟩ | ⟨b3,_⟩ | ⟨e,hb⟩
     ·exact absurd (iX.2 (.inl ⟨b4,wG.2 (.inr (.inl a3))⟩)) n2
     ·exact b3
     ·subst e;omega
    ·exfalso
     subst e
     exact n2 hbc
   have h3:(a.1 !=3 || b.1 !=3)=false:=by simp[h33.1,h33.2]
   rw[h3]
   simp only[aB]
   have hac':a.1=3∧c.1=3∧dI l a.2.1 c.2.1=true:=by
    rcases iX.1 hac with⟨a4,hc⟩ | h | ⟨e,ha⟩
    ·omega
    ·exact h
    ·omega
   have hbc':dI l b.2.1 c.2.1=true:=by
    rcases iX.1 hbc with⟨a4,hc⟩ | h | ⟨e,ha⟩
    ·omega
    ·exact h.2.2
    ·omega
   have ga':0≤a.2.1∧a.2.1<(l.length:Int):=by rcases tL ga with h | h | h | h <;> omega
   have hc:=oL.1 hac'.2.2
   have hne:c.2.1≠a.2.1:=fun e=>n2 (by
    have:c=a:=rY (by omega) e
    rw[←this];exact hbc)
   have hcm:c.2.1∈cC l (kup l a.2.1):=by
    have:=hc.2.2.2
    rw[hJ ga'.1] at this
    rcases bJ.1 this with h | h
    ·exact absurd h hne
    ·exact h
   cases hf:(cC l (kup l a.2.1)).find? fun c=>dI l b.2.1 c with
   | none=>
    have:=List.find?_eq_none.1 hf _ hcm
    exact absurd hbc' this
   | some x=>
    have hx:dI l b.2.1 x=true:=by simpa using List.find?_some hf
    have hx':=oL.1 hx
    refine⟨fun h=>by simp at h,iX.2 (.inr (.inl ⟨rfl,hac'.2.1,oL.2 ⟨hc.1,hc.2.1,hx'.2.1,?_⟩⟩))⟩
    exact aJd _ _ (hZ _) hf hcm hbc'
  ·exact⟨aIV ga,hac⟩
 ·exact⟨aIV gb,hbc⟩
def leS (l:List Cl):List Tp→List Tp→Prop
 | [],[]=>True
 | x::a,y::b=>cK l x y=true∧leS l a b
 | _,_=>False
def gS (n:Int) (s:List Tp):Prop:=∀t∈s,gT n t
theorem gH {n:Int} {t:Tp} {s:List Tp} (h:gS n (t::s)):gT n t∧gS n s:=⟨h t (bS ..),fun x hx=>h x (bI _ hx)⟩
theorem qZ {l:List Cl}:∀{a b:List Tp},leS l a b→a.length=b.length
 | [],[],_=>rfl
 | [],_::_,h=>h.elim
 | _::_,[],h=>h.elim
 | _::_,_::_,h=>by simp only[aF,qZ h.2]
theorem zN {l:List Cl}:∀{a:List Tp},gS (l.length:Int) a→leS l a a
 | [],_=>trivial
 | _::_,h=>⟨aCF (gH h).1,zN (gH h).2⟩
theorem tF {l:List Cl}:∀{a b c:List Tp},leS l a b→leS l b c→leS l a c
 | [],[],[],_,_=>trivial
 | _::_,_::_,_::_,h1,h2=>⟨aFA h1.1 h2.1,tF h1.2 h2.2⟩
 | [],[],_::_,_,h=>h.elim
 | [],_::_,_,h,_=>h.elim
 | _::_,[],_,h,_=>h.elim
 | _::_,_::_,[],_,h=>h.elim
theorem aIr {l:List Cl}:∀{a b:List Tp},gS (l.length:Int) a→gS (l.length:Int) b→leS l a b→leS l b a→a=b
 | [],[],_,_,_,_=>rfl
 | _::_,_::_,ga,gb,h1,h2=>by rw[aLj (gH ga).1 (gH gb).1 h1.1 h2.1,aIr (gH ga).2 (gH gb).2 h1.2 h2.2]
 | [],_::_,_,_,h,_=>h.elim
 | _::_,[],_,_,h,_=>h.elim
theorem aDY {l:List Cl}:∀(n:Nat) {a b:List Tp},leS l a b→leS l (a.drop n) (b.drop n)
 | 0,_,_,h=>h
 | _+1,[],[],h=>h
 | n+1,_::_,_::_,h=>aDY n h.2
 | _+1,[],_::_,h=>h.elim
 | _+1,_::_,[],h=>h.elim
theorem aIq {l:List Cl}:∀(n:Nat) {a b:List Tp},leS l a b→leS l (a.take n) (b.take n)
 | 0,_,_,_=>trivial
 | _+1,[],[],h=>h
 | n+1,_::_,_::_,h=>⟨h.1,aIq n h.2⟩
 | _+1,[],_::_,h=>h.elim
 | _+1,_::_,[],h=>h.elim
theorem aDZ {l:List Cl}:∀{a b c d:List Tp},leS l a b→leS l c d→leS l (a++c) (b++d)
 | [],[],_,_,_,h=>h
 | _::_,_::_,_,_,h1,h2=>⟨h1.1,aDZ h1.2 h2⟩
 | [],_::_,_,_,h,_=>h.elim
 | _::_,[],_,_,h,_=>h.elim
theorem aHU {l:List Cl}:∀{a s:List Tp},a.length=s.length→gS (l.length:Int) a→gS (l.length:Int) s→(∀t∈bY l a s,t.1≠0)→leS l a (bY l a s)∧leS l s (bY l a s)∧gS (l.length:Int) (bY l a s)
 | [],[],_,_,_,_=>⟨trivial,trivial,fun _ h=>(by cases h)⟩
 | [],_::_,h,_,_,_=>by cases h
 | _::_,[],h,_,_,_=>by cases h
 | x::a,y::s,h,ga,gs,hz=>by
  have hm:bY l (x::a) (y::s)=gE l x y::bY l a s:=rfl
  rw[hm] at hz⊢
  obtain⟨i1,i2,i3⟩:=aHU (l:=l) (a:=a) (s:=s) (by simpa using h) (gH ga).2 (gH gs).2 fun t ht=>hz t (bI _ ht)
  obtain⟨j1,j2,j3⟩:=aPZ (gH ga).1 (gH gs).1 (hz _ (bS ..))
  exact⟨⟨j1,i1⟩,⟨j2,i2⟩,fun t ht=>by
   rcases bJ.1 ht with rfl | ht
   ·exact j3
   ·exact i3 t ht⟩
theorem aHV {l:List Cl}:∀{a s c:List Tp},gS (l.length:Int) a→gS (l.length:Int) s→gS (l.length:Int) c→leS l a c→leS l s c→(∀t∈bY l a s,t.1≠0)∧leS l (bY l a s) c
 | [],[],[],_,_,_,_,_=>⟨fun _ h=>(by cases h),trivial⟩
 | x::a,y::s,z::c,ga,gs,gc,h1,h2=>by
  have hm:bY l (x::a) (y::s)=gE l x y::bY l a s:=rfl
  rw[hm]
  obtain⟨i1,i2⟩:=aHV (gH ga).2 (gH gs).2 (gH gc).2 h1.2 h2.2
  obtain⟨j1,j2⟩:=aP1 (gH ga).1 (gH gs).1 (gH gc).1 h1.1 h2.1
  exact⟨fun t ht=>by
   rcases bJ.1 ht with rfl | ht
   ·exact j1
   ·exact i1 t ht,⟨j2,i2⟩⟩
 | [],_,_::_,_,_,_,h,_=>h.elim
 | _::_,_,[],_,_,_,h,_=>h.elim
 | [],_::_,[],_,_,_,_,h=>h.elim
 | _::_,[],_::_,_,_,_,_,h=>h.elim
end Go.Pli

namespace Go.Pli
open Go Go.PM
abbrev nC (m:Im):Int:=(m.1.length:Int)
theorem aEb {m:Im} {l:List Tp} (h:fH m l=true) {k:Nat} (hk:k<l.length):gT (nC m) (l.getD k zTp):=by
 rw[getD_some (aT hk)]
 exact .inl (bM.1 h _ (dU hk))
theorem aPJ {m:Im} (hs:aK m=true) {f:Int} (hf:inM m f=true) {n:Int} (hn:sin n (((aD m f).1.length+(aD m f).2.1.length:Nat):Int)=true):gT (nC m) (jT (aD m f) n):=by
 have h:=qO hs hf
 simp only[fF,aC] at h
 simp only[sin,aC,aP] at hn
 unfold jT
 rw[bO (show ¬n<0 by omega),aB,aEg]
 split
 ·exact aEb h.1 (by assumption)
 ·exact aEb h.2.1 (by omega)
theorem aNk {m:Im} (hs:aK m=true) {f:Int} (hf:inM m f=true) (h5:((aD m f).2.2.1.1 !=5)=true):gT (nC m) (aD m f).2.2.1:=by
 have h:=qO hs hf
 simp only[fF,aC,eQ] at h
 rcases h.2.2.1 with h | h
 ·have:(aD m f).2.2.1=(5,0,()):=by simpa using h
  rw[this] at h5;cases h5
 ·exact .inl h
theorem aQX {m:Im} (hs:aK m=true) {c:Int} {k:Nat} (hk:k<(dQ m c).length):gT (nC m) ((dQ m c).getD k zTp):=by
 rw[getD_some (aT hk)]
 have ht:=dU hk
 generalize (dQ m c)[k]=t at ht
 unfold dQ at ht
 simp only[iW,eZ,List.mem_reverse] at ht
 obtain⟨x,⟨s,hsm,rfl⟩,ht⟩:=ht
 have hin:sin s (m.1.length:Int)=true:=by
  unfold cB at hsm
  cases hd:decide (c<(m.1.length:Int)) <;> simp only[hd,aA,aB] at hsm
  ·cases hsm
  ·have:=oJ _ _ (hZ _) hsm
   have hd:c<(m.1.length:Int):=by simpa using hd
   simp only[sin,aC,aP]
   omega
 exact .inl (bM.1 (aJn hs s hin) t ht)
theorem aKg {m:Im} {c:Int} (h:sin c (m.1.length:Int)=true):gT (nC m) (tR c):=by
 simp only[sin,aC,aP] at h
 refine .inl ?_
 simp only[gD,tR]
 rw[aI h.1,aI h.2]
 rfl
def rR (n:Int) (e:Eff):Prop:=gS n e.2.1
theorem mJ {n:Int} {a:List Tp}:rR n (a,[],()):=fun _ h=>by cases h
theorem jR {n:Int} {a:List Tp} {t:Tp} (h:gT n t):rR n (a,[t],()):=fun _ hx=>by rw[eD] at hx;subst hx;exact h
theorem aHr {m:Im} (hs:aK m=true) {g:Int} (hg:inM m g=true) (t:List Tp):rR (nC m) (iT (aD m g) t):=by
 unfold iT
 cases h:(aD m g).2.2.1.1 !=5 <;> simp only[aA,aB]
 ·exact mJ
 ·exact jR (aNk hs hg h)
theorem aOG {n:Int} (o:Int):rR n (eL o).1:=by
 have h1:gT n tI:= .inl rfl
 have h2:gT n tA:= .inl rfl
 have h3:gT n tN:= .inr rfl
 have P:∀{b:Bool} {x y:Eff×Bool×Unit},rR n x.1→rR n y.1→rR n (bif b then x else y).1:=fun {b} {x} {y} h1 h2=>by cases b;exact h2;exact h1
 unfold eL
 exact P (jR h3) (P mJ (P (jR h1) (P (jR h1) (P (jR h1) (P mJ (P (jR h1) (P (jR h1) (P mJ (P mJ (P (jR h2) (P (jR h1) mJ)))))))))))
theorem aHq {m:Im} (hs:aK m=true) {i:Ins} {f:Int} (hf:inM m f=true) (hi:cG m (aD m f) i=true):rR (nC m) (eM m (aD m f) i):=by
 have hcl:=uT hs
 rcases i with⟨o,a,b,⟨⟩⟩
 unfold eM
 cases hp:(eL o).2.1
 case true=>exact aOG _
 simp only[aB]
 cases e:o==3
 case true=>
  obtain rfl:o=3:=by simpa using e
  exact jR (aPJ hs hf (by simpa[cG] using hi))
 simp only[aB]
 cases e:o==4
 case true=>exact mJ
 simp only[aB]
 cases e:o==22
 case true=>
  obtain rfl:o=22:=by simpa using e
  exact jR (aKg (by simpa[cG] using hi))
 simp only[aB]
 cases e:o==27
 case true=>
  obtain rfl:o=27:=by simpa using e
  have:sin a (m.1.length:Int)=true∧sin b (jD m a:Int)=true:=by simpa[cG] using hi
  obtain⟨h1,h2⟩:=this
  simp only[sin,aC,aP] at h1 h2
  rw[←zV h1.2] at h2
  exact jR (aQX hs (by omega))
 simp only[aB]
 cases e:o==28
 case true=>exact mJ
 simp only[aB]
 cases e:o==29
 case true=>
  obtain rfl:o=29:=by simpa using e
  have:sin a (m.2.1.length:Int)=true:=by simpa[cG] using hi
  simp only[sin,aC,aP] at this
  exact jR (aEb (aFT hs) (by omega))
 simp only[aB]
 cases e:o==30
 case true=>exact mJ
 simp only[aB]
 cases e:o==31
 case true=>
  obtain rfl:o=31:=by simpa using e
  have:sin a (m.2.2.2.1.length:Int)=true:=by simpa[cG] using hi
  exact aHr hs this _
 simp only[aB]
 cases e:o==32
 case true=>
  obtain rfl:o=32:=by simpa using e
  have:sin a (m.1.length:Int)=true∧sin b ((bX m a).2.2.1.length:Int)=true:=by simpa[cG] using hi
  have hsl:iH m a b=true:=by unfold iH;unfold sin at this;rw[this.1,this.2];rfl
  have h1:=xZ hsl
  simp only[sin,aC,aP] at this
  obtain⟨h2,h3⟩:=sF (uA hcl this.1.1 this.1.2) h1
  exact aHr hs (bD.2 h2) _
 simp only[aB]
 cases e:o==34
 case true=>
  obtain rfl:o=34:=by simpa using e
  exact jR (aKg (by simpa[cG] using hi))
 simp only[aB]
 cases o==33 <;> simp only[aA,aB]
 ·exact mJ
 ·cases (aD m f).2.2.1.1 !=5 <;> exact mJ
theorem aAC {m:Im} (hs:aK m=true) {f pc:Int} {s:List Tp} (hok:gS (nC m) s):gS (nC m) (aO m f pc s).1:=by
 have nil:gS (nC m) []:=fun _ h=>by cases h
 unfold aO
 cases hf:inM m f
 ·exact nil
 cases hp:sin pc (codeN m f:Int)
 ·exact nil
 simp only[aH,bA,aB]
 cases (dX (aG m f pc) pc).contains (codeN m f:Int)
 case true=>exact nil
 simp only[aB]
 cases h6:(aG m f pc).1==6 <;> simp only[aA,aB]
 ·have ho:=aHq hs hf (sJ hs hf hp)
  unfold nG
  generalize eM m (aD m f) (aG m f pc)=E at ho⊢
  cases decide (s.length<E.1.length) || decide (s.length - E.1.length+E.2.1.length>8) <;> simp only[aA,aB]
  ·cases ((s.drop (s.length - E.1.length)).zip E.1).all fun p=>dZ m (aG m f pc).1 p.1 p.2 <;> simp only[aA,aB]
   ·exact nil
   ·intro t ht
    rcases cR.1 ht with ht | ht
    ·exact hok t (aEU ht)
    ·exact ho t ht
  ·exact nil
 ·cases decide (s.length=0) || decide (s.length≥8) <;> simp only[aA,aB]
  ·intro t ht
   rcases cR.1 ht with ht | ht
   ·exact hok t ht
   ·exact hok t (List.mem_of_mem_drop ht)
  ·exact nil
theorem aQS {m:Im} {o:Int} {a b w:Tp} (h:cK m.1 a b=true) (hb:dZ m o b w=true):dZ m o a w=true:=by
 unfold dZ at hb⊢
 cases h0:w.1==0 <;> simp only[h0,aA,aB] at hb⊢
 cases h4:w.1==4 <;> simp only[h4,aA,aB] at hb⊢
 ·exact aFA h hb
 ·simp only[aC,eQ,bne_iff_ne] at hb⊢
  rcases iX.1 h with⟨a4,_⟩ | ⟨a3,_⟩ | ⟨rfl,_⟩
  ·exact⟨wG.2 (.inr (.inr a4)),.inr (by omega)⟩
  ·exact⟨wG.2 (.inr (.inl a3)),.inr (by omega)⟩
  ·exact hb
theorem aKR {m:Im} {o:Int}:∀{a b:List Tp} {w:List Tp},leS m.1 a b→((b.zip w).all fun p=>dZ m o p.1 p.2)=true→((a.zip w).all fun p=>dZ m o p.1 p.2)=true
 | [],[],_,_,_=>by simp
 | x::a,y::b,[],_,_=>by simp
 | x::a,y::b,w::ws,hle,h=>by
  simp only[List.zip_cons_cons,fM,aC] at h⊢
  exact⟨aQS hle.1 h.1,aKR hle.2 h.2⟩
 | [],_::_,_,h,_=>h.elim
 | _::_,[],_,h,_=>h.elim
theorem aFE {m:Im} (hs:aK m=true) {f pc:Int} {s t:List Tp} (hle:leS m.1 s t) (h:(aO m f pc t).2.2.1=0):
  (aO m f pc s).2.2.1=0∧(aO m f pc s).2.1=(aO m f pc t).2.1∧leS m.1 (aO m f pc s).1 (aO m f pc t).1:=by
 have hlen:=qZ hle
 unfold aO at h⊢
 cases hf:inM m f
 ·rw[hf] at h;simp at h
 cases hp:sin pc (codeN m f:Int)
 ·rw[hf,hp] at h;simp at h
 simp only[hf,hp,aH,bA,aB] at h⊢
 cases hn:(dX (aG m f pc) pc).contains (codeN m f:Int)
 case true=>rw[hn] at h;simp at h
 simp only[hn,aB] at h⊢
 have hi:=sJ hs hf hp
 cases h6:(aG m f pc).1==6 <;> simp only[h6,aA,aB] at h⊢
 ·have ho:=aHq hs hf hi
  unfold nG at h⊢
  rw[hlen]
  generalize eM m (aD m f) (aG m f pc)=E at h ho⊢
  cases hb:decide (t.length<E.1.length) || decide (t.length - E.1.length+E.2.1.length>8) <;> simp only[hb,aA,aB] at h⊢
  ·cases hz:((t.drop (t.length - E.1.length)).zip E.1).all fun p=>dZ m (aG m f pc).1 p.1 p.2 <;> simp only[hz,aA,aB] at h⊢
   ·cases h
   ·rw[aKR (aDY _ hle) hz]
    exact⟨rfl,rfl,aDZ (aIq _ hle) (zN ho)⟩
  ·cases h
 ·rw[hlen]
  cases hb:decide (t.length=0) || decide (t.length≥8) <;> simp only[hb,aA,aB] at h⊢
  ·exact⟨trivial,trivial,aDZ hle (aDY _ hle)⟩
  ·cases h
structure Gd (m:Im) (N:Nat) (h:List Sh):Prop where
 len:h.length=N
 good:∀s∈h,s.2.1.length≤8∧gS (nC m) s.2.1
 bare:∀s∈h,s.1=false→s=zSh
def sh (h:List Sh) (k:Nat):Sh:=h.getD k zSh
theorem Gd.at' {m:Im} {N:Nat} {h:List Sh} (hg:Gd m N h) (k:Nat):(sh h k).2.1.length≤8∧gS (nC m) (sh h k).2.1:=by
 unfold sh
 by_cases hk:k<h.length
 ·rw[getD_some (aT hk)];exact hg.good _ (dU hk)
 ·rw[fI (by omega)];exact⟨dL _,fun _ h=>by cases h⟩
def Bel (m:Im) (h S:List Sh):Prop:=∀k,(sh h k).1=true→(sh S k).1=true∧leS m.1 (sh h k).2.1 (sh S k).2.1
def Cov (m:Im) (f:Int) (h:List Sh) (pc:Nat):Prop:=
 (aO m f (pc:Int) (sh h pc).2.1).2.2.1=0∧∀to∈(aO m f (pc:Int) (sh h pc).2.1).2.1,(sh h to.toNat).1=true∧leS m.1 (aO m f (pc:Int) (sh h pc).2.1).1 (sh h to.toNat).2.1
structure PF (m:Im) (f:Int) (S:List Sh):Prop where
 gd:Gd m (codeN m f) S
 start:(sh S 0).1=true∧(sh S 0).2.1=[]
 cov:∀pc,(sh S pc).1=true→Cov m f S pc
theorem aKK {m:Im} {N:Nat} {h:List Sh} (hg:Gd m N h):Bel m h h:=fun k hk=>⟨hk,zN (hg.at' k).2⟩
theorem aKI {m:Im} {a b c:List Sh} (h1:Bel m a b) (h2:Bel m b c):Bel m a c:=fun k hk=>by
 obtain⟨i1,i2⟩:=h1 k hk
 obtain⟨j1,j2⟩:=h2 k i1
 exact⟨j1,tF i2 j2⟩
theorem aB9 {m:Im} {N:Nat} {a b:List Sh} (ga:Gd m N a) (gb:Gd m N b) (h1:Bel m a b) (h2:Bel m b a):a=b:=by
 refine uD (by rw[ga.len,gb.len]) fun k k1 k2=>?_
 have e1:sh a k=a[k]:=getD_some (aT k1)
 have e2:sh b k=b[k]:=getD_some (aT k2)
 rw[←e1,←e2]
 have key:∀(x y:Sh),x.1=y.1→x.2.1=y.2.1→x=y:=by
  rintro ⟨x1,x2,⟨⟩⟩ ⟨y1,y2,⟨⟩⟩ h1 h2
  simp only at h1 h2
  subst h1 h2
  rfl
 cases hs:(sh a k).1
 ·cases hb:(sh b k).1
  ·rw[e1] at hs⊢
   rw[e2] at hb⊢
   rw[ga.bare _ (dU k1) hs,gb.bare _ (dU k2) hb]
  ·have:=(h2 k hb).1
   rw[hs] at this;cases this
 ·obtain⟨i1,i2⟩:=h1 k hs
  exact key _ _ (by rw[hs,i1]) (aIr (ga.at' k).2 (gb.at' k).2 i2 (h2 k i1).2)
theorem oW {h:List Sh} {k:Nat} (hk:k<h.length) (s:Sh) (j:Nat):sh (h.set k s) j=if j=k then s else sh h j:=by
 unfold sh
 rw[cW,cW,iB]
 by_cases hj:k=j
 ·subst hj;simp[hk]
 ·have:¬j=k:=fun h=>hj h.symm
  simp[hj,this]
theorem aHW {m:Im} {o:Sh} {s:List Tp} (ho:o.2.1.length≤8∧gS (nC m) o.2.1) (hs8:s.length≤8) (hs:gS (nC m) s) (h:(dB m.1 o s).2.2.1=true):
  ((dB m.1 o s).1.2.1.length≤8∧gS (nC m) (dB m.1 o s).1.2.1)∧(dB m.1 o s).1.1=true∧leS m.1 s (dB m.1 o s).1.2.1∧(o.1=true→leS m.1 o.2.1 (dB m.1 o s).1.2.1)∧((dB m.1 o s).2.1=false→o.1=true∧(dB m.1 o s).1.2.1=o.2.1):=by
 unfold dB at h⊢
 cases h1:o.1 <;> simp only[h1,bA,cJ,aA,aB] at h⊢
 ·exact⟨⟨hs8,hs⟩,trivial,zN hs,fun h=>(by cases h),fun h=>(by cases h)⟩
 ·cases h2:decide (o.2.1.length≠s.length) <;> simp only[h2,aA,aB] at h⊢
  ·have hlen:o.2.1.length=s.length:=by simpa using h2
   cases h3:(bY m.1 o.2.1 s).any fun t=>t.1==0 <;> simp only[h3,aA,aB] at h⊢
   ·have hz:∀t∈bY m.1 o.2.1 s,t.1≠0:=fun t ht h0=>by
     have:((bY m.1 o.2.1 s).any fun t=>t.1==0)=true:=fL.2 ⟨t,ht,by simp[h0]⟩
     rw[h3] at this;cases this
    obtain⟨i1,i2,i3⟩:=aHU hlen ho.2 hs hz
    refine⟨⟨by rw[vY m.1 hlen];exact hs8,i3⟩,trivial,i2,fun _=>i1,fun h=>⟨trivial,by simpa using h⟩⟩
   ·cases h
  ·cases h
theorem aPk {m:Im} {o S:Sh} {s:List Tp} (ho:gS (nC m) o.2.1) (hS:gS (nC m) S.2.1) (hs:gS (nC m) s) (h1:o.1=true→leS m.1 o.2.1 S.2.1) (h2:leS m.1 s S.2.1):
  (dB m.1 o s).2.2.1=true∧leS m.1 (dB m.1 o s).1.2.1 S.2.1:=by
 unfold dB
 cases ho1:o.1 <;> simp only[bA,cJ,aA,aB]
 ·exact⟨trivial,h2⟩
 ·have hle:=h1 ho1
  have hlen:o.2.1.length=s.length:=by rw[qZ hle,qZ h2]
  have e:decide (o.2.1.length≠s.length)=false:=bO fun h=>h hlen
  rw[e]
  simp only[aB]
  obtain⟨i1,i2⟩:=aHV ho hs hS hle h2
  have h3:((bY m.1 o.2.1 s).any fun t=>t.1==0)=false:=by
   cases hh:(bY m.1 o.2.1 s).any fun t=>t.1==0
   ·rfl
   ·obtain⟨t,ht,h0⟩:=fL.1 hh
    exact absurd (by simpa using h0) (i1 t ht)
  rw[h3]
  exact⟨rfl,i2⟩
end Go.Pli

namespace Go.Pli
open Go Go.PM
theorem aLr {m:Im} (hs:aK m=true) {f pc:Int} {s:List Tp} (h:(aO m f pc s).2.2.1=0):(aO m f pc s).1.length≤s.length+1:=by
 unfold aO at h⊢
 cases hf:inM m f
 ·rw[hf] at h;simp at h
 cases hp:sin pc (codeN m f:Int)
 ·rw[hf,hp] at h;simp at h
 simp only[hf,hp,aH,bA,aB] at h⊢
 cases hn:(dX (aG m f pc) pc).contains (codeN m f:Int)
 case true=>rw[hn] at h;simp at h
 simp only[hn,aB] at h⊢
 cases h6:(aG m f pc).1==6 <;> simp only[h6,aA,aB] at h⊢
 ·have ho:(eM m (aD m f) (aG m f pc)).2.1.length≤1:=by
   have C:∀(x:Mt) (t:List Tp),(iT x t).2.1.length≤1:=fun x t=>by
    unfold iT
    cases x.2.2.1.1 !=5 <;> simp
   have P:∀{b:Bool} {x y:Eff},x.2.1.length≤1→y.2.1.length≤1→(bif b then x else y).2.1.length≤1:=fun {b} {x} {y} h1 h2=>by cases b;exact h2;exact h1
   have Q:∀{b:Bool} {x y:Eff×Bool×Unit},x.1.2.1.length≤1→y.1.2.1.length≤1→(bif b then x else y).1.2.1.length≤1:=fun {b} {x} {y} h1 h2=>by cases b;exact h2;exact h1
   have h1:∀(a:List Tp) (t:Tp),((a,[t],()):Eff).2.1.length≤1:=fun _ _=>aW _
   have h0:∀(a:List Tp),((a,[],()):Eff).2.1.length≤1:=fun _=>dL _
   have hp:(eL (aG m f pc).1).1.2.1.length≤1:=by
    unfold eL
    exact Q (h1 _ _) (Q (h0 _) (Q (h1 _ _) (Q (h1 _ _) (Q (h1 _ _) (Q (h0 _) (Q (h1 _ _) (Q (h1 _ _) (Q (h0 _) (Q (h0 _) (Q (h1 _ _) (Q (h1 _ _) (h0 _))))))))))))
   unfold eM
   exact P hp (P (h1 _ _) (P (h0 _) (P (h1 _ _) (P (h1 _ _) (P (h0 _) (P (h1 _ _) (P (h0 _) (P (C _ _) (P (C _ _) (P (h1 _ _) (P (P (h0 _) (h0 _)) (h0 _))))))))))))
  unfold nG at h⊢
  generalize eM m (aD m f) (aG m f pc)=E at h ho⊢
  cases hb:decide (s.length<E.1.length) || decide (s.length - E.1.length+E.2.1.length>8) <;> simp only[hb,aA,aB] at h⊢
  ·cases hz:((s.drop (s.length - E.1.length)).zip E.1).all fun p=>dZ m (aG m f pc).1 p.1 p.2 <;> simp only[hz,aA,aB] at h⊢
   ·exact dL _
   ·rw[aX,cA];omega
  ·exact dL _
 ·cases hb:decide (s.length=0) || decide (s.length≥8) <;> simp only[hb,aA,aB] at h⊢
  ·rw[aX,eJ]
   omega
  ·exact dL _
theorem aPi {m:Im} {o:Sh} {s:List Tp} (h:(dB m.1 o s).2.2.1=true) (h':(dB m.1 o s).2.1=true):(dB m.1 o s).1≠o:=by
 unfold dB at h h'⊢
 cases h1:o.1 <;> simp only[h1,bA,cJ,aA,aB] at h h'⊢
 ·intro e;rw[←e] at h1;cases h1
 ·cases h2:decide (o.2.1.length≠s.length) <;> simp only[h2,aA,aB] at h h'⊢
  ·cases h3:(bY m.1 o.2.1 s).any fun t=>t.1==0 <;> simp only[h3,aA,aB] at h h'⊢
   ·intro e
    have e2:bY m.1 o.2.1 s=o.2.1:=dE (fun z:Sh=>z.2.1) e
    rw[e2] at h'
    simp at h'
   ·cases h
  ·cases h
theorem aPl {m:Im} {o:Sh} {s:List Tp} (h:(dB m.1 o s).2.2.1=true):(dB m.1 o s).1.2.1.length=s.length:=by
 unfold dB at h⊢
 cases h1:o.1 <;> simp only[h1,bA,cJ,aA,aB] at h⊢
 cases h2:decide (o.2.1.length≠s.length) <;> simp only[h2,aA,aB] at h⊢
 ·have hlen:o.2.1.length=s.length:=by simpa using h2
  cases h3:(bY m.1 o.2.1 s).any fun t=>t.1==0 <;> simp only[h3,aA,aB] at h⊢
  ·exact vY m.1 hlen
  ·cases h
 ·cases h
structure aET (m:Im) (N:Nat) (a:List Tp) (ts:List Int) (h:List Sh) (q:List Bool) (r:Bool×List Sh×List Bool×Unit):Prop where
 gd:Gd m N r.2.1
 ql:r.2.2.1.length=N
 bel:Bel m h r.2.1
 tos:∀to∈ts,(sh r.2.1 to.toNat).1=true∧leS m.1 a (sh r.2.1 to.toNat).2.1
 same:∀k,r.2.2.1.getD k false=false→q.getD k false=false∧sh r.2.1 k=sh h k
 new:∀k,(sh r.2.1 k).1=true→(sh h k).1=true∧(sh r.2.1 k).2.1.length=(sh h k).2.1.length∨(sh r.2.1 k).2.1.length=a.length
 pn:∀k,r.2.2.1.getD k false=true→q.getD k false=true∨(sh r.2.1 k).1=true
 any:q.any id=true→r.2.2.1.any id=true
 mov:q.any id=false→r.2.2.1.any id=true→r.2.1≠h
theorem aKP {q:List Bool} {k:Nat} (hk:k<q.length):(q.set k true).any id=true:=fL.2 ⟨true,by
 have:=dU (l:=q.set k true) (n:=k) (by rwa [dJ])
 rwa [List.getElem_set_self] at this,rfl⟩
theorem aSK {m:Im} {N:Nat} {h:List Sh} (hg:Gd m N h) {k:Nat} (hk:k<h.length) {s:Sh} (h1:s.1=true) (h2:(sh h k).1=true→leS m.1 (sh h k).2.1 s.2.1):Bel m h (h.set k s):=fun j hj=>by
 rw[oW hk]
 by_cases e:j=k
 ·rw[if_pos e];subst e;exact⟨h1,h2 hj⟩
 ·rw[if_neg e];exact⟨hj,zN (hg.at' j).2⟩
theorem aIT {m:Im} {N:Nat} {h:List Sh} (hg:Gd m N h) {k:Nat} {s:Sh} (h1:s.1=true) (h2:s.2.1.length≤8∧gS (nC m) s.2.1):Gd m N (h.set k s):=
 ⟨by rw[dJ,hg.len],fun x hx=>by
  rcases uB hx with hx | rfl
  ·exact hg.good x hx
  ·exact h2,fun x hx hf=>by
  rcases uB hx with hx | rfl
  ·exact hg.bare x hx hf
  ·rw[h1] at hf;cases hf⟩
theorem aBk {m:Im} {N:Nat} {a:List Tp} (ha8:a.length≤8) (ha:gS (nC m) a):∀(ts:List Int) (h:List Sh) (q:List Bool),Gd m N h→q.length=N→(∀to∈ts,0≤to∧to<(N:Int))→
  (gB m.1 a ts h q).1=true→aET m N a ts h q (gB m.1 a ts h q)
 | [],h,q,hg,hq,_,_=>⟨hg,hq,aKK hg,fun _ h=>(by cases h),fun _ h=>⟨h,rfl⟩,fun _ h=> .inl ⟨h,rfl⟩,fun _ h=> .inl h,fun h=>h,fun h1 h2=>by rw[show (gB m.1 a [] h q).2.2.1=q from rfl,h1] at h2;cases h2⟩
 | to::ts,h,q,hg,hq,ht,hr=>by
  obtain⟨t0,t1⟩:=ht to (bS ..)
  have hk:to.toNat<h.length:=by rw[hg.len];omega
  have hkq:to.toNat<q.length:=by rw[hq];omega
  have ht':∀x∈ts,0≤x∧x<(N:Int):=fun x hx=>ht x (bI _ hx)
  unfold gB at hr⊢
  have hmf:=aHW (m:=m) (o:=h.getD to.toNat zSh) (hg.at' to.toNat) ha8 ha
  have hmm:=aPi (m:=m) (o:=h.getD to.toNat zSh) (s:=a)
  have hml:=aPl (m:=m) (o:=h.getD to.toNat zSh) (s:=a)
  generalize hM:dB m.1 (h.getD to.toNat zSh) a=M at hr hmf hmm hml⊢
  cases h1:M.2.2.1 <;> simp only[h1,bA,cJ,aA,aB] at hr⊢
  ·cases hr
  obtain⟨m1,m2,m3,m4,m5⟩:=hmf h1
  cases h2:M.2.1 <;> simp only[h2,aA,aB] at hr⊢
  ·have I:=aBk ha8 ha ts h q hg hq ht' hr
   obtain⟨e1,e2⟩:=m5 h2
   refine⟨I.gd,I.ql,I.bel,fun x hx=>?_,I.same,I.new,I.pn,I.any,I.mov⟩
   rcases bJ.1 hx with rfl | hx
   ·obtain⟨b1,b2⟩:=I.bel x.toNat e1
    rw[e2] at m3
    exact⟨b1,tF m3 b2⟩
   ·exact I.tos x hx
  ·have hg':=aIT (k:=to.toNat) hg m2 m1
   have hb:=aSK hg hk m2 m4
   have I:=aBk ha8 ha ts (h.set to.toNat M.1) (q.set to.toNat true) hg' (by rw[dJ,hq]) ht' hr
   have hne:h.set to.toNat M.1≠h:=fun e=>hmm h1 h2 (by
    have:=dE (fun z=>sh z to.toNat) e
    simp only[oW hk] at this
    exact this)
   refine⟨I.gd,I.ql,aKI hb I.bel,fun x hx=>?_,fun k hk0=>?_,fun k hk1=>?_,fun k hk1=>?_,fun _=>I.any (aKP hkq),fun _ _ e=>?_⟩
   ·rcases bJ.1 hx with rfl | hx
    ·have e1:sh (h.set x.toNat M.1) x.toNat=M.1:=by rw[oW hk,if_pos rfl]
     obtain⟨b1,b2⟩:=I.bel x.toNat (by rw[e1];exact m2)
     rw[e1] at b2
     exact⟨b1,tF m3 b2⟩
    ·exact I.tos x hx
   ·obtain⟨i1,i2⟩:=I.same k hk0
    have hkn:k≠to.toNat:=fun e=>by
     rw[e,cW,uC hkq] at i1
     cases i1
    rw[oW hk,if_neg hkn] at i2
    rw[cW,qG (fun e=>hkn e.symm),←cW] at i1
    exact⟨i1,i2⟩
   ·rcases I.new k hk1 with⟨i1,i2⟩ | i
    ·by_cases e:k=to.toNat
     ·rw[oW hk,if_pos e] at i2
      exact .inr (by rw[i2,hml h1])
     ·rw[oW hk,if_neg e] at i1 i2
      exact .inl ⟨i1,i2⟩
    ·exact .inr i
   ·rcases I.pn k hk1 with i | i
    ·by_cases e:k=to.toNat
     ·refine .inr (I.bel k ?_).1
      rw[oW hk,if_pos e]
      exact m2
     ·rw[cW,qG (fun e'=>e e'.symm),←cW] at i
      exact .inl i
    ·exact .inr i
   ·refine hne (aB9 (N:=N) hg' hg ?_ hb)
    have:=I.bel
    rw[e] at this
    exact this
theorem aBl {m:Im} {N:Nat} {a:List Tp} {S:List Sh} (hS:Gd m N S) (ha8:a.length≤8) (ha:gS (nC m) a):∀(ts:List Int) (h:List Sh) (q:List Bool),Gd m N h→Bel m h S→(∀to∈ts,(0≤to∧to<(N:Int))∧(sh S to.toNat).1=true∧leS m.1 a (sh S to.toNat).2.1)→
  (gB m.1 a ts h q).1=true∧Bel m (gB m.1 a ts h q).2.1 S
 | [],h,q,hg,hb,_=>⟨rfl,hb⟩
 | to::ts,h,q,hg,hb,ht=>by
  obtain⟨⟨t0,t1⟩,t2,t3⟩:=ht to (bS ..)
  have hk:to.toNat<h.length:=by rw[hg.len];omega
  have ht':=fun x hx=>ht x (bI _ hx)
  unfold gB
  have hmf:=aHW (m:=m) (o:=h.getD to.toNat zSh) (hg.at' to.toNat) ha8 ha
  have hmb:=aPk (m:=m) (o:=h.getD to.toNat zSh) (S:=sh S to.toNat) (hg.at' to.toNat).2 (hS.at' to.toNat).2 ha (fun h1=>(hb to.toNat h1).2) t3
  generalize hM:dB m.1 (h.getD to.toNat zSh) a=M at hmf hmb⊢
  obtain⟨b1,b2⟩:=hmb
  obtain⟨m1,m2,m3,m4,m5⟩:=hmf b1
  rw[b1]
  simp only[bA,aB]
  cases h2:M.2.1 <;> simp only[aA,aB]
  ·exact aBl hS ha8 ha ts h q hg hb ht'
  ·refine aBl hS ha8 ha ts _ _ (aIT hg m2 m1) (fun k hk1=>?_) ht'
   rw[oW hk] at hk1⊢
   by_cases e:k=to.toNat
   ·rw[if_pos e] at hk1⊢;subst e;exact⟨t2,b2⟩
   ·rw[if_neg e] at hk1⊢;exact hb k hk1
def DC (h:List Sh):Prop:=∀k,(sh h k).1=true→∀j,j<(sh h k).2.1.length→∃k',(sh h k').1=true∧(sh h k').2.1.length=j
structure WJ (m:Im) (f:Int) (h:List Sh) (q:List Bool):Prop where
 gd:Gd m (codeN m f) h
 ql:q.length=codeN m f
 start:(sh h 0).1=true∧(sh h 0).2.1=[]
 cov:∀pc,(sh h pc).1=true→q.getD pc false=false→Cov m f h pc
 dc:DC h
 pend:∀pc,q.getD pc false=true→(sh h pc).1=true
theorem aKJ {m:Im} {h h':List Sh} (hb:Bel m h h') (hs:(sh h 0).1=true∧(sh h 0).2.1=[]):(sh h' 0).1=true∧(sh h' 0).2.1=[]:=by
 obtain⟨i1,i2⟩:=hb 0 hs.1
 refine⟨i1,?_⟩
 have:=qZ i2
 rw[hs.2] at this
 exact List.length_eq_zero_iff.1 this.symm
theorem aRH {m:Im} {f:Int} {h h':List Sh} (hb:Bel m h h') {pc:Nat} (e:sh h' pc=sh h pc) (hc:Cov m f h pc):Cov m f h' pc:=by
 unfold Cov at hc⊢
 rw[e]
 refine⟨hc.1,fun to ht=>?_⟩
 obtain⟨i1,i2⟩:=hc.2 to ht
 obtain⟨j1,j2⟩:=hb _ i1
 exact⟨j1,tF i2 j2⟩
theorem aC7 {q:List Bool} (h:q.any id=true):q.findIdx id<q.length∧q.getD (q.findIdx id) false=true:=by
 have hk:=aJc h
 refine⟨hk,?_⟩
 have:=List.findIdx_getElem (p:=id) (xs:=q) (w:=hk)
 rw[getD_some (aT hk)]
 exact this
theorem aRs {m:Im} {N:Nat} {a:List Tp} {ts:List Int} {h:List Sh} {q:List Bool} {r:Bool×List Sh×List Bool×Unit} (O:aET m N a ts h q r) (hd:DC h) {pc:Nat} (hp:(sh h pc).1=true) (ha:a.length≤(sh h pc).2.1.length+1):DC r.2.1:=by
 have up:∀j,(∃k',(sh h k').1=true∧(sh h k').2.1.length=j)→∃k',(sh r.2.1 k').1=true∧(sh r.2.1 k').2.1.length=j:=by
  rintro j ⟨k',h1,h2⟩
  obtain⟨b1,b2⟩:=O.bel k' h1
  exact⟨k',b1,by rw[←qZ b2];exact h2⟩
 intro k hk j hj
 rcases O.new k hk with⟨i1,i2⟩ | i
 ·exact up j (hd k i1 j (by omega))
 ·by_cases e:j=(sh h pc).2.1.length
  ·exact up j ⟨pc,hp,e.symm⟩
  ·exact up j (hd pc hp j (by omega))
theorem aFh {m:Im} (hs:aK m=true) {f:Int} {h:List Sh} {q:List Bool} (W:WJ m f h q) (ha:q.any id=true)
  (hr:(mE m f (q.findIdx id:Int) h (q.set (q.findIdx id) false)).1=true):
  WJ m f (mE m f (q.findIdx id:Int) h (q.set (q.findIdx id) false)).2.1 (mE m f (q.findIdx id:Int) h (q.set (q.findIdx id) false)).2.2.1:=by
 obtain⟨hk,htrue⟩:=aC7 ha
 generalize q.findIdx id=pc at hk htrue hr⊢
 have hp:=W.pend pc htrue
 unfold mE at hr⊢
 rw[aR] at hr⊢
 cases he:(aO m f (pc:Int) (h.getD pc zSh).2.1).2.2.1 !=0 <;> simp only[he,aA,aB] at hr⊢
 ·have he0:(aO m f (pc:Int) (h.getD pc zSh).2.1).2.2.1=0:=by simpa using he
  obtain⟨-,-,h8,hto⟩:=oT hs he0
  have hlen:=aLr hs he0
  have O:=aBk (N:=codeN m f) h8 (aAC hs (W.gd.at' pc).2) (aO m f (pc:Int) (h.getD pc zSh).2.1).2.1 h (q.set pc false) W.gd (by rw[dJ,W.ql]) hto hr
  have hO:=aRs O W.dc hp hlen
  have hst:=aKJ O.bel W.start
  refine⟨O.gd,O.ql,hst,fun k hk1 hk2=>?_,hO,fun k hk1=>?_⟩
  ·obtain⟨s1,s2⟩:=O.same k hk2
   by_cases e:k=pc
   ·subst e
    refine⟨by rw[s2];exact he0,fun to ht=>?_⟩
    rw[s2] at ht⊢
    exact O.tos to ht
   ·rw[cW,qG (fun e'=>e e'.symm),←cW] at s1
    exact aRH O.bel s2 (W.cov k (by rw[←s2];exact hk1) s1)
  ·rcases O.pn k hk1 with i | i
   ·by_cases e:k=pc
    ·subst e
     rw[cW,uC hk] at i
     cases i
    ·rw[cW,qG (fun e'=>e e'.symm),←cW] at i
     exact (O.bel k (W.pend k i)).1
   ·exact i
 ·cases hr
theorem aHv {m:Im} (hs:aK m=true) {f:Int} (hf:inM m f=true) {h:List Sh} {q:List Bool} (hg:Gd m (codeN m f) h) (hq:q.length=codeN m f) (ha:q.any id=true):
  sZ m f (q.findIdx id:Int) h (q.set (q.findIdx id) false)=true:=by
 obtain⟨hk,-⟩:=aC7 ha
 rw[hq] at hk
 exact OneP.to ⟨hs,hf,by simp only[sin,aC,aP];omega,hg.len,by rw[dJ,hq],fun s hs=>fD (by have:=(hg.good s hs).1;omega)⟩
theorem aCs {m:Im} (hs:aK m=true) {f:Int} (hf:inM m f=true):∀(n:Nat) (h:List Sh) (q:List Bool) (r:List Sh×Int×Int×Unit),WJ m f h q→qI m f n h q=some r→r.2.2.1=0→PF m f r.1∧DC r.1
 | 0,_,_,_,_,h,_=>by cases h
 | n+1,h,q,r,W,hr,h0=>by
  unfold qI at hr
  cases ha:q.any id <;> simp only[ha,aA,aB] at hr
  ·have:=oM hr
   subst this
   refine⟨⟨W.gd,W.start,fun pc hp=>W.cov pc hp ?_⟩,W.dc⟩
   by_cases hk:pc<q.length
   ·rw[getD_some (aT hk)]
    cases hx:q[pc]
    ·rfl
    ·exact absurd (fL.2 ⟨_,dU hk,hx⟩) (by rw[ha];exact Bool.false_ne_true)
   ·rw[fI (by omega)]
  ·unfold aAv at hr
   rw[aHv hs hf W.gd W.ql ha] at hr
   simp only[aA,aJ] at hr
   cases hb:(mE m f (q.findIdx id:Int) h (q.set (q.findIdx id) false)).1 <;> simp only[hb,bA,cJ,aA,aB] at hr
   ·have:=oM hr
    subst this
    cases h0
   ·exact aCs hs hf n _ _ r (aFh hs W ha hb) hr h0
theorem aCt {m:Im} (hs:aK m=true) {f:Int} (hf:inM m f=true) {S:List Sh} (hS:PF m f S):∀(n:Nat) (h:List Sh) (q:List Bool) (r:List Sh×Int×Int×Unit),WJ m f h q→Bel m h S→qI m f n h q=some r→r.2.2.1=0∧Bel m r.1 S
 | 0,_,_,_,_,_,h=>by cases h
 | n+1,h,q,r,W,hb,hr=>by
  unfold qI at hr
  cases ha:q.any id <;> simp only[ha,aA,aB] at hr
  ·have:=oM hr
   subst this
   exact⟨rfl,hb⟩
  ·unfold aAv at hr
   rw[aHv hs hf W.gd W.ql ha] at hr
   simp only[aA,aJ] at hr
   have key:(mE m f (q.findIdx id:Int) h (q.set (q.findIdx id) false)).1=true∧Bel m (mE m f (q.findIdx id:Int) h (q.set (q.findIdx id) false)).2.1 S:=by
    obtain⟨hk,htrue⟩:=aC7 ha
    generalize q.findIdx id=pc at hk htrue
    have hp:=W.pend pc htrue
    obtain⟨p1,p2⟩:=hb pc hp
    obtain⟨c1,c2⟩:=hS.cov pc p1
    obtain⟨s1,s2,s3⟩:=aFE hs p2 c1
    obtain⟨-,-,h8,hto⟩:=oT hs s1
    unfold mE
    rw[aR]
    rw[show (aO m f (pc:Int) (h.getD pc zSh).2.1).2.2.1=0 from s1]
    simp only[bne_self_eq_false,aB]
    refine aBl hS.gd h8 (aAC hs (W.gd.at' pc).2) _ h _ W.gd hb fun to ht=>⟨hto to ht,?_⟩
    rw[show (aO m f (pc:Int) (h.getD pc zSh).2.1).2.1=_ from s2] at ht
    obtain⟨d1,d2⟩:=c2 to ht
    exact⟨d1,tF s3 d2⟩
   rw[key.1] at hr
   simp only[bA,aB] at hr
   exact aCt hs hf hS n _ _ r (aFh hs W ha key.1) key.2 hr
theorem yA {m:Im} {f:Int} (hc:0<codeN m f) (k:Nat):sh (gY m f) k=if k=0 then (true,[],()) else zSh:=by
 unfold gY
 rw[oW (by simpa using hc)]
 by_cases e:k=0
 ·rw[if_pos e,if_pos e]
 ·rw[if_neg e,if_neg e]
  unfold sh
  by_cases hk:k<codeN m f
  ·rw[getD_some (aT (by simpa using hk))];simp
  ·rw[fI (by simpa using hk)]
theorem aCI {m:Im} {f:Int}:Gd m (codeN m f) (gY m f):=by
 refine⟨by simp[gY],fun s hs=>?_,fun s hs h=>?_⟩ <;>
  rcases uB hs with hs | rfl
 ·rw[aAf] at hs
  rw[hs.2]
  exact⟨dL _,fun _ h=>by cases h⟩
 ·exact⟨dL _,fun _ h=>by cases h⟩
 ·rw[aAf] at hs
  exact hs.2
 ·cases h
theorem aLv {m:Im} (hs:aK m=true) {f:Int} (hf:inM m f=true):WJ m f (gY m f) ((List.replicate (codeN m f) false).set 0 true):=by
 have hc:=(fB hs hf).1
 have sq:∀k,((List.replicate (codeN m f) false).set 0 true).getD k false=decide (k=0):=fun k=>by
  by_cases e:k=0
  ·subst e
   rw[cW,uC (by simpa using hc)];rfl
  ·rw[cW,qG (fun e'=>e e'.symm),bO e]
   rw[List.getElem?_replicate]
   split <;> rfl
 refine⟨aCI,by simp,by rw[yA hc];exact⟨rfl,rfl⟩,fun pc h1 h2=>?_,fun k h1 j hj=>?_,fun k h=>?_⟩
 ·rw[sq] at h2
  rw[yA hc,if_neg (by simpa using h2)] at h1
  cases h1
 ·rw[yA hc] at hj
  by_cases e:k=0
  ·rw[if_pos e] at hj;cases hj
  ·rw[if_neg e] at hj;cases hj
 ·rw[sq] at h
  rw[yA hc,if_pos (by simpa using h)]
theorem aAD {m:Im} (hs:aK m=true) {f:Int} (hf:inM m f=true) {S:List Sh} (hS:PF m f S):Bel m (gY m f) S:=fun k h=>by
 have hc:=(fB hs hf).1
 rw[yA hc] at h⊢
 by_cases e:k=0
 ·subst e
  rw[if_pos rfl,hS.start.2]
  exact⟨hS.start.1,trivial⟩
 ·rw[if_neg e] at h;cases h
end Go.Pli

namespace Go.Pli
open Go Go.PM
structure xL (m:Im) (N:Nat) (t:Bool) (h:List Sh) (r:Bool×List Sh):Prop where
 gd:Gd m N r.2
 bel:Bel m h r.2
 still:r.1=false→t=false∧r.2=h
 moved:r.1=true→t=true∨r.2≠h
theorem aI6 {m:Im} {N:Nat} {t:Bool} {h:List Sh} (hg:Gd m N h):xL m N t h (t,h):=⟨hg,aKK hg,fun h=>⟨h,rfl⟩,fun h=> .inl h⟩
theorem aQL {m:Im} {N:Nat} {t:Bool} {h:List Sh} {r z:Bool×List Sh} (hg:Gd m N h) (h1:xL m N t h r) (h2:xL m N r.1 r.2 z):xL m N t h z:=
 ⟨h2.gd,aKI h1.bel h2.bel,fun hz=>by
  obtain⟨a,b⟩:=h2.still hz
  obtain⟨c,d⟩:=h1.still a
  exact⟨c,b.trans d⟩,fun hz=>by
  rcases h2.moved hz with a | a
  ·rcases h1.moved a with b | b
   ·exact .inl b
   ·refine .inr fun e=>b (aB9 h1.gd hg ?_ h1.bel)
    rw[←e];exact h2.bel
  ·refine .inr fun e=>a ?_
   have:Bel m r.2 h:=by rw[←e];exact h2.bel
   rw[e]
   exact aB9 hg h1.gd h1.bel this⟩
theorem aBM {m:Im} {N:Nat} {a:List Tp}:∀(ts:List Int) (h:List Sh) (q:List Bool),q.length=N→(∀to∈ts,0≤to∧to<(N:Int))→
  kT m.1 a ts (q.any id) h=bif (gB m.1 a ts h q).1 then some ((gB m.1 a ts h q).2.2.1.any id,(gB m.1 a ts h q).2.1) else none
 | [],_,_,_,_=>rfl
 | to::ts,h,q,hq,ht=>by
  obtain⟨t0,t1⟩:=ht to (bS ..)
  have hkq:to.toNat<q.length:=by rw[hq];omega
  have ht':∀x∈ts,0≤x∧x<(N:Int):=fun x hx=>ht x (bI _ hx)
  unfold kT gB
  generalize dB m.1 (h.getD to.toNat zSh) a=M
  cases h1:M.2.2.1 <;> simp only[bA,cJ,aA,aB]
  cases h2:M.2.1 <;> simp only[aA,aB]
  ·exact aBM ts h q hq ht'
  ·have:=aBM (m:=m) (a:=a) ts (h.set to.toNat M.1) (q.set to.toNat true) (by rw[dJ,hq]) ht'
   rw[aKP hkq] at this
   exact this
theorem aCb {N:Nat} (hN:0<N) (t:Bool):(List.replicate N t).any id=t:=by
 cases t
 ·cases h:(List.replicate N false).any id
  ·rfl
  ·obtain⟨x,hx,hx'⟩:=fL.1 h
   rw[aAf] at hx
   rw[hx.2] at hx';cases hx'
 ·exact fL.2 ⟨true,aAf.2 ⟨by omega,rfl⟩,rfl⟩
theorem aKQ {m:Im} {N:Nat} {a:List Tp} {ts:List Int} {h:List Sh} {q:List Bool} {r:Bool×List Sh×List Bool×Unit} (O:aET m N a ts h q r) (hg:Gd m N h) (h0:r.2.2.1.any id=false):r.2.1=h:=by
 have hk:∀k,sh r.2.1 k=sh h k:=fun k=>(O.same k (by
  by_cases hk:k<r.2.2.1.length
  ·rw[getD_some (aT hk)]
   cases hx:r.2.2.1[k]
   ·rfl
   ·exact absurd (fL.2 ⟨_,dU hk,hx⟩) (by rw[h0];exact Bool.false_ne_true)
  ·rw[fI (by omega)])).2
 refine uD (by rw[O.gd.len,hg.len]) fun k k1 k2=>?_
 have:=hk k
 unfold sh at this
 rwa [getD_some (aT k1),getD_some (aT k2)] at this
theorem aI8 {m:Im} (hs:aK m=true) {f:Int} {pc:Nat} {t:Bool} {h:List Sh} {r:Bool×List Sh} (hg:Gd m (codeN m f) h) (hr:nY m f pc t h=some r):
  xL m (codeN m f) t h r∧(r.1=false→(sh h pc).1=true→Cov m f h pc):=by
 unfold nY at hr
 cases h1:(h.getD pc zSh).1 <;> simp only[h1,bA,cJ,aA,aB] at hr
 ·have:=oM hr
  subst this
  exact⟨aI6 hg,fun _ h2=>by rw[show (sh h pc).1=false from h1] at h2;cases h2⟩
 ·cases he:(aO m f (pc:Int) (h.getD pc zSh).2.1).2.2.1 !=0 <;> simp only[he,aA,aB] at hr
  ·have he0:(aO m f (pc:Int) (h.getD pc zSh).2.1).2.2.1=0:=by simpa using he
   obtain⟨-,hp,h8,hto⟩:=oT hs he0
   have hN:0<codeN m f:=by simp only[sin,aC,aP] at hp;omega
   have hE:=aBM (m:=m) (N:=codeN m f) (a:=(aO m f (pc:Int) (h.getD pc zSh).2.1).1) (aO m f (pc:Int) (h.getD pc zSh).2.1).2.1 h (List.replicate (codeN m f) t) (by simp) hto
   rw[aCb hN,hr] at hE
   have O:=aBk (N:=codeN m f) h8 (aAC hs (hg.at' pc).2) (aO m f (pc:Int) (h.getD pc zSh).2.1).2.1 h (List.replicate (codeN m f) t) hg (by simp) hto
   generalize gB m.1 (aO m f (pc:Int) (h.getD pc zSh).2.1).1 (aO m f (pc:Int) (h.getD pc zSh).2.1).2.1 h (List.replicate (codeN m f) t)=z at hE O
   cases hz:z.1 <;> rw[hz] at hE <;> simp only[aA,aB] at hE
   ·cases hE
   have O:=O hz
   have:=oM hE
   subst this
   refine⟨⟨O.gd,O.bel,fun h0=>⟨?_,aKQ O hg h0⟩,fun h1=>?_⟩,fun h0 _=>⟨he0,fun to ht=>?_⟩⟩
   ·cases t
    ·rfl
    ·have:=O.any (aCb hN true)
     rw[show z.2.2.1.any id=false from h0] at this;cases this
   ·cases t
    ·exact .inr (O.mov (aCb hN false) h1)
    ·exact .inl rfl
   ·have:=O.tos to ht
    rw[aKQ O hg h0] at this
    exact this
  ·cases hr
theorem aBL {m:Im} (hs:aK m=true) {f:Int}:∀(n:Nat) (t:Bool) (h:List Sh) (r:Bool×List Sh),Gd m (codeN m f) h→jC m f n t h=some r→
  xL m (codeN m f) t h r∧(r.1=false→∀pc,pc<n→(sh h pc).1=true→Cov m f h pc)
 | 0,t,h,r,hg,hr=>by
  have:=oM hr
  subst this
  exact⟨aI6 hg,fun _ _ h=>(by cases h)⟩
 | n+1,t,h,r,hg,hr=>by
  unfold jC at hr
  cases hz:nY m f n t h with
  | none=>rw[hz] at hr;cases hr
  | some z=>
   rw[hz] at hr
   simp only[aJ] at hr
   obtain⟨F1,F2⟩:=aI8 hs hg hz
   obtain⟨G1,G2⟩:=aBL hs n z.1 z.2 r F1.gd hr
   refine⟨aQL hg F1 G1,fun h0 pc hp hseen=>?_⟩
   obtain⟨a,b⟩:=G1.still h0
   obtain⟨c,d⟩:=F1.still a
   by_cases e:pc=n
   ·subst e;exact F2 a hseen
   ·have:=G2 h0 pc (by omega)
    rw[d] at this
    exact this hseen
theorem aQM {m:Im} {N:Nat} {a:List Tp} {S:List Sh} (hS:Gd m N S) (ha8:a.length≤8) (ha:gS (nC m) a) (hN:0<N) {ts:List Int} {t:Bool} {h:List Sh} (hg:Gd m N h) (hb:Bel m h S) (ht:∀to∈ts,(0≤to∧to<(N:Int))∧(sh S to.toNat).1=true∧leS m.1 a (sh S to.toNat).2.1):
  ∃r,kT m.1 a ts t h=some r∧Bel m r.2 S:=by
 have hE:=aBM (m:=m) (N:=N) (a:=a) ts h (List.replicate N t) (by simp) (fun to h=>(ht to h).1)
 rw[aCb hN] at hE
 obtain⟨b1,b2⟩:=aBl hS ha8 ha ts h (List.replicate N t) hg hb ht
 rw[b1] at hE
 exact⟨_,hE,b2⟩
theorem aI5 {m:Im} (hs:aK m=true) {f:Int} {S:List Sh} (hS:PF m f S):∀(n:Nat) (t:Bool) (h:List Sh),Gd m (codeN m f) h→Bel m h S→∃r,jC m f n t h=some r∧Bel m r.2 S
 | 0,t,h,_,hb=>⟨_,rfl,hb⟩
 | n+1,t,h,hg,hb=>by
  have key:∃r,nY m f n t h=some r∧Bel m r.2 S:=by
   unfold nY
   cases h1:(h.getD n zSh).1 <;> simp only[bA,cJ,aA,aB]
   ·exact⟨_,rfl,hb⟩
   ·obtain⟨p1,p2⟩:=hb n h1
    obtain⟨c1,c2⟩:=hS.cov n p1
    obtain⟨s1,s2,s3⟩:=aFE hs p2 c1
    obtain⟨-,hp,h8,hto⟩:=oT hs s1
    have hN:0<codeN m f:=by simp only[sin,aC,aP] at hp;omega
    rw[show (aO m f (n:Int) (h.getD n zSh).2.1).2.2.1=0 from s1]
    simp only[bne_self_eq_false,aB]
    refine aQM hS.gd h8 (aAC hs (hg.at' n).2) hN hg hb fun to ht=>⟨hto to ht,?_⟩
    rw[show (aO m f (n:Int) (h.getD n zSh).2.1).2.1=_ from s2] at ht
    obtain⟨d1,d2⟩:=c2 to ht
    exact⟨d1,tF s3 d2⟩
  obtain⟨z,hz,hzb⟩:=key
  obtain⟨F1,-⟩:=aI8 hs hg hz
  obtain⟨r,hr,hrb⟩:=aI5 hs hS n z.1 z.2 F1.gd hzb
  unfold jC
  rw[hz]
  exact⟨r,hr,hrb⟩
def h8 (l:List Cl) (t:Tp):Nat:=if t.1=4 then 8 else if t.1=3 then (cC l t.2.1).length - 1 else 0
theorem aQo {l:List Cl} (hl:l.length≤8) (t:Tp):h8 l t≤8:=by
 have:=zZ hl t.2.1
 unfold h8
 split
 ·omega
 ·split <;> omega
theorem aQn {l:List Cl} (hl:l.length≤8) {a b:Tp} (ga:gT (l.length:Int) a) (gb:gT (l.length:Int) b) (h:cK l a b=true):a=b∨h8 l b<h8 l a:=by
 have hc:=zZ hl b.2.1
 rcases iX.1 h with⟨a4,hb⟩ | ⟨a3,b3,hab⟩ | ⟨h,_⟩
 ·by_cases b4:b.1=4
  ·have e1:=aBJ ga a4
   have e2:=aBJ gb b4
   exact .inl (rY (by omega) (by omega))
  ·refine .inr ?_
   unfold h8
   rw[if_neg b4,if_pos a4]
   split <;> omega
 ·by_cases e:b.2.1=a.2.1
  ·exact .inl (rY (by omega) e.symm)
  ·refine .inr ?_
   have hb:=oL.1 hab
   have:=(aB2 _ _ (hZ _) hb.2.2.2).2 e
   have h1:0<(cC l b.2.1).length:=by rw[hJ hb.1];simp
   unfold h8
   rw[if_neg (by omega),if_pos b3,if_neg (by omega),if_pos a3]
   omega
 ·exact .inl h
def hs8 (l:List Cl) (s:List Tp):Nat:=bC (s.map (h8 l))
theorem aD8 {l:List Cl} (hl:l.length≤8):∀s:List Tp,hs8 l s≤8*s.length
 | []=>aW _
 | t::s=>by
  have:=aD8 hl s
  have:=aQo hl t
  unfold hs8 at*
  simp only[dM,bC,aF]
  omega
theorem aII {l:List Cl} (hl:l.length≤8):∀{a b:List Tp},gS (l.length:Int) a→gS (l.length:Int) b→leS l a b→hs8 l b≤hs8 l a∧(a≠b→hs8 l b<hs8 l a)
 | [],[],_,_,_=>⟨aW _,fun h=>absurd rfl h⟩
 | x::a,y::b,ga,gb,h=>by
  obtain⟨i1,i2⟩:=aII hl (gH ga).2 (gH gb).2 h.2
  have j:=aQn hl (gH ga).1 (gH gb).1 h.1
  unfold hs8 at*
  simp only[dM,bC]
  rcases j with rfl | j
  ·exact⟨by omega,fun hne=>by have:=i2 fun e=>hne (by rw[e]);omega⟩
  ·exact⟨by omega,fun _=>by omega⟩
 | [],_::_,_,_,h=>h.elim
 | _::_,[],_,_,h=>h.elim
def pw (l:List Cl) (S h:Sh):Nat:=if S.1 then (if h.1 then hs8 l h.2.1 else 1+8*S.2.1.length) else 0
def pot (l:List Cl) (N:Nat) (S h:List Sh):Nat:=bC ((List.range N).map fun k=>pw l (sh S k) (sh h k))
theorem aAy {α:Type} {f g:α→Nat}:∀(l:List α),(∀x∈l,f x≤g x)→bC (l.map f)≤bC (l.map g)
 | [],_=>aW _
 | x::l,h=>by
  have:=aAy l fun y hy=>h y (bI _ hy)
  have:=h x (bS ..)
  simp only[dM,bC]
  omega
theorem aFy {α:Type} {f g:α→Nat}:∀(l:List α),(∀x∈l,f x≤g x)→(∃x∈l,f x<g x)→bC (l.map f)<bC (l.map g)
 | [],_,h=>by obtain⟨x,hx,_⟩:=h;cases hx
 | x::l,h,⟨y,hy,hlt⟩=>by
  have i:=aAy l fun y hy=>h y (bI _ hy)
  have j:=h x (bS ..)
  simp only[dM,bC]
  rcases bJ.1 hy with rfl | hy
  ·omega
  ·have:=aFy l (fun y hy=>h y (bI _ hy)) ⟨y,hy,hlt⟩
   omega
theorem aOk {m:Im} (hl:m.1.length≤8) {N:Nat} {S h h':List Sh} (hg:Gd m N h) (hg':Gd m N h') (hb:Bel m h h') (hbS:Bel m h' S) (hne:h'≠h):pot m.1 N S h'<pot m.1 N S h:=by
 have key:∀k,pw m.1 (sh S k) (sh h' k)≤pw m.1 (sh S k) (sh h k)∧(sh h' k≠sh h k→pw m.1 (sh S k) (sh h' k)<pw m.1 (sh S k) (sh h k)):=fun k=>by
  unfold pw
  cases h1:(sh h' k).1
  ·have h0:(sh h k).1=false:=by
    cases h0:(sh h k).1
    ·rfl
    ·have:=(hb k h0).1
     rw[h1] at this;cases this
   rw[h0]
   refine⟨aW _,fun hne=>absurd ?_ hne⟩
   have z:∀{x:List Sh},Gd m N x→(sh x k).1=false→sh x k=zSh:=fun {x} hx h=>by
    unfold sh at h⊢
    by_cases hk:k<x.length
    ·rw[getD_some (aT hk)] at h⊢
     exact hx.bare _ (dU hk) h
    ·exact fI (by omega)
   rw[z hg' h1,z hg h0]
  ·obtain⟨s1,s2⟩:=hbS k h1
   rw[s1]
   cases h0:(sh h k).1 <;> simp only[cP,kZ,cL]
   ·have:=aD8 hl (sh h' k).2.1
    rw[qZ s2] at this
    exact⟨by omega,fun _=>by omega⟩
   ·obtain⟨-,b2⟩:=hb k h0
    obtain⟨c1,c2⟩:=aII hl (hg.at' k).2 (hg'.at' k).2 b2
    refine⟨c1,fun hne=>c2 fun e=>hne ?_⟩
    generalize sh h' k=x at h1 e⊢
    generalize sh h k=y at h0 e⊢
    obtain⟨x1,x2,⟨⟩⟩:=x
    obtain⟨y1,y2,⟨⟩⟩:=y
    simp only at h1 h0 e
    subst h1 h0 e
    rfl
 refine aFy _ (fun k _=>(key k).1) ?_
 have:∃k,k<N∧sh h' k≠sh h k:=Classical.byContradiction fun hno=>hne (by
  refine uD (by rw[hg'.len,hg.len]) fun k k1 k2=>?_
  have e:sh h' k=sh h k:=Classical.byContradiction fun h=>hno ⟨k,by rw[←hg'.len];exact k1,h⟩
  unfold sh at e
  rwa [getD_some (aT k1),getD_some (aT k2)] at e)
 obtain⟨k,hk,hne⟩:=this
 exact⟨k,iV.2 hk,(key k).2 hne⟩
theorem aAz {α:Type} (f g:α→Nat):∀l:List α,bC (l.map fun x=>f x+g x)=bC (l.map f)+bC (l.map g)
 | []=>rfl
 | x::l=>by have:=aAz f g l;simp only[dM,bC];omega
theorem aCE {c:Nat}:∀{N a:Nat},a<N→bC ((List.range N).map fun k=>if k=a then c else 0)=c:=by
 have app:∀(a b:List Nat),bC (a++b)=bC a+bC b:=fun a b=>by
  induction a with
  | nil=>simp[bC]
  | cons x a ih=>simp only[rU,bC,ih];omega
 have z:∀{N a:Nat},N≤a→bC ((List.range N).map fun k=>if k=a then c else 0)=0:=fun {N} {a} h=>by
  induction N with
  | zero=>rfl
  | succ n ih=>
   rw[List.range_succ,kB,app,ih (by omega)]
   simp only[dM,List.map_nil,bC]
   rw[if_neg (by omega)]
 intro N a h
 induction N with
 | zero=>cases h
 | succ n ih=>
  rw[List.range_succ,kB,app]
  simp only[dM,List.map_nil,bC]
  by_cases e:n=a
  ·rw[z (by omega),if_pos e];omega
  ·rw[ih (by omega),if_neg e];omega
theorem aFx {f:Nat→Nat} {c:Nat}:∀(N:Nat),(∀k,f k≤c)→bC ((List.range N).map f)≤c*N:=fun N h=>by
 have:=aAy (f:=f) (g:=fun _=>c) (List.range N) fun k _=>h k
 have e:bC ((List.range N).map fun _=>c)=c*N:=by
  have:∀l:List Nat,bC (l.map fun _=>c)=c*l.length:=fun l=>by
   induction l with
   | nil=>rfl
   | cons x l ih=>simp only[dM,bC,ih,aF];rw[Nat.mul_succ];omega
  rw[this,List.length_range]
 omega
theorem aOi {m:Im} {f:Int} (hc:codeN m f≤64) {S h:List Sh} (hl:m.1.length≤8) (hS:PF m f S) (hd:DC S) (hb:Bel m h S):pot m.1 (codeN m f) S h<4000:=by
 let v:Nat→Nat:=fun k=>if (sh S k).1 then 1+8*(sh S k).2.1.length else 0
 have hv:∀k,pw m.1 (sh S k) (sh h k)≤v k:=fun k=>by
  show _≤(if (sh S k).1 then 1+8*(sh S k).2.1.length else 0)
  unfold pw
  split
  ·split
   ·rename_i h1
    have:=aD8 hl (sh h k).2.1
    rw[qZ (hb k h1).2] at this
    omega
   ·omega
  ·omega
 have h1:pot m.1 (codeN m f) S h≤bC ((List.range (codeN m f)).map v):=aAy _ fun k _=>hv k
 have h65:∀k,v k≤65:=fun k=>by
  show (if (sh S k).1 then 1+8*(sh S k).2.1.length else 0)≤65
  have:=(hS.gd.at' k).1
  split <;> omega
 by_cases h3:∃k,(sh S k).1=true∧2<(sh S k).2.1.length
 ·obtain⟨k,k1,k2⟩:=h3
  obtain⟨k0,a1,a2⟩:=hd k k1 0 (by omega)
  obtain⟨k1',b1,b2⟩:=hd k k1 1 (by omega)
  obtain⟨k2',c1,c2⟩:=hd k k1 2 (by omega)
  have inN:∀{j},(sh S j).1=true→j<codeN m f:=fun {j} h=>by
   by_cases hj:j<codeN m f
   ·exact hj
   ·unfold sh at h
    rw[fI (by rw[hS.gd.len];omega)] at h
    cases h
  have n01:k0≠k1':=fun e=>by subst e;omega
  have n02:k0≠k2':=fun e=>by subst e;omega
  have n12:k1'≠k2':=fun e=>by subst e;omega
  have key:=aFx (f:=fun k=>v k+((if k=k0 then 64 else 0)+((if k=k1' then 56 else 0)+(if k=k2' then 48 else 0)))) (c:=65) (codeN m f) fun k=>by
   have:=h65 k
   by_cases e0:k=k0
   ·have:v k=1:=by show (if (sh S k).1 then 1+8*(sh S k).2.1.length else 0)=1;subst e0;rw[a1,a2];rfl
    simp only[if_pos e0,if_neg (show k≠k1' by omega),if_neg (show k≠k2' by omega)]
    omega
   ·by_cases e1:k=k1'
    ·have:v k=9:=by show (if (sh S k).1 then 1+8*(sh S k).2.1.length else 0)=9;subst e1;rw[b1,b2];rfl
     simp only[if_pos e1,if_neg e0,if_neg (show k≠k2' by omega)]
     omega
    ·by_cases e2:k=k2'
     ·have:v k=17:=by show (if (sh S k).1 then 1+8*(sh S k).2.1.length else 0)=17;subst e2;rw[c1,c2];rfl
      simp only[if_pos e2,if_neg e0,if_neg e1]
      omega
     ·simp only[if_neg e2,if_neg e0,if_neg e1]
      omega
  rw[aAz v,aAz,aAz,aCE (inN a1),aCE (inN b1),aCE (inN c1)] at key
  omega
 ·have:=aFx (f:=v) (c:=17) (codeN m f) fun k=>by
   show (if (sh S k).1 then 1+8*(sh S k).2.1.length else 0)≤17
   split
   ·rename_i hk
    have:¬2<(sh S k).2.1.length:=fun h=>h3 ⟨k,hk,h⟩
    omega
   ·omega
  omega
theorem aM6 {m:Im} (hs:aK m=true) {f:Int} {h:List Sh} {r:Bool×List Sh} (hg:Gd m (codeN m f) h) (hst:(sh h 0).1=true∧(sh h 0).2.1=[]) (hr:jC m f (codeN m f) false h=some r) (h0:r.1=false):PF m f r.2:=by
 obtain⟨F,G⟩:=aBL hs _ _ _ _ hg hr
 obtain⟨-,e⟩:=F.still h0
 rw[e]
 refine⟨hg,hst,fun pc hp=>?_⟩
 by_cases hk:pc<codeN m f
 ·exact G h0 pc hk hp
 ·unfold sh at hp
  rw[fI (by rw[hg.len];omega)] at hp
  cases hp
theorem aF9 {m:Im} (hs:aK m=true) {f:Int}:∀(n:Nat) (h:List Sh),Gd m (codeN m f) h→((sh h 0).1=true∧(sh h 0).2.1=[])→(hC m f n h=([],false,()))∨((hC m f n h).2.1=true∧PF m f (hC m f n h).1)
 | 0,_,_,_=> .inl rfl
 | n+1,h,hg,hst=>by
  unfold hC
  cases hr:jC m f (codeN m f) false h with
  | none=>exact .inl rfl
  | some r=>
   simp only
   cases h1:r.1 <;> simp only[aA,aB]
   ·exact .inr ⟨trivial,aM6 hs hg hst hr h1⟩
   ·obtain⟨F,-⟩:=aBL hs _ _ _ _ hg hr
    exact aF9 hs n r.2 F.gd (aKJ F.bel hst)
theorem aGb {m:Im} (hs:aK m=true) {f:Int} {S:List Sh} (hl:m.1.length≤8) (hS:PF m f S):∀(n:Nat) (h:List Sh),Gd m (codeN m f) h→Bel m h S→pot m.1 (codeN m f) S h<n→(hC m f n h).2.1=true∧Bel m (hC m f n h).1 S
 | 0,_,_,_,h=>by omega
 | n+1,h,hg,hb,hp=>by
  obtain⟨r,hr,hrb⟩:=aI5 hs hS (codeN m f) false h hg hb
  obtain⟨F,-⟩:=aBL hs _ _ _ _ hg hr
  unfold hC
  rw[hr]
  simp only
  cases h1:r.1 <;> simp only[aA,aB]
  ·exact⟨trivial,hrb⟩
  ·refine aGb hs hl hS n r.2 F.gd hrb ?_
   have:=aOk hl hg F.gd F.bel hrb ((F.moved h1).resolve_left Bool.false_ne_true)
   omega
theorem aHS {m:Im} (hs:aK m=true) {f:Int} (hf:inM m f=true):∃r,xQ m f=some r∧xK (codeN m f) r.1∧
  (r.2.2.1=0→hC m f 4000 (gY m f)=(r.1,true,()))∧(r.2.2.1≠0→hC m f 4000 (gY m f)=([],false,()))∧(r.2.2.1=0→PF m f r.1):=by
 obtain⟨r,hr,hg⟩:=aFj hs hf
 have hl:=(cV (dF hs).1).classes
 have hc:=fB hs hf
 have W:=aLv hs hf
 have hw:=hr
 unfold xQ at hw
 rw[hs,hf] at hw
 simp only[aH,aA] at hw
 have R:=aF9 hs (f:=f) 4000 (gY m f) aCI W.start
 refine⟨r,hr,hg,fun h0=>?_,fun h0=>?_,fun h0=>(aCs hs hf _ _ _ _ W hw h0).1⟩
 ·obtain⟨P,D⟩:=aCs hs hf _ _ _ _ W hw h0
  obtain⟨e1,e2⟩:=aGb hs hl P 4000 (gY m f) aCI (aAD hs hf P) (aOi hc.2 hl P D (aAD hs hf P))
  rcases R with R | ⟨_,R⟩
  ·rw[R] at e1;cases e1
  ·obtain⟨-,b⟩:=aCt hs hf R _ _ _ _ W (aAD hs hf R) hw
   have e:=aB9 R.gd P.gd e2 b
   generalize hC m f 4000 (gY m f)=z at e1 e
   obtain⟨z1,z2,⟨⟩⟩:=z
   simp only at e1 e
   rw[e1,e]
 ·rcases R with R | ⟨_,R⟩
  ·exact R
  ·exact absurd (aCt hs hf R _ _ _ _ W (aAD hs hf R) hw).1 h0
theorem aKj {m:Im} (hs:aK m=true):∀(l:List Int) (out:List (List Sh)),(∀f∈l,inM m f=true)→∃r,rK m l out=some r∧
  (r.2.2.2.1=0→tZ m l out=(r.1,-1,()))∧(r.2.2.2.1≠0→tZ m l out=([],r.2.1,())∧inM m r.2.1=true)∧(r.2.2.2.1=0→r.1.length=out.length+l.length)
 | [],out,_=>⟨_,rfl,fun _=>rfl,fun h=>absurd rfl h,fun _=>rfl⟩
 | f::l,out,hl=>by
  have hf:=hl f (bS ..)
  obtain⟨r,hr,-,h1,h2,-⟩:=aHS hs hf
  unfold rK tZ
  rw[hr]
  simp only[aJ]
  cases he:r.2.2.1 !=0 <;> simp only[aA,aB]
  ·rw[h1 (by simpa using he)]
   obtain⟨r',i1,i2,i3,i4⟩:=aKj hs l (out++[r.1]) fun x hx=>hl x (bI _ hx)
   exact⟨r',i1,i2,i3,fun h0=>by rw[i4 h0];simp;omega⟩
  ·have h0:r.2.2.1≠0:=by simpa using he
   rw[h2 h0]
   exact⟨_,rfl,fun h=>absurd h h0,fun _=>⟨rfl,hf⟩,fun h=>absurd h h0⟩
theorem aLf {m:Im} (hs:aK m=true):∃r,uO m=some r∧(r.2.2.2.1=0→kM m=some (r.1,-1,())∧r.1.length=m.2.2.2.1.length)∧(r.2.2.2.1≠0→kM m=some ([],r.2.1,())∧inM m r.2.1=true):=by
 obtain⟨r,h1,h2,h3,h4⟩:=aKj hs (ints m.2.2.2.1.length) [] fun f hf=>bD.2 (kO.1 hf)
 refine⟨r,?_,fun h0=>⟨?_,?_⟩,fun h0=>⟨?_,(h3 h0).2⟩⟩
 ·unfold uO;rw[hs];exact h1
 ·unfold kM;rw[hs,h2 h0];rfl
 ·rw[h4 h0,mQ];simp
 ·unfold kM;rw[hs,(h3 h0).1];rfl
end Go.Pli

namespace Go.Pli
open Go Go.PM
theorem aE5 {n:Int} (h1: -1000000000≤n) (h2:n≤1000000000):IntKind.i64.wrap n=n:=by rw[cT] <;> omega
theorem aIC {m:Im} (hs:aK m=true) {f:Int} (hf:inM m f=true) {pc:Int} (hp:sin pc (codeN m f:Int)=true):fG (aG m f pc)=true:=by
 obtain⟨h0,h1⟩:=bD.1 hf
 exact (lH ((cV (dF hs).1).mts _ (pH h0 h1))).2.2.2.1.2 _ (aD4 hp)
theorem aAx {m:Im} (hs:aK m=true) {f:Int} (hf:inM m f=true) {pc:Int} (hp:sin pc (codeN m f:Int)=true):∀g∈bK m (aG m f pc),inM m g=true:=fun g hg=>
 aCA (aCB (dF hs).2) hf (aDK.1 (iW.2 ⟨_,eZ.2 ⟨_,aD4 hp,rfl⟩,hg⟩))
theorem aEy {m:Im} (hs:aK m=true) {f:Int} (hf:inM m f=true) {pc:Int} (hp:sin pc (codeN m f:Int)=true):iI m (aG m f pc)=nO m (aG m f pc):=by
 have hg:=aIC hs hf hp
 have ht:=aAx hs hf hp
 have hfil:(bK m (aG m f pc)).filter (inM m)=bK m (aG m f pc):=List.filter_eq_self.2 ht
 unfold iI nO
 rw[hfil]
 generalize aG m f pc=i at hg
 cases h22:i.1==22 <;> simp only[aA,aB]
 cases h23:i.1==23 <;> simp only[aA,aB]
 have e:i.1=23:=by simpa using h23
 unfold fG at hg
 rw[e] at hg
 simp only[aC] at hg
 have h1:=hg.2.1
 unfold uI at h1
 rw[show eI 23=1 from rfl] at h1
 simp only[show decide ((0:Int)≥1)=false from rfl,aB,aC,aP] at h1
 congr 2
 omega
theorem aPs {l:List Int} {b:Int} (h:∀x∈l,x≤b):∀a,a≤b→l.foldl max a≤b:=by
 induction l with
 | nil=>exact fun a h=>h
 | cons x l ih=>exact fun a ha=>ih (fun y hy=>h y (bI _ hy)) _ (by have:=h x (bS ..);omega)
theorem aPt (l:List Int):∀a,a≤l.foldl max a:=by
 induction l with
 | nil=>exact fun a=>eV _
 | cons x l ih=>exact fun a=>Int.le_trans (by omega) (ih (max a x))
theorem aOj {m:Im} (hs:aK m=true) {f:Int} (hf:inM m f=true):0≤eH m f∧eH m f≤4096:=by
 obtain⟨h0,h1⟩:=bD.1 hf
 exact (lH ((cV (dF hs).1).mts _ (pH h0 h1))).2.2.2.2.2.1
theorem aQU {m:Im} (hs:aK m=true) (c:Int):(dQ m c).length≤64:=by
 have hl:=(cV (dF hs).1).classes
 have key:∀(l:List Int),(∀s∈l,sin s (m.1.length:Int)=true)→((l.map fun s=>(bX m s).2.1).flatten).length≤8*l.length:=by
  intro l
  induction l with
  | nil=>intro _;simp
  | cons s l ih=>
   intro h
   have h1:=h s (bS ..)
   simp only[sin,aC,aP] at h1
   have h2:=(zY ((cV (dF hs).1).cls _ (aB1 h1.1 h1.2))).2.1.1
   have:=ih fun x hx=>h x (bI _ hx)
   rw[dM,fY,aX,aF]
   omega
 unfold dQ
 have hin:∀s∈(cB m.1 c).reverse,sin s (m.1.length:Int)=true:=fun s hs'=>by
  rw[List.mem_reverse] at hs'
  unfold cB at hs'
  cases hd:decide (c<(m.1.length:Int)) <;> simp only[hd,aA,aB] at hs'
  ·cases hs'
  ·have:=oJ _ _ (hZ _) hs'
   have hd:c<(m.1.length:Int):=by simpa using hd
   simp only[sin,aC,aP]
   omega
 have h1:=key _ hin
 have h2:((cB m.1 c).reverse).length≤8:=by
  rw[List.length_reverse]
  unfold cB
  cases decide (c<(m.1.length:Int)) <;> simp only[aA,aB]
  ·exact dL _
  ·exact zZ hl c
 omega
theorem aRJ {m:Im} (hs:aK m=true) {f:Int} (hf:inM m f=true) {pc:Int} (hp:sin pc (codeN m f:Int)=true):0≤nO m (aG m f pc)∧nO m (aG m f pc)≤4096:=by
 have hg:=aIC hs hf hp
 have ht:=aAx hs hf hp
 unfold nO
 generalize aG m f pc=i at hg ht
 cases h22:i.1==22 <;> simp only[aA,aB]
 ·cases h23:i.1==23 <;> simp only[aA,aB]
  ·have hx:∀x∈(bK m i).map (eH m),x≤4096:=fun x hx=>by
    obtain⟨g,hg,rfl⟩:=eZ.1 hx
    exact (aOj hs (ht g hg)).2
   exact⟨aPt _ 0,aPs hx 0 (by decide)⟩
  ·have e:i.1=23:=by simpa using h23
   unfold fG at hg
   rw[e] at hg
   simp only[aC] at hg
   have h1:=hg.2.1
   unfold uI at h1
   rw[show eI 23=1 from rfl] at h1
   simp only[show decide ((0:Int)≥1)=false from rfl,aB,aC,aP] at h1
   rw[aE5 (by omega) (by omega)]
   omega
 ·have:=aQU hs i.2.1
  unfold qM
  omega
end Go.Pli

namespace Go.Pli
open Go Go.PM
theorem aLq {m:Im} {f pc:Int} {s:List Tp} (h:(aO m f pc s).2.2.1≠0):(aO m f pc s).2.1=[]:=by
 have C:∀{b:Bool} {x y:St4},(x.2.2.1≠0→x.2.1=[])→(y.2.2.1≠0→y.2.1=[])→((bif b then x else y).2.2.1≠0→(bif b then x else y).2.1=[]):=fun {b} {x} {y} h1 h2=>by cases b;exact h2;exact h1
 revert h
 unfold aO nG
 exact C (fun _=>rfl) (C (fun _=>rfl) (C (C (fun _=>rfl) (fun h=>absurd rfl h)) (C (fun _=>rfl) (C (fun h=>absurd rfl h) (fun _=>rfl)))))
end Go.Pli

namespace Go.Pli
open Go Go.PM
theorem aSj (s:List Mt):aJ7 s=some (idL s,()):=by simp[aJ7,idL]
theorem aQk (m:Im) (r) (h:wK m=some r):∃k,aIF k m=some r:=by
 unfold wK at h
 cases hi:bW m <;> simp only[hi,aA,aB] at h
 ·cases h
 injection h with h
 subst h
 have hf:=cV hi
 have h8:=hf.classes
 have h12:=hf.methods
 have h16:=hf.ints
 have hst:=hf.statics
 have hent:=hf.entries
 simp only[iF,jV,aC,aP] at hst hent
 refine⟨100,?_⟩
 have k1:aE (aBG m ((m.1.length:Int),(m.1,m.2.1,m.2.2.1,(),m.2.2.2.2.1,m.2.2.2.2.2),())) 100 ((0:Int),([]:List Mt),())=some (m,()):=by
  refine aH9 (xs:=m.2.2.2.1) (f:=id) (st:=fun k acc=>((k:Int),acc,())) (fun k x acc rec hk hlt hacc=>?_) (fun rec=>?_) 100 (by omega)
  ·rw[aBG]
   obtain⟨⟨x1,_⟩,⟨x2,_⟩,_,⟨x4,_⟩,_,_,⟨x7,_⟩⟩:=lH (hf.mts x (kY hk))
   have hroom:∀y:Mt,decide (acc.length+[y].length<rowMax)=true:=fun y=>aI (by simp[rowMax];omega)
   simp only[dlt hlt,dge,aH,aA,aR,getD_some hk,aCe (show x.1.length<1000000 by omega),aCe (show x.2.1.length<1000000 by omega),aST (show x.2.2.2.1.length<1000000 by omega),
    aEO (show x.2.2.2.2.2.2.1.length<1000000 by omega),aJ,hroom,bB hlt (show m.2.2.2.1.length≤lenMax by simp only[lenMax];omega)]
   rfl
  ·rw[aBG]
   simp only[bH,aB,List.map_id]
   rfl
 have k2:aE (aBF m 100) 100 ((0:Int),(([]:List Cl),m.2.1,m.2.2.1,(),m.2.2.2.2.1,m.2.2.2.2.2),())=some (m,()):=by
  refine aH9 (xs:=m.1) (f:=id) (st:=fun k acc=>((k:Int),(acc,m.2.1,m.2.2.1,(),m.2.2.2.2.1,m.2.2.2.2.2),())) (fun k x acc rec hk hlt hacc=>?_) (fun rec=>?_) 100 (by omega)
  ·rw[aBF]
   obtain⟨_,⟨c3,_⟩,⟨c5,_⟩⟩:=zY (hf.cls x (kY hk))
   have hroom:∀y:Cl,decide (acc.length+[y].length<rowMax)=true:=fun y=>aI (by simp[rowMax];omega)
   simp only[dlt hlt,dge,aH,aA,aR,getD_some hk,aCe (show x.2.1.length<1000000 by omega),aEO (show x.2.2.1.length<1000000 by omega),aJ,hroom,
    bB hlt (show m.1.length≤lenMax by simp only[lenMax];omega)]
   rfl
  ·rw[aBF]
   simp only[bH,aB,List.map_id]
   exact k1
 unfold aIF
 rw[aCe (by omega),aSW (by omega),aEO (by omega)]
 exact k2
theorem aRX (m:Im) (f:Int) (r) (h:cof m f=some r):∃k,aJ2 k m f=some r:=by
 unfold cof at h
 cases hi:bW m <;> simp only[hi,aA,aB] at h
 ·cases h
 injection h with h
 subst h
 refine⟨(aD m f).2.2.2.1.length+1,?_⟩
 unfold aJ2 ofB
 by_cases h0:f<0
 ·have:inM m f=false:=by cases hh:inM m f;rfl;have:=bD.1 hh;omega
  rw[this,aI h0];rfl
 ·by_cases h1:f≥(m.2.2.2.1.length:Int)
  ·have:inM m f=false:=by cases hh:inM m f;rfl;have:=bD.1 hh;omega
   rw[this,bO h0,aI h1];rfl
  ·have hf:inM m f=true:=bD.2 ⟨by omega,by omega⟩
   have hd:m.2.2.2.1.getD f.toNat zMt=aD m f:=rfl
   have hr:(decide (0≤f)&&decide (f<(m.2.2.2.1.length:Int)))=true:=by simp;omega
   have hx:=(lH ((cV hi).mts _ (pH (show 0≤f by omega) (show f<(m.2.2.2.1.length:Int) by omega)))).2.2.2.1.1
   rw[hf,bO h0,bO h1,hr]
   simp only[aA,aB]
   have:=tC (L:=aBW m f) (n:=(aD m f).2.2.2.1.length) (B:=8) (st:=fun k out=>(out,(k:Int),())) (f:=fun k=>bK m ((aD m f).2.2.2.1.getD k zIns)) (fin:=fun out=>some (dO (fN out),())) (fun k _=>uP hi _)
    (fun k out rec hk ho=>by
     have ht:∀x,pW m x=some (bK m x,()):=fun x=>by unfold pW;rw[hi];rfl
     have htl:=uP hi ((aD m f).2.2.2.1.getD k zIns)
     rw[aBW]
     simp only[hd,dlt hk,dge,aH,aA,aR,ht,aJ,kL (show out.length+(bK m ((aD m f).2.2.2.1.getD k zIns)).length<549755813888 by omega),bB hk (by simp only[lenMax];omega)])
    (fun out rec _=>by rw[aBW];simp only[hd,bH,aB];rfl) ((aD m f).2.2.2.1.length+1) (by omega)
   rw[aGv] at this
   exact this
theorem aH1 {l:List Int} (hl:l.length<1000000):∀(q pre:List Int) (a:Int) (F:Nat),l=pre++q→q.length<F→aE (aBt l) F (a,(pre.length:Int),())=some (q.foldl max a,())
 | [],pre,a,F,hx,hF=>by
  obtain⟨F,rfl⟩:∃n,F=n+1:=⟨F - 1,by simp at hF;omega⟩
  rw[bZ] at hx
  rw[aY,aBt]
  simp only[hx,bH,aB]
  rfl
 | x::q,pre,a,F,hx,hF=>by
  obtain⟨F,rfl⟩:∃n,F=n+1:=⟨F - 1,by simp at hF;omega⟩
  have hk:pre.length<l.length:=by rw[hx,aX];simp
  have hget:l.getD pre.length 0=x:=by rw[hx];simp
  have ih:=aH1 hl q (pre++[x]) (max a x) F (by rw[hx,cF];rfl) (by simp only[aF] at hF;omega)
  simp only[aX,aF,bT,bR] at ih
  rw[aY,aBt]
  simp only[dlt hk,dge,aH,aA,aR,hget,bB hk (show _≤lenMax by simp only[lenMax];omega)]
  exact ih
theorem aPp (l:List Int) (r) (h:vZ l=some r):∃k,aH2 k l=some r:=by
 unfold vZ at h
 cases hb:okL l&&decide (0<l.length) <;> simp only[hb,aA,aB] at h
 ·cases h
 injection h with h
 subst h
 simp only[aC,aP] at hb
 have hl:=iP hb.1
 refine⟨1000001,?_⟩
 match l,hb.2 with
 | x::q,_=>
  unfold aH2
  rw[bO (by simp only[aF];omega),aB,aI (by simp only[aF];omega),aA]
  have:=aH1 hl q [x] x 1000001 rfl (by simp only[aF] at hl;omega)
  simpa[qW] using this
theorem aMF (m:Im):aFU m=some (uU m,()):=by
 unfold aFU uU
 cases decide ((m.2.2.2.1.length:Int)≤12) <;> simp only[aA,aB,eK,mC]
 cases decide ((m.1.length:Int)≤8) <;> simp only[aA,aB,eK,mC]
 cases decide ((m.2.2.1.length:Int)≤16) <;> simp only[aA,aB,eK,mC]
theorem aAJ (c:Int) (pc:Nat):∀(q:List Int) (t:Bool) (phi:List Int),(eC c pc q t phi).2.length=phi.length
 | [],_,_=>rfl
 | to::q,t,phi=>by
  unfold eC
  cases decide (IntKind.i64.wrap (c+phi.getD to.toNat 0)>phi.getD pc 0) <;> simp only[aA,aB]
  ·exact aAJ c pc q t phi
  ·rw[aAJ c pc q];simp
theorem aNm (m:Im) (l:List (List Sh)) (f:Int) (pc:Nat) (t:Bool) (phi:List Int):(jM m l f pc t phi).2.length=phi.length:=by
 unfold jM
 cases !(cE l f (pc:Int)).1 <;> simp only[aA,aB]
 exact aAJ ..
theorem aGr (m:Im) (l:List (List Sh)) (f:Int):∀(q:List Nat) (t:Bool) (phi:List Int),(eG m l f q t phi).2.length=phi.length
 | [],_,_=>rfl
 | pc::q,t,phi=>by rw[eG,aGr m l f q,aNm]
theorem aFF {m:Im} (hs:aK m=true) {f pc:Int} {s:List Tp}:∀to∈(aO m f pc s).2.1,0≤to∧to<(codeN m f:Int):=by
 intro to ht
 by_cases h:(aO m f pc s).2.2.1=0
 ·exact (oT hs h).2.2.2 to ht
 ·rw[aLq h] at ht;cases ht
theorem aGq {m:Im} {f:Int} {pc:Nat} (hc:codeN m f<1000000) (hpc:pc<codeN m f) {c:Int} (hcost:kN m (aG m f (pc:Int))=some (c,())) {r6:St4} (hrl:r6.2.1.length<1000000) (hto:∀to∈r6.2.1,0≤to∧to<(codeN m f:Int)) {t0:Bool} {phi0:List Int} {rec4}:
  ∀(q pre:List Int) (t:Bool) (phi:List Int) (F:Nat),r6.2.1=pre++q→q.length<F→phi.length=codeN m f→
   aE (aBc m f (t0,(pc:Int),phi0,()) rec4 r6) F (t,(pre.length:Int),phi,())=rec4 ((eC c pc q t phi).1,((pc+1:Nat):Int),(eC c pc q t phi).2,())
 | [],pre,t,phi,F,hx,hF,hphi=>by
  obtain⟨F,rfl⟩:∃n,F=n+1:=⟨F - 1,by simp at hF;omega⟩
  rw[bZ] at hx
  rw[aY,aBc]
  simp only[hx,bH,aB,bB hpc (show _≤lenMax by simp only[lenMax];omega),eC]
 | to::q,pre,t,phi,F,hx,hF,hphi=>by
  obtain⟨F,rfl⟩:∃n,F=n+1:=⟨F - 1,by simp at hF;omega⟩
  have hk:pre.length<r6.2.1.length:=by rw[hx,aX];simp
  have hget:r6.2.1.getD pre.length 0=to:=by rw[hx];simp
  obtain⟨t1,t2⟩:=hto to (by rw[hx];simp)
  have ih:=fun t' phi' hphi'=>aGq hc hpc hcost hrl hto (t0:=t0) (phi0:=phi0) (rec4:=rec4) q (pre++[to]) t' phi' F (by rw[hx,cF];rfl) (by simp only[aF] at hF;omega) hphi'
  simp only[aX,aF,bT,bR] at ih
  have fold:∀g:Int,m.2.2.2.1.getD g.toNat zMt=aD m g:=fun _=>rfl
  have fold2:(aD m f).2.2.2.1.getD pc zIns=aG m f (pc:Int):=rfl
  have d1:decide (to<(phi.length:Int))=true:=aI (by rw[hphi];exact t2)
  have d2:decide ((pc:Int)<(phi.length:Int))=true:=by rw[hphi];exact dlt hpc
  rw[aY,aBc]
  simp only[dlt hk,dge,aH,aA,aR,hget,fold,fold2,hcost,aJ,aI t1,d1,d2,bB hk (show _≤lenMax by simp only[lenMax];omega)]
  rw[eC]
  cases decide (IntKind.i64.wrap (c+phi.getD to.toNat 0)>phi.getD pc 0) <;> simp only[aA,aB]
  ·exact ih t phi hphi
  ·exact ih true _ (by rw[dJ];exact hphi)
theorem aF7 {m:Im} {l:List (List Sh)} {f:Int} (hs:aK m=true) (hl:fC l=true) (hf:inM m f=true) {fuel:Nat} (hfu:1000<fuel) {s1:Int×List Int×Unit} {rec2}:
  ∀(k pc:Nat) (t:Bool) (phi:List Int) (F:Nat),pc+k=codeN m f→k<F→phi.length=codeN m f→
   aE (yX m l f fuel s1 rec2) F (t,(pc:Int),phi,())=bif !(eG m l f (List.range' pc k) t phi).1 then some ((eG m l f (List.range' pc k) t phi).2,decide (qW ((eG m l f (List.range' pc k) t phi).2++[0])≤4096),())
    else rec2 (IntKind.i64.wrap (s1.1+1),(eG m l f (List.range' pc k) t phi).2,())
 | 0,pc,t,phi,F,hx,hF,hphi=>by
  obtain⟨F,rfl⟩:∃n,F=n+1:=⟨F - 1,by omega⟩
  have hc:=fB hs hf
  have fold:∀g:Int,m.2.2.2.1.getD g.toNat zMt=aD m g:=fun _=>rfl
  have fold3:(aD m f).2.2.2.1.length=codeN m f:=rfl
  have hpc:pc=codeN m f:=by omega
  have hroom:decide (phi.length+([0]:List Int).length<rowMax)=true:=kL (by simp;omega)
  have hmax:vZ (phi++[0])=some (qW (phi++[0]),()):=by unfold vZ;rw[fD (by simp;omega)];simp
  rw[aY,yX]
  simp only[fold,fold3,hpc,bH,aB,List.range'_zero,eG,hroom,aH,aA,hmax,aJ]
 | k+1,pc,t,phi,F,hx,hF,hphi=>by
  obtain⟨F,rfl⟩:∃n,F=n+1:=⟨F - 1,by omega⟩
  have hc:=fB hs hf
  obtain⟨f0,f1⟩:=bD.1 hf
  have hpc:pc<codeN m f:=by omega
  have ih:=fun t' phi' hphi'=>aF7 hs hl hf hfu (s1:=s1) (rec2:=rec2) k (pc+1) t' phi' F (by omega) (by omega) hphi'
  have fold:∀g:Int,m.2.2.2.1.getD g.toNat zMt=aD m g:=fun _=>rfl
  have fold3:(aD m f).2.2.2.1.length=codeN m f:=rfl
  have hp:pC l f (pc:Int)=some (cE l f (pc:Int),()):=by unfold pC;simp only[f0,dge,aM,aH,aA]
  have hst:pR m f (pc:Int) (cE l f (pc:Int)).2.1=some (aO m f (pc:Int) (cE l f (pc:Int)).2.1):=by unfold pR;rw[hs,aCN hl];rfl
  have hcost:kN m (aG m f (pc:Int))=some (iI m (aG m f (pc:Int)),()):=by unfold kN;rw[(dF hs).1];rfl
  have h2:(aO m f (pc:Int) (cE l f (pc:Int)).2.1).2.1.length≤2:=uR ..
  have d1:decide ((pc:Int)<(codeN m f:Int))=true:=dlt hpc
  rw[aY,yX]
  simp only[fold,fold3,d1,dge,aH,aA,hp,aJ,List.range'_succ]
  have hrel:∀r,eG m l f (pc::r) t phi=eG m l f r (jM m l f pc t phi).1 (jM m l f pc t phi).2:=fun _=>rfl
  rw[hrel]
  cases h1:(cE l f (pc:Int)).1
  case false=>
   have hrp:jM m l f pc t phi=(t,phi):=by unfold jM;rw[h1];rfl
   rw[cJ,aA,bB hpc (show _≤lenMax by simp only[lenMax];omega),hrp]
   exact ih t phi hphi
  have hrp:jM m l f pc t phi=eC (iI m (aG m f (pc:Int))) pc (aO m f (pc:Int) (cE l f (pc:Int)).2.1).2.1 t phi:=by unfold jM;rw[h1];rfl
  rw[bA,aB,hst,aJ]
  have:=aGq (m:=m) (f:=f) (pc:=pc) (by omega) hpc hcost (r6:=aO m f (pc:Int) (cE l f (pc:Int)).2.1) (Nat.lt_of_le_of_lt h2 (by omega)) (aFF hs) (t0:=t) (phi0:=phi) (rec4:=aE (yX m l f fuel s1 rec2) F) _ [] t phi fuel rfl (Nat.lt_of_le_of_lt h2 (by omega)) hphi
  simp only[bT,Int.cast_ofNat_Int] at this
  refine this.trans ?_
  rw[hrp]
  exact ih _ _ (by rw[aAJ];exact hphi)
theorem aOp (m:Im) (l:List (List Sh)) (f:Int) (r) (h:pD m l f=some r):∃k,aHb k m l f=some r:=by
 unfold pD at h
 cases hb:aK m&&(fC l&&inM m f) <;> simp only[hb,aA,aB] at h
 ·cases h
 injection h with h
 subst h
 simp only[aC] at hb
 obtain⟨hs,hl,hf⟩:=hb
 have hc:=fB hs hf
 obtain⟨f0,f1⟩:=bD.1 hf
 have fold:∀g:Int,m.2.2.2.1.getD g.toNat zMt=aD m g:=fun _=>rfl
 have fold3:(aD m f).2.2.2.1.length=codeN m f:=rfl
 have rounds:∀(k i:Nat) (phi:List Int) (F:Nat),i+k=codeN m f+1→k<F→phi.length=codeN m f→aE (yW m l f 1001) F ((i:Int),phi,())=some (kP m l f k phi):=by
  intro k
  induction k with
  | zero=>
   intro i phi F hi hF hphi
   obtain⟨F,rfl⟩:∃n,F=n+1:=⟨F - 1,by omega⟩
   rw[aY,yW]
   have hw:IntKind.i64.wrap ((codeN m f:Int)+1)=((codeN m f+1:Nat):Int):=by rw[cT] <;> omega
   have hi':i=codeN m f+1:=by omega
   simp only[fold,fold3,hw,hi',bH,aB,kP]
  | succ k ih=>
   intro i phi F hi hF hphi
   obtain⟨F,rfl⟩:∃n,F=n+1:=⟨F - 1,by omega⟩
   have hw:IntKind.i64.wrap ((codeN m f:Int)+1)=((codeN m f+1:Nat):Int):=by rw[cT] <;> omega
   have hlt:i<codeN m f+1:=by omega
   rw[aY,yW]
   simp only[fold,fold3,hw,dlt hlt,aA]
   have:=aF7 hs hl hf (fuel:=1001) (by omega) (s1:=((i:Int),phi,())) (rec2:=aE (yW m l f 1001) F) (codeN m f) 0 false phi 1001 (by omega) (by omega) hphi
   simp only[Int.cast_ofNat_Int] at this
   refine this.trans ?_
   rw[kP,List.range_eq_range']
   have hw2:=bB hlt (show codeN m f+1≤lenMax by simp only[lenMax];omega)
   cases (eG m l f (List.range' 0 (codeN m f)) false phi).1 <;> simp only[bA,cJ,aA,aB]
   rw[hw2]
   exact ih (i+1) _ F (by omega) (by omega) (by rw[aGr];exact hphi)
 refine⟨1001,?_⟩
 unfold aHb fR
 have e0:decide ((0:Int)≤(codeN m f:Int))=true:=aI (by omega)
 have e1:decide ((codeN m f:Int)<(rowMax:Int))=true:=aI (by simp only[rowMax];omega)
 have e2:decide ((codeN m f:Int)≤(codeN m f:Int))=true:=aI (by omega)
 simp only[fold,fold3,aI f0,aI f1,aH,aA,e0,e1,e2,aR]
 exact rounds (codeN m f+1) 0 _ 1001 (by omega) (by omega) (by simp)
end Go.Pli

namespace Go.Pli
open Go Go.PM
def strip (x:Mt):List Tp×List Tp×Tp×List Ins×Int:=(x.1,x.2.1,x.2.2.1,x.2.2.2.1,x.2.2.2.2.1)
def Like (m:Im) (ms:List Mt):Prop:=ms.map strip=m.2.2.2.1.map strip
theorem iY {x y:Mt} (h:strip x=strip y):x.1=y.1∧x.2.1=y.2.1∧x.2.2.1=y.2.2.1∧x.2.2.2.1=y.2.2.2.1∧x.2.2.2.2.1=y.2.2.2.2.1:=by
 unfold strip at h
 simp only[lV] at h
 exact h
theorem Like.len {m:Im} {ms:List Mt} (h:Like m ms):ms.length=m.2.2.2.1.length:=by
 have:=dE List.length h
 simpa using this
theorem Like.refl (m:Im):Like m m.2.2.2.1:=rfl
theorem aDW (g:Mt→List Tp×List Tp×Tp×List Ins×Int):∀(l:List Mt) (i:Nat),g (l.getD i zMt)=(l.map g).getD i (g zMt)
 | [],i=>by simp
 | x::l,0=>by simp
 | x::l,i+1=>by rw[List.getD_cons_succ,dM,List.getD_cons_succ];exact aDW g l i
theorem Like.at {m:Im} {ms:List Mt} (h:Like m ms) (i:Nat):strip (ms.getD i zMt)=strip (m.2.2.2.1.getD i zMt):=by
 rw[aDW strip,aDW strip,h]
theorem Like.mt {m:Im} {ms:List Mt} (h:Like m ms) (f:Int):strip (aD (aN m ms) f)=strip (aD m f):=h.at f.toNat
theorem Like.mem {m:Im} {ms:List Mt} (h:Like m ms) {x:Mt} (hx:x∈ms):∃y∈m.2.2.2.1,strip x=strip y:=by
 have:strip x∈m.2.2.2.1.map strip:=by rw[←h];exact List.mem_map_of_mem hx
 obtain⟨y,h1,h2⟩:=eZ.1 this
 exact⟨y,h1,h2.symm⟩
theorem Like.set {m:Im} {ms:List Mt} (h:Like m ms) {i:Nat} {x:Mt} (hx:strip x=strip (ms.getD i zMt)):Like m (ms.set i x):=by
 unfold Like
 rw[←h]
 refine List.ext_getElem? fun j=>?_
 rw[iM,iM,iB]
 by_cases hij:i=j
 ·subst hij
  by_cases hi:i<ms.length
  ·simp[hi,hx]
  ·rw[mA (by omega)];simp[hi]
 ·simp[hij]
theorem aLk (x:Mt) (p:Int):strip (gZ x p)=strip x:=rfl
theorem aLl (x:Mt) (p:List Int):strip (sI x p)=strip x:=rfl
section
variable {m:Im} {ms:List Mt}
theorem Like.inM (h:Like m ms) (f:Int):inM (aN m ms) f=Pli.inM m f:=by
 unfold Pli.inM nM aN
 rw[h.len]
theorem Like.code (h:Like m ms) (f:Int):(aD (aN m ms) f).2.2.2.1=(aD m f).2.2.2.1:=(iY (h.mt f)).2.2.2.1
theorem Like.codeN (h:Like m ms) (f:Int):codeN (aN m ms) f=Pli.codeN m f:=by unfold Pli.codeN;rw[h.code]
theorem Like.ins (h:Like m ms) (f pc:Int):aG (aN m ms) f pc=aG m f pc:=by unfold aG;rw[h.code]
theorem Like.targets (_:Like m ms) (i:Ins):bK (aN m ms) i=bK m i:=rfl
theorem Like.of (h:Like m ms) (f:Int):ofB (aN m ms) f=ofB m f:=by
 unfold ofB pZ
 rw[h.inM,h.code]
 rfl
theorem aPI {x y:Mt} (h:strip x=strip y) (n:Int):jT x n=jT y n:=by
 unfold jT
 rw[(iY h).1,(iY h).2.1]
theorem aKt {x y:Mt} (h:strip x=strip y) (t:List Tp):iT x t=iT y t:=by
 unfold iT
 rw[(iY h).1,(iY h).2.2.1]
theorem aRg (h:Like m ms) {x y:Mt} (hxy:strip x=strip y) (i:Ins):eM (aN m ms) x i=eM m y i:=by
 unfold eM
 rw[aPI hxy,(iY hxy).2.2.1,aKt (h.mt i.2.1),aKt (h.mt (dR (aN m ms) i.2.1 i.2.2.1).1)]
 rfl
theorem Like.step (h:Like m ms) (f pc:Int) (s:List Tp):aO (aN m ms) f pc s=aO m f pc s:=by
 unfold aO
 rw[h.inM,h.codeN,h.ins,aRg h (h.mt f)]
 rfl
theorem aS1 {a a' b b':Mt} (h1:strip a=strip a') (h2:strip b=strip b'):rP a b=rP a' b':=by
 unfold rP
 rw[(iY h1).1,(iY h1).2.2.1,(iY h2).1,(iY h2).2.2.1]
theorem Like.slot (h:Like m ms) (c:Int):oU (aN m ms) c=oU m c:=by
 funext n f
 have e1:wP (aN m ms) c f=wP m c f:=by
  unfold wP
  rw[(iY (h.mt f)).1]
  rfl
 have e2:rP (aD (aN m ms) f) (aD (aN m ms) ((eW (aN m ms) c).getD n 0))=rP (aD m f) (aD m ((eW m c).getD n 0)):=aS1 (h.mt f) (h.mt _)
 have e3:sin f ((aN m ms).2.2.2.1.length:Int)=sin f (m.2.2.2.1.length:Int):=by rw[show (aN m ms).2.2.2.1.length=m.2.2.2.1.length from h.len]
 unfold oU
 rw[e1,e2,e3]
 rfl
theorem Like.classes (h:Like m ms):kX (aN m ms)=kX m:=by
 have:∀c,iS (aN m ms) c=iS m c:=fun c=>by
  unfold iS
  rw[h.slot]
  rfl
 unfold kX
 simp only[this]
 rfl
theorem Like.instr (h:Like m ms) {x y:Mt} (hxy:strip x=strip y) (i:Ins):cG (aN m ms) x i=cG m y i:=by
 unfold cG
 obtain⟨e1,e2,e3,e4,-⟩:=iY hxy
 have e5:(aN m ms).2.2.2.1.length=m.2.2.2.1.length:=h.len
 rw[e1,e2,e4,e5]
 rfl
def iL (x:Mt):Prop:=(0≤x.2.2.2.2.2.1∧x.2.2.2.2.2.1≤4096)∧x.2.2.2.2.2.2.1.length=x.2.2.2.1.length∧∀n∈x.2.2.2.2.2.2.1,0≤n∧n≤4096
theorem Like.sane (h:Like m ms) (hs:aK m=true) (hn:∀x∈ms,iL x):aK (aN m ms)=true:=by
 obtain⟨hi,hb⟩:=dF hs
 have hf:=cV hi
 have h1:bW (aN m ms)=true:=by
  unfold bW at hi⊢
  simp only[aC] at hi⊢
  obtain⟨a1,a2,a3,a4,a5,a6,a7⟩:=hi
  refine⟨a1,a2,a3,?_,a5,?_,a7⟩
  ·rw[show (aN m ms).2.2.2.1.length=m.2.2.2.1.length from h.len];exact a4
  ·rw[bM] at a6⊢
   intro x hx
   obtain⟨y,hy,hxy⟩:=h.mem hx
   obtain⟨e1,e2,e3,e4,e5⟩:=iY hxy
   have hy:=a6 y hy
   have hc:=(lH hy).2.2.2.1.1
   obtain⟨n1,n2,n3⟩:=hn x hx
   unfold lN at hy⊢
   simp only[aC] at hy⊢
   rw[e1,e2,e3,e4,e5]
   refine⟨hy.1,hy.2.1,hy.2.2.1,hy.2.2.2.1,hy.2.2.2.2.1,hy.2.2.2.2.2.1,?_,?_⟩
   ·simp only[fS,aC,aP];exact n1
   ·simp only[jV,fS,aC,aP,bM]
    exact⟨by rw[n2,e4];omega,n3⟩
 have h2:kJ (aN m ms)=true:=by
  unfold kJ at hb⊢
  simp only[aC] at hb⊢
  obtain⟨b1,b2,b3,b4⟩:=hb
  refine⟨b1,by rw[h.classes];exact b2,?_,?_⟩
  ·rw[bM] at b3⊢
   intro x hx
   obtain⟨y,hy,hxy⟩:=h.mem hx
   obtain⟨e1,e2,e3,e4,e5⟩:=iY hxy
   obtain⟨n1,n2,n3⟩:=hn x hx
   have hy:=b3 y hy
   unfold fF at hy⊢
   simp only[aC] at hy⊢
   rw[funext (h.instr hxy),n2,e1,e2,e3,e4]
   exact⟨hy.1,hy.2.1,hy.2.2.1,hy.2.2.2.1,aI rfl,hy.2.2.2.2.2⟩
  ·rw[bM] at b4⊢
   intro f hfm
   have:=b4 f hfm
   unfold rE at this⊢
   obtain⟨e1,e2,e3,e4,e5⟩:=iY (h.mt f)
   rw[e1,e3,show (aN m ms).2.2.2.1.length=m.2.2.2.1.length from h.len]
   exact this
 unfold aK
 rw[h1,h2];rfl
end
end Go.Pli

namespace Go.Pli
open Go Go.PM
def aBO (rec:List Mt→Option (Im×Bool×Unit)):Option (List Mt)→Option (Im×Bool×Unit)
 | none=>some (zIm,false,())
 | some ms=>rec ms
theorem aDd (ms:List Mt) (f:Int):(fO ms f).length=ms.length:=by
 unfold fO
 cases decide (((ms.getD f.toNat zMt).2.2.2.2.2.2.1.length:Int)>0) <;> simp only[aA,aB,dJ]
theorem aJi (ed:List (List Int)) (part:List Int):∀(q:List Int) (ms ms2:List Mt),mY ed part q ms=some ms2→ms2.length=ms.length
 | [],ms,ms2,h=>by injection h with h;rw[h]
 | f::q,ms,ms2,h=>by
  rw[mY] at h
  cases hc:decide (((fO ms f).getD f.toNat zMt).2.2.2.2.2.1>0)&&jE ed part <;> simp only[hc,aA,aB] at h
  ·rw[aJi ed part q _ _ h,aDd]
  ·cases h
theorem aJl (m:Im) (l:List (List Sh)):∀(q:List Int) (ms ms2:List Mt),oA m l q ms=some (some ms2)→ms2.length=ms.length
 | [],ms,ms2,h=>by injection h with h;injection h with h;rw[h]
 | f::q,ms,ms2,h=>by
  rw[oA] at h
  cases hp:pD (aN m ms) l f with
  | none=>rw[hp] at h;cases h
  | some r=>
   rw[hp] at h
   simp only[aJ] at h
   cases hr:r.2.1 <;> simp only[hr,bA,cJ,aA,aB] at h
   ·injection h with h;cases h
   ·rw[aJl m l q _ _ h,dJ]
theorem aJh {ed:List (List Int)} {s2:List (List Int)×Int×List Mt×Unit} (hed:s2.1=ed) {r5:List (List Int)×Unit} {s6:Int×List Mt×Unit} {part:List Int} (hp:r5.1.getD s6.1.toNat []=part) (hpl:part.length<1000000) {N:Nat} (hin:∀f∈part,0≤f∧f<(N:Int)) {rec7}:
  ∀(q pre:List Int) (ms:List Mt) (F:Nat),part=pre++q→q.length<F→ms.length=N→aE (vO s2 r5 s6 rec7) F ((pre.length:Int),ms,())=aBO (fun ms2=>rec7 (IntKind.i64.wrap (s6.1+1),ms2,())) (mY ed part q ms)
 | [],pre,ms,F,hx,hF,_=>by
  obtain⟨F,rfl⟩:∃n,F=n+1:=⟨F - 1,by simp at hF;omega⟩
  rw[bZ] at hx
  rw[aY,vO]
  simp only[hp,←hx,bH,aB]
  rfl
 | f::q,pre,ms,F,hx,hF,hms=>by
  obtain⟨F,rfl⟩:∃n,F=n+1:=⟨F - 1,by simp at hF;omega⟩
  have hk:pre.length<part.length:=by rw[hx,aX];simp
  have hget:part.getD pre.length 0=f:=by rw[hx];simp
  obtain⟨f0,f1⟩:=hin f (by rw[hx];simp)
  have ih:=aJh hed hp hpl hin (rec7:=rec7) q (pre++[f]) (fO ms f) F (by rw[hx,cF];rfl) (by simp only[aF] at hF;omega) (by rw[aDd];exact hms)
  simp only[aX,aF,bT,bR] at ih
  have hcy:tT s2.1 part=some (jE ed part,()):=by unfold tT;rw[fD hpl,hed];rfl
  have d1:decide (f<(ms.length:Int))=true:=aI (by rw[hms];exact f1)
  have d2:decide (f<((fO ms f).length:Int))=true:=aI (by rw[aDd,hms];exact f1)
  have hw:=bB hk (show part.length≤lenMax by simp only[lenMax];omega)
  rw[aY,vO]
  simp only[hp,dlt hk,dge,aH,aA,aR,hget,aI f0,d1]
  have hpot:(bif decide (((ms.getD f.toNat zMt).2.2.2.2.2.2.1.length:Int)>0) then
    bif decide ((0:Int)<((ms.getD f.toNat zMt).2.2.2.2.2.2.1.length:Int)) then
     some (.inl (ms.set f.toNat (gZ (ms.getD f.toNat zMt) ((ms.getD f.toNat zMt).2.2.2.2.2.2.1.getD 0 0)),()))
    else none
   else some (.inl (ms,())):Option ((List Mt×Unit)⊕(Im×Bool×Unit)))=some (.inl (fO ms f,())):=by
   unfold fO
   by_cases h:((ms.getD f.toNat zMt).2.2.2.2.2.2.1.length:Int)>0
   ·rw[aI h];rfl
   ·rw[bO h];rfl
  have hpot':=dE (fun o=>o.bind fun q=>match q with
   | .inr r14=>some r14
   | .inl s13=>bif decide (0≤f)&&decide (f<(s13.1.length:Int)) then
     bif decide ((s13.1.getD f.toNat zMt).2.2.2.2.2.1>0) then
      (tT s2.1 part).bind fun r15=>bif r15.1 then some (zIm,false,()) else aE (vO s2 r5 s6 rec7) F (IntKind.i64.wrap ((pre.length:Int)+1),s13.1,())
     else aE (vO s2 r5 s6 rec7) F (IntKind.i64.wrap ((pre.length:Int)+1),s13.1,())
    else none) hpot
  have e1:decide (0≤f)=true:=aI f0
  simp only[e1,eK] at hpot'
  refine Eq.trans ?_ (hpot'.trans ?_)
  ·rfl
  ·simp only[aJ,d2,aA,hcy,hw,ih]
   rw[mY]
   cases decide (((fO ms f).getD f.toNat zMt).2.2.2.2.2.1>0) <;> cases jE ed part <;> rfl
theorem aJk {m:Im} {l:List (List Sh)} {fuel:Nat} (hfu:1000000<fuel) {ed:List (List Int)} {s2:List (List Int)×Int×List Mt×Unit} (hed:s2.1=ed) {r5:List (List Int)×Unit} {s6:Int×List Mt×Unit} {part:List Int} (hp:r5.1.getD s6.1.toNat []=part) (hpl:part.length<1000000) {N:Nat} (hin:∀f∈part,0≤f∧f<(N:Int)) {rec7}:
  ∀(q pre:List Int) (ms:List Mt) (F:Nat) (r),part=pre++q→q.length<F→ms.length=N→
   ((oA m l q ms).bind fun o=>aBO (fun ms1=>aBO (fun ms2=>rec7 (IntKind.i64.wrap (s6.1+1),ms2,())) (mY ed part part ms1)) o)=some r→aE (aBg l fuel (m,()) s2 r5 s6 rec7) F ((pre.length:Int),ms,())=some r
 | [],pre,ms,F,r,hx,hF,hms,h=>by
  obtain⟨F,rfl⟩:∃n,F=n+1:=⟨F - 1,by simp at hF;omega⟩
  rw[bZ] at hx
  rw[aY,aBg]
  simp only[hp,←hx,bH,aB]
  have:=aJh hed hp hpl hin (rec7:=rec7) part [] ms fuel rfl (by omega) hms
  simp only[bT,Int.cast_ofNat_Int] at this
  exact this.trans h
 | f::q,pre,ms,F,r,hx,hF,hms,h=>by
  obtain⟨F,rfl⟩:∃n,F=n+1:=⟨F - 1,by simp at hF;omega⟩
  have hk:pre.length<part.length:=by rw[hx,aX];simp
  have hget:part.getD pre.length 0=f:=by rw[hx];simp
  obtain⟨f0,f1⟩:=hin f (by rw[hx];simp)
  have d1:decide (f<(ms.length:Int))=true:=aI (by rw[hms];exact f1)
  have hw:=bB hk (show part.length≤lenMax by simp only[lenMax];omega)
  rw[oA] at h
  have hwm:aN m ms=(m.1,m.2.1,m.2.2.1,ms,m.2.2.2.2):=rfl
  rw[hwm] at h
  rw[aY,aBg]
  simp only[hp,dlt hk,dge,aH,aA,aR,hget]
  cases hpl2:pD (m.1,m.2.1,m.2.2.1,ms,m.2.2.2.2) l f with
  | none=>rw[hpl2] at h;cases h
  | some q2=>
   rw[hpl2] at h
   simp only[aJ] at h⊢
   cases hq:q2.2.1 <;> simp only[hq,bA,cJ,aA,aB] at h⊢
   ·exact h
   ·have ih:=aJk hfu hed hp hpl hin (rec7:=rec7) q (pre++[f]) _ F r (by rw[hx,cF];rfl) (by simp only[aF] at hF;omega) (by rw[dJ];exact hms) h
    simp only[aX,aF,bT,bR] at ih
    simp only[aI f0,d1,aH,aA,hw]
    exact ih
theorem aJf {m:Im} {l:List (List Sh)} {fuel:Nat} (hfu:1000000<fuel) {ed:List (List Int)} {s2:List (List Int)×Int×List Mt×Unit} (hed:s2.1=ed) {r5:List (List Int)×Unit} (hrl:r5.1.length<1000000) {N:Nat} (hr:∀p∈r5.1,p.length<1000000∧∀f∈p,0≤f∧f<(N:Int)):
  ∀(ps pre:List (List Int)) (ms:List Mt) (F:Nat) (r),r5.1=pre++ps→ps.length<F→ms.length=N→((nZ m l ed ps ms).bind fun q=>some (aEo m q))=some r→aE (yY l fuel (m,()) s2 r5) F ((pre.length:Int),ms,())=some r
 | [],pre,ms,F,r,hx,hF,hms,h=>by
  obtain⟨F,rfl⟩:∃n,F=n+1:=⟨F - 1,by simp at hF;omega⟩
  rw[bZ] at hx
  rw[aY,yY]
  simp only[hx,bH,aB]
  exact h
 | p::ps,pre,ms,F,r,hx,hF,hms,h=>by
  obtain⟨F,rfl⟩:∃n,F=n+1:=⟨F - 1,by simp at hF;omega⟩
  have hk:pre.length<r5.1.length:=by rw[hx,aX];simp
  have hget:r5.1.getD pre.length []=p:=by rw[hx];simp
  obtain⟨hpl,hin⟩:=hr p (by rw[hx];simp)
  have hw:=bB hk (show r5.1.length≤lenMax by simp only[lenMax];omega)
  rw[aY,yY]
  simp only[dlt hk,dge,aH,aA]
  refine aJk hfu hed (s6:=((pre.length:Int),ms,())) (part:=p) (by simpa using hget) hpl hin (rec7:=aE (yY l fuel (m,()) s2 r5) F) p [] ms fuel r rfl (by omega) hms ?_
  rw[nZ] at h
  cases ha:oA m l p ms with
  | none=>rw[ha] at h;cases h
  | some o=>
   rw[ha] at h
   simp only[aJ] at h⊢
   cases o with
   | none=>exact h
   | some ms1=>
    simp only[aBO] at h⊢
    have hl1:=aJl m l p ms ms1 ha
    cases hc:mY ed p p ms1 with
    | none=>rw[hc] at h;exact h
    | some ms2=>
     rw[hc] at h
     have hl2:=aJi ed p p ms1 ms2 hc
     simp only[hw]
     have ih:=aJf hfu hed hrl hr (l:=l) (m:=m) ps (pre++[p]) ms2 F r (by rw[hx,cF];rfl) (by simp only[aF] at hF;omega) (by omega) h
     simp only[aX,aF,bT,bR] at ih
     exact ih
def gJ (m:Im) (k:Nat):List Mt:=(m.2.2.2.1.take k).map (fun x=>gZ x 0)++m.2.2.2.1.drop k
theorem aE0 (m:Im) (k:Nat):Like m (gJ m k):=by
 unfold Like gJ
 rw[kB,List.map_map]
 have:(strip∘fun x=>gZ x 0)=strip:=rfl
 rw[this,←kB,xI]
theorem aK0 {m:Im} {k:Nat} (hk:k<m.2.2.2.1.length):(gJ m k).set k (gZ ((gJ m k).getD k zMt) 0)=gJ m (k+1):=by
 have hl:((m.2.2.2.1.take k).map fun x=>gZ x 0).length=k:=by rw[qF,cA];omega
 have hd:m.2.2.2.1.drop k=m.2.2.2.1[k]::m.2.2.2.1.drop (k+1):=List.drop_eq_getElem_cons hk
 have hz:gJ m k=((m.2.2.2.1.take k).map fun x=>gZ x 0)++m.2.2.2.1[k]::m.2.2.2.1.drop (k+1):=by unfold gJ;rw[hd]
 have hg:(gJ m k).getD k zMt=m.2.2.2.1[k]:=by
  rw[hz,cW,cS (by omega),hl,Nat.sub_self];rfl
 rw[hg,hz,List.set_append_right _ _ (by omega),hl,Nat.sub_self,List.set_cons_zero]
 unfold gJ
 rw[rS,aT hk,kB,cF]
 rfl
theorem aHF {m:Im} (hs:aK m=true):∀x∈m.2.2.2.1,iL x:=fun x hx=>by
 obtain⟨i,hi,rfl⟩:=List.mem_iff_getElem.1 hx
 have hf:inM m (i:Int)=true:=bD.2 ⟨by omega,by omega⟩
 have e:aD m (i:Int)=m.2.2.2.1[i]:=by unfold aD;rw[aR,getD_some (aT hi)]
 have h1:=lH ((cV (dF hs).1).mts _ hx)
 have h2:=aME hs hf
 unfold jP codeN at h2
 rw[e] at h2
 exact⟨h1.2.2.2.2.2.1,h2,h1.2.2.2.2.2.2.2⟩
theorem aEZ {m:Im} (hs:aK m=true) (k:Nat):∀x∈gJ m k,iL x:=fun x hx=>by
 rcases cR.1 hx with hx | hx
 ·obtain⟨y,hy,rfl⟩:=eZ.1 hx
  obtain⟨-,h2,h3⟩:=aHF hs y (aEU hy)
  exact⟨⟨eV 0,by show (0:Int)≤4096;decide⟩,h2,h3⟩
 ·exact aHF hs x (List.mem_of_mem_drop hx)
theorem aOt (m:Im) (l:List (List Sh)) (r) (h:lF m l=some r):∃k,aHe k m l=some r:=by
 unfold lF at h
 cases hb:aK m&&wT m <;> simp only[hb,aA,aB] at h
 ·cases h
 simp only[aC] at hb
 obtain⟨hs,hok⟩:=hb
 cases hr:jL (fE m) with
 | none=>rw[hr] at h;cases h
 | some r4=>
  rw[hr] at h
  simp only[aJ] at h
  cases hb:okL r4.1&&r4.1.all (fun p=>okL p&&p.all (inM m)) <;> simp only[hb,aA,aB] at h
  ·cases h
  simp only[aC,bM] at hb
  have hrl:=iP hb.1
  have h12:=(cV (dF hs).1).methods
  have hcopy:wK m=some (m,()):=by unfold wK;rw[(dF hs).1];rfl
  refine⟨1000001,?_⟩
  unfold aHe
  rw[hcopy,aJ]
  refine nU (L:=aBf l 1000001 (m,())) (n:=m.2.2.2.1.length) (st:=fun k=>((fE m).take k,(k:Int),gJ m k,())) (fun k rec hk=>?_) (fun rec=>?_) 1000001 (by omega)
  ·have hk':=aE0 m k
   have hc:cof (aN m (gJ m k)) (k:Int)=some (ofB m (k:Int),()):=by unfold cof;rw[(dF (hk'.sane hs (aEZ hs k))).1,hk'.of];rfl
   have hx:(fE m)[k]? =some (ofB m (k:Int)):=by
    unfold fE ints
    simp[hk]
   have hlen:(gJ m k).length=m.2.2.2.1.length:=hk'.len
   have hc':cof (m.1,m.2.1,m.2.2.1,gJ m k,m.2.2.2.2) (k:Int)=some (ofB m (k:Int),()):=hc
   have hz:=aK0 hk
   unfold gZ at hz
   rw[aBf]
   simp only[dlt hk,aA,hc',aJ,aF,bT,kL (show ((fE m).take k).length+(0+1)<549755813888 by rw[cA];omega),bB hk (show _≤lenMax by simp only[lenMax];omega),hlen,dge,aH,aR,hz]
   rw[rS,hx]
   rfl
  ·have e:(fE m).take m.2.2.2.1.length=fE m:=by rw[←aDq,iA]
   have ez:gJ m m.2.2.2.1.length=m.2.2.2.1.map fun x=>gZ x 0:=by unfold gJ;rw[iA,List.drop_length,bZ]
   rw[aBf]
   simp only[bH,aB,e,hr,aJ]
   have:=aJf (m:=m) (l:=l) (fuel:=1000001) (by omega) (ed:=fE m) (s2:=(fE m,(m.2.2.2.1.length:Int),gJ m m.2.2.2.1.length,())) rfl (r5:=r4) hrl (N:=m.2.2.2.1.length) (fun p hp=>⟨iP (hb.2 p hp).1,fun f hf=>bD.1 ((hb.2 p hp).2 f hf)⟩) r4.1 [] _ 1000001 r rfl (by omega) (by rw[qF]) h
   rw[ez]
   rw[ez] at this
   simpa using this
end Go.Pli
