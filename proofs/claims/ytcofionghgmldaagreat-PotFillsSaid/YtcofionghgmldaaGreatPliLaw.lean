/- Whether an image is taken in: it is told of every image; more room does no harm. -/
import Derived.Test.YtcofionghgmldaaGreatPliTar
import Derived.Test.YtcofionghgmldaaGreatPliReach
import Derived.Test.YtcofionghgmldaaGreatPliTy
import Derived.Test.YtcofionghgmldaaGreatPliNt
import Derived.Test.YtcofionghgmldaaGreatPliInst
import Derived.Test.YtcofionghgmldaaGreatPMLaw
import Derived.Test.YtcofionghgmldaaGreatPliL5E
import Derived.KernelRfl
namespace Go.Pli
open Go Go.PM
theorem aJX:∀l:List Int,(dN l).length≤l.length
 | []=>aU _
 | a::l=>by
  have:=aJX l
  unfold dN
  cases h:dN l with
  | nil=>simp
  | cons b r=>
   rw[h] at this
   simp only[aF] at this⊢
   cases a==b <;> simp only[aA,aB,aF] <;> omega
theorem aDu {m:Im} (hs:aJ m=true) {e:List Int} (he:e∈fG m):e.length≤1000∧∀x∈e,inM m x=true:=by
 obtain⟨f,hf,rfl⟩:=fR.1 he
 have hfm:inM m f=true:=bC.2 (iQ.1 hf)
 have ht:=aCM (dI hs).2
 constructor
 ·unfold ofB
  rw[hfm]
  simp only[aA]
  have h1:=aJX (fT (qC m f))
  have h2:=aTl (dI hs).1 hfm
  rw[(tD _).length_eq] at h1
  omega
 ·intro x hx
  exact aCL ht hfm ((aHX hfm).1 hx)
theorem aJA {m:Im} (hs:aJ m=true):wW m=true:=by
 simp only[wW,bO,aC]
 intro e he
 obtain⟨h1,h2⟩:=aDu hs he
 exact⟨fB (by omega),h2⟩
theorem aTe {m:Im} (hs:aJ m=true) {l:List (List Sh)} (hl:eN l=true):∃r,aEW m l=some r:=by
 have h12:=(dD (dI hs).1).methods
 have hlen:=aDv m
 obtain⟨r,hr,R⟩:=aGq (ED:=fG m) (by omega) fun e he=>(aDu hs he).1
 have hfew:=R.few
 have hall:(okL r&&r.all (fun p=>okL p&&p.all (inM m)))=true:=by
  simp only[aC,bO]
  refine⟨fB (by omega),fun p hp=>?_⟩
  have h4:∀x∈p,inM m x=true:=fun x hx=>by
   obtain⟨x0,x1⟩:=(R.all x).1 (iX.2 ⟨p,hp,hx⟩)
   exact bC.2 ⟨x0,by omega⟩
  have:=aDz (a:=p) (b:=ints m.2.2.2.1.length) ((R.srt p hp).imp fun h=>by omega) fun x hx=>iQ.2 (bC.1 (h4 x hx))
  rw[jC] at this
  exact⟨fB (by omega),h4⟩
 unfold aEW aJD
 rw[hs,hl,aJA hs,hr]
 simp only[aH,aA,aK,hall]
 exact⟨_,rfl⟩
theorem aMQ {m:Im} (h:yG m=0):aJ m=true:=by
 unfold yG at h
 unfold aJ
 cases h1:cN m <;> cases h2:kJ m <;> simp only[h1,h2,aA,aB] at h⊢ <;> first | rfl | (exact absurd h (by decide))
structure aTp (m:Im) (t:List (List Sh)×Int×Int×Int×Unit) (n:Int×Int×Int×Unit) (p:Int×Int×Unit):Prop where
 check:uU m=some t
 ok:eN t.1=true
 needs:aEW m t.1=some n
 pot:pG m t.1=some p
theorem sI {m:Im} (hs:aJ m=true):∃t n p,aTp m t n p:=by
 obtain⟨t,h1,h2,-⟩:=aFs hs
 obtain⟨n,h3⟩:=aTe hs h2
 exact⟨t,n,yY m t.1 (ints m.2.2.2.1.length),h1,h2,h3,by unfold pG;rw[hs,h2];rfl⟩
def aGi (m:Im) (s h:Int):Im:=(m.1,m.2.1,m.2.2.1,m.2.2.2.1,m.2.2.2.2.1,s,h,())
end Go.Pli

namespace Go.Pli
open Go Go.PM
section
variable {m:Im} {l:List (List Sh)} {r:List (List Int)}
structure BV (m:Im) (l:List (List Sh)) (V:List Int):Prop where
 len:V.length=m.2.2.2.1.length
 pos:∀f,inM m f=true→aEu m l f≤ix V f∧0≤ix V f∧ix V f≤100000
 call:∀f g,inM m f=true→qA m f g=true→xR m g.toNat f.toNat=false→aEu m l f+ix V g≤ix V f
 ring:∀f g,inM m f=true→inM m g=true→xR m f.toNat g.toNat=true→xR m g.toNat f.toNat=true→ix V f=ix V g
 way:∀f g,inM m f=true→inM m g=true→xR m f.toNat g.toNat=true→ix V g≤ix V f
end
end Go.Pli

namespace Go.Pli
open Go Go.PM
theorem aK5 {m:Im} (hs:aJ m=true):(∃f,0≤f∧kN m=some ([],f,()))∨∃l,kN m=some (l,-1,())∧eN l=true∧l.length=m.2.2.2.1.length∧∀f,inM m f=true→PF m f (l.getD f.toNat []):=by
 have go:∀(fs:List Int) (out:List (List Sh)) (r),(∀f∈fs,inM m f=true)→rP m fs out=some r→r.2.2.2.1=0→∃add,r.1=out++add∧add.length=fs.length∧∀k,k<fs.length→PF m (fs.getD k 0) (add.getD k []):=fun fs=>by
  induction fs with
  | nil=>
   intro out r _ hr _
   have:=lZ hr
   subst this
   exact⟨[],by simp,rfl,fun _ h=>by cases h⟩
  | cons f fs ih=>
   intro out r hl hr h0
   obtain⟨z,hz,-,-,-,hP⟩:=aHS hs (hl f (bR ..))
   unfold rP at hr
   rw[hz,aK] at hr
   cases he:z.2.2.1 !=0 <;> simp only[he,aA,aB] at hr
   ·have hz0:z.2.2.1=0:=by simpa using he
    obtain⟨add,a1,a2,a3⟩:=ih (out++[z.1]) r (fun x hx=>hl x (bJ _ hx)) hr h0
    refine⟨z.1::add,by rw[a1];simp,by simp[a2],fun k hk=>?_⟩
    cases k with
    | zero=>exact hP hz0
    | succ k=>
     rw[List.getD_cons_succ,List.getD_cons_succ]
     exact a3 k (by simpa using hk)
   ·have hz0:z.2.2.1≠0:=by simpa using he
    have:=lZ hr
    subst this
    exact absurd h0 hz0
 obtain⟨r,h1,h2,h3⟩:=aLg hs
 obtain⟨r',h1',hok,-⟩:=aFs hs
 rw[h1] at h1'
 have:=lZ h1'
 subst this
 by_cases h0:r.2.2.2.1=0
 ·obtain⟨h4,h5⟩:=h2 h0
  unfold uU at h1
  rw[hs] at h1
  simp only[aA] at h1
  obtain⟨add,a1,a2,a3⟩:=go _ _ _ (fun f hf=>bC.2 (iQ.1 hf)) h1 h0
  rw[oS] at a1
  rw[jC] at a2 a3
  refine .inr ⟨r.1,h4,hok,h5,fun f hf=>?_⟩
  obtain⟨f0,f1⟩:=bC.1 hf
  have hk:f.toNat<m.2.2.2.1.length:=by omega
  have:=a3 f.toNat hk
  rw[aEd hk,Int.toNat_of_nonneg f0] at this
  rw[a1];exact this
 ·obtain⟨h4,h5⟩:=h3 h0
  exact .inl ⟨_,(bC.1 h5).1,h4⟩
end Go.Pli

namespace Go.Pli
open Go Go.PM
def Rg (N:Nat) (K:Int) (phi:List Int):Prop:=phi.length=N∧∀k,0≤phi.getD k 0∧phi.getD k 0≤K
theorem Rg.up {N:Nat} {K K':Int} {phi:List Int} (h:Rg N K phi) (hk:K≤K'):Rg N K' phi:=⟨h.1,fun k=>⟨(h.2 k).1,by have:=(h.2 k).2;omega⟩⟩
theorem uV {phi:List Int} {pc:Nat} {v:Int} (hpc:pc<phi.length) (k:Nat):(phi.set pc v).getD k 0=if k=pc then v else phi.getD k 0:=by
 rw[dA,gD,dA]
 by_cases h:pc=k
 ·subst h;simp[hpc]
 ·have h':¬k=pc:=fun e=>h e.symm
  simp[h,h']
theorem aC9 {N:Nat} {c:Int} (hc:0≤c∧c≤4096) {pc:Nat} (hpc:pc<N):∀(q:List Int) (t:Bool) (phi:List Int) (K:Int),(∀to∈q,0≤to∧to<(N:Int))→Rg N K phi→0≤K→K+4096*(q.length:Int)≤900000000→
  Rg N (K+4096*(q.length:Int)) (eE c pc q t phi).2∧(∀k,phi.getD k 0≤(eE c pc q t phi).2.getD k 0)∧(∀k,k≠pc→(eE c pc q t phi).2.getD k 0=phi.getD k 0)∧(t=true→(eE c pc q t phi).1=true)∧
   ((eE c pc q t phi).1=false→(eE c pc q t phi).2=phi∧∀to∈q,c+phi.getD to.toNat 0≤phi.getD pc 0)∧
   ((eE c pc q t phi).2.getD pc 0=phi.getD pc 0∨∃to∈q,(to.toNat=pc→0<c)∧(eE c pc q t phi).2.getD pc 0≤c+(eE c pc q t phi).2.getD to.toNat 0)
 | [],t,phi,K,_,h,_,_=>⟨h.up (by simp),fun _=>fD _,fun _ _=>rfl,fun h=>h,fun _=>⟨rfl,fun _ h=>by cases h⟩,.inl rfl⟩
 | to::q,t,phi,K,hq,h,hK,hb=>by
  have hlen:((to::q).length:Int)=(q.length:Int)+1:=by simp
  rw[hlen] at hb⊢
  have hto:=h.2 to.toNat
  have hp:=h.2 pc
  have hw:IntKind.i64.wrap (c+phi.getD to.toNat 0)=c+phi.getD to.toNat 0:=sD (by omega) (by omega)
  have hq':∀x∈q,0≤x∧x<(N:Int):=fun x hx=>hq x (bJ _ hx)
  rw[eE,hw]
  by_cases hgt:c+phi.getD to.toNat 0>phi.getD pc 0
  ·rw[aI hgt,aA]
   have hpl:pc<phi.length:=by rw[h.1];exact hpc
   have h1:Rg N (K+4096) (phi.set pc (c+phi.getD to.toNat 0)):=by
    refine⟨by rw[cX];exact h.1,fun k=>?_⟩
    rw[uV hpl]
    have:=h.2 k
    split <;> omega
   obtain⟨i1,i2,i3,i4,i5,i6⟩:=aC9 hc hpc q true _ (K+4096) hq' h1 (by omega) (by omega)
   have hle:∀k,phi.getD k 0≤(phi.set pc (c+phi.getD to.toNat 0)).getD k 0:=fun k=>by
    rw[uV hpl]
    by_cases hk:k=pc
    ·subst hk;rw[if_pos rfl];omega
    ·rw[if_neg hk];exact fD _
   refine⟨i1.up (by omega),fun k=>Int.le_trans (hle k) (i2 k),fun k hk=>?_,fun _=>i4 rfl,fun hf=>?_,.inr ?_⟩
   ·rw[i3 k hk,uV hpl,if_neg hk]
   ·rw[i4 rfl] at hf;cases hf
   ·rcases i6 with e | ⟨x,hx,e1,e2⟩
    ·refine⟨to,bR ..,fun he=>?_,?_⟩
     ·rw[he] at hgt;omega
     ·rw[e,uV hpl,if_pos rfl]
      have a:=hle to.toNat
      have b:=i2 to.toNat
      omega
    ·exact⟨x,bJ _ hx,e1,e2⟩
  ·rw[bM hgt,aB]
   obtain⟨i1,i2,i3,i4,i5,i6⟩:=aC9 hc hpc q t phi K hq' h hK (by omega)
   refine⟨i1.up (by omega),i2,i3,i4,fun hf=>?_,i6.imp id fun⟨x,hx,e⟩=>⟨x,bJ _ hx,e⟩⟩
   obtain⟨j1,j2⟩:=i5 hf
   refine⟨j1,fun x hx=>?_⟩
   rcases bL.1 hx with rfl | hx
   ·omega
   ·exact j2 x hx
def nxs (m:Im) (l:List (List Sh)) (f:Int) (pc:Nat):List Int:=bif (bS l f (pc:Int)).1 then (aQ m f (pc:Int) (bS l f (pc:Int)).2.1).2.1 else[]
def cst (m:Im) (f:Int) (pc:Nat):Int:=iH m (aG m f (pc:Int))
theorem aC8 (m:Im) (l:List (List Sh)) (f:Int) (pc:Nat) (t:Bool) (phi:List Int):jN m l f pc t phi=eE (cst m f pc) pc (nxs m l f pc) t phi:=by
 unfold jN nxs cst
 cases (bS l f (pc:Int)).1 <;> rfl
theorem aPd {m:Im} (hs:aJ m=true) {l:List (List Sh)} {f:Int} {pc:Nat}:∀to∈nxs m l f pc,0≤to∧to<(codeN m f:Int):=by
 intro to ht
 unfold nxs at ht
 cases h:(bS l f (pc:Int)).1 <;> rw[h] at ht <;> simp only[aA,aB] at ht
 ·cases ht
 ·exact aFK hs to ht
theorem aPc {m:Im} {l:List (List Sh)} {f:Int} {pc:Nat}:(nxs m l f pc).length≤2:=by
 unfold nxs
 cases (bS l f (pc:Int)).1 <;> simp only[aA,aB]
 ·simp
 ·exact sL ..
theorem aEJ {m:Im} (hs:aJ m=true) {f:Int} (hf:inM m f=true) {pc:Nat} (hp:pc<codeN m f):0≤cst m f pc∧cst m f pc≤4096:=by
 have hp':sin (pc:Int) (codeN m f:Int)=true:=by simp only[sin,aC,aP];omega
 unfold cst
 rw[aJM hs hf hp']
 exact aR4 hs hf hp'
def Tgt (C:Nat→Int) (X:Nat→List Int) (phi:List Int):Prop:=∀k,0<phi.getD k 0→∃to∈X k,(to.toNat=k→0<C k)∧phi.getD k 0≤C k+phi.getD to.toNat 0
def Fxd (C:Nat→Int) (X:Nat→List Int) (N:Nat) (phi:List Int):Prop:=∀k,k<N→∀to∈X k,C k+phi.getD to.toNat 0≤phi.getD k 0
section
variable {m:Im} {l:List (List Sh)} {f:Int}
theorem aGy (hs:aJ m=true) (hf:inM m f=true):∀(q:List Nat) (t:Bool) (phi:List Int) (K:Int),(∀k∈q,k<codeN m f)→Rg (codeN m f) K phi→0≤K→K+8192*(q.length:Int)≤900000000→Tgt (cst m f) (nxs m l f) phi→
  Rg (codeN m f) (K+8192*(q.length:Int)) (eK m l f q t phi).2∧Tgt (cst m f) (nxs m l f) (eK m l f q t phi).2∧(t=true→(eK m l f q t phi).1=true)∧
   ((eK m l f q t phi).1=false→(eK m l f q t phi).2=phi∧∀k∈q,∀to∈nxs m l f k,cst m f k+phi.getD to.toNat 0≤phi.getD k 0)
 | [],t,phi,K,_,h,_,_,hT=>⟨h.up (by simp),hT,fun h=>h,fun _=>⟨rfl,fun _ h=>by cases h⟩⟩
 | pc::q,t,phi,K,hq,h,hK,hb,hT=>by
  have hlen:((pc::q).length:Int)=(q.length:Int)+1:=by simp
  rw[hlen] at hb⊢
  have hpc:=hq pc (bR ..)
  have h2:(nxs m l f pc).length≤2:=aPc
  obtain⟨i1,i2,i3,i4,i5,i6⟩:=aC9 (aEJ hs hf hpc) hpc (nxs m l f pc) t phi K (aPd hs) h hK (by omega)
  rw[eK,aC8]
  have hT2:Tgt (cst m f) (nxs m l f) (eE (cst m f pc) pc (nxs m l f pc) t phi).2:=by
   intro k hk
   have old:(eE (cst m f pc) pc (nxs m l f pc) t phi).2.getD k 0=phi.getD k 0→∃to∈nxs m l f k,(to.toNat=k→0<cst m f k)∧(eE (cst m f pc) pc (nxs m l f pc) t phi).2.getD k 0≤cst m f k+(eE (cst m f pc) pc (nxs m l f pc) t phi).2.getD to.toNat 0:=fun e=>by
    rw[e] at hk⊢
    obtain⟨to,t1,t2,t3⟩:=hT k hk
    have:=i2 to.toNat
    exact⟨to,t1,t2,by omega⟩
   by_cases hkp:k=pc
   ·subst hkp
    rcases i6 with e | e
    ·exact old e
    ·exact e
   ·exact old (i3 k hkp)
  obtain⟨j1,j2,j3,j4⟩:=aGy hs hf q (eE (cst m f pc) pc (nxs m l f pc) t phi).1 _ (K+8192) (fun k hk=>hq k (bJ _ hk)) (i1.up (by omega)) (by omega) (by omega) hT2
  refine⟨j1.up (by omega),j2,fun ht=>j3 (i4 ht),fun hf'=>?_⟩
  obtain⟨e1,e2⟩:=j4 hf'
  have hfl:(eE (cst m f pc) pc (nxs m l f pc) t phi).1=false:=by
   cases hh:(eE (cst m f pc) pc (nxs m l f pc) t phi).1
   ·rfl
   ·rw[j3 hh] at hf';cases hf'
  obtain⟨e3,e4⟩:=i5 hfl
  rw[e3] at e1 e2
  refine⟨by rw[e3];exact e1,fun k hk=>?_⟩
  rcases bL.1 hk with rfl | hk
  ·exact e4
  ·exact e2 k hk
theorem aPL {l:List Int} {x:Int} (hx:x∈l):x≤rA l:=by
 have key:∀(q:List Int) (a:Int),a≤q.foldl max a∧∀y∈q,y≤q.foldl max a:=by
  intro q
  induction q with
  | nil=>intro a;exact⟨fD _,fun _ h=>by cases h⟩
  | cons b q ih=>
   intro a
   obtain⟨h1,h2⟩:=ih (max a b)
   rw[List.foldl_cons]
   refine⟨by omega,fun y hy=>?_⟩
   rcases bL.1 hy with rfl | hy
   ·omega
   ·exact h2 y hy
 match l,hx with
 | y::q,hx=>
  have:rA (y::q)=q.foldl max y:=by unfold rA;simp
  rw[this]
  rcases bL.1 hx with rfl | hx
  ·exact (key q x).1
  ·exact (key q y).2 x hx
structure Lst (m:Im) (l:List (List Sh)) (f:Int) (phi:List Int):Prop where
 rg:Rg (codeN m f) 4096 phi
 tgt:Tgt (cst m f) (nxs m l f) phi
 fxd:Fxd (cst m f) (nxs m l f) (codeN m f) phi
theorem aIm (hs:aJ m=true) (hf:inM m f=true) (h:(fY m l f).2.1=true):Lst m l f (fY m l f).1:=by
 have hc:=eU hs hf
 have rounds:∀(j:Nat) (phi:List Int) (K:Int),Rg (codeN m f) K phi→0≤K→K+8192*(codeN m f:Int)*(j:Int)≤900000000→Tgt (cst m f) (nxs m l f) phi→(kQ m l f j phi).2.1=true→Lst m l f (kQ m l f j phi).1:=by
  intro j
  induction j with
  | zero=>intro phi K _ _ _ _ h;simp[kQ] at h
  | succ j ih=>
   intro phi K hr hK hb hT h
   have hb':K+8192*(codeN m f:Int)+8192*(codeN m f:Int)*(j:Int)≤900000000:=by
    have e:8192*(codeN m f:Int)*((j+1:Nat):Int)=8192*(codeN m f:Int)*(j:Int)+8192*(codeN m f:Int):=by
     rw[Int.natCast_add,Int.mul_add];simp
    rw[e] at hb;omega
   have hnn:0≤8192*(codeN m f:Int)*(j:Int):=Int.mul_nonneg (by omega) (by omega)
   obtain⟨i1,i2,i3,i4⟩:=aGy (l:=l) hs hf (List.range (codeN m f)) false phi K (fun k hk=>oT.1 hk) hr hK (by rw[List.length_range];omega) hT
   rw[List.length_range] at i1
   rw[kQ] at h⊢
   cases hfl:(eK m l f (List.range (codeN m f)) false phi).1 <;> simp only[hfl,aA,aB] at h⊢
   ·obtain⟨e1,e2⟩:=i4 hfl
    have hmax:=qX h
    rw[e1] at hmax⊢
    refine⟨⟨hr.1,fun k=>⟨(hr.2 k).1,?_⟩⟩,hT,fun k hk=>e2 k (oT.2 hk)⟩
    by_cases hk:k<phi.length
    ·have:=aPL (l:=phi++[0]) (eS _ (dX hk))
     rw[getD_some (aT hk)]
     omega
    ·rw[gB (by omega)];decide
   ·exact ih _ (K+8192*(codeN m f:Int)) i1 (by omega) hb' i2 h
 unfold fY at h⊢
 refine rounds _ _ 0 ⟨by simp,fun k=>?_⟩ (fD _) ?_ (fun k hk=>?_) h
 ·by_cases hk:k<codeN m f
  ·rw[dA,List.getElem?_replicate,if_pos hk];exact⟨fD _,fD _⟩
  ·rw[gB (by rw[rY];omega)];exact⟨fD _,fD _⟩
 ·have h1:8192*(codeN m f:Int)≤8192*64:=by omega
  have h2:(((codeN m f+1:Nat)):Int)≤65:=by omega
  have:=Int.mul_le_mul h1 h2 (by omega) (by omega)
  omega
 ·have:(List.replicate (codeN m f) (0:Int)).getD k 0=0:=by
   rw[dA,List.getElem?_replicate]
   split <;> rfl
  omega
end
end Go.Pli

namespace Go.Pli
open Go Go.PM
def dG (ms:List Mt) (f:Int):Int:=(ms.getD f.toNat zMt).2.2.2.2.2.1
def bY (ms:List Mt) (f:Int):List Int:=(ms.getD f.toNat zMt).2.2.2.2.2.2.1
theorem aDF {m:Im} {ms:List Mt} (h:Like m ms) {f g:Int} (hf:inM m f=true) (hg:inM m g=true) (y:Mt):(ms.set f.toNat y).getD g.toNat zMt=if g=f then y else ms.getD g.toNat zMt:=by
 obtain⟨f0,f1⟩:=bC.1 hf
 obtain⟨g0,g1⟩:=bC.1 hg
 have hl:=h.len
 rw[dA,gD,dA]
 by_cases e:g=f
 ·subst e
  rw[if_pos rfl,if_pos rfl,if_pos (by omega)];rfl
 ·rw[if_neg (by omega),if_neg e]
theorem aDx {m:Im} {ms:List Mt} (h:Like m ms) (hn:∀x∈ms,iC x) {f:Int} (hf:inM m f=true):iC (ms.getD f.toNat zMt):=by
 obtain⟨f0,f1⟩:=bC.1 hf
 have hl:=h.len
 have hlt:f.toNat<ms.length:=by omega
 rw[getD_some (aT hlt)]
 exact hn _ (dX hlt)
theorem aDw {ms:List Mt} (hn:∀x∈ms,iC x) {i:Nat} {y:Mt} (hy:iC y):∀x∈ms.set i y,iC x:=fun x hx=>by
 rcases rX hx with h | h
 ·exact hn x h
 ·rw[h];exact hy
theorem aR5 {m:Im} {ms ms':List Mt} (h:Like m ms) (h':Like m ms') {i:Ins} (hp:∀g∈bX m i,inM m g=true→dG ms g=dG ms' g):iH (aL m ms) i=iH (aL m ms') i:=by
 have hf:∀{ms:List Mt},Like m ms→(bX (aL m ms) i).filter (inM (aL m ms))=(bX m i).filter (inM m):=fun h=>by
  rw[h.targets]
  congr 1
  funext g
  exact h.inM g
 have hm:((bX m i).filter (inM m)).map (eA (aL m ms))=((bX m i).filter (inM m)).map (eA (aL m ms')):=aKU fun g hg=>by
  obtain⟨g1,g2⟩:=mF.1 hg
  exact hp g g1 g2
 unfold iH
 rw[hf h,hf h',hm]
 rfl
theorem tJ {m:Im} {ms:List Mt} (h:Like m ms) (l:List (List Sh)) (f:Int) (pc:Nat):nxs (aL m ms) l f pc=nxs m l f pc:=by
 unfold nxs
 rw[h.step]
theorem aAb {m:Im} {ms ms':List Mt} (h:Like m ms) (h':Like m ms') {f:Int} {pc:Nat} (hp:∀g∈bX m (aG m f (pc:Int)),inM m g=true→dG ms g=dG ms' g):cst (aL m ms) f pc=cst (aL m ms') f pc:=by
 unfold cst
 rw[h.ins,h'.ins]
 exact aR5 h h' hp
theorem aDW {m:Im} {ms ms':List Mt} (h:Like m ms) (h':Like m ms') {l:List (List Sh)} {f:Int} (hp:∀pc,cst (aL m ms) f pc=cst (aL m ms') f pc) {phi:List Int} (H:Lst (aL m ms) l f phi):Lst (aL m ms') l f phi:=by
 have e1:codeN (aL m ms) f=codeN (aL m ms') f:=by rw[h.codeN,h'.codeN]
 have e2:nxs (aL m ms) l f=nxs (aL m ms') l f:=by funext pc;rw[tJ h,tJ h']
 have e3:cst (aL m ms) f=cst (aL m ms') f:=funext hp
 obtain⟨a,b,c⟩:=H
 rw[e1] at a c
 rw[e2,e3] at b c
 exact⟨a,b,c⟩
theorem aQb {m:Im} {ms ms':List Mt} (h:Like m ms) (h':Like m ms') (l:List (List Sh)) {f:Int} (hp:∀pc,cst (aL m ms) f pc=cst (aL m ms') f pc):fY (aL m ms) l f=fY (aL m ms') l f:=by
 have e1:codeN (aL m ms) f=codeN (aL m ms') f:=by rw[h.codeN,h'.codeN]
 have hR:∀(q:List Nat) (t:Bool) (phi:List Int),eK (aL m ms) l f q t phi=eK (aL m ms') l f q t phi:=by
  intro q
  induction q with
  | nil=>intro _ _;rfl
  | cons pc q ih=>
   intro t phi
   have hP:jN (aL m ms) l f pc t phi=jN (aL m ms') l f pc t phi:=by rw[aC8,aC8,tJ h,tJ h',hp]
   rw[eK,eK,hP,ih]
 have hN:∀(j:Nat) (phi:List Int),kQ (aL m ms) l f j phi=kQ (aL m ms') l f j phi:=by
  intro j
  induction j with
  | zero=>intro _;rfl
  | succ j ih=>intro phi;rw[kQ,kQ,e1,hR,ih]
 unfold fY
 rw[e1,hN]
section
variable {m:Im} {l:List (List Sh)}
theorem aJf (hs:aJ m=true) (hl:eN l=true) {ms0:List Mt} (h0:Like m ms0):∀(q:List Int) (ms:List Mt),(∀f∈q,inM m f=true)→Like m ms→(∀x∈ms,iC x)→(∀g,inM m g=true→dG ms g=dG ms0 g)→
  oG m l q ms=some none∨∃ms1,oG m l q ms=some (some ms1)∧Like m ms1∧(∀x∈ms1,iC x)∧(∀g,inM m g=true→dG ms1 g=dG ms0 g)∧
   (∀g,inM m g=true→g∈q→bY ms1 g=(fY (aL m ms0) l g).1∧(fY (aL m ms0) l g).2.1=true)∧∀g,inM m g=true→g∉q→bY ms1 g=bY ms g
 | [],ms,_,h,hn,hp=> .inr ⟨ms,rfl,h,hn,hp,(fun _ _ h=>(by cases h)),fun _ _ _=>rfl⟩
 | f::q,ms,hq,h,hn,hp=>by
  have hf:=hq f (bR ..)
  have hs1:=h.sane hs hn
  have hf1:inM (aL m ms) f=true:=by rw[h.inM];exact hf
  have hpl:pF (aL m ms) l f=some (fY (aL m ms) l f):=by unfold pF;rw[hs1,hl,hf1];rfl
  have hlk:∀g,fY (aL m ms) l g=fY (aL m ms0) l g:=fun g=>aQb h h0 l fun pc=>aAb h h0 fun x _ hx=>hp x hx
  rw[oG,hpl,aK]
  cases hfl:(fY (aL m ms) l f).2.1
  ·exact .inl rfl
  simp only[aY,aB]
  have hL:=aIm hs1 hf1 hfl
  have hstrip:strip (lH (ms.getD f.toNat zMt) (fY (aL m ms) l f).1)=strip (ms.getD f.toNat zMt):=aFE _ _
  have h2:Like m (ms.set f.toNat (lH (ms.getD f.toNat zMt) (fY (aL m ms) l f).1)):=h.set hstrip
  have hnum:=aDx h hn hf
  have hn2:iC (lH (ms.getD f.toNat zMt) (fY (aL m ms) l f).1):=by
   refine⟨hnum.1,?_,fun x hx=>?_⟩
   ·show (fY (aL m ms) l f).1.length=(ms.getD f.toNat zMt).2.2.2.1.length
    exact hL.rg.1
   ·obtain⟨i,hi,rfl⟩:=List.mem_iff_getElem.1 (show x∈(fY (aL m ms) l f).1 from hx)
    have:=hL.rg.2 i
    rw[getD_some (aT hi)] at this
    exact this
  have hget:=fun g (hg:inM m g=true)=>aDF h hf hg (lH (ms.getD f.toNat zMt) (fY (aL m ms) l f).1)
  have hp2:∀g,inM m g=true→dG (ms.set f.toNat (lH (ms.getD f.toNat zMt) (fY (aL m ms) l f).1)) g=dG ms0 g:=fun g hg=>by
   rw[←hp g hg]
   unfold dG
   rw[hget g hg]
   split
   ·rename_i e;subst e;rfl
   ·rfl
  rcases aJf hs hl h0 q _ (fun x hx=>hq x (bJ _ hx)) h2 (aDw hn hn2) hp2 with e | ⟨ms1,e,i1,i2,i3,i4,i5⟩
  ·exact .inl e
  ·refine .inr ⟨ms1,e,i1,i2,i3,fun g hg hgq=>?_,fun g hg hgq=>?_⟩
   ·by_cases hgq':g∈q
    ·exact i4 g hg hgq'
    ·have hgf:g=f:=(bL.1 hgq).resolve_right hgq'
     subst hgf
     rw[i5 g hg hgq',←hlk]
     refine⟨?_,hfl⟩
     unfold bY
     rw[hget g hg,if_pos rfl];rfl
   ·have h1:g≠f:=fun e=>hgq (by rw[e];exact bR ..)
    rw[i5 g hg fun hh=>hgq (bJ _ hh)]
    unfold bY
    rw[hget g hg,if_neg h1]
theorem aJc (hs:aJ m=true) {ed:List (List Int)} {part:List Int}:∀(q:List Int) (ms:List Mt),(∀f∈q,inM m f=true)→Like m ms→(∀x∈ms,iC x)→
  nD ed part q ms=none∨∃ms2,nD ed part q ms=some ms2∧Like m ms2∧(∀x∈ms2,iC x)∧(∀g,inM m g=true→bY ms2 g=bY ms g)∧
   (∀g,inM m g=true→g∈q→dG ms2 g=(bY ms g).getD 0 0∧(jG ed part=true→dG ms2 g=0))∧∀g,inM m g=true→g∉q→dG ms2 g=dG ms g
 | [],ms,_,h,hn=> .inr ⟨ms,rfl,h,hn,fun _ _=>rfl,(fun _ _ h=>(by cases h)),fun _ _ _=>rfl⟩
 | f::q,ms,hq,h,hn=>by
  have hf:=hq f (bR ..)
  have hnum:=aDx h hn hf
  have hcode:0<(ms.getD f.toNat zMt).2.2.2.1.length:=by
   have h1:=(eU hs hf).1
   have h2:(ms.getD f.toNat zMt).2.2.2.1=(aD m f).2.2.2.1:=h.code f
   rw[h2];exact h1
  have hlen:0<(ms.getD f.toNat zMt).2.2.2.2.2.2.1.length:=by rw[hnum.2.1];exact hcode
  have hp:fV ms f=ms.set f.toNat (hY (ms.getD f.toNat zMt) ((ms.getD f.toNat zMt).2.2.2.2.2.2.1.getD 0 0)):=by
   unfold fV
   rw[aI (show ((ms.getD f.toNat zMt).2.2.2.2.2.2.1.length:Int)>0 by omega),aA]
  have hv:0≤(ms.getD f.toNat zMt).2.2.2.2.2.2.1.getD 0 0∧(ms.getD f.toNat zMt).2.2.2.2.2.2.1.getD 0 0≤4096:=by
   rw[getD_some (aT hlen)]
   exact hnum.2.2 _ (dX hlen)
  have hstrip:strip (hY (ms.getD f.toNat zMt) ((ms.getD f.toNat zMt).2.2.2.2.2.2.1.getD 0 0))=strip (ms.getD f.toNat zMt):=aLl _ _
  have h2:Like m (fV ms f):=by rw[hp];exact h.set hstrip
  have hn2:iC (hY (ms.getD f.toNat zMt) ((ms.getD f.toNat zMt).2.2.2.2.2.2.1.getD 0 0)):=⟨hv,hnum.2⟩
  have hn3:∀x∈fV ms f,iC x:=by rw[hp];exact aDw hn hn2
  have hget:∀g,inM m g=true→(fV ms f).getD g.toNat zMt=if g=f then hY (ms.getD f.toNat zMt) ((ms.getD f.toNat zMt).2.2.2.2.2.2.1.getD 0 0) else ms.getD g.toNat zMt:=fun g hg=>by
   rw[hp];exact aDF h hf hg _
  have hphi:∀g,inM m g=true→bY (fV ms f) g=bY ms g:=fun g hg=>by
   unfold bY
   rw[hget g hg]
   split
   ·rename_i e;subst e;rfl
   ·rfl
  have hpf:dG (fV ms f) f=(bY ms f).getD 0 0:=by
   unfold dG bY
   rw[hget f hf,if_pos rfl];rfl
  rw[nD]
  cases hc:decide (((fV ms f).getD f.toNat zMt).2.2.2.2.2.1>0)&&jG ed part
  rotate_left
  ·exact .inl rfl
  rw[aB]
  rcases aJc hs (ed:=ed) (part:=part) q (fV ms f) (fun x hx=>hq x (bJ _ hx)) h2 hn3 with e | ⟨ms2,e,i1,i2,i3,i4,i5⟩
  ·exact .inl e
  ·refine .inr ⟨ms2,e,i1,i2,fun g hg=>by rw[i3 g hg,hphi g hg],fun g hg hgq=>?_,fun g hg hgq=>?_⟩
   ·by_cases hgq':g∈q
    ·have:=i4 g hg hgq'
     rw[hphi g hg] at this
     exact this
    ·have hgf:g=f:=(bL.1 hgq).resolve_right hgq'
     subst hgf
     rw[i5 g hg hgq']
     refine⟨hpf,fun hcy=>?_⟩
     rw[hcy,uL] at hc
     have h3:¬dG (fV ms g) g>0:=of_decide_eq_false hc
     have h4:0≤dG (fV ms g) g:=by rw[hpf];exact hv.1
     omega
   ·have h1:g≠f:=fun e=>hgq (by rw[e];exact bR ..)
    rw[i5 g hg fun hh=>hgq (bJ _ hh)]
    unfold dG
    rw[hget g hg,if_neg h1]
structure Fld (m:Im) (l:List (List Sh)) (pre:List Int) (ms:List Mt):Prop where
 like:Like m ms
 num:∀x∈ms,iC x
 lst:∀g,inM m g=true→g∈pre→Lst (aL m ms) l g (bY ms g)
 pot:∀g,inM m g=true→g∈pre→dG ms g=(bY ms g).getD 0 0
 cyc:∀g,inM m g=true→g∈pre→wy (gM m) g g=true→dG ms g=0
 rest:∀g,inM m g=true→g∉pre→dG ms g=0
theorem aFu (hs:aJ m=true) {f:Int} (hf:inM m f=true) {pc:Nat} {g:Int} (hg:g∈bX m (aG m f (pc:Int))):Eg (gM m) f g:=by
 by_cases hp:pc<codeN m f
 ·have hp':sin (pc:Int) (codeN m f:Int)=true:=by simp only[sin,aC,aP];omega
  have hgm:=aAE hs hf hp' g hg
  obtain⟨f0,f1⟩:=bC.1 hf
  obtain⟨g0,g1⟩:=bC.1 hgm
  refine⟨⟨f0,by rw[uA];exact f1⟩,⟨g0,by rw[uA];exact g1⟩,?_⟩
  have hrow:(gM m).getD f.toNat []=(ints m.2.2.2.1.length).filter fun g=>qA m f g:=by
   have hk:f.toNat<m.2.2.2.1.length:=by omega
   unfold gM
   rw[dA,kA]
   have:(ints m.2.2.2.1.length)[f.toNat]? =some f:=by
    rw[aT (by rw[jC];exact hk)]
    have:=aEd hk (z:=0)
    rw[dA,aT (by rw[jC];exact hk)] at this
    simp only[Option.getD_some] at this
    rw[this,Int.toNat_of_nonneg f0]
   rw[this];rfl
  rw[hrow,mF]
  refine⟨iQ.2 ⟨g0,g1⟩,?_⟩
  unfold qA
  refine eY.2 ⟨aG m f (pc:Int),?_,by simpa using hg⟩
  unfold aG
  rw[aR,getD_some (aT (show pc<(aD m f).2.2.2.1.length from hp))]
  exact dX _
 ·have:aG m f (pc:Int)=zIns:=by unfold aG;rw[aR,gB (show (aD m f).2.2.2.1.length≤pc by unfold codeN at hp;omega)]
  rw[this] at hg
  have:bX m zIns=[]:=rfl
  rw[this] at hg
  cases hg
theorem aJa (hs:aJ m=true) (hl:eN l=true) {r:List (List Int)} (R:RP (gM m) r):∀(ps pre:List (List Int)) (ms:List Mt),r=pre++ps→Fld m l pre.flatten ms→
  oF m l (gM m) ps ms=some none∨∃ms2,oF m l (gM m) ps ms=some (some ms2)∧Fld m l r.flatten ms2
 | [],pre,ms,hr,H=>by
  rw[cB] at hr
  subst hr
  exact .inr ⟨ms,rfl,H⟩
 | p::ps,pre,ms,hr,H=>by
  have hin:∀f∈p,inM m f=true:=fun f hf=>by
   have:=tE R (p:=p) (by rw[hr];simp) hf
   rw[inN,uA] at this
   exact bC.2 this
  have hgo:∀ms',Fld m l (pre++[p]).flatten ms'→oF m l (gM m) ps ms'=some none∨∃ms2,oF m l (gM m) ps ms'=some (some ms2)∧Fld m l r.flatten ms2:=
   fun ms' h=>aJa hs hl R ps (pre++[p]) ms' (by rw[hr,cK];rfl) h
  rw[oF]
  rcases aJf hs hl H.like p ms hin H.like H.num (fun _ _=>rfl) with e | ⟨ms1,e,a1,a2,a3,a4,a5⟩
  ·rw[e];exact .inl rfl
  rw[e,aK]
  rcases aJc hs (ed:=gM m) (part:=p) p ms1 hin a1 a2 with e | ⟨ms2,e,b1,b2,b3,b4,b5⟩
  ·simp only[e];exact .inl trivial
  simp only[e]
  refine hgo ms2 ?_
  have hs0:=H.like.sane hs H.num
  have apart:∀g,g∈pre.flatten→g∉p:=fun g h1 h2=>aHn R hr h2 h1
  have hmem:∀g,g∈(pre++[p]).flatten↔(g∈pre.flatten∨g∈p):=fun g=>by
   rw[iL,cJ];simp
  have keepP:∀g,inM m g=true→g∉p→bY ms2 g=bY ms g∧dG ms2 g=dG ms g:=fun g hg hgp=>by
   rw[b3 g hg,a5 g hg hgp,b5 g hg hgp,a3 g hg]
   exact⟨rfl,rfl⟩
  refine⟨b1,b2,fun g hg hgp=>?_,fun g hg hgp=>?_,fun g hg hgp hw=>?_,fun g hg hgp=>?_⟩
  ·rcases (hmem g).1 hgp with h1 | h1
   ·rw[(keepP g hg (apart g h1)).1]
    refine aDW H.like b1 (fun pc=>aAb H.like b1 fun x hx hxm=>?_) (H.lst g hg h1)
    have hE:=aFu hs hg hx
    have hxp:x∈pre.flatten:=by
     obtain⟨p',hp',hgp'⟩:=iX.1 h1
     obtain⟨p1,p2,hpp⟩:=List.append_of_mem hp'
     rcases R.clo p1 p' (p2++p::ps) (by rw[hr,hpp];simp) g hgp' x hE with h' | h'
     ·exact iX.2 ⟨p',hp',h'⟩
     ·rw[hpp,iL];exact eS _ h'
    exact (keepP x hxm (apart x hxp)).2.symm
   ·obtain⟨c1,c2⟩:=a4 g hg h1
    rw[b3 g hg,c1]
    refine aDW H.like b1 (fun pc=>aAb H.like b1 fun x hx hxm=>?_) (aIm hs0 (by rw[H.like.inM];exact hg) c2)
    have hE:=aFu hs hg hx
    rcases R.clo pre p ps hr g h1 x hE with h' | h'
    ·have hcy:jG (gM m) p=true:=by
      unfold jG
      refine eY.2 ⟨g,h1,?_⟩
      simp only[aC,eY,rZ]
      refine⟨?_,x,hE.2.2,h'⟩
      simp only[sin,aC,aP]
      exact⟨hE.1.1,hE.1.2⟩
     rw[H.rest x hxm fun hh=>apart x hh h',(b4 x hxm h').2 hcy]
    ·exact (keepP x hxm (apart x h')).2.symm
  ·rcases (hmem g).1 hgp with h1 | h1
   ·obtain⟨k1,k2⟩:=keepP g hg (apart g h1)
    rw[k1,k2];exact H.pot g hg h1
   ·rw[(b4 g hg h1).1,b3 g hg]
  ·rcases (hmem g).1 hgp with h1 | h1
   ·rw[(keepP g hg (apart g h1)).2];exact H.cyc g hg h1 hw
   ·refine (b4 g hg h1).2 ?_
    rw[aRR aRI R hr h1];exact hw
  ·have h1:g∉pre.flatten∧g∉p:=⟨fun h=>hgp ((hmem g).2 (.inl h)),fun h=>hgp ((hmem g).2 (.inr h))⟩
   rw[(keepP g hg h1.2).2];exact H.rest g hg h1.1
structure aTr (m:Im) (l:List (List Sh)) (ms:List Mt):Prop where
 like:Like m ms
 num:∀x∈ms,iC x
 lst:∀g,inM m g=true→Lst (aL m ms) l g (bY ms g)
 pot:∀g,inM m g=true→dG ms g=(bY ms g).getD 0 0
 cyc:∀g,inM m g=true→wy (gM m) g g=true→dG ms g=0
theorem aOO (hs:aJ m=true) (hl:eN l=true):lI m l=some (zIm,false,())∨∃ms,lI m l=some (aL m ms,true,())∧aTr m l ms:=by
 have htg:=aCM (dI hs).2
 have hed:=aPb htg
 have h12:=(dD (dI hs).1).methods
 obtain⟨r,hr,R⟩:=aGq (ED:=fG m) (by rw[aDv];omega) fun e he=>(aDu hs he).1
 rw[hed] at R
 have hall:(okL r&&r.all (fun p=>okL p&&p.all (inM m)))=true:=by
  have hfew:=R.few
  rw[uA] at hfew
  simp only[aC,bO]
  refine⟨fB (by omega),fun p hp=>?_⟩
  have hpi:∀x∈p,inM m x=true:=fun x hx=>by
   have:=tE R hp hx
   rw[inN,uA] at this
   exact bC.2 this
  refine⟨fB ?_,hpi⟩
  have:=aDz (a:=p) (b:=ints m.2.2.2.1.length) ((R.srt p hp).imp fun h=>by omega) fun x hx=>iQ.2 (bC.1 (hpi x hx))
  rw[jC] at this
  omega
 have hz:gP m m.2.2.2.1.length=m.2.2.2.1.map fun x=>hY x 0:=by unfold gP;rw[iD,List.drop_length,cB]
 have hlike:=aE9 m m.2.2.2.1.length
 have hnum:=aE8 hs m.2.2.2.1.length
 rw[hz] at hlike hnum
 have hpot:∀g,inM m g=true→dG (m.2.2.2.1.map fun x=>hY x 0) g=0:=fun g hg=>by
  obtain⟨g0,g1⟩:=bC.1 hg
  unfold dG
  rw[dA,kA,aT (show g.toNat<m.2.2.2.1.length by omega)]
  rfl
 have hpf:lI m l=(oF m l (gM m) r (m.2.2.2.1.map fun x=>hY x 0)).bind fun q=>some (aEB m q):=by
  unfold lI
  rw[hs,aJA hs,hr,hed]
  simp only[aH,aA,aK,hall]
 rw[hpf]
 rcases aJa hs hl R r [] _ rfl ⟨hlike,hnum,fun _ _ h=>by simp at h,fun _ _ h=>by simp at h,fun _ _ h=>by simp at h,fun g hg _=>hpot g hg⟩ with e | ⟨ms,e,H⟩
 ·rw[e];exact .inl rfl
 ·rw[e]
  have hin:∀g,inM m g=true→g∈r.flatten:=fun g hg=>(R.all g).2 (by rw[inN,uA];exact bC.1 hg)
  exact .inr ⟨ms,rfl,H.like,H.num,fun g hg=>H.lst g hg (hin g hg),fun g hg=>H.pot g hg (hin g hg),fun g hg=>H.cyc g hg (hin g hg)⟩
end
end Go.Pli

namespace Go.Pli
open Go Go.PM
end Go.Pli

namespace Go.Pli
open Go Go.PM
end Go.Pli

namespace Go.Pli
open Go Go.PM
theorem yM {l:List Int} {n:Int} (hb:lU l=true) (h0:0≤n) (h1:n<9223372036854775808):
  (∃v m:Nat,aC7 l=some ((v:Int),(m:Int),())∧1≤m∧m≤l.length∧l.take m=enc v∧v<128 ^ 5∧(v:Int)≤n∧aEr (l,false,()) n=some ((v:Int),(l.drop m,false,()),()))∨
  (∃(x y:Int) (l':List Int),aC7 l=some (x,y,())∧¬(y>0∧x≤n)∧aEr (l,false,()) n=some (0,(l',true,()),())):=by
 have hbs:lU (l.take 5)=true:=aSZ 5 hb
 unfold aEr next aC7
 simp only[hbs,aA,aB]
 have hw:IntKind.u64.wrap n=n:=by rw[IntKind.wrap_u64];omega
 have hn0:decide (n<0)=false:=bM (by omega)
 cases hd:rL 5 0 0 l with
 | none=>exact .inr ⟨0,0,l,rfl,by omega,rfl⟩
 | some x=>
  obtain⟨y,m,ok⟩:=x
  cases ok with
  | false=>exact .inr ⟨0,0,l.drop m,rfl,by omega,rfl⟩
  | true=>
   obtain⟨v,m',e1,e2,e3,e4,e5,e6,e7⟩:=aJC 5 0 0 l y m hbs hd
   have hy:y=v:=by omega
   have hm:m=m':=by omega
   subst hy;subst hm
   simp only[aK,aY,aB,hn0,hw]
   by_cases hgt:(y:Int)>n
   ·rw[aI hgt]
    exact .inr ⟨_,_,l.drop m,rfl,by omega,rfl⟩
   ·rw[bM hgt]
    have hw2:IntKind.i64.wrap (y:Int)=y:=w64 (by omega) (by omega)
    refine .inl ⟨y,m,rfl,e3,e4,?_,by omega,by omega,by simp only[aB,hw2]⟩
    rw[e5]
    exact (aJx e6 (by omega)).symm
structure aTv (s:List Int) (at_:Nat) (bad:Bool) (r:Rd):Prop where
 le:at_≤s.length
 rd:r=(if bad then r.1 else s.drop at_,bad,())
end Go.Pli

namespace Go.Pli
open Go Go.PM
end Go.Pli

namespace Go.Pli
open Go Go.PM
structure Got {α:Type} (o:Option (α×Rd×Unit)) (l:List Int) (b:Bool) (C:α→List Int→Prop):Prop where
 ex:∃x l' bad,o=some (x,(l',bad,()),())∧lU l'=true∧(bad=true∨(b=false∧bad=false∧C x l'))
end Go.Pli

namespace Go.Pli
open Go Go.PM
theorem aFd {P:Program} {u:Int} (h:Wf P (.int .u8) u):0≤u∧u<256:=by
 have h:IntKind.u8.min≤u∧u≤IntKind.u8.max:=h
 have e1:IntKind.u8.min=0:=rfl
 have e2:IntKind.u8.max=255:=rfl
 omega
theorem aDl {α:Type} {f:Nat→Option α} {r:α} (K:Nat) (hK:f K=some r) (h:∀k,f k=none∨f k=some r):pick f=some r:=by
 unfold pick
 have hs:∃k,(f k).isSome:=⟨K,by rw[hK];rfl⟩
 rw[dif_pos hs]
 have:=hs.choose_spec
 rcases h hs.choose with h | h
 ·rw[h] at this;cases this
 ·exact h
theorem aO6:wQ ([[]],[1],[1],[true],[0],1,[],()) 0=some (([[]],[1],[1],[false],[],1,[[0]],()),()):=by
 refine aDl 1 (by kernel_rfl) fun k=>?_
 match k with
 | 0=>exact .inl (by kernel_rfl)
 | k+1=>exact .inr (by kernel_rfl)
theorem aO7:wT ([[]],[0],[0],[false],[],0,[],()) 0=some (([[]],[1],[1],[true],[0],1,[],()),()):=by kernel_rfl
theorem aHz (k:Nat) (rec):pV (k+1) ([((0:Int),(0:Int),())],[1],[1],[true],[0],[],([[]],(),(),(),(),1,(),()),()) rec=rec ([],[1],[1],[false],[],[[0]],([[]],(),(),(),(),1,(),()),()):=by
 have h1:∀rec3 rec5,tX ([((0:Int),(0:Int),())],[1],[1],[true],[0],[],([[]],(),(),(),(),1,(),()),()) rec3 ([((0:Int),(0:Int),())],0,[1],()) rec5=(wQ ([[]],[1],[1],[true],[0],1,[],()) 0).bind fun r9=>rec3 ([],r9.1.2.1,r9.1.2.2.1,r9.1.2.2.2.1,r9.1.2.2.2.2.1,r9.1.2.2.2.2.2.2.1,(r9.1.1,(),(),(),(),r9.1.2.2.2.2.2.1,(),()),()):=fun rec3 rec5=>by kernel_rfl
 have h2:pV (k+1) ([((0:Int),(0:Int),())],[1],[1],[true],[0],[],([[]],(),(),(),(),1,(),()),()) rec=aE (tX ([((0:Int),(0:Int),())],[1],[1],[true],[0],[],([[]],(),(),(),(),1,(),()),()) rec) (k+1) ([((0:Int),(0:Int),())],0,[1],()):=by kernel_rfl
 rw[h2,aZ,h1,aO6]
 rfl
theorem aHA:wS ([[]],[0],[0],[false],[],0,[],()) 0=some (([[]],[1],[1],[false],[],1,[[0]],()),()):=by
 have h0:∀k,rI k ([[]],[0],[0],[false],[],0,[],()) 0=aE (pV k) k ([((0:Int),(0:Int),())],[1],[1],[true],[0],[],([[]],(),(),(),(),1,(),()),()):=by
  intro k
  unfold rI
  rw[aO7]
  rfl
 have h2:∀k,rI (k+2) ([[]],[0],[0],[false],[],0,[],()) 0=some (([[]],[1],[1],[false],[],1,[[0]],()),()):=by
  intro k
  rw[h0,aZ,aHz (k+1),aZ]
  kernel_rfl
 refine aDl 2 (h2 0) fun k=>?_
 match k with
 | 0=>rw[h0];exact .inl rfl
 | 1=>rw[h0,aZ,aHz 0];exact .inl rfl
 | k+2=>exact .inr (h2 k)
theorem aO5:kM [[]]=some ([[0]],()):=by
 have h0:∀k,sS k [[]]=aE (yL [[]]) k (0,[0],[0],[false],[],[],([[]],(),(),(),(),0,(),()),()):=fun k=>by kernel_rfl
 have h1:∀rec,yL [[]] (0,[0],[0],[false],[],[],([[]],(),(),(),(),0,(),()),()) rec=(wS ([[]],[0],[0],[false],[],0,[],()) 0).bind fun r3=>rec (1,r3.1.2.1,r3.1.2.2.1,r3.1.2.2.2.1,r3.1.2.2.2.2.1,r3.1.2.2.2.2.2.2.1,(r3.1.1,(),(),(),(),r3.1.2.2.2.2.2.1,(),()),()):=fun rec=>by kernel_rfl
 have h2:∀k,sS (k+2) [[]]=some ([[0]],()):=by
  intro k
  rw[h0,aZ,h1,aHA]
  simp only[aK]
  rw[aZ]
  kernel_rfl
 refine aDl 2 (h2 0) fun k=>?_
 match k with
 | 0=>rw[h0];exact .inl rfl
 | 1=>rw[h0,aZ,h1,aHA];exact .inl rfl
 | k+2=>exact .inr (h2 k)
end Go.Pli

namespace Go.Pli
open Go Go.PM
def aw:Im:=([],[],[2],[([],[],(5,0,()),[(1,0,0,()),(23,9,0,()),(5,0,0,()),(33,0,0,())],0,0,[0,0,0,0],())],[],0,0,())
def awl:List (List Sh):=[[(true,[],()),(true,[(1,0,())],()),(true,[(2,0,())],()),(true,[],())]]
def awx:Im:=([],[],[2],[([],[],(5,0,()),[(1,0,0,()),(23,9,0,()),(5,0,0,()),(33,0,0,())],0,10,[10,10,0,0],())],[],0,0,())
theorem aS9:kN aw=some (awl,-1,()):=by kernel_rfl
theorem aS8:lI aw awl=some (awx,true,()):=by
 have h1:fG aw=[[]]:=by kernel_rfl
 have h2:(aJ aw&&wW aw)=true:=by kernel_rfl
 unfold lI
 rw[h2,h1,aO5]
 show _=_
 kernel_rfl
theorem aAk:awake15N=some (true,()):=by
 have h1:pG aw awl=some (0,6,()):=by kernel_rfl
 unfold awake15N
 show (kN aw).bind _=_
 rw[aS9,aK]
 show (pG aw awl).bind _=_
 rw[h1,aK]
 show (lI aw awl).bind _=_
 rw[aS8,aK]
 kernel_rfl
theorem oU (m:Im):(∃l,xS m=some (l,false,()))∨(aJ m=true∧∃l,xS m=some (l,true,())∧eN l=true∧l.length=m.2.2.2.1.length∧∀f,inM m f=true→PF m f (l.getD f.toNat [])):=by
 unfold xS
 cases hsm:uY m
 ·exact .inl ⟨_,rfl⟩
 have hs:aJ m=true:=by
  simp only[uY,aC] at hsm
  have:=hsm.2.2.2
  rw[sane_eq' m] at this
  exact aMQ (by simpa using this)
 simp only[aY,aB]
 rcases aK5 hs with⟨f,f0,h⟩ | ⟨l,h,hok,hl,P⟩
 ·rw[h]
  refine .inl ⟨[],?_⟩
  simp only[aK]
  rw[bM (show ¬f<0 by omega)]
 ·rw[h]
  exact .inr ⟨hs,l,rfl,hok,hl,P⟩
where
 sane_eq' (m:Im):sV m=yG m:=rfl
end Go.Pli

namespace Go.Pli
open Go Go.PM
theorem aRh {n q:Nat} {p:Int→Bool} (hq:q<n) (h:p (q:Int)=true) (hn:∀k,k<q→p (k:Int)=false):(ints n).find? p=some (q:Int):=by
 rw[List.find?_eq_some_iff_getElem]
 refine⟨h,q,by rw[jC];exact hq,by simp[ints],fun j hj=>?_⟩
 have:(ints n)[j]'(by rw[jC];omega)=(j:Int):=by simp[ints]
 rw[this,hn j hj];rfl
theorem aRg {n:Nat} {p:Int→Bool} (hn:∀k,k<n→p (k:Int)=false):(ints n).find? p=none:=by
 rw[List.find?_eq_none]
 intro x hx
 obtain⟨h0,h1⟩:=iQ.1 hx
 obtain⟨k,rfl⟩:=kD h0
 rw[hn k (by omega)];simp
section
variable {m:Im} {l:List (List Sh)} {ms:List Mt}
theorem aPR (h:Like m ms) (hok:eN l=true) (hl:l.length=m.2.2.2.1.length) (P:∀f,inM m f=true→PF m f (l.getD f.toNat [])):zJ (aL m ms) l=true:=by
 have hlen:(aL m ms).2.2.2.1.length=m.2.2.2.1.length:=h.len
 simp only[zJ,aC,aP,bO,hlen]
 exact⟨hok,hl,fun f hf=>by rw[h.codeN];exact (P f (bC.2 (iQ.1 hf))).gd.len⟩
theorem aHc (h:Like m ms) (hs:aJ (aL m ms)=true) (hok:eN l=true) (hl:l.length=m.2.2.2.1.length) (P:∀f,inM m f=true→PF m f (l.getD f.toNat [])):qU (aL m ms) l=some (tC (aL m ms) l,()):=by
 unfold qU
 rw[hs,aPR h hok hl P];rfl
theorem aKI (h:Like m ms) (hs:aJ (aL m ms)=true) {f:Int} (hf:inM m f=true) {pc:Nat} (hp:pc<codeN m f):
  aAj (aL m ms) l f pc=(nxs m l f pc).any fun to=>decide ((bY ms f).getD pc 0<IntKind.i64.wrap (cst (aL m ms) f pc+(bY ms f).getD to.toNat 0)):=by
 have hpX:sin (pc:Int) (codeN (aL m ms) f:Int)=true:=by rw[h.codeN];simp only[sin,aC,aP];omega
 have hfX:inM (aL m ms) f=true:=by rw[h.inM];exact hf
 have hc:cst (aL m ms) f pc=mO (aL m ms) (aG (aL m ms) f (pc:Int)):=aJM hs hfX hpX
 have hph:eF (aL m ms) f=bY ms f:=rfl
 rw[hc,←tJ h l f pc]
 unfold aAj nxs
 rw[hph]
 cases (bS l f (pc:Int)).1 <;> rfl
theorem aI9 (h:Like m ms) (hs:aJ (aL m ms)=true) {f:Int} (hf:inM m f=true) (H:Lst (aL m ms) l f (bY ms f)) (hp:dG ms f=(bY ms f).getD 0 0):nF (aL m ms) l f=false:=by
 unfold nF
 have h1:eF (aL m ms) f=bY ms f:=rfl
 have h2:eA (aL m ms) f=dG ms f:=rfl
 have hfX:inM (aL m ms) f=true:=by rw[h.inM];exact hf
 rw[h1,h2,hp,bM (by omega),jJ,List.any_eq_false]
 intro pc hpc
 have hpc:=oT.1 hpc
 have hpc':pc<codeN m f:=by rwa [h.codeN] at hpc
 rw[aKI h hs hf hpc',Bool.not_eq_true,List.any_eq_false]
 intro to hto
 have hx:=H.fxd pc hpc to (by rw[tJ h];exact hto)
 have r1:=H.rg.2 to.toNat
 have r2:=aEJ hs hfX hpc
 rw[sD (by omega) (by omega)]
 simp only[aP]
 omega
theorem aP8 {ms':List Mt} (h:Like m ms) (h':Like m ms') (hs':aJ (aL m ms')=true) {f:Int} (hf:inM m f=true) (hpot:∀g,inM m g=true→dG ms' g=dG ms g) (H:Lst (aL m ms) l f (bY ms f)) {p:Nat} (hp:p<codeN m f) (h0:0<(bY ms f).getD p 0)
  (hphi:bY ms' f=(bY ms f).set p ((bY ms f).getD p 0 - 1)):nF (aL m ms') l f=true:=by
 unfold nF
 have hfX:inM (aL m ms') f=true:=by rw[h'.inM];exact hf
 rw[eT]
 refine .inr (eY.2 ⟨p,oT.2 (by rw[h'.codeN];exact hp),?_⟩)
 rw[aKI h' hs' hf hp,eY]
 obtain⟨to,t1,t2,t3⟩:=H.tgt p h0
 rw[tJ h] at t1
 have hc:cst (aL m ms') f p=cst (aL m ms) f p:=aAb h' h fun g _ hg=>hpot g hg
 have hpl:p<(bY ms f).length:=by rw[H.rg.1,h.codeN];exact hp
 have r1:=H.rg.2 to.toNat
 have r2:=H.rg.2 p
 have r3:=aEJ hs' hfX (pc:=p) (by rw[h'.codeN];exact hp)
 rw[hc] at r3
 refine⟨to,t1,?_⟩
 rw[hc,hphi,uV hpl,if_pos rfl,uV hpl]
 by_cases e:to.toNat=p
 ·have:=t2 e
  rw[if_pos e,sD (by omega) (by omega)]
  simp only[aP]
  omega
 ·rw[if_neg e,sD (by omega) (by omega)]
  simp only[aP]
  omega
end
def mH (m:Im) (ms:List Mt) (k:Nat):List Mt:=m.2.2.2.1.take k++ms.drop k
theorem aLc {m:Im} {ms:List Mt} (h:ms.length=m.2.2.2.1.length) {k:Nat}:(mH m ms k).length=ms.length:=by
 unfold mH
 rw[aX,bN,dW];omega
theorem aLd {m:Im} {ms:List Mt} (h:ms.length=m.2.2.2.1.length) {k:Nat} (hk:k<ms.length):(mH m ms k).getD k zMt=ms.getD k zMt:=by
 unfold mH
 rw[dA,cT (by rw[bN];omega),bN,dS,dA]
 congr 2;omega
theorem aLb {m:Im} {ms:List Mt} (h:ms.length=m.2.2.2.1.length) {k:Nat} (hk:k<ms.length):(mH m ms k).set k (m.2.2.2.1.getD k zMt)=mH m ms (k+1):=by
 have hk':k<m.2.2.2.1.length:=by omega
 refine List.ext_getElem? fun i=>?_
 unfold mH
 rw[gD,List.getElem?_append,List.getElem?_append,aX]
 simp only[bN,dW,eI,dS]
 by_cases e:k=i
 ·subst e
  rw[if_pos rfl,if_pos (by omega),if_pos (by omega),if_pos (by omega),aT hk',getD_some (aT hk')]
 ·rw[if_neg e]
  by_cases hi:i<k
  ·rw[if_pos (by omega),if_pos hi,if_pos (by omega),if_pos (by omega)]
  ·rw[if_neg (by omega),if_neg (by omega)]
   congr 1;omega
theorem aLe {m:Im} {ms:List Mt} (h:ms.length=m.2.2.2.1.length):mH m ms ms.length=m.2.2.2.1:=by
 unfold mH
 rw[List.drop_length,cB,h,iD]
theorem aFm {g:Int} {n:Nat} (hg:0≤g∧g<256) (hn:0<n):∃q:Nat,(IntKind.i64.wrap g).tmod (n:Int)=(q:Int)∧q<n:=by
 rw[sD (by omega) (by omega)]
 obtain⟨k,rfl⟩:=kD hg.1
 exact⟨k % n,rfl,Nat.mod_lt _ hn⟩
theorem aOG (m:Im) (g p:Int) (hg:0≤g∧g<256) (hp:0≤p∧p<256):∃k,aDj k m g p=some (true,()):=by
 refine⟨1001,?_⟩
 unfold aDj
 rcases oU m with⟨l,h⟩ | ⟨hs,l,h,hok,hl,P⟩
 ·rw[h,aAk];rfl
 rw[h]
 simp only[aK,aY,aB]
 rcases aOO hs hok with e | ⟨ms,e,H⟩
 ·rw[e,aAk];rfl
 rw[e]
 simp only[aK,aY,aB]
 have h12:=(dD (dI hs).1).methods
 have hlen:ms.length=m.2.2.2.1.length:=H.like.len
 have hW:(aL m ms).2.2.2.1=ms:=rfl
 have hsX:=H.like.sane hs H.num
 have hin:∀k:Nat,k<ms.length→inM m (k:Int)=true:=fun k hk=>bC.2 ⟨by omega,by omega⟩
 have hgood:∀k:Nat,k<ms.length→nF (aL m ms) l (k:Int)=false:=fun k hk=>aI9 H.like hsX (hin k hk) (H.lst _ (hin k hk)) (H.pot _ (hin k hk))
 have hpm:tC (aL m ms) l= -1:=by
  unfold tC
  rw[hW,aRg hgood]
 rw[hW,hlen,aER,aB,aHc H.like hsX hok hl P,aK,hpm]
 rw[bM (show ¬((-1:Int)≥0) by omega),aB,bK,bQ,aI (show m.2.2.2.1.length<rowMax by simp only[rowMax];omega),uL,aA]
 refine rB (L:=aBk m g p (l,true,()) (aL m ms,true,())) (n:=ms.length) (st:=fun k=>((k:Int),mH m ms k,())) (fun k rec hk=>?_) (fun rec=>?_) 1001 (by omega)
 ·have hkm:k<m.2.2.2.1.length:=by omega
  have hfm:=hin k hk
  have hT:=aLc (m:=m) (ms:=ms) hlen (k:=k)
  have hTg:=aLd hlen hk
  have hset:∀A,((mH m ms k).set k A).getD k zMt=A:=fun A=>getD_some (by rw[gD,if_pos rfl,if_pos (by rw[hT];exact hk)])
  have hL:=H.lst _ hfm
  have hcode:=eU hs hfm
  have hx1:(ms.getD k zMt).2.2.2.2.2.2.1.length=codeN m (k:Int):=by
   have:=hL.rg.1
   rwa [H.like.codeN] at this
  have hx2:(m.2.2.2.1.getD k zMt).2.2.2.1.length=codeN m (k:Int):=rfl
  have hx3:(ms.getD k zMt).2.2.2.2.2.1=(ms.getD k zMt).2.2.2.2.2.2.1.getD 0 0:=H.pot _ hfm
  obtain⟨s1,s2,s3,s4,s5⟩:=iM (H.like.at k)
  have hy:((ms.getD k zMt).1,(ms.getD k zMt).2.1,(ms.getD k zMt).2.2.1,(ms.getD k zMt).2.2.2.1,(ms.getD k zMt).2.2.2.2.1,(m.2.2.2.1.getD k zMt).2.2.2.2.2.1,(m.2.2.2.1.getD k zMt).2.2.2.2.2.2)=m.2.2.2.1.getD k zMt:=by rw[s1,s2,s3,s4,s5]
  have hw2:=bG hk (show ms.length≤lenMax by simp only[lenMax];omega)
  have d0:decide ((0:Int)<((codeN m (k:Int):Nat):Int))=true:=aI (by omega)
  rw[aBk]
  simp only[hT,hW,dlt hk,dlt hkm,dge,aH,aA,aR,hx1,hx2,aER,aB,d0,hx3,cX,hset,List.set_set,hTg,hw2]
  rw[hy,aLb hlen hk]
 ·have hsame:pC ((aL m ms).1,(aL m ms).2.1,(aL m ms).2.2.1,m.2.2.2.1,(aL m ms).2.2.2.2) m=true:=by
   show pC m m=true
   unfold pC
   simp
  have dn:decide ((ms.length:Int)<(m.2.2.2.1.length:Int))=false:=bM (by omega)
  rw[aBk]
  simp only[hW,dn,aB,aLe hlen,hsame,aY]
  by_cases h0:ms.length=0
  ·rw[show ((ms.length:Int)==0)=true by rw[h0];rfl,aAk];rfl
  rw[show ((ms.length:Int)==0)=false by rw[oQ];omega,aB,bM (show ¬((ms.length:Int)=0) by omega),cF,aA]
  obtain⟨q,hq,hqn⟩:=aFm hg (show 0<ms.length by omega)
  have hqm:=hin q hqn
  have hL:=H.lst _ hqm
  have hcode:=eU hs hqm
  have hx1:(ms.getD q zMt).2.2.2.2.2.2.1.length=codeN m (q:Int):=by
   have:=hL.rg.1
   rwa [H.like.codeN] at this
  simp only[hq,dge,dlt hqn,aH,aA,aR,hx1]
  rw[bM (show ¬((codeN m (q:Int):Int)=0) by omega),cF,aA]
  obtain⟨r,hr,hrn⟩:=aFm hp hcode.1
  have hb1:Nat.beq q q=true:=Nat.beq_refl q
  simp only[hr,dge,dlt hrn,aH,aA,aR,hb1,oS,bK,bQ,hx1,dlt hqn]
  cases hz:((ms.getD q zMt).2.2.2.2.2.2.1.getD r 0==0)
  ·have hne:(bY ms (q:Int)).getD r 0≠0:=by
    have:=oQ.1 hz
    exact this
   have r1:=hL.rg.2 r
   have h0:0<(bY ms (q:Int)).getD r 0:=by omega
   have hw:IntKind.i64.wrap ((bY ms (q:Int)).getD r 0 - 1)=(bY ms (q:Int)).getD r 0 - 1:=sD (by omega) (by omega)
   obtain⟨n1,n2,n3⟩:=aDx H.like H.num hqm
   have hnum:∀x∈ms.set q (lH (ms.getD q zMt) ((bY ms (q:Int)).set r ((bY ms (q:Int)).getD r 0 - 1))),iC x:=aDw H.num ⟨n1,by
     show ((bY ms (q:Int)).set r _).length=_
     rw[cX];exact n2,fun x hx=>by
     rcases rX hx with hx | hx
     ·exact n3 x hx
     ·rw[hx];omega⟩
   have hlike:Like m (ms.set q (lH (ms.getD q zMt) ((bY ms (q:Int)).set r ((bY ms (q:Int)).getD r 0 - 1)))):=H.like.set (aFE _ _)
   have hsZ:=hlike.sane hs hnum
   have hat:∀k:Nat,k<ms.length→(ms.set q (lH (ms.getD q zMt) ((bY ms (q:Int)).set r ((bY ms (q:Int)).getD r 0 - 1)))).getD k zMt=if (k:Int)=(q:Int) then lH (ms.getD q zMt) ((bY ms (q:Int)).set r ((bY ms (q:Int)).getD r 0 - 1)) else ms.getD k zMt:=fun k hk=>aDF H.like hqm (hin k hk) _
   generalize hM:ms.set q (lH (ms.getD q zMt) ((bY ms (q:Int)).set r ((bY ms (q:Int)).getD r 0 - 1)))=ms' at hnum hlike hsZ hat
   have hpot:∀f,inM m f=true→dG ms' f=dG ms f:=fun f hf=>by
    obtain⟨f0,f1⟩:=bC.1 hf
    obtain⟨k,rfl⟩:=kD f0
    unfold dG
    rw[aR,hat k (by omega)]
    split
    ·rename_i e;rw[Int.ofNat.inj e];rfl
    ·rfl
   have hphi:∀k:Nat,k<ms.length→k≠q→bY ms' (k:Int)=bY ms (k:Int):=fun k hk hne=>by
    unfold bY
    rw[aR,hat k hk,if_neg (by omega)]
   have hbad:nF (aL m ms') l (q:Int)=true:=aP8 H.like hlike hsZ hqm hpot hL hrn h0 (by
    unfold bY
    rw[aR,hat q hqn,if_pos rfl];rfl)
   have hfine:∀k:Nat,k<q→nF (aL m ms') l (k:Int)=false:=fun k hk=>by
    have hkm:=hin k (by omega)
    have e:=hphi k (by omega) (by omega)
    refine aI9 hlike hsZ hkm ?_ (by rw[hpot _ hkm,e];exact H.pot _ hkm)
    rw[e]
    exact aDW H.like hlike (fun pc=>aAb H.like hlike fun g _ hg=>(hpot g hg).symm) (H.lst _ hkm)
   have hfind:tC (aL m ms') l=(q:Int):=by
    unfold tC
    rw[aRh (by rw[show (aL m ms').2.2.2.1=ms' from rfl,hlike.len];omega) hbad hfine]
   have hz2:(ms.set q ((ms.getD q zMt).1,(ms.getD q zMt).2.1,(ms.getD q zMt).2.2.1,(ms.getD q zMt).2.2.2.1,(ms.getD q zMt).2.2.2.2.1,(ms.getD q zMt).2.2.2.2.2.1,(ms.getD q zMt).2.2.2.2.2.2.1.set r (IntKind.i64.wrap ((ms.getD q zMt).2.2.2.2.2.2.1.getD r 0 - 1)),()))=ms':=by
    rw[←hM,←hw];rfl
   have hpots:=aHc hlike hsZ hok hl P
   rw[hz2,aI (show ms.length<rowMax by simp only[rowMax];omega),aI (show codeN m (q:Int)<rowMax by simp only[rowMax];omega),uL,aA,aA,aAk,aB,aK]
   show ((qU (aL m ms') l).bind fun r12=>some (r12.1==(q:Int),()))=_
   rw[hpots,aK,hfind,beq_self_eq_true]
  ·rw[aAk];rfl
end Go.Pli
