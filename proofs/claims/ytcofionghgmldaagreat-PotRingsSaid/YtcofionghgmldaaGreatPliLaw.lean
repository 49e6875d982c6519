/- Whether an image is taken in: it is told of every image; more room does no harm. -/
import Derived.Test.YtcofionghgmldaaGreatPliTar
import Derived.Test.YtcofionghgmldaaGreatPliReach
import Derived.Test.YtcofionghgmldaaGreatPliTy
import Derived.Test.YtcofionghgmldaaGreatPliNt
import Derived.Test.YtcofionghgmldaaGreatPliInst
import Derived.Test.YtcofionghgmldaaGreatPMLaw
import Derived.Test.YtcofionghgmldaaGreatPliL5E
import Derived.KernelRfl
namespace Go.Pli
open Go Go.PM
theorem aJ0:∀l:List Int,(dO l).length≤l.length
 | []=>aW _
 | a::l=>by
  have:=aJ0 l
  unfold dO
  cases h:dO l with
  | nil=>simp
  | cons b r=>
   rw[h] at this
   simp only[aF] at this⊢
   cases a==b <;> simp only[aA,aB,aF] <;> omega
theorem aDp {m:Im} (hs:aK m=true) {e:List Int} (he:e∈fE m):e.length≤1000∧∀x∈e,inM m x=true:=by
 obtain⟨f,hf,rfl⟩:=eZ.1 he
 have hfm:inM m f=true:=bD.2 (kO.1 hf)
 have ht:=aCB (dF hs).2
 constructor
 ·unfold ofB
  rw[hfm]
  simp only[aA]
  have h1:=aJ0 (fN (pZ m f))
  have h2:=aSZ (dF hs).1 hfm
  rw[(sV _).length_eq] at h1
  omega
 ·intro x hx
  exact aCA ht hfm ((aHX hfm).1 hx)
theorem aJD {m:Im} (hs:aK m=true):wT m=true:=by
 simp only[wT,bM,aC]
 intro e he
 obtain⟨h1,h2⟩:=aDp hs he
 exact⟨fD (by omega),h2⟩
theorem aSS {m:Im} (hs:aK m=true) {l:List (List Sh)} (hl:fC l=true):∃r,aEN m l=some r:=by
 have h12:=(cV (dF hs).1).methods
 have hlen:=aDq m
 obtain⟨r,hr,R⟩:=aGl (ED:=fE m) (by omega) fun e he=>(aDp hs he).1
 have hfew:=R.few
 have hall:(okL r&&r.all (fun p=>okL p&&p.all (inM m)))=true:=by
  simp only[aC,bM]
  refine⟨fD (by omega),fun p hp=>?_⟩
  have h4:∀x∈p,inM m x=true:=fun x hx=>by
   obtain⟨x0,x1⟩:=(R.all x).1 (iW.2 ⟨p,hp,hx⟩)
   exact bD.2 ⟨x0,by omega⟩
  have:=aDs (a:=p) (b:=ints m.2.2.2.1.length) ((R.srt p hp).imp fun h=>by omega) fun x hx=>kO.2 (bD.1 (h4 x hx))
  rw[mQ] at this
  exact⟨fD (by omega),h4⟩
 unfold aEN aJG
 rw[hs,hl,aJD hs,hr]
 simp only[aH,aA,aJ,hall]
 exact⟨_,rfl⟩
theorem aMD {m:Im} (h:yC m=0):aK m=true:=by
 unfold yC at h
 unfold aK
 cases h1:bW m <;> cases h2:kJ m <;> simp only[h1,h2,aA,aB] at h⊢ <;> first | rfl | (exact absurd h (by decide))
structure aS3 (m:Im) (t:List (List Sh)×Int×Int×Int×Unit) (n:Int×Int×Int×Unit) (p:Int×Int×Unit):Prop where
 check:uO m=some t
 ok:fC t.1=true
 needs:aEN m t.1=some n
 pot:pE m t.1=some p
theorem rZ {m:Im} (hs:aK m=true):∃t n p,aS3 m t n p:=by
 obtain⟨t,h1,h2,-⟩:=aFp hs
 obtain⟨n,h3⟩:=aSS hs h2
 exact⟨t,n,yV m t.1 (ints m.2.2.2.1.length),h1,h2,h3,by unfold pE;rw[hs,h2];rfl⟩
def aGd (m:Im) (s h:Int):Im:=(m.1,m.2.1,m.2.2.1,m.2.2.2.1,m.2.2.2.2.1,s,h,())
end Go.Pli

namespace Go.Pli
open Go Go.PM
section
variable {m:Im} {l:List (List Sh)} {r:List (List Int)}
structure BV (m:Im) (l:List (List Sh)) (V:List Int):Prop where
 len:V.length=m.2.2.2.1.length
 pos:∀f,inM m f=true→aEi m l f≤ix V f∧0≤ix V f∧ix V f≤100000
 call:∀f g,inM m f=true→hU m f g=true→xO m g.toNat f.toNat=false→aEi m l f+ix V g≤ix V f
 ring:∀f g,inM m f=true→inM m g=true→xO m f.toNat g.toNat=true→xO m g.toNat f.toNat=true→ix V f=ix V g
 way:∀f g,inM m f=true→inM m g=true→xO m f.toNat g.toNat=true→ix V g≤ix V f
end
end Go.Pli

namespace Go.Pli
open Go Go.PM
theorem aK8 {m:Im} (hs:aK m=true):(∃f,0≤f∧kM m=some ([],f,()))∨∃l,kM m=some (l,-1,())∧fC l=true∧l.length=m.2.2.2.1.length∧∀f,inM m f=true→PF m f (l.getD f.toNat []):=by
 have go:∀(fs:List Int) (out:List (List Sh)) (r),(∀f∈fs,inM m f=true)→rK m fs out=some r→r.2.2.2.1=0→∃add,r.1=out++add∧add.length=fs.length∧∀k,k<fs.length→PF m (fs.getD k 0) (add.getD k []):=fun fs=>by
  induction fs with
  | nil=>
   intro out r _ hr _
   have:=oM hr
   subst this
   exact⟨[],by simp,rfl,fun _ h=>by cases h⟩
  | cons f fs ih=>
   intro out r hl hr h0
   obtain⟨z,hz,-,-,-,hP⟩:=aHS hs (hl f (bS ..))
   unfold rK at hr
   rw[hz,aJ] at hr
   cases he:z.2.2.1 !=0 <;> simp only[he,aA,aB] at hr
   ·have hz0:z.2.2.1=0:=by simpa using he
    obtain⟨add,a1,a2,a3⟩:=ih (out++[z.1]) r (fun x hx=>hl x (bI _ hx)) hr h0
    refine⟨z.1::add,by rw[a1];simp,by simp[a2],fun k hk=>?_⟩
    cases k with
    | zero=>exact hP hz0
    | succ k=>
     rw[List.getD_cons_succ,List.getD_cons_succ]
     exact a3 k (by simpa using hk)
   ·have hz0:z.2.2.1≠0:=by simpa using he
    have:=oM hr
    subst this
    exact absurd h0 hz0
 obtain⟨r,h1,h2,h3⟩:=aLf hs
 obtain⟨r',h1',hok,-⟩:=aFp hs
 rw[h1] at h1'
 have:=oM h1'
 subst this
 by_cases h0:r.2.2.2.1=0
 ·obtain⟨h4,h5⟩:=h2 h0
  unfold uO at h1
  rw[hs] at h1
  simp only[aA] at h1
  obtain⟨add,a1,a2,a3⟩:=go _ _ _ (fun f hf=>bD.2 (kO.1 hf)) h1 h0
  rw[qD] at a1
  rw[mQ] at a2 a3
  refine .inr ⟨r.1,h4,hok,h5,fun f hf=>?_⟩
  obtain⟨f0,f1⟩:=bD.1 hf
  have hk:f.toNat<m.2.2.2.1.length:=by omega
  have:=a3 f.toNat hk
  rw[aIB hk,Int.toNat_of_nonneg f0] at this
  rw[a1];exact this
 ·obtain⟨h4,h5⟩:=h3 h0
  exact .inl ⟨_,(bD.1 h5).1,h4⟩
end Go.Pli

namespace Go.Pli
open Go Go.PM
def Rg (N:Nat) (K:Int) (phi:List Int):Prop:=phi.length=N∧∀k,0≤phi.getD k 0∧phi.getD k 0≤K
theorem Rg.up {N:Nat} {K K':Int} {phi:List Int} (h:Rg N K phi) (hk:K≤K'):Rg N K' phi:=⟨h.1,fun k=>⟨(h.2 k).1,by have:=(h.2 k).2;omega⟩⟩
theorem aAF {phi:List Int} {pc:Nat} {v:Int} (hpc:pc<phi.length) (k:Nat):(phi.set pc v).getD k 0=if k=pc then v else phi.getD k 0:=by
 rw[cW,iB,cW]
 by_cases h:pc=k
 ·subst h;simp[hpc]
 ·have h':¬k=pc:=fun e=>h e.symm
  simp[h,h']
theorem aC2 {N:Nat} {c:Int} (hc:0≤c∧c≤4096) {pc:Nat} (hpc:pc<N):∀(q:List Int) (t:Bool) (phi:List Int) (K:Int),(∀to∈q,0≤to∧to<(N:Int))→Rg N K phi→0≤K→K+4096*(q.length:Int)≤900000000→
  Rg N (K+4096*(q.length:Int)) (eC c pc q t phi).2∧(∀k,phi.getD k 0≤(eC c pc q t phi).2.getD k 0)∧(∀k,k≠pc→(eC c pc q t phi).2.getD k 0=phi.getD k 0)∧(t=true→(eC c pc q t phi).1=true)∧
   ((eC c pc q t phi).1=false→(eC c pc q t phi).2=phi∧∀to∈q,c+phi.getD to.toNat 0≤phi.getD pc 0)∧
   ((eC c pc q t phi).2.getD pc 0=phi.getD pc 0∨∃to∈q,(to.toNat=pc→0<c)∧(eC c pc q t phi).2.getD pc 0≤c+(eC c pc q t phi).2.getD to.toNat 0)
 | [],t,phi,K,_,h,_,_=>⟨h.up (by simp),fun _=>eV _,fun _ _=>rfl,fun h=>h,fun _=>⟨rfl,fun _ h=>by cases h⟩,.inl rfl⟩
 | to::q,t,phi,K,hq,h,hK,hb=>by
  have hlen:((to::q).length:Int)=(q.length:Int)+1:=by simp
  rw[hlen] at hb⊢
  have hto:=h.2 to.toNat
  have hp:=h.2 pc
  have hw:IntKind.i64.wrap (c+phi.getD to.toNat 0)=c+phi.getD to.toNat 0:=aE5 (by omega) (by omega)
  have hq':∀x∈q,0≤x∧x<(N:Int):=fun x hx=>hq x (bI _ hx)
  rw[eC,hw]
  by_cases hgt:c+phi.getD to.toNat 0>phi.getD pc 0
  ·rw[aI hgt,aA]
   have hpl:pc<phi.length:=by rw[h.1];exact hpc
   have h1:Rg N (K+4096) (phi.set pc (c+phi.getD to.toNat 0)):=by
    refine⟨by rw[dJ];exact h.1,fun k=>?_⟩
    rw[aAF hpl]
    have:=h.2 k
    split <;> omega
   obtain⟨i1,i2,i3,i4,i5,i6⟩:=aC2 hc hpc q true _ (K+4096) hq' h1 (by omega) (by omega)
   have hle:∀k,phi.getD k 0≤(phi.set pc (c+phi.getD to.toNat 0)).getD k 0:=fun k=>by
    rw[aAF hpl]
    by_cases hk:k=pc
    ·subst hk;rw[if_pos rfl];omega
    ·rw[if_neg hk];exact eV _
   refine⟨i1.up (by omega),fun k=>Int.le_trans (hle k) (i2 k),fun k hk=>?_,fun _=>i4 rfl,fun hf=>?_,.inr ?_⟩
   ·rw[i3 k hk,aAF hpl,if_neg hk]
   ·rw[i4 rfl] at hf;cases hf
   ·rcases i6 with e | ⟨x,hx,e1,e2⟩
    ·refine⟨to,bS ..,fun he=>?_,?_⟩
     ·rw[he] at hgt;omega
     ·rw[e,aAF hpl,if_pos rfl]
      have a:=hle to.toNat
      have b:=i2 to.toNat
      omega
    ·exact⟨x,bI _ hx,e1,e2⟩
  ·rw[bO hgt,aB]
   obtain⟨i1,i2,i3,i4,i5,i6⟩:=aC2 hc hpc q t phi K hq' h hK (by omega)
   refine⟨i1.up (by omega),i2,i3,i4,fun hf=>?_,i6.imp id fun⟨x,hx,e⟩=>⟨x,bI _ hx,e⟩⟩
   obtain⟨j1,j2⟩:=i5 hf
   refine⟨j1,fun x hx=>?_⟩
   rcases bJ.1 hx with rfl | hx
   ·omega
   ·exact j2 x hx
def nxs (m:Im) (l:List (List Sh)) (f:Int) (pc:Nat):List Int:=bif (cE l f (pc:Int)).1 then (aO m f (pc:Int) (cE l f (pc:Int)).2.1).2.1 else[]
def cst (m:Im) (f:Int) (pc:Nat):Int:=iI m (aG m f (pc:Int))
theorem aC1 (m:Im) (l:List (List Sh)) (f:Int) (pc:Nat) (t:Bool) (phi:List Int):jM m l f pc t phi=eC (cst m f pc) pc (nxs m l f pc) t phi:=by
 unfold jM nxs cst
 cases (cE l f (pc:Int)).1 <;> rfl
theorem aOR {m:Im} (hs:aK m=true) {l:List (List Sh)} {f:Int} {pc:Nat}:∀to∈nxs m l f pc,0≤to∧to<(codeN m f:Int):=by
 intro to ht
 unfold nxs at ht
 cases h:(cE l f (pc:Int)).1 <;> rw[h] at ht <;> simp only[aA,aB] at ht
 ·cases ht
 ·exact aFF hs to ht
theorem aHA {m:Im} {l:List (List Sh)} {f:Int} {pc:Nat}:(nxs m l f pc).length≤2:=by
 unfold nxs
 cases (cE l f (pc:Int)).1 <;> simp only[aA,aB]
 ·simp
 ·exact uR ..
theorem aJL {m:Im} (hs:aK m=true) {f:Int} (hf:inM m f=true) {pc:Nat} (hp:pc<codeN m f):0≤cst m f pc∧cst m f pc≤4096:=by
 have hp':sin (pc:Int) (codeN m f:Int)=true:=by simp only[sin,aC,aP];omega
 unfold cst
 rw[aEy hs hf hp']
 exact aRJ hs hf hp'
def Tgt (C:Nat→Int) (X:Nat→List Int) (phi:List Int):Prop:=∀k,0<phi.getD k 0→∃to∈X k,(to.toNat=k→0<C k)∧phi.getD k 0≤C k+phi.getD to.toNat 0
def Fxd (C:Nat→Int) (X:Nat→List Int) (N:Nat) (phi:List Int):Prop:=∀k,k<N→∀to∈X k,C k+phi.getD to.toNat 0≤phi.getD k 0
section
variable {m:Im} {l:List (List Sh)} {f:Int}
theorem aGs (hs:aK m=true) (hf:inM m f=true):∀(q:List Nat) (t:Bool) (phi:List Int) (K:Int),(∀k∈q,k<codeN m f)→Rg (codeN m f) K phi→0≤K→K+8192*(q.length:Int)≤900000000→Tgt (cst m f) (nxs m l f) phi→
  Rg (codeN m f) (K+8192*(q.length:Int)) (eG m l f q t phi).2∧Tgt (cst m f) (nxs m l f) (eG m l f q t phi).2∧(t=true→(eG m l f q t phi).1=true)∧
   ((eG m l f q t phi).1=false→(eG m l f q t phi).2=phi∧∀k∈q,∀to∈nxs m l f k,cst m f k+phi.getD to.toNat 0≤phi.getD k 0)
 | [],t,phi,K,_,h,_,_,hT=>⟨h.up (by simp),hT,fun h=>h,fun _=>⟨rfl,fun _ h=>by cases h⟩⟩
 | pc::q,t,phi,K,hq,h,hK,hb,hT=>by
  have hlen:((pc::q).length:Int)=(q.length:Int)+1:=by simp
  rw[hlen] at hb⊢
  have hpc:=hq pc (bS ..)
  have h2:(nxs m l f pc).length≤2:=aHA
  obtain⟨i1,i2,i3,i4,i5,i6⟩:=aC2 (aJL hs hf hpc) hpc (nxs m l f pc) t phi K (aOR hs) h hK (by omega)
  rw[eG,aC1]
  have hT2:Tgt (cst m f) (nxs m l f) (eC (cst m f pc) pc (nxs m l f pc) t phi).2:=by
   intro k hk
   have old:(eC (cst m f pc) pc (nxs m l f pc) t phi).2.getD k 0=phi.getD k 0→∃to∈nxs m l f k,(to.toNat=k→0<cst m f k)∧(eC (cst m f pc) pc (nxs m l f pc) t phi).2.getD k 0≤cst m f k+(eC (cst m f pc) pc (nxs m l f pc) t phi).2.getD to.toNat 0:=fun e=>by
    rw[e] at hk⊢
    obtain⟨to,t1,t2,t3⟩:=hT k hk
    have:=i2 to.toNat
    exact⟨to,t1,t2,by omega⟩
   by_cases hkp:k=pc
   ·subst hkp
    rcases i6 with e | e
    ·exact old e
    ·exact e
   ·exact old (i3 k hkp)
  obtain⟨j1,j2,j3,j4⟩:=aGs hs hf q (eC (cst m f pc) pc (nxs m l f pc) t phi).1 _ (K+8192) (fun k hk=>hq k (bI _ hk)) (i1.up (by omega)) (by omega) (by omega) hT2
  refine⟨j1.up (by omega),j2,fun ht=>j3 (i4 ht),fun hf'=>?_⟩
  obtain⟨e1,e2⟩:=j4 hf'
  have hfl:(eC (cst m f pc) pc (nxs m l f pc) t phi).1=false:=by
   cases hh:(eC (cst m f pc) pc (nxs m l f pc) t phi).1
   ·rfl
   ·rw[j3 hh] at hf';cases hf'
  obtain⟨e3,e4⟩:=i5 hfl
  rw[e3] at e1 e2
  refine⟨by rw[e3];exact e1,fun k hk=>?_⟩
  rcases bJ.1 hk with rfl | hk
  ·exact e4
  ·exact e2 k hk
theorem aPr {l:List Int} {x:Int} (hx:x∈l):x≤qW l:=by
 have key:∀(q:List Int) (a:Int),a≤q.foldl max a∧∀y∈q,y≤q.foldl max a:=by
  intro q
  induction q with
  | nil=>intro a;exact⟨eV _,fun _ h=>by cases h⟩
  | cons b q ih=>
   intro a
   obtain⟨h1,h2⟩:=ih (max a b)
   rw[List.foldl_cons]
   refine⟨by omega,fun y hy=>?_⟩
   rcases bJ.1 hy with rfl | hy
   ·omega
   ·exact h2 y hy
 match l,hx with
 | y::q,hx=>
  have:qW (y::q)=q.foldl max y:=by unfold qW;simp
  rw[this]
  rcases bJ.1 hx with rfl | hx
  ·exact (key q x).1
  ·exact (key q y).2 x hx
structure Lst (m:Im) (l:List (List Sh)) (f:Int) (phi:List Int):Prop where
 rg:Rg (codeN m f) 4096 phi
 tgt:Tgt (cst m f) (nxs m l f) phi
 fxd:Fxd (cst m f) (nxs m l f) (codeN m f) phi
theorem aIp (hs:aK m=true) (hf:inM m f=true) (h:(fR m l f).2.1=true):Lst m l f (fR m l f).1:=by
 have hc:=fB hs hf
 have rounds:∀(j:Nat) (phi:List Int) (K:Int),Rg (codeN m f) K phi→0≤K→K+8192*(codeN m f:Int)*(j:Int)≤900000000→Tgt (cst m f) (nxs m l f) phi→(kP m l f j phi).2.1=true→Lst m l f (kP m l f j phi).1:=by
  intro j
  induction j with
  | zero=>intro phi K _ _ _ _ h;simp[kP] at h
  | succ j ih=>
   intro phi K hr hK hb hT h
   have hb':K+8192*(codeN m f:Int)+8192*(codeN m f:Int)*(j:Int)≤900000000:=by
    have e:8192*(codeN m f:Int)*((j+1:Nat):Int)=8192*(codeN m f:Int)*(j:Int)+8192*(codeN m f:Int):=by
     rw[Int.natCast_add,Int.mul_add];simp
    rw[e] at hb;omega
   have hnn:0≤8192*(codeN m f:Int)*(j:Int):=Int.mul_nonneg (by omega) (by omega)
   obtain⟨i1,i2,i3,i4⟩:=aGs (l:=l) hs hf (List.range (codeN m f)) false phi K (fun k hk=>iV.1 hk) hr hK (by rw[List.length_range];omega) hT
   rw[List.length_range] at i1
   rw[kP] at h⊢
   cases hfl:(eG m l f (List.range (codeN m f)) false phi).1 <;> simp only[hfl,aA,aB] at h⊢
   ·obtain⟨e1,e2⟩:=i4 hfl
    have hmax:=qT h
    rw[e1] at hmax⊢
    refine⟨⟨hr.1,fun k=>⟨(hr.2 k).1,?_⟩⟩,hT,fun k hk=>e2 k (iV.2 hk)⟩
    by_cases hk:k<phi.length
    ·have:=aPr (l:=phi++[0]) (eP _ (dU hk))
     rw[getD_some (aT hk)]
     omega
    ·rw[fI (by omega)];decide
   ·exact ih _ (K+8192*(codeN m f:Int)) i1 (by omega) hb' i2 h
 unfold fR at h⊢
 refine rounds _ _ 0 ⟨by simp,fun k=>?_⟩ (eV _) ?_ (fun k hk=>?_) h
 ·by_cases hk:k<codeN m f
  ·rw[cW,List.getElem?_replicate,if_pos hk];exact⟨eV _,eV _⟩
  ·rw[fI (by rw[qE];omega)];exact⟨eV _,eV _⟩
 ·have h1:8192*(codeN m f:Int)≤8192*64:=by omega
  have h2:(((codeN m f+1:Nat)):Int)≤65:=by omega
  have:=Int.mul_le_mul h1 h2 (by omega) (by omega)
  omega
 ·have:(List.replicate (codeN m f) (0:Int)).getD k 0=0:=by
   rw[cW,List.getElem?_replicate]
   split <;> rfl
  omega
end
end Go.Pli

namespace Go.Pli
open Go Go.PM
def dW (ms:List Mt) (f:Int):Int:=(ms.getD f.toNat zMt).2.2.2.2.2.1
def gN (ms:List Mt) (f:Int):List Int:=(ms.getD f.toNat zMt).2.2.2.2.2.2.1
theorem aHG {m:Im} {ms:List Mt} (h:Like m ms) {f g:Int} (hf:inM m f=true) (hg:inM m g=true) (y:Mt):(ms.set f.toNat y).getD g.toNat zMt=if g=f then y else ms.getD g.toNat zMt:=by
 obtain⟨f0,f1⟩:=bD.1 hf
 obtain⟨g0,g1⟩:=bD.1 hg
 have hl:=h.len
 rw[cW,iB,cW]
 by_cases e:g=f
 ·subst e
  rw[if_pos rfl,if_pos rfl,if_pos (by omega)];rfl
 ·rw[if_neg (by omega),if_neg e]
theorem aHC {m:Im} {ms:List Mt} (h:Like m ms) (hn:∀x∈ms,iL x) {f:Int} (hf:inM m f=true):iL (ms.getD f.toNat zMt):=by
 obtain⟨f0,f1⟩:=bD.1 hf
 have hl:=h.len
 have hlt:f.toNat<ms.length:=by omega
 rw[getD_some (aT hlt)]
 exact hn _ (dU hlt)
theorem aHB {ms:List Mt} (hn:∀x∈ms,iL x) {i:Nat} {y:Mt} (hy:iL y):∀x∈ms.set i y,iL x:=fun x hx=>by
 rcases uB hx with h | h
 ·exact hn x h
 ·rw[h];exact hy
theorem aRK {m:Im} {ms ms':List Mt} (h:Like m ms) (h':Like m ms') {i:Ins} (hp:∀g∈bK m i,inM m g=true→dW ms g=dW ms' g):iI (aN m ms) i=iI (aN m ms') i:=by
 have hf:∀{ms:List Mt},Like m ms→(bK (aN m ms) i).filter (inM (aN m ms))=(bK m i).filter (inM m):=fun h=>by
  rw[h.targets]
  congr 1
  funext g
  exact h.inM g
 have hm:((bK m i).filter (inM m)).map (eH (aN m ms))=((bK m i).filter (inM m)).map (eH (aN m ms')):=kA fun g hg=>by
  obtain⟨g1,g2⟩:=lZ.1 hg
  exact hp g g1 g2
 unfold iI
 rw[hf h,hf h',hm]
 rfl
theorem zA {m:Im} {ms:List Mt} (h:Like m ms) (l:List (List Sh)) (f:Int) (pc:Nat):nxs (aN m ms) l f pc=nxs m l f pc:=by
 unfold nxs
 rw[h.step]
theorem aEx {m:Im} {ms ms':List Mt} (h:Like m ms) (h':Like m ms') {f:Int} {pc:Nat} (hp:∀g∈bK m (aG m f (pc:Int)),inM m g=true→dW ms g=dW ms' g):cst (aN m ms) f pc=cst (aN m ms') f pc:=by
 unfold cst
 rw[h.ins,h'.ins]
 exact aRK h h' hp
theorem aH5 {m:Im} {ms ms':List Mt} (h:Like m ms) (h':Like m ms') {l:List (List Sh)} {f:Int} (hp:∀pc,cst (aN m ms) f pc=cst (aN m ms') f pc) {phi:List Int} (H:Lst (aN m ms) l f phi):Lst (aN m ms') l f phi:=by
 have e1:codeN (aN m ms) f=codeN (aN m ms') f:=by rw[h.codeN,h'.codeN]
 have e2:nxs (aN m ms) l f=nxs (aN m ms') l f:=by funext pc;rw[zA h,zA h']
 have e3:cst (aN m ms) f=cst (aN m ms') f:=funext hp
 obtain⟨a,b,c⟩:=H
 rw[e1] at a c
 rw[e2,e3] at b c
 exact⟨a,b,c⟩
theorem aPQ {m:Im} {ms ms':List Mt} (h:Like m ms) (h':Like m ms') (l:List (List Sh)) {f:Int} (hp:∀pc,cst (aN m ms) f pc=cst (aN m ms') f pc):fR (aN m ms) l f=fR (aN m ms') l f:=by
 have e1:codeN (aN m ms) f=codeN (aN m ms') f:=by rw[h.codeN,h'.codeN]
 have hR:∀(q:List Nat) (t:Bool) (phi:List Int),eG (aN m ms) l f q t phi=eG (aN m ms') l f q t phi:=by
  intro q
  induction q with
  | nil=>intro _ _;rfl
  | cons pc q ih=>
   intro t phi
   have hP:jM (aN m ms) l f pc t phi=jM (aN m ms') l f pc t phi:=by rw[aC1,aC1,zA h,zA h',hp]
   rw[eG,eG,hP,ih]
 have hN:∀(j:Nat) (phi:List Int),kP (aN m ms) l f j phi=kP (aN m ms') l f j phi:=by
  intro j
  induction j with
  | zero=>intro _;rfl
  | succ j ih=>intro phi;rw[kP,kP,e1,hR,ih]
 unfold fR
 rw[e1,hN]
section
variable {m:Im} {l:List (List Sh)}
theorem aJj (hs:aK m=true) (hl:fC l=true) {ms0:List Mt} (h0:Like m ms0):∀(q:List Int) (ms:List Mt),(∀f∈q,inM m f=true)→Like m ms→(∀x∈ms,iL x)→(∀g,inM m g=true→dW ms g=dW ms0 g)→
  oA m l q ms=some none∨∃ms1,oA m l q ms=some (some ms1)∧Like m ms1∧(∀x∈ms1,iL x)∧(∀g,inM m g=true→dW ms1 g=dW ms0 g)∧
   (∀g,inM m g=true→g∈q→gN ms1 g=(fR (aN m ms0) l g).1∧(fR (aN m ms0) l g).2.1=true)∧∀g,inM m g=true→g∉q→gN ms1 g=gN ms g
 | [],ms,_,h,hn,hp=> .inr ⟨ms,rfl,h,hn,hp,(fun _ _ h=>(by cases h)),fun _ _ _=>rfl⟩
 | f::q,ms,hq,h,hn,hp=>by
  have hf:=hq f (bS ..)
  have hs1:=h.sane hs hn
  have hf1:inM (aN m ms) f=true:=by rw[h.inM];exact hf
  have hpl:pD (aN m ms) l f=some (fR (aN m ms) l f):=by unfold pD;rw[hs1,hl,hf1];rfl
  have hlk:∀g,fR (aN m ms) l g=fR (aN m ms0) l g:=fun g=>aPQ h h0 l fun pc=>aEx h h0 fun x _ hx=>hp x hx
  rw[oA,hpl,aJ]
  cases hfl:(fR (aN m ms) l f).2.1
  ·exact .inl rfl
  simp only[bA,aB]
  have hL:=aIp hs1 hf1 hfl
  have hstrip:strip (sI (ms.getD f.toNat zMt) (fR (aN m ms) l f).1)=strip (ms.getD f.toNat zMt):=aLl _ _
  have h2:Like m (ms.set f.toNat (sI (ms.getD f.toNat zMt) (fR (aN m ms) l f).1)):=h.set hstrip
  have hnum:=aHC h hn hf
  have hn2:iL (sI (ms.getD f.toNat zMt) (fR (aN m ms) l f).1):=by
   refine⟨hnum.1,?_,fun x hx=>?_⟩
   ·show (fR (aN m ms) l f).1.length=(ms.getD f.toNat zMt).2.2.2.1.length
    exact hL.rg.1
   ·obtain⟨i,hi,rfl⟩:=List.mem_iff_getElem.1 (show x∈(fR (aN m ms) l f).1 from hx)
    have:=hL.rg.2 i
    rw[getD_some (aT hi)] at this
    exact this
  have hget:=fun g (hg:inM m g=true)=>aHG h hf hg (sI (ms.getD f.toNat zMt) (fR (aN m ms) l f).1)
  have hp2:∀g,inM m g=true→dW (ms.set f.toNat (sI (ms.getD f.toNat zMt) (fR (aN m ms) l f).1)) g=dW ms0 g:=fun g hg=>by
   rw[←hp g hg]
   unfold dW
   rw[hget g hg]
   split
   ·rename_i e;subst e;rfl
   ·rfl
  rcases aJj hs hl h0 q _ (fun x hx=>hq x (bI _ hx)) h2 (aHB hn hn2) hp2 with e | ⟨ms1,e,i1,i2,i3,i4,i5⟩
  ·exact .inl e
  ·refine .inr ⟨ms1,e,i1,i2,i3,fun g hg hgq=>?_,fun g hg hgq=>?_⟩
   ·by_cases hgq':g∈q
    ·exact i4 g hg hgq'
    ·have hgf:g=f:=(bJ.1 hgq).resolve_right hgq'
     subst hgf
     rw[i5 g hg hgq',←hlk]
     refine⟨?_,hfl⟩
     unfold gN
     rw[hget g hg,if_pos rfl];rfl
   ·have h1:g≠f:=fun e=>hgq (by rw[e];exact bS ..)
    rw[i5 g hg fun hh=>hgq (bI _ hh)]
    unfold gN
    rw[hget g hg,if_neg h1]
theorem aJg (hs:aK m=true) {ed:List (List Int)} {part:List Int}:∀(q:List Int) (ms:List Mt),(∀f∈q,inM m f=true)→Like m ms→(∀x∈ms,iL x)→
  mY ed part q ms=none∨∃ms2,mY ed part q ms=some ms2∧Like m ms2∧(∀x∈ms2,iL x)∧(∀g,inM m g=true→gN ms2 g=gN ms g)∧
   (∀g,inM m g=true→g∈q→dW ms2 g=(gN ms g).getD 0 0∧(jE ed part=true→dW ms2 g=0))∧∀g,inM m g=true→g∉q→dW ms2 g=dW ms g
 | [],ms,_,h,hn=> .inr ⟨ms,rfl,h,hn,fun _ _=>rfl,(fun _ _ h=>(by cases h)),fun _ _ _=>rfl⟩
 | f::q,ms,hq,h,hn=>by
  have hf:=hq f (bS ..)
  have hnum:=aHC h hn hf
  have hcode:0<(ms.getD f.toNat zMt).2.2.2.1.length:=by
   have h1:=(fB hs hf).1
   have h2:(ms.getD f.toNat zMt).2.2.2.1=(aD m f).2.2.2.1:=h.code f
   rw[h2];exact h1
  have hlen:0<(ms.getD f.toNat zMt).2.2.2.2.2.2.1.length:=by rw[hnum.2.1];exact hcode
  have hp:fO ms f=ms.set f.toNat (gZ (ms.getD f.toNat zMt) ((ms.getD f.toNat zMt).2.2.2.2.2.2.1.getD 0 0)):=by
   unfold fO
   rw[aI (show ((ms.getD f.toNat zMt).2.2.2.2.2.2.1.length:Int)>0 by omega),aA]
  have hv:0≤(ms.getD f.toNat zMt).2.2.2.2.2.2.1.getD 0 0∧(ms.getD f.toNat zMt).2.2.2.2.2.2.1.getD 0 0≤4096:=by
   rw[getD_some (aT hlen)]
   exact hnum.2.2 _ (dU hlen)
  have hstrip:strip (gZ (ms.getD f.toNat zMt) ((ms.getD f.toNat zMt).2.2.2.2.2.2.1.getD 0 0))=strip (ms.getD f.toNat zMt):=aLk _ _
  have h2:Like m (fO ms f):=by rw[hp];exact h.set hstrip
  have hn2:iL (gZ (ms.getD f.toNat zMt) ((ms.getD f.toNat zMt).2.2.2.2.2.2.1.getD 0 0)):=⟨hv,hnum.2⟩
  have hn3:∀x∈fO ms f,iL x:=by rw[hp];exact aHB hn hn2
  have hget:∀g,inM m g=true→(fO ms f).getD g.toNat zMt=if g=f then gZ (ms.getD f.toNat zMt) ((ms.getD f.toNat zMt).2.2.2.2.2.2.1.getD 0 0) else ms.getD g.toNat zMt:=fun g hg=>by
   rw[hp];exact aHG h hf hg _
  have hphi:∀g,inM m g=true→gN (fO ms f) g=gN ms g:=fun g hg=>by
   unfold gN
   rw[hget g hg]
   split
   ·rename_i e;subst e;rfl
   ·rfl
  have hpf:dW (fO ms f) f=(gN ms f).getD 0 0:=by
   unfold dW gN
   rw[hget f hf,if_pos rfl];rfl
  rw[mY]
  cases hc:decide (((fO ms f).getD f.toNat zMt).2.2.2.2.2.1>0)&&jE ed part
  rotate_left
  ·exact .inl rfl
  rw[aB]
  rcases aJg hs (ed:=ed) (part:=part) q (fO ms f) (fun x hx=>hq x (bI _ hx)) h2 hn3 with e | ⟨ms2,e,i1,i2,i3,i4,i5⟩
  ·exact .inl e
  ·refine .inr ⟨ms2,e,i1,i2,fun g hg=>by rw[i3 g hg,hphi g hg],fun g hg hgq=>?_,fun g hg hgq=>?_⟩
   ·by_cases hgq':g∈q
    ·have:=i4 g hg hgq'
     rw[hphi g hg] at this
     exact this
    ·have hgf:g=f:=(bJ.1 hgq).resolve_right hgq'
     subst hgf
     rw[i5 g hg hgq']
     refine⟨hpf,fun hcy=>?_⟩
     rw[hcy,uF] at hc
     have h3:¬dW (fO ms g) g>0:=of_decide_eq_false hc
     have h4:0≤dW (fO ms g) g:=by rw[hpf];exact hv.1
     omega
   ·have h1:g≠f:=fun e=>hgq (by rw[e];exact bS ..)
    rw[i5 g hg fun hh=>hgq (bI _ hh)]
    unfold dW
    rw[hget g hg,if_neg h1]
structure Fld (m:Im) (l:List (List Sh)) (pre:List Int) (ms:List Mt):Prop where
 like:Like m ms
 num:∀x∈ms,iL x
 lst:∀g,inM m g=true→g∈pre→Lst (aN m ms) l g (gN ms g)
 pot:∀g,inM m g=true→g∈pre→dW ms g=(gN ms g).getD 0 0
 cyc:∀g,inM m g=true→g∈pre→wy (cM m) g g=true→dW ms g=0
 rest:∀g,inM m g=true→g∉pre→dW ms g=0
theorem aFr (hs:aK m=true) {f:Int} (hf:inM m f=true) {pc:Nat} {g:Int} (hg:g∈bK m (aG m f (pc:Int))):Eg (cM m) f g:=by
 by_cases hp:pc<codeN m f
 ·have hp':sin (pc:Int) (codeN m f:Int)=true:=by simp only[sin,aC,aP];omega
  have hgm:=aAx hs hf hp' g hg
  obtain⟨f0,f1⟩:=bD.1 hf
  obtain⟨g0,g1⟩:=bD.1 hgm
  refine⟨⟨f0,by rw[pV];exact f1⟩,⟨g0,by rw[pV];exact g1⟩,?_⟩
  have hrow:(cM m).getD f.toNat []=(ints m.2.2.2.1.length).filter fun g=>hU m f g:=by
   have hk:f.toNat<m.2.2.2.1.length:=by omega
   unfold cM
   rw[cW,iM]
   have:(ints m.2.2.2.1.length)[f.toNat]? =some f:=by
    rw[aT (by rw[mQ];exact hk)]
    have:=aIB hk (z:=0)
    rw[cW,aT (by rw[mQ];exact hk)] at this
    simp only[Option.getD_some] at this
    rw[this,Int.toNat_of_nonneg f0]
   rw[this];rfl
  rw[hrow,lZ]
  refine⟨kO.2 ⟨g0,g1⟩,?_⟩
  unfold hU
  refine fL.2 ⟨aG m f (pc:Int),?_,by simpa using hg⟩
  unfold aG
  rw[aR,getD_some (aT (show pc<(aD m f).2.2.2.1.length from hp))]
  exact dU _
 ·have:aG m f (pc:Int)=zIns:=by unfold aG;rw[aR,fI (show (aD m f).2.2.2.1.length≤pc by unfold codeN at hp;omega)]
  rw[this] at hg
  have:bK m zIns=[]:=rfl
  rw[this] at hg
  cases hg
theorem aJe (hs:aK m=true) (hl:fC l=true) {r:List (List Int)} (R:RP (cM m) r):∀(ps pre:List (List Int)) (ms:List Mt),r=pre++ps→Fld m l pre.flatten ms→
  nZ m l (cM m) ps ms=some none∨∃ms2,nZ m l (cM m) ps ms=some (some ms2)∧Fld m l r.flatten ms2
 | [],pre,ms,hr,H=>by
  rw[bZ] at hr
  subst hr
  exact .inr ⟨ms,rfl,H⟩
 | p::ps,pre,ms,hr,H=>by
  have hin:∀f∈p,inM m f=true:=fun f hf=>by
   have:=sW R (p:=p) (by rw[hr];simp) hf
   rw[inN,pV] at this
   exact bD.2 this
  have hgo:∀ms',Fld m l (pre++[p]).flatten ms'→nZ m l (cM m) ps ms'=some none∨∃ms2,nZ m l (cM m) ps ms'=some (some ms2)∧Fld m l r.flatten ms2:=
   fun ms' h=>aJe hs hl R ps (pre++[p]) ms' (by rw[hr,cF];rfl) h
  rw[nZ]
  rcases aJj hs hl H.like p ms hin H.like H.num (fun _ _=>rfl) with e | ⟨ms1,e,a1,a2,a3,a4,a5⟩
  ·rw[e];exact .inl rfl
  rw[e,aJ]
  rcases aJg hs (ed:=cM m) (part:=p) p ms1 hin a1 a2 with e | ⟨ms2,e,b1,b2,b3,b4,b5⟩
  ·simp only[e];exact .inl trivial
  simp only[e]
  refine hgo ms2 ?_
  have hs0:=H.like.sane hs H.num
  have apart:∀g,g∈pre.flatten→g∉p:=fun g h1 h2=>aHk R hr h2 h1
  have hmem:∀g,g∈(pre++[p]).flatten↔(g∈pre.flatten∨g∈p):=fun g=>by
   rw[iN,cR];simp
  have keepP:∀g,inM m g=true→g∉p→gN ms2 g=gN ms g∧dW ms2 g=dW ms g:=fun g hg hgp=>by
   rw[b3 g hg,a5 g hg hgp,b5 g hg hgp,a3 g hg]
   exact⟨rfl,rfl⟩
  refine⟨b1,b2,fun g hg hgp=>?_,fun g hg hgp=>?_,fun g hg hgp hw=>?_,fun g hg hgp=>?_⟩
  ·rcases (hmem g).1 hgp with h1 | h1
   ·rw[(keepP g hg (apart g h1)).1]
    refine aH5 H.like b1 (fun pc=>aEx H.like b1 fun x hx hxm=>?_) (H.lst g hg h1)
    have hE:=aFr hs hg hx
    have hxp:x∈pre.flatten:=by
     obtain⟨p',hp',hgp'⟩:=iW.1 h1
     obtain⟨p1,p2,hpp⟩:=List.append_of_mem hp'
     rcases R.clo p1 p' (p2++p::ps) (by rw[hr,hpp];simp) g hgp' x hE with h' | h'
     ·exact iW.2 ⟨p',hp',h'⟩
     ·rw[hpp,iN];exact eP _ h'
    exact (keepP x hxm (apart x hxp)).2.symm
   ·obtain⟨c1,c2⟩:=a4 g hg h1
    rw[b3 g hg,c1]
    refine aH5 H.like b1 (fun pc=>aEx H.like b1 fun x hx hxm=>?_) (aIp hs0 (by rw[H.like.inM];exact hg) c2)
    have hE:=aFr hs hg hx
    rcases R.clo pre p ps hr g h1 x hE with h' | h'
    ·have hcy:jE (cM m) p=true:=by
      unfold jE
      refine fL.2 ⟨g,h1,?_⟩
      simp only[aC,fL,rT]
      refine⟨?_,x,hE.2.2,h'⟩
      simp only[sin,aC,aP]
      exact⟨hE.1.1,hE.1.2⟩
     rw[H.rest x hxm fun hh=>apart x hh h',(b4 x hxm h').2 hcy]
    ·exact (keepP x hxm (apart x h')).2.symm
  ·rcases (hmem g).1 hgp with h1 | h1
   ·obtain⟨k1,k2⟩:=keepP g hg (apart g h1)
    rw[k1,k2];exact H.pot g hg h1
   ·rw[(b4 g hg h1).1,b3 g hg]
  ·rcases (hmem g).1 hgp with h1 | h1
   ·rw[(keepP g hg (apart g h1)).2];exact H.cyc g hg h1 hw
   ·refine (b4 g hg h1).2 ?_
    rw[aRv aRi R hr h1];exact hw
  ·have h1:g∉pre.flatten∧g∉p:=⟨fun h=>hgp ((hmem g).2 (.inl h)),fun h=>hgp ((hmem g).2 (.inr h))⟩
   rw[(keepP g hg h1.2).2];exact H.rest g hg h1.1
structure aS5 (m:Im) (l:List (List Sh)) (ms:List Mt):Prop where
 like:Like m ms
 num:∀x∈ms,iL x
 lst:∀g,inM m g=true→Lst (aN m ms) l g (gN ms g)
 pot:∀g,inM m g=true→dW ms g=(gN ms g).getD 0 0
 cyc:∀g,inM m g=true→wy (cM m) g g=true→dW ms g=0
theorem aOs (hs:aK m=true) (hl:fC l=true):lF m l=some (zIm,false,())∨∃ms,lF m l=some (aN m ms,true,())∧aS5 m l ms:=by
 have htg:=aCB (dF hs).2
 have hed:=aOQ htg
 have h12:=(cV (dF hs).1).methods
 obtain⟨r,hr,R⟩:=aGl (ED:=fE m) (by rw[aDq];omega) fun e he=>(aDp hs he).1
 rw[hed] at R
 have hall:(okL r&&r.all (fun p=>okL p&&p.all (inM m)))=true:=by
  have hfew:=R.few
  rw[pV] at hfew
  simp only[aC,bM]
  refine⟨fD (by omega),fun p hp=>?_⟩
  have hpi:∀x∈p,inM m x=true:=fun x hx=>by
   have:=sW R hp hx
   rw[inN,pV] at this
   exact bD.2 this
  refine⟨fD ?_,hpi⟩
  have:=aDs (a:=p) (b:=ints m.2.2.2.1.length) ((R.srt p hp).imp fun h=>by omega) fun x hx=>kO.2 (bD.1 (hpi x hx))
  rw[mQ] at this
  omega
 have hz:gJ m m.2.2.2.1.length=m.2.2.2.1.map fun x=>gZ x 0:=by unfold gJ;rw[iA,List.drop_length,bZ]
 have hlike:=aE0 m m.2.2.2.1.length
 have hnum:=aEZ hs m.2.2.2.1.length
 rw[hz] at hlike hnum
 have hpot:∀g,inM m g=true→dW (m.2.2.2.1.map fun x=>gZ x 0) g=0:=fun g hg=>by
  obtain⟨g0,g1⟩:=bD.1 hg
  unfold dW
  rw[cW,iM,aT (show g.toNat<m.2.2.2.1.length by omega)]
  rfl
 have hpf:lF m l=(nZ m l (cM m) r (m.2.2.2.1.map fun x=>gZ x 0)).bind fun q=>some (aEo m q):=by
  unfold lF
  rw[hs,aJD hs,hr,hed]
  simp only[aH,aA,aJ,hall]
 rw[hpf]
 rcases aJe hs hl R r [] _ rfl ⟨hlike,hnum,fun _ _ h=>by simp at h,fun _ _ h=>by simp at h,fun _ _ h=>by simp at h,fun g hg _=>hpot g hg⟩ with e | ⟨ms,e,H⟩
 ·rw[e];exact .inl rfl
 ·rw[e]
  have hin:∀g,inM m g=true→g∈r.flatten:=fun g hg=>(R.all g).2 (by rw[inN,pV];exact bD.1 hg)
  exact .inr ⟨ms,rfl,H.like,H.num,fun g hg=>H.lst g hg (hin g hg),fun g hg=>H.pot g hg (hin g hg),fun g hg=>H.cyc g hg (hin g hg)⟩
end
end Go.Pli

namespace Go.Pli
open Go Go.PM
end Go.Pli

namespace Go.Pli
open Go Go.PM
end Go.Pli

namespace Go.Pli
open Go Go.PM
theorem yJ {l:List Int} {n:Int} (hb:lR l=true) (h0:0≤n) (h1:n<9223372036854775808):
  (∃v m:Nat,aCZ l=some ((v:Int),(m:Int),())∧1≤m∧m≤l.length∧l.take m=enc v∧v<128 ^ 5∧(v:Int)≤n∧aEf (l,false,()) n=some ((v:Int),(l.drop m,false,()),()))∨
  (∃(x y:Int) (l':List Int),aCZ l=some (x,y,())∧¬(y>0∧x≤n)∧aEf (l,false,()) n=some (0,(l',true,()),())):=by
 have hbs:lR (l.take 5)=true:=aSD 5 hb
 unfold aEf next aCZ
 simp only[hbs,aA,aB]
 have hw:IntKind.u64.wrap n=n:=by rw[IntKind.wrap_u64];omega
 have hn0:decide (n<0)=false:=bO (by omega)
 cases hd:rG 5 0 0 l with
 | none=>exact .inr ⟨0,0,l,rfl,by omega,rfl⟩
 | some x=>
  obtain⟨y,m,ok⟩:=x
  cases ok with
  | false=>exact .inr ⟨0,0,l.drop m,rfl,by omega,rfl⟩
  | true=>
   obtain⟨v,m',e1,e2,e3,e4,e5,e6,e7⟩:=aJF 5 0 0 l y m hbs hd
   have hy:y=v:=by omega
   have hm:m=m':=by omega
   subst hy;subst hm
   simp only[aJ,bA,aB,hn0,hw]
   by_cases hgt:(y:Int)>n
   ·rw[aI hgt]
    exact .inr ⟨_,_,l.drop m,rfl,by omega,rfl⟩
   ·rw[bO hgt]
    have hw2:IntKind.i64.wrap (y:Int)=y:=w64 (by omega) (by omega)
    refine .inl ⟨y,m,rfl,e3,e4,?_,by omega,by omega,by simp only[aB,hw2]⟩
    rw[e5]
    exact (aJA e6 (by omega)).symm
structure aS9 (s:List Int) (at_:Nat) (bad:Bool) (r:Rd):Prop where
 le:at_≤s.length
 rd:r=(if bad then r.1 else s.drop at_,bad,())
end Go.Pli

namespace Go.Pli
open Go Go.PM
end Go.Pli

namespace Go.Pli
open Go Go.PM
structure Got {α:Type} (o:Option (α×Rd×Unit)) (l:List Int) (b:Bool) (C:α→List Int→Prop):Prop where
 ex:∃x l' bad,o=some (x,(l',bad,()),())∧lR l'=true∧(bad=true∨(b=false∧bad=false∧C x l'))
end Go.Pli

namespace Go.Pli
open Go Go.PM
theorem aDg {α:Type} {f:Nat→Option α} {r:α} (K:Nat) (hK:f K=some r) (h:∀k,f k=none∨f k=some r):pick f=some r:=by
 unfold pick
 have hs:∃k,(f k).isSome:=⟨K,by rw[hK];rfl⟩
 rw[dif_pos hs]
 have:=hs.choose_spec
 rcases h hs.choose with h | h
 ·rw[h] at this;cases this
 ·exact h
theorem aOK:wO ([[]],[1],[1],[true],[0],1,[],()) 0=some (([[]],[1],[1],[false],[],1,[[0]],()),()):=by
 refine aDg 1 (by kernel_rfl) fun k=>?_
 match k with
 | 0=>exact .inl (by kernel_rfl)
 | k+1=>exact .inr (by kernel_rfl)
theorem aOL:wR ([[]],[0],[0],[false],[],0,[],()) 0=some (([[]],[1],[1],[true],[0],1,[],()),()):=by kernel_rfl
theorem aHw (k:Nat) (rec):pT (k+1) ([((0:Int),(0:Int),())],[1],[1],[true],[0],[],([[]],(),(),(),(),1,(),()),()) rec=rec ([],[1],[1],[false],[],[[0]],([[]],(),(),(),(),1,(),()),()):=by
 have h1:∀rec3 rec5,tM ([((0:Int),(0:Int),())],[1],[1],[true],[0],[],([[]],(),(),(),(),1,(),()),()) rec3 ([((0:Int),(0:Int),())],0,[1],()) rec5=(wO ([[]],[1],[1],[true],[0],1,[],()) 0).bind fun r9=>rec3 ([],r9.1.2.1,r9.1.2.2.1,r9.1.2.2.2.1,r9.1.2.2.2.2.1,r9.1.2.2.2.2.2.2.1,(r9.1.1,(),(),(),(),r9.1.2.2.2.2.2.1,(),()),()):=fun rec3 rec5=>by kernel_rfl
 have h2:pT (k+1) ([((0:Int),(0:Int),())],[1],[1],[true],[0],[],([[]],(),(),(),(),1,(),()),()) rec=aE (tM ([((0:Int),(0:Int),())],[1],[1],[true],[0],[],([[]],(),(),(),(),1,(),()),()) rec) (k+1) ([((0:Int),(0:Int),())],0,[1],()):=by kernel_rfl
 rw[h2,aY,h1,aOK]
 rfl
theorem aHx:wQ ([[]],[0],[0],[false],[],0,[],()) 0=some (([[]],[1],[1],[false],[],1,[[0]],()),()):=by
 have h0:∀k,rC k ([[]],[0],[0],[false],[],0,[],()) 0=aE (pT k) k ([((0:Int),(0:Int),())],[1],[1],[true],[0],[],([[]],(),(),(),(),1,(),()),()):=by
  intro k
  unfold rC
  rw[aOL]
  rfl
 have h2:∀k,rC (k+2) ([[]],[0],[0],[false],[],0,[],()) 0=some (([[]],[1],[1],[false],[],1,[[0]],()),()):=by
  intro k
  rw[h0,aY,aHw (k+1),aY]
  kernel_rfl
 refine aDg 2 (h2 0) fun k=>?_
 match k with
 | 0=>rw[h0];exact .inl rfl
 | 1=>rw[h0,aY,aHw 0];exact .inl rfl
 | k+2=>exact .inr (h2 k)
theorem aOJ:jL [[]]=some ([[0]],()):=by
 have h0:∀k,sM k [[]]=aE (yH [[]]) k (0,[0],[0],[false],[],[],([[]],(),(),(),(),0,(),()),()):=fun k=>by kernel_rfl
 have h1:∀rec,yH [[]] (0,[0],[0],[false],[],[],([[]],(),(),(),(),0,(),()),()) rec=(wQ ([[]],[0],[0],[false],[],0,[],()) 0).bind fun r3=>rec (1,r3.1.2.1,r3.1.2.2.1,r3.1.2.2.2.1,r3.1.2.2.2.2.1,r3.1.2.2.2.2.2.2.1,(r3.1.1,(),(),(),(),r3.1.2.2.2.2.2.1,(),()),()):=fun rec=>by kernel_rfl
 have h2:∀k,sM (k+2) [[]]=some ([[0]],()):=by
  intro k
  rw[h0,aY,h1,aHx]
  simp only[aJ]
  rw[aY]
  kernel_rfl
 refine aDg 2 (h2 0) fun k=>?_
 match k with
 | 0=>rw[h0];exact .inl rfl
 | 1=>rw[h0,aY,h1,aHx];exact .inl rfl
 | k+2=>exact .inr (h2 k)
end Go.Pli

namespace Go.Pli
open Go Go.PM
def aw:Im:=([],[],[2],[([],[],(5,0,()),[(1,0,0,()),(23,9,0,()),(5,0,0,()),(33,0,0,())],0,0,[0,0,0,0],())],[],0,0,())
def awl:List (List Sh):=[[(true,[],()),(true,[(1,0,())],()),(true,[(2,0,())],()),(true,[],())]]
def awx:Im:=([],[],[2],[([],[],(5,0,()),[(1,0,0,()),(23,9,0,()),(5,0,0,()),(33,0,0,())],0,10,[10,10,0,0],())],[],0,0,())
theorem aSN:kM aw=some (awl,-1,()):=by kernel_rfl
theorem aSM:lF aw awl=some (awx,true,()):=by
 have h1:fE aw=[[]]:=by kernel_rfl
 have h2:(aK aw&&wT aw)=true:=by kernel_rfl
 unfold lF
 rw[h2,h1,aOJ]
 show _=_
 kernel_rfl
theorem aEI:awake15N=some (true,()):=by
 have h1:pE aw awl=some (0,6,()):=by kernel_rfl
 unfold awake15N
 show (kM aw).bind _=_
 rw[aSN,aJ]
 show (pE aw awl).bind _=_
 rw[h1,aJ]
 show (lF aw awl).bind _=_
 rw[aSM,aJ]
 kernel_rfl
theorem oQ (m:Im):(∃l,xP m=some (l,false,()))∨(aK m=true∧∃l,xP m=some (l,true,())∧fC l=true∧l.length=m.2.2.2.1.length∧∀f,inM m f=true→PF m f (l.getD f.toNat [])):=by
 unfold xP
 cases hsm:uU m
 ·exact .inl ⟨_,rfl⟩
 have hs:aK m=true:=by
  simp only[uU,aC] at hsm
  have:=hsm.2.2.2
  rw[sane_eq' m] at this
  exact aMD (by simpa using this)
 simp only[bA,aB]
 rcases aK8 hs with⟨f,f0,h⟩ | ⟨l,h,hok,hl,P⟩
 ·rw[h]
  refine .inl ⟨[],?_⟩
  simp only[aJ]
  rw[bO (show ¬f<0 by omega)]
 ·rw[h]
  exact .inr ⟨hs,l,rfl,hok,hl,P⟩
where
 sane_eq' (m:Im):sP m=yC m:=rfl
theorem aRI {m:Im} (hs:aK m=true) {f:Int} (hf:inM m f=true) {pc:Nat} (hp:pc<codeN m f):
  kN m (aG m f (pc:Int))=some (nO m (aG m f (pc:Int)),())∧sR m (aG m f (pc:Int))=some (nO m (aG m f (pc:Int)),()):=by
 have hp':sin (pc:Int) (codeN m f:Int)=true:=by simp only[sin,aC,aP];omega
 refine⟨?_,?_⟩
 ·unfold kN
  rw[(dF hs).1,aEy hs hf hp'];rfl
 ·unfold sR
  have:(bK m (aG m f (pc:Int))).all (inM m)=true:=bM.2 (aAx hs hf hp')
  rw[(dF hs).1,this];rfl
end Go.Pli

namespace Go.Pli
open Go Go.PM
def edK (m:Im) (l:List (List Sh)) (f:Int) (N k:Nat):List (List Int):=(List.range N).map fun i=>if i<k then nxs m l f i else[]
theorem wU {m:Im} {l:List (List Sh)} {f:Int} {N k i:Nat} (hi:i<N):(edK m l f N k)[i]? =some (if i<k then nxs m l f i else[]):=by
 unfold edK
 rw[iM,List.getElem?_range hi];rfl
theorem kU {m:Im} {l:List (List Sh)} {f:Int} {N k:Nat}:(edK m l f N k).length=N:=by unfold edK;simp
theorem aRj {m:Im} {l:List (List Sh)} {f:Int} {N:Nat}:edK m l f N 0=List.replicate N []:=by
 refine List.ext_getElem? fun i=>?_
 by_cases hi:i<N
 ·rw[wU hi,List.getElem?_replicate,if_pos hi,if_neg (by omega)]
 ·rw[mA (by rw[kU];omega),mA (by rw[qE];omega)]
theorem aRl {m:Im} {l:List (List Sh)} {f:Int} {N k:Nat} (hk:k<N):(edK m l f N k).set k (nxs m l f k)=edK m l f N (k+1):=by
 refine List.ext_getElem? fun i=>?_
 rw[iB]
 by_cases hi:i<N
 ·rw[wU hi,wU hi,kU]
  by_cases e:k=i
  ·subst e;rw[if_pos rfl,if_pos hk,if_pos (by omega)]
  ·rw[if_neg e]
   by_cases h:i<k
   ·rw[if_pos h,if_pos (by omega)]
   ·rw[if_neg h,if_neg (by omega)]
 ·rw[mA (show (edK m l f N (k+1)).length≤i by rw[kU];omega),mA (show (edK m l f N k).length≤i by rw[kU];omega),if_neg (by omega)]
theorem aRk {m:Im} {l:List (List Sh)} {f:Int} {N k:Nat} (h:nxs m l f k=[]):edK m l f N k=edK m l f N (k+1):=by
 refine List.ext_getElem? fun i=>?_
 by_cases hi:i<N
 ·rw[wU hi,wU hi]
  by_cases e:i=k
  ·subst e;rw[if_neg (by omega),if_pos (by omega),h]
  ·by_cases h:i<k
   ·rw[if_pos h,if_pos (by omega)]
   ·rw[if_neg h,if_neg (by omega)]
 ·rw[mA (by rw[kU];omega),mA (by rw[kU];omega)]
theorem aRm {m:Im} {l:List (List Sh)} {f:Int} {N i j:Nat} (h:oG (edK m l f N N) i j=true):i<N∧(j:Int)∈nxs m l f i:=by
 unfold oG at h
 by_cases hi:i<N
 ·refine⟨hi,?_⟩
  rw[getD_some (wU hi),if_pos hi] at h
  simpa using h
 ·rw[fI (by rw[kU];omega)] at h
  simp at h
theorem aAq {m:Im} {l:List (List Sh)} {f:Int} {ms:List Mt} (hs:aK (aN m ms)=true) (h:Like m ms) (hf:inM m f=true) {phi:List Int} (H:Lst (aN m ms) l f phi):∀(k i j:Nat),k≤codeN m f→bE (edK m l f (codeN m f) (codeN m f)) k i j=true→i<codeN m f∧cst (aN m ms) f i+phi.getD j 0≤phi.getD i 0
 | 0,i,j,_,hw=>by
  obtain⟨hi,hj⟩:=aRm hw
  have:=H.fxd i (by rw[h.codeN];exact hi) (j:Int) (by rw[zA h];exact hj)
  rw[aR] at this
  exact⟨hi,this⟩
 | k+1,i,j,hk,hw=>by
  rw[bE,eQ,aC] at hw
  rcases hw with hw | ⟨h1,h2⟩
  ·exact aAq hs h hf H k i j (by omega) hw
  ·obtain⟨a1,a2⟩:=aAq hs h hf H k i k (by omega) h1
   obtain⟨b1,b2⟩:=aAq hs h hf H k k j (by omega) h2
   have hc:=aJL hs (f:=f) (by rw[h.inM];exact hf) (pc:=k) (by rw[h.codeN];exact b1)
   exact⟨a1,by omega⟩
theorem aH3 {n:Nat} {F:Nat→Nat→Bool} {i j:Nat} (hi:i<n) (hj:j<n):((dD n F).getD i []).getD j false=F i j∧(dD n F).length=n∧((dD n F).getD i []).length=n:=by
 have h1:(dD n F)[i]? =some ((List.range n).map fun j=>F i j):=by
  unfold dD
  rw[iM,List.getElem?_range hi];rfl
 have h2:((List.range n).map fun j=>F i j)[j]? =some (F i j):=by
  rw[iM,List.getElem?_range hj];rfl
 rw[getD_some h1]
 exact⟨getD_some h2,by unfold dD;simp,by simp⟩
theorem aOl (m:Im):∃k,aDe k m=some (true,()):=by
 refine⟨1001,?_⟩
 unfold aDe
 rcases oQ m with⟨l,h⟩ | ⟨hs,l,h,hok,hl,P⟩
 ·rw[h,aEI];rfl
 rw[h]
 simp only[aJ,bA,aB]
 rcases aOs hs hok with e | ⟨ms,e,H⟩
 ·rw[e,aEI];rfl
 rw[e]
 simp only[aJ,bA,aB]
 have h12:=(cV (dF hs).1).methods
 have hlen:ms.length=m.2.2.2.1.length:=H.like.len
 have hlen':(aN m ms).2.2.2.1.length=m.2.2.2.1.length:=hlen
 have hsX:=H.like.sane hs H.num
 have he:vD m=some (cM m,()):=by unfold vD;rw[(dF hs).1];rfl
 have hw:oY (cM m)=some (dD (cM m).length (bE (cM m) (cM m).length),()):=by unfold oY;rw[aRh (dF hs).1];rfl
 rw[hlen',bne_self_eq_false,aB,he,aJ,hw,aJ]
 have aI1:∀g:Int,(aN m ms).2.2.2.1.getD g.toNat zMt=aD (aN m ms) g:=fun _=>rfl
 refine nU (L:=aA8 m 1001 (l,true,()) (aN m ms,true,()) (dD (cM m).length (bE (cM m) (cM m).length),())) (n:=m.2.2.2.1.length) (st:=fun k=>((k:Int),())) (fun f rec hf=>?_) (fun rec=>?_) 1001 (by omega)
 ·have hfm:inM m (f:Int)=true:=bD.2 ⟨by omega,by omega⟩
  have hfX:inM (aN m ms) (f:Int)=true:=by rw[H.like.inM];exact hfm
  have hc:=fB hs hfm
  have hP:=P (f:Int) hfm
  have fX:(aN m ms).2.2.2.1.getD f zMt=aD (aN m ms) (f:Int):=rfl
  have fold3:(aD (aN m ms) (f:Int)).2.2.2.1.length=codeN m (f:Int):=H.like.codeN (f:Int)
  have e0:decide ((0:Int)≤(codeN m (f:Int):Int))=true:=aI (by omega)
  have e1:decide ((codeN m (f:Int):Int)<(rowMax:Int))=true:=aI (by simp only[rowMax];omega)
  have e2:decide ((codeN m (f:Int):Int)≤(codeN m (f:Int):Int))=true:=aI (by omega)
  have hll:(l.getD f []).length=codeN m (f:Int):=by have:=hP.gd.len;rwa [aR] at this
  have dl:decide ((f:Int)<(l.length:Int))=true:=by rw[hl];exact dlt hf
  rw[aA8]
  simp only[hlen',dlt hf,dge,aH,aA,aR,fX,fold3,e0,e1,e2]
  rw[←aRj (m:=m) (l:=l) (f:=(f:Int))]
  refine nU (L:=aA9 m 1001 (l,true,()) (aN m ms,true,()) (dD (cM m).length (bE (cM m) (cM m).length),()) ((f:Int),()) rec) (n:=codeN m (f:Int)) (st:=fun k=>((k:Int),edK m l (f:Int) (codeN m (f:Int)) k,())) (fun pc rec10 hpc=>?_) (fun rec10=>?_) 1001 (by omega)
  ·have hst:pA m (f:Int) (pc:Int) (cE l (f:Int) (pc:Int)).2.1=some (aO m (f:Int) (pc:Int) (cE l (f:Int) (pc:Int)).2.1):=by unfold pA;rw[hs,aCN hok];rfl
   have hsb:(l.getD f []).getD pc zSh=cE l (f:Int) (pc:Int):=by unfold cE;rw[aR,aR]
   have hw2:=bB hpc (show codeN m (f:Int)≤lenMax by simp only[lenMax];omega)
   rw[aA9]
   simp only[kU,dlt hpc,dge,dl,aH,aA,aR,hll,hsb]
   cases h1:(cE l (f:Int) (pc:Int)).1
   ·have hn:nxs m l (f:Int) pc=[]:=by unfold nxs;rw[h1];rfl
    simp only[aB,hw2]
    rw[aRk hn]
   ·have hn:nxs m l (f:Int) pc=(aO m (f:Int) (pc:Int) (cE l (f:Int) (pc:Int)).2.1).2.1:=by unfold nxs;rw[h1];rfl
    simp only[aA,hst,aJ,hw2]
    rw[←hn,aRl hpc]
  ·have hsm:sE (edK m l (f:Int) (codeN m (f:Int)) (codeN m (f:Int)))=true:=by
    unfold sE
    rw[kU,aC,Nat.ble_eq,bM]
    refine⟨by omega,fun e he=>?_⟩
    unfold edK at he
    obtain⟨i,-,rfl⟩:=eZ.1 he
    rw[Nat.ble_eq]
    split
    ·have:(nxs m l (f:Int) i).length≤2:=aHA
     omega
    ·simp
   have hways:oY (edK m l (f:Int) (codeN m (f:Int)) (codeN m (f:Int)))=some (dD (codeN m (f:Int)) (bE (edK m l (f:Int) (codeN m (f:Int)) (codeN m (f:Int))) (codeN m (f:Int))),()):=by
    unfold oY
    rw[hsm,kU];rfl
   rw[aA9]
   simp only[kU,bH,aB,hways,aJ]
   refine nU (L:=aBa (aN m ms,true,()) (dD (cM m).length (bE (cM m) (cM m).length),()) ((f:Int),()) rec ((codeN m (f:Int):Int),edK m l (f:Int) (codeN m (f:Int)) (codeN m (f:Int)),()) (dD (codeN m (f:Int)) (bE (edK m l (f:Int) (codeN m (f:Int)) (codeN m (f:Int))) (codeN m (f:Int))),())) (n:=codeN m (f:Int)) (st:=fun k=>((k:Int),())) (fun pc rec14 hpc=>?_) (fun rec14=>?_) 1001 (by omega)
   ·obtain⟨g1,g2,g3⟩:=aH3 (F:=bE (edK m l (f:Int) (codeN m (f:Int)) (codeN m (f:Int))) (codeN m (f:Int))) hpc hpc
    have hpX:pc<codeN (aN m ms) (f:Int):=by rw[H.like.codeN];exact hpc
    obtain⟨-,c2⟩:=aRI hsX hfX hpX
    have hw2:=bB hpc (show codeN m (f:Int)≤lenMax by simp only[lenMax];omega)
    have fX2:(aD (aN m ms) (f:Int)).2.2.2.1.getD pc zIns=aG (aN m ms) (f:Int) (pc:Int):=rfl
    rw[aBa]
    simp only[kU,dlt hpc,dge,g2,aR,g3,aH,aA,g1,hlen',dlt hf,fX,fold3]
    cases hway:bE (edK m l (f:Int) (codeN m (f:Int)) (codeN m (f:Int))) (codeN m (f:Int)) pc pc
    ·simp only[aB,hw2]
    ·have hlow:=(aAq hsX H.like hfm (H.lst (f:Int) hfm) _ pc pc (aW _) hway).2
     have hpp:sin (pc:Int) (codeN (aN m ms) (f:Int):Int)=true:=by simp only[sin,aC,aP];omega
     have hz:¬nO (aN m ms) (aG (aN m ms) (f:Int) (pc:Int))>0:=by
      rw[←aEy hsX hfX hpp]
      unfold cst at hlow
      omega
     simp only[aA,fX2,c2,aJ,bO hz,aB,hw2]
   ·have hfe:f<(cM m).length:=by rw[pV];exact hf
    obtain⟨g1,g2,g3⟩:=aH3 (F:=bE (cM m) (cM m).length) hfe hfe
    have hw2:=bB hf (show _≤lenMax by simp only[lenMax];omega)
    rw[aBa]
    simp only[kU,bH,aB,g2,dge,dlt hfe,aH,aA,aR,g3,g1,hlen',dlt hf,fX]
    cases hwy:bE (cM m) (cM m).length f f
    ·simp only[aB,hw2]
    ·have hz:=H.cyc (f:Int) hfm (by unfold wy;rw[aR];exact hwy)
     have hz':¬(aD (aN m ms) (f:Int)).2.2.2.2.2.1>0:=by
      have:(aD (aN m ms) (f:Int)).2.2.2.2.2.1=dW ms (f:Int):=rfl
      omega
     simp only[aA,bO hz',aB,hw2]
 ·rw[aA8]
  simp only[hlen',bH,aB]
  rw[aEI];rfl
end Go.Pli
