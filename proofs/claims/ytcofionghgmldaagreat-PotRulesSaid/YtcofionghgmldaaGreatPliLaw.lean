/- Whether an image is taken in: it is told of every image; more room does no harm. -/
import Derived.Test.YtcofionghgmldaaGreatPliTar
import Derived.Test.YtcofionghgmldaaGreatPliReach
import Derived.Test.YtcofionghgmldaaGreatPliTy
import Derived.Test.YtcofionghgmldaaGreatPliNt
import Derived.Test.YtcofionghgmldaaGreatPliInst
import Derived.Test.YtcofionghgmldaaGreatPMLaw
import Derived.Test.YtcofionghgmldaaGreatPliL5E
import Derived.KernelRfl
namespace Go.Pli
open Go Go.PM
theorem aIT:∀l:List Int,(dP l).length≤l.length
 | []=>aU _
 | a::l=>by
  have:=aIT l
  unfold dP
  cases h:dP l with
  | nil=>simp
  | cons b r=>
   rw[h] at this
   simp only[aF] at this⊢
   cases a==b <;> simp only[aA,aB,aF] <;> omega
theorem aGC {m:Im} (hs:aM m=true) {e:List Int} (he:e∈gB m):e.length≤1000∧∀x∈e,inM m x=true:=by
 obtain⟨f,hf,rfl⟩:=fJ.1 he
 have hfm:inM m f=true:=cA.2 (pW.1 hf)
 have ht:=aEF (dR hs).2
 constructor
 ·unfold ofB
  rw[hfm]
  simp only[aA]
  have h1:=aIT (eZ (oY m f))
  have h2:=aRD (dR hs).1 hfm
  rw[(rS _).length_eq] at h1
  omega
 ·intro x hx
  exact aED ht hfm ((aOb hfm).1 hx)
theorem aP2 {m:Im} (hs:aM m=true):vR m=true:=by
 simp only[vR,bL,aC]
 intro e he
 obtain⟨h1,h2⟩:=aGC hs he
 exact⟨fB (by omega),h2⟩
theorem aRw {m:Im} (hs:aM m=true) {l:List (List Sh)} (hl:gA l=true):∃r,aD5 m l=some r:=by
 have h12:=(dI (dR hs).1).methods
 have hlen:=aGD m
 obtain⟨r,hr,R⟩:=aMc (ED:=gB m) (by omega) fun e he=>(aGC hs he).1
 have hfew:=R.few
 have hall:(okL r&&r.all (fun p=>okL p&&p.all (inM m)))=true:=by
  simp only[aC,bL]
  refine⟨fB (by omega),fun p hp=>?_⟩
  have h4:∀x∈p,inM m x=true:=fun x hx=>by
   obtain⟨x0,x1⟩:=(R.all x).1 (nP.2 ⟨p,hp,hx⟩)
   exact cA.2 ⟨x0,by omega⟩
  have:=aGF (a:=p) (b:=ints m.2.2.2.1.length) ((R.srt p hp).imp fun h=>by omega) fun x hx=>pW.2 (cA.1 (h4 x hx))
  rw[vH] at this
  exact⟨fB (by omega),h4⟩
 unfold aD5 aIz
 rw[hs,hl,aP2 hs,hr]
 simp only[aI,aA,aJ,hall]
 exact⟨_,rfl⟩
theorem aLs {m:Im} (h:xE m=0):aM m=true:=by
 unfold xE at h
 unfold aM
 cases h1:cB m <;> cases h2:jO m <;> simp only[h1,h2,aA,aB] at h⊢ <;> first | rfl | (exact absurd h (by decide))
structure aRH (m:Im) (t:List (List Sh)×Int×Int×Int×Unit) (n:Int×Int×Int×Unit) (p:Int×Int×Unit):Prop where
 check:tG m=some t
 ok:gA t.1=true
 needs:aD5 m t.1=some n
 pot:oC m t.1=some p
theorem qY {m:Im} (hs:aM m=true):∃t n p,aRH m t n p:=by
 obtain⟨t,h1,h2,-⟩:=aEG hs
 obtain⟨n,h3⟩:=aRw hs h2
 exact⟨t,n,xZ m t.1 (ints m.2.2.2.1.length),h1,h2,h3,by unfold oC;rw[hs,h2];rfl⟩
def aFn (m:Im) (s h:Int):Im:=(m.1,m.2.1,m.2.2.1,m.2.2.2.1,m.2.2.2.2.1,s,h,())
end Go.Pli

namespace Go.Pli
open Go Go.PM
section
variable {m:Im} {l:List (List Sh)} {r:List (List Int)}
structure BV (m:Im) (l:List (List Sh)) (V:List Int):Prop where
 len:V.length=m.2.2.2.1.length
 pos:∀f,inM m f=true→aDC m l f≤ix V f∧0≤ix V f∧ix V f≤100000
 call:∀f g,inM m f=true→vW m f g=true→wO m g.toNat f.toNat=false→aDC m l f+ix V g≤ix V f
 ring:∀f g,inM m f=true→inM m g=true→wO m f.toNat g.toNat=true→wO m g.toNat f.toNat=true→ix V f=ix V g
 way:∀f g,inM m f=true→inM m g=true→wO m f.toNat g.toNat=true→ix V g≤ix V f
end
end Go.Pli

namespace Go.Pli
open Go Go.PM
theorem aJY {m:Im} (hs:aM m=true):(∃f,0≤f∧jS m=some ([],f,()))∨∃l,jS m=some (l,-1,())∧gA l=true∧l.length=m.2.2.2.1.length∧∀f,inM m f=true→PF m f (l.getD f.toNat []):=by
 have go:∀(fs:List Int) (out:List (List Sh)) (r),(∀f∈fs,inM m f=true)→qL m fs out=some r→r.2.2.2.1=0→∃add,r.1=out++add∧add.length=fs.length∧∀k,k<fs.length→PF m (fs.getD k 0) (add.getD k []):=fun fs=>by
  induction fs with
  | nil=>
   intro out r _ hr _
   have:=nL hr
   subst this
   exact⟨[],by simp,rfl,fun _ h=>by cases h⟩
  | cons f fs ih=>
   intro out r hl hr h0
   obtain⟨z,hz,-,-,-,hP⟩:=aGT hs (hl f (cY ..))
   unfold qL at hr
   rw[hz,aJ] at hr
   cases he:z.2.2.1 !=0 <;> simp only[he,aA,aB] at hr
   ·have hz0:z.2.2.1=0:=by simpa using he
    obtain⟨add,a1,a2,a3⟩:=ih (out++[z.1]) r (fun x hx=>hl x (cD _ hx)) hr h0
    refine⟨z.1::add,by rw[a1];simp,by simp[a2],fun k hk=>?_⟩
    cases k with
    | zero=>exact hP hz0
    | succ k=>
     rw[List.getD_cons_succ,List.getD_cons_succ]
     exact a3 k (by simpa using hk)
   ·have hz0:z.2.2.1≠0:=by simpa using he
    have:=nL hr
    subst this
    exact absurd h0 hz0
 obtain⟨r,h1,h2,h3⟩:=aJ5 hs
 obtain⟨r',h1',hok,-⟩:=aEG hs
 rw[h1] at h1'
 have:=nL h1'
 subst this
 by_cases h0:r.2.2.2.1=0
 ·obtain⟨h4,h5⟩:=h2 h0
  unfold tG at h1
  rw[hs] at h1
  simp only[aA] at h1
  obtain⟨add,a1,a2,a3⟩:=go _ _ _ (fun f hf=>cA.2 (pW.1 hf)) h1 h0
  rw[nO] at a1
  rw[vH] at a2 a3
  refine .inr ⟨r.1,h4,hok,h5,fun f hf=>?_⟩
  obtain⟨f0,f1⟩:=cA.1 hf
  have hk:f.toNat<m.2.2.2.1.length:=by omega
  have:=a3 f.toNat hk
  rw[aOL hk,Int.toNat_of_nonneg f0] at this
  rw[a1];exact this
 ·obtain⟨h4,h5⟩:=h3 h0
  exact .inl ⟨_,(cA.1 h5).1,h4⟩
theorem aL4 {l:List Int}:tT l l=true:=by
 unfold tT
 simp
end Go.Pli

namespace Go.Pli
open Go Go.PM
end Go.Pli

namespace Go.Pli
open Go Go.PM
end Go.Pli

namespace Go.Pli
open Go Go.PM
theorem xL {l:List Int} {n:Int} (hb:kT l=true) (h0:0≤n) (h1:n<9223372036854775808):
  (∃v m:Nat,aCo l=some ((v:Int),(m:Int),())∧1≤m∧m≤l.length∧l.take m=enc v∧v<128 ^ 5∧(v:Int)≤n∧aDz (l,false,()) n=some ((v:Int),(l.drop m,false,()),()))∨
  (∃(x y:Int) (l':List Int),aCo l=some (x,y,())∧¬(y>0∧x≤n)∧aDz (l,false,()) n=some (0,(l',true,()),())):=by
 have hbs:kT (l.take 5)=true:=aRg 5 hb
 unfold aDz next aCo
 simp only[hbs,aA,aB]
 have hw:IntKind.u64.wrap n=n:=by rw[IntKind.wrap_u64];omega
 have hn0:decide (n<0)=false:=bH (by omega)
 cases hd:qH 5 0 0 l with
 | none=>exact .inr ⟨0,0,l,rfl,by omega,rfl⟩
 | some x=>
  obtain⟨y,m,ok⟩:=x
  cases ok with
  | false=>exact .inr ⟨0,0,l.drop m,rfl,by omega,rfl⟩
  | true=>
   obtain⟨v,m',e1,e2,e3,e4,e5,e6,e7⟩:=aIy 5 0 0 l y m hbs hd
   have hy:y=v:=by omega
   have hm:m=m':=by omega
   subst hy;subst hm
   simp only[aJ,aZ,aB,hn0,hw]
   by_cases hgt:(y:Int)>n
   ·rw[aG hgt]
    exact .inr ⟨_,_,l.drop m,rfl,by omega,rfl⟩
   ·rw[bH hgt]
    have hw2:IntKind.i64.wrap (y:Int)=y:=w64 (by omega) (by omega)
    refine .inl ⟨y,m,rfl,e3,e4,?_,by omega,by omega,by simp only[aB,hw2]⟩
    rw[e5]
    exact (aIv e6 (by omega)).symm
structure aRM (s:List Int) (at_:Nat) (bad:Bool) (r:Rd):Prop where
 le:at_≤s.length
 rd:r=(if bad then r.1 else s.drop at_,bad,())
end Go.Pli

namespace Go.Pli
open Go Go.PM
end Go.Pli

namespace Go.Pli
open Go Go.PM
structure Got {α:Type} (o:Option (α×Rd×Unit)) (l:List Int) (b:Bool) (C:α→List Int→Prop):Prop where
 ex:∃x l' bad,o=some (x,(l',bad,()),())∧kT l'=true∧(bad=true∨(b=false∧bad=false∧C x l'))
end Go.Pli

namespace Go.Pli
open Go Go.PM
theorem aCD {α:Type} {f:Nat→Option α} {r:α} (K:Nat) (hK:f K=some r) (h:∀k,f k=none∨f k=some r):pick f=some r:=by
 unfold pick
 have hs:∃k,(f k).isSome:=⟨K,by rw[hK];rfl⟩
 rw[dif_pos hs]
 have:=hs.choose_spec
 rcases h hs.choose with h | h
 ·rw[h] at this;cases this
 ·exact h
theorem aNE:vM ([[]],[1],[1],[true],[0],1,[],()) 0=some (([[]],[1],[1],[false],[],1,[[0]],()),()):=by
 refine aCD 1 (by kernel_rfl) fun k=>?_
 match k with
 | 0=>exact .inl (by kernel_rfl)
 | k+1=>exact .inr (by kernel_rfl)
theorem aNF:vP ([[]],[0],[0],[false],[],0,[],()) 0=some (([[]],[1],[1],[true],[0],1,[],()),()):=by kernel_rfl
theorem aGy (k:Nat) (rec):oR (k+1) ([((0:Int),(0:Int),())],[1],[1],[true],[0],[],([[]],(),(),(),(),1,(),()),()) rec=rec ([],[1],[1],[false],[],[[0]],([[]],(),(),(),(),1,(),()),()):=by
 have h1:∀rec3 rec5,sI ([((0:Int),(0:Int),())],[1],[1],[true],[0],[],([[]],(),(),(),(),1,(),()),()) rec3 ([((0:Int),(0:Int),())],0,[1],()) rec5=(vM ([[]],[1],[1],[true],[0],1,[],()) 0).bind fun r9=>rec3 ([],r9.1.2.1,r9.1.2.2.1,r9.1.2.2.2.1,r9.1.2.2.2.2.1,r9.1.2.2.2.2.2.2.1,(r9.1.1,(),(),(),(),r9.1.2.2.2.2.2.1,(),()),()):=fun rec3 rec5=>by kernel_rfl
 have h2:oR (k+1) ([((0:Int),(0:Int),())],[1],[1],[true],[0],[],([[]],(),(),(),(),1,(),()),()) rec=aE (sI ([((0:Int),(0:Int),())],[1],[1],[true],[0],[],([[]],(),(),(),(),1,(),()),()) rec) (k+1) ([((0:Int),(0:Int),())],0,[1],()):=by kernel_rfl
 rw[h2,aY,h1,aNE]
 rfl
theorem aGz:vO ([[]],[0],[0],[false],[],0,[],()) 0=some (([[]],[1],[1],[false],[],1,[[0]],()),()):=by
 have h0:∀k,qD k ([[]],[0],[0],[false],[],0,[],()) 0=aE (oR k) k ([((0:Int),(0:Int),())],[1],[1],[true],[0],[],([[]],(),(),(),(),1,(),()),()):=by
  intro k
  unfold qD
  rw[aNF]
  rfl
 have h2:∀k,qD (k+2) ([[]],[0],[0],[false],[],0,[],()) 0=some (([[]],[1],[1],[false],[],1,[[0]],()),()):=by
  intro k
  rw[h0,aY,aGy (k+1),aY]
  kernel_rfl
 refine aCD 2 (h2 0) fun k=>?_
 match k with
 | 0=>rw[h0];exact .inl rfl
 | 1=>rw[h0,aY,aGy 0];exact .inl rfl
 | k+2=>exact .inr (h2 k)
theorem aND:jR [[]]=some ([[0]],()):=by
 have h0:∀k,rJ k [[]]=aE (xK [[]]) k (0,[0],[0],[false],[],[],([[]],(),(),(),(),0,(),()),()):=fun k=>by kernel_rfl
 have h1:∀rec,xK [[]] (0,[0],[0],[false],[],[],([[]],(),(),(),(),0,(),()),()) rec=(vO ([[]],[0],[0],[false],[],0,[],()) 0).bind fun r3=>rec (1,r3.1.2.1,r3.1.2.2.1,r3.1.2.2.2.1,r3.1.2.2.2.2.1,r3.1.2.2.2.2.2.2.1,(r3.1.1,(),(),(),(),r3.1.2.2.2.2.2.1,(),()),()):=fun rec=>by kernel_rfl
 have h2:∀k,rJ (k+2) [[]]=some ([[0]],()):=by
  intro k
  rw[h0,aY,h1,aGz]
  simp only[aJ]
  rw[aY]
  kernel_rfl
 refine aCD 2 (h2 0) fun k=>?_
 match k with
 | 0=>rw[h0];exact .inl rfl
 | 1=>rw[h0,aY,h1,aGz];exact .inl rfl
 | k+2=>exact .inr (h2 k)
end Go.Pli

namespace Go.Pli
open Go Go.PM
def aw:Im:=([],[],[2],[([],[],(5,0,()),[(1,0,0,()),(23,9,0,()),(5,0,0,()),(33,0,0,())],0,0,[0,0,0,0],())],[],0,0,())
def awl:List (List Sh):=[[(true,[],()),(true,[(1,0,())],()),(true,[(2,0,())],()),(true,[],())]]
def awx:Im:=([],[],[2],[([],[],(5,0,()),[(1,0,0,()),(23,9,0,()),(5,0,0,()),(33,0,0,())],0,10,[10,10,0,0],())],[],0,0,())
theorem aRr:jS aw=some (awl,-1,()):=by kernel_rfl
theorem aRq:rR aw awl=some (awx,true,()):=by
 have h1:gB aw=[[]]:=by kernel_rfl
 have h2:(aM aw&&vR aw)=true:=by kernel_rfl
 unfold rR
 rw[h2,h1,aND]
 show _=_
 kernel_rfl
theorem aD0:awake15N=some (true,()):=by
 have h1:oC aw awl=some (0,6,()):=by kernel_rfl
 unfold awake15N
 show (jS aw).bind _=_
 rw[aRr,aJ]
 show (oC aw awl).bind _=_
 rw[h1,aJ]
 show (rR aw awl).bind _=_
 rw[aRq,aJ]
 kernel_rfl
theorem nS (m:Im):(∃l,wQ m=some (l,false,()))∨(aM m=true∧∃l,wQ m=some (l,true,())∧gA l=true∧l.length=m.2.2.2.1.length∧∀f,inM m f=true→PF m f (l.getD f.toNat [])):=by
 unfold wQ
 cases hsm:tM m
 ·exact .inl ⟨_,rfl⟩
 have hs:aM m=true:=by
  simp only[tM,aC] at hsm
  have:=hsm.2.2.2
  rw[sane_eq' m] at this
  exact aLs (by simpa using this)
 simp only[aZ,aB]
 rcases aJY hs with⟨f,f0,h⟩ | ⟨l,h,hok,hl,P⟩
 ·rw[h]
  refine .inl ⟨[],?_⟩
  simp only[aJ]
  rw[bH (show ¬f<0 by omega)]
 ·rw[h]
  exact .inr ⟨hs,l,rfl,hok,hl,P⟩
where
 sane_eq' (m:Im):rM m=xE m:=rfl
theorem aQn {m:Im} (hs:aM m=true) {f:Int} (hf:inM m f=true) {pc:Nat} (hp:pc<codeN m f):
  jT m (aH m f (pc:Int))=some (uG m (aH m f (pc:Int)),())∧pR m (aH m f (pc:Int))=some (uG m (aH m f (pc:Int)),()):=by
 have hp':sin (pc:Int) (codeN m f:Int)=true:=by simp only[sin,aC,aP];omega
 refine⟨?_,?_⟩
 ·unfold jT
  rw[(dR hs).1,aII hs hf hp'];rfl
 ·unfold pR
  have:(cO m (aH m f (pc:Int))).all (inM m)=true:=bL.2 (aEE hs hf hp')
  rw[(dR hs).1,this];rfl
theorem aCi {n a b c:Int} (h0:0≤n) (h1:n<1000000) (h2:a<n) (h3:b<n):pO n a b c=some (cU n a b c,()):=by
 unfold pO
 rw[aG h0,aG h2,aG h3]
 have:Nat.blt n.toNat 1000000=true:=by rw[eS];omega
 rw[this];rfl
theorem aLw {q:Iq} (h:okL q.1=true):uF q q=some (true,()):=by
 unfold uF aCs
 rw[h,aL4,beq_self_eq_true];rfl
theorem aCm (n a b c:Int):(cU n a b c).1.length=n.toNat:=by
 have h:∀(z:List Int) (a d:Int),(sW z a d).length=z.length:=fun z a d=>by
  unfold sW
  cases decide (a≥0) <;> simp only[aA,aB,dB]
 unfold cU
 rw[h,h,pE]
theorem aLJ {m:Im} {l:List (List Sh)} {f:Int}:∀q∈eC m l f,q.1.length=codeN m f:=by
 intro q hq
 unfold eC at hq
 cases hf:inM m f <;> rw[hf] at hq <;> simp only[aA,aB] at hq
 ·cases hq
 rcases bW.1 hq with rfl | hq
 ·rw[aCm];omega
 ·obtain⟨r,hr,hqr⟩:=nP.1 hq
  obtain⟨k,-,rfl⟩:=fJ.1 hr
  unfold gJ at hqr
  cases h1:(bT l f (k:Int)).1 <;> rw[h1] at hqr <;> simp only[aZ,bY,aA,aB] at hqr
  ·cases hqr
  cases h2:(aN m f (k:Int) (bT l f (k:Int)).2.1).2.2.1 !=0 <;> rw[h2] at hqr <;> simp only[aA,aB] at hqr
  ·rcases cM.1 hqr with hqr | hqr
   ·cases h3:decide ((aN m f (k:Int) (bT l f (k:Int)).2.1).2.1.length=0) <;> rw[h3] at hqr <;> simp only[aA,aB] at hqr
    ·cases hqr
    ·rw[dY.1 hqr,aCm];omega
   ·obtain⟨to,-,rfl⟩:=fJ.1 hqr
    rw[aCm];omega
  ·cases hqr
theorem aEn {m:Im} (hs:aM m=true) {f:Int} (hf:inM m f=true) {k:Nat} (hk:k<codeN m f) {S:St4} (h2:S.2.1.length≤2) (hto:∀to∈S.2.1,0≤to∧to<(codeN m f:Int)) {o:List Iq} {rec:(List Iq×Int×Unit)→Option (Bool×Unit)} {F:Nat} (hF:1000<F) (pre:List Iq) (hpre:pre.length<1000000):
  aE (xY m f S (o,(k:Int),()) rec) F (pre,(0:Int),())=rec (pre++S.2.1.map (fun to=>cU (codeN m f:Int) (k:Int) to (IntKind.i64.wrap (0 - gL m (aH m f (k:Int))))),((k+1:Nat):Int),()):=by
 have hc:=fA hs hf
 have hw:=bG hk (show _≤lenMax by simp only[lenMax];omega)
 have fold:∀g:Int,m.2.2.2.1.getD g.toNat zMt=aD m g:=fun _=>rfl
 have fold3:(aD m f).2.2.2.1.length=codeN m f:=rfl
 have fold2:(aD m f).2.2.2.1.getD k cR=aH m f (k:Int):=rfl
 have hp':sin (k:Int) (codeN m f:Int)=true:=by simp only[sin,aC,aP];omega
 obtain⟨-,c2⟩:=aQn hs hf hk
 have hcost:pR m (aH m f (k:Int))=some (gL m (aH m f (k:Int)),()):=by rw[c2,aII hs hf hp']
 generalize hR:S.2.1.map (fun to=>cU (codeN m f:Int) (k:Int) to (IntKind.i64.wrap (0 - gL m (aH m f (k:Int)))))=R
 have hRl:R.length=S.2.1.length:=by rw[←hR,pF]
 have:=oF (L:=xY m f S (o,(k:Int),()) rec) (n:=S.2.1.length) (st:=fun j=>(pre++R.take j,(j:Int),()))
  (fin:=rec (pre++R,((k+1:Nat):Int),()))
  (fun j rec2 hj=>by
   have hx:S.2.1[j]? =some S.2.1[j]:=aW hj
   obtain⟨t0,t1⟩:=hto _ (eE hj)
   have hxR:R[j]? =some (cU (codeN m f:Int) (k:Int) S.2.1[j] (IntKind.i64.wrap (0 - gL m (aH m f (k:Int))))):=by
    rw[←hR,kC,hx]
    rfl
   have hroom:decide ((pre++R.take j).length+(0+1)<rowMax)=true:=jQ (by rw[aV,bR];omega)
   rw[xY]
   simp only[fold,fold3,aT,fold2,dlt hj,dlt hk,dge,aI,aA,getD_some hx]
   rw[hcost,aJ,aCi (by omega) (by omega) (by omega) (by omega),aJ]
   simp only[aF,bI,hroom,aA,bG hj (show _≤lenMax by simp only[lenMax];omega)]
   rw[pC,hxR,bX]
   rfl)
  (fun rec2=>by
   rw[xY]
   simp only[bO,aB,hw]
   rw[List.take_of_length_le (by omega)]) F (by omega)
 rw[List.take_zero,bS] at this
 exact this
theorem aNg (m:Im) (f:Int):∃k,aCB k m f=some (true,()):=by
 refine⟨1001,?_⟩
 unfold aCB
 rcases nS m with⟨l,h⟩ | ⟨hs,l,h,hok,hl,P⟩
 ·rw[h,aD0];rfl
 have h12:=(dI (dR hs).1).methods
 have hg:mP m l f=some (eC m l f,()):=by unfold mP;rw[hs,hok];rfl
 rw[h]
 simp only[aJ,aZ,aB]
 rw[hg,aD0]
 simp only[aJ,aA]
 cases hf:inM m f
 ·have:¬(0≤f∧f<(m.2.2.2.1.length:Int)):=fun hh=>by rw[cA.2 hh] at hf;cases hf
  have he:eC m l f=[]:=by unfold eC;rw[hf];rfl
  rw[he]
  by_cases h0:f<0
  ·rw[aG h0];rfl
  ·rw[bH h0,aG (show f≥(m.2.2.2.1.length:Int) by omega)];rfl
 obtain⟨f0,f1⟩:=cA.1 hf
 have hc:=fA hs hf
 have fold:∀g:Int,m.2.2.2.1.getD g.toNat zMt=aD m g:=fun _=>rfl
 have fold3:(aD m f).2.2.2.1.length=codeN m f:=rfl
 have fold4:(aD m f).2.2.2.2.2.1=eD m f:=rfl
 have hP:=P f hf
 rw[bH (show ¬f<0 by omega),bH (show ¬f≥(m.2.2.2.1.length:Int) by omega),aG f0,aG f1]
 simp only[aA,aB,aI,fold,fold3,fold4]
 rw[aCi (by omega) (by omega) (by omega) (by omega),aJ]
 have hrules:eC m l f=cU (codeN m f:Int) (-1) 0 (eD m f)::((List.range (codeN m f)).map fun k:Nat=>gJ m l f (k:Int)).flatten:=by unfold eC;rw[hf];rfl
 have hlen:(eC m l f).length<1000000:=by
  rw[hrules,aF]
  have key:∀q:List Nat,((q.map fun k:Nat=>gJ m l f (k:Int)).flatten).length≤3*q.length:=by
   intro q
   induction q with
   | nil=>simp
   | cons k q ih=>
    have:=xG m l f (k:Int)
    rw[dH,fV,aV,aF]
    omega
  have:=key (List.range (codeN m f))
  rw[List.length_range] at this
  omega
 have:=uY (L:=aAB m f 1001 (l,true,()) (eC m l f,())) (n:=codeN m f) (B:=3) (st:=fun k out=>(cU (codeN m f:Int) (-1) 0 (eD m f)::out,(k:Int),())) (f:=fun k=>gJ m l f (k:Int))
  (fin:=fun out=>bif ((eC m l f).length:Int) !=(((cU (codeN m f:Int) (-1) 0 (eD m f)::out).length:Nat):Int) then some (false,()) else aE (xX (eC m l f,()) (cU (codeN m f:Int) (-1) 0 (eD m f)::out,(codeN m f:Int),())) 1001 ((0:Int),()))
  (fun k _=>xG ..)
  (fun k out rec hk ho=>by
   have hw:=bG hk (show _≤lenMax by simp only[lenMax];omega)
   have hst:nZ m f (k:Int) (bT l f (k:Int)).2.1=some (aN m f (k:Int) (bT l f (k:Int)).2.1):=by unfold nZ;rw[hs,aCa hok];rfl
   have d1:decide (f<(l.length:Int))=true:=aG (by rw[hl];exact f1)
   have hll:(l.getD f.toNat []).length=codeN m f:=hP.gd.len
   have hsb:(l.getD f.toNat []).getD k zSh=bT l f (k:Int):=rfl
   have hsh:bT l f (k:Int)=sh (l.getD f.toNat []) k:=rfl
   rw[aAB]
   simp only[fold,fold3,dlt hk,aA,aG f0,d1,aI,dge,hll,aT,hsb]
   cases h1:(bT l f (k:Int)).1
   case false=>
    rw[bY,aA,hw]
    simp only[gJ,h1,bY,aA,bS]
   obtain⟨c1,-⟩:=hP.cov k (by rw[←hsh];exact h1)
   rw[←hsh] at c1
   rw[aZ,aB,hst,aJ]
   have h2:(aN m f (k:Int) (bT l f (k:Int)).2.1).2.1.length≤2:=tJ ..
   have hto:=(mF hs c1).2.2.2
   have he:((aN m f (k:Int) (bT l f (k:Int)).2.1).2.2.1 !=0)=false:=by rw[c1];rfl
   have hra:gJ m l f (k:Int)=(bif decide ((aN m f (k:Int) (bT l f (k:Int)).2.1).2.1.length=0) then[cU (codeN m f:Int) (k:Int) (-1) 0] else[])++
     (aN m f (k:Int) (bT l f (k:Int)).2.1).2.1.map fun to=>cU (codeN m f:Int) (k:Int) to (IntKind.i64.wrap (0 - gL m (aH m f (k:Int)))):=by
    unfold gJ
    rw[h1,he];rfl
   rw[hra]
   generalize aN m f (k:Int) (bT l f (k:Int)).2.1=S at h2 hto
   have hroom:decide ((cU (codeN m f:Int) (-1) 0 (eD m f)::out).length+(0+1)<rowMax)=true:=jQ (by rw[aF];omega)
   by_cases hS:S.2.1.length=0
   ·have hb:((S.2.1.length:Int)==0)=true:=by rw[hS];rfl
    rw[hb,aA,aCi (by omega) (by omega) (by omega) (by omega),aG hS,aA]
    simp only[aJ,aF (a:=cU (codeN m f:Int) (k:Int) (-1) 0),bI,hroom,aA]
    rw[aEn hs hf hk h2 hto (by omega) _ (by rw[aV,aF,aF,bI];omega)]
    rw[bX]
    rfl
   ·have hb:((S.2.1.length:Int)==0)=false:=oX.2 (by omega)
    rw[hb,aB,bH hS,aB]
    simp only[aJ,nO]
    rw[aEn hs hf hk h2 hto (by omega) _ (by rw[aF];omega)]
    rfl)
  (fun out rec _=>by
   rw[aAB]
   simp only[fold,fold3,bO,aB]) 1001 (by omega)
 rw[←hrules] at this
 refine this.trans ?_
 rw[bne_self_eq_false,aB]
 refine oF (L:=xX (eC m l f,()) (eC m l f,(codeN m f:Int),())) (n:=(eC m l f).length) (st:=fun k=>((k:Int),())) (fun k rec hk=>?_) (fun rec=>?_) 1001 ?_
 ·have hx:(eC m l f)[k]? =some (eC m l f)[k]:=aW hk
  have hrow:=aLJ _ (eE hk)
  rw[xX]
  simp only[dlt hk,dge,aI,aA,aT,getD_some hx]
  rw[aLw (fB (by rw[hrow];omega))]
  simp only[aJ,aZ,aB,bG hk (show _≤lenMax by simp only[lenMax];omega)]
 ·rw[xX]
  simp only[bO,aB]
  rw[aD0];rfl
 ·have key:∀q:List Nat,((q.map fun k:Nat=>gJ m l f (k:Int)).flatten).length≤3*q.length:=by
   intro q
   induction q with
   | nil=>simp
   | cons k q ih=>
    have:=xG m l f (k:Int)
    rw[dH,fV,aV,aF]
    omega
  have:=key (List.range (codeN m f))
  rw[List.length_range] at this
  rw[hrules,aF]
  omega
end Go.Pli
