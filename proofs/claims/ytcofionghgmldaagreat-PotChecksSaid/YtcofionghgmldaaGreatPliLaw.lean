/- Whether an image is taken in: it is told of every image; more room does no harm. -/
import Derived.Test.YtcofionghgmldaaGreatPliTar
import Derived.Test.YtcofionghgmldaaGreatPliReach
import Derived.Test.YtcofionghgmldaaGreatPliTy
import Derived.Test.YtcofionghgmldaaGreatPliNt
import Derived.Test.YtcofionghgmldaaGreatPliInst
import Derived.Test.YtcofionghgmldaaGreatPMLaw
import Derived.Test.YtcofionghgmldaaGreatPliL5E
import Derived.KernelRfl
namespace Go.Pli
open Go Go.PM
theorem aIZ:∀l:List Int,(dT l).length≤l.length
 | []=>aV _
 | a::l=>by
  have:=aIZ l
  unfold dT
  cases h:dT l with
  | nil=>simp
  | cons b r=>
   rw[h] at this
   simp only[aF] at this⊢
   cases a==b <;> simp only[aA,aB,aF] <;> omega
theorem aGG {m:Im} (hs:aK m=true) {e:List Int} (he:e∈gB m):e.length≤1000∧∀x∈e,inM m x=true:=by
 obtain⟨f,hf,rfl⟩:=fU.1 he
 have hfm:inM m f=true:=bS.2 (kP.1 hf)
 have ht:=aED (dL hs).2
 constructor
 ·unfold ofB
  rw[hfm]
  simp only[aA]
  have h1:=aIZ (fB (pD m f))
  have h2:=aRI (dL hs).1 hfm
  rw[(sB _).length_eq] at h1
  omega
 ·intro x hx
  exact aEC ht hfm ((aOe hfm).1 hx)
theorem aP7 {m:Im} (hs:aK m=true):vY m=true:=by
 simp only[vY,bG,aC]
 intro e he
 obtain⟨h1,h2⟩:=aGG hs he
 exact⟨fD (by omega),h2⟩
theorem aRB {m:Im} (hs:aK m=true) {l:List (List Sh)} (hl:fC l=true):∃r,aD7 m l=some r:=by
 have h12:=(dA (dL hs).1).methods
 have hlen:=aGH m
 obtain⟨r,hr,R⟩:=aMf (ED:=gB m) (by omega) fun e he=>(aGG hs he).1
 have hfew:=R.few
 have hall:(okL r&&r.all (fun p=>okL p&&p.all (inM m)))=true:=by
  simp only[aC,bG]
  refine⟨fD (by omega),fun p hp=>?_⟩
  have h4:∀x∈p,inM m x=true:=fun x hx=>by
   obtain⟨x0,x1⟩:=(R.all x).1 (pJ.2 ⟨p,hp,hx⟩)
   exact bS.2 ⟨x0,by omega⟩
  have:=aGJ (a:=p) (b:=ints m.2.2.2.1.length) ((R.srt p hp).imp fun h=>by omega) fun x hx=>kP.2 (bS.1 (h4 x hx))
  rw[oP] at this
  exact⟨fD (by omega),h4⟩
 unfold aD7 aIG
 rw[hs,hl,aP7 hs,hr]
 simp only[aI,aA,aJ,hall]
 exact⟨_,rfl⟩
theorem aLD {m:Im} (h:xK m=0):aK m=true:=by
 unfold xK at h
 unfold aK
 cases h1:cC m <;> cases h2:jP m <;> simp only[h1,h2,aA,aB] at h⊢ <;> first | rfl | (exact absurd h (by decide))
structure aRM (m:Im) (t:List (List Sh)×Int×Int×Int×Unit) (n:Int×Int×Int×Unit) (p:Int×Int×Unit):Prop where
 check:tU m=some t
 ok:fC t.1=true
 needs:aD7 m t.1=some n
 pot:kM m t.1=some p
theorem rG {m:Im} (hs:aK m=true):∃t n p,aRM m t n p:=by
 obtain⟨t,h1,h2,-⟩:=aEE hs
 obtain⟨n,h3⟩:=aRB hs h2
 exact⟨t,n,pW m t.1 (ints m.2.2.2.1.length),h1,h2,h3,by unfold kM;rw[hs,h2];rfl⟩
def aFn (m:Im) (s h:Int):Im:=(m.1,m.2.1,m.2.2.1,m.2.2.2.1,m.2.2.2.2.1,s,h,())
end Go.Pli

namespace Go.Pli
open Go Go.PM
section
variable {m:Im} {l:List (List Sh)} {r:List (List Int)}
structure BV (m:Im) (l:List (List Sh)) (V:List Int):Prop where
 len:V.length=m.2.2.2.1.length
 pos:∀f,inM m f=true→aDF m l f≤ix V f∧0≤ix V f∧ix V f≤100000
 call:∀f g,inM m f=true→wD m f g=true→wU m g.toNat f.toNat=false→aDF m l f+ix V g≤ix V f
 ring:∀f g,inM m f=true→inM m g=true→wU m f.toNat g.toNat=true→wU m g.toNat f.toNat=true→ix V f=ix V g
 way:∀f g,inM m f=true→inM m g=true→wU m f.toNat g.toNat=true→ix V g≤ix V f
end
end Go.Pli

namespace Go.Pli
open Go Go.PM
theorem aJ8 {m:Im} (hs:aK m=true):(∃f,0≤f∧jT m=some ([],f,()))∨∃l,jT m=some (l,-1,())∧fC l=true∧l.length=m.2.2.2.1.length∧∀f,inM m f=true→PF m f (l.getD f.toNat []):=by
 have go:∀(fs:List Int) (out:List (List Sh)) (r),(∀f∈fs,inM m f=true)→qN m fs out=some r→r.2.2.2.1=0→∃add,r.1=out++add∧add.length=fs.length∧∀k,k<fs.length→PF m (fs.getD k 0) (add.getD k []):=fun fs=>by
  induction fs with
  | nil=>
   intro out r _ hr _
   have:=lD hr
   subst this
   exact⟨[],by simp,rfl,fun _ h=>by cases h⟩
  | cons f fs ih=>
   intro out r hl hr h0
   obtain⟨z,hz,-,-,-,hP⟩:=aGX hs (hl f (cG ..))
   unfold qN at hr
   rw[hz,aJ] at hr
   cases he:z.2.2.1 !=0 <;> simp only[he,aA,aB] at hr
   ·have hz0:z.2.2.1=0:=by simpa using he
    obtain⟨add,a1,a2,a3⟩:=ih (out++[z.1]) r (fun x hx=>hl x (bO _ hx)) hr h0
    refine⟨z.1::add,by rw[a1];simp,by simp[a2],fun k hk=>?_⟩
    cases k with
    | zero=>exact hP hz0
    | succ k=>
     rw[List.getD_cons_succ,List.getD_cons_succ]
     exact a3 k (by simpa using hk)
   ·have hz0:z.2.2.1≠0:=by simpa using he
    have:=lD hr
    subst this
    exact absurd h0 hz0
 obtain⟨r,h1,h2,h3⟩:=aKg hs
 obtain⟨r',h1',hok,-⟩:=aEE hs
 rw[h1] at h1'
 have:=lD h1'
 subst this
 by_cases h0:r.2.2.2.1=0
 ·obtain⟨h4,h5⟩:=h2 h0
  unfold tU at h1
  rw[hs] at h1
  simp only[aA] at h1
  obtain⟨add,a1,a2,a3⟩:=go _ _ _ (fun f hf=>bS.2 (kP.1 hf)) h1 h0
  rw[pI] at a1
  rw[oP] at a2 a3
  refine .inr ⟨r.1,h4,hok,h5,fun f hf=>?_⟩
  obtain⟨f0,f1⟩:=bS.1 hf
  have hk:f.toNat<m.2.2.2.1.length:=by omega
  have:=a3 f.toNat hk
  rw[aHE hk,Int.toNat_of_nonneg f0] at this
  rw[a1];exact this
 ·obtain⟨h4,h5⟩:=h3 h0
  exact .inl ⟨_,(bS.1 h5).1,h4⟩
end Go.Pli

namespace Go.Pli
open Go Go.PM
end Go.Pli

namespace Go.Pli
open Go Go.PM
end Go.Pli

namespace Go.Pli
open Go Go.PM
theorem xQ {l:List Int} {n:Int} (hb:kY l=true) (h0:0≤n) (h1:n<9223372036854775808):
  (∃v m:Nat,aCt l=some ((v:Int),(m:Int),())∧1≤m∧m≤l.length∧l.take m=enc v∧v<128 ^ 5∧(v:Int)≤n∧aDC (l,false,()) n=some ((v:Int),(l.drop m,false,()),()))∨
  (∃(x y:Int) (l':List Int),aCt l=some (x,y,())∧¬(y>0∧x≤n)∧aDC (l,false,()) n=some (0,(l',true,()),())):=by
 have hbs:kY (l.take 5)=true:=aRm 5 hb
 unfold aDC next aCt
 simp only[hbs,aA,aB]
 have hw:IntKind.u64.wrap n=n:=by rw[IntKind.wrap_u64];omega
 have hn0:decide (n<0)=false:=bA (by omega)
 cases hd:qJ 5 0 0 l with
 | none=>exact .inr ⟨0,0,l,rfl,by omega,rfl⟩
 | some x=>
  obtain⟨y,m,ok⟩:=x
  cases ok with
  | false=>exact .inr ⟨0,0,l.drop m,rfl,by omega,rfl⟩
  | true=>
   obtain⟨v,m',e1,e2,e3,e4,e5,e6,e7⟩:=aIF 5 0 0 l y m hbs hd
   have hy:y=v:=by omega
   have hm:m=m':=by omega
   subst hy;subst hm
   simp only[aJ,aY,aB,hn0,hw]
   by_cases hgt:(y:Int)>n
   ·rw[aG hgt]
    exact .inr ⟨_,_,l.drop m,rfl,by omega,rfl⟩
   ·rw[bA hgt]
    have hw2:IntKind.i64.wrap (y:Int)=y:=w64 (by omega) (by omega)
    refine .inl ⟨y,m,rfl,e3,e4,?_,by omega,by omega,by simp only[aB,hw2]⟩
    rw[e5]
    exact (aIA e6 (by omega)).symm
structure aRR (s:List Int) (at_:Nat) (bad:Bool) (r:Rd):Prop where
 le:at_≤s.length
 rd:r=(if bad then r.1 else s.drop at_,bad,())
end Go.Pli

namespace Go.Pli
open Go Go.PM
end Go.Pli

namespace Go.Pli
open Go Go.PM
structure Got {α:Type} (o:Option (α×Rd×Unit)) (l:List Int) (b:Bool) (C:α→List Int→Prop):Prop where
 ex:∃x l' bad,o=some (x,(l',bad,()),())∧kY l'=true∧(bad=true∨(b=false∧bad=false∧C x l'))
end Go.Pli

namespace Go.Pli
open Go Go.PM
theorem aCG {α:Type} {f:Nat→Option α} {r:α} (K:Nat) (hK:f K=some r) (h:∀k,f k=none∨f k=some r):pick f=some r:=by
 unfold pick
 have hs:∃k,(f k).isSome:=⟨K,by rw[hK];rfl⟩
 rw[dif_pos hs]
 have:=hs.choose_spec
 rcases h hs.choose with h | h
 ·rw[h] at this;cases this
 ·exact h
theorem aNI:vT ([[]],[1],[1],[true],[0],1,[],()) 0=some (([[]],[1],[1],[false],[],1,[[0]],()),()):=by
 refine aCG 1 (by kernel_rfl) fun k=>?_
 match k with
 | 0=>exact .inl (by kernel_rfl)
 | k+1=>exact .inr (by kernel_rfl)
theorem aNJ:vW ([[]],[0],[0],[false],[],0,[],()) 0=some (([[]],[1],[1],[true],[0],1,[],()),()):=by kernel_rfl
theorem aGB (k:Nat) (rec):oX (k+1) ([((0:Int),(0:Int),())],[1],[1],[true],[0],[],([[]],(),(),(),(),1,(),()),()) rec=rec ([],[1],[1],[false],[],[[0]],([[]],(),(),(),(),1,(),()),()):=by
 have h1:∀rec3 rec5,sR ([((0:Int),(0:Int),())],[1],[1],[true],[0],[],([[]],(),(),(),(),1,(),()),()) rec3 ([((0:Int),(0:Int),())],0,[1],()) rec5=(vT ([[]],[1],[1],[true],[0],1,[],()) 0).bind fun r9=>rec3 ([],r9.1.2.1,r9.1.2.2.1,r9.1.2.2.2.1,r9.1.2.2.2.2.1,r9.1.2.2.2.2.2.2.1,(r9.1.1,(),(),(),(),r9.1.2.2.2.2.2.1,(),()),()):=fun rec3 rec5=>by kernel_rfl
 have h2:oX (k+1) ([((0:Int),(0:Int),())],[1],[1],[true],[0],[],([[]],(),(),(),(),1,(),()),()) rec=aE (sR ([((0:Int),(0:Int),())],[1],[1],[true],[0],[],([[]],(),(),(),(),1,(),()),()) rec) (k+1) ([((0:Int),(0:Int),())],0,[1],()):=by kernel_rfl
 rw[h2,aX,h1,aNI]
 rfl
theorem aGC:vV ([[]],[0],[0],[false],[],0,[],()) 0=some (([[]],[1],[1],[false],[],1,[[0]],()),()):=by
 have h0:∀k,qF k ([[]],[0],[0],[false],[],0,[],()) 0=aE (oX k) k ([((0:Int),(0:Int),())],[1],[1],[true],[0],[],([[]],(),(),(),(),1,(),()),()):=by
  intro k
  unfold qF
  rw[aNJ]
  rfl
 have h2:∀k,qF (k+2) ([[]],[0],[0],[false],[],0,[],()) 0=some (([[]],[1],[1],[false],[],1,[[0]],()),()):=by
  intro k
  rw[h0,aX,aGB (k+1),aX]
  kernel_rfl
 refine aCG 2 (h2 0) fun k=>?_
 match k with
 | 0=>rw[h0];exact .inl rfl
 | 1=>rw[h0,aX,aGB 0];exact .inl rfl
 | k+2=>exact .inr (h2 k)
theorem aNH:jS [[]]=some ([[0]],()):=by
 have h0:∀k,rQ k [[]]=aE (xP [[]]) k (0,[0],[0],[false],[],[],([[]],(),(),(),(),0,(),()),()):=fun k=>by kernel_rfl
 have h1:∀rec,xP [[]] (0,[0],[0],[false],[],[],([[]],(),(),(),(),0,(),()),()) rec=(vV ([[]],[0],[0],[false],[],0,[],()) 0).bind fun r3=>rec (1,r3.1.2.1,r3.1.2.2.1,r3.1.2.2.2.1,r3.1.2.2.2.2.1,r3.1.2.2.2.2.2.2.1,(r3.1.1,(),(),(),(),r3.1.2.2.2.2.2.1,(),()),()):=fun rec=>by kernel_rfl
 have h2:∀k,rQ (k+2) [[]]=some ([[0]],()):=by
  intro k
  rw[h0,aX,h1,aGC]
  simp only[aJ]
  rw[aX]
  kernel_rfl
 refine aCG 2 (h2 0) fun k=>?_
 match k with
 | 0=>rw[h0];exact .inl rfl
 | 1=>rw[h0,aX,h1,aGC];exact .inl rfl
 | k+2=>exact .inr (h2 k)
end Go.Pli

namespace Go.Pli
open Go Go.PM
def aw:Im:=([],[],[2],[([],[],(5,0,()),[(1,0,0,()),(23,9,0,()),(5,0,0,()),(33,0,0,())],0,0,[0,0,0,0],())],[],0,0,())
def awl:List (List Sh):=[[(true,[],()),(true,[(1,0,())],()),(true,[(2,0,())],()),(true,[],())]]
def awx:Im:=([],[],[2],[([],[],(5,0,()),[(1,0,0,()),(23,9,0,()),(5,0,0,()),(33,0,0,())],0,10,[10,10,0,0],())],[],0,0,())
theorem aRw:jT aw=some (awl,-1,()):=by kernel_rfl
theorem aRv:sA aw awl=some (awx,true,()):=by
 have h1:gB aw=[[]]:=by kernel_rfl
 have h2:(aK aw&&vY aw)=true:=by kernel_rfl
 unfold sA
 rw[h2,h1,aNH]
 show _=_
 kernel_rfl
theorem aJM:awake15N=some (true,()):=by
 have h1:kM aw awl=some (0,6,()):=by kernel_rfl
 unfold awake15N
 show (jT aw).bind _=_
 rw[aRw,aJ]
 show (kM aw awl).bind _=_
 rw[h1,aJ]
 show (sA aw awl).bind _=_
 rw[aRv,aJ]
 kernel_rfl
theorem nY (m:Im):(∃l,wW m=some (l,false,()))∨(aK m=true∧∃l,wW m=some (l,true,())∧fC l=true∧l.length=m.2.2.2.1.length∧∀f,inM m f=true→PF m f (l.getD f.toNat [])):=by
 unfold wW
 cases hsm:tZ m
 ·exact .inl ⟨_,rfl⟩
 have hs:aK m=true:=by
  simp only[tZ,aC] at hsm
  have:=hsm.2.2.2
  rw[sane_eq' m] at this
  exact aLD (by simpa using this)
 simp only[aY,aB]
 rcases aJ8 hs with⟨f,f0,h⟩ | ⟨l,h,hok,hl,P⟩
 ·rw[h]
  refine .inl ⟨[],?_⟩
  simp only[aJ]
  rw[bA (show ¬f<0 by omega)]
 ·rw[h]
  exact .inr ⟨hs,l,rfl,hok,hl,P⟩
where
 sane_eq' (m:Im):rT m=xK m:=rfl
theorem aGg {m:Im} (hs:aK m=true) {l:List (List Sh)} (P:∀f,inM m f=true→PF m f (l.getD f.toNat [])):∀(fs:List Int),(∀f∈fs,inM m f=true)→
  pW m l fs=match fs.find? (pC m l) with
   | some f=>(f,6,())
   | none=>(0,0,())
 | [],_=>rfl
 | f::fs,h=>by
  have hf:=h f (cG ..)
  unfold pW
  rw[aLT hs hf (P f hf),aNr hs hf,wP]
  cases pC m l f <;> simp only[aY,cA,aA,aB]
  exact aGg hs P fs fun x hx=>h x (bO _ hx)
theorem aOl {m:Im} {l:List (List Sh)} (hok:fC l=true) (hl:l.length=m.2.2.2.1.length) (P:∀f,inM m f=true→PF m f (l.getD f.toNat [])):yN m l=true:=by
 simp only[yN,aC,aO,bG]
 exact⟨hok,hl,fun f hf=>(P f (bS.2 (kP.1 hf))).gd.len⟩
theorem aNk (m:Im):aCE m=some (true,()):=by
 unfold aCE
 rcases nY m with⟨l,h⟩ | ⟨hs,l,h,hok,hl,P⟩
 ·rw[h,aJM];rfl
 have hp:kM m l=some (pW m l (ints m.2.2.2.1.length)):=by unfold kM;rw[hs,hok];rfl
 have hr:uP m l=some (aAL m l,()):=by unfold uP;rw[hs,aOl hok hl P];rfl
 have hfind:=aGg hs P (ints m.2.2.2.1.length) fun f hf=>bS.2 (kP.1 hf)
 rw[h]
 simp only[aJ,aY,aB]
 rw[hp,hr,aJM]
 simp only[aJ,aA]
 unfold aAL
 rw[hfind]
 cases hq:(ints m.2.2.2.1.length).find? (pC m l) with
 | none=>rfl
 | some f=>
  have hf:=(kP.1 (List.mem_of_find?_eq_some hq)).1
  simp only
  rw[aG (show f≥0 from hf)]
  simp
end Go.Pli
