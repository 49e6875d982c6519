/- Whether an image is taken in: it is told of every image; more room does no harm. -/
import Derived.Test.YtcofionghgmldaaGreatPliTar
import Derived.Test.YtcofionghgmldaaGreatPliReach
import Derived.Test.YtcofionghgmldaaGreatPliTy
import Derived.Test.YtcofionghgmldaaGreatPliNt
import Derived.Test.YtcofionghgmldaaGreatPliInst
import Derived.Test.YtcofionghgmldaaGreatPMLaw
import Derived.Test.YtcofionghgmldaaGreatPliL5E
import Derived.KernelRfl
namespace Go.Pli
open Go Go.PM
theorem aIC:∀l:List Int,(dO l).length≤l.length
 | []=>aT _
 | a::l=>by
  have:=aIC l
  unfold dO
  cases h:dO l with
  | nil=>simp
  | cons b r=>
   rw[h] at this
   simp only[aF] at this⊢
   cases a==b <;> simp only[aA,aB,aF] <;> omega
theorem aGn {m:Im} (hs:aL m=true) {e:List Int} (he:e∈fY m):e.length≤1000∧∀x∈e,inM m x=true:=by
 obtain⟨f,hf,rfl⟩:=gF.1 he
 have hfm:inM m f=true:=cC.2 (pN.1 hf)
 have ht:=aEq (dQ hs).2
 constructor
 ·unfold ofB
  rw[hfm]
  simp only[aA]
  have h1:=aIC (eW (oS m f))
  have h2:=aRc (dQ hs).1 hfm
  rw[(rO _).length_eq] at h1
  omega
 ·intro x hx
  exact aEo ht hfm ((aNL hfm).1 hx)
theorem aPB {m:Im} (hs:aL m=true):vK m=true:=by
 simp only[vK,bI,aC]
 intro e he
 obtain⟨h1,h2⟩:=aGn hs he
 exact⟨fK (by omega),h2⟩
theorem aQ5 {m:Im} (hs:aL m=true) {l:List (List Sh)} (hl:fX l=true):∃r,aDS m l=some r:=by
 have h12:=(dG (dQ hs).1).methods
 have hlen:=aGo m
 obtain⟨r,hr,R⟩:=aLN (ED:=fY m) (by omega) fun e he=>(aGn hs he).1
 have hfew:=R.few
 have hall:(okL r&&r.all (fun p=>okL p&&p.all (inM m)))=true:=by
  simp only[aC,bI]
  refine⟨fK (by omega),fun p hp=>?_⟩
  have h4:∀x∈p,inM m x=true:=fun x hx=>by
   obtain⟨x0,x1⟩:=(R.all x).1 (oY.2 ⟨p,hp,hx⟩)
   exact cC.2 ⟨x0,by omega⟩
  have:=aGq (a:=p) (b:=ints m.2.2.2.1.length) ((R.srt p hp).imp fun h=>by omega) fun x hx=>pN.2 (cC.1 (h4 x hx))
  rw[vA] at this
  exact⟨fK (by omega),h4⟩
 unfold aDS aIj
 rw[hs,hl,aPB hs,hr]
 simp only[aH,aA,aJ,hall]
 exact⟨_,rfl⟩
theorem aLd {m:Im} (h:wY m=0):aL m=true:=by
 unfold wY at h
 unfold aL
 cases h1:bX m <;> cases h2:jM m <;> simp only[h1,h2,aA,aB] at h⊢ <;> first | rfl | (exact absurd h (by decide))
structure aRg (m:Im) (t:List (List Sh)×Int×Int×Int×Unit) (n:Int×Int×Int×Unit) (p:Int×Int×Unit):Prop where
 check:tC m=some t
 ok:fX t.1=true
 needs:aDS m t.1=some n
 pot:nX m t.1=some p
theorem qS {m:Im} (hs:aL m=true):∃t n p,aRg m t n p:=by
 obtain⟨t,h1,h2,-⟩:=aEr hs
 obtain⟨n,h3⟩:=aQ5 hs h2
 exact⟨t,n,xQ m t.1 (ints m.2.2.2.1.length),h1,h2,h3,by unfold nX;rw[hs,h2];rfl⟩
def aE9 (m:Im) (s h:Int):Im:=(m.1,m.2.1,m.2.2.1,m.2.2.2.1,m.2.2.2.2.1,s,h,())
end Go.Pli

namespace Go.Pli
open Go Go.PM
section
variable {m:Im} {l:List (List Sh)} {r:List (List Int)}
structure BV (m:Im) (l:List (List Sh)) (V:List Int):Prop where
 len:V.length=m.2.2.2.1.length
 pos:∀f,inM m f=true→aDq m l f≤ix V f∧0≤ix V f∧ix V f≤100000
 call:∀f g,inM m f=true→vP m f g=true→wH m g.toNat f.toNat=false→aDq m l f+ix V g≤ix V f
 ring:∀f g,inM m f=true→inM m g=true→wH m f.toNat g.toNat=true→wH m g.toNat f.toNat=true→ix V f=ix V g
 way:∀f g,inM m f=true→inM m g=true→wH m f.toNat g.toNat=true→ix V g≤ix V f
end
end Go.Pli

namespace Go.Pli
open Go Go.PM
theorem aJJ {m:Im} (hs:aL m=true):(∃f,0≤f∧jP m=some ([],f,()))∨∃l,jP m=some (l,-1,())∧fX l=true∧l.length=m.2.2.2.1.length∧∀f,inM m f=true→PF m f (l.getD f.toNat []):=by
 have go:∀(fs:List Int) (out:List (List Sh)) (r),(∀f∈fs,inM m f=true)→qC m fs out=some r→r.2.2.2.1=0→∃add,r.1=out++add∧add.length=fs.length∧∀k,k<fs.length→PF m (fs.getD k 0) (add.getD k []):=fun fs=>by
  induction fs with
  | nil=>
   intro out r _ hr _
   have:=nI hr
   subst this
   exact⟨[],by simp,rfl,fun _ h=>by cases h⟩
  | cons f fs ih=>
   intro out r hl hr h0
   obtain⟨z,hz,-,-,-,hP⟩:=aGE hs (hl f (cW ..))
   unfold qC at hr
   rw[hz,aJ] at hr
   cases he:z.2.2.1 !=0 <;> simp only[he,aA,aB] at hr
   ·have hz0:z.2.2.1=0:=by simpa using he
    obtain⟨add,a1,a2,a3⟩:=ih (out++[z.1]) r (fun x hx=>hl x (bZ _ hx)) hr h0
    refine⟨z.1::add,by rw[a1];simp,by simp[a2],fun k hk=>?_⟩
    cases k with
    | zero=>exact hP hz0
    | succ k=>
     rw[List.getD_cons_succ,List.getD_cons_succ]
     exact a3 k (by simpa using hk)
   ·have hz0:z.2.2.1≠0:=by simpa using he
    have:=nI hr
    subst this
    exact absurd h0 hz0
 obtain⟨r,h1,h2,h3⟩:=aJQ hs
 obtain⟨r',h1',hok,-⟩:=aEr hs
 rw[h1] at h1'
 have:=nI h1'
 subst this
 by_cases h0:r.2.2.2.1=0
 ·obtain⟨h4,h5⟩:=h2 h0
  unfold tC at h1
  rw[hs] at h1
  simp only[aA] at h1
  obtain⟨add,a1,a2,a3⟩:=go _ _ _ (fun f hf=>cC.2 (pN.1 hf)) h1 h0
  rw[oX] at a1
  rw[vA] at a2 a3
  refine .inr ⟨r.1,h4,hok,h5,fun f hf=>?_⟩
  obtain⟨f0,f1⟩:=cC.1 hf
  have hk:f.toNat<m.2.2.2.1.length:=by omega
  have:=a3 f.toNat hk
  rw[aOm hk,Int.toNat_of_nonneg f0] at this
  rw[a1];exact this
 ·obtain⟨h4,h5⟩:=h3 h0
  exact .inl ⟨_,(cC.1 h5).1,h4⟩
end Go.Pli

namespace Go.Pli
open Go Go.PM
end Go.Pli

namespace Go.Pli
open Go Go.PM
end Go.Pli

namespace Go.Pli
open Go Go.PM
theorem xE {l:List Int} {n:Int} (hb:kP l=true) (h0:0≤n) (h1:n<9223372036854775808):
  (∃v m:Nat,aCg l=some ((v:Int),(m:Int),())∧1≤m∧m≤l.length∧l.take m=enc v∧v<128 ^ 5∧(v:Int)≤n∧aDn (l,false,()) n=some ((v:Int),(l.drop m,false,()),()))∨
  (∃(x y:Int) (l':List Int),aCg l=some (x,y,())∧¬(y>0∧x≤n)∧aDn (l,false,()) n=some (0,(l',true,()),())):=by
 have hbs:kP (l.take 5)=true:=aQQ 5 hb
 unfold aDn next aCg
 simp only[hbs,aA,aB]
 have hw:IntKind.u64.wrap n=n:=by rw[IntKind.wrap_u64];omega
 have hn0:decide (n<0)=false:=bO (by omega)
 cases hd:pY 5 0 0 l with
 | none=>exact .inr ⟨0,0,l,rfl,by omega,rfl⟩
 | some x=>
  obtain⟨y,m,ok⟩:=x
  cases ok with
  | false=>exact .inr ⟨0,0,l.drop m,rfl,by omega,rfl⟩
  | true=>
   obtain⟨v,m',e1,e2,e3,e4,e5,e6,e7⟩:=aIi 5 0 0 l y m hbs hd
   have hy:y=v:=by omega
   have hm:m=m':=by omega
   subst hy;subst hm
   simp only[aJ,bA,aB,hn0,hw]
   by_cases hgt:(y:Int)>n
   ·rw[aI hgt]
    exact .inr ⟨_,_,l.drop m,rfl,by omega,rfl⟩
   ·rw[bO hgt]
    have hw2:IntKind.i64.wrap (y:Int)=y:=w64 (by omega) (by omega)
    refine .inl ⟨y,m,rfl,e3,e4,?_,by omega,by omega,by simp only[aB,hw2]⟩
    rw[e5]
    exact (aIf e6 (by omega)).symm
structure aRl (s:List Int) (at_:Nat) (bad:Bool) (r:Rd):Prop where
 le:at_≤s.length
 rd:r=(if bad then r.1 else s.drop at_,bad,())
end Go.Pli

namespace Go.Pli
open Go Go.PM
end Go.Pli

namespace Go.Pli
open Go Go.PM
structure Got {α:Type} (o:Option (α×Rd×Unit)) (l:List Int) (b:Bool) (C:α→List Int→Prop):Prop where
 ex:∃x l' bad,o=some (x,(l',bad,()),())∧kP l'=true∧(bad=true∨(b=false∧bad=false∧C x l'))
end Go.Pli

namespace Go.Pli
open Go Go.PM
theorem aCt {α:Type} {f:Nat→Option α} {r:α} (K:Nat) (hK:f K=some r) (h:∀k,f k=none∨f k=some r):pick f=some r:=by
 unfold pick
 have hs:∃k,(f k).isSome:=⟨K,by rw[hK];rfl⟩
 rw[dif_pos hs]
 have:=hs.choose_spec
 rcases h hs.choose with h | h
 ·rw[h] at this;cases this
 ·exact h
theorem aNe:vF ([[]],[1],[1],[true],[0],1,[],()) 0=some (([[]],[1],[1],[false],[],1,[[0]],()),()):=by
 refine aCt 1 (by kernel_rfl) fun k=>?_
 match k with
 | 0=>exact .inl (by kernel_rfl)
 | k+1=>exact .inr (by kernel_rfl)
theorem aNf:vI ([[]],[0],[0],[false],[],0,[],()) 0=some (([[]],[1],[1],[true],[0],1,[],()),()):=by kernel_rfl
theorem aGj (k:Nat) (rec):oM (k+1) ([((0:Int),(0:Int),())],[1],[1],[true],[0],[],([[]],(),(),(),(),1,(),()),()) rec=rec ([],[1],[1],[false],[],[[0]],([[]],(),(),(),(),1,(),()),()):=by
 have h1:∀rec3 rec5,sE ([((0:Int),(0:Int),())],[1],[1],[true],[0],[],([[]],(),(),(),(),1,(),()),()) rec3 ([((0:Int),(0:Int),())],0,[1],()) rec5=(vF ([[]],[1],[1],[true],[0],1,[],()) 0).bind fun r9=>rec3 ([],r9.1.2.1,r9.1.2.2.1,r9.1.2.2.2.1,r9.1.2.2.2.2.1,r9.1.2.2.2.2.2.2.1,(r9.1.1,(),(),(),(),r9.1.2.2.2.2.2.1,(),()),()):=fun rec3 rec5=>by kernel_rfl
 have h2:oM (k+1) ([((0:Int),(0:Int),())],[1],[1],[true],[0],[],([[]],(),(),(),(),1,(),()),()) rec=aE (sE ([((0:Int),(0:Int),())],[1],[1],[true],[0],[],([[]],(),(),(),(),1,(),()),()) rec) (k+1) ([((0:Int),(0:Int),())],0,[1],()):=by kernel_rfl
 rw[h2,aX,h1,aNe]
 rfl
theorem aGk:vH ([[]],[0],[0],[false],[],0,[],()) 0=some (([[]],[1],[1],[false],[],1,[[0]],()),()):=by
 have h0:∀k,pU k ([[]],[0],[0],[false],[],0,[],()) 0=aE (oM k) k ([((0:Int),(0:Int),())],[1],[1],[true],[0],[],([[]],(),(),(),(),1,(),()),()):=by
  intro k
  unfold pU
  rw[aNf]
  rfl
 have h2:∀k,pU (k+2) ([[]],[0],[0],[false],[],0,[],()) 0=some (([[]],[1],[1],[false],[],1,[[0]],()),()):=by
  intro k
  rw[h0,aX,aGj (k+1),aX]
  kernel_rfl
 refine aCt 2 (h2 0) fun k=>?_
 match k with
 | 0=>rw[h0];exact .inl rfl
 | 1=>rw[h0,aX,aGj 0];exact .inl rfl
 | k+2=>exact .inr (h2 k)
theorem aNd:jO [[]]=some ([[0]],()):=by
 have h0:∀k,rD k [[]]=aE (xD [[]]) k (0,[0],[0],[false],[],[],([[]],(),(),(),(),0,(),()),()):=fun k=>by kernel_rfl
 have h1:∀rec,xD [[]] (0,[0],[0],[false],[],[],([[]],(),(),(),(),0,(),()),()) rec=(vH ([[]],[0],[0],[false],[],0,[],()) 0).bind fun r3=>rec (1,r3.1.2.1,r3.1.2.2.1,r3.1.2.2.2.1,r3.1.2.2.2.2.1,r3.1.2.2.2.2.2.2.1,(r3.1.1,(),(),(),(),r3.1.2.2.2.2.2.1,(),()),()):=fun rec=>by kernel_rfl
 have h2:∀k,rD (k+2) [[]]=some ([[0]],()):=by
  intro k
  rw[h0,aX,h1,aGk]
  simp only[aJ]
  rw[aX]
  kernel_rfl
 refine aCt 2 (h2 0) fun k=>?_
 match k with
 | 0=>rw[h0];exact .inl rfl
 | 1=>rw[h0,aX,h1,aGk];exact .inl rfl
 | k+2=>exact .inr (h2 k)
end Go.Pli

namespace Go.Pli
open Go Go.PM
def aw:Im:=([],[],[2],[([],[],(5,0,()),[(1,0,0,()),(23,9,0,()),(5,0,0,()),(33,0,0,())],0,0,[0,0,0,0],())],[],0,0,())
def awl:List (List Sh):=[[(true,[],()),(true,[(1,0,())],()),(true,[(2,0,())],()),(true,[],())]]
def awx:Im:=([],[],[2],[([],[],(5,0,()),[(1,0,0,()),(23,9,0,()),(5,0,0,()),(33,0,0,())],0,10,[10,10,0,0],())],[],0,0,())
theorem aQ0:jP aw=some (awl,-1,()):=by kernel_rfl
theorem aQZ:rN aw awl=some (awx,true,()):=by
 have h1:fY aw=[[]]:=by kernel_rfl
 have h2:(aL aw&&vK aw)=true:=by kernel_rfl
 unfold rN
 rw[h2,h1,aNd]
 show _=_
 kernel_rfl
theorem aJp:awake15N=some (true,()):=by
 have h1:nX aw awl=some (0,6,()):=by kernel_rfl
 unfold awake15N
 show (jP aw).bind _=_
 rw[aQ0,aJ]
 show (nX aw awl).bind _=_
 rw[h1,aJ]
 show (rN aw awl).bind _=_
 rw[aQZ,aJ]
 kernel_rfl
theorem nN (m:Im):(∃l,wJ m=some (l,false,()))∨(aL m=true∧∃l,wJ m=some (l,true,())∧fX l=true∧l.length=m.2.2.2.1.length∧∀f,inM m f=true→PF m f (l.getD f.toNat [])):=by
 unfold wJ
 cases hsm:tG m
 ·exact .inl ⟨_,rfl⟩
 have hs:aL m=true:=by
  simp only[tG,aC] at hsm
  have:=hsm.2.2.2
  rw[sane_eq' m] at this
  exact aLd (by simpa using this)
 simp only[bA,aB]
 rcases aJJ hs with⟨f,f0,h⟩ | ⟨l,h,hok,hl,P⟩
 ·rw[h]
  refine .inl ⟨[],?_⟩
  simp only[aJ]
  rw[bO (show ¬f<0 by omega)]
 ·rw[h]
  exact .inr ⟨hs,l,rfl,hok,hl,P⟩
where
 sane_eq' (m:Im):rG m=wY m:=rfl
theorem aPW {m:Im} (hs:aL m=true) {f:Int} (hf:inM m f=true) {pc:Nat} (hp:pc<codeN m f):
  iT m (aG m f (pc:Int))=some (uA m (aG m f (pc:Int)),())∧rI m (aG m f (pc:Int))=some (uA m (aG m f (pc:Int)),()):=by
 have hp':sin (pc:Int) (codeN m f:Int)=true:=by simp only[sin,aC,aQ];omega
 refine⟨?_,?_⟩
 ·unfold iT
  rw[(dQ hs).1,aPX hs hf hp'];rfl
 ·unfold rI
  have:(cN m (aG m f (pc:Int))).all (inM m)=true:=bI.2 (aEp hs hf hp')
  rw[(dQ hs).1,this];rfl
theorem aMQ (m:Im):∃k,aCr k m=some (true,()):=by
 refine⟨1001,?_⟩
 unfold aCr
 rcases nN m with⟨l,h⟩ | ⟨hs,l,h,hok,hl,P⟩
 ·rw[h,aJp];rfl
 have h12:=(dG (dQ hs).1).methods
 rw[h]
 simp only[aJ,bA,aB]
 refine oA (L:=aAt m 1001) (n:=m.2.2.2.1.length) (st:=fun k=>((k:Int),())) (fun f rec hf=>?_) (fun rec=>?_) 1001 (by omega)
 ·have hfm:inM m (f:Int)=true:=cC.2 ⟨by omega,by omega⟩
  have hc:=fH hs hfm
  have fold:m.2.2.2.1.getD f zMt=aD m (f:Int):=rfl
  have fold3:(aD m (f:Int)).2.2.2.1.length=codeN m (f:Int):=rfl
  rw[aAt]
  simp only[dlt hf,aA]
  refine oA (L:=aAu m ((f:Int),()) rec) (n:=codeN m (f:Int)) (st:=fun k=>((k:Int),())) (fun pc rec6 hpc=>?_) (fun rec6=>?_) 1001 (by omega)
  ·obtain⟨c1,c2⟩:=aPW hs hfm hpc
   have fold2:(aD m (f:Int)).2.2.2.1.getD pc cM=aG m (f:Int) (pc:Int):=rfl
   rw[aAu]
   simp only[dge,dlt hf,aH,aA,aU,fold,fold3,fold2,dlt hpc,c1,c2,aJ,bne_self_eq_false,aB,bJ hpc (show _≤lenMax by simp only[lenMax];omega)]
  ·rw[aAu]
   simp only[dge,dlt hf,aH,aA,aU,fold,fold3,bQ,aB,bJ hf (show _≤lenMax by simp only[lenMax];omega)]
 ·rw[aAt]
  simp only[bQ,aB]
  rw[aJp];rfl
end Go.Pli
