/- Whether an image is taken in: it is told of every image; more room does no harm. -/
import Derived.Test.YtcofionghgmldaaGreatPliTar
import Derived.Test.YtcofionghgmldaaGreatPliReach
import Derived.Test.YtcofionghgmldaaGreatPliInst
import Derived.Test.YtcofionghgmldaaGreatPMLaw
import Derived.Test.YtcofionghgmldaaGreatPliL5E
import Derived.KernelRfl
import Derived.Test.YtcofionghgmldaaGreatPliTy
namespace Go.Pli
open Go Go.PM
theorem aDe:∀l:List Int,(bM l).length≤l.length
 | []=>Nat.le_refl _
 | a::l=>by
  have:=aDe l
  unfold bM
  cases h:bM l with
  | nil=>simp
  | cons b r=>
   rw[h] at this
   simp only[List.length_cons] at this⊢
   cases a==b <;> simp only[cond_true,cond_false,List.length_cons] <;> omega
theorem aBU {m:Im} (hs:aF m=true) {e:List Int} (he:e∈cW m):e.length≤1000∧∀x∈e,inM m x=true:=by
 obtain⟨f,hf,rfl⟩:=List.mem_map.1 he
 have hfm:inM m f=true:=aP.2 (cX.1 hf)
 have ht:=aDZ (aV hs).2
 constructor
 ·unfold ofB
  rw[hfm]
  simp only[cond_true]
  have h1:=aDe (gF (aBE m f))
  have h2:=aSN (aV hs).1 hfm
  rw[(kH _).length_eq] at h1
  omega
 ·intro x hx
  exact aJW ht hfm ((aLF hfm).1 hx)
theorem aMm {m:Im} (hs:aF m=true):aAD m=true:=by
 simp only[aAD,List.all_eq_true,Bool.and_eq_true]
 intro e he
 obtain⟨h1,h2⟩:=aBU hs he
 exact⟨dZ (by omega),h2⟩
theorem aK8 {m:Im} (hs:aF m=true) {l:List (List Sh)} (hl:eS l=true):∃r,jB m l=some r:=by
 have h12:=(bE (aV hs).1).methods
 have hlen:=aCb m
 obtain⟨r,hr,R⟩:=aDb (ED:=cW m) (by omega) fun e he=>(aBU hs he).1
 have hfew:=R.few
 have hall:(okL r&&r.all (fun p=>okL p&&p.all (inM m)))=true:=by
  simp only[Bool.and_eq_true,List.all_eq_true]
  refine⟨dZ (by omega),fun p hp=>?_⟩
  have h4:∀x∈p,inM m x=true:=fun x hx=>by
   obtain⟨x0,x1⟩:=(R.all x).1 (List.mem_flatten.2 ⟨p,hp,hx⟩)
   exact aP.2 ⟨x0,by omega⟩
  have:=sH (a:=p) (b:=ints m.2.2.2.1.length) ((R.srt p hp).imp fun h=>by omega) fun x hx=>cX.2 (aP.1 (h4 x hx))
  rw[dG] at this
  exact⟨dZ (by omega),h4⟩
 unfold jB kX
 rw[hs,hl,aMm hs,hr]
 simp only[Bool.and_self,cond_true,Option.bind_some,hall]
 exact⟨_,rfl⟩
theorem aDE {m:Im} (h:dS m=0):aF m=true:=by
 unfold dS at h
 unfold aF
 cases h1:bC m <;> cases h2:jQ m <;> simp only[h1,h2,cond_true,cond_false] at h⊢ <;> first | rfl | (exact absurd h (by decide))
structure aAs (m:Im) (t:List (List Sh)×Int×Int×Int×Unit) (n:Int×Int×Int×Unit) (p:Int×Int×Unit):Prop where
 check:iS m=some t
 ok:eS t.1=true
 needs:jB m t.1=some n
 pot:lR m t.1=some p
theorem told {m:Im} (hs:aF m=true):∃t n p,aAs m t n p:=by
 obtain⟨t,h1,h2,-⟩:=aKM hs
 obtain⟨n,h3⟩:=aK8 hs h2
 exact⟨t,n,qJ m t.1 (ints m.2.2.2.1.length),h1,h2,h3,by unfold lR;rw[hs,h2];rfl⟩
def kY (m:Im) (t:List (List Sh)×Int×Int×Int×Unit) (n:Int×Int×Int×Unit) (p:Int×Int×Unit):List (List Sh)×Int×Unit:=
 bif t.2.2.2.1 !=0 then ([],t.2.2.2.1,())
 else bif n.2.2.1 !=0 then ([],n.2.2.1,())
 else bif p.2.1 !=0 then ([],p.2.1,())
 else bif decide (n.1>m.2.2.2.2.2.1) then ([],7,())
 else bif decide (n.2.1>m.2.2.2.2.2.2.1) then ([],7,())
 else (t.1,0,())
theorem nQ {m:Im} (h0:dS m=0) {t n p} (h:aAs m t n p):dW m=some (kY m t n p):=by
 have h0':(dS m !=0)=false:=by simp[h0]
 unfold dW kY
 rw[h0',h.check]
 simp only[cond_false,Option.bind_some]
 cases t.2.2.2.1 !=0 <;> simp only[cond_true,cond_false]
 rw[h.needs]
 simp only[Option.bind_some]
 cases n.2.2.1 !=0 <;> simp only[cond_true,cond_false]
 rw[h.pot]
 simp only[Option.bind_some]
 cases p.2.1 !=0 <;> simp only[cond_true,cond_false]
 cases decide (n.1>m.2.2.2.2.2.1) <;> simp only[cond_true,cond_false]
 cases decide (n.2.1>m.2.2.2.2.2.2.1) <;> simp only[cond_true,cond_false]
theorem aER {m:Im} (h0:dS m≠0):dW m=some ([],dS m,()):=by
 have h0':(dS m !=0)=true:=by simp[h0]
 unfold dW
 rw[h0']
 rfl
def cA (m:Im) (s h:Int):Im:=(m.1,m.2.1,m.2.2.1,m.2.2.2.1,m.2.2.2.2.1,s,h,())
theorem sV (m:Im) (s h:Int):jQ (cA m s h)=jQ m:=by kernel_rfl
theorem aOm {m:Im} {s h:Int} (he:aF (cA m s h)=aF m) (f pc:Int) (hh:List Sh) (q:List Bool):nZ (cA m s h) f pc hh q=nZ m f pc hh q:=by
 have h1:sL (cA m s h) f pc hh q=sL m f pc hh q:=by unfold sL;rw[he];rfl
 unfold nZ
 rw[h1]
 rfl
theorem aHt {m:Im} {s h:Int} (he:aF (cA m s h)=aF m) (f:Int):∀(n:Nat) (hh:List Sh) (q:List Bool),kT (cA m s h) f n hh q=kT m f n hh q
 | 0,_,_=>rfl
 | n+1,hh,q=>by
  unfold kT
  rw[aOm he]
  cases q.any id <;> simp only[cond_true,cond_false]
  congr 1
  funext r
  rw[aHt he f n]
theorem aIX {m:Im} {s h:Int} (he:aF (cA m s h)=aF m) (f:Int):fZ (cA m s h) f=fZ m f:=by
 unfold fZ
 rw[he,aHt he]
 rfl
theorem aFP {m:Im} {s h:Int} (he:aF (cA m s h)=aF m):∀(l:List Int) (out:List (List Sh)),jZ (cA m s h) l out=jZ m l out
 | [],_=>rfl
 | f::l,out=>by
  unfold jZ
  rw[aIX he]
  congr 1
  funext r
  rw[aFP he l]
theorem aLd {m:Im} {s h:Int} (he:aF (cA m s h)=aF m):iS (cA m s h)=iS m:=by
 unfold iS
 rw[he,aFP he]
 rfl
theorem aHp (m:Im) (s h:Int) (l:List (List Sh)) (ed:List (List Int)) (part out:List Int) (c:Bool):∀(q:List Int) (a b:Int),jH (cA m s h) l ed part out c q a b=jH m l ed part out c q a b
 | [],_,_=>rfl
 | f::q,a,b=>by
  unfold jH
  rw[aHp m s h l ed part out c q]
  rfl
theorem aFr (m:Im) (s h:Int) (l:List (List Sh)) (ed:List (List Int)):∀(ps:List (List Int)) (out:List Int),iU (cA m s h) l ed ps out=iU m l ed ps out
 | [],_=>rfl
 | p::ps,out=>by
  unfold iU
  rw[aHp]
  cases jH m l ed p out (dV ed p) p 0 0 with
  | none=>rfl
  | some a=>exact aFr m s h l ed ps _
theorem zN (m:Im) (s h:Int) (bd:List Int):∀(q:List Int) (a b:Int),dH (cA m s h) bd q a b=dH m bd q a b
 | [],_,_=>rfl
 | f::q,a,b=>by
  unfold dH
  rw[zN m s h bd q,zN m s h bd q]
  rfl
theorem aKH {m:Im} {s h:Int} (he:aF (cA m s h)=aF m) (l:List (List Sh)):jB (cA m s h) l=jB m l:=by
 have hd:kX (cA m s h) l=kX m l:=by
  unfold kX
  rw[he]
  have e1:aAD (cA m s h)=aAD m:=by kernel_rfl
  have e2:cW (cA m s h)=cW m:=by kernel_rfl
  have e3:inM (cA m s h)=inM m:=rfl
  have e4:(cA m s h).2.2.2.1=m.2.2.2.1:=rfl
  rw[e1,e2,e3,e4]
  congr 2
  funext r
  rw[aFr]
 have hn:∀r,aAc (cA m s h) r=aAc m r:=by
  intro r
  unfold aAc
  rw[zN]
  rfl
 unfold jB
 rw[he,hd]
 congr 2
 funext r
 rw[hn]
theorem aHG (m:Im) (s h:Int) (l:List (List Sh)):∀q:List Int,qJ (cA m s h) l q=qJ m l q
 | []=>rfl
 | f::q=>by
  unfold qJ
  rw[aHG m s h l q]
  have e1:iO (cA m s h) l f=iO m l f:=by kernel_rfl
  have e2:nV (cA m s h) f=nV m f:=rfl
  have e3:cS (cA m s h) f=cS m f:=rfl
  rw[e1,e2,e3]
theorem aLA {m:Im} {s h:Int} (he:aF (cA m s h)=aF m) (l:List (List Sh)):lR (cA m s h) l=lR m l:=by
 unfold lR
 rw[he,aHG]
 rfl
end Go.Pli

namespace Go.Pli
open Go Go.PM
end Go.Pli

namespace Go.Pli
open Go Go.PM
end Go.Pli

namespace Go.Pli
open Go Go.PM
theorem rY {l:List Int} {n:Int} (hb:fK l=true) (h0:0≤n) (h1:n<9223372036854775808):
  (∃v m:Nat,aNt l=some ((v:Int),(m:Int),())∧1≤m∧m≤l.length∧l.take m=enc v∧v<128 ^ 5∧(v:Int)≤n∧dE (l,false,()) n=some ((v:Int),(l.drop m,false,()),()))∨
  (∃(x y:Int) (l':List Int),aNt l=some (x,y,())∧¬(y>0∧x≤n)∧dE (l,false,()) n=some (0,(l',true,()),())):=by
 have hbs:fK (l.take 5)=true:=aLj 5 hb
 unfold dE next aNt
 simp only[hbs,cond_true,cond_false]
 have hw:IntKind.u64.wrap n=n:=by rw[IntKind.wrap_u64];omega
 have hn0:decide (n<0)=false:=decide_eq_false (by omega)
 cases hd:sK 5 0 0 l with
 | none=>exact .inr ⟨0,0,l,rfl,by omega,rfl⟩
 | some x=>
  obtain⟨y,m,ok⟩:=x
  cases ok with
  | false=>exact .inr ⟨0,0,l.drop m,rfl,by omega,rfl⟩
  | true=>
   obtain⟨v,m',e1,e2,e3,e4,e5,e6,e7⟩:=aJw 5 0 0 l y m hbs hd
   have hy:y=v:=by omega
   have hm:m=m':=by omega
   subst hy;subst hm
   simp only[Option.bind_some,Bool.not_true,cond_false,hn0,hw]
   by_cases hgt:(y:Int)>n
   ·rw[decide_eq_true hgt]
    exact .inr ⟨_,_,l.drop m,rfl,by omega,rfl⟩
   ·rw[decide_eq_false hgt]
    have hw2:IntKind.i64.wrap (y:Int)=y:=w64 (by omega) (by omega)
    refine .inl ⟨y,m,rfl,e3,e4,?_,by omega,by omega,by simp only[cond_false,hw2]⟩
    rw[e5]
    exact (aMN e6 (by omega)).symm
structure aVX (s:List Int) (at_:Nat) (bad:Bool) (r:Rd):Prop where
 le:at_≤s.length
 rd:r=(if bad then r.1 else s.drop at_,bad,())
end Go.Pli

namespace Go.Pli
open Go Go.PM
end Go.Pli

namespace Go.Pli
open Go Go.PM
structure Got {α:Type} (o:Option (α×Rd×Unit)) (l:List Int) (b:Bool) (C:α→List Int→Prop):Prop where
 ex:∃x l' bad,o=some (x,(l',bad,()),())∧fK l'=true∧(bad=true∨(b=false∧bad=false∧C x l'))
end Go.Pli

namespace Go.Pli
open Go Go.PM
theorem aDW {α:Type} {f:Nat→Option α} {r:α} (K:Nat) (hK:f K=some r) (h:∀k,f k=none∨f k=some r):pick f=some r:=by
 unfold pick
 have hs:∃k,(f k).isSome:=⟨K,by rw[hK];rfl⟩
 rw[dif_pos hs]
 have:=hs.choose_spec
 rcases h hs.choose with h | h
 ·rw[h] at this;cases this
 ·exact h
theorem aOU:xZ ([[]],[1],[1],[true],[0],1,[],()) 0=some (([[]],[1],[1],[false],[],1,[[0]],()),()):=by
 refine aDW 1 (by kernel_rfl) fun k=>?_
 match k with
 | 0=>exact .inl (by kernel_rfl)
 | k+1=>exact .inr (by kernel_rfl)
theorem aOR:tK ([[]],[0],[0],[false],[],0,[],()) 0=some (([[]],[1],[1],[true],[0],1,[],()),()):=by kernel_rfl
theorem aHv (k:Nat) (rec):mS (k+1) ([((0:Int),(0:Int),())],[1],[1],[true],[0],[],([[]],(),(),(),(),1,(),()),()) rec=rec ([],[1],[1],[false],[],[[0]],([[]],(),(),(),(),1,(),()),()):=by
 have h1:∀rec3 rec5,qE ([((0:Int),(0:Int),())],[1],[1],[true],[0],[],([[]],(),(),(),(),1,(),()),()) rec3 ([((0:Int),(0:Int),())],0,[1],()) rec5=(xZ ([[]],[1],[1],[true],[0],1,[],()) 0).bind fun r9=>rec3 ([],r9.1.2.1,r9.1.2.2.1,r9.1.2.2.2.1,r9.1.2.2.2.2.1,r9.1.2.2.2.2.2.2.1,(r9.1.1,(),(),(),(),r9.1.2.2.2.2.2.1,(),()),()):=fun rec3 rec5=>by kernel_rfl
 have h2:mS (k+1) ([((0:Int),(0:Int),())],[1],[1],[true],[0],[],([[]],(),(),(),(),1,(),()),()) rec=aA (qE ([((0:Int),(0:Int),())],[1],[1],[true],[0],[],([[]],(),(),(),(),1,(),()),()) rec) (k+1) ([((0:Int),(0:Int),())],0,[1],()):=by kernel_rfl
 rw[h2,aD,h1,aOU]
 rfl
theorem aJY:aCB ([[]],[0],[0],[false],[],0,[],()) 0=some (([[]],[1],[1],[false],[],1,[[0]],()),()):=by
 have h0:∀k,sG k ([[]],[0],[0],[false],[],0,[],()) 0=aA (mS k) k ([((0:Int),(0:Int),())],[1],[1],[true],[0],[],([[]],(),(),(),(),1,(),()),()):=by
  intro k
  unfold sG
  rw[aOR]
  rfl
 have h2:∀k,sG (k+2) ([[]],[0],[0],[false],[],0,[],()) 0=some (([[]],[1],[1],[false],[],1,[[0]],()),()):=by
  intro k
  rw[h0,aD,aHv (k+1),aD]
  kernel_rfl
 refine aDW 2 (h2 0) fun k=>?_
 match k with
 | 0=>rw[h0];exact .inl rfl
 | 1=>rw[h0,aD,aHv 0];exact .inl rfl
 | k+2=>exact .inr (h2 k)
theorem aPK:nT [[]]=some ([[0]],()):=by
 have h0:∀k,vG k [[]]=aA (yV [[]]) k (0,[0],[0],[false],[],[],([[]],(),(),(),(),0,(),()),()):=fun k=>by kernel_rfl
 have h1:∀rec,yV [[]] (0,[0],[0],[false],[],[],([[]],(),(),(),(),0,(),()),()) rec=(aCB ([[]],[0],[0],[false],[],0,[],()) 0).bind fun r3=>rec (1,r3.1.2.1,r3.1.2.2.1,r3.1.2.2.2.1,r3.1.2.2.2.2.1,r3.1.2.2.2.2.2.2.1,(r3.1.1,(),(),(),(),r3.1.2.2.2.2.2.1,(),()),()):=fun rec=>by kernel_rfl
 have h2:∀k,vG (k+2) [[]]=some ([[0]],()):=by
  intro k
  rw[h0,aD,h1,aJY]
  simp only[Option.bind_some]
  rw[aD]
  kernel_rfl
 refine aDW 2 (h2 0) fun k=>?_
 match k with
 | 0=>rw[h0];exact .inl rfl
 | 1=>rw[h0,aD,h1,aJY];exact .inl rfl
 | k+2=>exact .inr (h2 k)
def uJ (s:Int):Im:=([],[],[],[([],[],(5,0,()),[(33,0,0,())],0,0,[0],())],[0],s,0,())
theorem aG0 {s:Int} (hs:aF (uJ s)=true) (ht:iS (uJ s)=some ([[(true,[],())]],0,0,0,())) (hp:lR (uJ s) [[(true,[],())]]=some (0,0,())):aAs (uJ s) ([[(true,[],())]],0,0,0,()) (3,0,0,()) (0,0,()):=by
 refine⟨ht,rfl,?_,hp⟩
 have h1:cW (uJ s)=[[]]:=by kernel_rfl
 have h2:aAD (uJ s)=true:=by kernel_rfl
 have h3:eS [[((true,[],()):Sh)]]=true:=by rfl
 unfold jB kX
 rw[hs,h1,h2,h3,aPK]
 show _=_
 kernel_rfl
theorem aVy:aAs (uJ 3) ([[(true,[],())]],0,0,0,()) (3,0,0,()) (0,0,()):=aG0 (by kernel_rfl) (by kernel_rfl) (by kernel_rfl)
theorem tiny2:aAs (uJ 2) ([[(true,[],())]],0,0,0,()) (3,0,0,()) (0,0,()):=aG0 (by kernel_rfl) (by kernel_rfl) (by kernel_rfl)
theorem aNB:awake16N=some (true,()):=by
 have c3:dW (uJ 3)=some ([[(true,[],())]],0,()):=(nQ (by kernel_rfl) aVy).trans (by kernel_rfl)
 have c2:dW (uJ 2)=some ([],7,()):=(nQ (by kernel_rfl) tiny2).trans (by kernel_rfl)
 have n2:=tiny2.needs
 have b0:aGA []=some ((([],[],[],[],[],0,0,()):Im),[],2,()):=by kernel_rfl
 unfold awake16N
 simp only[uJ] at c3 c2 n2
 rw[c3,c2,b0]
 simp only[Option.bind_some]
 rw[n2]
 show _=_
 kernel_rfl
end Go.Pli

namespace Go.Pli
open Go Go.PM
theorem aJX {m:Im} {f:Int}:∀(n:Nat) (h:List Sh) (q:List Bool) (r),kT m f n h q=some r→r.2.2.1=0∨r.2.2.1=4
 | 0,_,_,_,h=>by cases h
 | n+1,h,q,r,hr=>by
  unfold kT at hr
  cases ha:q.any id <;> simp only[ha,cond_true,cond_false] at hr
  ·have:=Option.some.inj hr
   subst this
   exact .inl rfl
  ·cases ht:nZ m f (q.findIdx id:Int) h (q.set (q.findIdx id) false) with
   | none=>rw[ht] at hr;cases hr
   | some z=>
    rw[ht,Option.bind_some] at hr
    cases hz:z.1 <;> simp only[hz,Bool.not_true,Bool.not_false,cond_true,cond_false] at hr
    ·have:=Option.some.inj hr
     subst this
     exact .inr rfl
    ·exact aJX n _ _ r hr
theorem aNI {m:Im} {f:Int} {r} (h:fZ m f=some r):r.2.2.1=0∨r.2.2.1=4:=by
 unfold fZ at h
 cases hg:aF m&&inM m f <;> simp only[hg,cond_true,cond_false] at h
 ·cases h
 ·exact aJX _ _ _ _ h
theorem xO {m:Im} (hs:aF m=true):∀(l:List Int) (out:List (List Sh)) (r),(∀f∈l,inM m f=true)→jZ m l out=some r→
  (r.2.2.2.1=0∨r.2.2.2.1=4)∧(r.2.2.2.1=0→∃add,r.1=out++add∧add.length=l.length∧∀k,k<l.length→PF m (l.getD k 0) (add.getD k []))
 | [],out,r,_,hr=>by
  have:=Option.some.inj hr
  subst this
  exact⟨.inl rfl,fun _=>⟨[],by simp,rfl,fun _ h=>by cases h⟩⟩
 | f::l,out,r,hl,hr=>by
  have hf:=hl f (List.mem_cons_self ..)
  obtain⟨z,hz,-,-,-,hP⟩:=aBa hs hf
  unfold jZ at hr
  rw[hz,Option.bind_some] at hr
  cases he:z.2.2.1 !=0 <;> simp only[he,cond_true,cond_false] at hr
  ·have h0:z.2.2.1=0:=by simpa using he
   obtain⟨i1,i2⟩:=xO hs l (out++[z.1]) r (fun x hx=>hl x (List.mem_cons_of_mem _ hx)) hr
   refine⟨i1,fun hr0=>?_⟩
   obtain⟨add,a1,a2,a3⟩:=i2 hr0
   refine⟨z.1::add,by rw[a1];simp,by simp[a2],fun k hk=>?_⟩
   cases k with
   | zero=>exact hP h0
   | succ k=>
    rw[List.getD_cons_succ,List.getD_cons_succ]
    exact a3 k (by simpa using hk)
  ·have h0:z.2.2.1≠0:=by simpa using he
   have:=Option.some.inj hr
   subst this
   refine⟨.inr ((aNI hz).resolve_left h0),fun h=>absurd h h0⟩
structure aSf (m:Im) (t:List (List Sh)×Int×Int×Int×Unit) (n:Int×Int×Int×Unit) (p:Int×Int×Unit):Prop where
 told:aAs m t n p
 bad:t.2.2.2.1≠0→t.2.2.2.1=4∧∃f,0≤f∧qX m=some ([],f,())
 good:t.2.2.2.1=0→qX m=some (t.1,-1,())∧
  ((n.2.2.1=5∧∃x,iR m t.1=some x∧x.2.2.1=false)∨(n.2.2.1=0∧iR m t.1=some (n.1,n.2.1,true,())∧0≤n.1∧0≤n.2.1))∧
  ((p.2.1=0∧oL m t.1=some (-1,()))∨(p.2.1=6∧∃f,0≤f∧oL m t.1=some (f,())))
theorem aBZ (m:Im) (bd:List Int):∀(q:List Int) (s h:Int),0≤s→0≤h→0≤(dH m bd q s h).1∧0≤(dH m bd q s h).2∧s≤(dH m bd q s h).1
 | [],s,h,h1,h2=>⟨h1,h2,Int.le_refl _⟩
 | f::q,s,h,h1,h2=>by
  unfold dH
  cases decide (f≥0)&&decide (f<(bd.length:Int)) <;> simp only[cond_true,cond_false]
  ·exact aBZ m bd q s h h1 h2
  ·obtain⟨i1,i2,i3⟩:=aBZ m bd q (max s (bd.getD f.toNat 0)) (max h (dF m f)) (by omega) (by omega)
   exact⟨i1,i2,by omega⟩
theorem aBX {m:Im} (hs:aF m=true) (bd:List Int):∀(q:List Int) (s h:Int),(∀f∈q,inM m f=true)→h≤4096→(dH m bd q s h).2≤4096
 | [],_,_,_,h=>h
 | f::q,s,h,hq,h2=>by
  have hf:=aHs hs (hq f (List.mem_cons_self ..))
  unfold dH
  cases decide (f≥0)&&decide (f<(bd.length:Int)) <;> simp only[cond_true,cond_false]
  ·exact aBX hs bd q s h (fun x hx=>hq x (List.mem_cons_of_mem _ hx)) h2
  ·exact aBX hs bd q _ _ (fun x hx=>hq x (List.mem_cons_of_mem _ hx)) (by omega)
theorem aKm {m:Im} (hs:aF m=true):∃t n p,aSf m t n p:=by
 obtain⟨t,n,p,ht⟩:=told hs
 refine⟨t,n,p,ht,fun h0=>?_,fun h0=>?_⟩
 ·obtain⟨t',h1,-,h3⟩:=aFy hs
  rw[ht.check] at h1
  have:=Option.some.inj h1
  subst this
  obtain⟨h4,h5⟩:=h3 h0
  have hc:=ht.check
  unfold iS at hc
  rw[hs] at hc
  simp only[cond_true] at hc
  obtain⟨i1,-⟩:=xO hs _ _ _ (fun f hf=>aP.2 (cX.1 hf)) hc
  exact⟨i1.resolve_left h0,t.2.1,(aP.1 h5).1,h4⟩
 ·obtain⟨t',h1,h2,-⟩:=aFy hs
  rw[ht.check] at h1
  have:=Option.some.inj h1
  subst this
  obtain⟨h4,h5⟩:=h2 h0
  have hc:=ht.check
  unfold iS at hc
  rw[hs] at hc
  simp only[cond_true] at hc
  obtain⟨-,i2⟩:=xO hs _ _ _ (fun f hf=>aP.2 (cX.1 hf)) hc
  obtain⟨add,a1,a2,a3⟩:=i2 h0
  rw[List.nil_append] at a1
  rw[dG] at a2 a3
  have P:∀f,inM m f=true→PF m f (t.1.getD f.toNat []):=fun f hf=>by
   obtain⟨f0,f1⟩:=aP.1 hf
   have hk:f.toNat<m.2.2.2.1.length:=by omega
   have:=a3 f.toNat hk
   rw[aEl hk,Int.toNat_of_nonneg f0] at this
   rw[a1];exact this
  have hmaps:aBr m t.1=true:=by
   simp only[aBr,Bool.and_eq_true,decide_eq_true_eq,List.all_eq_true]
   exact⟨ht.ok,h5,fun f hf=>(P f (aP.2 (cX.1 hf))).gd.len⟩
  have htg:=aDZ (aV hs).2
  have hed:=aRK htg
  have h12:=(bE (aV hs).1).methods
  have hsm:=aLv (aV hs).1
  have hen:=aEv hs
  have hst:m.2.1.length≤8:=by
   have:=(bE (aV hs).1).statics
   simp only[cQ,Bool.and_eq_true,decide_eq_true_eq] at this
   omega
  refine⟨h4,?_,?_⟩
  ·have hb:mR m t.1=some (lA m t.1):=by unfold mR;rw[hs,ht.ok,htg,hsm];rfl
   have hn14:iR m t.1=some (aIf m (lA m t.1)):=by unfold iR;rw[hs,hb];rfl
   obtain⟨r,hr,R⟩:=aDb (ED:=cW m) (by rw[aCb];omega) fun e he=>(aBU hs he).1
   rw[hed] at R
   have hall:(okL r&&r.all (fun p=>okL p&&p.all (inM m)))=true:=by
    have hfew:=R.few
    rw[dB] at hfew
    simp only[Bool.and_eq_true,List.all_eq_true]
    refine⟨dZ (by omega),fun p hp=>?_⟩
    have hpi:∀x∈p,inM m x=true:=fun x hx=>by
     have:=iJ R hp hx
     rw[inN,dB] at this
     exact aP.2 this
    refine⟨dZ ?_,hpi⟩
    have:=sH (a:=p) (b:=ints m.2.2.2.1.length) ((R.srt p hp).imp fun h=>by omega) fun x hx=>cX.2 (aP.1 (hpi x hx))
    rw[dG] at this
    omega
   have hd:jB m t.1=some (aAc m (iU m t.1 (aG m) r (List.replicate m.2.2.2.1.length 0))):=by
    unfold jB kX
    rw[hs,ht.ok,aMm hs,hr,hed]
    simp only[Bool.and_self,cond_true,Option.bind_some,hall]
   have hn:=ht.needs
   rw[hd] at hn
   have hn:=Option.some.inj hn
   obtain⟨B1,B2⟩:=aRO (l:=t.1) R
   cases hsh:fU m
   ·obtain⟨V,-,v1,v2⟩:=B2 hsh
    refine .inr ?_
    rw[hn14,v2]
    rw[v1] at hn
    have hp:=aBZ m V m.2.2.2.2.1 0 0 (Int.le_refl _) (Int.le_refl _)
    have hq:=aBX hs V m.2.2.2.2.1 0 0 hen (by decide)
    have hw:IntKind.i64.wrap ((m.2.1.length:Int)+(dH m V m.2.2.2.2.1 0 0).2)=(m.2.1.length:Int)+(dH m V m.2.2.2.2.1 0 0).2:=eP (by omega) (by omega)
    rw[←hn]
    unfold aAc aIf
    simp only[bne_self_eq_false,cond_true,cond_false,hw]
    exact⟨trivial,trivial,hp.1,by omega⟩
   ·obtain⟨v1,v2⟩:=B1 hsh
    refine .inl ?_
    rw[hn14,v2]
    rw[v1] at hn
    rw[←hn]
    exact⟨rfl,_,rfl,rfl⟩
  ·have h14:oL m t.1=some (aCE m t.1,()):=by unfold oL;rw[hs,hmaps];rfl
   have hp:=ht.pot
   unfold lR at hp
   rw[hs,ht.ok] at hp
   simp only[Bool.and_self,cond_true] at hp
   have hp:=Option.some.inj hp
   rw[h14,←hp]
   rcases aRi hs P with⟨q1,q2⟩ | ⟨q1,q2⟩
   ·exact .inl ⟨q1,by rw[q2]⟩
   ·exact .inr ⟨q1,_,q2,rfl⟩
theorem aL6 (m:Im):sC m=dS m:=rfl
theorem aKX {m:Im} (h0:dS m=0) {t n p} (h:aSf m t n p):kE m=some (kY m t n p):=by
 have h0':(sC m !=0)=false:=by rw[aL6,h0];rfl
 unfold kE kY
 rw[h0']
 simp only[cond_false]
 by_cases ht:t.2.2.2.1=0
 ·obtain⟨h1,h2,h3⟩:=h.good ht
  rw[h1,ht]
  simp only[Option.bind_some,bne_self_eq_false,cond_false]
  rw[show decide ((-1:Int)≥0)=false from rfl]
  simp only[cond_false]
  rcases h2 with⟨q1,x,q2,q3⟩ | ⟨q1,q2,-,-⟩
  ·rw[q2,q1,Option.bind_some,q3];rfl
  ·rw[q2,q1]
   simp only[Option.bind_some,bne_self_eq_false,Bool.not_true,cond_false]
   rcases h3 with⟨r1,r2⟩ | ⟨r1,f,r2,r3⟩
   ·rw[r2,r1]
    simp only[Option.bind_some,bne_self_eq_false,cond_false]
    rw[show decide ((-1:Int)≥0)=false from rfl]
    simp only[cond_false]
    cases decide (n.1>m.2.2.2.2.2.1) <;> simp only[cond_true,cond_false]
    cases decide (n.2.1>m.2.2.2.2.2.2.1) <;> simp only[cond_true,cond_false]
   ·rw[r3,r1]
    simp only[Option.bind_some]
    rw[decide_eq_true (show f≥0 from r2)]
    rfl
 ·obtain⟨h1,f,h2,h3⟩:=h.bad ht
  rw[h3,h1]
  simp only[Option.bind_some]
  rw[decide_eq_true (show f≥0 from h2)]
  rfl
theorem aM9 {m:Im} (h0:dS m≠0):kE m=some ([],dS m,()):=by
 have h0':(sC m !=0)=true:=by rw[aL6];simp[h0]
 unfold kE
 rw[h0']
 rfl
theorem aRs (m:Im):dW m=kE m:=by
 by_cases h0:dS m=0
 ·obtain⟨t,n,p,h⟩:=aKm (aDE h0)
  rw[nQ h0 h.told,aKX h0 h]
 ·rw[aER h0,aM9 h0]
theorem aLy {m:Im} {t n p} (h:aSf m t n p) (h0:(kY m t n p).2.1=0):kY m t n p=(t.1,0,())∧t.2.2.2.1=0∧n.2.2.1=0∧p.2.1=0∧n.1≤m.2.2.2.2.2.1∧n.2.1≤m.2.2.2.2.2.2.1∧iR m t.1=some (n.1,n.2.1,true,())∧0≤n.1∧0≤n.2.1:=by
 unfold kY at h0⊢
 by_cases ht:t.2.2.2.1=0
 ·obtain⟨-,h2,-⟩:=h.good ht
  rw[ht] at h0⊢
  simp only[bne_self_eq_false,cond_false] at h0⊢
  rcases h2 with⟨q1,-⟩ | ⟨q1,q2,q3,q4⟩
  ·rw[q1] at h0;cases h0
  ·rw[q1] at h0⊢
   simp only[bne_self_eq_false,cond_false] at h0⊢
   by_cases hp:p.2.1=0
   ·rw[hp] at h0⊢
    simp only[bne_self_eq_false,cond_false] at h0⊢
    by_cases a:n.1>m.2.2.2.2.2.1
    ·rw[decide_eq_true a] at h0;cases h0
    ·rw[decide_eq_false a] at h0⊢
     simp only[cond_false] at h0⊢
     by_cases b:n.2.1>m.2.2.2.2.2.2.1
     ·rw[decide_eq_true b] at h0;cases h0
     ·rw[decide_eq_false b]
      exact⟨rfl,trivial,trivial,trivial,by omega,by omega,q2,q3,q4⟩
   ·have:(p.2.1 !=0)=true:=by simp[hp]
    rw[this] at h0
    exact absurd h0 hp
 ·have:(t.2.2.2.1 !=0)=true:=by simp[ht]
  rw[this] at h0
  exact absurd h0 ht
theorem aOD {m:Im} {s h:Int} (he:aF (cA m s h)=aF m) {t n p} (ht:aAs m t n p):aAs (cA m s h) t n p:=
 ⟨by rw[aLd he];exact ht.check,ht.ok,by rw[aKH he];exact ht.needs,by rw[aLA he];exact ht.pot⟩
theorem aPM {m:Im} {s h s' h':Int} (h1:aR s 4096=true) (h2:aR h 4096=true) (h3:aR s' 4096=true) (h4:aR h' 4096=true):bC (cA m s h)=bC (cA m s' h'):=by
 unfold bC
 show (_&&(_&&(_&&(_&&(_&&(_&&(_&&(aR s 4096&&aR h 4096))))))))=(_&&(_&&(_&&(_&&(_&&(_&&(_&&(aR s' 4096&&aR h' 4096))))))))
 rw[h1,h2,h3,h4]
 rfl
theorem aRg {m:Im} {s h:Int} (hw1:aR s 4096=true) (hw2:aR h 4096=true) (h0:dS (cA m 4096 4096)=0) {t n p} (ht:aAs (cA m 4096 4096) t n p):dW (cA m s h)=some (kY (cA m s h) t n p):=by
 have hf:bC (cA m s h)=bC (cA m 4096 4096):=aPM hw1 hw2 rfl rfl
 have he:aF (cA (cA m 4096 4096) s h)=aF (cA m 4096 4096):=by
  show aF (cA m s h)=_
  unfold aF
  rw[hf,sV,sV]
 have hsc:dS (cA m s h)=0:=by
  rw[←h0]
  unfold dS
  rw[hf,sV,sV]
 exact nQ hsc (aOD (m:=cA m 4096 4096) he ht)
theorem aEz (m:Im):uV m=some (true,()):=by
 unfold uV
 rw[aNB]
 cases hsm:zC m
 ·rfl
 simp only[Bool.not_true,cond_false,Option.bind_some]
 show ((kE (cA m 4096 4096)).bind _)=_
 rw[←aRs]
 by_cases h0:dS (cA m 4096 4096)=0
 ·obtain⟨t,n,p,h⟩:=aKm (aDE h0)
  rw[nQ h0 h.told]
  simp only[Option.bind_some]
  by_cases hz:(kY (cA m 4096 4096) t n p).2.1=0
  ·obtain⟨z1,z2,z3,z4,z5,z6,z7,z8,z9⟩:=aLy h hz
   rw[z1]
   simp only[bne_self_eq_false,cond_false]
   have z7':iR (m.1,m.2.1,m.2.2.1,m.2.2.2.1,m.2.2.2.2.1,(4096:Int),(4096:Int),()) t.1=some (n.1,n.2.1,true,()):=z7
   rw[z7']
   simp only[Option.bind_some]
   change n.1≤4096 at z5
   change n.2.1≤4096 at z6
   have w:∀x:Int,0≤x→x≤4096→aR x 4096=true:=fun x h1 h2=>by unfold aR;rw[decide_eq_true h1,decide_eq_true h2];rfl
   have A:=fun s hh (a:aR s 4096=true) (b:aR hh 4096=true)=>aRg (m:=m) (s:=s) (h:=hh) a b h0 h.told
   have A0:dW (m.1,m.2.1,m.2.2.1,m.2.2.2.1,m.2.2.2.2.1,n.1,n.2.1,())=some (t.1,0,()):=by
    have:=A n.1 n.2.1 (w _ z8 z5) (w _ z9 z6)
    refine (show dW (cA m n.1 n.2.1)=_ from this).trans ?_
    unfold kY
    rw[z2,z3,z4]
    rw[show decide (n.1>(cA m n.1 n.2.1).2.2.2.2.2.1)=false from decide_eq_false (by show ¬n.1>n.1;omega),show decide (n.2.1>(cA m n.1 n.2.1).2.2.2.2.2.2.1)=false from decide_eq_false (by show ¬n.2.1>n.2.1;omega)]
    rfl
   have A7:∀s hh,aR s 4096=true→aR hh 4096=true→(s<n.1∨(n.1≤s∧hh<n.2.1))→dW (m.1,m.2.1,m.2.2.1,m.2.2.2.1,m.2.2.2.2.1,s,hh,())=some ([],7,()):=fun s hh a b hlt=>by
    have:=A s hh a b
    refine (show dW (cA m s hh)=_ from this).trans ?_
    unfold kY
    rw[z2,z3,z4]
    rcases hlt with hlt | ⟨h1,h2⟩
    ·rw[show decide (n.1>(cA m s hh).2.2.2.2.2.1)=true from decide_eq_true (by show n.1>s;omega)]
     rfl
    ·rw[show decide (n.1>(cA m s hh).2.2.2.2.2.1)=false from decide_eq_false (by show ¬n.1>s;omega),show decide (n.2.1>(cA m s hh).2.2.2.2.2.2.1)=true from decide_eq_true (by show n.2.1>hh;omega)]
     rfl
   rw[A0]
   simp only[Option.bind_some,bne_self_eq_false,cond_false]
   have fin:∀s:Int,s=n.1→(bif decide (n.2.1>0) then
      (dW (m.1,m.2.1,m.2.2.1,m.2.2.2.1,m.2.2.2.2.1,s,IntKind.i64.wrap (n.2.1 - 1),())).bind fun r9=>bif r9.2.1 !=7 then some (false,()) else some (true,())
     else some (true,()))=some (true,()):=fun s hs'=>by
    subst hs'
    by_cases hp:n.2.1>0
    ·rw[decide_eq_true hp,cond_true,eP (by omega) (by omega),A7 _ _ (w _ z8 z5) (w _ (by omega) (by omega)) (.inr ⟨Int.le_refl _,by omega⟩)]
     rfl
    ·rw[decide_eq_false hp];rfl
   by_cases hs1:n.1>0
   ·rw[decide_eq_true hs1,cond_true,eP (n:=n.1 - 1) (by omega) (by omega),A7 _ _ (w _ (by omega) (by omega)) (w _ z9 z6) (.inl (by omega))]
    simp only[Option.bind_some,bne_self_eq_false,cond_false]
    exact fin _ (by rw[eP (by omega) (by omega)];omega)
   ·rw[decide_eq_false hs1]
    simp only[cond_false,Option.bind_some]
    exact fin _ rfl
  ·have:((kY (cA m 4096 4096) t n p).2.1 !=0)=true:=by simp[hz]
   rw[this]
   rfl
 ·rw[aER h0]
  simp only[Option.bind_some]
  have:(dS (cA m 4096 4096) !=0)=true:=by simp[h0]
  rw[this]
  rfl
end Go.Pli
