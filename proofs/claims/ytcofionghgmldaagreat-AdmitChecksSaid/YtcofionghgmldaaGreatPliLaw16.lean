/- Whether an image is taken in: it is told of every image; more room does no harm. -/
import Derived.Test.YtcofionghgmldaaGreatPliTar
import Derived.Test.YtcofionghgmldaaGreatPliReach
import Derived.Test.YtcofionghgmldaaGreatPliInst
import Derived.Test.YtcofionghgmldaaGreatPMLaw
import Derived.Test.YtcofionghgmldaaGreatPliL5E
import Derived.KernelRfl
import Derived.Test.YtcofionghgmldaaGreatPliTy
namespace Go.Pli
open Go Go.PM
theorem aC8:∀l:List Int,(bM l).length≤l.length
 | []=>Nat.le_refl _
 | a::l=>by
  have:=aC8 l
  unfold bM
  cases h:bM l with
  | nil=>simp
  | cons b r=>
   rw[h] at this
   simp only[List.length_cons] at this⊢
   cases a==b <;> simp only[cond_true,cond_false,List.length_cons] <;> omega
theorem aBu {m:Im} (hs:aF m=true) {e:List Int} (he:e∈dE m):e.length≤1000∧∀x∈e,inM m x=true:=by
 obtain⟨f,hf,rfl⟩:=List.mem_map.1 he
 have hfm:inM m f=true:=aP.2 (cU.1 hf)
 have ht:=aD3 (aU hs).2
 constructor
 ·unfold ofB
  rw[hfm]
  simp only[cond_true]
  have h1:=aC8 (fX (aBG m f))
  have h2:=aSe (aU hs).1 hfm
  rw[(kA _).length_eq] at h1
  omega
 ·intro x hx
  exact aIs ht hfm ((aLW hfm).1 hx)
theorem aLP {m:Im} (hs:aF m=true):aEo m=true:=by
 simp only[aEo,List.all_eq_true,Bool.and_eq_true]
 intro e he
 obtain⟨h1,h2⟩:=aBu hs he
 exact⟨eA (by omega),h2⟩
theorem aKJ {m:Im} (hs:aF m=true) {l:List (List Sh)} (hl:dM l=true):∃r,kR m l=some r:=by
 have h12:=(bC (aU hs).1).methods
 have hlen:=aBl m
 obtain⟨r,hr,R⟩:=aDd (ED:=dE m) (by omega) fun e he=>(aBu hs he).1
 have hfew:=R.few
 have hall:(okL r&&r.all (fun p=>okL p&&p.all (inM m)))=true:=by
  simp only[Bool.and_eq_true,List.all_eq_true]
  refine⟨eA (by omega),fun p hp=>?_⟩
  have h4:∀x∈p,inM m x=true:=fun x hx=>by
   obtain⟨x0,x1⟩:=(R.all x).1 (List.mem_flatten.2 ⟨p,hp,hx⟩)
   exact aP.2 ⟨x0,by omega⟩
  have:=sO (a:=p) (b:=ints m.2.2.2.1.length) ((R.srt p hp).imp fun h=>by omega) fun x hx=>cU.2 (aP.1 (h4 x hx))
  rw[dF] at this
  exact⟨eA (by omega),h4⟩
 unfold kR oV
 rw[hs,hl,aLP hs,hr]
 simp only[Bool.and_self,cond_true,Option.bind_some,hall]
 exact⟨_,rfl⟩
theorem aDs {m:Im} (h:eK m=0):aF m=true:=by
 unfold eK at h
 unfold aF
 cases h1:bD m <;> cases h2:lK m <;> simp only[h1,h2,cond_true,cond_false] at h⊢ <;> first | rfl | (exact absurd h (by decide))
structure aD2 (m:Im) (t:List (List Sh)×Int×Int×Int×Unit) (n:Int×Int×Int×Unit) (p:Int×Int×Unit):Prop where
 check:kS m=some t
 ok:dM t.1=true
 needs:kR m t.1=some n
 pot:rT m t.1=some p
theorem told {m:Im} (hs:aF m=true):∃t n p,aD2 m t n p:=by
 obtain⟨t,h1,h2,-⟩:=aKN hs
 obtain⟨n,h3⟩:=aKJ hs h2
 exact⟨t,n,xC m t.1 (ints m.2.2.2.1.length),h1,h2,h3,by unfold rT;rw[hs,h2];rfl⟩
def jO (m:Im) (t:List (List Sh)×Int×Int×Int×Unit) (n:Int×Int×Int×Unit) (p:Int×Int×Unit):List (List Sh)×Int×Unit:=
 bif t.2.2.2.1 !=0 then ([],t.2.2.2.1,())
 else bif n.2.2.1 !=0 then ([],n.2.2.1,())
 else bif p.2.1 !=0 then ([],p.2.1,())
 else bif decide (n.1>m.2.2.2.2.2.1) then ([],7,())
 else bif decide (n.2.1>m.2.2.2.2.2.2.1) then ([],7,())
 else (t.1,0,())
theorem qW {m:Im} (h0:eK m=0) {t n p} (h:aD2 m t n p):iR m=some (jO m t n p):=by
 have h0':(eK m !=0)=false:=by simp[h0]
 unfold iR jO
 rw[h0',h.check]
 simp only[cond_false,Option.bind_some]
 cases t.2.2.2.1 !=0 <;> simp only[cond_true,cond_false]
 rw[h.needs]
 simp only[Option.bind_some]
 cases n.2.2.1 !=0 <;> simp only[cond_true,cond_false]
 rw[h.pot]
 simp only[Option.bind_some]
 cases p.2.1 !=0 <;> simp only[cond_true,cond_false]
 cases decide (n.1>m.2.2.2.2.2.1) <;> simp only[cond_true,cond_false]
 cases decide (n.2.1>m.2.2.2.2.2.2.1) <;> simp only[cond_true,cond_false]
theorem aFi {m:Im} (h0:eK m≠0):iR m=some ([],eK m,()):=by
 have h0':(eK m !=0)=true:=by simp[h0]
 unfold iR
 rw[h0']
 rfl
theorem aQm {m:Im} {t n p} (h:aD2 m t n p):dM (jO m t n p).1=true∧((jO m t n p).2.1≠0→(jO m t n p).1=[]):=by
 have hn:dM []=true:=by rfl
 unfold jO
 cases h1:t.2.2.2.1 !=0 <;> simp only[cond_true,cond_false]
 ·cases n.2.2.1 !=0 <;> simp only[cond_true,cond_false]
  ·cases p.2.1 !=0 <;> simp only[cond_true,cond_false]
   ·cases decide (n.1>m.2.2.2.2.2.1) <;> simp only[cond_true,cond_false]
    ·cases decide (n.2.1>m.2.2.2.2.2.2.1) <;> simp only[cond_true,cond_false]
     ·exact⟨h.ok,fun h=>absurd rfl h⟩
     ·exact⟨hn,fun _=>trivial⟩
    ·exact⟨hn,fun _=>trivial⟩
   ·exact⟨hn,fun _=>trivial⟩
  ·exact⟨hn,fun _=>trivial⟩
 ·exact⟨hn,fun _=>trivial⟩
def aUJ (m:Im) (s h:Int):Im:=(m.1,m.2.1,m.2.2.1,m.2.2.2.1,m.2.2.2.2.1,s,h,())
end Go.Pli

namespace Go.Pli
open Go Go.PM
end Go.Pli

namespace Go.Pli
open Go Go.PM
end Go.Pli

namespace Go.Pli
open Go Go.PM
theorem rY {l:List Int} {n:Int} (hb:fG l=true) (h0:0≤n) (h1:n<9223372036854775808):
  (∃v m:Nat,aMV l=some ((v:Int),(m:Int),())∧1≤m∧m≤l.length∧l.take m=enc v∧v<128 ^ 5∧(v:Int)≤n∧dC (l,false,()) n=some ((v:Int),(l.drop m,false,()),()))∨
  (∃(x y:Int) (l':List Int),aMV l=some (x,y,())∧¬(y>0∧x≤n)∧dC (l,false,()) n=some (0,(l',true,()),())):=by
 have hbs:fG (l.take 5)=true:=aKw 5 hb
 unfold dC next aMV
 simp only[hbs,cond_true,cond_false]
 have hw:IntKind.u64.wrap n=n:=by rw[IntKind.wrap_u64];omega
 have hn0:decide (n<0)=false:=decide_eq_false (by omega)
 cases hd:sJ 5 0 0 l with
 | none=>exact .inr ⟨0,0,l,rfl,by omega,rfl⟩
 | some x=>
  obtain⟨y,m,ok⟩:=x
  cases ok with
  | false=>exact .inr ⟨0,0,l.drop m,rfl,by omega,rfl⟩
  | true=>
   obtain⟨v,m',e1,e2,e3,e4,e5,e6,e7⟩:=aJk 5 0 0 l y m hbs hd
   have hy:y=v:=by omega
   have hm:m=m':=by omega
   subst hy;subst hm
   simp only[Option.bind_some,Bool.not_true,cond_false,hn0,hw]
   by_cases hgt:(y:Int)>n
   ·rw[decide_eq_true hgt]
    exact .inr ⟨_,_,l.drop m,rfl,by omega,rfl⟩
   ·rw[decide_eq_false hgt]
    have hw2:IntKind.i64.wrap (y:Int)=y:=w64 (by omega) (by omega)
    refine .inl ⟨y,m,rfl,e3,e4,?_,by omega,by omega,by simp only[cond_false,hw2]⟩
    rw[e5]
    exact (aLI e6 (by omega)).symm
structure aVQ (s:List Int) (at_:Nat) (bad:Bool) (r:Rd):Prop where
 le:at_≤s.length
 rd:r=(if bad then r.1 else s.drop at_,bad,())
end Go.Pli

namespace Go.Pli
open Go Go.PM
end Go.Pli

namespace Go.Pli
open Go Go.PM
structure Got {α:Type} (o:Option (α×Rd×Unit)) (l:List Int) (b:Bool) (C:α→List Int→Prop):Prop where
 ex:∃x l' bad,o=some (x,(l',bad,()),())∧fG l'=true∧(bad=true∨(b=false∧bad=false∧C x l'))
end Go.Pli

namespace Go.Pli
open Go Go.PM
theorem aD0 {α:Type} {f:Nat→Option α} {r:α} (K:Nat) (hK:f K=some r) (h:∀k,f k=none∨f k=some r):pick f=some r:=by
 unfold pick
 have hs:∃k,(f k).isSome:=⟨K,by rw[hK];rfl⟩
 rw[dif_pos hs]
 have:=hs.choose_spec
 rcases h hs.choose with h | h
 ·rw[h] at this;cases this
 ·exact h
theorem aPN:xS ([[]],[1],[1],[true],[0],1,[],()) 0=some (([[]],[1],[1],[false],[],1,[[0]],()),()):=by
 refine aD0 1 (by kernel_rfl) fun k=>?_
 match k with
 | 0=>exact .inl (by kernel_rfl)
 | k+1=>exact .inr (by kernel_rfl)
theorem aON:tO ([[]],[0],[0],[false],[],0,[],()) 0=some (([[]],[1],[1],[true],[0],1,[],()),()):=by kernel_rfl
theorem aGS (k:Nat) (rec):mL (k+1) ([((0:Int),(0:Int),())],[1],[1],[true],[0],[],([[]],(),(),(),(),1,(),()),()) rec=rec ([],[1],[1],[false],[],[[0]],([[]],(),(),(),(),1,(),()),()):=by
 have h1:∀rec3 rec5,qE ([((0:Int),(0:Int),())],[1],[1],[true],[0],[],([[]],(),(),(),(),1,(),()),()) rec3 ([((0:Int),(0:Int),())],0,[1],()) rec5=(xS ([[]],[1],[1],[true],[0],1,[],()) 0).bind fun r9=>rec3 ([],r9.1.2.1,r9.1.2.2.1,r9.1.2.2.2.1,r9.1.2.2.2.2.1,r9.1.2.2.2.2.2.2.1,(r9.1.1,(),(),(),(),r9.1.2.2.2.2.2.1,(),()),()):=fun rec3 rec5=>by kernel_rfl
 have h2:mL (k+1) ([((0:Int),(0:Int),())],[1],[1],[true],[0],[],([[]],(),(),(),(),1,(),()),()) rec=aA (qE ([((0:Int),(0:Int),())],[1],[1],[true],[0],[],([[]],(),(),(),(),1,(),()),()) rec) (k+1) ([((0:Int),(0:Int),())],0,[1],()):=by kernel_rfl
 rw[h2,aD,h1,aPN]
 rfl
theorem aJC:aCM ([[]],[0],[0],[false],[],0,[],()) 0=some (([[]],[1],[1],[false],[],1,[[0]],()),()):=by
 have h0:∀k,rL k ([[]],[0],[0],[false],[],0,[],()) 0=aA (mL k) k ([((0:Int),(0:Int),())],[1],[1],[true],[0],[],([[]],(),(),(),(),1,(),()),()):=by
  intro k
  unfold rL
  rw[aON]
  rfl
 have h2:∀k,rL (k+2) ([[]],[0],[0],[false],[],0,[],()) 0=some (([[]],[1],[1],[false],[],1,[[0]],()),()):=by
  intro k
  rw[h0,aD,aGS (k+1),aD]
  kernel_rfl
 refine aD0 2 (h2 0) fun k=>?_
 match k with
 | 0=>rw[h0];exact .inl rfl
 | 1=>rw[h0,aD,aGS 0];exact .inl rfl
 | k+2=>exact .inr (h2 k)
theorem aPF:nL [[]]=some ([[0]],()):=by
 have h0:∀k,uA k [[]]=aA (yA [[]]) k (0,[0],[0],[false],[],[],([[]],(),(),(),(),0,(),()),()):=fun k=>by kernel_rfl
 have h1:∀rec,yA [[]] (0,[0],[0],[false],[],[],([[]],(),(),(),(),0,(),()),()) rec=(aCM ([[]],[0],[0],[false],[],0,[],()) 0).bind fun r3=>rec (1,r3.1.2.1,r3.1.2.2.1,r3.1.2.2.2.1,r3.1.2.2.2.2.1,r3.1.2.2.2.2.2.2.1,(r3.1.1,(),(),(),(),r3.1.2.2.2.2.2.1,(),()),()):=fun rec=>by kernel_rfl
 have h2:∀k,uA (k+2) [[]]=some ([[0]],()):=by
  intro k
  rw[h0,aD,h1,aJC]
  simp only[Option.bind_some]
  rw[aD]
  kernel_rfl
 refine aD0 2 (h2 0) fun k=>?_
 match k with
 | 0=>rw[h0];exact .inl rfl
 | 1=>rw[h0,aD,h1,aJC];exact .inl rfl
 | k+2=>exact .inr (h2 k)
def uB (s:Int):Im:=([],[],[],[([],[],(5,0,()),[(33,0,0,())],0,0,[0],())],[0],s,0,())
theorem aHg {s:Int} (hs:aF (uB s)=true) (ht:kS (uB s)=some ([[(true,[],())]],0,0,0,())) (hp:rT (uB s) [[(true,[],())]]=some (0,0,())):aD2 (uB s) ([[(true,[],())]],0,0,0,()) (3,0,0,()) (0,0,()):=by
 refine⟨ht,rfl,?_,hp⟩
 have h1:dE (uB s)=[[]]:=by kernel_rfl
 have h2:aEo (uB s)=true:=by kernel_rfl
 have h3:dM [[((true,[],()):Sh)]]=true:=by rfl
 unfold kR oV
 rw[hs,h1,h2,h3,aPF]
 show _=_
 kernel_rfl
theorem aVz:aD2 (uB 3) ([[(true,[],())]],0,0,0,()) (3,0,0,()) (0,0,()):=aHg (by kernel_rfl) (by kernel_rfl) (by kernel_rfl)
theorem tiny2:aD2 (uB 2) ([[(true,[],())]],0,0,0,()) (3,0,0,()) (0,0,()):=aHg (by kernel_rfl) (by kernel_rfl) (by kernel_rfl)
theorem aM3:awake16N=some (true,()):=by
 have c3:iR (uB 3)=some ([[(true,[],())]],0,()):=(qW (by kernel_rfl) aVz).trans (by kernel_rfl)
 have c2:iR (uB 2)=some ([],7,()):=(qW (by kernel_rfl) tiny2).trans (by kernel_rfl)
 have n2:=tiny2.needs
 have b0:aGM []=some ((([],[],[],[],[],0,0,()):Im),[],2,()):=by kernel_rfl
 unfold awake16N
 simp only[uB] at c3 c2 n2
 rw[c3,c2,b0]
 simp only[Option.bind_some]
 rw[n2]
 show _=_
 kernel_rfl
end Go.Pli

namespace Go.Pli
open Go Go.PM
theorem aKo {m:Im} {f:Int}:∀(n:Nat) (h:List Sh) (q:List Bool) (r),nP m f n h q=some r→r.2.2.1=0∨r.2.2.1=4
 | 0,_,_,_,h=>by cases h
 | n+1,h,q,r,hr=>by
  unfold nP at hr
  cases ha:q.any id <;> simp only[ha,cond_true,cond_false] at hr
  ·have:=Option.some.inj hr
   subst this
   exact .inl rfl
  ·cases ht:sM m f (q.findIdx id:Int) h (q.set (q.findIdx id) false) with
   | none=>rw[ht] at hr;cases hr
   | some z=>
    rw[ht,Option.bind_some] at hr
    cases hz:z.1 <;> simp only[hz,Bool.not_true,Bool.not_false,cond_true,cond_false] at hr
    ·have:=Option.some.inj hr
     subst this
     exact .inr rfl
    ·exact aKo n _ _ r hr
theorem aM6 {m:Im} {f:Int} {r} (h:iT m f=some r):r.2.2.1=0∨r.2.2.1=4:=by
 unfold iT at h
 cases hg:aF m&&inM m f <;> simp only[hg,cond_true,cond_false] at h
 ·cases h
 ·exact aKo _ _ _ _ h
theorem wY {m:Im} (hs:aF m=true):∀(l:List Int) (out:List (List Sh)) (r),(∀f∈l,inM m f=true)→nK m l out=some r→
  (r.2.2.2.1=0∨r.2.2.2.1=4)∧(r.2.2.2.1=0→∃add,r.1=out++add∧add.length=l.length∧∀k,k<l.length→PF m (l.getD k 0) (add.getD k []))
 | [],out,r,_,hr=>by
  have:=Option.some.inj hr
  subst this
  exact⟨.inl rfl,fun _=>⟨[],by simp,rfl,fun _ h=>by cases h⟩⟩
 | f::l,out,r,hl,hr=>by
  have hf:=hl f (List.mem_cons_self ..)
  obtain⟨z,hz,-,-,-,hP⟩:=aA1 hs hf
  unfold nK at hr
  rw[hz,Option.bind_some] at hr
  cases he:z.2.2.1 !=0 <;> simp only[he,cond_true,cond_false] at hr
  ·have h0:z.2.2.1=0:=by simpa using he
   obtain⟨i1,i2⟩:=wY hs l (out++[z.1]) r (fun x hx=>hl x (List.mem_cons_of_mem _ hx)) hr
   refine⟨i1,fun hr0=>?_⟩
   obtain⟨add,a1,a2,a3⟩:=i2 hr0
   refine⟨z.1::add,by rw[a1];simp,by simp[a2],fun k hk=>?_⟩
   cases k with
   | zero=>exact hP h0
   | succ k=>
    rw[List.getD_cons_succ,List.getD_cons_succ]
    exact a3 k (by simpa using hk)
  ·have h0:z.2.2.1≠0:=by simpa using he
   have:=Option.some.inj hr
   subst this
   refine⟨.inr ((aM6 hz).resolve_left h0),fun h=>absurd h h0⟩
structure aSm (m:Im) (t:List (List Sh)×Int×Int×Int×Unit) (n:Int×Int×Int×Unit) (p:Int×Int×Unit):Prop where
 told:aD2 m t n p
 bad:t.2.2.2.1≠0→t.2.2.2.1=4∧∃f,0≤f∧rF m=some ([],f,())
 good:t.2.2.2.1=0→rF m=some (t.1,-1,())∧
  ((n.2.2.1=5∧∃x,jH m t.1=some x∧x.2.2.1=false)∨(n.2.2.1=0∧jH m t.1=some (n.1,n.2.1,true,())∧0≤n.1∧0≤n.2.1))∧
  ((p.2.1=0∧oK m t.1=some (-1,()))∨(p.2.1=6∧∃f,0≤f∧oK m t.1=some (f,())))
theorem aB3 (m:Im) (bd:List Int):∀(q:List Int) (s h:Int),0≤s→0≤h→0≤(dS m bd q s h).1∧0≤(dS m bd q s h).2∧s≤(dS m bd q s h).1
 | [],s,h,h1,h2=>⟨h1,h2,Int.le_refl _⟩
 | f::q,s,h,h1,h2=>by
  unfold dS
  cases decide (f≥0)&&decide (f<(bd.length:Int)) <;> simp only[cond_true,cond_false]
  ·exact aB3 m bd q s h h1 h2
  ·obtain⟨i1,i2,i3⟩:=aB3 m bd q (max s (bd.getD f.toNat 0)) (max h (dD m f)) (by omega) (by omega)
   exact⟨i1,i2,by omega⟩
theorem aBY {m:Im} (hs:aF m=true) (bd:List Int):∀(q:List Int) (s h:Int),(∀f∈q,inM m f=true)→h≤4096→(dS m bd q s h).2≤4096
 | [],_,_,_,h=>h
 | f::q,s,h,hq,h2=>by
  have hf:=aHb hs (hq f (List.mem_cons_self ..))
  unfold dS
  cases decide (f≥0)&&decide (f<(bd.length:Int)) <;> simp only[cond_true,cond_false]
  ·exact aBY hs bd q s h (fun x hx=>hq x (List.mem_cons_of_mem _ hx)) h2
  ·exact aBY hs bd q _ _ (fun x hx=>hq x (List.mem_cons_of_mem _ hx)) (by omega)
theorem aI0 {m:Im} (hs:aF m=true):∃t n p,aSm m t n p:=by
 obtain⟨t,n,p,ht⟩:=told hs
 refine⟨t,n,p,ht,fun h0=>?_,fun h0=>?_⟩
 ·obtain⟨t',h1,-,h3⟩:=aEO hs
  rw[ht.check] at h1
  have:=Option.some.inj h1
  subst this
  obtain⟨h4,h5⟩:=h3 h0
  have hc:=ht.check
  unfold kS at hc
  rw[hs] at hc
  simp only[cond_true] at hc
  obtain⟨i1,-⟩:=wY hs _ _ _ (fun f hf=>aP.2 (cU.1 hf)) hc
  exact⟨i1.resolve_left h0,t.2.1,(aP.1 h5).1,h4⟩
 ·obtain⟨t',h1,h2,-⟩:=aEO hs
  rw[ht.check] at h1
  have:=Option.some.inj h1
  subst this
  obtain⟨h4,h5⟩:=h2 h0
  have hc:=ht.check
  unfold kS at hc
  rw[hs] at hc
  simp only[cond_true] at hc
  obtain⟨-,i2⟩:=wY hs _ _ _ (fun f hf=>aP.2 (cU.1 hf)) hc
  obtain⟨add,a1,a2,a3⟩:=i2 h0
  rw[List.nil_append] at a1
  rw[dF] at a2 a3
  have P:∀f,inM m f=true→PF m f (t.1.getD f.toNat []):=fun f hf=>by
   obtain⟨f0,f1⟩:=aP.1 hf
   have hk:f.toNat<m.2.2.2.1.length:=by omega
   have:=a3 f.toNat hk
   rw[aDQ hk,Int.toNat_of_nonneg f0] at this
   rw[a1];exact this
  have hmaps:aBB m t.1=true:=by
   simp only[aBB,Bool.and_eq_true,decide_eq_true_eq,List.all_eq_true]
   exact⟨ht.ok,h5,fun f hf=>(P f (aP.2 (cU.1 hf))).gd.len⟩
  have htg:=aD3 (aU hs).2
  have hed:=aQO htg
  have h12:=(bC (aU hs).1).methods
  have hsm:=aLq (aU hs).1
  have hen:=aEU hs
  have hst:m.2.1.length≤8:=by
   have:=(bC (aU hs).1).statics
   simp only[cP,Bool.and_eq_true,decide_eq_true_eq] at this
   omega
  refine⟨h4,?_,?_⟩
  ·have hb:mM m t.1=some (kM m t.1):=by unfold mM;rw[hs,ht.ok,htg,hsm];rfl
   have hn14:jH m t.1=some (aIa m (kM m t.1)):=by unfold jH;rw[hs,hb];rfl
   obtain⟨r,hr,R⟩:=aDd (ED:=dE m) (by rw[aBl];omega) fun e he=>(aBu hs he).1
   rw[hed] at R
   have hall:(okL r&&r.all (fun p=>okL p&&p.all (inM m)))=true:=by
    have hfew:=R.few
    rw[cZ] at hfew
    simp only[Bool.and_eq_true,List.all_eq_true]
    refine⟨eA (by omega),fun p hp=>?_⟩
    have hpi:∀x∈p,inM m x=true:=fun x hx=>by
     have:=iI R hp hx
     rw[inN,cZ] at this
     exact aP.2 this
    refine⟨eA ?_,hpi⟩
    have:=sO (a:=p) (b:=ints m.2.2.2.1.length) ((R.srt p hp).imp fun h=>by omega) fun x hx=>cU.2 (aP.1 (hpi x hx))
    rw[dF] at this
    omega
   have hd:kR m t.1=some (aIc m (kT m t.1 (aG m) r (List.replicate m.2.2.2.1.length 0))):=by
    unfold kR oV
    rw[hs,ht.ok,aLP hs,hr,hed]
    simp only[Bool.and_self,cond_true,Option.bind_some,hall]
   have hn:=ht.needs
   rw[hd] at hn
   have hn:=Option.some.inj hn
   obtain⟨B1,B2⟩:=aSD (l:=t.1) R
   cases hsh:fU m
   ·obtain⟨V,-,v1,v2⟩:=B2 hsh
    refine .inr ?_
    rw[hn14,v2]
    rw[v1] at hn
    have hp:=aB3 m V m.2.2.2.2.1 0 0 (Int.le_refl _) (Int.le_refl _)
    have hq:=aBY hs V m.2.2.2.2.1 0 0 hen (by decide)
    have hw:IntKind.i64.wrap ((m.2.1.length:Int)+(dS m V m.2.2.2.2.1 0 0).2)=(m.2.1.length:Int)+(dS m V m.2.2.2.2.1 0 0).2:=hC (by omega) (by omega)
    rw[←hn]
    unfold aIc aIa
    simp only[bne_self_eq_false,cond_true,cond_false,hw]
    exact⟨trivial,trivial,hp.1,by omega⟩
   ·obtain⟨v1,v2⟩:=B1 hsh
    refine .inl ?_
    rw[hn14,v2]
    rw[v1] at hn
    rw[←hn]
    exact⟨rfl,_,rfl,rfl⟩
  ·have h14:oK m t.1=some (aCP m t.1,()):=by unfold oK;rw[hs,hmaps];rfl
   have hp:=ht.pot
   unfold rT at hp
   rw[hs,ht.ok] at hp
   simp only[Bool.and_self,cond_true] at hp
   have hp:=Option.some.inj hp
   rw[h14,←hp]
   rcases aRK hs P with⟨q1,q2⟩ | ⟨q1,q2⟩
   ·exact .inl ⟨q1,by rw[q2]⟩
   ·exact .inr ⟨q1,_,q2,rfl⟩
theorem aLx (m:Im):rZ m=eK m:=rfl
theorem aK0 {m:Im} (h0:eK m=0) {t n p} (h:aSm m t n p):lT m=some (jO m t n p):=by
 have h0':(rZ m !=0)=false:=by rw[aLx,h0];rfl
 unfold lT jO
 rw[h0']
 simp only[cond_false]
 by_cases ht:t.2.2.2.1=0
 ·obtain⟨h1,h2,h3⟩:=h.good ht
  rw[h1,ht]
  simp only[Option.bind_some,bne_self_eq_false,cond_false]
  rw[show decide ((-1:Int)≥0)=false from rfl]
  simp only[cond_false]
  rcases h2 with⟨q1,x,q2,q3⟩ | ⟨q1,q2,-,-⟩
  ·rw[q2,q1,Option.bind_some,q3];rfl
  ·rw[q2,q1]
   simp only[Option.bind_some,bne_self_eq_false,Bool.not_true,cond_false]
   rcases h3 with⟨r1,r2⟩ | ⟨r1,f,r2,r3⟩
   ·rw[r2,r1]
    simp only[Option.bind_some,bne_self_eq_false,cond_false]
    rw[show decide ((-1:Int)≥0)=false from rfl]
    simp only[cond_false]
    cases decide (n.1>m.2.2.2.2.2.1) <;> simp only[cond_true,cond_false]
    cases decide (n.2.1>m.2.2.2.2.2.2.1) <;> simp only[cond_true,cond_false]
   ·rw[r3,r1]
    simp only[Option.bind_some]
    rw[decide_eq_true (show f≥0 from r2)]
    rfl
 ·obtain⟨h1,f,h2,h3⟩:=h.bad ht
  rw[h3,h1]
  simp only[Option.bind_some]
  rw[decide_eq_true (show f≥0 from h2)]
  rfl
theorem aNl {m:Im} (h0:eK m≠0):lT m=some ([],eK m,()):=by
 have h0':(rZ m !=0)=true:=by rw[aLx];simp[h0]
 unfold lT
 rw[h0']
 rfl
theorem aRn (m:Im):iR m=lT m:=by
 by_cases h0:eK m=0
 ·obtain⟨t,n,p,h⟩:=aI0 (aDs h0)
  rw[qW h0 h.told,aK0 h0 h]
 ·rw[aFi h0,aNl h0]
theorem aLk {m:Im} {t n p} (h:aSm m t n p) (h0:(jO m t n p).2.1=0):jO m t n p=(t.1,0,())∧t.2.2.2.1=0∧n.2.2.1=0∧p.2.1=0∧n.1≤m.2.2.2.2.2.1∧n.2.1≤m.2.2.2.2.2.2.1∧jH m t.1=some (n.1,n.2.1,true,())∧0≤n.1∧0≤n.2.1:=by
 unfold jO at h0⊢
 by_cases ht:t.2.2.2.1=0
 ·obtain⟨-,h2,-⟩:=h.good ht
  rw[ht] at h0⊢
  simp only[bne_self_eq_false,cond_false] at h0⊢
  rcases h2 with⟨q1,-⟩ | ⟨q1,q2,q3,q4⟩
  ·rw[q1] at h0;cases h0
  ·rw[q1] at h0⊢
   simp only[bne_self_eq_false,cond_false] at h0⊢
   by_cases hp:p.2.1=0
   ·rw[hp] at h0⊢
    simp only[bne_self_eq_false,cond_false] at h0⊢
    by_cases a:n.1>m.2.2.2.2.2.1
    ·rw[decide_eq_true a] at h0;cases h0
    ·rw[decide_eq_false a] at h0⊢
     simp only[cond_false] at h0⊢
     by_cases b:n.2.1>m.2.2.2.2.2.2.1
     ·rw[decide_eq_true b] at h0;cases h0
     ·rw[decide_eq_false b]
      exact⟨rfl,trivial,trivial,trivial,by omega,by omega,q2,q3,q4⟩
   ·have:(p.2.1 !=0)=true:=by simp[hp]
    rw[this] at h0
    exact absurd h0 hp
 ·have:(t.2.2.2.1 !=0)=true:=by simp[ht]
  rw[this] at h0
  exact absurd h0 ht
theorem aEG (m:Im):uG m=some (true,()):=by
 unfold uG
 rw[aM3]
 cases hsm:yD m
 ·rfl
 simp only[Bool.not_true,cond_false,Option.bind_some,cond_true]
 rw[←aRn m]
 by_cases h0:eK m=0
 ·obtain⟨t,n,p,h⟩:=aI0 (aDs h0)
  rw[qW h0 h.told]
  simp only[Option.bind_some]
  obtain⟨a1,a2⟩:=aQm h.told
  by_cases hz:(jO m t n p).2.1=0
  ·obtain⟨z1,z2,z3,z4,z5,z6,z7,-,-⟩:=aLk h hz
   have hsame:yH t.1 t.1=some (true,()):=by unfold yH;rw[h.told.ok];simp
   rw[z1]
   simp only[bne_self_eq_false,cond_false]
   rw[h.told.needs,z7]
   simp only[Option.bind_some]
   rw[hsame,z3]
   simp only[Option.bind_some,beq_self_eq_true,cond_true]
   rw[decide_eq_true z5,decide_eq_true z6]
   rfl
  ·have:((jO m t n p).2.1 !=0)=true:=by simp[hz]
   rw[this,a2 hz]
   simp
 ·rw[aFi h0]
  simp only[Option.bind_some]
  have:(eK m !=0)=true:=by simp[h0]
  rw[this]
  simp
end Go.Pli
