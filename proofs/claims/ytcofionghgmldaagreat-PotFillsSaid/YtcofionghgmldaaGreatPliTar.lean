/- The finder of rings ends, and names what there is. -/
import Derived.Test.YtcofionghgmldaaGreatPliTy
import Derived.Test.YtcofionghgmldaaGreatPliReach
import Derived.Test.YtcofionghgmldaaGreatPliNt
namespace Go.Pli
open Go Go.PM
theorem aH9 {S R:Type} {L:S→(S→Option R)→Option R} {I:S→Prop} {μ:S→Nat} {Q:R→Prop} {few:Prop}
  (h:∀s rec,I s→(∃r,L s rec=some r∧Q r)∨(∃s',L s rec=rec s'∧I s'∧μ s'<μ s)∨(L s rec=none∧few)):∀(k:Nat) (s:S),I s→(∃r,aE L k s=some r∧Q r)∨(aE L k s=none∧(k≤μ s∨few))
 | 0,s,_=> .inr ⟨rfl,.inl (dL _)⟩
 | k+1,s,hs=>by
  rw[aZ]
  rcases h s (aE L k) hs with h1 | ⟨s',h1,hs',hm⟩ | h1
  ·exact .inl h1
  ·rw[h1]
   rcases aH9 h k s' hs' with h2 | ⟨h2,hk⟩
   ·exact .inl h2
   ·refine .inr ⟨h2,?_⟩
    rcases hk with hk | hk
    ·exact .inl (by omega)
    ·exact .inr hk
  ·exact .inr ⟨h1.1,.inr h1.2⟩
theorem aH8 {S R:Type} {L:S→(S→Option R)→Option R} {I:S→Prop} {μ:S→Nat} {E:Option R→Prop}
  (h:∀s rec,I s→E (L s rec)∨∃s',L s rec=rec s'∧I s'∧μ s'<μ s):∀(k:Nat) (s:S),I s→E (aE L k s)∨(aE L k s=none∧k≤μ s)
 | 0,s,_=> .inr ⟨rfl,dL _⟩
 | k+1,s,hs=>by
  rw[aZ]
  rcases h s (aE L k) hs with h1 | ⟨s',h1,hs',hm⟩
  ·exact .inl h1
  ·rw[h1]
   rcases aH8 h k s' hs' with h2 | ⟨h2,hk⟩
   ·exact .inl h2
   ·exact .inr ⟨h2,by omega⟩
def isZ (x:Int):Nat:=if x=0 then 1 else 0
def zn (l:List Int):Nat:=bE (l.map isZ)
theorem xQ:∀l:List Int,zn l≤l.length
 | []=>aU _
 | x::l=>by
  have:=xQ l
  unfold zn isZ at*
  simp only[dO,bE,aF]
  split <;> omega
theorem aKW {l:List Int} {k:Nat} {y:Int} (hk:k<l.length) (h0:l.getD k 0=0) (hy:y≠0):zn (l.set k y)+1=zn l:=by
 have:=sJ isZ 0 l k y hk
 rw[h0] at this
 have e1:isZ 0=1:=rfl
 have e2:isZ y=0:=by simp[isZ,hy]
 unfold zn
 omega
def inN (ED:List (List Int)) (x:Int):Prop:=0≤x∧x<(ED.length:Int)
structure FI (ED:List (List Int)) (idx low:List Int) (on:List Bool) (stk:List Int) (met:Int) (out:List (List Int)):Prop where
 il:idx.length=ED.length
 ll:low.length=ED.length
 ol:on.length=ED.length
 nd:stk.Nodup
 inr:∀x∈stk,inN ED x
 mt:∀x∈stk,idx.getD x.toNat 0≠0
 cnt:met+(zn idx:Int)=(ED.length:Int)
 outs:∀p∈out,p.length≤ED.length∧∀x∈p,inN ED x
 sz:out.length+stk.length+zn idx≤ED.length
theorem aFa {n:Nat} (h:0<n) (h2:n<1000000):IntKind.i64.wrap ((n:Int) - 1)=((n - 1:Nat):Int):=by
 rw[cY] <;> omega
theorem aEE {ED:List (List Int)} {idx low:List Int} {on:List Bool} {stk:List Int} {met:Int} {out:List (List Int)} (hN:ED.length≤1000) (h:FI ED idx low on stk met out) {n:Int} (hn:inN ED n) (h0:idx.getD n.toNat 0=0):
  wT (ED,idx,low,on,stk,met,out,()) n=some ((ED,idx.set n.toNat (met+1),low.set n.toNat (met+1),on.set n.toNat true,stk++[n],met+1,out,()),())∧FI ED (idx.set n.toNat (met+1)) (low.set n.toNat (met+1)) (on.set n.toNat true) (stk++[n]) (met+1) out∧zn (idx.set n.toNat (met+1))+1=zn idx:=by
 obtain⟨n0,n1⟩:=hn
 have hz:=xQ idx
 have hcnt:=h.cnt
 have hil:=h.il
 have hm0:0≤met:=by omega
 have hk:n.toNat<idx.length:=by omega
 have hzs:=aKW (y:=met+1) hk h0 (by omega)
 have hsz:=h.sz
 have hw:IntKind.i64.wrap (met+1)=met+1:=by rw[cY] <;> omega
 have e1:n<(idx.length:Int):=by omega
 have e2:n<(low.length:Int):=by rw[h.ll];omega
 have e3:n<(on.length:Int):=by rw[h.ol];omega
 have e4:decide (stk.length+[n].length<rowMax)=true:=aI (by simp only[aF,bK,rowMax];omega)
 have hnot:n∉stk:=fun hm=>h.mt n hm h0
 refine⟨?_,⟨?_,?_,?_,?_,?_,?_,?_,h.outs,?_⟩,hzs⟩
 ·unfold wT
  simp only[n0,e1,e2,e3,e4,hw,aN,aH,aA]
 ·rw[cX,h.il]
 ·rw[cX,h.ll]
 ·rw[cX,h.ol]
 ·rw[xL]
  refine⟨h.nd,by simp,fun a ha b hb=>?_⟩
  rw[dV] at hb
  subst hb
  rintro rfl
  exact hnot ha
 ·intro x hx
  rcases cJ.1 hx with hx | hx
  ·exact h.inr x hx
  ·rw[dV] at hx;subst hx;exact⟨n0,n1⟩
 ·intro x hx
  by_cases he:x.toNat=n.toNat
  ·rw[he,dA,uK hk]
   simp;omega
  ·have hne:¬n.toNat=x.toNat:=fun hh=>he hh.symm
   rw[dA,qG hne,←dA]
   rcases cJ.1 hx with hx | hx
   ·exact h.mt x hx
   ·rw[dV] at hx;subst hx;exact absurd rfl he
 ·omega
 ·simp only[aX,aF,bK]
  omega
abbrev F2:=List Tp×List Int×List Int×List Bool×List Int×List (List Int)×(List (List Int)×Unit×Unit×Unit×Unit×Int×Unit×Unit)×Unit
def kG (w:List Tp):Nat:=bE (w.map fun p=>1002 - p.2.1.toNat)
structure WI (ED:List (List Int)) (s:F2):Prop where
 fi:FI ED s.2.1 s.2.2.1 s.2.2.2.1 s.2.2.2.2.1 s.2.2.2.2.2.2.1.2.2.2.2.2.1 s.2.2.2.2.2.1
 ed:s.2.2.2.2.2.2.1.1=ED
 way:(s.1.map fun p=>p.1).Sublist s.2.2.2.2.1
 edge:∀p∈s.1,0≤p.2.1∧p.2.1≤1000
def muF (s:F2):Nat:=1003*zn s.2.1+kG s.1
theorem aFC:∀a b:List Nat,bE (a++b)=bE a+bE b
 | [],b=>by simp[bE]
 | x::a,b=>by simp only[sA,bE,aFC a b];omega
theorem uR (a b:List Tp):kG (a++b)=kG a+kG b:=by unfold kG;rw[jZ,aFC]
theorem aMK {α:Type} (a:List α) (x y:α):(a++[x]).set a.length y=a++[y]:=by simp
theorem aQQ {α:Type} (a:List α) (x z:α):(a++[x]).getD a.length z=x:=by simp
theorem uQ (n e:Int):kG [(n,e,())]=1002 - e.toNat:=by simp[kG,bE]
theorem FI.withLow {ED:List (List Int)} {idx low low2:List Int} {on:List Bool} {stk:List Int} {met:Int} {out:List (List Int)} (h:FI ED idx low on stk met out) (hl:low2.length=ED.length):FI ED idx low2 on stk met out:=
 ⟨h.il,hl,h.ol,h.nd,h.inr,h.mt,h.cnt,h.outs,h.sz⟩
end Go.Pli

namespace Go.Pli
open Go Go.PM
abbrev ix (l:List Int) (x:Int):Int:=l.getD x.toNat 0
def Eg (ED:List (List Int)) (x y:Int):Prop:=inN ED x∧inN ED y∧y∈ED.getD x.toNat []
inductive Rt (ED:List (List Int)):Int→Int→Prop
 | refl (x:Int):Rt ED x x
 | step {x y z:Int}:Eg ED x y→Rt ED y z→Rt ED x z
theorem Rt.trans {ED:List (List Int)} {x y z:Int} (h1:Rt ED x y) (h2:Rt ED y z):Rt ED x z:=by
 induction h1 with
 | refl _=>exact h2
 | step e _ ih=>exact .step e (ih h2)
theorem Rt.one {ED:List (List Int)} {x y:Int} (h:Eg ED x y):Rt ED x y:= .step h (.refl y)
theorem Rt.stay {ED:List (List Int)} {T:Int→Prop} (hT:∀x y,T x→Eg ED x y→T y) {x y:Int} (h:Rt ED x y):T x→T y:=by
 induction h with
 | refl _=>exact fun h=>h
 | step e _ ih=>exact fun h=>ih (hT _ _ h e)
abbrev N1 (way:List Tp):List Int:=way.map fun p=>p.1
def aE5 (ED:List (List Int)) (way:List Tp) (x:Int) (k:Nat):Prop:=k<(ED.getD x.toNat []).length∧∀p∈way,p.1=x→(k:Int)<p.2.1
structure TI (ED:List (List Int)) (way:List Tp) (idx low:List Int) (on:List Bool) (stk:List Int) (met:Int) (out:List (List Int)):Prop where
 fi:FI ED idx low on stk met out
 wsub:(N1 way).Sublist stk
 edge:∀p∈way,0≤p.2.1∧p.2.1≤1000
 hon:∀x,inN ED x→(on.getD x.toNat false=true↔x∈stk)
 hmet:∀x,inN ED x→(ix idx x≠0↔x∈stk∨x∈out.flatten)
 top:∀x∈stk,ix idx x≤met
 asc:stk.Pairwise fun a b=>ix idx a<ix idx b
 dis:∀x∈stk,x∉out.flatten
 ond:out.flatten.Nodup
 srt:∀p∈out,p.Pairwise (·<·)
 str:∀p∈out,∀x∈p,∀y∈p,Rt ED x y
 clo:∀pre p suf,out=pre++p::suf→∀x∈p,∀y,Eg ED x y→y∈p∨y∈pre.flatten
 down:∀w∈N1 way,∀x∈stk,ix idx w≤ix idx x→Rt ED w x
 up:∀x∈stk,x∉N1 way→∃y∈stk,ix idx y<ix idx x∧Rt ED x y
 low1:∀w∈N1 way,ix low w≤ix idx w∧∃z∈stk,ix idx z=ix low w∧Rt ED w z
 own:∀x∈stk,∃w∈N1 way,ix idx w≤ix idx x
 seen:∀w∈N1 way,∀x∈stk,ix idx w≤ix idx x→(∀w'∈N1 way,ix idx w'≤ix idx x→ix idx w'≤ix idx w)→
  ∀k,aE5 ED way x k→inN ED ((ED.getD x.toNat []).getD k 0)→(ED.getD x.toNat []).getD k 0∈out.flatten∨((ED.getD x.toNat []).getD k 0∈stk∧ix low w≤ix idx ((ED.getD x.toNat []).getD k 0))
theorem aHp {α:Type} {R:α→α→Prop}:∀{l:List α},l.Pairwise R→∀x∈l,∀y∈l,x≠y→R x y∨R y x
 | [],_,_,h,_,_,_=>by cases h
 | a::l,hp,x,hx,y,hy,hne=>by
  obtain⟨h1,h2⟩:=jY.1 hp
  rcases bL.1 hx with e | hx'
  ·rcases bL.1 hy with e2 | hy'
   ·exact absurd (e.trans e2.symm) hne
   ·exact .inl (by rw[e];exact h1 y hy')
  ·rcases bL.1 hy with e2 | hy'
   ·exact .inr (by rw[e2];exact h1 x hx')
   ·exact aHp h2 x hx' y hy' hne
section
variable {ED:List (List Int)} {way:List Tp} {idx low:List Int} {on:List Bool} {stk:List Int} {met:Int} {out:List (List Int)}
theorem TI.inj (T:TI ED way idx low on stk met out) {x y:Int} (hx:x∈stk) (hy:y∈stk) (h:ix idx x=ix idx y):x=y:=
 Classical.byContradiction fun hne=>by rcases aHp T.asc x hx y hy hne with h' | h' <;> omega
theorem TI.sub (T:TI ED way idx low on stk met out) {w:Int} (h:w∈N1 way):w∈stk:=T.wsub.subset h
theorem TI.wasc (T:TI ED way idx low on stk met out):(N1 way).Pairwise fun a b=>ix idx a<ix idx b:=T.asc.sublist T.wsub
theorem xU {a b:List Tp} {u e:Int} (T:TI ED (a++(u,e,())::b) idx low on stk met out) (he:0≤e+1∧e+1≤1000)
  (hy:∀k:Nat,(k:Int)=e→k<(ED.getD u.toNat []).length→inN ED ((ED.getD u.toNat []).getD k 0)→(ED.getD u.toNat []).getD k 0∈out.flatten∨((ED.getD u.toNat []).getD k 0∈stk∧ix low u≤ix idx ((ED.getD u.toNat []).getD k 0))):
  TI ED (a++(u,e+1,())::b) idx low on stk met out:=by
 have hN:N1 (a++(u,e+1,())::b)=N1 (a++(u,e,())::b):=by simp
 have hu:u∈N1 (a++(u,e,())::b):=by simp
 refine⟨T.fi,by rw[hN];exact T.wsub,fun p hp=>?_,T.hon,T.hmet,T.top,T.asc,T.dis,T.ond,T.srt,T.str,T.clo,by rw[hN];exact T.down,by rw[hN];exact T.up,by rw[hN];exact T.low1,by rw[hN];exact T.own,?_⟩
 ·rcases cJ.1 hp with hp | hp
  ·exact T.edge p (eS _ hp)
  ·rcases bL.1 hp with rfl | hp
   ·exact he
   ·exact T.edge p (List.mem_append_right _ (bJ _ hp))
 ·rw[hN]
  intro w hw x hx h1 h2 k hk hin
  by_cases hxu:x=u∧(k:Int)=e
  ·obtain⟨rfl,hk2⟩:=hxu
   have:ix idx x≤ix idx w:=h2 x hu (fD _)
   have:w=x:=T.inj (T.sub hw) hx (by omega)
   subst this
   exact hy k hk2 hk.1 hin
  ·refine T.seen w hw x hx h1 h2 k ⟨hk.1,fun p hp hpx=>?_⟩ hin
   have hcase:p=(u,e,())∨p∈a++(u,e+1,())::b:=by
    rcases cJ.1 hp with hp | hp
    ·exact .inr (eS _ hp)
    ·rcases bL.1 hp with hp | hp
     ·exact .inl hp
     ·exact .inr (List.mem_append_right _ (bJ _ hp))
   rcases hcase with rfl | hp'
   ·have hk1:=hk.2 (u,e+1,()) (by simp) hpx
    simp only at hpx hk1⊢
    have:(k:Int)≠e:=fun h=>hxu ⟨hpx.symm,h⟩
    omega
   ·exact hk.2 p hp' hpx
theorem pM {l:List Int} {u:Int} {v:Int} (hu:0≤u) (hul:u<(l.length:Int)) {x:Int} (hx:0≤x):ix (l.set u.toNat v) x=if x=u then v else ix l x:=by
 unfold ix
 by_cases h:x=u
 ·subst h
  rw[if_pos rfl,dA,uK (by omega)]
  rfl
 ·rw[if_neg h,dA,qG (by omega),←dA]
theorem aCJ (T:TI ED way idx low on stk met out) {u v:Int} (hu:u∈N1 way) (hv:v≤ix low u) (hz:∃z∈stk,ix idx z=v∧Rt ED u z):TI ED way idx (low.set u.toNat v) on stk met out:=by
 have hll:=T.fi.ll
 have hr:=T.fi.inr u (T.sub hu)
 have hs:∀w∈N1 way,ix (low.set u.toNat v) w=if w=u then v else ix low w:=fun w hw=>pM hr.1 (by rw[hll];exact hr.2) (T.fi.inr w (T.sub hw)).1
 refine⟨T.fi.withLow (by rw[cX,hll]),T.wsub,T.edge,T.hon,T.hmet,T.top,T.asc,T.dis,T.ond,T.srt,T.str,T.clo,T.down,T.up,fun w hw=>?_,T.own,fun w hw x hx h1 h2 k hk hin=>?_⟩
 ·rw[hs w hw]
  obtain⟨l1,l2⟩:=T.low1 w hw
  by_cases e:w=u
  ·subst e
   rw[if_pos rfl]
   exact⟨by omega,hz⟩
  ·rw[if_neg e];exact⟨l1,l2⟩
 ·rw[hs w hw]
  rcases T.seen w hw x hx h1 h2 k hk hin with h | ⟨h,h'⟩
  ·exact .inl h
  ·refine .inr ⟨h,?_⟩
   by_cases e:w=u
   ·subst e;rw[if_pos rfl];omega
   ·rw[if_neg e];exact h'
theorem aKx {l:List Bool} {u:Int} {v:Bool} (hu:0≤u) (hul:u<(l.length:Int)) {x:Int} (hx:0≤x):(l.set u.toNat v).getD x.toNat false=if x=u then v else l.getD x.toNat false:=by
 by_cases h:x=u
 ·subst h
  rw[if_pos rfl,dA,uK (by omega)]
  rfl
 ·rw[if_neg h,dA,qG (by omega),←dA]
theorem aFo (hN:ED.length≤1000) (T:TI ED way idx low on stk met out) {y:Int} (hy:inN ED y) (h0:ix idx y=0) (hr:∀w∈N1 way,Rt ED w y):
  TI ED (way++[(y,0,())]) (idx.set y.toNat (met+1)) (low.set y.toNat (met+1)) (on.set y.toNat true) (stk++[y]) (met+1) out:=by
 obtain⟨-,fi',-⟩:=aEE hN T.fi hy h0
 have hcnt:=T.fi.cnt
 have hz:=xQ idx
 have hil:=T.fi.il
 have hll:=T.fi.ll
 have hol:=T.fi.ol
 have hm0:0≤met:=by omega
 have hys:y∉stk:=fun h=>T.fi.mt y h h0
 have hyo:y∉out.flatten:=fun h=>(T.hmet y hy).2 (.inr h) h0
 have hi:∀x,inN ED x→ix (idx.set y.toNat (met+1)) x=if x=y then met+1 else ix idx x:=fun x hx=>pM hy.1 (by rw[hil];exact hy.2) hx.1
 have hl:∀x,inN ED x→ix (low.set y.toNat (met+1)) x=if x=y then met+1 else ix low x:=fun x hx=>pM hy.1 (by rw[hll];exact hy.2) hx.1
 have his:∀x∈stk,ix (idx.set y.toNat (met+1)) x=ix idx x:=fun x hx=>by rw[hi x (T.fi.inr x hx),if_neg fun e=>hys (by rw[←e];exact hx)]
 have hls:∀x∈stk,ix (low.set y.toNat (met+1)) x=ix low x:=fun x hx=>by rw[hl x (T.fi.inr x hx),if_neg fun e=>hys (by rw[←e];exact hx)]
 have hiy:ix (idx.set y.toNat (met+1)) y=met+1:=by rw[hi y hy,if_pos rfl]
 have hly:ix (low.set y.toNat (met+1)) y=met+1:=by rw[hl y hy,if_pos rfl]
 have hNw:N1 (way++[(y,0,())])=N1 way++[y]:=by simp
 have hnew:∀{w},w∈N1 (way++[(y,0,())])→w∈N1 way∨w=y:=fun {w} h=>by
  rw[hNw] at h
  rcases cJ.1 h with h | h
  ·exact .inl h
  ·exact .inr (dV.1 h)
 have hst:∀{x},x∈stk++[y]→x∈stk∨x=y:=fun {x} h=>by
  rcases cJ.1 h with h | h
  ·exact .inl h
  ·exact .inr (dV.1 h)
 have hly2:y∈stk++[y]:=by simp
 refine⟨fi',?_,fun p hp=>?_,fun x hx=>?_,fun x hx=>?_,fun x hx=>?_,?_,fun x hx=>?_,T.ond,T.srt,T.str,T.clo,fun w hw x hx h=>?_,fun x hx hxw=>?_,fun w hw=>?_,fun x hx=>?_,fun w hw x hx h1 h2 k hk hin=>?_⟩
 ·rw[hNw];exact T.wsub.append (List.Sublist.refl _)
 ·rcases cJ.1 hp with hp | hp
  ·exact T.edge p hp
  ·rw[dV] at hp;subst hp;exact⟨fD _,show (0:Int)≤1000 by decide⟩
 ·rw[aKx hy.1 (by rw[hol];exact hy.2) hx.1]
  by_cases e:x=y
  ·subst e;rw[if_pos rfl];exact⟨fun _=>hly2,fun _=>rfl⟩
  ·rw[if_neg e,T.hon x hx]
   exact⟨fun h=>eS _ h,fun h=>(hst h).resolve_right e⟩
 ·rw[hi x hx]
  by_cases e:x=y
  ·subst e;rw[if_pos rfl];exact⟨fun _=> .inl hly2,fun _=>by omega⟩
  ·rw[if_neg e,T.hmet x hx]
   exact⟨fun h=>h.imp (fun h=>eS _ h) id,fun h=>h.imp (fun h=>(hst h).resolve_right e) id⟩
 ·rcases hst hx with hx | rfl
  ·rw[his x hx];have:=T.top x hx;omega
  ·rw[hiy];exact fD _
 ·rw[List.pairwise_append]
  refine⟨T.asc.imp_of_mem fun ha hb h=>by rw[his _ ha,his _ hb];exact h,by simp,fun a ha b hb=>?_⟩
  rw[dV] at hb
  subst hb
  rw[his a ha,hiy]
  have:=T.top a ha
  omega
 ·rcases hst hx with hx | rfl
  ·exact T.dis x hx
  ·exact hyo
 ·rcases hnew hw with hw1 | rfl
  ·rcases hst hx with hx1 | rfl
   ·rw[his x hx1,his w (T.sub hw1)] at h
    exact T.down w hw1 x hx1 h
   ·exact hr w hw1
  ·rcases hst hx with hx1 | rfl
   ·rw[hiy,his x hx1] at h
    have:=T.top x hx1
    omega
   ·exact .refl _
 ·rcases hst hx with hx | rfl
  ·obtain⟨z,z1,z2,z3⟩:=T.up x hx fun h=>hxw (by rw[hNw];exact eS _ h)
   exact⟨z,eS _ z1,by rw[his x hx,his z z1];exact z2,z3⟩
  ·exact absurd (by rw[hNw];simp) hxw
 ·rcases hnew hw with hw | rfl
  ·obtain⟨l1,z,z1,z2,z3⟩:=T.low1 w hw
   rw[hls w (T.sub hw),his w (T.sub hw)]
   exact⟨l1,z,eS _ z1,by rw[his z z1];exact z2,z3⟩
  ·rw[hly,hiy]
   exact⟨fD _,w,hly2,hiy,.refl _⟩
 ·rcases hst hx with hx | rfl
  ·obtain⟨w,w1,w2⟩:=T.own x hx
   exact⟨w,by rw[hNw];exact eS _ w1,by rw[his x hx,his w (T.sub w1)];exact w2⟩
  ·exact⟨x,by rw[hNw];simp,fD _⟩
 ·rcases hst hx with hx1 | rfl
  ·rcases hnew hw with hw1 | rfl
   ·rw[his x hx1,his w (T.sub hw1)] at h1
    have:=T.seen w hw1 x hx1 h1 (fun w' hw' h=>by
     have:=h2 w' (by rw[hNw];exact eS _ hw') (by rw[his x hx1,his w' (T.sub hw')];exact h)
     rwa [his w' (T.sub hw'),his w (T.sub hw1)] at this) k ⟨hk.1,fun p hp=>hk.2 p (eS _ hp)⟩ hin
    rcases this with h | ⟨h,h'⟩
    ·exact .inl h
    ·exact .inr ⟨eS _ h,by rw[hls w (T.sub hw1),his _ h];exact h'⟩
   ·rw[hiy,his x hx1] at h1
    have:=T.top x hx1
    omega
  ·have:=hk.2 (x,0,()) (by simp) rfl
   simp only at this
   omega
theorem pI {ini:List Tp} {n e:Int}:N1 (ini++[(n,e,())])=N1 ini++[n]:=by simp
theorem mS {ini:List Tp} {n e:Int} {w:Int} (h:w∈N1 (ini++[(n,e,())])):w∈N1 ini∨w=n:=by
 rw[pI] at h
 rcases cJ.1 h with h | h
 ·exact .inl h
 ·exact .inr (dV.1 h)
theorem tP {ini:List Tp} {n e:Int} (T:TI ED (ini++[(n,e,())]) idx low on stk met out) {w:Int} (hw:w∈N1 ini):ix idx w<ix idx n:=by
 have:=T.wasc
 rw[pI,List.pairwise_append] at this
 exact this.2.2 w hw n (by simp)
theorem aEC {ini:List Tp} {n e:Int} (hall:((ED.getD n.toNat []).length:Int)≤e) {x:Int} {k:Nat} (h:aE5 ED ini x k):aE5 ED (ini++[(n,e,())]) x k:=
 ⟨h.1,fun p hp hpx=>by
  rcases cJ.1 hp with hp | hp
  ·exact h.2 p hp hpx
  ·rw[dV] at hp
   subst hp
   simp only at hpx⊢
   subst hpx
   have:=h.1
   omega⟩
theorem aFq {ini:List Tp} {n e:Int} (T:TI ED (ini++[(n,e,())]) idx low on stk met out) (hall:((ED.getD n.toNat []).length:Int)≤e) (hne:ix low n≠ix idx n)
  (hup:∀w∈N1 ini,(∀w'∈N1 ini,ix idx w'≤ix idx w)→ix low w≤ix low n):TI ED ini idx low on stk met out:=by
 have hn:n∈N1 (ini++[(n,e,())]):=by simp
 have hin:∀{w},w∈N1 ini→w∈N1 (ini++[(n,e,())]):=fun h=>by rw[pI];exact eS _ h
 obtain⟨l1,z,z1,z2,z3⟩:=T.low1 n hn
 have hzn:ix idx z<ix idx n:=by omega
 have hini:∃w∈N1 ini,ix idx w<ix idx n:=by
  obtain⟨w,w1,w2⟩:=T.own z z1
  rcases mS w1 with w1 | rfl
  ·exact⟨w,w1,tP T w1⟩
  ·omega
 refine⟨T.fi,?_,fun p hp=>T.edge p (eS _ hp),T.hon,T.hmet,T.top,T.asc,T.dis,T.ond,T.srt,T.str,T.clo,fun w hw=>T.down w (hin hw),fun x hx hxw=>?_,fun w hw=>T.low1 w (hin hw),fun x hx=>?_,fun w hw x hx h1 h2 k hk hin'=>?_⟩
 ·have:=T.wsub
  rw[pI] at this
  exact (List.sublist_append_left _ _).trans this
 ·by_cases e':x=n
  ·subst e';exact⟨z,z1,hzn,z3⟩
  ·exact T.up x hx fun h=>(mS h).elim hxw e'
 ·obtain⟨w,w1,w2⟩:=T.own x hx
  rcases mS w1 with w1 | rfl
  ·exact⟨w,w1,w2⟩
  ·obtain⟨w',w1',w2'⟩:=hini
   exact⟨w',w1',by omega⟩
 ·by_cases hx2:ix idx n≤ix idx x
  ·have:=T.seen n hn x hx hx2 (fun w' hw' _=>by
    rcases mS hw' with h | rfl
    ·exact Int.le_of_lt (tP T h)
    ·exact fD _) k (aEC hall hk) hin'
   rcases this with h | ⟨h,h'⟩
   ·exact .inl h
   ·refine .inr ⟨h,?_⟩
    have:=hup w hw fun w' hw'=>h2 w' hw' (by have:=tP T hw';omega)
    omega
  ·exact T.seen w (hin hw) x hx h1 (fun w' hw' h=>by
    rcases mS hw' with h' | rfl
    ·exact h2 w' h' h
    ·exact absurd h hx2) k (aEC hall hk) hin'
theorem aLw {α:Type} {l pre suf:List α} {q p:α} (h:l++[q]=pre++p::suf):(pre=l∧p=q∧suf=[])∨∃s0,suf=s0++[q]∧l=pre++p::s0:=by
 rcases List.eq_nil_or_concat suf with rfl | ⟨s0,b,rfl⟩
 ·obtain⟨h1,h2⟩:=List.append_inj' h rfl
  have:q=p:=by simpa using h2
  exact .inl ⟨h1.symm,this.symm,rfl⟩
 ·rw[aCw,←sA,←cK] at h
  obtain⟨h1,h2⟩:=List.append_inj' h rfl
  have:q=b:=by simpa using h2
  exact .inr ⟨s0,by rw[aCw,this],h1⟩
theorem aO1 (T:TI ED way idx low on stk met out) {x y:Int} (hx:x∈out.flatten) (he:Eg ED x y):y∈out.flatten:=by
 obtain⟨p,hp,hxp⟩:=iX.1 hx
 obtain⟨pre,suf,h⟩:=List.append_of_mem hp
 rcases T.clo pre p suf h x hxp y he with h' | h'
 ·exact iX.2 ⟨p,hp,h'⟩
 ·rw[h,iL]
  exact eS _ h'
theorem aFp {ini:List Tp} {n e:Int} {pre post:List Int} (T:TI ED (ini++[(n,e,())]) idx low on stk met out) (hall:((ED.getD n.toNat []).length:Int)≤e) (heq:ix low n=ix idx n)
  (hst:stk=pre++n::post) (hsub:(N1 ini).Sublist pre) {on':List Bool} {q:List Int} (hq:q.Perm (n::post)) (hon:∀x,inN ED x→(on'.getD x.toNat false=true↔x∈pre)) (fi':FI ED idx low on' pre met (out++[fT q])):
  TI ED ini idx low on' pre met (out++[fT q]):=by
 have hn:n∈N1 (ini++[(n,e,())]):=by simp
 have hin:∀{w},w∈N1 ini→w∈N1 (ini++[(n,e,())]):=fun h=>by rw[pI];exact eS _ h
 have hns:n∈stk:=T.sub hn
 have hps:∀{x},x∈pre→x∈stk:=fun h=>by rw[hst];exact eS _ h
 have hss:∀{x},x∈n::post→x∈stk:=fun h=>by rw[hst];exact List.mem_append_right _ h
 have hasc:=T.asc
 rw[hst,List.pairwise_append] at hasc
 have hpre:∀x∈pre,ix idx x<ix idx n:=fun x hx=>hasc.2.2 x hx n (by simp)
 have hseg:∀x∈n::post,ix idx n≤ix idx x:=fun x hx=>by
  rcases bL.1 hx with rfl | hx
  ·exact fD _
  ·exact Int.le_of_lt ((jY.1 hasc.2.1).1 x hx)
 have hin_seg:∀{x},x∈stk→ix idx n≤ix idx x→x∈n::post:=fun {x} hx h=>by
  rw[hst] at hx
  rcases cJ.1 hx with hx | hx
  ·have:=hpre x hx;omega
  ·exact hx
 have hin_pre:∀{x},x∈stk→ix idx x<ix idx n→x∈pre:=fun {x} hx h=>by
  rw[hst] at hx
  rcases cJ.1 hx with hx | hx
  ·exact hx
  ·have:=hseg x hx;omega
 have hmem:∀{x},x∈fT q↔x∈n::post:=fun {x}=>by rw[aBB];exact hq.mem_iff
 have hnw:∀{x},x∈n::post→x≠n→x∉N1 (ini++[(n,e,())]):=fun {x} hx hne h=>by
  rcases mS h with h | h
  ·have:=hpre x (hsub.subset h)
   have:=hseg x hx
   omega
  ·exact hne h
 have hclo:∀x∈n::post,∀y,Eg ED x y→y∈n::post∨y∈out.flatten:=fun x hx y he=>by
  obtain⟨e1,e2,e3⟩:=he
  obtain⟨k,hk,rfl⟩:=List.mem_iff_getElem.1 e3
  have hg:(ED.getD x.toNat []).getD k 0=(ED.getD x.toNat [])[k]:=getD_some (aT hk)
  have:=T.seen n hn x (hss hx) (hseg x hx) (fun w' hw' _=>by
   rcases mS hw' with h | rfl
   ·exact Int.le_of_lt (tP T h)
   ·exact fD _) k ⟨hk,fun p hp hpx=>by
    by_cases hxn:x=n
    ·subst hxn
     rcases cJ.1 hp with hp | hp
     ·have h1:p.1∈N1 ini:=fR.2 ⟨p,hp,rfl⟩
      have:=hpre _ (hsub.subset h1)
      rw[hpx] at this
      omega
     ·rw[dV] at hp;subst hp;simp only;omega
    ·refine absurd ?_ (hnw hx hxn)
     rw[←hpx]
     exact fR.2 ⟨p,hp,rfl⟩⟩ (by rw[hg];exact e2)
  rw[hg] at this
  rcases this with h | ⟨h,h'⟩
  ·exact .inr h
  ·exact .inl (hin_seg h (by omega))
 have hstay:∀{x y},Rt ED x y→x∈n::post→y∈n::post∨y∈out.flatten:=fun {x y} h hx=>by
  refine h.stay (T:=fun z=>z∈n::post∨z∈out.flatten) (fun a b ha he=>?_) (.inl hx)
  rcases ha with ha | ha
  ·exact hclo a ha b he
  ·exact .inr (aO1 T ha he)
 have hback:∀(d:Nat) (x:Int),(ix idx x - ix idx n).toNat≤d→x∈n::post→Rt ED x n:=fun d=>by
  induction d with
  | zero=>
   intro x hd hx
   have:=hseg x hx
   have:x=n:=T.inj (hss hx) hns (by omega)
   subst this
   exact .refl _
  | succ d ih=>
   intro x hd hx
   by_cases hxn:x=n
   ·subst hxn;exact .refl _
   ·obtain⟨y,y1,y2,y3⟩:=T.up x (hss hx) (hnw hx hxn)
    have hy:y∈n::post:=(hstay y3 hx).resolve_right (T.dis y y1)
    have:=hseg y hy
    have:=hseg x hx
    exact y3.trans (ih y (by omega) hy)
 refine⟨fi',hsub,fun p hp=>T.edge p (eS _ hp),hon,fun x hx=>?_,fun x hx=>T.top x (hps hx),hasc.1,fun x hx=>?_,?_,fun p hp=>?_,fun p hp=>?_,fun pr p suf h=>?_,fun w hw x hx=>T.down w (hin hw) x (hps hx),fun x hx hxw=>?_,fun w hw=>?_,fun x hx=>?_,fun w hw x hx h1 h2 k hk hin'=>?_⟩
 ·rw[T.hmet x hx,hst,cJ,iL,cJ,gO,kB,cB,hmem]
  constructor
  ·rintro ((h | h) | h)
   ·exact .inl h
   ·exact .inr (.inr h)
   ·exact .inr (.inl h)
  ·rintro (h | h | h)
   ·exact .inl (.inl h)
   ·exact .inr h
   ·exact .inl (.inr h)
 ·rw[iL,cJ,gO,kB,cB,hmem]
  rintro (h | h)
  ·exact T.dis x (hps hx) h
  ·have:=hpre x hx
   have:=hseg x h
   omega
 ·rw[iL,xL,gO,kB,cB]
  refine⟨T.ond,?_,fun a ha b hb=>?_⟩
  ·have:(n::post).Nodup:=by
    have:=T.fi.nd
    rw[hst,xL] at this
    exact this.2.1
   exact (tD q).nodup_iff.2 (hq.nodup_iff.2 this)
  ·rintro rfl
   exact T.dis a (hss (hmem.1 hb)) ha
 ·rcases cJ.1 hp with hp | hp
  ·exact T.srt p hp
  ·rw[dV] at hp
   subst hp
   refine aMC (hq.nodup_iff.2 ?_)
   have:=T.fi.nd
   rw[hst,xL] at this
   exact this.2.1
 ·rcases cJ.1 hp with hp | hp
  ·exact T.str p hp
  ·rw[dV] at hp
   subst hp
   intro x hx y hy
   exact (hback _ x (aU _) (hmem.1 hx)).trans (T.down n hn y (hss (hmem.1 hy)) (hseg y (hmem.1 hy)))
 ·rcases aLw h with⟨rfl,rfl,rfl⟩ | ⟨s0,rfl,h'⟩
  ·intro x hx y he
   rw[hmem]
   exact hclo x (hmem.1 hx) y he
  ·exact T.clo pr p s0 h'
 ·have hxn:x≠n:=fun e'=>by subst e';have:=hpre x hx;omega
  obtain⟨y,y1,y2,y3⟩:=T.up x (hps hx) fun h=>(mS h).elim hxw hxn
  have:=hpre x hx
  exact⟨y,hin_pre y1 (by omega),y2,y3⟩
 ·obtain⟨l1,z,z1,z2,z3⟩:=T.low1 w (hin hw)
  have:=tP T hw
  exact⟨l1,z,hin_pre z1 (by omega),z2,z3⟩
 ·obtain⟨w,w1,w2⟩:=T.own x (hps hx)
  have:=hpre x hx
  rcases mS w1 with w1 | rfl
  ·exact⟨w,w1,w2⟩
  ·omega
 ·have hx2:=hpre x hx
  have:=T.seen w (hin hw) x (hps hx) h1 (fun w' hw' h=>by
    rcases mS hw' with h' | rfl
    ·exact h2 w' h' h
    ·omega) k (aEC hall hk) hin'
  rw[iL,cJ,gO,kB,cB,hmem]
  rcases this with h | ⟨h,h'⟩
  ·exact .inl (.inl h)
  ·by_cases hseg2:ix idx n≤ix idx ((ED.getD x.toNat []).getD k 0)
   ·exact .inl (.inr (hin_seg h hseg2))
   ·exact .inr ⟨hin_pre h (by omega),h'⟩
end
end Go.Pli

namespace Go.Pli
open Go Go.PM
theorem aQa {ED:List (List Int)} {idx low:List Int} {on:List Bool} {stk:List Int} {met:Int} {out:List (List Int)} (hN:ED.length≤1000) (h:FI ED idx low on stk met out) (hon:∀x,inN ED x→(on.getD x.toNat false=true↔x∈stk)) {n:Int} {pre post:List Int} (hst:stk=pre++n::post):
  ∃r,wQ (ED,idx,low,on,stk,met,out,()) n=some r∧
   ((low.getD n.toNat 0≠idx.getD n.toNat 0∧r=((ED,idx,low,on,stk,met,out,()),()))∨
    (low.getD n.toNat 0=idx.getD n.toNat 0∧∃on' q,r=((ED,idx,low,on',pre,met,out++[fT q],()),())∧q.Perm (n::post)∧(∀x,inN ED x→(on'.getD x.toNat false=true↔x∈pre))∧FI ED idx low on' pre met (out++[fT q]))):=by
 refine aDn ?_
 have hnm:n∈stk:=by rw[hst];simp
 obtain⟨n0,n1⟩:=h.inr n hnm
 have e1:n<(low.length:Int):=by rw[h.ll];exact n1
 have e2:n<(idx.length:Int):=by rw[h.il];exact n1
 have hsz:=h.sz
 refine⟨stk.length,fun k=>?_⟩
 show (∃r,zY k (ED,idx,low,on,stk,met,out,()) n=some r∧_)∨(zY k (ED,idx,low,on,stk,met,out,()) n=none∧_)
 unfold zY
 simp only[n0,e1,e2,aN,aH,aA]
 cases hne:low.getD n.toNat 0 !=idx.getD n.toNat 0
 case true=>
  simp only[aA]
  exact .inl ⟨_,rfl,.inl ⟨by simpa using hne,rfl⟩⟩
 simp only[aB]
 have heq:low.getD n.toNat 0=idx.getD n.toNat 0:=by simpa using hne
 have key:=aDZ (L:=aEw (ED,idx,low,on,stk,met,out,()) n)
  (I:=fun s=>(pre++[n])<+:s.2.2.1∧stk=s.2.2.1++s.1.reverse∧s.2.1.length=ED.length∧∀x,inN ED x→(s.2.1.getD x.toNat false=true↔x∈s.2.2.1))
  (μ:=fun s=>s.2.2.1.length) (Q:=fun r=>∃on' q,r=((ED,idx,low,on',pre,met,out++[fT q],()),())∧q.Perm (n::post)∧(∀x,inN ED x→(on'.getD x.toNat false=true↔x∈pre))∧FI ED idx low on' pre met (out++[fT q]))
  (fun s rec hI=>by
   obtain⟨p1,p0,p2,p3⟩:=hI
   obtain⟨part,on1,st,⟨⟩⟩:=s
   simp only at p1 p0 p2 p3⊢
   have hlen:stk.length=st.length+part.length:=by rw[p0];simp
   have hpos:0<st.length:=by
    have:=p1.length_le
    simp only[aX,aF,bK] at this
    omega
   have p4:∀x∈st,inN ED x:=fun x hx=>h.inr x (by rw[p0];exact eS _ hx)
   have hnd:st.Nodup:=by have:=h.nd;rw[p0,xL] at this;exact this.1
   have hw:=aFa hpos (by omega)
   obtain⟨ini,x,hx⟩:∃ini x,st=ini++[x]:=by
    rcases List.eq_nil_or_concat st with h | ⟨ini,x,h⟩
    ·rw[h] at hpos;simp at hpos
    ·exact⟨ini,x,by rw[h,aCw]⟩
   have hl:st.length - 1=ini.length:=by rw[hx];simp
   have hget:st.getD ini.length 0=x:=by rw[hx];simp
   have htake:(st.take ini.length).drop 0=ini:=by rw[hx];simp
   have hini:ini.length<st.length:=by omega
   obtain⟨x0,x1⟩:=p4 x (by rw[hx];simp)
   have x2:x<(on1.length:Int):=by rw[p2];exact x1
   have r1:decide (part.length+[x].length<rowMax)=true:=aI (by simp only[aF,bK,rowMax];omega)
   have g1:decide ((ini.length:Int)≤(st.length:Int))=true:=aI (by omega)
   have hxi:x∉ini:=by
    rw[hx,xL] at hnd
    exact fun hm=>hnd.2.2 x hm x (by simp) rfl
   have hon1:∀y,inN ED y→((on1.set x.toNat false).getD y.toNat false=true↔y∈ini):=fun y hy=>by
    rw[aKx x0 x2 hy.1]
    by_cases e:y=x
    ·subst e
     rw[if_pos rfl]
     exact⟨fun h=>(by cases h),fun h=>absurd h hxi⟩
    ·rw[if_neg e,p3 y hy,hx,cJ,dV]
     exact⟨fun h=>h.resolve_right e,.inl⟩
   have hst2:stk=ini++(part++[x]).reverse:=by rw[p0,hx];simp
   rw[hx,List.prefix_concat_iff] at p1
   rw[aEw]
   simp only[hw,hl,dge,dlt hini,g1,aH,aA,aR,hget,x0,x2,aN,r1,htake]
   cases hxn:x==n
   ·right
    simp only[aB]
    have hxne:x≠n:=by simpa using hxn
    refine⟨_,rfl,⟨?_,hst2,by rw[cX,p2],hon1⟩,hini⟩
    rcases p1 with p1 | p1
    ·have:=(List.append_inj' p1 rfl).2
     simp at this
     exact absurd this.symm hxne
    ·exact p1
   ·left
    simp only[aA]
    have hxn:x=n:=by simpa using hxn
    subst hxn
    have r2:decide (out.length+[idL (yC (part++[x])).1].length<rowMax)=true:=aI (by simp only[aF,bK,rowMax];omega)
    rw[r2]
    simp only[uL,aA]
    have hpre:ini=pre:=by
     rcases p1 with p1 | p1
     ·exact (List.append_inj' p1 rfl).1.symm
     ·have hmem:x∈ini:=p1.subset (by simp)
      exact absurd hmem hxi
    subst hpre
    have hsl:ini.length<stk.length:=by omega
    have hperm:(part++[x]).Perm (x::post):=by
     rw[hst] at hst2
     have:=List.append_cancel_left hst2
     rw[this]
     exact (List.reverse_perm _).symm
    have hpi:ini<+:stk:=by rw[hst];exact List.prefix_append _ _
    refine⟨_,rfl,_,part++[x],rfl,hperm,hon1,⟨h.il,h.ll,by rw[cX,p2],h.nd.sublist hpi.sublist,fun y hy=>h.inr y (hpi.subset hy),fun y hy=>h.mt y (hpi.subset hy),h.cnt,?_,?_⟩⟩
    ·intro p hp
     rcases cJ.1 hp with hp | hp
     ·exact h.outs p hp
     ·rw[dV] at hp
      subst hp
      refine⟨?_,fun y hy=>h.inr y ?_⟩
      ·rw[(tD _).length_eq]
       simp only[aX,aF,bK]
       omega
      ·rw[hst]
       exact List.mem_append_right _ (hperm.mem_iff.1 (aBB.1 hy))
    ·simp only[aX,aF,bK]
     omega) k ([],on,stk,()) ⟨by rw[hst,show pre++n::post=(pre++[n])++post by simp];exact List.prefix_append _ _,by simp,h.ol,hon⟩
 rcases key with⟨r,h1,h2⟩ | h1
 ·exact .inl ⟨r,h1,.inr ⟨heq,h2⟩⟩
 ·exact .inr h1
structure WT (ED:List (List Int)) (K:Int→Prop) (s:F2):Prop where
 ti:TI ED s.1 s.2.1 s.2.2.1 s.2.2.2.1 s.2.2.2.2.1 s.2.2.2.2.2.2.1.2.2.2.2.2.1 s.2.2.2.2.2.1
 ed:s.2.2.2.2.2.2.1.1=ED
 known:∀x,inN ED x→K x→ix s.2.1 x≠0
theorem aQS {ED:List (List Int)} {K:Int→Prop} (hN:ED.length≤1000) (hE:∀e∈ED,e.length≤1000) {s2:F2} (hW:WT ED K s2) {ini:List Tp} {node e:Int} (hway:s2.1=ini++[(node,e,())]) (rec3) (s4:List Tp×Int×List Int×Unit) (rec5)
  (hI:∃e',s4.1=ini++[(node,e',())]∧s4.2.1=(ini.length:Int)∧e≤e'∧TI ED s4.1 s2.2.1 s4.2.2.1 s2.2.2.2.1 s2.2.2.2.2.1 s2.2.2.2.2.2.2.1.2.2.2.2.2.1 s2.2.2.2.2.2.1):
  (∃s',tX s2 rec3 s4 rec5=rec3 s'∧WT ED K s'∧muF s'<muF s2)∨∃s',tX s2 rec3 s4 rec5=rec5 s'∧(∃e',s'.1=ini++[(node,e',())]∧s'.2.1=(ini.length:Int)∧e≤e'∧TI ED s'.1 s2.2.1 s'.2.2.1 s2.2.2.2.1 s2.2.2.2.2.1 s2.2.2.2.2.2.2.1.2.2.2.2.2.1 s2.2.2.2.2.2.1)∧kG s'.1<kG s4.1:=by
 obtain⟨T0,ed,known⟩:=hW
 obtain⟨way0,idx,low0,on,stk,out,⟨EDx,⟨⟩,⟨⟩,⟨⟩,⟨⟩,met,⟨⟩,⟨⟩⟩,⟨⟩⟩:=s2
 obtain⟨w,li,low,⟨⟩⟩:=s4
 obtain⟨e',h1,h2,h3,T⟩:=hI
 simp only at T0 ed known hway h1 h2 h3 T⊢
 subst ed hway h1 h2
 have hfl:=T.fi
 have h5:=hfl.ll
 have hnodew:node∈N1 (ini++[(node,e',())]):=by simp
 have hnode:node∈stk:=T.sub hnodew
 obtain⟨n0,n1⟩:=hfl.inr node hnode
 have he0:0≤e:=(T0.edge (node,e,()) (by simp)).1
 have h4:e'≤1000:=(T.edge (node,e',()) (by simp)).2
 have hsz:=hfl.sz
 have hwl:ini.length+1≤stk.length:=by simpa using T.wsub.length_le
 have hll:(ini++[((node,e',()):Tp)]).length=ini.length+1:=by simp
 have hw1:IntKind.i64.wrap (e'+1)=e'+1:=by rw[cY] <;> omega
 have hw2:IntKind.i64.wrap (((ini.length+1:Nat):Int) - 1)=(ini.length:Int):=by rw[cY] <;> omega
 have htake:((ini++[((node,e',()):Tp)]).take ini.length).drop 0=ini:=by simp
 have hEn:(EDx.getD node.toNat []).length≤1000:=by
  have hk:node.toNat<EDx.length:=by omega
  rw[getD_some (aT hk)]
  exact hE _ (dX hk)
 have hset:∀y:Tp,(ini++[((node,e',()):Tp)]).set ini.length y=ini++[y]:=fun y=>aMK _ _ _
 have hgl:∀y:Tp,(ini++[y]).getD ini.length zTp=y:=fun y=>aQQ _ _ _
 have hil:=hfl.il
 have hol:=hfl.ol
 rw[tX]
 simp only[aR,hgl,hset,n0,n1,aN,aH,aA,hll,hw1,hw2,htake]
 by_cases hlt:e'<((EDx.getD node.toNat []).length:Int)
 ·have e0:0≤e':=by omega
  have hstep:kG (ini++[((node,e'+1,()):Tp)])<kG (ini++[((node,e',()):Tp)]):=by rw[uR,uR,uQ,uQ];omega
  simp only[hlt,e0,aN,aH,aA]
  have hek:∀k:Nat,(k:Int)=e'→(EDx.getD node.toNat []).getD k 0=(EDx.getD node.toNat []).getD e'.toNat 0:=fun k hk=>by rw[←hk,aR]
  have hmemE:(EDx.getD node.toNat []).getD e'.toNat 0∈EDx.getD node.toNat []:=by
   have hk:e'.toNat<(EDx.getD node.toNat []).length:=by omega
   rw[getD_some (aT hk)]
   exact dX hk
  have hb1:0≤e'+1∧e'+1≤1000:=by omega
  generalize hto:(EDx.getD node.toNat []).getD e'.toNat 0=to at hek hmemE
  by_cases t0:to<0
  ·right
   simp only[t0,aN,aA,aK]
   refine⟨_,rfl,⟨e'+1,rfl,rfl,by omega,xU T hb1 fun k hk _ hin=>?_⟩,hstep⟩
   rw[hek k hk] at hin
   have:=hin.1
   omega
  have t0':0≤to:=by omega
  by_cases t1:to≥(EDx.length:Int)
  ·right
   simp only[t0,t1,aN,bU,aA,aB,aK]
   refine⟨_,rfl,⟨e'+1,rfl,rfl,by omega,xU T hb1 fun k hk _ hin=>?_⟩,hstep⟩
   rw[hek k hk] at hin
   have:=hin.2
   omega
  have hin:inN EDx to:=⟨t0',by omega⟩
  have hEg:Eg EDx node to:=⟨⟨n0,n1⟩,hin,hmemE⟩
  have t2:to<(idx.length:Int):=by omega
  have t3:to<(on.length:Int):=by omega
  have n2:node<(low.length:Int):=by omega
  simp only[t0,t0',t1,t2,t3,n2,aN,bU,aH,aA,aB,aK]
  by_cases hz:idx.getD to.toNat 0=0
  ·left
   obtain⟨q1,q2,q3⟩:=aEE hN hfl (n:=to) hin hz
   have hroom:decide ((ini++[((node,e'+1,()):Tp)]).length+[((to,(0:Int),()):Tp)].length<rowMax)=true:=aI (by simp only[aX,aF,bK,rowMax];omega)
   have hbz:(idx.getD to.toNat 0==0)=true:=by rw[hz];rfl
   rw[hbz,aA,hroom,uL,aA,q1,aK]
   have T1:=aFo hN T hin hz fun w hw=>by
    refine (T.down w hw node hnode ?_).trans (.one hEg)
    rcases mS hw with hw | rfl
    ·exact Int.le_of_lt (tP T hw)
    ·exact fD _
   have hsplit:∀z:Int,ini++[((node,z,()):Tp)]++[((to,(0:Int),()):Tp)]=ini++(node,z,())::[(to,0,())]:=fun z=>by simp
   rw[hsplit] at T1
   have T2:=xU T1 hb1 fun k hk _ _=>by
    rw[hek k hk]
    refine .inr ⟨by simp,?_⟩
    have l1:=(T1.low1 node (by simp)).1
    have l2:=T1.top node (eS _ hnode)
    have l3:ix (idx.set to.toNat (met+1)) to=met+1:=by rw[pM t0' (by rw[hil];exact hin.2) t0',if_pos rfl]
    omega
   rw[←hsplit] at T2
   refine⟨_,rfl,⟨T2,rfl,fun x hx hk=>?_⟩,?_⟩
   ·simp only
    rw[pM t0' (by rw[hil];exact hin.2) hx.1]
    have hcnt:=hfl.cnt
    have:=xQ idx
    split
    ·omega
    ·exact known x hx hk
   ·unfold muF
    simp only
    rw[uR,uR,uR,uQ,uQ,uQ]
    omega
  ·right
   have hbz:(idx.getD to.toNat 0==0)=false:=by simpa using hz
   rw[hbz,aB]
   have hmet:=(T.hmet to hin).1 hz
   cases hon:on.getD to.toNat false
   ·simp only[aB]
    refine⟨_,rfl,⟨e'+1,rfl,rfl,by omega,xU T hb1 fun k hk _ _=>?_⟩,hstep⟩
    rw[hek k hk]
    refine .inl (hmet.resolve_left fun h=>?_)
    rw[(T.hon to hin).2 h] at hon
    cases hon
   ·simp only[aA]
    have hts:=(T.hon to hin).1 hon
    obtain⟨l1,z,z1,z2,z3⟩:=T.low1 node hnodew
    have T1:=aCJ T (u:=node) (v:=min (low.getD node.toNat 0) (idx.getD to.toNat 0)) hnodew (Int.min_le_left _ _) (by
     by_cases hm:low.getD node.toNat 0≤idx.getD to.toNat 0
     ·exact⟨z,z1,by rw[Int.min_eq_left hm];exact z2,z3⟩
     ·exact⟨to,hts,by rw[Int.min_eq_right (by omega)],.one hEg⟩)
    refine⟨_,rfl,⟨e'+1,rfl,rfl,by omega,xU T1 hb1 fun k hk _ _=>?_⟩,hstep⟩
    rw[hek k hk]
    refine .inr ⟨hts,?_⟩
    rw[pM n0 n2 n0,if_pos rfl]
    exact Int.min_le_right _ _
 ·left
  have g0:decide ((0:Int)≤(ini.length:Int))=true:=aI (by omega)
  have g1:decide ((ini.length:Int)≤((ini.length+1:Nat):Int))=true:=aI (by omega)
  simp only[hlt,bU,aB,g0,g1,aH,aA]
  have hall:((EDx.getD node.toNat []).length:Int)≤e':=by omega
  obtain⟨pre,post,hst,hsub⟩:∃pre post,stk=pre++node::post∧(N1 ini).Sublist pre:=by
   have way:=T.wsub
   rw[pI,List.append_sublist_iff] at way
   obtain⟨r1,r2,e1,e2,e3⟩:=way
   have hm:node∈r2:=e3.subset (by simp)
   obtain⟨s,t,hst⟩:=List.append_of_mem hm
   exact⟨r1++s,t,by rw[e1,hst,cK],e2.trans (List.sublist_append_left _ _)⟩
  obtain⟨r,hr,hcase⟩:=aQa hN hfl T.hon hst
  have hmu:∀(low2:List Int) (on':List Bool) (stk':List Int) (out':List (List Int)),muF (ini,idx,low2,on',stk',out',(EDx,(),(),(),(),met,(),()),())<muF (ini++[((node,e,()):Tp)],idx,low0,on,stk,out,(EDx,(),(),(),(),met,(),()),()):=by
   intro low2 on' stk' out'
   unfold muF
   simp only
   rw[uR,uQ]
   have:=(T0.edge (node,e,()) (by simp)).2
   simp only at this
   omega
  rw[hr,aK]
  by_cases hi:ini=[]
  ·subst hi
   rcases hcase with⟨hne,rfl⟩ | ⟨heq,on',q,rfl,hq,hon',hfi⟩
   ·exact⟨_,rfl,⟨aFq T hall hne fun w hw=>(by cases hw),rfl,known⟩,hmu _ _ _ _⟩
   ·exact⟨_,rfl,⟨aFp T hall heq hst hsub hq hon' hfi,rfl,known⟩,hmu _ _ _ _⟩
  ·obtain⟨i2,up,hup⟩:∃i2 up,ini=i2++[up]:=by
    rcases List.eq_nil_or_concat ini with h | ⟨a,b,h⟩
    ·exact absurd h hi
    ·exact⟨a,b,by rw[h,aCw]⟩
   have hpos:0<ini.length:=by rw[hup];simp
   have g2:decide ((ini.length:Int)>0)=true:=aI (by omega)
   have hw3:=aFa hpos (by omega)
   have hl3:ini.length - 1=i2.length:=by rw[hup];simp
   have hg3:ini.getD i2.length zTp=up:=by rw[hup];simp
   have hlt3:i2.length<ini.length:=by rw[hup];simp
   have hupw:up.1∈N1 ini:=by rw[hup];simp
   have hupw':up.1∈N1 (ini++[(node,e',())]):=by rw[pI];exact eS _ hupw
   obtain⟨u0,u1⟩:=hfl.inr up.1 (T.sub hupw')
   have u2:up.1<(low.length:Int):=by omega
   have n2:node<(low.length:Int):=by omega
   have hun:=tP T hupw
   have hmax:∀w∈N1 ini,ix idx w≤ix idx up.1:=fun w hw=>by
    have hp:=T.wasc
    rw[pI,List.pairwise_append] at hp
    have hp:=hp.1
    rw[hup] at hp hw
    have e3:N1 (i2++[up])=N1 i2++[up.1]:=by simp
    rw[e3] at hp hw
    rw[List.pairwise_append] at hp
    rcases cJ.1 hw with hw | hw
    ·exact Int.le_of_lt (hp.2.2 w hw up.1 (by simp))
    ·rw[dV] at hw;rw[hw];exact fD _
   rcases hcase with⟨hne,rfl⟩ | ⟨heq,on',q,rfl,hq,hon',hfi⟩
   ·simp only[g2,hw3,hl3,hg3,dge,dlt hlt3,u0,u2,n2,aN,aH,aA,aR]
    obtain⟨l1,z,z1,z2,z3⟩:=T.low1 up.1 hupw'
    obtain⟨m1,y,y1,y2,y3⟩:=T.low1 node hnodew
    have T1:=aCJ T (u:=up.1) (v:=min (low.getD up.1.toNat 0) (low.getD node.toNat 0)) hupw' (Int.min_le_left _ _) (by
     by_cases hm:low.getD up.1.toNat 0≤low.getD node.toNat 0
     ·exact⟨z,z1,by rw[Int.min_eq_left hm];exact z2,z3⟩
     ·exact⟨y,y1,by rw[Int.min_eq_right (by omega)];exact y2,(T.down up.1 hupw' node hnode (Int.le_of_lt hun)).trans y3⟩)
    have hnu:node≠up.1:=fun e3=>by rw[e3] at hun;omega
    have hln:ix (low.set up.1.toNat (min (low.getD up.1.toNat 0) (low.getD node.toNat 0))) node=ix low node:=by rw[pM u0 u2 n0,if_neg hnu]
    refine⟨_,rfl,⟨aFq T1 hall (by rw[hln];exact hne) fun w hw hwm=>?_,rfl,known⟩,hmu _ _ _ _⟩
    have hwu:w=up.1:=T.inj (T.sub (by rw[pI];exact eS _ hw)) (T.sub hupw') (by have e6:=hmax w hw;have e7:ix idx up.1≤ix idx w:=hwm up.1 hupw;omega)
    rw[hln,hwu,pM u0 u2 u0,if_pos rfl]
    exact Int.min_le_right _ _
   ·have T1:=aFp T hall heq hst hsub hq hon' hfi
    simp only[g2,hw3,hl3,hg3,dge,dlt hlt3,u0,u2,n2,aN,aH,aA,aR]
    obtain⟨l1,z,z1,z2,z3⟩:=T1.low1 up.1 hupw
    have hle:low.getD up.1.toNat 0≤low.getD node.toNat 0:=by
     have:ix low node=ix idx node:=heq
     have e4:ix low node=low.getD node.toNat 0:=rfl
     have e5:ix low up.1=low.getD up.1.toNat 0:=rfl
     omega
    have T2:=aCJ T1 (u:=up.1) (v:=min (low.getD up.1.toNat 0) (low.getD node.toNat 0)) hupw (Int.min_le_left _ _) ⟨z,z1,by rw[Int.min_eq_left hle];exact z2,z3⟩
    exact⟨_,rfl,⟨T2,rfl,known⟩,hmu _ _ _ _⟩
theorem aQT {ED:List (List Int)} (hN:ED.length≤1000) (hE:∀e∈ED,e.length≤1000) {idx low:List Int} {on:List Bool} {stk:List Int} {met:Int} {out:List (List Int)} (h:TI ED [] idx low on stk met out) {n:Int} (hn:inN ED n) (h0:idx.getD n.toNat 0=0):
  ∃r,wS (ED,idx,low,on,stk,met,out,()) n=some r∧∃idx' low' on' stk' met' out',r=((ED,idx',low',on',stk',met',out',()),())∧TI ED [] idx' low' on' stk' met' out'∧∀x,inN ED x→(ix idx x≠0∨x=n)→ix idx' x≠0:=by
 refine aDn ?_
 obtain⟨q1,q2,q3⟩:=aEE hN h.fi hn h0
 have T1:=aFo hN h hn h0 fun w hw=>by cases hw
 have hil:=h.fi.il
 refine⟨muF ([((n,(0:Int),()):Tp)],idx.set n.toNat (met+1),low.set n.toNat (met+1),on.set n.toNat true,stk++[n],out,(ED,(),(),(),(),met+1,(),()),()),fun k=>?_⟩
 show (∃r,rI k (ED,idx,low,on,stk,met,out,()) n=some r∧_)∨(rI k (ED,idx,low,on,stk,met,out,()) n=none∧_)
 unfold rI
 rw[q1,aK]
 generalize hs0:(([((n,(0:Int),()):Tp)],idx.set n.toNat (met+1),low.set n.toNat (met+1),on.set n.toNat true,stk++[n],out,(ED,(),(),(),(),met+1,(),()),()):F2)=s0
 have hW0:WT ED (fun x=>ix idx x≠0∨x=n) s0:=by
  subst hs0
  refine⟨T1,rfl,fun x hx hk=>?_⟩
  simp only
  rw[pM hn.1 (by rw[hil];exact hn.2) hx.1]
  have:=h.fi.cnt
  have:=xQ idx
  split
  ·omega
  ·rename_i hne
   exact hk.resolve_right hne
 show (∃r,aE (pV k) k s0=some r∧_)∨(aE (pV k) k s0=none∧_)
 have key:=aH9 (L:=pV k) (I:=fun s=>WT ED (fun x=>ix idx x≠0∨x=n) s∧muF s≤muF s0) (μ:=muF) (Q:=fun r=>∃idx' low' on' stk' met' out',r=((ED,idx',low',on',stk',met',out',()),())∧TI ED [] idx' low' on' stk' met' out'∧∀x,inN ED x→(ix idx x≠0∨x=n)→ix idx' x≠0) (few:=k≤muF s0)
  (fun s2 rec3 hI=>by
   obtain⟨hW,hM⟩:=hI
   rcases List.eq_nil_or_concat s2.1 with hnil | ⟨ini,p,hcat⟩
   ·left
    rw[pV,hnil]
    have:decide ((([]:List Tp).length:Int)>0)=false:=rfl
    rw[this,aB]
    have ht:=hW.ti
    rw[hnil] at ht
    refine⟨_,rfl,_,_,_,_,_,_,?_,ht,hW.known⟩
    rw[hW.ed]
   ·rw[aCw] at hcat
    obtain⟨node,e,⟨⟩⟩:=p
    have hlen:s2.1.length=ini.length+1:=by rw[hcat];simp
    have hsz:=hW.ti.fi.sz
    have hwl:ini.length+1≤s2.2.2.2.2.1.length:=by
     have:=hW.ti.wsub.length_le
     rw[qF,hlen] at this
     exact this
    have hw2:IntKind.i64.wrap (((ini.length+1:Nat):Int) - 1)=(ini.length:Int):=by rw[cY] <;> omega
    have g0:decide (((ini.length+1:Nat):Int)>0)=true:=aI (by omega)
    have g1:decide ((ini.length:Int)<((ini.length+1:Nat):Int))=true:=aI (by omega)
    rw[pV]
    simp only[hlen,hw2,g0,g1,dge,aH,aA,aR]
    have ht:=hW.ti
    have inner:=aH8 (L:=tX s2 rec3) (I:=fun s4=>∃e',s4.1=ini++[(node,e',())]∧s4.2.1=(ini.length:Int)∧e≤e'∧TI ED s4.1 s2.2.1 s4.2.2.1 s2.2.2.2.1 s2.2.2.2.2.1 s2.2.2.2.2.2.2.1.2.2.2.2.2.1 s2.2.2.2.2.2.1) (μ:=fun s4=>kG s4.1)
     (E:=fun x=>∃s',x=rec3 s'∧WT ED (fun x=>ix idx x≠0∨x=n) s'∧muF s'<muF s2)
     (fun s4 rec5 hI=>aQS hN hE hW hcat rec3 s4 rec5 hI) k (s2.1,(ini.length:Int),s2.2.2.1,()) ⟨e,hcat,rfl,fD _,ht⟩
    rcases inner with⟨s',h1,h2,h3⟩ | ⟨h1,h2⟩
    ·exact .inr (.inl ⟨s',h1,⟨h2,by omega⟩,h3⟩)
    ·refine .inr (.inr ⟨h1,?_⟩)
     have:kG s2.1≤muF s2:=by unfold muF;omega
     simp only at h2
     omega) k s0 ⟨hW0,aU _⟩
 rcases key with h1 | ⟨h1,h2⟩
 ·exact .inl h1
 ·refine .inr ⟨h1,?_⟩
  rcases h2 with h2 | h2 <;> exact h2
structure RP (ED:List (List Int)) (out:List (List Int)):Prop where
 nd:out.flatten.Nodup
 all:∀x,x∈out.flatten↔inN ED x
 srt:∀p∈out,p.Pairwise (·<·)
 str:∀p∈out,∀x∈p,∀y∈p,Rt ED x y
 clo:∀pre p suf,out=pre++p::suf→∀x∈p,∀y,Eg ED x y→y∈p∨y∈pre.flatten
 few:out.length≤ED.length
theorem aGq {ED:List (List Int)} (hN:ED.length≤1000) (hE:∀e∈ED,e.length≤1000):∃r,kM ED=some (r,())∧RP ED r:=by
 suffices h:∃r,kM ED=some r∧RP ED r.1 by
  obtain⟨⟨r,⟨⟩⟩,h1,h2⟩:=h
  exact⟨r,h1,h2⟩
 refine aDn ?_
 refine⟨ED.length,fun k=>?_⟩
 show (∃r,sS k ED=some r∧_)∨(sS k ED=none∧_)
 have g0:decide ((0:Int)≤(ED.length:Int))=true:=aI (by omega)
 have g1:decide ((ED.length:Int)≤(ED.length:Int))=true:=aI (by omega)
 have g2:decide ((ED.length:Int)<(rowMax:Int))=true:=aI (by simp only[rowMax];omega)
 unfold sS
 simp only[g0,g1,g2,aH,aA]
 have hz:∀n:Nat,zn (List.replicate n 0)=n:=by
  intro n
  induction n with
  | zero=>rfl
  | succ n ih=>
   unfold zn at*
   rw[List.replicate_succ,dO,bE,ih]
   have:isZ 0=1:=rfl
   omega
 have hrep:∀x:Int,ix (List.replicate ED.length 0) x=0:=fun x=>by
  unfold ix
  rw[dA,List.getElem?_replicate]
  split <;> rfl
 have hrepb:∀x:Int,(List.replicate ED.length false).getD x.toNat false=false:=fun x=>by
  rw[dA,List.getElem?_replicate]
  split <;> rfl
 exact aDZ (L:=yL ED)
  (I:=fun s=>0≤s.1∧s.1≤(ED.length:Int)∧s.2.2.2.2.2.2.1.1=ED∧TI ED [] s.2.1 s.2.2.1 s.2.2.2.1 s.2.2.2.2.1 s.2.2.2.2.2.2.1.2.2.2.2.2.1 s.2.2.2.2.2.1∧∀x,inN ED x→x<s.1→ix s.2.1 x≠0)
  (μ:=fun s=>ED.length - s.1.toNat) (Q:=fun r=>RP ED r.1)
  (fun s rec hI=>by
   obtain⟨k0,k1,ed,ti,hk⟩:=hI
   obtain⟨n,idx,low,on,stk,out,⟨EDx,⟨⟩,⟨⟩,⟨⟩,⟨⟩,met,⟨⟩,⟨⟩⟩,⟨⟩⟩:=s
   simp only at k0 k1 ed ti hk⊢
   subst ed
   have hil:=ti.fi.il
   rw[yL]
   by_cases hlt:n<(EDx.length:Int)
   ·right
    have n2:n<(idx.length:Int):=by omega
    have hw:IntKind.i64.wrap (n+1)=n+1:=by rw[cY] <;> omega
    simp only[hlt,n2,k0,hw,aN,aH,aA]
    by_cases h0:idx.getD n.toNat 0=0
    ·have hb:(idx.getD n.toNat 0==0)=true:=by rw[h0];rfl
     obtain⟨r,hr,idx',low',on',stk',met',out',rfl,hti,hkn⟩:=aQT hN hE ti (n:=n) ⟨k0,hlt⟩ h0
     rw[hb,aA,hr,aK]
     refine⟨_,rfl,⟨by simp only;omega,by simp only;omega,rfl,hti,fun x hx hxn=>hkn x hx ?_⟩,by simp only;omega⟩
     simp only at hxn
     by_cases e:x=n
     ·exact .inr e
     ·exact .inl (hk x hx (by omega))
    ·have hb:(idx.getD n.toNat 0==0)=false:=by simpa using h0
     rw[hb,aB]
     refine⟨_,rfl,⟨by simp only;omega,by simp only;omega,rfl,ti,fun x hx hxn=>?_⟩,by simp only;omega⟩
     simp only at hxn
     by_cases e:x=n
     ·subst e;exact h0
     ·exact hk x hx (by omega)
   ·left
    simp only[hlt,bU,aB,idL]
    have hs:stk=[]:=by
     cases stk with
     | nil=>rfl
     | cons a l=>
      obtain⟨w,hw,_⟩:=ti.own a (by simp)
      cases hw
    refine⟨_,rfl,⟨ti.ond,fun x=>⟨fun hx=>?_,fun hx=>?_⟩,ti.srt,ti.str,ti.clo,by have:=ti.fi.sz;simp only;omega⟩⟩
    ·obtain⟨p,hp,hxp⟩:=iX.1 hx
     exact (ti.fi.outs p hp).2 x hxp
    ·have:=(ti.hmet x hx).1 (hk x hx (by have:=hx.2;omega))
     rw[hs] at this
     exact this.resolve_left fun h=>by cases h) k _ ⟨by simp,by simp,rfl,⟨⟨by simp,by simp,by simp,by simp,by simp,by simp,by simp only[hz];omega,by simp,by simp[hz]⟩,by simp,by simp,fun x _=>by simp only;rw[hrepb];simp,fun x _=>by simp only;rw[hrep];simp,by simp,by simp,by simp,by simp,by simp,by simp,by simp,by simp,by simp,by simp,by simp,by simp⟩,fun x hx h=>by have:=hx.1;simp only at h;omega⟩
end Go.Pli

namespace Go.Pli
open Go Go.PM
section
variable {ED:List (List Int)}
def aCz (ED:List (List Int)):Prop:=∀e∈ED,∀x∈e,inN ED x
theorem aJy {x y:Int} (h:Eg ED x y):wV ED x.toNat y.toNat=true:=by
 obtain⟨h1,h2,h3⟩:=h
 unfold wV
 rw[rZ,Int.toNat_of_nonneg h2.1]
 exact h3
theorem aPn (hI:aCz ED) {i j:Nat} (h:wV ED i j=true):Eg ED (i:Int) (j:Int):=by
 unfold wV at h
 rw[rZ] at h
 have hi:i<ED.length:=by
  rcases eX i ED.length with h' | h'
  ·exact h'
  ·rw[gB h'] at h;cases h
 have hm:ED.getD i []∈ED:=by rw[getD_some (aT hi)];exact dX hi
 exact⟨⟨by omega,by omega⟩,hI _ hm _ h,by rw[aR];exact h⟩
theorem aF7 {x y:Int} (h:Rt ED x y):x=y∨eM ED ED.length x.toNat y.toNat=true:=by
 induction h with
 | refl _=>exact .inl rfl
 | @step x y z e _ ih=>
  have h1:=aCC ED ED.length (aJy e)
  rcases ih with rfl | ih
  ·exact .inr h1
  ·refine .inr (aAx ED _ _ _ y.toNat ?_ h1 ih)
   have:=e.2.1
   have:=this.1
   have:=e.2.1.2
   omega
theorem aK1 (hI:aCz ED) {k i j:Nat} (h:eM ED k i j=true):∃y,Eg ED (i:Int) y∧Rt ED y (j:Int):=by
 have:∀k i j,eM ED k i j=true→∃y,Eg ED (i:Int) y∧Rt ED y (j:Int):=fun k=>by
  induction k with
  | zero=>exact fun i j h=>⟨_,aPn hI h,.refl _⟩
  | succ k ih=>
   intro i j h
   simp only[eM,eT,aC] at h
   rcases h with h | ⟨h1,h2⟩
   ·exact ih i j h
   ·obtain⟨y,e1,r1⟩:=ih i k h1
    obtain⟨z,e2,r2⟩:=ih k j h2
    exact⟨y,e1,r1.trans (.step e2 r2)⟩
 exact this k i j h
variable {r:List (List Int)}
theorem aHm (R:RP ED r) {pre suf:List (List Int)} {p:List Int} (h:r=pre++p::suf) {x y:Int} (hx:x∈p∨x∈pre.flatten) (hr:Rt ED x y):y∈p∨y∈pre.flatten:=by
 refine hr.stay (T:=fun z=>z∈p∨z∈pre.flatten) (fun a b ha he=>?_) hx
 rcases ha with ha | ha
 ·exact R.clo pre p suf h a ha b he
 ·obtain⟨p',hp',hap⟩:=iX.1 ha
  obtain⟨p1,p2,hp⟩:=List.append_of_mem hp'
  right
  rcases R.clo p1 p' (p2++p::suf) (by rw[h,hp];simp) a hap b he with h' | h'
  ·exact iX.2 ⟨p',hp',h'⟩
  ·rw[hp,iL];exact eS _ h'
theorem tE (R:RP ED r) {p:List Int} (hp:p∈r) {x:Int} (hx:x∈p):inN ED x:=(R.all x).1 (iX.2 ⟨p,hp,hx⟩)
theorem aHn (R:RP ED r) {pre suf:List (List Int)} {p:List Int} (h:r=pre++p::suf) {x:Int} (h1:x∈p) (h2:x∈pre.flatten):False:=by
 have:=R.nd
 rw[h,iL,xL] at this
 exact this.2.2 x h2 x (by rw[gO];exact eS _ h1) rfl
theorem aOU (R:RP ED r) {pre suf:List (List Int)} {p:List Int} (h:r=pre++p::suf) {x y:Int} (hx:x∈p) (h1:Rt ED x y) (h2:Rt ED y x):y∈p:=by
 rcases aHm R h (.inl hx) h1 with h' | h'
 ·exact h'
 ·exfalso
  obtain⟨p',hp',hyp⟩:=iX.1 h'
  obtain⟨p1,p2,hp⟩:=List.append_of_mem hp'
  refine aHn R h hx ?_
  rcases aHm R (pre:=p1) (p:=p') (suf:=p2++p::suf) (by rw[h,hp];simp) (.inl hyp) h2 with h3 | h3
  ·exact iX.2 ⟨p',hp',h3⟩
  ·rw[hp,iL];exact eS _ h3
abbrev wy (ED:List (List Int)) (x y:Int):Bool:=eM ED ED.length x.toNat y.toNat
theorem aRR (hI:aCz ED) (R:RP ED r) {pre suf:List (List Int)} {p:List Int} (h:r=pre++p::suf) {x:Int} (hx:x∈p):jG ED p=wy ED x x:=by
 have hp:p∈r:=by rw[h];simp
 have hxn:=tE R hp hx
 cases hw:wy ED x x
 ·cases hc:jG ED p
  ·rfl
  ·exfalso
   unfold jG at hc
   obtain⟨k,hk,hc⟩:=eY.1 hc
   simp only[aC,eY,rZ] at hc
   obtain⟨-,to,ht,htp⟩:=hc
   have hE:Eg ED k to:=⟨tE R hp hk,tE R hp htp,ht⟩
   have h1:=aCC ED ED.length (aJy hE)
   have hkn:=tE R hp hk
   have htn:=tE R hp htp
   have c1:eM ED ED.length x.toNat to.toNat=true:=by
    rcases aF7 (R.str p hp x hx k hk) with rfl | h2
    ·exact h1
    ·exact aAx ED _ _ _ k.toNat (by have:=hkn.1;have:=hkn.2;omega) h2 h1
   have:wy ED x x=true:=by
    rcases aF7 (R.str p hp to htp x hx) with rfl | h2
    ·exact c1
    ·exact aAx ED _ _ _ to.toNat (by have:=htn.1;have:=htn.2;omega) c1 h2
   rw[hw] at this;cases this
 ·unfold jG
  obtain⟨y,e,rt⟩:=aK1 hI hw
  rw[Int.toNat_of_nonneg hxn.1] at e rt
  have hyp:=aOU R h hx (.one e) rt
  refine eY.2 ⟨x,hx,?_⟩
  simp only[aC,eY,rZ]
  refine⟨?_,y,e.2.2,hyp⟩
  simp only[sin,aC,aP]
  exact⟨hxn.1,hxn.2⟩
end
theorem aRI {m:Im}:aCz (gM m):=fun e he x hx=>by
 unfold gM at he
 obtain⟨f,-,rfl⟩:=fR.1 he
 have:=iQ.1 (mF.1 hx).1
 exact⟨this.1,by rw[uA];exact this.2⟩
theorem aPb {m:Im} (h:uT m=true):fG m=gM m:=by
 unfold fG gM
 exact aKU fun f hf=>aPa h (bC.2 (iQ.1 hf))
section
variable {m:Im} {l:List (List Sh)} {r:List (List Int)}
end
end Go.Pli
