/- Who calls whom: the printed functions come to what is told in plain Lean. -/
import Derived.Test.YtcofionghgmldaaGreatPliNt
import Derived.Test.YtcofionghgmldaaGreatPliL5E
namespace Go.Pli
open Go Go.PM
theorem lW {α σ R:Type} {L:σ→(σ→Option R)→Option R} {n B:Nat} {st:Nat→List α→σ} {f:Nat→List α} {fin:List α→Option R} (hB:∀k,k<n→(f k).length≤B)
  (h1:∀(k:Nat) (out:List α) (rec),k<n→out.length≤B*n→L (st k out) rec=rec (st (k+1) (out++f k)))
  (h2:∀out rec,out.length≤B*n→L (st n out) rec=fin out):∀F:Nat,n<F→aA L F (st 0 [])=fin (((List.range n).map f).flatten):=by
 have hlen:∀k,k≤n→(((List.range k).map f).flatten).length≤B*k:=by
  intro k
  induction k with
  | zero=>intro _;simp
  | succ k ih=>
   intro hk
   have:=ih (by omega)
   have hb:=hB k (by omega)
   rw[List.range_succ,List.map_append,List.flatten_append,List.length_append,Nat.mul_succ]
   simp only[List.map_cons,List.map_nil,List.flatten_cons,List.flatten_nil,List.append_nil]
   omega
 have key:∀(j k F:Nat),k+j=n→j<F→aA L F (st k (((List.range k).map f).flatten))=fin (((List.range n).map f).flatten):=by
  intro j
  induction j with
  | zero=>
   intro k F hk hF
   obtain⟨F,rfl⟩:∃m,F=m+1:=⟨F - 1,by omega⟩
   have:k=n:=by omega
   subst this
   rw[aD,h2 _ _ (hlen k (Nat.le_refl _))]
  | succ j ih=>
   intro k F hk hF
   obtain⟨F,rfl⟩:∃m,F=m+1:=⟨F - 1,by omega⟩
   have hb:B*k≤B*n:=Nat.mul_le_mul_left _ (by omega)
   rw[aD,h1 k _ _ (by omega) (Nat.le_trans (hlen k (by omega)) hb)]
   have:=ih (k+1) F (by omega) (by omega)
   rw[List.range_succ,List.map_append,List.flatten_append] at this
   simpa using this
 intro F hF
 have:=key n 0 F (by omega) hF
 simpa using this
theorem qZ (p:Int→Bool):∀n:Nat,((List.range n).map fun k:Nat=>bif p (k:Int) then[(k:Int)] else[]).flatten=(ints n).filter p
 | 0=>rfl
 | n+1=>by
  have ih:=qZ p n
  unfold ints at ih⊢
  rw[List.range_succ,List.map_append,List.flatten_append,ih,List.map_append,List.filter_append]
  congr 1
  cases h:p (n:Int) <;> simp[h]
theorem aEQ {α β:Type} (g:α→β) (z:α) (l:List α):(List.range l.length).map (fun k=>g (l.getD k z))=l.map g:=by
 apply List.ext_getElem (by simp)
 intro i h1 h2
 have:i<l.length:=by simpa using h1
 simp[this]
theorem aRL {α β:Type} (g:α→β) (l:List α):(l.map fun k=>[g k]).flatten=l.map g:=by
 induction l with
 | nil=>rfl
 | cons x l ih=>rw[List.map_cons,List.flatten_cons,ih];rfl
theorem dF (n:Nat):(ints n).length=n:=by simp[ints]
theorem aDQ {n k:Nat} (h:k<n) (z:Int):(ints n).getD k z=(k:Int):=by simp[ints,h]
theorem cU {n:Nat} {x:Int}:x∈ints n↔0≤x∧x<(n:Int):=by
 simp only[ints,List.mem_map,List.mem_range]
 constructor
 ·rintro ⟨k,hk,rfl⟩;omega
 ·rintro ⟨h0,h1⟩;exact⟨x.toNat,by omega,by omega⟩
theorem aAH (m:Im) (c:Int):(kW m c).length≤m.1.length:=by
 unfold kW
 exact Nat.le_trans (List.length_filter_le _ _) (by simp[ints])
theorem iH {n:Nat} (h:n<549755813888):decide (n<rowMax)=true:=decide_eq_true h
theorem aPd (m:Im) (c:Int) (r) (h:yS m c=some r):∃k,aLU k m c=some r:=by
 unfold yS at h
 cases hi:bD m <;> simp only[hi,cond_true,cond_false] at h
 ·cases h
 injection h with h
 subst h
 have h8:=(bC hi).classes
 refine⟨m.1.length+1,?_⟩
 unfold aLU
 have:=lW (L:=aAg m c) (n:=m.1.length) (B:=1) (st:=fun k out=>(out,(k:Int),())) (f:=fun k=>bif bY m.1 (k:Int) c then[(k:Int)] else[]) (fin:=fun out=>some (idL out,())) (fun k _=>by cases bY m.1 (k:Int) c <;> simp)
  (fun k out rec hk ho=>by
   rw[aAg]
   simp only[dlt hk,cond_true,List.length_cons,List.length_nil,iH (show out.length+(0+1)<549755813888 by omega),aL hk (by simp only[lenMax];omega)]
   cases bY m.1 (k:Int) c <;> simp)
  (fun out rec _=>by rw[aAg];simp only[aW,cond_false]) (m.1.length+1) (by omega)
 rw[qZ (fun n=>bY m.1 n c)] at this
 exact this
theorem aSA (m:Im) (n c:Int) (_:0≤n):(aY m.1 n).contains c=bY m.1 n c:=by
 unfold bY aY
 by_cases hn:n<(m.1.length:Int)
 ·simp only[hn,decide_true,cond_true,Bool.true_and]
  cases hc:(bQ m.1 n).contains c
  ·simp
  ·have hm:c∈bQ m.1 n:=by simpa using hc
   have:=hU (n.toNat+1) n (by omega) hm
   simp[this.1,show c<(m.1.length:Int) by omega]
 ·simp[hn]
theorem aOE {m:Im} (hi:bD m=true) (n:Int):jA m.1 n=some (aY m.1 n,()):=by
 have h8:=(bC hi).classes
 have hok:okL m.1=true:=by unfold okL;simp;omega
 unfold jA;rw[hok];rfl
theorem aJL {l:List Int} {x:Int} (h:l.length<1000000000):rin l x=some (l.contains x,()):=by
 unfold rin;rw[decide_eq_true (show l.length<9223372036854775807 by omega)];rfl
theorem aNk (m:Im) (c:Int) (r) (h:tP m c=some r):∃k,aJK k m c=some r:=by
 unfold tP at h
 cases hi:bD m <;> simp only[hi,cond_true,cond_false] at h
 ·cases h
 injection h with h
 subst h
 have h8:=(bC hi).classes
 refine⟨m.1.length+1,?_⟩
 unfold aJK
 have:=lW (L:=wF m c) (n:=m.1.length) (B:=1) (st:=fun k out=>(out,(k:Int),())) (f:=fun k=>bif bY m.1 (k:Int) c then[(k:Int)] else[]) (fin:=fun out=>some (out,())) (fun k _=>by cases bY m.1 (k:Int) c <;> simp)
  (fun k out rec hk ho=>by
   have hl:=aDv (l:=m.1) (c:=(k:Int))
   rw[wF]
   simp only[dlt hk,cond_true,aOE hi,Option.bind_some,aJL (show (aY m.1 (k:Int)).length<1000000000 by omega),aSA m (k:Int) c (by omega),List.length_cons,List.length_nil,iH (show out.length+(0+1)<549755813888 by omega),aL hk (by simp only[lenMax];omega)]
   cases bY m.1 (k:Int) c <;> simp)
  (fun out rec _=>by rw[wF];simp only[aW,cond_false]) (m.1.length+1) (by omega)
 rw[qZ (fun n=>bY m.1 n c)] at this
 exact this
theorem aI6 (m:Im) (c n:Int):aOt m c n=some (dI m c n):=by
 unfold aOt dI eS bG
 by_cases h1:c<0
 ·have:¬0≤c:=by omega
  simp[h1,this]
 ·have h1':0≤c:=by omega
  by_cases h2:c≥(m.1.length:Int)
  ·have:¬c<(m.1.length:Int):=by omega
   simp[h1,h2,this]
  ·have h2':c<(m.1.length:Int):=by omega
   by_cases h3:n<0
   ·have:¬0≤n:=by omega
    simp[h1,h2,h3,this]
   ·have h3':0≤n:=by omega
    by_cases h4:n≥((m.1.getD c.toNat zCl).2.2.1.length:Int)
    ·have:¬n<((m.1.getD c.toNat zCl).2.2.1.length:Int):=by omega
     simp only[h1,h2,h3,h4,h1',h2',h3',this,decide_true,decide_false,cond_true,cond_false,Bool.and_self,Bool.and_false]
    ·have h4':n<((m.1.getD c.toNat zCl).2.2.1.length:Int):=by omega
     simp only[h1,h2,h3,h4,h1',h2',h3',h4',decide_true,decide_false,cond_true,cond_false,Bool.and_self]
theorem aOw (m:Im) (c n:Int):aTI m c n=some (aBb m c n):=aI6 m c n
theorem aNB (m:Im) (l:List Int) (n:Int):((List.range l.length).map fun k=>bif (dI m (l.getD k 0) n).2.1 then[(dI m (l.getD k 0) n).1] else[]).flatten=oE m l n:=by
 rw[aEQ (fun c=>bif (dI m c n).2.1 then[(dI m c n).1] else[]) 0 l]
 unfold oE
 induction l with
 | nil=>rfl
 | cons c l ih=>
  rw[List.map_cons,List.flatten_cons,ih,List.filter_cons]
  cases h:(dI m c n).2.1 <;> simp
theorem aK5 (m:Im) (l:List Int) (n:Int):(oE m l n).length≤l.length:=by
 unfold oE
 rw[List.length_map]
 exact List.length_filter_le _ _
theorem aBt {m:Im} {i:Ins} {L:List Int×Int×Unit→(List Int×Int×Unit→Option (List Int×Unit))→Option (List Int×Unit)} (l:List Int) (hl:l.length<1000)
  (hL:∀s rec,L s rec=(bif decide (s.2.1<(l.length:Int)) then
  bif decide (0≤s.2.1)&&decide (s.2.1<l.length) then
   let r4:=dI m (l.getD s.2.1.toNat 0) i.2.2.1
   bif r4.2.1 then
    bif decide (s.1.length+[r4.1].length<rowMax) then
     rec (s.1++[r4.1],IntKind.i64.wrap (s.2.1+1),())
    else none
   else rec (s.1,IntKind.i64.wrap (s.2.1+1),())
  else none
 else some (s.1,()))):aA L (l.length+1) ([],0,())=some (oE m l i.2.2.1,()):=by
 have:=lW (L:=L) (n:=l.length) (B:=1) (st:=fun k out=>(out,(k:Int),())) (f:=fun k=>bif (dI m (l.getD k 0) i.2.2.1).2.1 then[(dI m (l.getD k 0) i.2.2.1).1] else[]) (fin:=fun out=>some (out,())) (fun k _=>by cases (dI m (l.getD k 0) i.2.2.1).2.1 <;> simp)
  (fun k out rec hk ho=>by
   rw[hL]
   simp only[dlt hk,dge,Bool.and_self,cond_true,Int.toNat_natCast,List.length_cons,List.length_nil,iH (show out.length+(0+1)<549755813888 by omega),aL hk (by simp only[lenMax];omega)]
   cases (dI m (l.getD k 0) i.2.2.1).2.1 <;> simp)
  (fun out rec _=>by rw[hL];simp only[aW,cond_false]) (l.length+1) (by omega)
 rw[aNB] at this
 exact this
theorem aKG (m:Im) (i:Ins) (r) (h:kF m i=some r):∃k,aGV k m i=some r:=by
 unfold kF at h
 cases hi:bD m <;> simp only[hi,cond_true,cond_false] at h
 ·cases h
 injection h with h
 subst h
 have h8:=(bC hi).classes
 have hl:=aAH m i.2.1
 refine⟨(kW m i.2.1).length+1,?_⟩
 unfold aGV aS
 have hb:yS m i.2.1=some (kW m i.2.1,()):=by unfold yS;rw[hi];rfl
 cases h1:i.1==31 <;> simp only[cond_true,cond_false]
 ·cases h2:i.1==32 <;> simp only[cond_true,cond_false]
  rw[hb]
  simp only[Option.bind_some]
  exact aBt (kW m i.2.1) (by omega) (fun s rec=>rfl)
 ·rfl
theorem aIk (m:Im) (i:Ins) (r) (h:iV m i=some r):∃k,aEr k m i=some r:=by
 unfold iV at h
 cases hi:bD m <;> simp only[hi,cond_true,cond_false] at h
 ·cases h
 injection h with h
 subst h
 have h8:=(bC hi).classes
 have hl:=aAH m i.2.1
 refine⟨(kW m i.2.1).length+1,?_⟩
 unfold aEr aS
 have hb:tP m i.2.1=some (kW m i.2.1,()):=by unfold tP;rw[hi];rfl
 cases h1:i.1==31 <;> simp only[cond_true,cond_false,Option.bind_some]
 ·cases h2:i.1==32 <;> simp only[cond_true,cond_false]
  rw[hb]
  simp only[Option.bind_some]
  exact aBt (kW m i.2.1) (by omega) (fun s rec=>rfl)
 ·have h2:(i.1==32)=false:=by
   have:i.1=31:=by simpa using h1
   rw[this];rfl
  have hroom:decide (([]:List Int).length+[i.2.1].length<rowMax)=true:=iH (by simp)
  rw[h2,hroom]
  rfl
theorem jV {m:Im} (hi:bD m=true) (i:Ins):(aS m i).length≤8:=by
 have h8:=(bC hi).classes
 have hl:=aAH m i.2.1
 have hs:=aK5 m (kW m i.2.1) i.2.2.1
 unfold aS
 cases i.1==31 <;> simp only[cond_true,cond_false]
 ·cases i.1==32 <;> simp only[cond_true,cond_false]
  ·simp
  ·omega
 ·simp
theorem aP {m:Im} {f:Int}:inM m f=true↔0≤f∧f<(m.2.2.2.1.length:Int):=by
 unfold inM sin nM;simp
theorem aMP (m:Im) (f g:Int) (r) (h:tX m f g=some r):∃k,aIY k m f g=some r:=by
 unfold tX at h
 cases hi:bD m&&inM m f <;> simp only[hi,cond_true,cond_false] at h
 ·cases h
 injection h with h
 subst h
 simp only[Bool.and_eq_true] at hi
 obtain⟨hi,hf⟩:=hi
 obtain⟨h0,h1⟩:=aP.1 hf
 have hx:=(jU ((bC hi).mts _ (jF h0 h1))).2.2.2.1.1
 have hd:m.2.2.2.1.getD f.toNat zMt=aC m f:=rfl
 have hr:(decide (0≤f)&&decide (f<(m.2.2.2.1.length:Int)))=true:=by simp[h0,h1]
 refine⟨(aC m f).2.2.2.1.length+1,?_⟩
 unfold aIY gQ
 have:=dB (L:=vX m f g) (xs:=(aC m f).2.2.2.1) (st:=fun k=>((k:Int),())) (p:=fun i=> !(aS m i).contains g) (ex:=some (true,())) (fin:=some (false,()))
  (fun k x rec hk hlt=>by
   have ht:iV m x=some (aS m x,()):=by unfold iV;rw[hi];rfl
   have htl:=jV hi x
   rw[vX]
   simp only[hd,hr,dlt hlt,dge,Bool.and_self,cond_true,Int.toNat_natCast,getD_some hk,ht,Option.bind_some,aJL (show (aS m x).length<1000000000 by omega),aL hlt (by simp only[lenMax];omega)]
   cases (aS m x).contains g <;> rfl)
  (fun rec=>by rw[vX];simp only[hd,hr,aW,cond_true,cond_false]) ((aC m f).2.2.2.1.length+1) (by omega)
 refine this.trans ?_
 rw[←List.not_any_eq_all_not]
 cases (aC m f).2.2.2.1.any fun i=>(aS m i).contains g <;> rfl
theorem aNg (m:Im) (r) (h:qN m=some r):∃k,aJH k m=some r:=by
 unfold qN at h
 cases hi:bD m <;> simp only[hi,cond_true,cond_false] at h
 ·cases h
 injection h with h
 subst h
 have h12:=(bC hi).methods
 refine⟨m.2.2.2.1.length+1,?_⟩
 unfold aJH
 have:=lW (L:=vO m (m.2.2.2.1.length+1)) (n:=m.2.2.2.1.length) (B:=1) (st:=fun k out=>(out,(k:Int),())) (f:=fun k=>[(ints m.2.2.2.1.length).filter fun g=>gQ m (k:Int) g]) (fin:=fun out=>some (out,())) (fun k _=>by simp)
  (fun k out rec hk ho=>by
   rw[vO]
   simp only[dlt hk,cond_true]
   have hin:inM m (k:Int)=true:=aP.2 ⟨by omega,by omega⟩
   have:=lW (L:=vS m (out,(k:Int),()) rec) (n:=m.2.2.2.1.length) (B:=1) (st:=fun j l=>(l,(j:Int),())) (f:=fun j=>bif gQ m (k:Int) (j:Int) then[(j:Int)] else[]) (fin:=fun l=>rec (out++[l],((k+1:Nat):Int),())) (fun j _=>by cases gQ m (k:Int) (j:Int) <;> simp)
    (fun j l rec2 hj hl=>by
     have hc:tX m (k:Int) (j:Int)=some (gQ m (k:Int) (j:Int),()):=by unfold tX;rw[hi,hin];rfl
     rw[vS]
     simp only[dlt hj,cond_true,hc,Option.bind_some,List.length_cons,List.length_nil,iH (show l.length+(0+1)<549755813888 by omega),aL hj (by simp only[lenMax];omega)]
     cases gQ m (k:Int) (j:Int) <;> simp)
    (fun l rec2 _=>by
     rw[vS]
     simp only[aW,cond_false,List.length_cons,List.length_nil,iH (show out.length+(0+1)<549755813888 by omega),Bool.and_self,cond_true,aL hk (show _≤lenMax by simp only[lenMax];omega)]) (m.2.2.2.1.length+1) (by omega)
   rw[qZ (fun g=>gQ m (k:Int) g)] at this
   exact this)
  (fun out rec _=>by rw[vO];simp only[aW,cond_false]) (m.2.2.2.1.length+1) (by omega)
 rw[aRL] at this
 refine this.trans ?_
 unfold aG
 rw[show ints m.2.2.2.1.length=(List.range m.2.2.2.1.length).map fun k:Nat=>(k:Int) from rfl,List.map_map]
 rfl
end Go.Pli

namespace Go.Pli
open Go Go.PM
theorem fB {σ R:Type} {L:σ→(σ→Option R)→Option R} {n:Nat} {st:Nat→σ} {fin:Option R}
  (h1:∀(k:Nat) (rec),k<n→L (st k) rec=rec (st (k+1))) (h2:∀rec,L (st n) rec=fin):∀F:Nat,n<F→aA L F (st 0)=fin:=by
 have key:∀(j k F:Nat),k+j=n→j<F→aA L F (st k)=fin:=by
  intro j
  induction j with
  | zero=>
   intro k F hk hF
   obtain⟨F,rfl⟩:∃m,F=m+1:=⟨F - 1,by omega⟩
   have:k=n:=by omega
   subst this
   rw[aD,h2]
  | succ j ih=>
   intro k F hk hF
   obtain⟨F,rfl⟩:∃m,F=m+1:=⟨F - 1,by omega⟩
   rw[aD,h1 k _ (by omega)]
   exact ih (k+1) F (by omega) (by omega)
 intro F hF
 exact key n 0 F (by omega) hF
theorem dK {α:Type} {l:List α} {n:Nat} {z:α} (h:l.length≤n):l.getD n z=z:=by simp[List.getD_eq_getElem?_getD,h]
theorem eA {α:Type} {l:List α} (h:l.length<1000000):okL l=true:=by simpa[okL] using h
theorem aOY {a b:Nat} (h:a<b):Nat.blt a b=true:=by rw[Nat.blt_eq];exact h
theorem aHd {α:Type} (b:Bool) (x y:α):(bif b then some x else some y)=some (bif b then x else y):=by cases b <;> rfl
theorem aBs {α:Type} (l:List (List α)) {k:Nat} (hk:k<l.length):(l.take (k+1)).flatten=(l.take k).flatten++l.getD k []:=by
 rw[List.take_add_one,List.flatten_append]
 congr 1
 simp[hk]
theorem aBF {α:Type} (l:List (List α)) (k:Nat):(l.take k).flatten.length≤l.flatten.length:=by
 have:l.flatten=(l.take k).flatten++(l.drop k).flatten:=by rw[←List.flatten_append,List.take_append_drop]
 rw[this,List.length_append]
 exact Nat.le_add_right _ _
theorem aQN (s:Unit) (n:Int) (r) (h:aCv s n=some r):aOM s n=some r:=by
 unfold aCv at h
 cases hb:decide (0≤n)&&Nat.blt n.toNat 1000000000 <;> simp only[hb,cond_true,cond_false] at h
 ·cases h
 injection h with h
 subst h
 simp only[Bool.and_eq_true,decide_eq_true_eq,Nat.blt_eq] at hb
 obtain⟨h0,h1⟩:=hb
 have h0':¬n<0:=by omega
 have e1:IntKind.i64.wrap ((0:Int) - (([]:List Tp).length:Int))=0:=by simp;rfl
 have e2:IntKind.i64.wrap (n - 0)=n:=by rw[cC] <;> omega
 unfold aOM
 rw[e1,e2]
 by_cases hp:n>0
 ·have hp':0<n:=hp
  have hm:n<(rowMax:Int):=by simp only[rowMax];omega
  have:0≤max n 0:=by omega
  simp[h0',hp',hm,this]
 ·simp[h0',hp]
theorem aMT (l:List (List Tp)) (r) (h:lE l=some r):∃k,aJ2 k l=some r:=by
 unfold lE at h
 cases hb:Nat.blt l.flatten.length 1000000000&&okL l <;> simp only[hb,cond_true,cond_false] at h
 ·cases h
 injection h with h
 subst h
 simp only[Bool.and_eq_true,Nat.blt_eq] at hb
 obtain⟨hf,hl⟩:=hb
 have hl:=fC hl
 refine⟨l.length+1,?_⟩
 unfold aJ2
 refine fB (n:=l.length) (st:=fun k=>(((l.take k).flatten.length:Int),(k:Int),())) (fin:=some (l.flatten,())) (fun k rec hk=>?_) (fun rec=>?_) (l.length+1) (by omega)
 ·unfold aBz
  have hw:IntKind.i64.wrap (((l.take k).flatten.length:Int)+((l.getD k ([]:List Tp)).length:Int))=((l.take (k+1)).flatten.length:Int):=by
   have e:=aBs l hk
   have:=aBF l (k+1)
   rw[e,List.length_append] at this⊢
   rw[cC] <;> omega
  have hn:¬((l.take (k+1)).flatten.length:Int)<0:=by omega
  simp only[dlt hk,dge,Bool.and_self,cond_true,Int.toNat_natCast,hw,hn,decide_false,cond_false,aL hk (show l.length≤lenMax by simp only[lenMax];omega)]
 ·unfold aBz
  have hg:aCv () ((l.take l.length).flatten.length:Int)=some ([],()):=by
   unfold aCv
   rw[List.take_length]
   have h1:(0:Int)≤(l.flatten.length:Int):=by omega
   have h2:Nat.blt (l.flatten.length:Int).toNat 1000000000=true:=by rw[Nat.blt_eq];omega
   simp only[h1,h2,decide_true,Bool.and_self,cond_true]
  simp only[aW,cond_false,hg,Option.bind_some]
  have:=fB (L:=wO l) (n:=l.length) (st:=fun k=>((l.take k).flatten,(k:Int),())) (fin:=some (l.flatten,())) (fun k rec hk=>by
   unfold wO
   have hm:decide ((l.take k).flatten.length+(l.getD k ([]:List Tp)).length<rowMax)=true:=by
    have e:=aBs l hk
    have:=aBF l (k+1)
    rw[e,List.length_append] at this
    exact decide_eq_true (by simp only[rowMax];omega)
   simp only[dlt hk,dge,Bool.and_self,cond_true,Int.toNat_natCast,hm,aBs l hk,aL hk (show l.length≤lenMax by simp only[lenMax];omega)])
   (fun rec=>by
    unfold wO
    simp only[aW,cond_false,List.take_length]) (l.length+1) (by omega)
  simpa using this
theorem sW {l:List (List Tp)} (h1:l.flatten.length<1000000000) (h2:l.length<1000000):lE l=some (l.flatten,()):=by
 unfold lE
 rw[aOY h1,eA h2]
 rfl
theorem aPn (s:List Int) (v:Int) (h:aPK s v):∃k,aTT k s v=some (aE5 s v,()):=by
 refine⟨s.length+1,iZ (st:=fun k=>((k:Int),())) (p:=fun n=>v==n) (fun k x rec hk hlt=>?_) (fun rec=>?_) _ (Nat.lt_succ_self _)⟩
 ·unfold aDH
  simp only[dlt hlt,dge,Bool.and_self,cond_true,Int.toNat_natCast,getD_some hk,aL hlt h.1.1]
 ·unfold aDH
  simp only[aW,cond_false]
theorem aI5 (s:List Int) (v:Int) (_:aIu s v):aEK s v=some (jZ s v,()):=by
 unfold aEK aE5 jZ
 rw[gY,List.contains_eq_any_beq]
theorem aQX (s:List Iq):aOX s=some (idL s,()):=by simp[aOX,idL]
theorem aPo (s:List (List Sh)):aMr s=some (idL s,()):=by simp[aMr,idL]
theorem aUt (m:Im) (c:Int) (r) (h:cup m c=some r):aUD m c=some r:=by
 unfold cup at h
 cases hb:sin c (m.1.length:Int) <;> simp only[hb,cond_true,cond_false] at h
 ·cases h
 injection h with h
 subst h
 simp only[sin,Bool.and_eq_true,decide_eq_true_eq] at hb
 have h1:¬c<0:=by omega
 have h2:¬c≥(m.1.length:Int):=by omega
 unfold aUD kup bX
 simp only[hb.1,hb.2,h1,h2,decide_true,decide_false,Bool.and_self,Bool.false_or,cond_true]
 cases decide ((m.1.getD c.toNat zCl).1≥c) <;> rfl
theorem aIJ {m:Im} {c:Int} (h0:0≤c) (h1:c<(m.1.length:Int)):cD m c=cD m (kup m.1 c)++(bG m c).2.1:=by
 have hk:=jQ (l:=m.1) h0
 have h2:kup m.1 c<(m.1.length:Int):=by omega
 unfold cD aY
 simp only[h1,h2,decide_true,cond_true]
 rw[cE h0]
 simp
theorem aDp {m:Im} {c:Int} (h:c<0):cD m c=[]:=by
 unfold cD aY
 rw[bP h]
 cases decide (c<(m.1.length:Int)) <;> rfl
theorem aBM {m:Im} (hi:bD m=true) {c:Int}:(bG m c).2.1.length≤8:=by
 have hf:=bC hi
 unfold bG
 by_cases hc:c.toNat<m.1.length
 ·have:=hf.cls (m.1.getD c.toNat zCl) (by simp[hc])
  simp only[iclass,cP,Bool.and_eq_true,decide_eq_true_eq] at this
  have:=this.2.2.1.1
  omega
 ·have:m.1.getD c.toNat zCl=zCl:=dK (by omega)
  rw[this];decide
theorem aCh {m:Im} (hi:bD m=true):∀(n:Nat) (c:Int) (out:List Tp),c.toNat<n→c<(m.1.length:Int)→out.length+8*(c.toNat+1)≤1000→
  aA (wB m) (n+1) (c,out,())=some (cD m c++out,())
 | 0,_,_,h,_,_=>by omega
 | n+1,c,out,h,hc,ho=>by
  rw[aD,wB]
  by_cases h0:c<0
  ·have:¬c≥0:=by omega
   simp only[this,decide_false,cond_false,aDp h0,List.nil_append]
  ·have h0':c≥0:=by omega
   have h0'':0≤c:=by omega
   have hk:=jQ (l:=m.1) h0''
   have h8:=aBM hi (c:=c)
   have hcat:lE [(m.1.getD c.toNat zCl).2.1,out]=some ((bG m c).2.1++out,()):=by
    rw[sW]
    ·simp[bG]
    ·simp only[List.flatten_cons,List.flatten_nil,List.append_nil,List.length_append]
     unfold bG at h8
     omega
    ·simp
   have hup:cup m c=some (kup m.1 c,()):=by simp[cup,sin,h0'',hc]
   simp only[h0',hc,decide_true,Bool.and_self,cond_true,hcat,hup,Option.bind_some]
   rw[aIJ h0'' hc,List.append_assoc]
   by_cases hn:kup m.1 c<0
   ·rw[aD,wB]
    have:¬kup m.1 c≥0:=by omega
    simp only[this,decide_false,cond_false,aDp hn,List.nil_append]
   ·exact aCh hi n (kup m.1 c) _ (by omega) (by omega) (by rw[List.length_append];omega)
theorem aNb (m:Im) (c:Int) (r) (h:mQ m c=some r):∃k,aJf k m c=some r:=by
 unfold mQ at h
 cases hi:bD m <;> simp only[hi,cond_true,cond_false] at h
 ·cases h
 injection h with h
 subst h
 have h8:=(bC hi).classes
 refine⟨c.toNat+1+1,?_⟩
 unfold aJf
 by_cases hc:c≥(m.1.length:Int)
 ·have:¬c<(m.1.length:Int):=by omega
  simp[hc,cD,aY,this]
 ·have hc':c<(m.1.length:Int):=by omega
  simp only[hc,decide_false,cond_false]
  rw[aCh hi (c.toNat+1) c [] (by omega) hc' (by simp only[List.length_nil];omega),List.append_nil]
theorem qS {m:Im} (hi:bD m=true) (c:Int):(cD m c).length≤8*8:=by
 have h8:=(bC hi).classes
 have hl:(aY m.1 c).length≤8:=by
  unfold aY
  by_cases hc:c<(m.1.length:Int)
  ·have:=mD m.1 (c.toNat+1) c (by omega)
   by_cases h0:0≤c
   ·simp[hc];omega
   ·simp[hc,bP (show c<0 by omega)]
  ·simp[hc]
 unfold cD
 have key:∀l:List Int,((l.map fun s=>(bG m s).2.1).flatten).length≤8*l.length:=by
  intro l
  induction l with
  | nil=>simp
  | cons x l ih=>
   have:=aBM hi (c:=x)
   simp only[List.map_cons,List.flatten_cons,List.length_append,List.length_cons]
   omega
 have:=key (aY m.1 c).reverse
 rw[List.length_reverse] at this
 omega
theorem aR8 (m:Im) (c:Int) (r) (h:aCz m c=some r):aO8 m c=some r:=by
 unfold aCz at h
 cases hi:bD m <;> simp only[hi,cond_true,cond_false] at h
 ·cases h
 injection h with h
 subst h
 have hl:=qS hi c
 unfold aO8 mQ wX
 rw[hi]
 simp only[cond_true,Option.bind_some]
 rw[cC (by omega) (by omega)]
 simp
theorem aAf {α:Type} (a b:List α) (n:Nat) (z:α):(a++b).getD n z=if n<a.length then a.getD n z else b.getD (n - a.length) z:=by
 by_cases h:n<a.length <;> simp[List.getD_eq_getElem?_getD,List.getElem?_append,h]
theorem aPV (x:Mt) (n:Int) (r) (h:vL x n=some r):aMe x n=some r:=by
 unfold vL at h
 cases hb:okL x.1&&okL x.2.1 <;> simp only[hb,cond_true,cond_false] at h
 ·cases h
 injection h with h
 subst h
 simp only[Bool.and_eq_true] at hb
 have h1:=fC hb.1
 have h2:=fC hb.2
 unfold aMe mE
 by_cases h0:n<0
 ·simp[h0]
 ·rw[cC (by omega) (by omega)]
  by_cases h3:n≥(x.1.length:Int)+(x.2.1.length:Int)
  ·have:(x.1++x.2.1).length≤n.toNat:=by rw[List.length_append];omega
   rw[dK this]
   simp only[h0,h3,decide_true,decide_false,cond_true,cond_false]
  ·simp only[h0,h3,decide_false,cond_false]
   rw[aAf]
   by_cases h4:n<(x.1.length:Int)
   ·have h5:n.toNat<x.1.length:=by omega
    have h6:0≤n:=by omega
    simp[h4,h5,h6]
   ·have h5:¬n.toNat<x.1.length:=by omega
    have h6:0≤n - (x.1.length:Int):=by omega
    have h7:n - (x.1.length:Int)<(x.2.1.length:Int):=by omega
    rw[cC (by omega) (by omega)]
    have h8:(n - (x.1.length:Int)).toNat=n.toNat - x.1.length:=by omega
    simp only[h4,h5,h6,h7,decide_true,decide_false,Bool.and_self,cond_true,cond_false,if_false,h8]
theorem aGP (l:List Cl) (b:Tp):∀(n:Nat) (c:Int),c.toNat<n→aA (aCn l b) (n+1) (c,())=
  some (match (bQ l c).find? fun c=>bY l b.2.1 c with | some c=>(3,c,()) | none=>zTp,())
 | 0,_,h=>by omega
 | n+1,c,h=>by
  rw[aD,aCn]
  by_cases hc:c<0
  ·have h0:¬c≥0:=by omega
   rw[bP hc]
   simp only[h0,decide_false,cond_false,List.find?_nil]
  ·have h0:c≥0:=by omega
   have hlt:=jQ (l:=l) (c:=c) (by omega)
   rw[cE (by omega)]
   simp only[h0,decide_true,cond_true,List.find?_cons]
   cases hb:bY l b.2.1 c
   ·simp only[cond_false]
    by_cases hk:kup l c<0
    ·rw[bP hk,aD,aCn]
     have:¬kup l c≥0:=by omega
     simp only[this,decide_false,cond_false,List.find?_nil]
    ·exact aGP l b n (kup l c) (by omega)
   ·simp only[cond_true]
theorem aQ8 (l:List Cl) (a b:Tp) (r) (h:zJ l a b=some r):∃k,aPZ k l a b=some r:=by
 unfold zJ at h
 injection h with h
 subst h
 refine⟨(kup l a.2.1).toNat+1+1,?_⟩
 unfold aPZ fA
 rw[aGP l b ((kup l a.2.1).toNat+1) _ (by omega)]
 cases cO l a b <;> cases cO l b a <;> cases a.1 !=3 <;> cases b.1 !=3 <;> rfl
theorem aRq (o:Int):aPO o=some (pB o,()):=by
 unfold aPO pB
 cases decide (o≥7) <;> rfl
theorem aPz (o:Int):aMt o=some (dN o):=by
 unfold aMt dN dL eR tQ
 simp only[aHd]
theorem aQ9 (m:Im) (o:Int) (t w:Tp):aOD m o t w=some (dT m o t w,()):=by
 unfold aOD dT
 cases w.1==0 <;> cases w.1==4 <;> cases gO t <;> cases o !=34 <;> rfl
theorem aP8 (i:Ins) (pc:Int):aL1 i pc=some (cS i pc,()):=by
 unfold aL1 cS
 cases i.1==18 <;> cases i.1==19 <;> cases i.1==33 <;> rfl
theorem aEz {x:Mt} {t:List Tp} (h1:x.1.length<1000000) (h2:t.length≤x.1.length):pU x t=some (iF x t,()):=by
 unfold pU
 rw[eA h1,eA (show t.length<1000000 by omega),decide_eq_true h2]
 rfl
theorem aOb (x:Mt) (t:List Tp) (r) (h:pU x t=some r):aIK x t=some r:=by
 unfold pU at h
 cases hb:okL x.1&&(okL t&&decide (t.length≤x.1.length)) <;> simp only[hb,cond_true,cond_false] at h
 ·cases h
 injection h with h
 subst h
 simp only[Bool.and_eq_true,decide_eq_true_eq] at hb
 have h1:=fC hb.1
 have h3:=hb.2.2
 have h4:(t.length:Int)≤(x.1.length:Int):=by omega
 have h5:(0:Int)≤(t.length:Int):=by omega
 unfold aIK iF
 rw[List.take_length,sW (by simp only[List.flatten_cons,List.flatten_nil,List.append_nil,List.length_append,List.length_drop];omega) (by simp)]
 simp only[h4,h5,decide_true,Bool.and_self,cond_true,Option.bind_some,Int.le_refl,List.flatten_cons,List.flatten_nil,List.append_nil]
 cases x.2.2.1.1 !=5 <;> rfl
end Go.Pli

namespace Go.Pli
open Go Go.PM
theorem aU {m:Im} (h:aF m=true):bD m=true∧lK m=true:=by simpa[aF] using h
theorem aEJ {m:Im} (h:aF m=true):cV m m.2.1=true:=by
 have:=(aU h).2
 simp only[lK,Bool.and_eq_true] at this
 exact this.1
theorem oD {m:Im} (h:aF m=true):mU m=true:=by
 have:=(aU h).2
 simp only[lK,Bool.and_eq_true] at this
 exact this.2.1
theorem iC {m:Im} (h:aF m=true) {f:Int} (hf:inM m f=true):cI m (aC m f)=true:=by
 have:=(aU h).2
 simp only[lK,Bool.and_eq_true] at this
 obtain⟨h0,h1⟩:=aP.1 hf
 exact List.all_eq_true.1 this.2.2.1 _ (jF h0 h1)
theorem aIm {m:Im} (h:aF m=true):∀f∈m.2.2.2.2.1,inM m f=true:=by
 have:=(aU h).2
 simp only[lK,Bool.and_eq_true] at this
 intro f hf
 have he:=List.all_eq_true.1 this.2.2.2 f hf
 simp only[gR,Bool.and_eq_true] at he
 exact he.1
theorem cM {m:Im} (h:aF m=true) {f:Int} (hf:inM m f=true):0<aB m f∧aB m f≤64:=by
 have h1:=iC h hf
 simp only[cI,Bool.and_eq_true,decide_eq_true_eq] at h1
 obtain⟨a,b⟩:=aP.1 hf
 have h2:=(jU ((bC (aU h).1).mts _ (jF a b))).2.2.2.1.1
 unfold aB
 have:=h1.2.2.2.1
 omega
theorem iA {m:Im} (h:aF m=true) {f:Int} (hf:inM m f=true):(aC m f).1.length+(aC m f).2.1.length≤8:=by
 have h1:=iC h hf
 simp only[cI,Bool.and_eq_true,decide_eq_true_eq] at h1
 exact h1.2.2.2.2.2.1
theorem aBg {m:Im} {f pc:Int} (hp:sin pc (aB m f:Int)=true):aH m f pc∈(aC m f).2.2.2.1:=by
 simp only[sin,Bool.and_eq_true,decide_eq_true_eq] at hp
 unfold aB at hp
 have:pc.toNat<(aC m f).2.2.2.1.length:=by omega
 unfold aH
 rw[getD_some (List.getElem?_eq_getElem this)]
 exact List.getElem_mem this
theorem kG {m:Im} (h:aF m=true) {f pc:Int} (hf:inM m f=true) (hp:sin pc (aB m f:Int)=true):bH m (aC m f) (aH m f pc)=true:=by
 have h1:=iC h hf
 simp only[cI,Bool.and_eq_true] at h1
 exact List.all_eq_true.1 h1.2.2.2.2.2.2 _ (aBg hp)
theorem aBk {α β:Type} (g:α→List β):∀l:List α,((l.reverse.map g).flatten).length=bJ (l.map fun x=>(g x).length)
 | []=>rfl
 | x::l=>by
  have:=aBk g l
  simp only[List.reverse_cons,List.map_append,List.flatten_append,List.length_append,List.map_cons,List.map_nil,List.flatten_cons,List.flatten_nil,List.append_nil,bJ]
  rw[this]
  omega
theorem kX {m:Im} {c:Int} (h:c<(m.1.length:Int)):(cD m c).length=dP m c:=by
 unfold cD dP aY
 simp only[h,decide_true,cond_true]
 exact aBk _ _
theorem yI {m:Im} {c n:Int} (h:eS m c n=true):(bG m c).2.2.1[n.toNat]? =some (dI m c n).1:=by
 unfold dI
 rw[h]
 simp only[eS,Bool.and_eq_true,decide_eq_true_eq] at h
 have hk:n.toNat<(bG m c).2.2.1.length:=by omega
 simp[hk]
theorem aUF (m:Im) (i:Ins) (f:Int) (r) (h:fof m i f=some r):aUs m i f=some r:=by
 unfold fof at h
 cases hb:aF m&&(inM m f&&bH m (aC m f) i) <;> simp only[hb,cond_true,cond_false] at h
 ·cases h
 injection h with h
 subst h
 simp only[Bool.and_eq_true] at hb
 obtain⟨hs,hf,hi⟩:=hb
 have hfit:=(aU hs).1
 have hcl:=oD hs
 obtain⟨f0,f1⟩:=aP.1 hf
 have hloc:=iA hs hf
 have hL:vL (aC m f) i.2.1=some (mE (aC m f) i.2.1,()):=by
  unfold vL
  rw[eA (by omega),eA (by omega)]
  rfl
 have hF:mQ m i.2.1=some (cD m i.2.1,()):=by unfold mQ;rw[hfit];rfl
 unfold aUs iP
 have hr:(decide (0≤f)&&decide (f<(m.2.2.2.1.length:Int)))=true:=by simp[f0,f1]
 simp only[hr,cond_true]
 have fold:∀g:Int,m.2.2.2.1.getD g.toNat zMt=aC m g:=fun _=>rfl
 simp only[fold]
 cases hp:(dN i.1).2.1 <;> simp only[cond_true,cond_false]
 rcases i with⟨o,a,b,⟨⟩⟩
 simp only at hL hF hp⊢
 cases e:o==3
 case true=>simp only[cond_true,hL,Option.bind_some,fZ]
 simp only[cond_false]
 cases e:o==4
 case true=>simp only[cond_true,hL,Option.bind_some,fZ]
 simp only[cond_false]
 cases e:o==22
 case true=>simp only[cond_true,fZ,iL]
 simp only[cond_false]
 cases e:o==27
 case true=>
  obtain rfl:o=27:=by simpa using e
  have:sin a (m.1.length:Int)=true∧sin b (dP m a:Int)=true:=by simpa[bH] using hi
  obtain⟨h1,h2⟩:=this
  simp only[sin,Bool.and_eq_true,decide_eq_true_eq] at h1 h2
  rw[←kX h1.2] at h2
  simp only[cond_true,hF,Option.bind_some,h2.1,h2.2,decide_true,Bool.and_self,fZ,iL]
 simp only[cond_false]
 cases e:o==28
 case true=>
  obtain rfl:o=28:=by simpa using e
  have:sin a (m.1.length:Int)=true∧sin b (dP m a:Int)=true:=by simpa[bH] using hi
  obtain⟨h1,h2⟩:=this
  simp only[sin,Bool.and_eq_true,decide_eq_true_eq] at h1 h2
  rw[←kX h1.2] at h2
  simp only[cond_true,hF,Option.bind_some,h2.1,h2.2,decide_true,Bool.and_self,iL]
 simp only[cond_false]
 cases e:o==29
 case true=>
  obtain rfl:o=29:=by simpa using e
  have:sin a (m.2.1.length:Int)=true:=by simpa[bH] using hi
  simp only[sin,Bool.and_eq_true,decide_eq_true_eq] at this
  simp only[cond_true,this.1,this.2,decide_true,Bool.and_self,fZ]
 simp only[cond_false]
 cases e:o==30
 case true=>
  obtain rfl:o=30:=by simpa using e
  have:sin a (m.2.1.length:Int)=true:=by simpa[bH] using hi
  simp only[sin,Bool.and_eq_true,decide_eq_true_eq] at this
  simp only[cond_true,this.1,this.2,decide_true,Bool.and_self,fZ]
 simp only[cond_false]
 cases e:o==31
 case true=>
  obtain rfl:o=31:=by simpa using e
  have:sin a (m.2.2.2.1.length:Int)=true:=by simpa[bH] using hi
  have hg:=iA hs (f:=a) this
  simp only[sin,Bool.and_eq_true,decide_eq_true_eq] at this
  simp only[cond_true,this.1,this.2,decide_true,Bool.and_self,aEz (x:=aC m a) (t:=[]) (by omega) (by simp),Option.bind_some]
 simp only[cond_false]
 cases e:o==32
 case true=>
  obtain rfl:o=32:=by simpa using e
  have:sin a (m.1.length:Int)=true∧sin b ((bG m a).2.2.1.length:Int)=true:=by simpa[bH] using hi
  have hsl:eS m a b=true:=by unfold eS;unfold sin at this;rw[this.1,this.2];rfl
  have h1:=yI hsl
  simp only[sin,Bool.and_eq_true,decide_eq_true_eq] at this
  obtain⟨h2,h3⟩:=nY (mS hcl this.1.1 this.1.2) h1
  have hg:=iA hs (f:=(dI m a b).1) (aP.2 h2)
  simp only[cond_true,h2.1,h2.2,decide_true,Bool.and_self,fZ,iL,aEz (x:=aC m (dI m a b).1) (t:=[tR a]) (by omega) (by simp only[List.length_cons,List.length_nil];omega),Option.bind_some]
 simp only[cond_false]
 cases e:o==34
 case true=>simp only[cond_true,fZ,iL]
 simp only[cond_false]
 cases e:o==33
 case true=>simp only[cond_true,fZ,aHd];cases (aC m f).2.2.1.1 !=5 <;> rfl
 simp only[cond_false]
theorem aUr {m:Im} {i:Ins} {f:Int} (hs:aF m=true) (hf:inM m f=true) (hi:bH m (aC m f) i=true):fof m i f=some (iP m (aC m f) i,()):=by
 unfold fof
 rw[hs,hf,hi]
 rfl
theorem bT {α:Type} {P:α→Prop} {b:Bool} {x y:α} (h1:P x) (h2:P y):P (bif b then x else y):=by cases b <;> assumption
def Small (e:Eff):Prop:=e.1.length≤12∧e.2.1.length≤1
theorem aA8 {m:Im} (hs:aF m=true) {g:Int} (hg:inM m g=true) {t:List Tp} (ht:t.length≤1):Small (iF (aC m g) t):=by
 have:=iA hs hg
 unfold Small iF
 constructor
 ·simp only[List.length_append,List.length_drop];omega
 ·cases (aC m g).2.2.1.1 !=5 <;> simp
theorem aKx (o:Int):Small (dN o).1:=by
 unfold dN
 repeat' refine bT (P:=fun z:Eff×Bool×Unit=>Small z.1) ⟨by decide,by decide⟩ ?_
 exact⟨by decide,by decide⟩
theorem aGQ {m:Im} (hs:aF m=true) {i:Ins} {f:Int} (hi:bH m (aC m f) i=true):Small (iP m (aC m f) i):=by
 have hcl:=oD hs
 unfold iP
 rcases i with⟨o,a,b,⟨⟩⟩
 refine bT (aKx _) ?_
 refine bT ⟨by simp,by simp⟩ (bT ⟨by simp,by simp⟩ (bT ⟨by simp,by simp⟩ (bT ⟨by simp,by simp⟩ (bT ⟨by simp,by simp⟩ (bT ⟨by simp,by simp⟩ (bT ⟨by simp,by simp⟩ ?_))))))
 cases e:o==31
 case true=>
  obtain rfl:o=31:=by simpa using e
  have:sin a (m.2.2.2.1.length:Int)=true:=by simpa[bH] using hi
  exact aA8 hs this (by simp)
 simp only[cond_false]
 cases e:o==32
 case true=>
  obtain rfl:o=32:=by simpa using e
  have:sin a (m.1.length:Int)=true∧sin b ((bG m a).2.2.1.length:Int)=true:=by simpa[bH] using hi
  have hsl:eS m a b=true:=by unfold eS;unfold sin at this;rw[this.1,this.2];rfl
  have h1:=yI hsl
  simp only[sin,Bool.and_eq_true,decide_eq_true_eq] at this
  obtain⟨h2,h3⟩:=nY (mS hcl this.1.1 this.1.2) h1
  exact aA8 hs (aP.2 h2) (by simp)
 simp only[cond_false]
 exact bT ⟨by simp,by simp⟩ (bT (bT ⟨by simp,by simp⟩ ⟨by simp,by simp⟩) ⟨by simp,by simp⟩)
theorem aQD (i:Ins) (pc:Int):(cS i pc).length≤2:=by
 unfold cS
 cases i.1==18 <;> cases i.1==19 <;> cases i.1==33 <;> exact Nat.le_of_ble_eq_true rfl
theorem aBR {α β:Type} (p:α→β→Bool) (x:α) (_:β):∀(s:List α) (e:List β),e.length=s.length→((s.zip e).all fun q=>p q.1 q.2)=e.zipIdx.all fun q=>p (s.getD q.2 x) q.1:=by
 intro s e h
 rw[Bool.eq_iff_iff,List.all_eq_true,List.all_eq_true]
 constructor
 ·rintro h1 ⟨b,k⟩ hq
  obtain⟨hk,hb⟩:=List.mem_zipIdx' hq
  have:(s.getD k x,b)∈s.zip e:=by
   rw[List.mem_iff_getElem?]
   refine⟨k,?_⟩
   have hks:k<s.length:=by omega
   simp[List.getElem?_zip_eq_some,hks,hk,hb]
  exact h1 _ this
 ·rintro h1 ⟨a,b⟩ hq
  obtain⟨k,hk⟩:=List.mem_iff_getElem?.1 hq
  rw[List.getElem?_zip_eq_some] at hk
  have h2:(b,k)∈e.zipIdx:=by
   rw[List.mem_zipIdx_iff_getElem?]
   exact hk.2
  have:=h1 _ h2
  simpa[hk.1] using this
theorem aSh (m:Im) (f pc:Int) (s:List Tp) (r) (h:sQ m f pc s=some r):∃k,aPC k m f pc s=some r:=by
 unfold sQ at h
 cases hb:aF m&&okL s <;> simp only[hb,cond_true,cond_false] at h
 ·cases h
 injection h with h
 subst h
 simp only[Bool.and_eq_true] at hb
 obtain⟨hs,hsl⟩:=hb
 have hsl:=fC hsl
 refine⟨20,?_⟩
 have fold:∀g:Int,m.2.2.2.1.getD g.toNat zMt=aC m g:=fun _=>rfl
 have fold2:(aC m f).2.2.2.1.getD pc.toNat dJ=aH m f pc:=rfl
 have fold3:(aC m f).2.2.2.1.length=aB m f:=rfl
 unfold aPC aM
 simp only[fold,fold2,fold3]
 cases hf:inM m f
 ·simp only[Bool.false_and,Bool.not_false,cond_true]
  have:¬(0≤f∧f<(m.2.2.2.1.length:Int)):=fun hh=>by rw[aP.2 hh] at hf;cases hf
  by_cases h0:f<0
  ·simp only[h0,decide_true,cond_true]
  ·have h1:f≥(m.2.2.2.1.length:Int):=by omega
   simp only[h0,h1,decide_true,decide_false,cond_true,cond_false]
 obtain⟨f0,f1⟩:=aP.1 hf
 have f2:¬f<0:=by omega
 have f3:¬f≥(m.2.2.2.1.length:Int):=by omega
 have hc:=cM hs hf
 simp only[f0,f1,f2,f3,decide_true,decide_false,Bool.and_self,Bool.true_and,cond_true,cond_false]
 by_cases p0:pc<0
 ·have:¬0≤pc:=by omega
  simp only[p0,sin,this,decide_true,decide_false,Bool.false_and,Bool.not_false,cond_true]
 have p0':0≤pc:=by omega
 by_cases p1:pc≥(aB m f:Int)
 ·have:¬pc<(aB m f:Int):=by omega
  simp only[p0,p1,sin,this,decide_true,decide_false,Bool.and_false,Bool.not_false,cond_true,cond_false]
 have p1':pc<(aB m f:Int):=by omega
 have hp:sin pc (aB m f:Int)=true:=by simp[sin,p0',p1']
 simp only[p0,p0',p1,p1',hp,decide_true,decide_false,Bool.and_self,Bool.not_true,cond_true,cond_false,jZ]
 cases hn:(cS (aH m f pc) pc).contains (aB m f:Int)
 case true=>simp only[cond_true]
 simp only[cond_false]
 cases h6:(aH m f pc).1==6
 case true=>
  simp only[cond_true]
  by_cases s0:s.length=0
  ·have:((s.length:Int)==0)=true:=by simp[s0]
   rw[this,decide_eq_true s0]
   rfl
  ·have:((s.length:Int)==0)=false:=beq_eq_false_iff_ne.2 (by omega)
   rw[this,decide_eq_false s0]
   simp only[Bool.false_or,cond_false]
   by_cases s8:s.length≥8
   ·have:(s.length:Int)≥8:=by omega
    simp only[this,s8,decide_true,cond_true]
   ·have h1:¬(s.length:Int)≥8:=by omega
    have h2:IntKind.i64.wrap ((s.length:Int) - 1)=((s.length - 1:Nat):Int):=by rw[cC] <;> omega
    have h3:((s.length - 1:Nat):Int)≤(s.length:Int):=by omega
    simp only[h1,s8,h2,h3,dge,decide_true,decide_false,Bool.and_self,Int.le_refl,cond_true,cond_false,Int.toNat_natCast,List.take_length]
    rw[sW (by simp only[List.flatten_cons,List.flatten_nil,List.append_nil,List.length_append,List.length_drop];omega) (by simp)]
    simp only[Option.bind_some,List.flatten_cons,List.flatten_nil,List.append_nil]
 simp only[cond_false]
 have hi:=kG hs hf hp
 rw[aUr hs hf hi]
 simp only[Option.bind_some]
 have hsm:=aGQ hs (f:=f) hi
 generalize iP m (aC m f) (aH m f pc)=E at hsm⊢
 obtain⟨hE1,hE2⟩:=hsm
 unfold qX
 have w1:IntKind.i64.wrap ((s.length:Int) - (E.1.length:Int))=(s.length:Int) - (E.1.length:Int):=by rw[cC] <;> omega
 have w2:IntKind.i64.wrap ((s.length:Int) - (E.1.length:Int)+(E.2.1.length:Int))=(s.length:Int) - (E.1.length:Int)+(E.2.1.length:Int):=by rw[cC] <;> omega
 simp only[w1,w2]
 by_cases l1:s.length<E.1.length
 ·have:(s.length:Int) - (E.1.length:Int)<0:=by omega
  simp only[this,l1,decide_true,Bool.true_or,cond_true]
 have l1':¬(s.length:Int) - (E.1.length:Int)<0:=by omega
 simp only[l1,l1',decide_false,Bool.false_or,cond_false]
 by_cases l2:s.length - E.1.length+E.2.1.length>8
 ·have:(s.length:Int) - (E.1.length:Int)+(E.2.1.length:Int)>8:=by omega
  simp only[this,l2,decide_true,cond_true]
 have l2':¬(s.length:Int) - (E.1.length:Int)+(E.2.1.length:Int)>8:=by omega
 simp only[l2,l2',decide_false,cond_false]
 have hzip:=aBR (fun a b=>dT m (aH m f pc).1 a b) zTp zTp (s.drop (s.length - E.1.length)) E.1 (by rw[List.length_drop];omega)
 rw[hzip]
 generalize hD:s.length - E.1.length=D at*
 have hDi:(s.length:Int) - (E.1.length:Int)=(D:Int):=by omega
 have w4:IntKind.i64.wrap (D:Int)=(D:Int):=by rw[cC] <;> omega
 rw[show (E.1.zipIdx.all fun q=>dT m (aH m f pc).1 ((s.drop D).getD q.2 zTp) q.1)=lG (fun k x=>dT m (aH m f pc).1 ((s.drop D).getD k zTp) x) 0 E.1 by
  rw[Bool.eq_iff_iff,oJ,List.all_eq_true]
  constructor
  ·intro hh j x hx
   have:=hh (x,j) (by rw[List.mem_zipIdx_iff_getElem?];exact hx)
   simpa using this
  ·rintro hh ⟨x,j⟩ hx
   rw[List.mem_zipIdx_iff_getElem?] at hx
   have:=hh j x hx
   simpa using this]
 refine (oM (xs:=E.1) (st:=fun k=>(cS (aH m f pc) pc,(k:Int),())) (p:=fun k x=>dT m (aH m f pc).1 ((s.drop D).getD k zTp) x) (ex:=some ([],[],4,())) (fin:=some (s.take D++E.2.1,cS (aH m f pc) pc,0,())) (fun k x rec hk hlt=>?_) (fun rec=>?_) 20 (by omega)).trans ?_
 ·have hx:(s.drop D).getD k zTp=s.getD (D+k) zTp:=by simp[List.getElem?_drop]
  have w3:IntKind.i64.wrap ((D:Int)+(k:Int))=((D+k:Nat):Int):=by rw[cC] <;> omega
  rw[aF5]
  simp only[w4,hDi,w3,fold,fold2,dlt hlt,dge,dlt (show D+k<s.length by omega),Bool.and_self,cond_true,Int.toNat_natCast,getD_some hk,hx,aL hlt (show _≤lenMax by simp only[lenMax];omega)]
  cases dT m (aH m f pc).1 (s.getD (D+k) zTp) x <;> rfl
 ·have l3:(D:Int)≤(s.length:Int):=by omega
  rw[aF5]
  simp only[w4,hDi,aW,cond_false,dge,l3,decide_true,Bool.and_self,cond_true,Int.toNat_natCast,List.drop_zero]
  rw[sW (by simp only[List.flatten_cons,List.flatten_nil,List.append_nil,List.length_append,List.length_take];omega) (by simp)]
  simp only[Option.bind_some,List.flatten_cons,List.flatten_nil,List.append_nil]
 ·cases lG (fun k x=>dT m (aH m f pc).1 ((s.drop D).getD k zTp) x) 0 E.1 <;> rfl
end Go.Pli

namespace Go.Pli
open Go Go.PM
theorem aOW {s:List Tp} (h:s.length<1000000):qD s=some (s,()):=by
 unfold qD
 have:decide (([]:List Tp).length+s.length<rowMax)=true:=decide_eq_true (by simp only[rowMax,List.length_nil];omega)
 rw[this]
 rfl
theorem aSb {l:List Cl} {a b x:Tp} (h:fA l a b=x):zJ l a b=some (x,()):=by unfold zJ;rw[h]
theorem kJ (l:List Cl) {a s:List Tp} (h:a.length=s.length):(aT l a s).length=s.length:=by
 unfold aT
 rw[List.length_map,List.length_zip,h,Nat.min_self]
theorem aEv (l:List Cl) {a s:List Tp} {k:Nat} (h1:k<a.length) (h2:k<s.length):(aT l a s)[k]? =some (fA l (a.getD k zTp) (s.getD k zTp)):=by
 unfold aT
 rw[List.getElem?_map,List.getElem?_eq_getElem (show k<(a.zip s).length by rw[List.length_zip];omega)]
 simp[h1,h2]
def kO {α:Type} (z:α) (l:List α) (k:Nat):List α:=l.take k++List.replicate (l.length - k) z
theorem aFQ {α:Type} (z:α) (l:List α) {k:Nat} (h:k≤l.length):(kO z l k).length=l.length:=by
 unfold kO
 simp only[List.length_append,List.length_take,List.length_replicate]
 omega
theorem aMX {α:Type} (z:α) {l:List α} {k:Nat} {x:α} (h:l[k]? =some x):(kO z l k).set k x=kO z l (k+1):=by
 have hk:k<l.length:=by
  by_cases hk:k<l.length
  ·exact hk
  ·rw[List.getElem?_eq_none (by omega)] at h;cases h
 unfold kO
 have ht:(l.take k).length=k:=by rw[List.length_take];omega
 rw[List.set_append_right _ _ (by omega),ht,Nat.sub_self,List.take_add_one,h]
 obtain⟨n,hn⟩:∃n,l.length - k=n+1:=⟨l.length - k - 1,by omega⟩
 have hn':l.length - (k+1)=n:=by omega
 rw[hn,hn',List.replicate_succ]
 simp
theorem aNK {α:Type} (z:α) {l:List α} {k:Nat} {x:α} (h:l[k]? =some x):(kO z l (k+1)).getD k z=x:=by
 have hk:k<l.length:=by
  by_cases hk:k<l.length
  ·exact hk
  ·rw[List.getElem?_eq_none (by omega)] at h;cases h
 unfold kO
 have ht:k<(l.take (k+1)).length:=by rw[List.length_take];omega
 rw[aAf,if_pos ht,List.getD_eq_getElem?_getD,List.getElem?_take]
 simp[h]
theorem aPW (m:Im) (o:Sh) (s:List Tp) (r) (h:xT m o s=some r):∃k,aMq k m o s=some r:=by
 unfold xT at h
 cases hb:okL s <;> simp only[hb,cond_true,cond_false] at h
 ·cases h
 injection h with h
 subst h
 have hs:=fC hb
 refine⟨s.length+1,?_⟩
 unfold aMq bI
 rw[aOW hs]
 cases o.1 <;> simp only[Bool.not_true,Bool.not_false,cond_true,cond_false,Option.bind_some]
 ·rfl
 by_cases hl:o.2.1.length=s.length
 ·have e1:((o.2.1.length:Int) !=(s.length:Int))=false:=by rw[hl];simp
  have e2:decide (o.2.1.length≠s.length)=false:=by simp[hl]
  have e3:decide ((s.length:Int)<(rowMax:Int))=true:=decide_eq_true (by simp only[rowMax];omega)
  have e4:decide ((0:Int)≤(s.length:Int))=true:=decide_eq_true (by omega)
  simp only[e1,e2,e3,e4,cond_true,cond_false,Int.le_refl,decide_true,Bool.and_self]
  have hml:=kJ m.1 hl
  have key:=dB (L:=zK m o s) (xs:=aT m.1 o.2.1 s) (st:=fun k=>((k:Int),kO zTp (aT m.1 o.2.1 s) k,())) (p:=fun x=> !(x.1==0)) (ex:=some (o,false,false,())) (fin:=some ((true,aT m.1 o.2.1 s,()),!(aT m.1 o.2.1 s==o.2.1),true,()))
   (fun k x rec hk hlt=>by
    have h1:k<s.length:=by omega
    have h2:k<o.2.1.length:=by omega
    have hx:=aEv m.1 h2 h1
    rw[hk] at hx
    have hx:=Option.some.inj hx
    have hkj:zJ m.1 (o.2.1.getD k zTp) (s.getD k zTp)=some (x,()):=aSb hx.symm
    have hf:=aFQ zTp (aT m.1 o.2.1 s) (k:=k) (by omega)
    have hf2:=aFQ zTp (aT m.1 o.2.1 s) (k:=k+1) (by omega)
    rw[zK]
    simp only[dlt h1,dlt h2,dge,Bool.and_self,cond_true,Int.toNat_natCast,hkj,Option.bind_some,hf,hml,aMX zTp hk,hf2,aNK zTp hk,aL h1 (show s.length≤lenMax by simp only[lenMax];omega)]
    cases x.1==0 <;> rfl)
   (fun rec=>by
    have:kO zTp (aT m.1 o.2.1 s) s.length=aT m.1 o.2.1 s:=by rw[←hml];unfold kO;simp
    rw[zK]
    simp only[hml,this,aW,cond_false,eqL]) (s.length+1) (by omega)
  have h0:kO zTp (aT m.1 o.2.1 s) 0=List.replicate s.length zTp:=by unfold kO;simp[hml]
  rw[h0] at key
  refine key.trans ?_
  rw[←List.not_any_eq_all_not]
  cases (aT m.1 o.2.1 s).any fun t=>t.1==0 <;> rfl
 ·have e1:((o.2.1.length:Int) !=(s.length:Int))=true:=by simp;omega
  have e2:decide (o.2.1.length≠s.length)=true:=by simp[hl]
  simp only[e1,e2,cond_true]
theorem aSf {m:Im} (hs:aF m=true) {f pc:Int} (hf:inM m f=true) (hp:sin pc (aB m f:Int)=true) (hn:(cS (aH m f pc) pc).contains (aB m f:Int)=false):∀to∈cS (aH m f pc) pc,0≤to∧to<(aB m f:Int):=by
 have hi:=kG hs hf hp
 have hc:=cM hs hf
 simp only[sin,Bool.and_eq_true,decide_eq_true_eq] at hp
 have hw:IntKind.i64.wrap (pc+1)=pc+1:=by rw[cC] <;> omega
 intro to ht
 have hne:to≠(aB m f:Int):=by
  rintro rfl
  rw[List.contains_iff_mem.2 ht] at hn
  cases hn
 have hj:((aH m f pc).1==18 || (aH m f pc).1==19)=true→0≤(aH m f pc).2.1∧(aH m f pc).2.1<(aB m f:Int):=by
  intro hh
  have:sin (aH m f pc).2.1 (aB m f:Int)=true:=by
   rw[Bool.or_eq_true] at hh
   unfold bH at hi
   rcases hh with hh | hh <;> (have e:=eq_of_beq hh;rw[e] at hi;exact hi)
  simpa[sin] using this
 unfold cS at ht
 cases h1:(aH m f pc).1==18 <;> simp only[h1,cond_true,cond_false] at ht
 ·cases h2:(aH m f pc).1==19 <;> simp only[h2,cond_true,cond_false] at ht
  ·cases h3:(aH m f pc).1==33 <;> simp only[h3,cond_true,cond_false] at ht
   ·rw[List.mem_singleton,hw] at ht;omega
   ·cases ht
  ·rw[hw] at ht
   rcases List.mem_cons.1 ht with ht | ht
   ·omega
   ·rw[List.mem_singleton] at ht
    have:=hj (by rw[h2,Bool.or_true])
    omega
 ·rw[List.mem_singleton] at ht
  have:=hj (by rw[h1,Bool.true_or])
  omega
theorem eZ {m:Im} (hs:aF m=true) {f pc:Int} {s:List Tp} (h:(aM m f pc s).2.2.1=0):
  inM m f=true∧sin pc (aB m f:Int)=true∧(aM m f pc s).1.length≤8∧(∀to∈(aM m f pc s).2.1,0≤to∧to<(aB m f:Int)):=by
 unfold aM at h⊢
 cases hf:inM m f
 ·rw[hf] at h;simp at h
 cases hp:sin pc (aB m f:Int)
 ·rw[hf,hp] at h;simp at h
 simp only[hf,hp,Bool.and_self,Bool.not_true,cond_false] at h⊢
 cases hn:(cS (aH m f pc) pc).contains (aB m f:Int)
 case true=>rw[hn] at h;simp at h
 have hin:=aSf hs hf hp hn
 simp only[hn,cond_false] at h⊢
 refine⟨trivial,trivial,?_⟩
 cases h6:(aH m f pc).1==6 <;> simp only[h6,cond_true,cond_false] at h⊢
 ·unfold qX at h⊢
  generalize iP m (aC m f) (aH m f pc)=E at h⊢
  cases hb:decide (s.length<E.1.length) || decide (s.length - E.1.length+E.2.1.length>8) <;> simp only[hb,cond_true,cond_false] at h⊢
  ·simp only[Bool.or_eq_false_iff,decide_eq_false_iff_not] at hb
   cases hz:((s.drop (s.length - E.1.length)).zip E.1).all fun p=>dT m (aH m f pc).1 p.1 p.2 <;> simp only[hz,cond_true,cond_false] at h⊢
   ·cases h
   ·refine⟨?_,hin⟩
    rw[List.length_append,List.length_take]
    omega
  ·cases h
 ·cases hb:decide (s.length=0) || decide (s.length≥8) <;> simp only[hb,cond_true,cond_false] at h⊢
  ·simp only[Bool.or_eq_false_iff,decide_eq_false_iff_not] at hb
   refine⟨?_,hin⟩
   rw[List.length_append,List.length_drop]
   omega
  ·cases h
theorem aIL {m:Im} {r1:St4} {N:Nat} (hN:N<1000000) (ha:r1.1.length<1000000):∀(l pre:List Int) (h:List Sh) (q:List Bool) (F:Nat),r1.2.1=pre++l→r1.2.1.length≤1000→l.length<F→h.length=N→q.length=N→(∀to∈l,0≤to∧to<(N:Int))→
  aA (aFR m r1) F ((pre.length:Int),h,q,())=some (gD m.1 r1.1 l h q)
 | [],pre,h,q,F,he,hl,hF,hh,hq,_=>by
  obtain⟨F,rfl⟩:∃n,F=n+1:=⟨F - 1,by simp at hF;omega⟩
  rw[List.append_nil] at he
  rw[aD,aFR,he]
  simp only[aW,cond_false,gD]
 | to::l,pre,h,q,F,he,hl,hF,hh,hq,ht=>by
  obtain⟨F,rfl⟩:∃n,F=n+1:=⟨F - 1,by simp at hF;omega⟩
  have hk:pre.length<r1.2.1.length:=by rw[he,List.length_append];simp
  have hget:r1.2.1.getD pre.length 0=to:=by rw[he];simp
  obtain⟨t0,t1⟩:=ht to (List.mem_cons_self ..)
  have hm:xT m (h.getD to.toNat zSh) r1.1=some (bI m.1 (h.getD to.toNat zSh) r1.1):=by unfold xT;rw[eA ha];rfl
  have hw:=aL hk (show r1.2.1.length≤lenMax by simp only[lenMax];omega)
  have t2:to<(h.length:Int):=by omega
  have t3:to<(q.length:Int):=by omega
  have ih:=fun h' q' hh' hq'=>aIL (m:=m) hN ha l (pre++[to]) h' q' F (by rw[he,List.append_assoc];rfl) hl (by simp only[List.length_cons] at hF;omega) hh' hq' (fun x hx=>ht x (List.mem_cons_of_mem _ hx))
  simp only[List.length_append,List.length_cons,List.length_nil,Nat.zero_add] at ih
  rw[aD,aFR]
  simp only[dlt hk,dge,Bool.and_self,cond_true,Int.toNat_natCast,hget,t0,t2,t3,decide_true,hm,Option.bind_some,hw,gD]
  cases (bI m.1 (h.getD to.toNat zSh) r1.1).2.2.1 <;> simp only[Bool.not_true,Bool.not_false,cond_true,cond_false]
  cases (bI m.1 (h.getD to.toNat zSh) r1.1).2.1 <;> simp only[cond_true,cond_false]
  ·exact ih h q hh hq
  ·exact ih _ _ (by rw[List.length_set,hh]) (by rw[List.length_set,hq])
theorem aDY (l:List Cl) (a:List Tp):∀(ts:List Int) (h:List Sh) (q:List Bool),(gD l a ts h q).2.1.length=h.length∧(gD l a ts h q).2.2.1.length=q.length
 | [],h,q=>⟨rfl,rfl⟩
 | to::ts,h,q=>by
  unfold gD
  cases (bI l (h.getD to.toNat zSh) a).2.2.1 <;> simp only[Bool.not_true,Bool.not_false,cond_true,cond_false]
  ·exact⟨trivial,trivial⟩
  ·cases (bI l (h.getD to.toNat zSh) a).2.1 <;> simp only[cond_true,cond_false]
   ·exact aDY l a ts h q
   ·have:=aDY l a ts (h.set to.toNat (bI l (h.getD to.toNat zSh) a).1) (q.set to.toNat true)
    simpa using this
theorem aOy (m:Im) (f pc:Int) (h:List Sh) (q:List Bool):(jK m f pc h q).2.1.length=h.length∧(jK m f pc h q).2.2.1.length=q.length:=by
 unfold jK
 cases (aM m f pc (h.getD pc.toNat zSh).2.1).2.2.1 !=0 <;> simp only[cond_true,cond_false]
 ·exact aDY _ _ _ _ _
 ·exact⟨trivial,trivial⟩
structure OneP (m:Im) (f pc:Int) (h:List Sh) (q:List Bool):Prop where
 sane:aF m=true
 meth:inM m f=true
 at':sin pc (aB m f:Int)=true
 hl:h.length=aB m f
 ql:q.length=aB m f
 ok:∀s∈h,okL s.2.1=true
theorem aS7 {m:Im} {f pc:Int} {h:List Sh} {q:List Bool} (hh:aAs m f pc h q=true):OneP m f pc h q:=by
 simp only[aAs,Bool.and_eq_true,decide_eq_true_eq,List.all_eq_true] at hh
 exact⟨hh.1,hh.2.1,hh.2.2.1,hh.2.2.2.1,hh.2.2.2.2.1,hh.2.2.2.2.2⟩
theorem OneP.to {m:Im} {f pc:Int} {h:List Sh} {q:List Bool} (hh:OneP m f pc h q):aAs m f pc h q=true:=by
 simp only[aAs,Bool.and_eq_true,decide_eq_true_eq,List.all_eq_true]
 exact⟨hh.1,hh.2,hh.3,hh.4,hh.5,hh.6⟩
def aVH (z:St4):Prop:=z.2.1.length≤2
theorem pS (m:Im) (f pc:Int) (s:List Tp):aVH (aM m f pc s):=by
 have h2:=aQD (aH m f pc) pc
 unfold aM qX
 exact bT (Nat.zero_le _) (bT (Nat.zero_le _) (bT (bT (Nat.zero_le _) h2) (bT (Nat.zero_le _) (bT h2 (Nat.zero_le _)))))
theorem aT7 (m:Im) (f pc:Int) (h:List Sh) (q:List Bool) (r) (he:sM m f pc h q=some r):∃k,aSM k m f pc h q=some r:=by
 unfold sM at he
 cases hb:aAs m f pc h q <;> simp only[hb,cond_true,cond_false] at he
 ·cases he
 injection he with he
 subst he
 obtain⟨hs,hf,hp,hhl,hql,hok⟩:=aS7 hb
 have hp':=hp
 simp only[sin,Bool.and_eq_true,decide_eq_true_eq] at hp'
 have hc:=cM hs hf
 have hz:okL (h.getD pc.toNat zSh).2.1=true:=by
  have:pc.toNat<h.length:=by omega
  rw[getD_some (List.getElem?_eq_getElem this)]
  exact hok _ (List.getElem_mem this)
 have hst:sQ m f pc (h.getD pc.toNat zSh).2.1=some (aM m f pc (h.getD pc.toNat zSh).2.1):=by unfold sQ;rw[hs,hz];rfl
 refine⟨1001,?_⟩
 have p2:pc<(h.length:Int):=by omega
 unfold aSM jK
 simp only[hp'.1,p2,decide_true,Bool.and_self,cond_true,hst,Option.bind_some]
 cases hne:(aM m f pc (h.getD pc.toNat zSh).2.1).2.2.1 !=0
 case true=>simp only[cond_true]
 simp only[cond_false]
 obtain⟨-,-,h8,hto⟩:=eZ hs (f:=f) (pc:=pc) (s:=(h.getD pc.toNat zSh).2.1) (by simpa using hne)
 have hnl:(aM m f pc (h.getD pc.toNat zSh).2.1).2.1.length≤2:=pS ..
 have:=aIL (m:=m) (r1:=aM m f pc (h.getD pc.toNat zSh).2.1) (N:=aB m f) (by omega) (by omega) (aM m f pc (h.getD pc.toNat zSh).2.1).2.1 [] h q 1001 rfl (by omega) (by omega) hhl hql hto
 simpa using this
theorem aPR {σ R:Type} {L:σ→(σ→Option R)→Option R} {st:Nat→σ} {fin:Option R} {g:Nat→Option R} {xs:List Bool}
  (h1:∀(k:Nat) (rec),xs[k]? =some false→k<xs.length→L (st k) rec=rec (st (k+1))) (h2:∀(k:Nat) (rec),xs[k]? =some true→k<xs.length→L (st k) rec=g k) (h3:∀rec,L (st xs.length) rec=fin):
  ∀F:Nat,xs.length<F→aA L F (st 0)=bif xs.any id then g (xs.findIdx id) else fin:=by
 have key:∀(l pre:List Bool) (F:Nat),xs=pre++l→l.length<F→aA L F (st pre.length)=bif l.any id then g (pre.length+l.findIdx id) else fin:=by
  intro l
  induction l with
  | nil=>
   intro pre F hx hF
   obtain⟨F,rfl⟩:∃n,F=n+1:=⟨F - 1,by simp at hF;omega⟩
   rw[List.append_nil] at hx
   subst hx
   rw[aD,h3]
   rfl
  | cons x l ih=>
   intro pre F hx hF
   obtain⟨F,rfl⟩:∃n,F=n+1:=⟨F - 1,by simp at hF;omega⟩
   have hk:xs[pre.length]? =some x:=by rw[hx];simp
   have hl:pre.length<xs.length:=by rw[hx];simp
   cases x with
   | true=>
    rw[aD,h2 _ _ hk hl]
    simp[List.findIdx_cons]
   | false=>
    rw[aD,h1 _ _ hk hl]
    have:=ih (pre++[false]) F (by rw[hx];simp) (by simp only[List.length_cons] at hF;omega)
    simp only[List.length_append,List.length_cons,List.length_nil,Nat.zero_add] at this
    rw[this]
    simp only[List.any_cons,List.findIdx_cons,id,Bool.false_or,cond_false]
    rw[show pre.length+(l.findIdx id+1)=pre.length+1+l.findIdx id by omega]
 intro F hF
 simpa using key xs [] F rfl hF
theorem aFz {m:Im} {f:Int} {fuel N:Nat} (hN:N<fuel) (hN2:N<1000000):∀(n:Nat) (h:List Sh) (q:List Bool) (r),q.length=N→nP m f n h q=some r→aA (sD m f fuel) n (h,q,())=some r
 | 0,_,_,_,_,hw=>by cases hw
 | n+1,h,q,r,hq,hw=>by
  rw[aD,sD]
  have key:=aPR (L:=rQ m f (h,q,()) (aA (sD m f fuel) n)) (st:=fun k=>((k:Int),())) (xs:=q) (fin:=some (h,0,0,()))
   (g:=fun k=>(sM m f (k:Int) h (q.set k false)).bind fun r5=>bif !r5.1 then some ([],(k:Int),4,()) else aA (sD m f fuel) n (r5.2.1,r5.2.2.1,()))
   (fun k rec hk hl=>by
    rw[rQ]
    simp only[dlt hl,dge,Bool.and_self,cond_true,Int.toNat_natCast,getD_some hk,Bool.not_false,aL hl (show _≤lenMax by simp only[lenMax];omega)])
   (fun k rec hk hl=>by
    rw[rQ]
    simp only[dlt hl,dge,Bool.and_self,cond_true,cond_false,Int.toNat_natCast,getD_some hk,Bool.not_true])
   (fun rec=>by
    rw[rQ]
    simp only[aW,cond_false]) fuel (by omega)
  refine key.trans ?_
  unfold nP at hw
  cases ha:q.any id <;> simp only[ha,cond_true,cond_false] at hw⊢
  ·exact hw
  ·cases ht:sM m f (q.findIdx id:Int) h (q.set (q.findIdx id) false) with
   | none=>rw[ht] at hw;cases hw
   | some r5=>
    rw[ht] at hw
    simp only[Option.bind_some] at hw⊢
    have hr5:r5=jK m f (q.findIdx id:Int) h (q.set (q.findIdx id) false):=by
     unfold sM at ht
     cases hb:aAs m f (q.findIdx id:Int) h (q.set (q.findIdx id) false) <;> simp only[hb,cond_true,cond_false] at ht
     ·cases ht
     ·injection ht with ht;exact ht.symm
    cases hr:r5.1 <;> simp only[hr,Bool.not_true,Bool.not_false,cond_true,cond_false] at hw⊢
    ·exact hw
    ·refine aFz hN hN2 n _ _ _ ?_ hw
     rw[hr5,(aOy ..).2,List.length_set,hq]
theorem aNj (m:Im) (f:Int) (r) (h:iT m f=some r):∃k,aJ3 k m f=some r:=by
 unfold iT at h
 cases hb:aF m&&inM m f <;> simp only[hb,cond_true,cond_false] at h
 ·cases h
 simp only[Bool.and_eq_true] at hb
 obtain⟨hs,hf⟩:=hb
 obtain⟨f0,f1⟩:=aP.1 hf
 have hc:=cM hs hf
 refine⟨100*aB m f+2,?_⟩
 have fold:∀g:Int,m.2.2.2.1.getD g.toNat zMt=aC m g:=fun _=>rfl
 have fold3:(aC m f).2.2.2.1.length=aB m f:=rfl
 have e0:decide ((0:Int)≤(aB m f:Int))=true:=decide_eq_true (by omega)
 have e1:decide ((aB m f:Int)<(rowMax:Int))=true:=decide_eq_true (by simp only[rowMax];omega)
 have e2:((aB m f:Int)==0)=false:=beq_eq_false_iff_ne.2 (by omega)
 have e3:decide ((0:Int)<(aB m f:Int))=true:=decide_eq_true (by omega)
 have e4:decide ((aB m f:Int)≤(aB m f:Int))=true:=decide_eq_true (by omega)
 have e5:((List.replicate (aB m f) zSh).getD 0 zSh).2=([],()):=by
  obtain⟨n,hn⟩:∃n,aB m f=n+1:=⟨aB m f - 1,by omega⟩
  rw[hn];rfl
 unfold aJ3
 simp only[fold,fold3,f0,f1,decide_true,Bool.and_self,cond_true,cond_false,e0,e1,e2,e3,e4,e5,Int.toNat_natCast,List.length_replicate,List.length_set]
 exact aFz (N:=aB m f) (by omega) (by omega) _ _ _ _ (by simp) h
theorem aE4 {m:Im} (h12:m.2.2.2.1.length≤12):∀(j k:Nat) (out:List (List Sh)) (F:Nat) (r),k+j=m.2.2.2.1.length→j<F→out.length≤k→nK m ((List.range' k j).map fun n:Nat=>(n:Int)) out=some r→aA (aAp m) F (out,(k:Int),())=some r
 | 0,k,out,F,r,hk,hF,_,h=>by
  obtain⟨F,rfl⟩:∃n,F=n+1:=⟨F - 1,by omega⟩
  have:k=m.2.2.2.1.length:=by omega
  subst this
  rw[aD,aAp]
  simp only[aW,cond_false,idL]
  exact h
 | j+1,k,out,F,r,hk,hF,ho,h=>by
  obtain⟨F,rfl⟩:∃n,F=n+1:=⟨F - 1,by omega⟩
  have hlt:k<m.2.2.2.1.length:=by omega
  rw[aD,aAp]
  rw[List.range'_succ,List.map_cons,nK] at h
  simp only[dlt hlt,cond_true]
  cases ht:iT m (k:Int) with
  | none=>rw[ht] at h;cases h
  | some r3=>
   rw[ht] at h
   simp only[Option.bind_some] at h⊢
   cases he:r3.2.2.1 !=0 <;> simp only[he,cond_true,cond_false] at h⊢
   ·simp only[List.length_cons,List.length_nil,iH (show out.length+(0+1)<549755813888 by omega),cond_true,aL hlt (show _≤lenMax by simp only[lenMax];omega)]
    exact aE4 h12 j (k+1) _ F r (by omega) (by omega) (by simp;omega) h
   ·exact h
theorem aOU (m:Im) (r) (h:kS m=some r):∃k,aLL k m=some r:=by
 unfold kS at h
 cases hs:aF m <;> simp only[hs,cond_true,cond_false] at h
 ·cases h
 have h12:=(bC (aU hs).1).methods
 refine⟨m.2.2.2.1.length+1,?_⟩
 unfold aLL
 refine aE4 h12 m.2.2.2.1.length 0 [] _ r (by omega) (by omega) (by simp) ?_
 rw[←List.range_eq_range']
 exact h
end Go.Pli

namespace Go.Pli
open Go Go.PM
theorem aOz (s:List Int):aMa s=some (idL s,()):=by simp[aMa,idL]
theorem aNt (s:List (List Int)):aKj s=some (idL s,()):=by simp[aKj,idL]
theorem pP {l:List (List Sh)} (h:dM l=true) {n:Nat} (hn:n<l.length):(l.getD n []).length<1000000∧∀s∈l.getD n [],s.2.1.length<1000000:=by
 simp only[dM,Bool.and_eq_true,List.all_eq_true] at h
 rw[getD_some (List.getElem?_eq_getElem hn)]
 have:=h.2 _ (List.getElem_mem hn)
 exact⟨fC this.1,fun s hs=>fC (this.2 s hs)⟩
theorem aG9 (l:List Int) {k:Nat} {x:Int} (h:l[k]? =some x):iN (l.take (k+1))=max (iN (l.take k)) x:=by
 unfold iN
 rw[List.take_add_one,h,List.foldl_append]
 rfl
theorem aTQ {B:Int} (hB:0≤B) {l:List Int} (h:∀x∈l,x≤B):0≤iN l∧iN l≤B:=by
 have key:∀(l:List Int) (a:Int),0≤a→a≤B→(∀x∈l,x≤B)→0≤l.foldl max a∧l.foldl max a≤B:=by
  intro l
  induction l with
  | nil=>intro a h0 h1 _;exact⟨h0,h1⟩
  | cons x l ih=>
   intro a h0 h1 hx
   have:=hx x (List.mem_cons_self ..)
   exact ih _ (by omega) (by omega) fun y hy=>hx y (List.mem_cons_of_mem _ hy)
 exact key l 0 (Int.le_refl _) hB h
theorem aSa (l:List (List Sh)) (f:Int) (r) (h:aCw l f=some r):∃k,aOR k l f=some r:=by
 unfold aCw at h
 cases hb:dM l <;> simp only[hb,cond_true,cond_false] at h
 ·cases h
 injection h with h
 subst h
 refine⟨1000001,?_⟩
 unfold aOR sZ sin
 by_cases h0:f<0
 ·have:¬0≤f:=by omega
  simp only[h0,this,decide_true,decide_false,Bool.false_and,cond_true,cond_false]
 have h0':0≤f:=by omega
 by_cases h1:f≥(l.length:Int)
 ·have:¬f<(l.length:Int):=by omega
  simp only[h0,h1,this,decide_true,decide_false,Bool.and_false,cond_true,cond_false]
 have h1':f<(l.length:Int):=by omega
 simp only[h0,h0',h1,h1',decide_true,decide_false,Bool.and_self,cond_true,cond_false]
 obtain⟨hl,-⟩:=pP hb (n:=f.toNat) (by omega)
 generalize hh:l.getD f.toNat []=h at hl
 have:=fB (L:=aCX l f) (n:=h.length) (st:=fun k=>(iN ((h.map fun s=>(s.2.1.length:Int)).take k),(k:Int),())) (fin:=some (iN (h.map fun s=>(s.2.1.length:Int)),()))
  (fun k rec hk=>by
   have hx:(h.map fun s=>(s.2.1.length:Int))[k]? =some (((h.getD k zSh).2.1.length:Nat):Int):=by simp[hk]
   rw[aCX]
   simp only[hh,dlt hk,dge,Bool.and_self,cond_true,Int.toNat_natCast,aG9 _ hx,aL hk (show _≤lenMax by simp only[lenMax];omega)])
  (fun rec=>by
   rw[aCX]
   simp only[hh,aW,cond_false]
   rw[List.take_of_length_le (by simp)]) 1000001 (by omega)
 exact this
theorem aDE {l:List (List Sh)} (h:dM l=true) (f:Int):0≤sZ l f∧sZ l f≤1000000:=by
 unfold sZ
 cases hs:sin f (l.length:Int) <;> simp only[cond_true,cond_false]
 ·omega
 simp only[sin,Bool.and_eq_true,decide_eq_true_eq] at hs
 obtain⟨-,hl⟩:=pP h (n:=f.toNat) (by omega)
 refine aTQ (by omega) fun x hx=>?_
 obtain⟨s,hs,rfl⟩:=List.mem_map.1 hx
 have:=hl s hs
 omega
theorem aQn {m:Im} {l:List (List Sh)} (hs:aF m=true) (hl:dM l=true) {f:Int} (hf:inM m f=true):aCD m l f=some (sG m l f,()):=by
 obtain⟨f0,f1⟩:=aP.1 hf
 have a:¬f<0:=by omega
 have b:¬f≥(m.2.2.2.1.length:Int):=by omega
 have hd:=aDE hl f
 have hloc:=iA hs hf
 have fold:∀g:Int,m.2.2.2.1.getD g.toNat zMt=aC m g:=fun _=>rfl
 have ht:aCw l f=some (sZ l f,()):=by unfold aCw;rw[hl];rfl
 unfold aCD sG
 simp only[a,b,f0,f1,hf,fold,ht,decide_true,decide_false,Bool.and_self,cond_true,cond_false,Option.bind_some]
 rw[cC (n:=(3:Int)+_) (by omega) (by omega),cC (n:=(3:Int)+((aC m f).1.length:Int)+_) (by omega) (by omega),cC (by omega) (by omega)]
 simp
theorem aTq (to:Int) (part:List Int) (_:aTf to part):aVo to part=some (aDG to part,()):=rfl
theorem aLr (l:List Int) (c:List Int×Unit) (h:aKW l c):∃k,aPy k l c=some (aAc l c,()):=by
 refine⟨l.length+1,iZ (st:=fun k=>((k:Int),())) (p:=fun x=>aDG x c.1) (fun k x rec hk hlt=>?_) (fun rec=>?_) _ (Nat.lt_succ_self _)⟩
 ·unfold aAy
  simp only[dlt hlt,dge,Bool.and_self,cond_true,Int.toNat_natCast,getD_some hk,aL hlt h.1.1]
 ·unfold aAy
  simp only[aW,cond_false]
theorem aGx (l:List Int) (c:List Int×Unit) (_:aGl l c):aCl l c=some (nB l c,()):=by
 unfold aCl aAc nB
 rw[gY]
theorem aOF (l:List (List Int)) (part:List Int) (r) (h:xU l part=some r):∃k,aLQ k l part=some r:=by
 unfold xU at h
 cases hb:okL part <;> simp only[hb,cond_true,cond_false] at h
 ·cases h
 injection h with h
 subst h
 have hp:=fC hb
 refine⟨part.length+1,?_⟩
 unfold aLQ eD
 have:=dB (L:=aAi l part) (xs:=part) (st:=fun k=>((k:Int),())) (p:=fun k=> !(sin k (l.length:Int)&&(l.getD k.toNat []).any fun to=>part.contains to)) (ex:=some (true,())) (fin:=some (false,()))
  (fun k x rec hk hlt=>by
   have hw:=aL hlt (show _≤lenMax by simp only[lenMax];omega)
   rw[aAi]
   simp only[dlt hlt,dge,Bool.and_self,cond_true,Int.toNat_natCast,getD_some hk,hw,sin]
   by_cases h0:x<0
   ·have:¬0≤x:=by omega
    simp only[h0,this,decide_true,decide_false,Bool.false_and,Bool.not_false,cond_true]
   have h0':0≤x:=by omega
   by_cases h1:x≥(l.length:Int)
   ·have:¬x<(l.length:Int):=by omega
    simp only[h0,h1,this,decide_true,decide_false,Bool.and_false,Bool.false_and,Bool.not_false,cond_true,cond_false]
   have h1':x<(l.length:Int):=by omega
   simp only[h0,h0',h1,h1',decide_true,decide_false,Bool.and_self,Bool.true_and,cond_true,cond_false,nB,aDG]
   cases (l.getD x.toNat []).any fun to=>part.contains to <;> rfl)
  (fun rec=>by rw[aAi];simp only[aW,cond_false]) (part.length+1) (by omega)
 refine this.trans ?_
 rw[←List.not_any_eq_all_not]
 cases part.any fun k=>sin k (l.length:Int)&&(l.getD k.toNat []).any fun to=>part.contains to <;> rfl
theorem aIC {m:Im} {s1:List (List Int)×Int×Unit} {r4:List (List Int)×Unit} {s8:Int×Int×Int×Unit} {s5:Int×List Int×Unit} {rec9:(Int×Int×Int×Unit)→Option (List Int×Int×Unit)} {s10 r12:Int×Unit} {part es out:List Int} {f:Int}
  (hp:r4.1.getD s5.1.toNat []=part) (hf:part.getD s8.2.2.1.toNat 0=f) (he:s1.1.getD f.toNat []=es) (ho:s5.2.1=out) (hel:es.length<1000000) (hin:∀to∈es,inM m to=true):
  ∀(l pre:List Int) (b:Int) (F:Nat),es=pre++l→l.length<F→aA (aAm s1 r4 s8 s5 rec9 s10 r12) F (b,(pre.length:Int),())=rec9 (IntKind.i64.wrap (s8.1+IntKind.i64.wrap (s10.1*r12.1)),qJ part out l b,IntKind.i64.wrap (s8.2.2.1+1),())
 | [],pre,b,F,hx,hF=>by
  obtain⟨F,rfl⟩:∃n,F=n+1:=⟨F - 1,by simp at hF;omega⟩
  rw[List.append_nil] at hx
  rw[aD,aAm]
  simp only[hp,hf,he,hx,aW,cond_false,qJ]
 | to::l,pre,b,F,hx,hF=>by
  obtain⟨F,rfl⟩:∃n,F=n+1:=⟨F - 1,by simp at hF;omega⟩
  have hk:pre.length<es.length:=by rw[hx,List.length_append];simp
  have hget:es.getD pre.length 0=to:=by rw[hx];simp
  have hto:=(aP.1 (hin to (by rw[hx];simp))).1
  have hw:=aL hk (show es.length≤lenMax by simp only[lenMax];omega)
  have ih:=fun b'=>aIC (rec9:=rec9) (s10:=s10) (r12:=r12) hp hf he ho hel hin l (pre++[to]) b' F (by rw[hx,List.append_assoc];rfl) (by simp only[List.length_cons] at hF;omega)
  simp only[List.length_append,List.length_cons,List.length_nil,Nat.zero_add] at ih
  rw[aD,aAm]
  simp only[hp,hf,he,ho,dlt hk,dge,Bool.and_self,cond_true,Int.toNat_natCast,hget,hw,jZ,qJ,hto,decide_true,Bool.true_and]
  cases part.contains to <;> cases decide (to<(out.length:Int)) <;> simp only[Bool.not_true,Bool.not_false,Bool.and_self,Bool.and_true,Bool.and_false,cond_true,cond_false] <;> exact ih _
theorem aJv {m:Im} {r4:List (List Int)×Unit} {s8:Int×Int×Int×Unit} {s5:Int×List Int×Unit} {rec6:(Int×List Int×Unit)→Option (List Int×Int×Unit)} {part:List Int}
  (hp:r4.1.getD s5.1.toNat []=part) (hpl:part.length<1000000) (hin:∀f∈part,inM m f=true):
  ∀(l pre out:List Int) (F:Nat),part=pre++l→l.length<F→out.length=m.2.2.2.1.length→aA (aAo r4 s8 s5 rec6) F ((pre.length:Int),out,())=rec6 (IntKind.i64.wrap (s5.1+1),oB (IntKind.i64.wrap (s8.1+s8.2.1)) l out,())
 | [],pre,out,F,hx,hF,_=>by
  obtain⟨F,rfl⟩:∃n,F=n+1:=⟨F - 1,by simp at hF;omega⟩
  rw[List.append_nil] at hx
  rw[aD,aAo]
  simp only[hp,hx,aW,cond_false,oB]
 | f::l,pre,out,F,hx,hF,ho=>by
  obtain⟨F,rfl⟩:∃n,F=n+1:=⟨F - 1,by simp at hF;omega⟩
  have hk:pre.length<part.length:=by rw[hx,List.length_append];simp
  have hget:part.getD pre.length 0=f:=by rw[hx];simp
  obtain⟨f0,f1⟩:=aP.1 (hin f (by rw[hx];simp))
  have f1':f<(out.length:Int):=by omega
  have hw:=aL hk (show part.length≤lenMax by simp only[lenMax];omega)
  have ih:=fun out' ho'=>aJv (s8:=s8) (rec6:=rec6) hp hpl hin l (pre++[f]) out' F (by rw[hx,List.append_assoc];rfl) (by simp only[List.length_cons] at hF;omega) ho'
  simp only[List.length_append,List.length_cons,List.length_nil,Nat.zero_add] at ih
  rw[aD,aAo]
  simp only[hp,dlt hk,dge,Bool.and_self,cond_true,Int.toNat_natCast,hget,hw,f0,f1',decide_true,oB]
  exact ih _ (by rw[List.length_set,ho])
theorem aHk {m:Im} {l:List (List Sh)} (hs:aF m=true) (hl:dM l=true) {fuel:Nat} (hfu:1000000<fuel) {s1:List (List Int)×Int×Unit} (hed:s1.1=dE m) (hok:aEo m=true) {r4:List (List Int)×Unit} {r7:Bool×Unit} {s5:Int×List Int×Unit} {rec6:(Int×List Int×Unit)→Option (List Int×Int×Unit)} {part:List Int}
  (hp:r4.1.getD s5.1.toNat []=part) (hpl:part.length<1000000) (hin:∀f∈part,inM m f=true) (ho:s5.2.1.length=m.2.2.2.1.length):
  ∀(q pre:List Int) (a b:Int) (F:Nat),part=pre++q→q.length<F→aA (vA m l fuel s1 r4 r7 s5 rec6) F (a,b,(pre.length:Int),())=
   match mP m l (dE m) part s5.2.1 r7.1 q a b with
   | none=>some ([],5,())
   | some z=>rec6 (IntKind.i64.wrap (s5.1+1),oB (IntKind.i64.wrap (z.1+z.2)) part s5.2.1,())
 | [],pre,a,b,F,hx,hF=>by
  obtain⟨F,rfl⟩:∃n,F=n+1:=⟨F - 1,by simp at hF;omega⟩
  rw[List.append_nil] at hx
  subst hx
  have:=aJv (m:=m) (s8:=(a,b,(part.length:Int),())) (rec6:=rec6) hp hpl hin part [] s5.2.1 fuel rfl (by omega) ho
  rw[aD,vA]
  simp only[hp,aW,cond_false,mP]
  simpa using this
 | f::q,pre,a,b,F,hx,hF=>by
  obtain⟨F,rfl⟩:∃n,F=n+1:=⟨F - 1,by simp at hF;omega⟩
  have hk:pre.length<part.length:=by rw[hx,List.length_append];simp
  have hget:part.getD pre.length 0=f:=by rw[hx];simp
  have hfm:=hin f (by rw[hx];simp)
  obtain⟨f0,f1⟩:=aP.1 hfm
  have hw:=aL hk (show part.length≤lenMax by simp only[lenMax];omega)
  have ih:=fun a' b'=>aHk hs hl hfu hed hok (r7:=r7) (rec6:=rec6) hp hpl hin ho q (pre++[f]) a' b' F (by rw[hx,List.append_assoc];rfl) (by simp only[List.length_cons] at hF;omega)
  simp only[List.length_append,List.length_cons,List.length_nil,Nat.zero_add] at ih
  have hfl:f<(s1.1.length:Int):=by rw[hed];unfold dE;rw[List.length_map,dF];exact f1
  have hfn:f.toNat<(dE m).length:=by unfold dE;rw[List.length_map,dF];omega
  have hes:=List.all_eq_true.1 hok _ (List.getElem_mem hfn)
  simp only[Bool.and_eq_true,List.all_eq_true] at hes
  have hbey:=fun s8 (h8:part.getD s8.2.2.1.toNat 0=f) s10 r12=>aIC (m:=m) (s1:=s1) (r4:=r4) (s8:=s8) (s5:=s5) (rec9:=aA (vA m l fuel s1 r4 r7 s5 rec6) F) (s10:=s10) (r12:=r12) (part:=part) (es:=(dE m)[f.toNat]) (out:=s5.2.1) (f:=f) hp h8 (by rw[hed,getD_some (List.getElem?_eq_getElem hfn)]) rfl (fC hes.1) hes.2 (dE m)[f.toNat] [] s8.2.1 fuel rfl (by have:=fC hes.1;omega)
  have fold:∀g:Int,m.2.2.2.1.getD g.toNat zMt=aC m g:=fun _=>rfl
  have hge:(dE m).getD f.toNat []=(dE m)[f.toNat]:=getD_some (List.getElem?_eq_getElem hfn)
  rw[aD,vA]
  simp only[hp,dlt hk,dge,Bool.and_self,cond_true,Int.toNat_natCast,hget,f0,f1,hfl,decide_true,aQn hs hl hfm,Option.bind_some,mP,fold,hge]
  have hb:=hbey (a,b,(pre.length:Int),()) (by simpa using hget)
  simp only[List.length_nil,Int.cast_ofNat_Int] at hb
  cases hr7:r7.1 <;> simp only[hr7,cond_true,cond_false,Option.bind_some] at ih⊢
  ·have:¬((1:Int)<1):=by omega
   simp only[this,decide_false,cond_false]
   rw[hb,hw]
   exact ih _ _
  ·cases decide ((aC m f).2.2.2.2.1<1) <;> simp only[cond_true,cond_false]
   rw[hb,hw]
   exact ih _ _
theorem aJW (v:Int):∀(l out:List Int),(oB v l out).length=out.length
 | [],_=>rfl
 | f::l,out=>by rw[oB,aJW v l,List.length_set]
theorem aE6 {m:Im} {l:List (List Sh)} (hs:aF m=true) (hl:dM l=true) {fuel:Nat} (hfu:1000000<fuel) {s1:List (List Int)×Int×Unit} (hed:s1.1=dE m) (hok:aEo m=true) {r4:List (List Int)×Unit} (hrl:r4.1.length<1000000) (hr:∀p∈r4.1,p.length<1000000∧∀f∈p,inM m f=true):
  ∀(ps pre:List (List Int)) (out:List Int) (F:Nat),r4.1=pre++ps→ps.length<F→out.length=m.2.2.2.1.length→aA (uY m l fuel s1 r4) F ((pre.length:Int),out,())=some (kT m l (dE m) ps out)
 | [],pre,out,F,hx,hF,_=>by
  obtain⟨F,rfl⟩:∃n,F=n+1:=⟨F - 1,by simp at hF;omega⟩
  rw[List.append_nil] at hx
  rw[aD,uY]
  simp only[hx,aW,cond_false,kT]
 | part::ps,pre,out,F,hx,hF,ho=>by
  obtain⟨F,rfl⟩:∃n,F=n+1:=⟨F - 1,by simp at hF;omega⟩
  have hk:pre.length<r4.1.length:=by rw[hx,List.length_append];simp
  have hget:r4.1.getD pre.length []=part:=by rw[hx];simp
  obtain⟨hpl,hin⟩:=hr part (by rw[hx];simp)
  have hw:=aL hk (show r4.1.length≤lenMax by simp only[lenMax];omega)
  have ih:=fun out' ho'=>aE6 hs hl hfu hed hok hrl hr ps (pre++[part]) out' F (by rw[hx,List.append_assoc];rfl) (by simp only[List.length_cons] at hF;omega) ho'
  simp only[List.length_append,List.length_cons,List.length_nil,Nat.zero_add] at ih
  have hcy:xU s1.1 part=some (eD (dE m) part,()):=by unfold xU;rw[eA hpl,hed];rfl
  rw[aD,uY]
  simp only[dlt hk,dge,Bool.and_self,cond_true,Int.toNat_natCast,hget,hcy,Option.bind_some]
  have:=aHk hs hl hfu hed hok (r4:=r4) (r7:=(eD (dE m) part,())) (s5:=((pre.length:Int),out,())) (rec6:=aA (uY m l fuel s1 r4) F) (part:=part) (by simpa using hget) hpl hin ho part [] 0 0 fuel rfl (by omega)
  simp only[List.length_nil] at this
  refine this.trans ?_
  rw[kT]
  cases mP m l (dE m) part out (eD (dE m) part) part 0 0 with
  | none=>rfl
  | some z=>
   simp only[hw]
   exact ih _ (by rw[aJW,ho])
theorem aBl (m:Im):(dE m).length=m.2.2.2.1.length:=by unfold dE;rw[List.length_map,dF]
theorem aOv (m:Im) (l:List (List Sh)) (r) (h:oV m l=some r):∃k,aMw k m l=some r:=by
 unfold oV at h
 cases hb:aF m&&(dM l&&aEo m) <;> simp only[hb,cond_true,cond_false] at h
 ·cases h
 simp only[Bool.and_eq_true] at hb
 obtain⟨hs,hl,hok⟩:=hb
 cases hr:nL (dE m) with
 | none=>rw[hr] at h;cases h
 | some r4=>
  rw[hr] at h
  simp only[Option.bind_some] at h
  cases hb:okL r4.1&&r4.1.all (fun p=>okL p&&p.all (inM m)) <;> simp only[hb,cond_true,cond_false] at h
  ·cases h
  injection h with h
  subst h
  simp only[Bool.and_eq_true,List.all_eq_true] at hb
  have hrl:=fC hb.1
  have h12:=(bC (aU hs).1).methods
  refine⟨1000001,?_⟩
  unfold aMw
  refine fB (L:=zS m l 1000001) (n:=m.2.2.2.1.length) (st:=fun k=>((dE m).take k,(k:Int),())) (fun k rec hk=>?_) (fun rec=>?_) 1000001 (by omega)
  ·have hc:cof m (k:Int)=some (ofB m (k:Int),()):=by unfold cof;rw[(aU hs).1];rfl
   have hx:(dE m)[k]? =some (ofB m (k:Int)):=by
    unfold dE ints
    simp[hk]
   rw[zS]
   simp only[dlt hk,cond_true,hc,Option.bind_some,List.length_cons,List.length_nil,iH (show ((dE m).take k).length+(0+1)<549755813888 by rw[List.length_take];omega),aL hk (show _≤lenMax by simp only[lenMax];omega)]
   rw[List.take_add_one,hx]
   rfl
  ·have e:(dE m).take m.2.2.2.1.length=dE m:=by rw[←aBl,List.take_length]
   have e0:decide ((0:Int)≤(m.2.2.2.1.length:Int))=true:=decide_eq_true (by omega)
   have e1:decide ((m.2.2.2.1.length:Int)<(rowMax:Int))=true:=decide_eq_true (by simp only[rowMax];omega)
   have e2:decide ((m.2.2.2.1.length:Int)≤(m.2.2.2.1.length:Int))=true:=decide_eq_true (by omega)
   rw[zS]
   simp only[aW,cond_false,e0,e1,e2,Bool.and_self,cond_true,e,hr,Option.bind_some]
   exact aE6 hs hl (by omega) (s1:=(dE m,_,())) rfl hok hrl (fun p hp=>⟨fC (hb.2 p hp).1,fun f hf=>(hb.2 p hp).2 f hf⟩) r4.1 [] _ 1000001 rfl (by omega) (by simp)
theorem aHq {m:Im} {r1:List Int×Int×Unit} (hs:aF m=true):∀(l pre:List Int) (s h:Int) (F:Nat),m.2.2.2.2.1=pre++l→l.length<F→
  aA (aAa m r1) F (s,h,(pre.length:Int),())=some ((dS m r1.1 l s h).1,IntKind.i64.wrap ((m.2.1.length:Int)+(dS m r1.1 l s h).2),0,())
 | [],pre,s,h,F,hx,hF=>by
  obtain⟨F,rfl⟩:∃n,F=n+1:=⟨F - 1,by simp at hF;omega⟩
  rw[List.append_nil] at hx
  rw[aD,aAa]
  simp only[hx,aW,cond_false,dS]
 | f::l,pre,s,h,F,hx,hF=>by
  obtain⟨F,rfl⟩:∃n,F=n+1:=⟨F - 1,by simp at hF;omega⟩
  have hk:pre.length<m.2.2.2.2.1.length:=by rw[hx,List.length_append];simp
  have hget:m.2.2.2.2.1.getD pre.length 0=f:=by rw[hx];simp
  obtain⟨f0,f1⟩:=aP.1 (aIm hs f (by rw[hx];simp))
  have hen:m.2.2.2.2.1.length≤12:=by
   have:=(bC (aU hs).1).entries
   simp only[eM,Bool.and_eq_true,decide_eq_true_eq] at this
   omega
  have hw:=aL hk (show _≤lenMax by simp only[lenMax];omega)
  have ih:=fun s' h'=>aHq (r1:=r1) hs l (pre++[f]) s' h' F (by rw[hx,List.append_assoc];rfl) (by simp only[List.length_cons] at hF;omega)
  simp only[List.length_append,List.length_cons,List.length_nil,Nat.zero_add] at ih
  have g0:decide (f≥0)=true:=decide_eq_true f0
  rw[aD,aAa]
  simp only[dlt hk,dge,Bool.and_self,cond_true,Int.toNat_natCast,hget,hw,f0,f1,decide_true,Option.bind_some,dS,Bool.true_and]
  cases decide (f<(r1.1.length:Int)) <;> simp only[cond_true,cond_false] <;> exact ih _ _
theorem aQF (m:Im) (l:List (List Sh)) (r) (h:kR m l=some r):∃k,aMp k m l=some r:=by
 unfold kR at h
 cases hs:aF m <;> simp only[hs,cond_true,cond_false] at h
 ·cases h
 cases hd:oV m l with
 | none=>rw[hd] at h;cases h
 | some r1=>
  rw[hd] at h
  simp only[Option.bind_some] at h
  injection h with h
  subst h
  refine⟨1000,?_⟩
  have hen:m.2.2.2.2.1.length≤12:=by
   have:=(bC (aU hs).1).entries
   simp only[eM,Bool.and_eq_true,decide_eq_true_eq] at this
   omega
  unfold aMp aIc
  rw[hd]
  simp only[Option.bind_some]
  cases r1.2.1 !=0 <;> simp only[cond_true,cond_false]
  exact aHq hs m.2.2.2.2.1 [] 0 0 1000 rfl (by omega)
end Go.Pli
