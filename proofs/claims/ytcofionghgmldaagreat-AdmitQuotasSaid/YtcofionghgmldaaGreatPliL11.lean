/- Who calls whom: the printed functions come to what is told in plain Lean. -/
import Derived.Test.YtcofionghgmldaaGreatPliNt
import Derived.Test.YtcofionghgmldaaGreatPliL5E
namespace Go.Pli
open Go Go.PM
theorem mI {α σ R:Type} {L:σ→(σ→Option R)→Option R} {n B:Nat} {st:Nat→List α→σ} {f:Nat→List α} {fin:List α→Option R} (hB:∀k,k<n→(f k).length≤B)
  (h1:∀(k:Nat) (out:List α) (rec),k<n→out.length≤B*n→L (st k out) rec=rec (st (k+1) (out++f k)))
  (h2:∀out rec,out.length≤B*n→L (st n out) rec=fin out):∀F:Nat,n<F→aA L F (st 0 [])=fin (((List.range n).map f).flatten):=by
 have hlen:∀k,k≤n→(((List.range k).map f).flatten).length≤B*k:=by
  intro k
  induction k with
  | zero=>intro _;simp
  | succ k ih=>
   intro hk
   have:=ih (by omega)
   have hb:=hB k (by omega)
   rw[List.range_succ,List.map_append,List.flatten_append,List.length_append,Nat.mul_succ]
   simp only[List.map_cons,List.map_nil,List.flatten_cons,List.flatten_nil,List.append_nil]
   omega
 have key:∀(j k F:Nat),k+j=n→j<F→aA L F (st k (((List.range k).map f).flatten))=fin (((List.range n).map f).flatten):=by
  intro j
  induction j with
  | zero=>
   intro k F hk hF
   obtain⟨F,rfl⟩:∃m,F=m+1:=⟨F - 1,by omega⟩
   have:k=n:=by omega
   subst this
   rw[aD,h2 _ _ (hlen k (Nat.le_refl _))]
  | succ j ih=>
   intro k F hk hF
   obtain⟨F,rfl⟩:∃m,F=m+1:=⟨F - 1,by omega⟩
   have hb:B*k≤B*n:=Nat.mul_le_mul_left _ (by omega)
   rw[aD,h1 k _ _ (by omega) (Nat.le_trans (hlen k (by omega)) hb)]
   have:=ih (k+1) F (by omega) (by omega)
   rw[List.range_succ,List.map_append,List.flatten_append] at this
   simpa using this
 intro F hF
 have:=key n 0 F (by omega) hF
 simpa using this
theorem rG (p:Int→Bool):∀n:Nat,((List.range n).map fun k:Nat=>bif p (k:Int) then[(k:Int)] else[]).flatten=(ints n).filter p
 | 0=>rfl
 | n+1=>by
  have ih:=rG p n
  unfold ints at ih⊢
  rw[List.range_succ,List.map_append,List.flatten_append,ih,List.map_append,List.filter_append]
  congr 1
  cases h:p (n:Int) <;> simp[h]
theorem aEY {α β:Type} (g:α→β) (z:α) (l:List α):(List.range l.length).map (fun k=>g (l.getD k z))=l.map g:=by
 apply List.ext_getElem (by simp)
 intro i h1 h2
 have:i<l.length:=by simpa using h1
 simp[this]
theorem aRb {α β:Type} (g:α→β) (l:List α):(l.map fun k=>[g k]).flatten=l.map g:=by
 induction l with
 | nil=>rfl
 | cons x l ih=>rw[List.map_cons,List.flatten_cons,ih];rfl
theorem dG (n:Nat):(ints n).length=n:=by simp[ints]
theorem aEl {n k:Nat} (h:k<n) (z:Int):(ints n).getD k z=(k:Int):=by simp[ints,h]
theorem cX {n:Nat} {x:Int}:x∈ints n↔0≤x∧x<(n:Int):=by
 simp only[ints,List.mem_map,List.mem_range]
 constructor
 ·rintro ⟨k,hk,rfl⟩;omega
 ·rintro ⟨h0,h1⟩;exact⟨x.toNat,by omega,by omega⟩
theorem zV (m:Im) (c:Int):(kU m c).length≤m.1.length:=by
 unfold kU
 exact Nat.le_trans (List.length_filter_le _ _) (by simp[ints])
theorem iM {n:Nat} (h:n<549755813888):decide (n<rowMax)=true:=decide_eq_true h
theorem aPd (m:Im) (c:Int) (r) (h:yS m c=some r):∃k,aLR k m c=some r:=by
 unfold yS at h
 cases hi:bC m <;> simp only[hi,cond_true,cond_false] at h
 ·cases h
 injection h with h
 subst h
 have h8:=(bE hi).classes
 refine⟨m.1.length+1,?_⟩
 unfold aLR
 have:=mI (L:=aAu m c) (n:=m.1.length) (B:=1) (st:=fun k out=>(out,(k:Int),())) (f:=fun k=>bif bZ m.1 (k:Int) c then[(k:Int)] else[]) (fin:=fun out=>some (idL out,())) (fun k _=>by cases bZ m.1 (k:Int) c <;> simp)
  (fun k out rec hk ho=>by
   rw[aAu]
   simp only[dlt hk,cond_true,List.length_cons,List.length_nil,iM (show out.length+(0+1)<549755813888 by omega),aN hk (by simp only[lenMax];omega)]
   cases bZ m.1 (k:Int) c <;> simp)
  (fun out rec _=>by rw[aAu];simp only[bB,cond_false]) (m.1.length+1) (by omega)
 rw[rG (fun n=>bZ m.1 n c)] at this
 exact this
theorem aSb (m:Im) (n c:Int) (_:0≤n):(aY m.1 n).contains c=bZ m.1 n c:=by
 unfold bZ aY
 by_cases hn:n<(m.1.length:Int)
 ·simp only[hn,decide_true,cond_true,Bool.true_and]
  cases hc:(bQ m.1 n).contains c
  ·simp
  ·have hm:c∈bQ m.1 n:=by simpa using hc
   have:=iB (n.toNat+1) n (by omega) hm
   simp[this.1,show c<(m.1.length:Int) by omega]
 ·simp[hn]
theorem aPy {m:Im} (hi:bC m=true) (n:Int):jC m.1 n=some (aY m.1 n,()):=by
 have h8:=(bE hi).classes
 have hok:okL m.1=true:=by unfold okL;simp;omega
 unfold jC;rw[hok];rfl
theorem aJF {l:List Int} {x:Int} (h:l.length<1000000000):rin l x=some (l.contains x,()):=by
 unfold rin;rw[decide_eq_true (show l.length<9223372036854775807 by omega)];rfl
theorem aNR (m:Im) (c:Int) (r) (h:tU m c=some r):∃k,aJ3 k m c=some r:=by
 unfold tU at h
 cases hi:bC m <;> simp only[hi,cond_true,cond_false] at h
 ·cases h
 injection h with h
 subst h
 have h8:=(bE hi).classes
 refine⟨m.1.length+1,?_⟩
 unfold aJ3
 have:=mI (L:=wF m c) (n:=m.1.length) (B:=1) (st:=fun k out=>(out,(k:Int),())) (f:=fun k=>bif bZ m.1 (k:Int) c then[(k:Int)] else[]) (fin:=fun out=>some (out,())) (fun k _=>by cases bZ m.1 (k:Int) c <;> simp)
  (fun k out rec hk ho=>by
   have hl:=aDr (l:=m.1) (c:=(k:Int))
   rw[wF]
   simp only[dlt hk,cond_true,aPy hi,Option.bind_some,aJF (show (aY m.1 (k:Int)).length<1000000000 by omega),aSb m (k:Int) c (by omega),List.length_cons,List.length_nil,iM (show out.length+(0+1)<549755813888 by omega),aN hk (by simp only[lenMax];omega)]
   cases bZ m.1 (k:Int) c <;> simp)
  (fun out rec _=>by rw[wF];simp only[bB,cond_false]) (m.1.length+1) (by omega)
 rw[rG (fun n=>bZ m.1 n c)] at this
 exact this
theorem aJN (m:Im) (c n:Int):aOt m c n=some (dK m c n):=by
 unfold aOt dK eZ bH
 by_cases h1:c<0
 ·have:¬0≤c:=by omega
  simp[h1,this]
 ·have h1':0≤c:=by omega
  by_cases h2:c≥(m.1.length:Int)
  ·have:¬c<(m.1.length:Int):=by omega
   simp[h1,h2,this]
  ·have h2':c<(m.1.length:Int):=by omega
   by_cases h3:n<0
   ·have:¬0≤n:=by omega
    simp[h1,h2,h3,this]
   ·have h3':0≤n:=by omega
    by_cases h4:n≥((m.1.getD c.toNat zCl).2.2.1.length:Int)
    ·have:¬n<((m.1.getD c.toNat zCl).2.2.1.length:Int):=by omega
     simp only[h1,h2,h3,h4,h1',h2',h3',this,decide_true,decide_false,cond_true,cond_false,Bool.and_self,Bool.and_false]
    ·have h4':n<((m.1.getD c.toNat zCl).2.2.1.length:Int):=by omega
     simp only[h1,h2,h3,h4,h1',h2',h3',h4',decide_true,decide_false,cond_true,cond_false,Bool.and_self]
theorem aPJ (m:Im) (c n:Int):aTv m c n=some (aB9 m c n):=aJN m c n
theorem aM0 (m:Im) (l:List Int) (n:Int):((List.range l.length).map fun k=>bif (dK m (l.getD k 0) n).2.1 then[(dK m (l.getD k 0) n).1] else[]).flatten=oR m l n:=by
 rw[aEY (fun c=>bif (dK m c n).2.1 then[(dK m c n).1] else[]) 0 l]
 unfold oR
 induction l with
 | nil=>rfl
 | cons c l ih=>
  rw[List.map_cons,List.flatten_cons,ih,List.filter_cons]
  cases h:(dK m c n).2.1 <;> simp
theorem aKS (m:Im) (l:List Int) (n:Int):(oR m l n).length≤l.length:=by
 unfold oR
 rw[List.length_map]
 exact List.length_filter_le _ _
theorem aBS {m:Im} {i:Ins} {L:List Int×Int×Unit→(List Int×Int×Unit→Option (List Int×Unit))→Option (List Int×Unit)} (l:List Int) (hl:l.length<1000)
  (hL:∀s rec,L s rec=(bif decide (s.2.1<(l.length:Int)) then
  bif decide (0≤s.2.1)&&decide (s.2.1<l.length) then
   let r4:=dK m (l.getD s.2.1.toNat 0) i.2.2.1
   bif r4.2.1 then
    bif decide (s.1.length+[r4.1].length<rowMax) then
     rec (s.1++[r4.1],IntKind.i64.wrap (s.2.1+1),())
    else none
   else rec (s.1,IntKind.i64.wrap (s.2.1+1),())
  else none
 else some (s.1,()))):aA L (l.length+1) ([],0,())=some (oR m l i.2.2.1,()):=by
 have:=mI (L:=L) (n:=l.length) (B:=1) (st:=fun k out=>(out,(k:Int),())) (f:=fun k=>bif (dK m (l.getD k 0) i.2.2.1).2.1 then[(dK m (l.getD k 0) i.2.2.1).1] else[]) (fin:=fun out=>some (out,())) (fun k _=>by cases (dK m (l.getD k 0) i.2.2.1).2.1 <;> simp)
  (fun k out rec hk ho=>by
   rw[hL]
   simp only[dlt hk,dge,Bool.and_self,cond_true,Int.toNat_natCast,List.length_cons,List.length_nil,iM (show out.length+(0+1)<549755813888 by omega),aN hk (by simp only[lenMax];omega)]
   cases (dK m (l.getD k 0) i.2.2.1).2.1 <;> simp)
  (fun out rec _=>by rw[hL];simp only[bB,cond_false]) (l.length+1) (by omega)
 rw[aM0] at this
 exact this
theorem aLn (m:Im) (i:Ins) (r) (h:kK m i=some r):∃k,aHn k m i=some r:=by
 unfold kK at h
 cases hi:bC m <;> simp only[hi,cond_true,cond_false] at h
 ·cases h
 injection h with h
 subst h
 have h8:=(bE hi).classes
 have hl:=zV m i.2.1
 refine⟨(kU m i.2.1).length+1,?_⟩
 unfold aHn aT
 have hb:yS m i.2.1=some (kU m i.2.1,()):=by unfold yS;rw[hi];rfl
 cases h1:i.1==31 <;> simp only[cond_true,cond_false]
 ·cases h2:i.1==32 <;> simp only[cond_true,cond_false]
  rw[hb]
  simp only[Option.bind_some]
  exact aBS (kU m i.2.1) (by omega) (fun s rec=>rfl)
 ·rfl
theorem aIV (m:Im) (i:Ins) (r) (h:jE m i=some r):∃k,aEy k m i=some r:=by
 unfold jE at h
 cases hi:bC m <;> simp only[hi,cond_true,cond_false] at h
 ·cases h
 injection h with h
 subst h
 have h8:=(bE hi).classes
 have hl:=zV m i.2.1
 refine⟨(kU m i.2.1).length+1,?_⟩
 unfold aEy aT
 have hb:tU m i.2.1=some (kU m i.2.1,()):=by unfold tU;rw[hi];rfl
 cases h1:i.1==31 <;> simp only[cond_true,cond_false,Option.bind_some]
 ·cases h2:i.1==32 <;> simp only[cond_true,cond_false]
  rw[hb]
  simp only[Option.bind_some]
  exact aBS (kU m i.2.1) (by omega) (fun s rec=>rfl)
 ·have h2:(i.1==32)=false:=by
   have:i.1=31:=by simpa using h1
   rw[this];rfl
  have hroom:decide (([]:List Int).length+[i.2.1].length<rowMax)=true:=iM (by simp)
  rw[h2,hroom]
  rfl
theorem jT {m:Im} (hi:bC m=true) (i:Ins):(aT m i).length≤8:=by
 have h8:=(bE hi).classes
 have hl:=zV m i.2.1
 have hs:=aKS m (kU m i.2.1) i.2.2.1
 unfold aT
 cases i.1==31 <;> simp only[cond_true,cond_false]
 ·cases i.1==32 <;> simp only[cond_true,cond_false]
  ·simp
  ·omega
 ·simp
theorem aP {m:Im} {f:Int}:inM m f=true↔0≤f∧f<(m.2.2.2.1.length:Int):=by
 unfold inM sin nM;simp
theorem aNY (m:Im) (f g:Int) (r) (h:tX m f g=some r):∃k,aJ8 k m f g=some r:=by
 unfold tX at h
 cases hi:bC m&&inM m f <;> simp only[hi,cond_true,cond_false] at h
 ·cases h
 injection h with h
 subst h
 simp only[Bool.and_eq_true] at hi
 obtain⟨hi,hf⟩:=hi
 obtain⟨h0,h1⟩:=aP.1 hf
 have hx:=(jY ((bE hi).mts _ (jP h0 h1))).2.2.2.1.1
 have hd:m.2.2.2.1.getD f.toNat zMt=aC m f:=rfl
 have hr:(decide (0≤f)&&decide (f<(m.2.2.2.1.length:Int)))=true:=by simp[h0,h1]
 refine⟨(aC m f).2.2.2.1.length+1,?_⟩
 unfold aJ8 gX
 have:=dD (L:=vO m f g) (xs:=(aC m f).2.2.2.1) (st:=fun k=>((k:Int),())) (p:=fun i=> !(aT m i).contains g) (ex:=some (true,())) (fin:=some (false,()))
  (fun k x rec hk hlt=>by
   have ht:jE m x=some (aT m x,()):=by unfold jE;rw[hi];rfl
   have htl:=jT hi x
   rw[vO]
   simp only[hd,hr,dlt hlt,dge,Bool.and_self,cond_true,Int.toNat_natCast,getD_some hk,ht,Option.bind_some,aJF (show (aT m x).length<1000000000 by omega),aN hlt (by simp only[lenMax];omega)]
   cases (aT m x).contains g <;> rfl)
  (fun rec=>by rw[vO];simp only[hd,hr,bB,cond_true,cond_false]) ((aC m f).2.2.2.1.length+1) (by omega)
 refine this.trans ?_
 rw[←List.not_any_eq_all_not]
 cases (aC m f).2.2.2.1.any fun i=>(aT m i).contains g <;> rfl
theorem aN8 (m:Im) (r) (h:qT m=some r):∃k,aJy k m=some r:=by
 unfold qT at h
 cases hi:bC m <;> simp only[hi,cond_true,cond_false] at h
 ·cases h
 injection h with h
 subst h
 have h12:=(bE hi).methods
 refine⟨m.2.2.2.1.length+1,?_⟩
 unfold aJy
 have:=mI (L:=wU m (m.2.2.2.1.length+1)) (n:=m.2.2.2.1.length) (B:=1) (st:=fun k out=>(out,(k:Int),())) (f:=fun k=>[(ints m.2.2.2.1.length).filter fun g=>gX m (k:Int) g]) (fin:=fun out=>some (out,())) (fun k _=>by simp)
  (fun k out rec hk ho=>by
   rw[wU]
   simp only[dlt hk,cond_true]
   have hin:inM m (k:Int)=true:=aP.2 ⟨by omega,by omega⟩
   have:=mI (L:=xA m (out,(k:Int),()) rec) (n:=m.2.2.2.1.length) (B:=1) (st:=fun j l=>(l,(j:Int),())) (f:=fun j=>bif gX m (k:Int) (j:Int) then[(j:Int)] else[]) (fin:=fun l=>rec (out++[l],((k+1:Nat):Int),())) (fun j _=>by cases gX m (k:Int) (j:Int) <;> simp)
    (fun j l rec2 hj hl=>by
     have hc:tX m (k:Int) (j:Int)=some (gX m (k:Int) (j:Int),()):=by unfold tX;rw[hi,hin];rfl
     rw[xA]
     simp only[dlt hj,cond_true,hc,Option.bind_some,List.length_cons,List.length_nil,iM (show l.length+(0+1)<549755813888 by omega),aN hj (by simp only[lenMax];omega)]
     cases gX m (k:Int) (j:Int) <;> simp)
    (fun l rec2 _=>by
     rw[xA]
     simp only[bB,cond_false,List.length_cons,List.length_nil,iM (show out.length+(0+1)<549755813888 by omega),Bool.and_self,cond_true,aN hk (show _≤lenMax by simp only[lenMax];omega)]) (m.2.2.2.1.length+1) (by omega)
   rw[rG (fun g=>gX m (k:Int) g)] at this
   exact this)
  (fun out rec _=>by rw[wU];simp only[bB,cond_false]) (m.2.2.2.1.length+1) (by omega)
 rw[aRb] at this
 refine this.trans ?_
 unfold aG
 rw[show ints m.2.2.2.1.length=(List.range m.2.2.2.1.length).map fun k:Nat=>(k:Int) from rfl,List.map_map]
 rfl
end Go.Pli

namespace Go.Pli
open Go Go.PM
theorem fJ {σ R:Type} {L:σ→(σ→Option R)→Option R} {n:Nat} {st:Nat→σ} {fin:Option R}
  (h1:∀(k:Nat) (rec),k<n→L (st k) rec=rec (st (k+1))) (h2:∀rec,L (st n) rec=fin):∀F:Nat,n<F→aA L F (st 0)=fin:=by
 have key:∀(j k F:Nat),k+j=n→j<F→aA L F (st k)=fin:=by
  intro j
  induction j with
  | zero=>
   intro k F hk hF
   obtain⟨F,rfl⟩:∃m,F=m+1:=⟨F - 1,by omega⟩
   have:k=n:=by omega
   subst this
   rw[aD,h2]
  | succ j ih=>
   intro k F hk hF
   obtain⟨F,rfl⟩:∃m,F=m+1:=⟨F - 1,by omega⟩
   rw[aD,h1 k _ (by omega)]
   exact ih (k+1) F (by omega) (by omega)
 intro F hF
 exact key n 0 F (by omega) hF
theorem dJ {α:Type} {l:List α} {n:Nat} {z:α} (h:l.length≤n):l.getD n z=z:=by simp[List.getD_eq_getElem?_getD,h]
theorem dZ {α:Type} {l:List α} (h:l.length<1000000):okL l=true:=by simpa[okL] using h
theorem aP8 {a b:Nat} (h:a<b):Nat.blt a b=true:=by rw[Nat.blt_eq];exact h
theorem aHk {α:Type} (b:Bool) (x y:α):(bif b then some x else some y)=some (bif b then x else y):=by cases b <;> rfl
theorem aCn {α:Type} (l:List (List α)) {k:Nat} (hk:k<l.length):(l.take (k+1)).flatten=(l.take k).flatten++l.getD k []:=by
 rw[List.take_add_one,List.flatten_append]
 congr 1
 simp[hk]
theorem aBz {α:Type} (l:List (List α)) (k:Nat):(l.take k).flatten.length≤l.flatten.length:=by
 have:l.flatten=(l.take k).flatten++(l.drop k).flatten:=by rw[←List.flatten_append,List.take_append_drop]
 rw[this,List.length_append]
 exact Nat.le_add_right _ _
theorem aRP (s:Unit) (n:Int) (r) (h:aCy s n=some r):aOP s n=some r:=by
 unfold aCy at h
 cases hb:decide (0≤n)&&Nat.blt n.toNat 1000000000 <;> simp only[hb,cond_true,cond_false] at h
 ·cases h
 injection h with h
 subst h
 simp only[Bool.and_eq_true,decide_eq_true_eq,Nat.blt_eq] at hb
 obtain⟨h0,h1⟩:=hb
 have h0':¬n<0:=by omega
 have e1:IntKind.i64.wrap ((0:Int) - (([]:List Tp).length:Int))=0:=by simp;rfl
 have e2:IntKind.i64.wrap (n - 0)=n:=by rw[cD] <;> omega
 unfold aOP
 rw[e1,e2]
 by_cases hp:n>0
 ·have hp':0<n:=hp
  have hm:n<(rowMax:Int):=by simp only[rowMax];omega
  have:0≤max n 0:=by omega
  simp[h0',hp',hm,this]
 ·simp[h0',hp]
theorem aNL (l:List (List Tp)) (r) (h:lM l=some r):∃k,aJR k l=some r:=by
 unfold lM at h
 cases hb:Nat.blt l.flatten.length 1000000000&&okL l <;> simp only[hb,cond_true,cond_false] at h
 ·cases h
 injection h with h
 subst h
 simp only[Bool.and_eq_true,Nat.blt_eq] at hb
 obtain⟨hf,hl⟩:=hb
 have hl:=fR hl
 refine⟨l.length+1,?_⟩
 unfold aJR
 refine fJ (n:=l.length) (st:=fun k=>(((l.take k).flatten.length:Int),(k:Int),())) (fin:=some (l.flatten,())) (fun k rec hk=>?_) (fun rec=>?_) (l.length+1) (by omega)
 ·unfold aBI
  have hw:IntKind.i64.wrap (((l.take k).flatten.length:Int)+((l.getD k ([]:List Tp)).length:Int))=((l.take (k+1)).flatten.length:Int):=by
   have e:=aCn l hk
   have:=aBz l (k+1)
   rw[e,List.length_append] at this⊢
   rw[cD] <;> omega
  have hn:¬((l.take (k+1)).flatten.length:Int)<0:=by omega
  simp only[dlt hk,dge,Bool.and_self,cond_true,Int.toNat_natCast,hw,hn,decide_false,cond_false,aN hk (show l.length≤lenMax by simp only[lenMax];omega)]
 ·unfold aBI
  have hg:aCy () ((l.take l.length).flatten.length:Int)=some ([],()):=by
   unfold aCy
   rw[List.take_length]
   have h1:(0:Int)≤(l.flatten.length:Int):=by omega
   have h2:Nat.blt (l.flatten.length:Int).toNat 1000000000=true:=by rw[Nat.blt_eq];omega
   simp only[h1,h2,decide_true,Bool.and_self,cond_true]
  simp only[bB,cond_false,hg,Option.bind_some]
  have:=fJ (L:=vT l) (n:=l.length) (st:=fun k=>((l.take k).flatten,(k:Int),())) (fin:=some (l.flatten,())) (fun k rec hk=>by
   unfold vT
   have hm:decide ((l.take k).flatten.length+(l.getD k ([]:List Tp)).length<rowMax)=true:=by
    have e:=aCn l hk
    have:=aBz l (k+1)
    rw[e,List.length_append] at this
    exact decide_eq_true (by simp only[rowMax];omega)
   simp only[dlt hk,dge,Bool.and_self,cond_true,Int.toNat_natCast,hm,aCn l hk,aN hk (show l.length≤lenMax by simp only[lenMax];omega)])
   (fun rec=>by
    unfold vT
    simp only[bB,cond_false,List.take_length]) (l.length+1) (by omega)
  simpa using this
theorem tG {l:List (List Tp)} (h1:l.flatten.length<1000000000) (h2:l.length<1000000):lM l=some (l.flatten,()):=by
 unfold lM
 rw[aP8 h1,dZ h2]
 rfl
theorem aO7 (s:List Int) (v:Int) (h:aPe s v):∃k,aT1 k s v=some (aEQ s v,()):=by
 refine⟨s.length+1,jG (st:=fun k=>((k:Int),())) (p:=fun n=>v==n) (fun k x rec hk hlt=>?_) (fun rec=>?_) _ (Nat.lt_succ_self _)⟩
 ·unfold aEg
  simp only[dlt hlt,dge,Bool.and_self,cond_true,Int.toNat_natCast,getD_some hk,aN hlt h.1.1]
 ·unfold aEg
  simp only[bB,cond_false]
theorem aIW (s:List Int) (v:Int) (_:aKv s v):aEX s v=some (kF s v,()):=by
 unfold aEX aEQ kF
 rw[iA,List.contains_eq_any_beq]
theorem aSd (s:List Iq):aPP s=some (idL s,()):=by simp[aPP,idL]
theorem aPv (s:List (List Sh)):aMD s=some (idL s,()):=by simp[aMD,idL]
theorem aVl (m:Im) (c:Int) (r) (h:cup m c=some r):aVd m c=some r:=by
 unfold cup at h
 cases hb:sin c (m.1.length:Int) <;> simp only[hb,cond_true,cond_false] at h
 ·cases h
 injection h with h
 subst h
 simp only[sin,Bool.and_eq_true,decide_eq_true_eq] at hb
 have h1:¬c<0:=by omega
 have h2:¬c≥(m.1.length:Int):=by omega
 unfold aVd kup bX
 simp only[hb.1,hb.2,h1,h2,decide_true,decide_false,Bool.and_self,Bool.false_or,cond_true]
 cases decide ((m.1.getD c.toNat zCl).1≥c) <;> rfl
theorem aI1 {m:Im} {c:Int} (h0:0≤c) (h1:c<(m.1.length:Int)):cE m c=cE m (kup m.1 c)++(bH m c).2.1:=by
 have hk:=kC (l:=m.1) h0
 have h2:kup m.1 c<(m.1.length:Int):=by omega
 unfold cE aY
 simp only[h1,h2,decide_true,cond_true]
 rw[cF h0]
 simp
theorem aDk {m:Im} {c:Int} (h:c<0):cE m c=[]:=by
 unfold cE aY
 rw[bO h]
 cases decide (c<(m.1.length:Int)) <;> rfl
theorem aB8 {m:Im} (hi:bC m=true) {c:Int}:(bH m c).2.1.length≤8:=by
 have hf:=bE hi
 unfold bH
 by_cases hc:c.toNat<m.1.length
 ·have:=hf.cls (m.1.getD c.toNat zCl) (by simp[hc])
  simp only[iclass,cQ,Bool.and_eq_true,decide_eq_true_eq] at this
  have:=this.2.2.1.1
  omega
 ·have:m.1.getD c.toNat zCl=zCl:=dJ (by omega)
  rw[this];decide
theorem aB4 {m:Im} (hi:bC m=true):∀(n:Nat) (c:Int) (out:List Tp),c.toNat<n→c<(m.1.length:Int)→out.length+8*(c.toNat+1)≤1000→
  aA (wR m) (n+1) (c,out,())=some (cE m c++out,())
 | 0,_,_,h,_,_=>by omega
 | n+1,c,out,h,hc,ho=>by
  rw[aD,wR]
  by_cases h0:c<0
  ·have:¬c≥0:=by omega
   simp only[this,decide_false,cond_false,aDk h0,List.nil_append]
  ·have h0':c≥0:=by omega
   have h0'':0≤c:=by omega
   have hk:=kC (l:=m.1) h0''
   have h8:=aB8 hi (c:=c)
   have hcat:lM [(m.1.getD c.toNat zCl).2.1,out]=some ((bH m c).2.1++out,()):=by
    rw[tG]
    ·simp[bH]
    ·simp only[List.flatten_cons,List.flatten_nil,List.append_nil,List.length_append]
     unfold bH at h8
     omega
    ·simp
   have hup:cup m c=some (kup m.1 c,()):=by simp[cup,sin,h0'',hc]
   simp only[h0',hc,decide_true,Bool.and_self,cond_true,hcat,hup,Option.bind_some]
   rw[aI1 h0'' hc,List.append_assoc]
   by_cases hn:kup m.1 c<0
   ·rw[aD,wR]
    have:¬kup m.1 c≥0:=by omega
    simp only[this,decide_false,cond_false,aDk hn,List.nil_append]
   ·exact aB4 hi n (kup m.1 c) _ (by omega) (by omega) (by rw[List.length_append];omega)
theorem aNo (m:Im) (c:Int) (r) (h:mM m c=some r):∃k,aI5 k m c=some r:=by
 unfold mM at h
 cases hi:bC m <;> simp only[hi,cond_true,cond_false] at h
 ·cases h
 injection h with h
 subst h
 have h8:=(bE hi).classes
 refine⟨c.toNat+1+1,?_⟩
 unfold aI5
 by_cases hc:c≥(m.1.length:Int)
 ·have:¬c<(m.1.length:Int):=by omega
  simp[hc,cE,aY,this]
 ·have hc':c<(m.1.length:Int):=by omega
  simp only[hc,decide_false,cond_false]
  rw[aB4 hi (c.toNat+1) c [] (by omega) hc' (by simp only[List.length_nil];omega),List.append_nil]
theorem rE {m:Im} (hi:bC m=true) (c:Int):(cE m c).length≤8*8:=by
 have h8:=(bE hi).classes
 have hl:(aY m.1 c).length≤8:=by
  unfold aY
  by_cases hc:c<(m.1.length:Int)
  ·have:=mF m.1 (c.toNat+1) c (by omega)
   by_cases h0:0≤c
   ·simp[hc];omega
   ·simp[hc,bO (show c<0 by omega)]
  ·simp[hc]
 unfold cE
 have key:∀l:List Int,((l.map fun s=>(bH m s).2.1).flatten).length≤8*l.length:=by
  intro l
  induction l with
  | nil=>simp
  | cons x l ih=>
   have:=aB8 hi (c:=x)
   simp only[List.map_cons,List.flatten_cons,List.length_append,List.length_cons]
   omega
 have:=key (aY m.1 c).reverse
 rw[List.length_reverse] at this
 omega
theorem aSc (m:Im) (c:Int) (r) (h:aCI m c=some r):aPO m c=some r:=by
 unfold aCI at h
 cases hi:bC m <;> simp only[hi,cond_true,cond_false] at h
 ·cases h
 injection h with h
 subst h
 have hl:=rE hi c
 unfold aPO mM vR
 rw[hi]
 simp only[cond_true,Option.bind_some]
 rw[cD (by omega) (by omega)]
 simp
theorem zR {α:Type} (a b:List α) (n:Nat) (z:α):(a++b).getD n z=if n<a.length then a.getD n z else b.getD (n - a.length) z:=by
 by_cases h:n<a.length <;> simp[List.getD_eq_getElem?_getD,List.getElem?_append,h]
theorem aPt (x:Mt) (n:Int) (r) (h:uD x n=some r):aMI x n=some r:=by
 unfold uD at h
 cases hb:okL x.1&&okL x.2.1 <;> simp only[hb,cond_true,cond_false] at h
 ·cases h
 injection h with h
 subst h
 simp only[Bool.and_eq_true] at hb
 have h1:=fR hb.1
 have h2:=fR hb.2
 unfold aMI lX
 by_cases h0:n<0
 ·simp[h0]
 ·rw[cD (by omega) (by omega)]
  by_cases h3:n≥(x.1.length:Int)+(x.2.1.length:Int)
  ·have:(x.1++x.2.1).length≤n.toNat:=by rw[List.length_append];omega
   rw[dJ this]
   simp only[h0,h3,decide_true,decide_false,cond_true,cond_false]
  ·simp only[h0,h3,decide_false,cond_false]
   rw[zR]
   by_cases h4:n<(x.1.length:Int)
   ·have h5:n.toNat<x.1.length:=by omega
    have h6:0≤n:=by omega
    simp[h4,h5,h6]
   ·have h5:¬n.toNat<x.1.length:=by omega
    have h6:0≤n - (x.1.length:Int):=by omega
    have h7:n - (x.1.length:Int)<(x.2.1.length:Int):=by omega
    rw[cD (by omega) (by omega)]
    have h8:(n - (x.1.length:Int)).toNat=n.toNat - x.1.length:=by omega
    simp only[h4,h5,h6,h7,decide_true,decide_false,Bool.and_self,cond_true,cond_false,if_false,h8]
theorem aHj (l:List Cl) (b:Tp):∀(n:Nat) (c:Int),c.toNat<n→aA (aC3 l b) (n+1) (c,())=
  some (match (bQ l c).find? fun c=>bZ l b.2.1 c with | some c=>(3,c,()) | none=>zTp,())
 | 0,_,h=>by omega
 | n+1,c,h=>by
  rw[aD,aC3]
  by_cases hc:c<0
  ·have h0:¬c≥0:=by omega
   rw[bO hc]
   simp only[h0,decide_false,cond_false,List.find?_nil]
  ·have h0:c≥0:=by omega
   have hlt:=kC (l:=l) (c:=c) (by omega)
   rw[cF (by omega)]
   simp only[h0,decide_true,cond_true,List.find?_cons]
   cases hb:bZ l b.2.1 c
   ·simp only[cond_false]
    by_cases hk:kup l c<0
    ·rw[bO hk,aD,aC3]
     have:¬kup l c≥0:=by omega
     simp only[this,decide_false,cond_false,List.find?_nil]
    ·exact aHj l b n (kup l c) (by omega)
   ·simp only[cond_true]
theorem aSo (l:List Cl) (a b:Tp) (r) (h:aAw l a b=some r):∃k,aOq k l a b=some r:=by
 unfold aAw at h
 injection h with h
 subst h
 refine⟨(kup l a.2.1).toNat+1+1,?_⟩
 unfold aOq fG
 rw[aHj l b ((kup l a.2.1).toNat+1) _ (by omega)]
 cases cP l a b <;> cases cP l b a <;> cases a.1 !=3 <;> cases b.1 !=3 <;> rfl
theorem aQY (o:Int):aQr o=some (oX o,()):=by
 unfold aQr oX
 cases decide (o≥7) <;> rfl
theorem aPc (o:Int):aMj o=some (dP o):=by
 unfold aMj dP dL eQ tS
 simp only[aHk]
theorem aSw (m:Im) (o:Int) (t w:Tp):aQy m o t w=some (dT m o t w,()):=by
 unfold aQy dT
 cases w.1==0 <;> cases w.1==4 <;> cases gW t <;> cases o !=34 <;> rfl
theorem aP4 (i:Ins) (pc:Int):aMA i pc=some (cV i pc,()):=by
 unfold aMA cV
 cases i.1==18 <;> cases i.1==19 <;> cases i.1==33 <;> rfl
theorem aFH {x:Mt} {t:List Tp} (h1:x.1.length<1000000) (h2:t.length≤x.1.length):pV x t=some (iN x t,()):=by
 unfold pV
 rw[dZ h1,dZ (show t.length<1000000 by omega),decide_eq_true h2]
 rfl
theorem aNG (x:Mt) (t:List Tp) (r) (h:pV x t=some r):aKc x t=some r:=by
 unfold pV at h
 cases hb:okL x.1&&(okL t&&decide (t.length≤x.1.length)) <;> simp only[hb,cond_true,cond_false] at h
 ·cases h
 injection h with h
 subst h
 simp only[Bool.and_eq_true,decide_eq_true_eq] at hb
 have h1:=fR hb.1
 have h3:=hb.2.2
 have h4:(t.length:Int)≤(x.1.length:Int):=by omega
 have h5:(0:Int)≤(t.length:Int):=by omega
 unfold aKc iN
 rw[List.take_length,tG (by simp only[List.flatten_cons,List.flatten_nil,List.append_nil,List.length_append,List.length_drop];omega) (by simp)]
 simp only[h4,h5,decide_true,Bool.and_self,cond_true,Option.bind_some,Int.le_refl,List.flatten_cons,List.flatten_nil,List.append_nil]
 cases x.2.2.1.1 !=5 <;> rfl
end Go.Pli

namespace Go.Pli
open Go Go.PM
theorem aV {m:Im} (h:aF m=true):bC m=true∧jQ m=true:=by simpa[aF] using h
theorem aEt {m:Im} (h:aF m=true):cZ m m.2.1=true:=by
 have:=(aV h).2
 simp only[jQ,Bool.and_eq_true] at this
 exact this.1
theorem oM {m:Im} (h:aF m=true):mY m=true:=by
 have:=(aV h).2
 simp only[jQ,Bool.and_eq_true] at this
 exact this.2.1
theorem iD {m:Im} (h:aF m=true) {f:Int} (hf:inM m f=true):cJ m (aC m f)=true:=by
 have:=(aV h).2
 simp only[jQ,Bool.and_eq_true] at this
 obtain⟨h0,h1⟩:=aP.1 hf
 exact List.all_eq_true.1 this.2.2.1 _ (jP h0 h1)
theorem aJJ {m:Im} (h:aF m=true):∀f∈m.2.2.2.2.1,inM m f=true:=by
 have:=(aV h).2
 simp only[jQ,Bool.and_eq_true] at this
 intro f hf
 have he:=List.all_eq_true.1 this.2.2.2 f hf
 simp only[gV,Bool.and_eq_true] at he
 exact he.1
theorem cN {m:Im} (h:aF m=true) {f:Int} (hf:inM m f=true):0<aB m f∧aB m f≤64:=by
 have h1:=iD h hf
 simp only[cJ,Bool.and_eq_true,decide_eq_true_eq] at h1
 obtain⟨a,b⟩:=aP.1 hf
 have h2:=(jY ((bE (aV h).1).mts _ (jP a b))).2.2.2.1.1
 unfold aB
 have:=h1.2.2.2.1
 omega
theorem iE {m:Im} (h:aF m=true) {f:Int} (hf:inM m f=true):(aC m f).1.length+(aC m f).2.1.length≤8:=by
 have h1:=iD h hf
 simp only[cJ,Bool.and_eq_true,decide_eq_true_eq] at h1
 exact h1.2.2.2.2.2.1
theorem aBj {m:Im} {f pc:Int} (hp:sin pc (aB m f:Int)=true):aH m f pc∈(aC m f).2.2.2.1:=by
 simp only[sin,Bool.and_eq_true,decide_eq_true_eq] at hp
 unfold aB at hp
 have:pc.toNat<(aC m f).2.2.2.1.length:=by omega
 unfold aH
 rw[getD_some (List.getElem?_eq_getElem this)]
 exact List.getElem_mem this
theorem kQ {m:Im} (h:aF m=true) {f pc:Int} (hf:inM m f=true) (hp:sin pc (aB m f:Int)=true):bI m (aC m f) (aH m f pc)=true:=by
 have h1:=iD h hf
 simp only[cJ,Bool.and_eq_true] at h1
 exact List.all_eq_true.1 h1.2.2.2.2.2.2 _ (aBj hp)
theorem aBt {α β:Type} (g:α→List β):∀l:List α,((l.reverse.map g).flatten).length=bK (l.map fun x=>(g x).length)
 | []=>rfl
 | x::l=>by
  have:=aBt g l
  simp only[List.reverse_cons,List.map_append,List.flatten_append,List.length_append,List.map_cons,List.map_nil,List.flatten_cons,List.flatten_nil,List.append_nil,bK]
  rw[this]
  omega
theorem lE {m:Im} {c:Int} (h:c<(m.1.length:Int)):(cE m c).length=dR m c:=by
 unfold cE dR aY
 simp only[h,decide_true,cond_true]
 exact aBt _ _
theorem yQ {m:Im} {c n:Int} (h:eZ m c n=true):(bH m c).2.2.1[n.toNat]? =some (dK m c n).1:=by
 unfold dK
 rw[h]
 simp only[eZ,Bool.and_eq_true,decide_eq_true_eq] at h
 have hk:n.toNat<(bH m c).2.2.1.length:=by omega
 simp[hk]
theorem aVo (m:Im) (i:Ins) (f:Int) (r) (h:fof m i f=some r):aU5 m i f=some r:=by
 unfold fof at h
 cases hb:aF m&&(inM m f&&bI m (aC m f) i) <;> simp only[hb,cond_true,cond_false] at h
 ·cases h
 injection h with h
 subst h
 simp only[Bool.and_eq_true] at hb
 obtain⟨hs,hf,hi⟩:=hb
 have hfit:=(aV hs).1
 have hcl:=oM hs
 obtain⟨f0,f1⟩:=aP.1 hf
 have hloc:=iE hs hf
 have hL:uD (aC m f) i.2.1=some (lX (aC m f) i.2.1,()):=by
  unfold uD
  rw[dZ (by omega),dZ (by omega)]
  rfl
 have hF:mM m i.2.1=some (cE m i.2.1,()):=by unfold mM;rw[hfit];rfl
 unfold aU5 iX
 have hr:(decide (0≤f)&&decide (f<(m.2.2.2.1.length:Int)))=true:=by simp[f0,f1]
 simp only[hr,cond_true]
 have fold:∀g:Int,m.2.2.2.1.getD g.toNat zMt=aC m g:=fun _=>rfl
 simp only[fold]
 cases hp:(dP i.1).2.1 <;> simp only[cond_true,cond_false]
 rcases i with⟨o,a,b,⟨⟩⟩
 simp only at hL hF hp⊢
 cases e:o==3
 case true=>simp only[cond_true,hL,Option.bind_some,gD]
 simp only[cond_false]
 cases e:o==4
 case true=>simp only[cond_true,hL,Option.bind_some,gD]
 simp only[cond_false]
 cases e:o==22
 case true=>simp only[cond_true,gD,iQ]
 simp only[cond_false]
 cases e:o==27
 case true=>
  obtain rfl:o=27:=by simpa using e
  have:sin a (m.1.length:Int)=true∧sin b (dR m a:Int)=true:=by simpa[bI] using hi
  obtain⟨h1,h2⟩:=this
  simp only[sin,Bool.and_eq_true,decide_eq_true_eq] at h1 h2
  rw[←lE h1.2] at h2
  simp only[cond_true,hF,Option.bind_some,h2.1,h2.2,decide_true,Bool.and_self,gD,iQ]
 simp only[cond_false]
 cases e:o==28
 case true=>
  obtain rfl:o=28:=by simpa using e
  have:sin a (m.1.length:Int)=true∧sin b (dR m a:Int)=true:=by simpa[bI] using hi
  obtain⟨h1,h2⟩:=this
  simp only[sin,Bool.and_eq_true,decide_eq_true_eq] at h1 h2
  rw[←lE h1.2] at h2
  simp only[cond_true,hF,Option.bind_some,h2.1,h2.2,decide_true,Bool.and_self,iQ]
 simp only[cond_false]
 cases e:o==29
 case true=>
  obtain rfl:o=29:=by simpa using e
  have:sin a (m.2.1.length:Int)=true:=by simpa[bI] using hi
  simp only[sin,Bool.and_eq_true,decide_eq_true_eq] at this
  simp only[cond_true,this.1,this.2,decide_true,Bool.and_self,gD]
 simp only[cond_false]
 cases e:o==30
 case true=>
  obtain rfl:o=30:=by simpa using e
  have:sin a (m.2.1.length:Int)=true:=by simpa[bI] using hi
  simp only[sin,Bool.and_eq_true,decide_eq_true_eq] at this
  simp only[cond_true,this.1,this.2,decide_true,Bool.and_self,gD]
 simp only[cond_false]
 cases e:o==31
 case true=>
  obtain rfl:o=31:=by simpa using e
  have:sin a (m.2.2.2.1.length:Int)=true:=by simpa[bI] using hi
  have hg:=iE hs (f:=a) this
  simp only[sin,Bool.and_eq_true,decide_eq_true_eq] at this
  simp only[cond_true,this.1,this.2,decide_true,Bool.and_self,aFH (x:=aC m a) (t:=[]) (by omega) (by simp),Option.bind_some]
 simp only[cond_false]
 cases e:o==32
 case true=>
  obtain rfl:o=32:=by simpa using e
  have:sin a (m.1.length:Int)=true∧sin b ((bH m a).2.2.1.length:Int)=true:=by simpa[bI] using hi
  have hsl:eZ m a b=true:=by unfold eZ;unfold sin at this;rw[this.1,this.2];rfl
  have h1:=yQ hsl
  simp only[sin,Bool.and_eq_true,decide_eq_true_eq] at this
  obtain⟨h2,h3⟩:=nY (mU hcl this.1.1 this.1.2) h1
  have hg:=iE hs (f:=(dK m a b).1) (aP.2 h2)
  simp only[cond_true,h2.1,h2.2,decide_true,Bool.and_self,gD,iQ,aFH (x:=aC m (dK m a b).1) (t:=[tR a]) (by omega) (by simp only[List.length_cons,List.length_nil];omega),Option.bind_some]
 simp only[cond_false]
 cases e:o==34
 case true=>simp only[cond_true,gD,iQ]
 simp only[cond_false]
 cases e:o==33
 case true=>simp only[cond_true,gD,aHk];cases (aC m f).2.2.1.1 !=5 <;> rfl
 simp only[cond_false]
theorem aVr {m:Im} {i:Ins} {f:Int} (hs:aF m=true) (hf:inM m f=true) (hi:bI m (aC m f) i=true):fof m i f=some (iX m (aC m f) i,()):=by
 unfold fof
 rw[hs,hf,hi]
 rfl
theorem bT {α:Type} {P:α→Prop} {b:Bool} {x y:α} (h1:P x) (h2:P y):P (bif b then x else y):=by cases b <;> assumption
def Small (e:Eff):Prop:=e.1.length≤12∧e.2.1.length≤1
theorem aBT {m:Im} (hs:aF m=true) {g:Int} (hg:inM m g=true) {t:List Tp} (ht:t.length≤1):Small (iN (aC m g) t):=by
 have:=iE hs hg
 unfold Small iN
 constructor
 ·simp only[List.length_append,List.length_drop];omega
 ·cases (aC m g).2.2.1.1 !=5 <;> simp
theorem aKy (o:Int):Small (dP o).1:=by
 unfold dP
 repeat' refine bT (P:=fun z:Eff×Bool×Unit=>Small z.1) ⟨by decide,by decide⟩ ?_
 exact⟨by decide,by decide⟩
theorem aHF {m:Im} (hs:aF m=true) {i:Ins} {f:Int} (hi:bI m (aC m f) i=true):Small (iX m (aC m f) i):=by
 have hcl:=oM hs
 unfold iX
 rcases i with⟨o,a,b,⟨⟩⟩
 refine bT (aKy _) ?_
 refine bT ⟨by simp,by simp⟩ (bT ⟨by simp,by simp⟩ (bT ⟨by simp,by simp⟩ (bT ⟨by simp,by simp⟩ (bT ⟨by simp,by simp⟩ (bT ⟨by simp,by simp⟩ (bT ⟨by simp,by simp⟩ ?_))))))
 cases e:o==31
 case true=>
  obtain rfl:o=31:=by simpa using e
  have:sin a (m.2.2.2.1.length:Int)=true:=by simpa[bI] using hi
  exact aBT hs this (by simp)
 simp only[cond_false]
 cases e:o==32
 case true=>
  obtain rfl:o=32:=by simpa using e
  have:sin a (m.1.length:Int)=true∧sin b ((bH m a).2.2.1.length:Int)=true:=by simpa[bI] using hi
  have hsl:eZ m a b=true:=by unfold eZ;unfold sin at this;rw[this.1,this.2];rfl
  have h1:=yQ hsl
  simp only[sin,Bool.and_eq_true,decide_eq_true_eq] at this
  obtain⟨h2,h3⟩:=nY (mU hcl this.1.1 this.1.2) h1
  exact aBT hs (aP.2 h2) (by simp)
 simp only[cond_false]
 exact bT ⟨by simp,by simp⟩ (bT (bT ⟨by simp,by simp⟩ ⟨by simp,by simp⟩) ⟨by simp,by simp⟩)
theorem aP9 (i:Ins) (pc:Int):(cV i pc).length≤2:=by
 unfold cV
 cases i.1==18 <;> cases i.1==19 <;> cases i.1==33 <;> exact Nat.le_of_ble_eq_true rfl
theorem aBw {α β:Type} (p:α→β→Bool) (x:α) (_:β):∀(s:List α) (e:List β),e.length=s.length→((s.zip e).all fun q=>p q.1 q.2)=e.zipIdx.all fun q=>p (s.getD q.2 x) q.1:=by
 intro s e h
 rw[Bool.eq_iff_iff,List.all_eq_true,List.all_eq_true]
 constructor
 ·rintro h1 ⟨b,k⟩ hq
  obtain⟨hk,hb⟩:=List.mem_zipIdx' hq
  have:(s.getD k x,b)∈s.zip e:=by
   rw[List.mem_iff_getElem?]
   refine⟨k,?_⟩
   have hks:k<s.length:=by omega
   simp[List.getElem?_zip_eq_some,hks,hk,hb]
  exact h1 _ this
 ·rintro h1 ⟨a,b⟩ hq
  obtain⟨k,hk⟩:=List.mem_iff_getElem?.1 hq
  rw[List.getElem?_zip_eq_some] at hk
  have h2:(b,k)∈e.zipIdx:=by
   rw[List.mem_zipIdx_iff_getElem?]
   exact hk.2
  have:=h1 _ h2
  simpa[hk.1] using this
theorem aSB (m:Im) (f pc:Int) (s:List Tp) (r) (h:sY m f pc s=some r):∃k,aQx k m f pc s=some r:=by
 unfold sY at h
 cases hb:aF m&&okL s <;> simp only[hb,cond_true,cond_false] at h
 ·cases h
 injection h with h
 subst h
 simp only[Bool.and_eq_true] at hb
 obtain⟨hs,hsl⟩:=hb
 have hsl:=fR hsl
 refine⟨20,?_⟩
 have fold:∀g:Int,m.2.2.2.1.getD g.toNat zMt=aC m g:=fun _=>rfl
 have fold2:(aC m f).2.2.2.1.getD pc.toNat dN=aH m f pc:=rfl
 have fold3:(aC m f).2.2.2.1.length=aB m f:=rfl
 unfold aQx aM
 simp only[fold,fold2,fold3]
 cases hf:inM m f
 ·simp only[Bool.false_and,Bool.not_false,cond_true]
  have:¬(0≤f∧f<(m.2.2.2.1.length:Int)):=fun hh=>by rw[aP.2 hh] at hf;cases hf
  by_cases h0:f<0
  ·simp only[h0,decide_true,cond_true]
  ·have h1:f≥(m.2.2.2.1.length:Int):=by omega
   simp only[h0,h1,decide_true,decide_false,cond_true,cond_false]
 obtain⟨f0,f1⟩:=aP.1 hf
 have f2:¬f<0:=by omega
 have f3:¬f≥(m.2.2.2.1.length:Int):=by omega
 have hc:=cN hs hf
 simp only[f0,f1,f2,f3,decide_true,decide_false,Bool.and_self,Bool.true_and,cond_true,cond_false]
 by_cases p0:pc<0
 ·have:¬0≤pc:=by omega
  simp only[p0,sin,this,decide_true,decide_false,Bool.false_and,Bool.not_false,cond_true]
 have p0':0≤pc:=by omega
 by_cases p1:pc≥(aB m f:Int)
 ·have:¬pc<(aB m f:Int):=by omega
  simp only[p0,p1,sin,this,decide_true,decide_false,Bool.and_false,Bool.not_false,cond_true,cond_false]
 have p1':pc<(aB m f:Int):=by omega
 have hp:sin pc (aB m f:Int)=true:=by simp[sin,p0',p1']
 simp only[p0,p0',p1,p1',hp,decide_true,decide_false,Bool.and_self,Bool.not_true,cond_true,cond_false,kF]
 cases hn:(cV (aH m f pc) pc).contains (aB m f:Int)
 case true=>simp only[cond_true]
 simp only[cond_false]
 cases h6:(aH m f pc).1==6
 case true=>
  simp only[cond_true]
  by_cases s0:s.length=0
  ·have:((s.length:Int)==0)=true:=by simp[s0]
   rw[this,decide_eq_true s0]
   rfl
  ·have:((s.length:Int)==0)=false:=beq_eq_false_iff_ne.2 (by omega)
   rw[this,decide_eq_false s0]
   simp only[Bool.false_or,cond_false]
   by_cases s8:s.length≥8
   ·have:(s.length:Int)≥8:=by omega
    simp only[this,s8,decide_true,cond_true]
   ·have h1:¬(s.length:Int)≥8:=by omega
    have h2:IntKind.i64.wrap ((s.length:Int) - 1)=((s.length - 1:Nat):Int):=by rw[cD] <;> omega
    have h3:((s.length - 1:Nat):Int)≤(s.length:Int):=by omega
    simp only[h1,s8,h2,h3,dge,decide_true,decide_false,Bool.and_self,Int.le_refl,cond_true,cond_false,Int.toNat_natCast,List.take_length]
    rw[tG (by simp only[List.flatten_cons,List.flatten_nil,List.append_nil,List.length_append,List.length_drop];omega) (by simp)]
    simp only[Option.bind_some,List.flatten_cons,List.flatten_nil,List.append_nil]
 simp only[cond_false]
 have hi:=kQ hs hf hp
 rw[aVr hs hf hi]
 simp only[Option.bind_some]
 have hsm:=aHF hs (f:=f) hi
 generalize iX m (aC m f) (aH m f pc)=E at hsm⊢
 obtain⟨hE1,hE2⟩:=hsm
 unfold qU
 have w1:IntKind.i64.wrap ((s.length:Int) - (E.1.length:Int))=(s.length:Int) - (E.1.length:Int):=by rw[cD] <;> omega
 have w2:IntKind.i64.wrap ((s.length:Int) - (E.1.length:Int)+(E.2.1.length:Int))=(s.length:Int) - (E.1.length:Int)+(E.2.1.length:Int):=by rw[cD] <;> omega
 simp only[w1,w2]
 by_cases l1:s.length<E.1.length
 ·have:(s.length:Int) - (E.1.length:Int)<0:=by omega
  simp only[this,l1,decide_true,Bool.true_or,cond_true]
 have l1':¬(s.length:Int) - (E.1.length:Int)<0:=by omega
 simp only[l1,l1',decide_false,Bool.false_or,cond_false]
 by_cases l2:s.length - E.1.length+E.2.1.length>8
 ·have:(s.length:Int) - (E.1.length:Int)+(E.2.1.length:Int)>8:=by omega
  simp only[this,l2,decide_true,cond_true]
 have l2':¬(s.length:Int) - (E.1.length:Int)+(E.2.1.length:Int)>8:=by omega
 simp only[l2,l2',decide_false,cond_false]
 have hzip:=aBw (fun a b=>dT m (aH m f pc).1 a b) zTp zTp (s.drop (s.length - E.1.length)) E.1 (by rw[List.length_drop];omega)
 rw[hzip]
 generalize hD:s.length - E.1.length=D at*
 have hDi:(s.length:Int) - (E.1.length:Int)=(D:Int):=by omega
 have w4:IntKind.i64.wrap (D:Int)=(D:Int):=by rw[cD] <;> omega
 rw[show (E.1.zipIdx.all fun q=>dT m (aH m f pc).1 ((s.drop D).getD q.2 zTp) q.1)=mX (fun k x=>dT m (aH m f pc).1 ((s.drop D).getD k zTp) x) 0 E.1 by
  rw[Bool.eq_iff_iff,wO,List.all_eq_true]
  constructor
  ·intro hh j x hx
   have:=hh (x,j) (by rw[List.mem_zipIdx_iff_getElem?];exact hx)
   simpa using this
  ·rintro hh ⟨x,j⟩ hx
   rw[List.mem_zipIdx_iff_getElem?] at hx
   have:=hh j x hx
   simpa using this]
 refine (vU (xs:=E.1) (st:=fun k=>(cV (aH m f pc) pc,(k:Int),())) (p:=fun k x=>dT m (aH m f pc).1 ((s.drop D).getD k zTp) x) (ex:=some ([],[],4,())) (fin:=some (s.take D++E.2.1,cV (aH m f pc) pc,0,())) (fun k x rec hk hlt=>?_) (fun rec=>?_) 20 (by omega)).trans ?_
 ·have hx:(s.drop D).getD k zTp=s.getD (D+k) zTp:=by simp[List.getElem?_drop]
  have w3:IntKind.i64.wrap ((D:Int)+(k:Int))=((D+k:Nat):Int):=by rw[cD] <;> omega
  rw[aF7]
  simp only[w4,hDi,w3,fold,fold2,dlt hlt,dge,dlt (show D+k<s.length by omega),Bool.and_self,cond_true,Int.toNat_natCast,getD_some hk,hx,aN hlt (show _≤lenMax by simp only[lenMax];omega)]
  cases dT m (aH m f pc).1 (s.getD (D+k) zTp) x <;> rfl
 ·have l3:(D:Int)≤(s.length:Int):=by omega
  rw[aF7]
  simp only[w4,hDi,bB,cond_false,dge,l3,decide_true,Bool.and_self,cond_true,Int.toNat_natCast,List.drop_zero]
  rw[tG (by simp only[List.flatten_cons,List.flatten_nil,List.append_nil,List.length_append,List.length_take];omega) (by simp)]
  simp only[Option.bind_some,List.flatten_cons,List.flatten_nil,List.append_nil]
 ·cases mX (fun k x=>dT m (aH m f pc).1 ((s.drop D).getD k zTp) x) 0 E.1 <;> rfl
end Go.Pli

namespace Go.Pli
open Go Go.PM
theorem aPE {s:List Tp} (h:s.length<1000000):qO s=some (s,()):=by
 unfold qO
 have:decide (([]:List Tp).length+s.length<rowMax)=true:=decide_eq_true (by simp only[rowMax,List.length_nil];omega)
 rw[this]
 rfl
theorem aRQ {l:List Cl} {a b x:Tp} (h:fG l a b=x):aAw l a b=some (x,()):=by unfold aAw;rw[h]
theorem kL (l:List Cl) {a s:List Tp} (h:a.length=s.length):(aU l a s).length=s.length:=by
 unfold aU
 rw[List.length_map,List.length_zip,h,Nat.min_self]
theorem aE4 (l:List Cl) {a s:List Tp} {k:Nat} (h1:k<a.length) (h2:k<s.length):(aU l a s)[k]? =some (fG l (a.getD k zTp) (s.getD k zTp)):=by
 unfold aU
 rw[List.getElem?_map,List.getElem?_eq_getElem (show k<(a.zip s).length by rw[List.length_zip];omega)]
 simp[h1,h2]
def lD {α:Type} (z:α) (l:List α) (k:Nat):List α:=l.take k++List.replicate (l.length - k) z
theorem aFB {α:Type} (z:α) (l:List α) {k:Nat} (h:k≤l.length):(lD z l k).length=l.length:=by
 unfold lD
 simp only[List.length_append,List.length_take,List.length_replicate]
 omega
theorem aOj {α:Type} (z:α) {l:List α} {k:Nat} {x:α} (h:l[k]? =some x):(lD z l k).set k x=lD z l (k+1):=by
 have hk:k<l.length:=by
  by_cases hk:k<l.length
  ·exact hk
  ·rw[List.getElem?_eq_none (by omega)] at h;cases h
 unfold lD
 have ht:(l.take k).length=k:=by rw[List.length_take];omega
 rw[List.set_append_right _ _ (by omega),ht,Nat.sub_self,List.take_add_one,h]
 obtain⟨n,hn⟩:∃n,l.length - k=n+1:=⟨l.length - k - 1,by omega⟩
 have hn':l.length - (k+1)=n:=by omega
 rw[hn,hn',List.replicate_succ]
 simp
theorem aNM {α:Type} (z:α) {l:List α} {k:Nat} {x:α} (h:l[k]? =some x):(lD z l (k+1)).getD k z=x:=by
 have hk:k<l.length:=by
  by_cases hk:k<l.length
  ·exact hk
  ·rw[List.getElem?_eq_none (by omega)] at h;cases h
 unfold lD
 have ht:k<(l.take (k+1)).length:=by rw[List.length_take];omega
 rw[zR,if_pos ht,List.getD_eq_getElem?_getD,List.getElem?_take]
 simp[h]
theorem aPV (m:Im) (o:Sh) (s:List Tp) (r) (h:yL m o s=some r):∃k,aMc k m o s=some r:=by
 unfold yL at h
 cases hb:okL s <;> simp only[hb,cond_true,cond_false] at h
 ·cases h
 injection h with h
 subst h
 have hs:=fR hb
 refine⟨s.length+1,?_⟩
 unfold aMc bJ
 rw[aPE hs]
 cases o.1 <;> simp only[Bool.not_true,Bool.not_false,cond_true,cond_false,Option.bind_some]
 ·rfl
 by_cases hl:o.2.1.length=s.length
 ·have e1:((o.2.1.length:Int) !=(s.length:Int))=false:=by rw[hl];simp
  have e2:decide (o.2.1.length≠s.length)=false:=by simp[hl]
  have e3:decide ((s.length:Int)<(rowMax:Int))=true:=decide_eq_true (by simp only[rowMax];omega)
  have e4:decide ((0:Int)≤(s.length:Int))=true:=decide_eq_true (by omega)
  simp only[e1,e2,e3,e4,cond_true,cond_false,Int.le_refl,decide_true,Bool.and_self]
  have hml:=kL m.1 hl
  have key:=dD (L:=zG m o s) (xs:=aU m.1 o.2.1 s) (st:=fun k=>((k:Int),lD zTp (aU m.1 o.2.1 s) k,())) (p:=fun x=> !(x.1==0)) (ex:=some (o,false,false,())) (fin:=some ((true,aU m.1 o.2.1 s,()),!(aU m.1 o.2.1 s==o.2.1),true,()))
   (fun k x rec hk hlt=>by
    have h1:k<s.length:=by omega
    have h2:k<o.2.1.length:=by omega
    have hx:=aE4 m.1 h2 h1
    rw[hk] at hx
    have hx:=Option.some.inj hx
    have hkj:aAw m.1 (o.2.1.getD k zTp) (s.getD k zTp)=some (x,()):=aRQ hx.symm
    have hf:=aFB zTp (aU m.1 o.2.1 s) (k:=k) (by omega)
    have hf2:=aFB zTp (aU m.1 o.2.1 s) (k:=k+1) (by omega)
    rw[zG]
    simp only[dlt h1,dlt h2,dge,Bool.and_self,cond_true,Int.toNat_natCast,hkj,Option.bind_some,hf,hml,aOj zTp hk,hf2,aNM zTp hk,aN h1 (show s.length≤lenMax by simp only[lenMax];omega)]
    cases x.1==0 <;> rfl)
   (fun rec=>by
    have:lD zTp (aU m.1 o.2.1 s) s.length=aU m.1 o.2.1 s:=by rw[←hml];unfold lD;simp
    rw[zG]
    simp only[hml,this,bB,cond_false,eqL]) (s.length+1) (by omega)
  have h0:lD zTp (aU m.1 o.2.1 s) 0=List.replicate s.length zTp:=by unfold lD;simp[hml]
  rw[h0] at key
  refine key.trans ?_
  rw[←List.not_any_eq_all_not]
  cases (aU m.1 o.2.1 s).any fun t=>t.1==0 <;> rfl
 ·have e1:((o.2.1.length:Int) !=(s.length:Int))=true:=by simp;omega
  have e2:decide (o.2.1.length≠s.length)=true:=by simp[hl]
  simp only[e1,e2,cond_true]
theorem aRm {m:Im} (hs:aF m=true) {f pc:Int} (hf:inM m f=true) (hp:sin pc (aB m f:Int)=true) (hn:(cV (aH m f pc) pc).contains (aB m f:Int)=false):∀to∈cV (aH m f pc) pc,0≤to∧to<(aB m f:Int):=by
 have hi:=kQ hs hf hp
 have hc:=cN hs hf
 simp only[sin,Bool.and_eq_true,decide_eq_true_eq] at hp
 have hw:IntKind.i64.wrap (pc+1)=pc+1:=by rw[cD] <;> omega
 intro to ht
 have hne:to≠(aB m f:Int):=by
  rintro rfl
  rw[List.contains_iff_mem.2 ht] at hn
  cases hn
 have hj:((aH m f pc).1==18 || (aH m f pc).1==19)=true→0≤(aH m f pc).2.1∧(aH m f pc).2.1<(aB m f:Int):=by
  intro hh
  have:sin (aH m f pc).2.1 (aB m f:Int)=true:=by
   rw[Bool.or_eq_true] at hh
   unfold bI at hi
   rcases hh with hh | hh <;> (have e:=eq_of_beq hh;rw[e] at hi;exact hi)
  simpa[sin] using this
 unfold cV at ht
 cases h1:(aH m f pc).1==18 <;> simp only[h1,cond_true,cond_false] at ht
 ·cases h2:(aH m f pc).1==19 <;> simp only[h2,cond_true,cond_false] at ht
  ·cases h3:(aH m f pc).1==33 <;> simp only[h3,cond_true,cond_false] at ht
   ·rw[List.mem_singleton,hw] at ht;omega
   ·cases ht
  ·rw[hw] at ht
   rcases List.mem_cons.1 ht with ht | ht
   ·omega
   ·rw[List.mem_singleton] at ht
    have:=hj (by rw[h2,Bool.or_true])
    omega
 ·rw[List.mem_singleton] at ht
  have:=hj (by rw[h1,Bool.true_or])
  omega
theorem fE {m:Im} (hs:aF m=true) {f pc:Int} {s:List Tp} (h:(aM m f pc s).2.2.1=0):
  inM m f=true∧sin pc (aB m f:Int)=true∧(aM m f pc s).1.length≤8∧(∀to∈(aM m f pc s).2.1,0≤to∧to<(aB m f:Int)):=by
 unfold aM at h⊢
 cases hf:inM m f
 ·rw[hf] at h;simp at h
 cases hp:sin pc (aB m f:Int)
 ·rw[hf,hp] at h;simp at h
 simp only[hf,hp,Bool.and_self,Bool.not_true,cond_false] at h⊢
 cases hn:(cV (aH m f pc) pc).contains (aB m f:Int)
 case true=>rw[hn] at h;simp at h
 have hin:=aRm hs hf hp hn
 simp only[hn,cond_false] at h⊢
 refine⟨trivial,trivial,?_⟩
 cases h6:(aH m f pc).1==6 <;> simp only[h6,cond_true,cond_false] at h⊢
 ·unfold qU at h⊢
  generalize iX m (aC m f) (aH m f pc)=E at h⊢
  cases hb:decide (s.length<E.1.length) || decide (s.length - E.1.length+E.2.1.length>8) <;> simp only[hb,cond_true,cond_false] at h⊢
  ·simp only[Bool.or_eq_false_iff,decide_eq_false_iff_not] at hb
   cases hz:((s.drop (s.length - E.1.length)).zip E.1).all fun p=>dT m (aH m f pc).1 p.1 p.2 <;> simp only[hz,cond_true,cond_false] at h⊢
   ·cases h
   ·refine⟨?_,hin⟩
    rw[List.length_append,List.length_take]
    omega
  ·cases h
 ·cases hb:decide (s.length=0) || decide (s.length≥8) <;> simp only[hb,cond_true,cond_false] at h⊢
  ·simp only[Bool.or_eq_false_iff,decide_eq_false_iff_not] at hb
   refine⟨?_,hin⟩
   rw[List.length_append,List.length_drop]
   omega
  ·cases h
theorem aIs {m:Im} {r1:St4} {N:Nat} (hN:N<1000000) (ha:r1.1.length<1000000):∀(l pre:List Int) (h:List Sh) (q:List Bool) (F:Nat),r1.2.1=pre++l→r1.2.1.length≤1000→l.length<F→h.length=N→q.length=N→(∀to∈l,0≤to∧to<(N:Int))→
  aA (aFk m r1) F ((pre.length:Int),h,q,())=some (gG m.1 r1.1 l h q)
 | [],pre,h,q,F,he,hl,hF,hh,hq,_=>by
  obtain⟨F,rfl⟩:∃n,F=n+1:=⟨F - 1,by simp at hF;omega⟩
  rw[List.append_nil] at he
  rw[aD,aFk,he]
  simp only[bB,cond_false,gG]
 | to::l,pre,h,q,F,he,hl,hF,hh,hq,ht=>by
  obtain⟨F,rfl⟩:∃n,F=n+1:=⟨F - 1,by simp at hF;omega⟩
  have hk:pre.length<r1.2.1.length:=by rw[he,List.length_append];simp
  have hget:r1.2.1.getD pre.length 0=to:=by rw[he];simp
  obtain⟨t0,t1⟩:=ht to (List.mem_cons_self ..)
  have hm:yL m (h.getD to.toNat zSh) r1.1=some (bJ m.1 (h.getD to.toNat zSh) r1.1):=by unfold yL;rw[dZ ha];rfl
  have hw:=aN hk (show r1.2.1.length≤lenMax by simp only[lenMax];omega)
  have t2:to<(h.length:Int):=by omega
  have t3:to<(q.length:Int):=by omega
  have ih:=fun h' q' hh' hq'=>aIs (m:=m) hN ha l (pre++[to]) h' q' F (by rw[he,List.append_assoc];rfl) hl (by simp only[List.length_cons] at hF;omega) hh' hq' (fun x hx=>ht x (List.mem_cons_of_mem _ hx))
  simp only[List.length_append,List.length_cons,List.length_nil,Nat.zero_add] at ih
  rw[aD,aFk]
  simp only[dlt hk,dge,Bool.and_self,cond_true,Int.toNat_natCast,hget,t0,t2,t3,decide_true,hm,Option.bind_some,hw,gG]
  cases (bJ m.1 (h.getD to.toNat zSh) r1.1).2.2.1 <;> simp only[Bool.not_true,Bool.not_false,cond_true,cond_false]
  cases (bJ m.1 (h.getD to.toNat zSh) r1.1).2.1 <;> simp only[cond_true,cond_false]
  ·exact ih h q hh hq
  ·exact ih _ _ (by rw[List.length_set,hh]) (by rw[List.length_set,hq])
theorem aDQ (l:List Cl) (a:List Tp):∀(ts:List Int) (h:List Sh) (q:List Bool),(gG l a ts h q).2.1.length=h.length∧(gG l a ts h q).2.2.1.length=q.length
 | [],h,q=>⟨rfl,rfl⟩
 | to::ts,h,q=>by
  unfold gG
  cases (bJ l (h.getD to.toNat zSh) a).2.2.1 <;> simp only[Bool.not_true,Bool.not_false,cond_true,cond_false]
  ·exact⟨trivial,trivial⟩
  ·cases (bJ l (h.getD to.toNat zSh) a).2.1 <;> simp only[cond_true,cond_false]
   ·exact aDQ l a ts h q
   ·have:=aDQ l a ts (h.set to.toNat (bJ l (h.getD to.toNat zSh) a).1) (q.set to.toNat true)
    simpa using this
theorem aOT (m:Im) (f pc:Int) (h:List Sh) (q:List Bool):(jR m f pc h q).2.1.length=h.length∧(jR m f pc h q).2.2.1.length=q.length:=by
 unfold jR
 cases (aM m f pc (h.getD pc.toNat zSh).2.1).2.2.1 !=0 <;> simp only[cond_true,cond_false]
 ·exact aDQ _ _ _ _ _
 ·exact⟨trivial,trivial⟩
structure OneP (m:Im) (f pc:Int) (h:List Sh) (q:List Bool):Prop where
 sane:aF m=true
 meth:inM m f=true
 at':sin pc (aB m f:Int)=true
 hl:h.length=aB m f
 ql:q.length=aB m f
 ok:∀s∈h,okL s.2.1=true
theorem aTw {m:Im} {f pc:Int} {h:List Sh} {q:List Bool} (hh:sL m f pc h q=true):OneP m f pc h q:=by
 simp only[sL,Bool.and_eq_true,decide_eq_true_eq,List.all_eq_true] at hh
 exact⟨hh.1,hh.2.1,hh.2.2.1,hh.2.2.2.1,hh.2.2.2.2.1,hh.2.2.2.2.2⟩
theorem OneP.to {m:Im} {f pc:Int} {h:List Sh} {q:List Bool} (hh:OneP m f pc h q):sL m f pc h q=true:=by
 simp only[sL,Bool.and_eq_true,decide_eq_true_eq,List.all_eq_true]
 exact⟨hh.1,hh.2,hh.3,hh.4,hh.5,hh.6⟩
def aVI (z:St4):Prop:=z.2.1.length≤2
theorem qS (m:Im) (f pc:Int) (s:List Tp):aVI (aM m f pc s):=by
 have h2:=aP9 (aH m f pc) pc
 unfold aM qU
 exact bT (Nat.zero_le _) (bT (Nat.zero_le _) (bT (bT (Nat.zero_le _) h2) (bT (Nat.zero_le _) (bT h2 (Nat.zero_le _)))))
theorem aS9 (m:Im) (f pc:Int) (h:List Sh) (q:List Bool) (r) (he:nZ m f pc h q=some r):∃k,aSV k m f pc h q=some r:=by
 unfold nZ at he
 cases hb:sL m f pc h q <;> simp only[hb,cond_true,cond_false] at he
 ·cases he
 injection he with he
 subst he
 obtain⟨hs,hf,hp,hhl,hql,hok⟩:=aTw hb
 have hp':=hp
 simp only[sin,Bool.and_eq_true,decide_eq_true_eq] at hp'
 have hc:=cN hs hf
 have hz:okL (h.getD pc.toNat zSh).2.1=true:=by
  have:pc.toNat<h.length:=by omega
  rw[getD_some (List.getElem?_eq_getElem this)]
  exact hok _ (List.getElem_mem this)
 have hst:sY m f pc (h.getD pc.toNat zSh).2.1=some (aM m f pc (h.getD pc.toNat zSh).2.1):=by unfold sY;rw[hs,hz];rfl
 refine⟨1001,?_⟩
 have p2:pc<(h.length:Int):=by omega
 unfold aSV jR
 simp only[hp'.1,p2,decide_true,Bool.and_self,cond_true,hst,Option.bind_some]
 cases hne:(aM m f pc (h.getD pc.toNat zSh).2.1).2.2.1 !=0
 case true=>simp only[cond_true]
 simp only[cond_false]
 obtain⟨-,-,h8,hto⟩:=fE hs (f:=f) (pc:=pc) (s:=(h.getD pc.toNat zSh).2.1) (by simpa using hne)
 have hnl:(aM m f pc (h.getD pc.toNat zSh).2.1).2.1.length≤2:=qS ..
 have:=aIs (m:=m) (r1:=aM m f pc (h.getD pc.toNat zSh).2.1) (N:=aB m f) (by omega) (by omega) (aM m f pc (h.getD pc.toNat zSh).2.1).2.1 [] h q 1001 rfl (by omega) (by omega) hhl hql hto
 simpa using this
theorem aPh {σ R:Type} {L:σ→(σ→Option R)→Option R} {st:Nat→σ} {fin:Option R} {g:Nat→Option R} {xs:List Bool}
  (h1:∀(k:Nat) (rec),xs[k]? =some false→k<xs.length→L (st k) rec=rec (st (k+1))) (h2:∀(k:Nat) (rec),xs[k]? =some true→k<xs.length→L (st k) rec=g k) (h3:∀rec,L (st xs.length) rec=fin):
  ∀F:Nat,xs.length<F→aA L F (st 0)=bif xs.any id then g (xs.findIdx id) else fin:=by
 have key:∀(l pre:List Bool) (F:Nat),xs=pre++l→l.length<F→aA L F (st pre.length)=bif l.any id then g (pre.length+l.findIdx id) else fin:=by
  intro l
  induction l with
  | nil=>
   intro pre F hx hF
   obtain⟨F,rfl⟩:∃n,F=n+1:=⟨F - 1,by simp at hF;omega⟩
   rw[List.append_nil] at hx
   subst hx
   rw[aD,h3]
   rfl
  | cons x l ih=>
   intro pre F hx hF
   obtain⟨F,rfl⟩:∃n,F=n+1:=⟨F - 1,by simp at hF;omega⟩
   have hk:xs[pre.length]? =some x:=by rw[hx];simp
   have hl:pre.length<xs.length:=by rw[hx];simp
   cases x with
   | true=>
    rw[aD,h2 _ _ hk hl]
    simp[List.findIdx_cons]
   | false=>
    rw[aD,h1 _ _ hk hl]
    have:=ih (pre++[false]) F (by rw[hx];simp) (by simp only[List.length_cons] at hF;omega)
    simp only[List.length_append,List.length_cons,List.length_nil,Nat.zero_add] at this
    rw[this]
    simp only[List.any_cons,List.findIdx_cons,id,Bool.false_or,cond_false]
    rw[show pre.length+(l.findIdx id+1)=pre.length+1+l.findIdx id by omega]
 intro F hF
 simpa using key xs [] F rfl hF
theorem aEB {m:Im} {f:Int} {fuel N:Nat} (hN:N<fuel) (hN2:N<1000000):∀(n:Nat) (h:List Sh) (q:List Bool) (r),q.length=N→kT m f n h q=some r→aA (rU m f fuel) n (h,q,())=some r
 | 0,_,_,_,_,hw=>by cases hw
 | n+1,h,q,r,hq,hw=>by
  rw[aD,rU]
  have key:=aPh (L:=rQ m f (h,q,()) (aA (rU m f fuel) n)) (st:=fun k=>((k:Int),())) (xs:=q) (fin:=some (h,0,0,()))
   (g:=fun k=>(nZ m f (k:Int) h (q.set k false)).bind fun r5=>bif !r5.1 then some ([],(k:Int),4,()) else aA (rU m f fuel) n (r5.2.1,r5.2.2.1,()))
   (fun k rec hk hl=>by
    rw[rQ]
    simp only[dlt hl,dge,Bool.and_self,cond_true,Int.toNat_natCast,getD_some hk,Bool.not_false,aN hl (show _≤lenMax by simp only[lenMax];omega)])
   (fun k rec hk hl=>by
    rw[rQ]
    simp only[dlt hl,dge,Bool.and_self,cond_true,cond_false,Int.toNat_natCast,getD_some hk,Bool.not_true])
   (fun rec=>by
    rw[rQ]
    simp only[bB,cond_false]) fuel (by omega)
  refine key.trans ?_
  unfold kT at hw
  cases ha:q.any id <;> simp only[ha,cond_true,cond_false] at hw⊢
  ·exact hw
  ·cases ht:nZ m f (q.findIdx id:Int) h (q.set (q.findIdx id) false) with
   | none=>rw[ht] at hw;cases hw
   | some r5=>
    rw[ht] at hw
    simp only[Option.bind_some] at hw⊢
    have hr5:r5=jR m f (q.findIdx id:Int) h (q.set (q.findIdx id) false):=by
     unfold nZ at ht
     cases hb:sL m f (q.findIdx id:Int) h (q.set (q.findIdx id) false) <;> simp only[hb,cond_true,cond_false] at ht
     ·cases ht
     ·injection ht with ht;exact ht.symm
    cases hr:r5.1 <;> simp only[hr,Bool.not_true,Bool.not_false,cond_true,cond_false] at hw⊢
    ·exact hw
    ·refine aEB hN hN2 n _ _ _ ?_ hw
     rw[hr5,(aOT ..).2,List.length_set,hq]
theorem aM7 (m:Im) (f:Int) (r) (h:fZ m f=some r):∃k,aJm k m f=some r:=by
 unfold fZ at h
 cases hb:aF m&&inM m f <;> simp only[hb,cond_true,cond_false] at h
 ·cases h
 simp only[Bool.and_eq_true] at hb
 obtain⟨hs,hf⟩:=hb
 obtain⟨f0,f1⟩:=aP.1 hf
 have hc:=cN hs hf
 refine⟨100*aB m f+2,?_⟩
 have fold:∀g:Int,m.2.2.2.1.getD g.toNat zMt=aC m g:=fun _=>rfl
 have fold3:(aC m f).2.2.2.1.length=aB m f:=rfl
 have e0:decide ((0:Int)≤(aB m f:Int))=true:=decide_eq_true (by omega)
 have e1:decide ((aB m f:Int)<(rowMax:Int))=true:=decide_eq_true (by simp only[rowMax];omega)
 have e2:((aB m f:Int)==0)=false:=beq_eq_false_iff_ne.2 (by omega)
 have e3:decide ((0:Int)<(aB m f:Int))=true:=decide_eq_true (by omega)
 have e4:decide ((aB m f:Int)≤(aB m f:Int))=true:=decide_eq_true (by omega)
 have e5:((List.replicate (aB m f) zSh).getD 0 zSh).2=([],()):=by
  obtain⟨n,hn⟩:∃n,aB m f=n+1:=⟨aB m f - 1,by omega⟩
  rw[hn];rfl
 unfold aJm
 simp only[fold,fold3,f0,f1,decide_true,Bool.and_self,cond_true,cond_false,e0,e1,e2,e3,e4,e5,Int.toNat_natCast,List.length_replicate,List.length_set]
 exact aEB (N:=aB m f) (by omega) (by omega) _ _ _ _ (by simp) h
theorem aE2 {m:Im} (h12:m.2.2.2.1.length≤12):∀(j k:Nat) (out:List (List Sh)) (F:Nat) (r),k+j=m.2.2.2.1.length→j<F→out.length≤k→jZ m ((List.range' k j).map fun n:Nat=>(n:Int)) out=some r→aA (aAP m) F (out,(k:Int),())=some r
 | 0,k,out,F,r,hk,hF,_,h=>by
  obtain⟨F,rfl⟩:∃n,F=n+1:=⟨F - 1,by omega⟩
  have:k=m.2.2.2.1.length:=by omega
  subst this
  rw[aD,aAP]
  simp only[bB,cond_false,idL]
  exact h
 | j+1,k,out,F,r,hk,hF,ho,h=>by
  obtain⟨F,rfl⟩:∃n,F=n+1:=⟨F - 1,by omega⟩
  have hlt:k<m.2.2.2.1.length:=by omega
  rw[aD,aAP]
  rw[List.range'_succ,List.map_cons,jZ] at h
  simp only[dlt hlt,cond_true]
  cases ht:fZ m (k:Int) with
  | none=>rw[ht] at h;cases h
  | some r3=>
   rw[ht] at h
   simp only[Option.bind_some] at h⊢
   cases he:r3.2.2.1 !=0 <;> simp only[he,cond_true,cond_false] at h⊢
   ·simp only[List.length_cons,List.length_nil,iM (show out.length+(0+1)<549755813888 by omega),cond_true,aN hlt (show _≤lenMax by simp only[lenMax];omega)]
    exact aE2 h12 j (k+1) _ F r (by omega) (by omega) (by simp;omega) h
   ·exact h
theorem aQt (m:Im) (r) (h:iS m=some r):∃k,aLN k m=some r:=by
 unfold iS at h
 cases hs:aF m <;> simp only[hs,cond_true,cond_false] at h
 ·cases h
 have h12:=(bE (aV hs).1).methods
 refine⟨m.2.2.2.1.length+1,?_⟩
 unfold aLN
 refine aE2 h12 m.2.2.2.1.length 0 [] _ r (by omega) (by omega) (by simp) ?_
 rw[←List.range_eq_range']
 exact h
end Go.Pli

namespace Go.Pli
open Go Go.PM
theorem aQj (s:List Int):aL5 s=some (idL s,()):=by simp[aL5,idL]
theorem aNb (s:List (List Int)):aIo s=some (idL s,()):=by simp[aIo,idL]
theorem vJ {l:List (List Sh)} (h:eS l=true) {n:Nat} (hn:n<l.length):(l.getD n []).length<1000000∧∀s∈l.getD n [],s.2.1.length<1000000:=by
 simp only[eS,Bool.and_eq_true,List.all_eq_true] at h
 rw[getD_some (List.getElem?_eq_getElem hn)]
 have:=h.2 _ (List.getElem_mem hn)
 exact⟨fR this.1,fun s hs=>fR (this.2 s hs)⟩
theorem aHB (l:List Int) {k:Nat} {x:Int} (h:l[k]? =some x):iT (l.take (k+1))=max (iT (l.take k)) x:=by
 unfold iT
 rw[List.take_add_one,h,List.foldl_append]
 rfl
theorem aTl {B:Int} (hB:0≤B) {l:List Int} (h:∀x∈l,x≤B):0≤iT l∧iT l≤B:=by
 have key:∀(l:List Int) (a:Int),0≤a→a≤B→(∀x∈l,x≤B)→0≤l.foldl max a∧l.foldl max a≤B:=by
  intro l
  induction l with
  | nil=>intro a h0 h1 _;exact⟨h0,h1⟩
  | cons x l ih=>
   intro a h0 h1 hx
   have:=hx x (List.mem_cons_self ..)
   exact ih _ (by omega) (by omega) fun y hy=>hx y (List.mem_cons_of_mem _ hy)
 exact key l 0 (Int.le_refl _) hB h
theorem aSy (l:List (List Sh)) (f:Int) (r) (h:aCv l f=some r):∃k,aQd k l f=some r:=by
 unfold aCv at h
 cases hb:eS l <;> simp only[hb,cond_true,cond_false] at h
 ·cases h
 injection h with h
 subst h
 refine⟨1000001,?_⟩
 unfold aQd tC sin
 by_cases h0:f<0
 ·have:¬0≤f:=by omega
  simp only[h0,this,decide_true,decide_false,Bool.false_and,cond_true,cond_false]
 have h0':0≤f:=by omega
 by_cases h1:f≥(l.length:Int)
 ·have:¬f<(l.length:Int):=by omega
  simp only[h0,h1,this,decide_true,decide_false,Bool.and_false,cond_true,cond_false]
 have h1':f<(l.length:Int):=by omega
 simp only[h0,h0',h1,h1',decide_true,decide_false,Bool.and_self,cond_true,cond_false]
 obtain⟨hl,-⟩:=vJ hb (n:=f.toNat) (by omega)
 generalize hh:l.getD f.toNat []=h at hl
 have:=fJ (L:=aCq l f) (n:=h.length) (st:=fun k=>(iT ((h.map fun s=>(s.2.1.length:Int)).take k),(k:Int),())) (fin:=some (iT (h.map fun s=>(s.2.1.length:Int)),()))
  (fun k rec hk=>by
   have hx:(h.map fun s=>(s.2.1.length:Int))[k]? =some (((h.getD k zSh).2.1.length:Nat):Int):=by simp[hk]
   rw[aCq]
   simp only[hh,dlt hk,dge,Bool.and_self,cond_true,Int.toNat_natCast,aHB _ hx,aN hk (show _≤lenMax by simp only[lenMax];omega)])
  (fun rec=>by
   rw[aCq]
   simp only[hh,bB,cond_false]
   rw[List.take_of_length_le (by simp)]) 1000001 (by omega)
 exact this
theorem aDB {l:List (List Sh)} (h:eS l=true) (f:Int):0≤tC l f∧tC l f≤1000000:=by
 unfold tC
 cases hs:sin f (l.length:Int) <;> simp only[cond_true,cond_false]
 ·omega
 simp only[sin,Bool.and_eq_true,decide_eq_true_eq] at hs
 obtain⟨-,hl⟩:=vJ h (n:=f.toNat) (by omega)
 refine aTl (by omega) fun x hx=>?_
 obtain⟨s,hs,rfl⟩:=List.mem_map.1 hx
 have:=hl s hs
 omega
theorem aPL {m:Im} {l:List (List Sh)} (hs:aF m=true) (hl:eS l=true) {f:Int} (hf:inM m f=true):aC2 m l f=some (rH m l f,()):=by
 obtain⟨f0,f1⟩:=aP.1 hf
 have a:¬f<0:=by omega
 have b:¬f≥(m.2.2.2.1.length:Int):=by omega
 have hd:=aDB hl f
 have hloc:=iE hs hf
 have fold:∀g:Int,m.2.2.2.1.getD g.toNat zMt=aC m g:=fun _=>rfl
 have ht:aCv l f=some (tC l f,()):=by unfold aCv;rw[hl];rfl
 unfold aC2 rH
 simp only[a,b,f0,f1,hf,fold,ht,decide_true,decide_false,Bool.and_self,cond_true,cond_false,Option.bind_some]
 rw[cD (n:=(3:Int)+_) (by omega) (by omega),cD (n:=(3:Int)+((aC m f).1.length:Int)+_) (by omega) (by omega),cD (by omega) (by omega)]
 simp
theorem aTI (to:Int) (part:List Int) (_:aTh to part):aVD to part=some (aEi to part,()):=rfl
theorem aK6 (l:List Int) (c:List Int×Unit) (h:aKL l c):∃k,aQv k l c=some (aAO l c,()):=by
 refine⟨l.length+1,jG (st:=fun k=>((k:Int),())) (p:=fun x=>aEi x c.1) (fun k x rec hk hlt=>?_) (fun rec=>?_) _ (Nat.lt_succ_self _)⟩
 ·unfold aAf
  simp only[dlt hlt,dge,Bool.and_self,cond_true,Int.toNat_natCast,getD_some hk,aN hlt h.1.1]
 ·unfold aAf
  simp only[bB,cond_false]
theorem aGm (l:List Int) (c:List Int×Unit) (_:aGH l c):aCj l c=some (nI l c,()):=by
 unfold aCj aAO nI
 rw[iA]
theorem aOv (l:List (List Int)) (part:List Int) (r) (h:yN l part=some r):∃k,aLS k l part=some r:=by
 unfold yN at h
 cases hb:okL part <;> simp only[hb,cond_true,cond_false] at h
 ·cases h
 injection h with h
 subst h
 have hp:=fR hb
 refine⟨part.length+1,?_⟩
 unfold aLS dV
 have:=dD (L:=aAF l part) (xs:=part) (st:=fun k=>((k:Int),())) (p:=fun k=> !(sin k (l.length:Int)&&(l.getD k.toNat []).any fun to=>part.contains to)) (ex:=some (true,())) (fin:=some (false,()))
  (fun k x rec hk hlt=>by
   have hw:=aN hlt (show _≤lenMax by simp only[lenMax];omega)
   rw[aAF]
   simp only[dlt hlt,dge,Bool.and_self,cond_true,Int.toNat_natCast,getD_some hk,hw,sin]
   by_cases h0:x<0
   ·have:¬0≤x:=by omega
    simp only[h0,this,decide_true,decide_false,Bool.false_and,Bool.not_false,cond_true]
   have h0':0≤x:=by omega
   by_cases h1:x≥(l.length:Int)
   ·have:¬x<(l.length:Int):=by omega
    simp only[h0,h1,this,decide_true,decide_false,Bool.and_false,Bool.false_and,Bool.not_false,cond_true,cond_false]
   have h1':x<(l.length:Int):=by omega
   simp only[h0,h0',h1,h1',decide_true,decide_false,Bool.and_self,Bool.true_and,cond_true,cond_false,nI,aEi]
   cases (l.getD x.toNat []).any fun to=>part.contains to <;> rfl)
  (fun rec=>by rw[aAF];simp only[bB,cond_false]) (part.length+1) (by omega)
 refine this.trans ?_
 rw[←List.not_any_eq_all_not]
 cases part.any fun k=>sin k (l.length:Int)&&(l.getD k.toNat []).any fun to=>part.contains to <;> rfl
theorem aJD {m:Im} {s1:List (List Int)×Int×Unit} {r4:List (List Int)×Unit} {s8:Int×Int×Int×Unit} {s5:Int×List Int×Unit} {rec9:(Int×Int×Int×Unit)→Option (List Int×Int×Unit)} {s10 r12:Int×Unit} {part es out:List Int} {f:Int}
  (hp:r4.1.getD s5.1.toNat []=part) (hf:part.getD s8.2.2.1.toNat 0=f) (he:s1.1.getD f.toNat []=es) (ho:s5.2.1=out) (hel:es.length<1000000) (hin:∀to∈es,inM m to=true):
  ∀(l pre:List Int) (b:Int) (F:Nat),es=pre++l→l.length<F→aA (aAT s1 r4 s8 s5 rec9 s10 r12) F (b,(pre.length:Int),())=rec9 (IntKind.i64.wrap (s8.1+IntKind.i64.wrap (s10.1*r12.1)),qQ part out l b,IntKind.i64.wrap (s8.2.2.1+1),())
 | [],pre,b,F,hx,hF=>by
  obtain⟨F,rfl⟩:∃n,F=n+1:=⟨F - 1,by simp at hF;omega⟩
  rw[List.append_nil] at hx
  rw[aD,aAT]
  simp only[hp,hf,he,hx,bB,cond_false,qQ]
 | to::l,pre,b,F,hx,hF=>by
  obtain⟨F,rfl⟩:∃n,F=n+1:=⟨F - 1,by simp at hF;omega⟩
  have hk:pre.length<es.length:=by rw[hx,List.length_append];simp
  have hget:es.getD pre.length 0=to:=by rw[hx];simp
  have hto:=(aP.1 (hin to (by rw[hx];simp))).1
  have hw:=aN hk (show es.length≤lenMax by simp only[lenMax];omega)
  have ih:=fun b'=>aJD (rec9:=rec9) (s10:=s10) (r12:=r12) hp hf he ho hel hin l (pre++[to]) b' F (by rw[hx,List.append_assoc];rfl) (by simp only[List.length_cons] at hF;omega)
  simp only[List.length_append,List.length_cons,List.length_nil,Nat.zero_add] at ih
  rw[aD,aAT]
  simp only[hp,hf,he,ho,dlt hk,dge,Bool.and_self,cond_true,Int.toNat_natCast,hget,hw,kF,qQ,hto,decide_true,Bool.true_and]
  cases part.contains to <;> cases decide (to<(out.length:Int)) <;> simp only[Bool.not_true,Bool.not_false,Bool.and_self,Bool.and_true,Bool.and_false,cond_true,cond_false] <;> exact ih _
theorem aJk {m:Im} {r4:List (List Int)×Unit} {s8:Int×Int×Int×Unit} {s5:Int×List Int×Unit} {rec6:(Int×List Int×Unit)→Option (List Int×Int×Unit)} {part:List Int}
  (hp:r4.1.getD s5.1.toNat []=part) (hpl:part.length<1000000) (hin:∀f∈part,inM m f=true):
  ∀(l pre out:List Int) (F:Nat),part=pre++l→l.length<F→out.length=m.2.2.2.1.length→aA (aAv r4 s8 s5 rec6) F ((pre.length:Int),out,())=rec6 (IntKind.i64.wrap (s5.1+1),nX (IntKind.i64.wrap (s8.1+s8.2.1)) l out,())
 | [],pre,out,F,hx,hF,_=>by
  obtain⟨F,rfl⟩:∃n,F=n+1:=⟨F - 1,by simp at hF;omega⟩
  rw[List.append_nil] at hx
  rw[aD,aAv]
  simp only[hp,hx,bB,cond_false,nX]
 | f::l,pre,out,F,hx,hF,ho=>by
  obtain⟨F,rfl⟩:∃n,F=n+1:=⟨F - 1,by simp at hF;omega⟩
  have hk:pre.length<part.length:=by rw[hx,List.length_append];simp
  have hget:part.getD pre.length 0=f:=by rw[hx];simp
  obtain⟨f0,f1⟩:=aP.1 (hin f (by rw[hx];simp))
  have f1':f<(out.length:Int):=by omega
  have hw:=aN hk (show part.length≤lenMax by simp only[lenMax];omega)
  have ih:=fun out' ho'=>aJk (s8:=s8) (rec6:=rec6) hp hpl hin l (pre++[f]) out' F (by rw[hx,List.append_assoc];rfl) (by simp only[List.length_cons] at hF;omega) ho'
  simp only[List.length_append,List.length_cons,List.length_nil,Nat.zero_add] at ih
  rw[aD,aAv]
  simp only[hp,dlt hk,dge,Bool.and_self,cond_true,Int.toNat_natCast,hget,hw,f0,f1',decide_true,nX]
  exact ih _ (by rw[List.length_set,ho])
theorem aHx {m:Im} {l:List (List Sh)} (hs:aF m=true) (hl:eS l=true) {fuel:Nat} (hfu:1000000<fuel) {s1:List (List Int)×Int×Unit} (hed:s1.1=cW m) (hok:aAD m=true) {r4:List (List Int)×Unit} {r7:Bool×Unit} {s5:Int×List Int×Unit} {rec6:(Int×List Int×Unit)→Option (List Int×Int×Unit)} {part:List Int}
  (hp:r4.1.getD s5.1.toNat []=part) (hpl:part.length<1000000) (hin:∀f∈part,inM m f=true) (ho:s5.2.1.length=m.2.2.2.1.length):
  ∀(q pre:List Int) (a b:Int) (F:Nat),part=pre++q→q.length<F→aA (uS m l fuel s1 r4 r7 s5 rec6) F (a,b,(pre.length:Int),())=
   match jH m l (cW m) part s5.2.1 r7.1 q a b with
   | none=>some ([],5,())
   | some z=>rec6 (IntKind.i64.wrap (s5.1+1),nX (IntKind.i64.wrap (z.1+z.2)) part s5.2.1,())
 | [],pre,a,b,F,hx,hF=>by
  obtain⟨F,rfl⟩:∃n,F=n+1:=⟨F - 1,by simp at hF;omega⟩
  rw[List.append_nil] at hx
  subst hx
  have:=aJk (m:=m) (s8:=(a,b,(part.length:Int),())) (rec6:=rec6) hp hpl hin part [] s5.2.1 fuel rfl (by omega) ho
  rw[aD,uS]
  simp only[hp,bB,cond_false,jH]
  simpa using this
 | f::q,pre,a,b,F,hx,hF=>by
  obtain⟨F,rfl⟩:∃n,F=n+1:=⟨F - 1,by simp at hF;omega⟩
  have hk:pre.length<part.length:=by rw[hx,List.length_append];simp
  have hget:part.getD pre.length 0=f:=by rw[hx];simp
  have hfm:=hin f (by rw[hx];simp)
  obtain⟨f0,f1⟩:=aP.1 hfm
  have hw:=aN hk (show part.length≤lenMax by simp only[lenMax];omega)
  have ih:=fun a' b'=>aHx hs hl hfu hed hok (r7:=r7) (rec6:=rec6) hp hpl hin ho q (pre++[f]) a' b' F (by rw[hx,List.append_assoc];rfl) (by simp only[List.length_cons] at hF;omega)
  simp only[List.length_append,List.length_cons,List.length_nil,Nat.zero_add] at ih
  have hfl:f<(s1.1.length:Int):=by rw[hed];unfold cW;rw[List.length_map,dG];exact f1
  have hfn:f.toNat<(cW m).length:=by unfold cW;rw[List.length_map,dG];omega
  have hes:=List.all_eq_true.1 hok _ (List.getElem_mem hfn)
  simp only[Bool.and_eq_true,List.all_eq_true] at hes
  have hbey:=fun s8 (h8:part.getD s8.2.2.1.toNat 0=f) s10 r12=>aJD (m:=m) (s1:=s1) (r4:=r4) (s8:=s8) (s5:=s5) (rec9:=aA (uS m l fuel s1 r4 r7 s5 rec6) F) (s10:=s10) (r12:=r12) (part:=part) (es:=(cW m)[f.toNat]) (out:=s5.2.1) (f:=f) hp h8 (by rw[hed,getD_some (List.getElem?_eq_getElem hfn)]) rfl (fR hes.1) hes.2 (cW m)[f.toNat] [] s8.2.1 fuel rfl (by have:=fR hes.1;omega)
  have fold:∀g:Int,m.2.2.2.1.getD g.toNat zMt=aC m g:=fun _=>rfl
  have hge:(cW m).getD f.toNat []=(cW m)[f.toNat]:=getD_some (List.getElem?_eq_getElem hfn)
  rw[aD,uS]
  simp only[hp,dlt hk,dge,Bool.and_self,cond_true,Int.toNat_natCast,hget,f0,f1,hfl,decide_true,aPL hs hl hfm,Option.bind_some,jH,fold,hge]
  have hb:=hbey (a,b,(pre.length:Int),()) (by simpa using hget)
  simp only[List.length_nil,Int.cast_ofNat_Int] at hb
  cases hr7:r7.1 <;> simp only[hr7,cond_true,cond_false,Option.bind_some] at ih⊢
  ·have:¬((1:Int)<1):=by omega
   simp only[this,decide_false,cond_false]
   rw[hb,hw]
   exact ih _ _
  ·cases decide ((aC m f).2.2.2.2.1<1) <;> simp only[cond_true,cond_false]
   rw[hb,hw]
   exact ih _ _
theorem aKt (v:Int):∀(l out:List Int),(nX v l out).length=out.length
 | [],_=>rfl
 | f::l,out=>by rw[nX,aKt v l,List.length_set]
theorem aET {m:Im} {l:List (List Sh)} (hs:aF m=true) (hl:eS l=true) {fuel:Nat} (hfu:1000000<fuel) {s1:List (List Int)×Int×Unit} (hed:s1.1=cW m) (hok:aAD m=true) {r4:List (List Int)×Unit} (hrl:r4.1.length<1000000) (hr:∀p∈r4.1,p.length<1000000∧∀f∈p,inM m f=true):
  ∀(ps pre:List (List Int)) (out:List Int) (F:Nat),r4.1=pre++ps→ps.length<F→out.length=m.2.2.2.1.length→aA (uN m l fuel s1 r4) F ((pre.length:Int),out,())=some (iU m l (cW m) ps out)
 | [],pre,out,F,hx,hF,_=>by
  obtain⟨F,rfl⟩:∃n,F=n+1:=⟨F - 1,by simp at hF;omega⟩
  rw[List.append_nil] at hx
  rw[aD,uN]
  simp only[hx,bB,cond_false,iU]
 | part::ps,pre,out,F,hx,hF,ho=>by
  obtain⟨F,rfl⟩:∃n,F=n+1:=⟨F - 1,by simp at hF;omega⟩
  have hk:pre.length<r4.1.length:=by rw[hx,List.length_append];simp
  have hget:r4.1.getD pre.length []=part:=by rw[hx];simp
  obtain⟨hpl,hin⟩:=hr part (by rw[hx];simp)
  have hw:=aN hk (show r4.1.length≤lenMax by simp only[lenMax];omega)
  have ih:=fun out' ho'=>aET hs hl hfu hed hok hrl hr ps (pre++[part]) out' F (by rw[hx,List.append_assoc];rfl) (by simp only[List.length_cons] at hF;omega) ho'
  simp only[List.length_append,List.length_cons,List.length_nil,Nat.zero_add] at ih
  have hcy:yN s1.1 part=some (dV (cW m) part,()):=by unfold yN;rw[dZ hpl,hed];rfl
  rw[aD,uN]
  simp only[dlt hk,dge,Bool.and_self,cond_true,Int.toNat_natCast,hget,hcy,Option.bind_some]
  have:=aHx hs hl hfu hed hok (r4:=r4) (r7:=(dV (cW m) part,())) (s5:=((pre.length:Int),out,())) (rec6:=aA (uN m l fuel s1 r4) F) (part:=part) (by simpa using hget) hpl hin ho part [] 0 0 fuel rfl (by omega)
  simp only[List.length_nil] at this
  refine this.trans ?_
  rw[iU]
  cases jH m l (cW m) part out (dV (cW m) part) part 0 0 with
  | none=>rfl
  | some z=>
   simp only[hw]
   exact ih _ (by rw[aKt,ho])
theorem aCb (m:Im):(cW m).length=m.2.2.2.1.length:=by unfold cW;rw[List.length_map,dG]
theorem aPn (m:Im) (l:List (List Sh)) (r) (h:kX m l=some r):∃k,aL7 k m l=some r:=by
 unfold kX at h
 cases hb:aF m&&(eS l&&aAD m) <;> simp only[hb,cond_true,cond_false] at h
 ·cases h
 simp only[Bool.and_eq_true] at hb
 obtain⟨hs,hl,hok⟩:=hb
 cases hr:nT (cW m) with
 | none=>rw[hr] at h;cases h
 | some r4=>
  rw[hr] at h
  simp only[Option.bind_some] at h
  cases hb:okL r4.1&&r4.1.all (fun p=>okL p&&p.all (inM m)) <;> simp only[hb,cond_true,cond_false] at h
  ·cases h
  injection h with h
  subst h
  simp only[Bool.and_eq_true,List.all_eq_true] at hb
  have hrl:=fR hb.1
  have h12:=(bE (aV hs).1).methods
  refine⟨1000001,?_⟩
  unfold aL7
  refine fJ (L:=aAE m l 1000001) (n:=m.2.2.2.1.length) (st:=fun k=>((cW m).take k,(k:Int),())) (fun k rec hk=>?_) (fun rec=>?_) 1000001 (by omega)
  ·have hc:cof m (k:Int)=some (ofB m (k:Int),()):=by unfold cof;rw[(aV hs).1];rfl
   have hx:(cW m)[k]? =some (ofB m (k:Int)):=by
    unfold cW ints
    simp[hk]
   rw[aAE]
   simp only[dlt hk,cond_true,hc,Option.bind_some,List.length_cons,List.length_nil,iM (show ((cW m).take k).length+(0+1)<549755813888 by rw[List.length_take];omega),aN hk (show _≤lenMax by simp only[lenMax];omega)]
   rw[List.take_add_one,hx]
   rfl
  ·have e:(cW m).take m.2.2.2.1.length=cW m:=by rw[←aCb,List.take_length]
   have e0:decide ((0:Int)≤(m.2.2.2.1.length:Int))=true:=decide_eq_true (by omega)
   have e1:decide ((m.2.2.2.1.length:Int)<(rowMax:Int))=true:=decide_eq_true (by simp only[rowMax];omega)
   have e2:decide ((m.2.2.2.1.length:Int)≤(m.2.2.2.1.length:Int))=true:=decide_eq_true (by omega)
   rw[aAE]
   simp only[bB,cond_false,e0,e1,e2,Bool.and_self,cond_true,e,hr,Option.bind_some]
   exact aET hs hl (by omega) (s1:=(cW m,_,())) rfl hok hrl (fun p hp=>⟨fR (hb.2 p hp).1,fun f hf=>(hb.2 p hp).2 f hf⟩) r4.1 [] _ 1000001 rfl (by omega) (by simp)
theorem aHc {m:Im} {r1:List Int×Int×Unit} (hs:aF m=true):∀(l pre:List Int) (s h:Int) (F:Nat),m.2.2.2.2.1=pre++l→l.length<F→
  aA (aAB m r1) F (s,h,(pre.length:Int),())=some ((dH m r1.1 l s h).1,IntKind.i64.wrap ((m.2.1.length:Int)+(dH m r1.1 l s h).2),0,())
 | [],pre,s,h,F,hx,hF=>by
  obtain⟨F,rfl⟩:∃n,F=n+1:=⟨F - 1,by simp at hF;omega⟩
  rw[List.append_nil] at hx
  rw[aD,aAB]
  simp only[hx,bB,cond_false,dH]
 | f::l,pre,s,h,F,hx,hF=>by
  obtain⟨F,rfl⟩:∃n,F=n+1:=⟨F - 1,by simp at hF;omega⟩
  have hk:pre.length<m.2.2.2.2.1.length:=by rw[hx,List.length_append];simp
  have hget:m.2.2.2.2.1.getD pre.length 0=f:=by rw[hx];simp
  obtain⟨f0,f1⟩:=aP.1 (aJJ hs f (by rw[hx];simp))
  have hen:m.2.2.2.2.1.length≤12:=by
   have:=(bE (aV hs).1).entries
   simp only[eO,Bool.and_eq_true,decide_eq_true_eq] at this
   omega
  have hw:=aN hk (show _≤lenMax by simp only[lenMax];omega)
  have ih:=fun s' h'=>aHc (r1:=r1) hs l (pre++[f]) s' h' F (by rw[hx,List.append_assoc];rfl) (by simp only[List.length_cons] at hF;omega)
  simp only[List.length_append,List.length_cons,List.length_nil,Nat.zero_add] at ih
  have g0:decide (f≥0)=true:=decide_eq_true f0
  rw[aD,aAB]
  simp only[dlt hk,dge,Bool.and_self,cond_true,Int.toNat_natCast,hget,hw,f0,f1,decide_true,Option.bind_some,dH,Bool.true_and]
  cases decide (f<(r1.1.length:Int)) <;> simp only[cond_true,cond_false] <;> exact ih _ _
theorem aOL (m:Im) (l:List (List Sh)) (r) (h:jB m l=some r):∃k,aMn k m l=some r:=by
 unfold jB at h
 cases hs:aF m <;> simp only[hs,cond_true,cond_false] at h
 ·cases h
 cases hd:kX m l with
 | none=>rw[hd] at h;cases h
 | some r1=>
  rw[hd] at h
  simp only[Option.bind_some] at h
  injection h with h
  subst h
  refine⟨1000,?_⟩
  have hen:m.2.2.2.2.1.length≤12:=by
   have:=(bE (aV hs).1).entries
   simp only[eO,Bool.and_eq_true,decide_eq_true_eq] at this
   omega
  unfold aMn aAc
  rw[hd]
  simp only[Option.bind_some]
  cases r1.2.1 !=0 <;> simp only[cond_true,cond_false]
  exact aHc hs m.2.2.2.2.1 [] 0 0 1000 rfl (by omega)
end Go.Pli
