/- Who calls whom: the printed functions come to what is told in plain Lean. -/
import Derived.Test.YtcofionghgmldaaGreatPliNt
import Derived.Test.YtcofionghgmldaaGreatPliL5E
namespace Go.Pli
open Go Go.PM
theorem wI {α σ R:Type} {L:σ→(σ→Option R)→Option R} {n B:Nat} {st:Nat→List α→σ} {f:Nat→List α} {fin:List α→Option R} (hB:∀k,k<n→(f k).length≤B)
  (h1:∀(k:Nat) (out:List α) (rec),k<n→out.length≤B*n→L (st k out) rec=rec (st (k+1) (out++f k)))
  (h2:∀out rec,out.length≤B*n→L (st n out) rec=fin out):∀F:Nat,n<F→aD L F (st 0 [])=fin (((List.range n).map f).flatten):=by
 have hlen:∀k,k≤n→(((List.range k).map f).flatten).length≤B*k:=by
  intro k
  induction k with
  | zero=>intro _;simp
  | succ k ih=>
   intro hk;have:=ih (by omega);have hb:=hB k (by omega);rw[List.range_succ,pJ,hJ,aS,Nat.mul_succ];simp only[dM,List.map_nil,gO,lT,bZ];omega
 have key:∀(j k F:Nat),k+j=n→j<F→aD L F (st k (((List.range k).map f).flatten))=fin (((List.range n).map f).flatten):=by
  intro j
  induction j with
  | zero=>
   intro k F hk hF;obtain⟨F,rfl⟩:∃m,F=m+1:=⟨F - 1,by omega⟩;have:k=n:=by omega
   subst this;rw[aZ,h2 _ _ (hlen k (bL _))]
  | succ j ih=>
   intro k F hk hF;obtain⟨F,rfl⟩:∃m,F=m+1:=⟨F - 1,by omega⟩;have hb:B*k≤B*n:=Nat.mul_le_mul_left _ (by omega);rw[aZ,h1 k _ _ (by omega) (pI (hlen k (by omega)) hb)];have:=ih (k+1) F (by omega) (by omega);rw[List.range_succ,pJ,hJ] at this;simpa using this
 intro F hF;have:=key n 0 F (by omega) hF;simpa using this
theorem aDV (p:Int→Bool):∀n:Nat,((List.range n).map fun k:Nat=>bif p (k:Int) then[(k:Int)] else[]).flatten=(ints n).filter p
 | 0=>rfl
 | n+1=>by
  have ih:=aDV p n;unfold ints at ih⊢;rw[List.range_succ,pJ,hJ,ih,pJ,List.filter_append];congr 1;cases h:p (n:Int) <;> simp[h]
theorem aKo {α β:Type} (g:α→β) (z:α) (l:List α):(List.range l.length).map (fun k=>g (l.getD k z))=l.map g:=by
 apply tC (by simp);intro i h1 h2;have:i<l.length:=by simpa using h1
 simp[this]
theorem aXQ {α β:Type} (g:α→β) (l:List α):(l.map fun k=>[g k]).flatten=l.map g:=by
 induction l with
 | nil=>rfl
 | cons x l ih=>rw[dM,gO,ih];rfl
theorem hY (n:Nat):(ints n).length=n:=by simp[ints]
theorem aG8 {n k:Nat} (h:k<n) (z:Int):(ints n).getD k z=(k:Int):=by simp[ints,h]
theorem gH {n:Nat} {x:Int}:x∈ints n↔0≤x∧x<(n:Int):=by
 simp only[ints,gE,kY];constructor
 ·rintro ⟨k,hk,rfl⟩;omega
 ·rintro ⟨h0,h1⟩;exact⟨x.toNat,by omega,by omega⟩
theorem aH7 (m:Im) (c:Int):(nV m c).length≤m.1.length:=by
 unfold nV;exact pI (aAJ _ _) (by simp[ints])
theorem mD {n:Nat} (h:n<549755813888):decide (n<rowMax)=true:=aH h
theorem aZX (m:Im) (c:Int) (r) (h:aAy m c=some r):∃k,aOP k m c=some r:=by
 unfold aAy at h;cases hi:bI m <;> simp only[hi,aA,aB] at h
 ·cases h
 injection h with h
 subst h;have h8:=(cH hi).classes;refine⟨m.1.length+1,?_⟩;unfold aOP;have:=wI (L:=aEH m c) (n:=m.1.length) (B:=1) (st:=fun k out=>(out,(k:Int),())) (f:=fun k=>bif dL m.1 (k:Int) c then[(k:Int)] else[]) (fin:=fun out=>some (idL out,())) (fun k _=>by cases dL m.1 (k:Int) c <;> simp)
  (fun k out rec hk ho=>by
   rw[aEH];simp only[dlt hk,aA,aJ,bJ,mD (show out.length+(0+1)<549755813888 by omega),aQ hk (by simp only[lenMax];omega)];cases dL m.1 (k:Int) c <;> simp)
  (fun out rec _=>by rw[aEH];simp only[aU,aB]) (m.1.length+1) (by omega)
 rw[aDV (fun n=>dL m.1 n c)] at this;exact this
theorem bAg (m:Im) (n c:Int) (_:0≤n):(cP m.1 n).contains c=dL m.1 n c:=by
 unfold dL cP;by_cases hn:n<(m.1.length:Int)
 ·simp only[hn,aK,aA,cZ];cases hc:(cI m.1 n).contains c
  ·simp
  ·have hm:c∈cI m.1 n:=by simpa using hc
   have:=qV (n.toNat+1) n (by omega) hm;simp[this.1,show c<(m.1.length:Int) by omega]
 ·simp[hn]
theorem aSJ {m:Im} (hi:bI m=true) (n:Int):lF m.1 n=some (cP m.1 n,()):=by
 have h8:=(cH hi).classes;have hok:okL m.1=true:=by unfold okL;simp;omega
 unfold lF;rw[hok];rfl
theorem aFS {l:List Int} {x:Int} (h:l.length<1000000000):rin l x=some (l.contains x,()):=by
 unfold rin;rw[aH (show l.length<9223372036854775807 by omega)];rfl
theorem aTG (m:Im) (c:Int) (r) (h:zA m c=some r):∃k,aKX k m c=some r:=by
 unfold zA at h;cases hi:bI m <;> simp only[hi,aA,aB] at h
 ·cases h
 injection h with h
 subst h;have h8:=(cH hi).classes;refine⟨m.1.length+1,?_⟩;unfold aKX;have:=wI (L:=aDp m c) (n:=m.1.length) (B:=1) (st:=fun k out=>(out,(k:Int),())) (f:=fun k=>bif dL m.1 (k:Int) c then[(k:Int)] else[]) (fin:=fun out=>some (out,())) (fun k _=>by cases dL m.1 (k:Int) c <;> simp)
  (fun k out rec hk ho=>by
   have hl:=aKq (l:=m.1) (c:=(k:Int));rw[aDp];simp only[dlt hk,aA,aSJ hi,aF,aFS (show (cP m.1 (k:Int)).length<1000000000 by omega),bAg m (k:Int) c (by omega),aJ,bJ,mD (show out.length+(0+1)<549755813888 by omega),aQ hk (by simp only[lenMax];omega)];cases dL m.1 (k:Int) c <;> simp)
  (fun out rec _=>by rw[aDp];simp only[aU,aB]) (m.1.length+1) (by omega)
 rw[aDV (fun n=>dL m.1 n c)] at this;exact this
theorem aN5 (m:Im) (c n:Int):aN7 m c n=some (eS m c n):=by
 unfold aN7 eS jH bF;by_cases h1:c<0
 ·have:¬0≤c:=by omega
  simp[h1,this]
 ·have h1':0≤c:=by omega
  by_cases h2:c≥(m.1.length:Int)
  ·have:¬c<(m.1.length:Int):=by omega
   simp[h1,h2,this]
  ·have h2':c<(m.1.length:Int):=by omega
   by_cases h3:n<0
   ·have:¬0≤n:=by omega
    simp[h1,h2,h3,this]
   ·have h3':0≤n:=by omega
    by_cases h4:n≥((m.1.getD c.toNat zCl).2.2.1.length:Int)
    ·have:¬n<((m.1.getD c.toNat zCl).2.2.1.length:Int):=by omega
     simp only[h1,h2,h3,h4,h1',h2',h3',this,aK,bB,aA,aB,aG,vE]
    ·have h4':n<((m.1.getD c.toNat zCl).2.2.1.length:Int):=by omega
     simp only[h1,h2,h3,h4,h1',h2',h3',h4',aK,bB,aA,aB,aG]
theorem aS9 (m:Im) (c n:Int):aTa m c n=some (aBp m c n):=aN5 m c n
theorem aRi (m:Im) (l:List Int) (n:Int):((List.range l.length).map fun k=>bif (eS m (l.getD k 0) n).2.1 then[(eS m (l.getD k 0) n).1] else[]).flatten=tK m l n:=by
 rw[aKo (fun c=>bif (eS m c n).2.1 then[(eS m c n).1] else[]) 0 l];unfold tK
 induction l with
 | nil=>rfl
 | cons c l ih=>
  rw[dM,gO,ih,List.filter_cons];cases h:(eS m c n).2.1 <;> simp
theorem aRj (m:Im) (l:List Int) (n:Int):(tK m l n).length≤l.length:=by
 unfold tK;rw[sZ];exact aAJ _ _
theorem aIW {m:Im} {i:Ins} {L:List Int×Int×Unit→(List Int×Int×Unit→Option (List Int×Unit))→Option (List Int×Unit)} (l:List Int) (hl:l.length<1000)
  (hL:∀s rec,L s rec=(bif decide (s.2.1<(l.length:Int)) then
  bif decide (0≤s.2.1)&&decide (s.2.1<l.length) then
   let r4:=eS m (l.getD s.2.1.toNat 0) i.2.2.1
   bif r4.2.1 then
    bif decide (s.1.length+[r4.1].length<rowMax) then
     rec (s.1++[r4.1],IntKind.i64.wrap (s.2.1+1),())
    else none
   else rec (s.1,IntKind.i64.wrap (s.2.1+1),())
  else none
 else some (s.1,()))):aD L (l.length+1) ([],0,())=some (tK m l i.2.2.1,()):=by
 have:=wI (L:=L) (n:=l.length) (B:=1) (st:=fun k out=>(out,(k:Int),())) (f:=fun k=>bif (eS m (l.getD k 0) i.2.2.1).2.1 then[(eS m (l.getD k 0) i.2.2.1).1] else[]) (fin:=fun out=>some (out,())) (fun k _=>by cases (eS m (l.getD k 0) i.2.2.1).2.1 <;> simp)
  (fun k out rec hk ho=>by
   rw[hL];simp only[dlt hk,dge,aG,aA,aL,aJ,bJ,mD (show out.length+(0+1)<549755813888 by omega),aQ hk (by simp only[lenMax];omega)];cases (eS m (l.getD k 0) i.2.2.1).2.1 <;> simp)
  (fun out rec _=>by rw[hL];simp only[aU,aB]) (l.length+1) (by omega)
 rw[aRi] at this;exact this
theorem aYN (m:Im) (i:Ins) (r) (h:sP m i=some r):∃k,aN4 k m i=some r:=by
 unfold sP at h;cases hi:bI m <;> simp only[hi,aA,aB] at h
 ·cases h
 injection h with h
 subst h;have h8:=(cH hi).classes;have hl:=aH7 m i.2.1;refine⟨(nV m i.2.1).length+1,?_⟩;unfold aN4 cT;have hb:aAy m i.2.1=some (nV m i.2.1,()):=by unfold aAy;rw[hi];rfl
 cases h1:i.1==31 <;> simp only[aA,aB]
 ·cases h2:i.1==32 <;> simp only[aA,aB];rw[hb];simp only[aF];exact aIW (nV m i.2.1) (by omega) (fun s rec=>rfl)
 ·rfl
theorem aSN (m:Im) (i:Ins) (r) (h:rQ m i=some r):∃k,aKt k m i=some r:=by
 unfold rQ at h;cases hi:bI m <;> simp only[hi,aA,aB] at h
 ·cases h
 injection h with h
 subst h;have h8:=(cH hi).classes;have hl:=aH7 m i.2.1;refine⟨(nV m i.2.1).length+1,?_⟩;unfold aKt cT;have hb:zA m i.2.1=some (nV m i.2.1,()):=by unfold zA;rw[hi];rfl
 cases h1:i.1==31 <;> simp only[aA,aB,aF]
 ·cases h2:i.1==32 <;> simp only[aA,aB];rw[hb];simp only[aF];exact aIW (nV m i.2.1) (by omega) (fun s rec=>rfl)
 ·have h2:(i.1==32)=false:=by
   have:i.1=31:=by simpa using h1
   rw[this];rfl
  have hroom:decide (([]:List Int).length+[i.2.1].length<rowMax)=true:=mD (by simp);rw[h2,hroom];rfl
theorem yA {m:Im} (hi:bI m=true) (i:Ins):(cT m i).length≤8:=by
 have h8:=(cH hi).classes;have hl:=aH7 m i.2.1;have hs:=aRj m (nV m i.2.1) i.2.2.1;unfold cT;cases i.1==31 <;> simp only[aA,aB]
 ·cases i.1==32 <;> simp only[aA,aB]
  ·simp
  ·omega
 ·simp
theorem bR {m:Im} {f:Int}:inM m f=true↔0≤f∧f<(m.2.2.2.1.length:Int):=by
 unfold inM sin nM;simp
theorem aSZ (m:Im) (f g:Int) (r) (h:yU m f g=some r):∃k,aKA k m f g=some r:=by
 unfold yU at h;cases hi:bI m&&inM m f <;> simp only[hi,aA,aB] at h
 ·cases h
 injection h with h
 subst h;simp only[aC] at hi;obtain⟨hi,hf⟩:=hi;obtain⟨h0,h1⟩:=bR.1 hf;have hx:=(jW ((cH hi).mts _ (qB h0 h1))).2.2.2.1.1;have hd:m.2.2.2.1.getD f.toNat zMt=aE m f:=rfl;have hr:(decide (0≤f)&&decide (f<(m.2.2.2.1.length:Int)))=true:=by simp[h0,h1]
 refine⟨(aE m f).2.2.2.1.length+1,?_⟩;unfold aKA kF;have:=gV (L:=aC6 m f g) (xs:=(aE m f).2.2.2.1) (st:=fun k=>((k:Int),())) (p:=fun i=> !(cT m i).contains g) (ex:=some (true,())) (fin:=some (false,()))
  (fun k x rec hk hlt=>by
   have ht:rQ m x=some (cT m x,()):=by unfold rQ;rw[hi];rfl
   have htl:=yA hi x;rw[aC6];simp only[hd,hr,dlt hlt,dge,aG,aA,aL,getD_some hk,ht,aF,aFS (show (cT m x).length<1000000000 by omega),aQ hlt (by simp only[lenMax];omega)];cases (cT m x).contains g <;> rfl)
  (fun rec=>by rw[aC6];simp only[hd,hr,aU,aA,aB]) ((aE m f).2.2.2.1.length+1) (by omega)
 refine this.trans ?_;rw[←List.not_any_eq_all_not];cases (aE m f).2.2.2.1.any fun i=>(cT m i).contains g <;> rfl
theorem aSY (m:Im) (r) (h:vX m=some r):∃k,aKz k m=some r:=by
 unfold vX at h;cases hi:bI m <;> simp only[hi,aA,aB] at h
 ·cases h
 injection h with h
 subst h;have h12:=(cH hi).methods;refine⟨m.2.2.2.1.length+1,?_⟩;unfold aKz;have:=wI (L:=aC4 m (m.2.2.2.1.length+1)) (n:=m.2.2.2.1.length) (B:=1) (st:=fun k out=>(out,(k:Int),())) (f:=fun k=>[(ints m.2.2.2.1.length).filter fun g=>kF m (k:Int) g]) (fin:=fun out=>some (out,())) (fun k _=>by simp)
  (fun k out rec hk ho=>by
   rw[aC4];simp only[dlt hk,aA];have hin:inM m (k:Int)=true:=bR.2 ⟨by omega,by omega⟩;have:=wI (L:=aC5 m (out,(k:Int),()) rec) (n:=m.2.2.2.1.length) (B:=1) (st:=fun j l=>(l,(j:Int),())) (f:=fun j=>bif kF m (k:Int) (j:Int) then[(j:Int)] else[]) (fin:=fun l=>rec (out++[l],((k+1:Nat):Int),())) (fun j _=>by cases kF m (k:Int) (j:Int) <;> simp)
    (fun j l rec2 hj hl=>by
     have hc:yU m (k:Int) (j:Int)=some (kF m (k:Int) (j:Int),()):=by unfold yU;rw[hi,hin];rfl
     rw[aC5];simp only[dlt hj,aA,hc,aF,aJ,bJ,mD (show l.length+(0+1)<549755813888 by omega),aQ hj (by simp only[lenMax];omega)];cases kF m (k:Int) (j:Int) <;> simp)
    (fun l rec2 _=>by
     rw[aC5];simp only[aU,aB,aJ,bJ,mD (show out.length+(0+1)<549755813888 by omega),aG,aA,aQ hk (show _≤lenMax by simp only[lenMax];omega)]) (m.2.2.2.1.length+1) (by omega)
   rw[aDV (fun g=>kF m (k:Int) g)] at this;exact this)
  (fun out rec _=>by rw[aC4];simp only[aU,aB]) (m.2.2.2.1.length+1) (by omega)
 rw[aXQ] at this;refine this.trans ?_;unfold aR;rw[show ints m.2.2.2.1.length=(List.range m.2.2.2.1.length).map fun k:Nat=>(k:Int) from rfl,List.map_map];rfl
end Go.Pli

namespace Go.Pli
open Go Go.PM
theorem lK {σ R:Type} {L:σ→(σ→Option R)→Option R} {n:Nat} {st:Nat→σ} {fin:Option R}
  (h1:∀(k:Nat) (rec),k<n→L (st k) rec=rec (st (k+1))) (h2:∀rec,L (st n) rec=fin):∀F:Nat,n<F→aD L F (st 0)=fin:=by
 have key:∀(j k F:Nat),k+j=n→j<F→aD L F (st k)=fin:=by
  intro j
  induction j with
  | zero=>
   intro k F hk hF;obtain⟨F,rfl⟩:∃m,F=m+1:=⟨F - 1,by omega⟩;have:k=n:=by omega
   subst this;rw[aZ,h2]
  | succ j ih=>
   intro k F hk hF;obtain⟨F,rfl⟩:∃m,F=m+1:=⟨F - 1,by omega⟩;rw[aZ,h1 k _ (by omega)];exact ih (k+1) F (by omega) (by omega)
 intro F hF;exact key n 0 F (by omega) hF
theorem iL {α:Type} {l:List α} {n:Nat} {z:α} (h:l.length≤n):l.getD n z=z:=by simp[eK,h]
theorem gB {α:Type} {l:List α} (h:l.length<1000000):okL l=true:=by simpa[okL] using h
theorem aO2 {a b:Nat} (h:a<b):Nat.blt a b=true:=by rw[iX];exact h
theorem aOj {α:Type} (b:Bool) (x y:α):(bif b then some x else some y)=some (bif b then x else y):=by cases b <;> rfl
theorem aFj {α:Type} (l:List (List α)) {k:Nat} (hk:k<l.length):(l.take (k+1)).flatten=(l.take k).flatten++l.getD k []:=by
 rw[oB,hJ];congr 1;simp[hk]
theorem aIX {α:Type} (l:List (List α)) (k:Nat):(l.take k).flatten.length≤l.flatten.length:=by
 have:l.flatten=(l.take k).flatten++(l.drop k).flatten:=by rw[←hJ,xL]
 rw[this,aS];exact Nat.le_add_right _ _
theorem aW7 (s:Unit) (n:Int) (r) (h:aAi s n=some r):aMV s n=some r:=by
 unfold aAi at h;cases hb:decide (0≤n)&&Nat.blt n.toNat 1000000000 <;> simp only[hb,aA,aB] at h
 ·cases h
 injection h with h
 subst h;simp only[aC,aO,iX] at hb;obtain⟨h0,h1⟩:=hb;have h0':¬n<0:=by omega
 have e1:IntKind.i64.wrap ((0:Int) - (([]:List Tp).length:Int))=0:=by simp;rfl
 have e2:IntKind.i64.wrap (n - 0)=n:=by rw[bV] <;> omega
 unfold aMV;rw[e1,e2];by_cases hp:n>0
 ·have hp':0<n:=hp;have hm:n<(rowMax:Int):=by simp only[rowMax];omega
  have:0≤max n 0:=by omega
  simp[h0',hp',hm,this]
 ·simp[h0',hp]
theorem aZh (l:List (List Tp)) (r) (h:qT l=some r):∃k,aOk k l=some r:=by
 unfold qT at h;cases hb:Nat.blt l.flatten.length 1000000000&&okL l <;> simp only[hb,aA,aB] at h
 ·cases h
 injection h with h
 subst h;simp only[aC,iX] at hb;obtain⟨hf,hl⟩:=hb;have hl:=iG hl;refine⟨l.length+1,?_⟩;unfold aOk;refine lK (n:=l.length) (st:=fun k=>(((l.take k).flatten.length:Int),(k:Int),())) (fin:=some (l.flatten,())) (fun k rec hk=>?_) (fun rec=>?_) (l.length+1) (by omega)
 ·unfold aHV;have hw:IntKind.i64.wrap (((l.take k).flatten.length:Int)+((l.getD k ([]:List Tp)).length:Int))=((l.take (k+1)).flatten.length:Int):=by
   have e:=aFj l hk;have:=aIX l (k+1);rw[e,aS] at this⊢;rw[bV] <;> omega
  have hn:¬((l.take (k+1)).flatten.length:Int)<0:=by omega
  simp only[dlt hk,dge,aG,aA,aL,hw,hn,bB,aB,aQ hk (show l.length≤lenMax by simp only[lenMax];omega)]
 ·unfold aHV;have hg:aAi () ((l.take l.length).flatten.length:Int)=some ([],()):=by
   unfold aAi;rw[iD];have h1:(0:Int)≤(l.flatten.length:Int):=by omega
   have h2:Nat.blt (l.flatten.length:Int).toNat 1000000000=true:=by rw[iX];omega
   simp only[h1,h2,aK,aG,aA]
  simp only[aU,aB,hg,aF];have:=lK (L:=aEz l) (n:=l.length) (st:=fun k=>((l.take k).flatten,(k:Int),())) (fin:=some (l.flatten,())) (fun k rec hk=>by
   unfold aEz;have hm:decide ((l.take k).flatten.length+(l.getD k ([]:List Tp)).length<rowMax)=true:=by
    have e:=aFj l hk;have:=aIX l (k+1);rw[e,aS] at this;exact aH (by simp only[rowMax];omega)
   simp only[dlt hk,dge,aG,aA,aL,hm,aFj l hk,aQ hk (show l.length≤lenMax by simp only[lenMax];omega)])
   (fun rec=>by
    unfold aEz;simp only[aU,aB,iD]) (l.length+1) (by omega)
  simpa using this
theorem aEy {l:List (List Tp)} (h1:l.flatten.length<1000000000) (h2:l.length<1000000):qT l=some (l.flatten,()):=by
 unfold qT;rw[aO2 h1,gB h2];rfl
theorem aWn (s:List Int) (v:Int) (h:aWq s v):∃k,aWp k s v=some (aD0 s v,()):=by
 refine⟨s.length+1,uE (st:=fun k=>((k:Int),())) (p:=fun n=>v==n) (fun k x rec hk hlt=>?_) (fun rec=>?_) _ (fM _)⟩
 ·unfold aHf;simp only[dlt hlt,dge,aG,aA,aL,getD_some hk,aQ hlt h.1.1]
 ·unfold aHf;simp only[aU,aB]
theorem aY6 (s:List Int) (v:Int) (_:aY7 s v):aOd s v=some (uQ s v,()):=by
 unfold aOd aD0 uQ;rw[sE,List.contains_eq_any_beq]
theorem aZF (s:List Iq):aOw s=some (idL s,()):=by simp[aOw,idL]
theorem aZD (s:List (List Sh)):aOv s=some (idL s,()):=by simp[aOv,idL]
theorem aYK (m:Im) (c:Int) (r) (h:cup m c=some r):aN2 m c=some r:=by
 unfold cup at h;cases hb:sin c (m.1.length:Int) <;> simp only[hb,aA,aB] at h
 ·cases h
 injection h with h
 subst h;simp only[sin,aC,aO] at hb;have h1:¬c<0:=by omega
 have h2:¬c≥(m.1.length:Int):=by omega
 unfold aN2 kup bX;simp only[hb.1,hb.2,h1,h2,aK,bB,aG,iR,aA];cases decide ((m.1.getD c.toNat zCl).1≥c) <;> rfl
theorem aXZ {m:Im} {c:Int} (h0:0≤c) (h1:c<(m.1.length:Int)):eL m c=eL m (kup m.1 c)++(bF m c).2.1:=by
 have hk:=mK (l:=m.1) h0;have h2:kup m.1 c<(m.1.length:Int):=by omega
 unfold eL cP;simp only[h1,h2,aK,aA];rw[gM h0];simp
theorem aNC {m:Im} {c:Int} (h:c<0):eL m c=[]:=by
 unfold eL cP;rw[fG h];cases decide (c<(m.1.length:Int)) <;> rfl
theorem aOF {m:Im} (hi:bI m=true) {c:Int}:(bF m c).2.1.length≤8:=by
 have hf:=cH hi;unfold bF;by_cases hc:c.toNat<m.1.length
 ·have:=hf.cls (m.1.getD c.toNat zCl) (by simp[hc]);simp only[iclass,dH,aC,aO] at this;have:=this.2.2.1.1;omega
 ·have:m.1.getD c.toNat zCl=zCl:=iL (by omega);rw[this];decide
theorem aOL {m:Im} (hi:bI m=true):∀(n:Nat) (c:Int) (out:List Tp),c.toNat<n→c<(m.1.length:Int)→out.length+8*(c.toNat+1)≤1000→
  aD (aEG m) (n+1) (c,out,())=some (eL m c++out,())
 | 0,_,_,h,_,_=>by omega
 | n+1,c,out,h,hc,ho=>by
  rw[aZ,aEG];by_cases h0:c<0
  ·have:¬c≥0:=by omega
   simp only[this,bB,aB,aNC h0,oC]
  ·have h0':c≥0:=by omega
   have h0'':0≤c:=by omega
   have hk:=mK (l:=m.1) h0'';have h8:=aOF hi (c:=c);have hcat:qT [(m.1.getD c.toNat zCl).2.1,out]=some ((bF m c).2.1++out,()):=by
    rw[aEy]
    ·simp[bF]
    ·simp only[gO,lT,bZ,aS];unfold bF at h8;omega
    ·simp
   have hup:cup m c=some (kup m.1 c,()):=by simp[cup,sin,h0'',hc]
   simp only[h0',hc,aK,aG,aA,hcat,hup,aF];rw[aXZ h0'' hc,bG];by_cases hn:kup m.1 c<0
   ·rw[aZ,aEG];have:¬kup m.1 c≥0:=by omega
    simp only[this,bB,aB,aNC hn,oC]
   ·exact aOL hi n (kup m.1 c) _ (by omega) (by omega) (by rw[aS];omega)
theorem aZV (m:Im) (c:Int) (r) (h:sQ m c=some r):∃k,aON k m c=some r:=by
 unfold sQ at h;cases hi:bI m <;> simp only[hi,aA,aB] at h
 ·cases h
 injection h with h
 subst h;have h8:=(cH hi).classes;refine⟨c.toNat+1+1,?_⟩;unfold aON;by_cases hc:c≥(m.1.length:Int)
 ·have:¬c<(m.1.length:Int):=by omega
  simp[hc,eL,cP,this]
 ·have hc':c<(m.1.length:Int):=by omega
  simp only[hc,bB,aB];rw[aOL hi (c.toNat+1) c [] (by omega) hc' (by simp only[bJ];omega),bZ]
theorem aEm {m:Im} (hi:bI m=true) (c:Int):(eL m c).length≤8*8:=by
 have h8:=(cH hi).classes;have hl:(cP m.1 c).length≤8:=by
  unfold cP;by_cases hc:c<(m.1.length:Int)
  ·have:=xF m.1 (c.toNat+1) c (by omega);by_cases h0:0≤c
   ·simp[hc];omega
   ·simp[hc,fG (show c<0 by omega)]
  ·simp[hc]
 unfold eL;have key:∀l:List Int,((l.map fun s=>(bF m s).2.1).flatten).length≤8*l.length:=by
  intro l
  induction l with
  | nil=>simp
  | cons x l ih=>
   have:=aOF hi (c:=x);simp only[dM,gO,aS,aJ];omega
 have:=key (cP m.1 c).reverse;rw[List.length_reverse] at this;omega
theorem aYP (m:Im) (c:Int) (r) (h:aAv m c=some r):aN8 m c=some r:=by
 unfold aAv at h;cases hi:bI m <;> simp only[hi,aA,aB] at h
 ·cases h
 injection h with h
 subst h;have hl:=aEm hi c;unfold aN8 sQ tL;rw[hi];simp only[aA,aF];rw[bV (by omega) (by omega)];simp
theorem aEf {α:Type} (a b:List α) (n:Nat) (z:α):(a++b).getD n z=if n<a.length then a.getD n z else b.getD (n - a.length) z:=by
 by_cases h:n<a.length <;> simp[eK,List.getElem?_append,h]
theorem aZz (x:Mt) (n:Int) (r) (h:xD x n=some r):aOr x n=some r:=by
 unfold xD at h;cases hb:okL x.1&&okL x.2.1 <;> simp only[hb,aA,aB] at h
 ·cases h
 injection h with h
 subst h;simp only[aC] at hb;have h1:=iG hb.1;have h2:=iG hb.2;unfold aOr oV;by_cases h0:n<0
 ·simp[h0]
 ·rw[bV (by omega) (by omega)];by_cases h3:n≥(x.1.length:Int)+(x.2.1.length:Int)
  ·have:(x.1++x.2.1).length≤n.toNat:=by rw[aS];omega
   rw[iL this];simp only[h0,h3,aK,bB,aA,aB]
  ·simp only[h0,h3,bB,aB];rw[aEf];by_cases h4:n<(x.1.length:Int)
   ·have h5:n.toNat<x.1.length:=by omega
    have h6:0≤n:=by omega
    simp[h4,h5,h6]
   ·have h5:¬n.toNat<x.1.length:=by omega
    have h6:0≤n - (x.1.length:Int):=by omega
    have h7:n - (x.1.length:Int)<(x.2.1.length:Int):=by omega
    rw[bV (by omega) (by omega)];have h8:(n - (x.1.length:Int)).toNat=n.toNat - x.1.length:=by omega
    simp only[h4,h5,h6,h7,aK,bB,aG,aA,aB,cU,h8]
theorem aMv (l:List Cl) (b:Tp):∀(n:Nat) (c:Int),c.toNat<n→aD (aDR l b) (n+1) (c,())=
  some (match (cI l c).find? fun c=>dL l b.2.1 c with | some c=>(3,c,()) | none=>zTp,())
 | 0,_,h=>by omega
 | n+1,c,h=>by
  rw[aZ,aDR];by_cases hc:c<0
  ·have h0:¬c≥0:=by omega
   rw[fG hc];simp only[h0,bB,aB,List.find?_nil]
  ·have h0:c≥0:=by omega
   have hlt:=mK (l:=l) (c:=c) (by omega);rw[gM (by omega)];simp only[h0,aK,aA,xO];cases hb:dL l b.2.1 c
   ·simp only[aB];by_cases hk:kup l c<0
    ·rw[fG hk,aZ,aDR];have:¬kup l c≥0:=by omega
     simp only[this,bB,aB,List.find?_nil]
    ·exact aMv l b n (kup l c) (by omega)
   ·simp only[aA]
theorem aVw (l:List Cl) (a b:Tp) (r) (h:wM l a b=some r):∃k,aMp k l a b=some r:=by
 unfold wM at h;injection h with h
 subst h;refine⟨(kup l a.2.1).toNat+1+1,?_⟩;unfold aMp gD;rw[aMv l b ((kup l a.2.1).toNat+1) _ (by omega)];cases cN l a b <;> cases cN l b a <;> cases a.1 !=3 <;> cases b.1 !=3 <;> rfl
theorem aUs (o:Int):aLz o=some (oR o,()):=by
 unfold aLz oR;cases decide (o≥7) <;> rfl
theorem aXA (o:Int):aNi o=some (fO o):=by
 unfold aNi fO iM kT aAs;simp only[aOj]
theorem aX4 (m:Im) (o:Int) (t w:Tp):aND m o t w=some (eX m o t w,()):=by
 unfold aND eX;cases w.1==0 <;> cases w.1==4 <;> cases jY t <;> cases o !=34 <;> rfl
theorem aXJ (i:Ins) (pc:Int):aNl i pc=some (eV i pc,()):=by
 unfold aNl eV;cases i.1==18 <;> cases i.1==19 <;> cases i.1==33 <;> rfl
theorem aNE {x:Mt} {t:List Tp} (h1:x.1.length<1000000) (h2:t.length≤x.1.length):wV x t=some (mU x t,()):=by
 unfold wV;rw[gB h1,gB (show t.length<1000000 by omega),aH h2];rfl
theorem aX8 (x:Mt) (t:List Tp) (r) (h:wV x t=some r):aNF x t=some r:=by
 unfold wV at h;cases hb:okL x.1&&(okL t&&decide (t.length≤x.1.length)) <;> simp only[hb,aA,aB] at h
 ·cases h
 injection h with h
 subst h;simp only[aC,aO] at hb;have h1:=iG hb.1;have h3:=hb.2.2;have h4:(t.length:Int)≤(x.1.length:Int):=by omega
 have h5:(0:Int)≤(t.length:Int):=by omega
 unfold aNF mU;rw[iD,aEy (by simp only[gO,lT,bZ,aS,fX];omega) (by simp)];simp only[h4,h5,aK,aG,aA,aF,fB,gO,lT,bZ];cases x.2.2.1.1 !=5 <;> rfl
end Go.Pli

namespace Go.Pli
open Go Go.PM
theorem cX {m:Im} (h:aM m=true):bI m=true∧kL m=true:=by simpa[aM] using h
theorem aJF {m:Im} (h:aM m=true):eC m m.2.1=true:=by
 have:=(cX h).2;simp only[kL,aC] at this;exact this.1
theorem yH {m:Im} (h:aM m=true):kG m=true:=by
 have:=(cX h).2;simp only[kL,aC] at this;exact this.2.1
theorem tP {m:Im} (h:aM m=true) {f:Int} (hf:inM m f=true):fD m (aE m f)=true:=by
 have:=(cX h).2;simp only[kL,aC] at this;obtain⟨h0,h1⟩:=bR.1 hf;exact bT.1 this.2.2.1 _ (qB h0 h1)
theorem aRG {m:Im} (h:aM m=true):∀f∈m.2.2.2.2.1,inM m f=true:=by
 have:=(cX h).2;simp only[kL,aC] at this;intro f hf;have he:=bT.1 this.2.2.2 f hf;simp only[kA,aC] at he;exact he.1
theorem gR {m:Im} (h:aM m=true) {f:Int} (hf:inM m f=true):0<aI m f∧aI m f≤64:=by
 have h1:=tP h hf;simp only[fD,aC,aO] at h1;obtain⟨a,b⟩:=bR.1 hf;have h2:=(jW ((cH (cX h).1).mts _ (qB a b))).2.2.2.1.1;unfold aI;have:=h1.2.2.2.1;omega
theorem tQ {m:Im} (h:aM m=true) {f:Int} (hf:inM m f=true):(aE m f).1.length+(aE m f).2.1.length≤8:=by
 have h1:=tP h hf;simp only[fD,aC,aO] at h1;exact h1.2.2.2.2.2.1
theorem aHa {m:Im} {f pc:Int} (hp:sin pc (aI m f:Int)=true):aN m f pc∈(aE m f).2.2.2.1:=by
 simp only[sin,aC,aO] at hp;unfold aI at hp;have:pc.toNat<(aE m f).2.2.2.1.length:=by omega
 unfold aN;rw[getD_some (aX this)];exact dT this
theorem vR {m:Im} (h:aM m=true) {f pc:Int} (hf:inM m f=true) (hp:sin pc (aI m f:Int)=true):cL m (aE m f) (aN m f pc)=true:=by
 have h1:=tP h hf;simp only[fD,aC] at h1;exact bT.1 h1.2.2.2.2.2.2 _ (aHa hp)
theorem aNs {α β:Type} (g:α→List β):∀l:List α,((l.reverse.map g).flatten).length=bK (l.map fun x=>(g x).length)
 | []=>rfl
 | x::l=>by
  have:=aNs g l;simp only[List.reverse_cons,pJ,hJ,aS,dM,List.map_nil,gO,lT,bZ,bK];rw[this];omega
theorem aBW {m:Im} {c:Int} (h:c<(m.1.length:Int)):(eL m c).length=gZ m c:=by
 unfold eL gZ cP;simp only[h,aK,aA];exact aNs _ _
theorem aA3 {m:Im} {c n:Int} (h:jH m c n=true):(bF m c).2.2.1[n.toNat]? =some (eS m c n).1:=by
 unfold eS;rw[h];simp only[jH,aC,aO] at h;have hk:n.toNat<(bF m c).2.2.1.length:=by omega
 simp[hk]
theorem aXD (m:Im) (i:Ins) (f:Int) (r) (h:fof m i f=some r):aNk m i f=some r:=by
 unfold fof at h;cases hb:aM m&&(inM m f&&cL m (aE m f) i) <;> simp only[hb,aA,aB] at h
 ·cases h
 injection h with h
 subst h;simp only[aC] at hb;obtain⟨hs,hf,hi⟩:=hb;have hfit:=(cX hs).1;have hcl:=yH hs;obtain⟨f0,f1⟩:=bR.1 hf;have hloc:=tQ hs hf;have hL:xD (aE m f) i.2.1=some (oV (aE m f) i.2.1,()):=by
  unfold xD;rw[gB (by omega),gB (by omega)];rfl
 have hF:sQ m i.2.1=some (eL m i.2.1,()):=by unfold sQ;rw[hfit];rfl
 unfold aNk gL;have hr:(decide (0≤f)&&decide (f<(m.2.2.2.1.length:Int)))=true:=by simp[f0,f1]
 simp only[hr,aA];have fold:∀g:Int,m.2.2.2.1.getD g.toNat zMt=aE m g:=fun _=>rfl;simp only[fold];cases hp:(fO i.1).2.1 <;> simp only[aA,aB];rcases i with⟨o,a,b,⟨⟩⟩
 simp only at hL hF hp⊢;cases e:o==3
 case true=>simp only[aA,hL,aF,gY]
 simp only[aB];cases e:o==4
 case true=>simp only[aA,hL,aF,gY]
 simp only[aB];cases e:o==22
 case true=>simp only[aA,gY,pF]
 simp only[aB];cases e:o==27
 case true=>
  obtain rfl:o=27:=by simpa using e
  have:sin a (m.1.length:Int)=true∧sin b (gZ m a:Int)=true:=by simpa[cL] using hi
  obtain⟨h1,h2⟩:=this;simp only[sin,aC,aO] at h1 h2;rw[←aBW h1.2] at h2;simp only[aA,hF,aF,h2.1,h2.2,aK,aG,gY,pF]
 simp only[aB];cases e:o==28
 case true=>
  obtain rfl:o=28:=by simpa using e
  have:sin a (m.1.length:Int)=true∧sin b (gZ m a:Int)=true:=by simpa[cL] using hi
  obtain⟨h1,h2⟩:=this;simp only[sin,aC,aO] at h1 h2;rw[←aBW h1.2] at h2;simp only[aA,hF,aF,h2.1,h2.2,aK,aG,pF]
 simp only[aB];cases e:o==29
 case true=>
  obtain rfl:o=29:=by simpa using e
  have:sin a (m.2.1.length:Int)=true:=by simpa[cL] using hi
  simp only[sin,aC,aO] at this;simp only[aA,this.1,this.2,aK,aG,gY]
 simp only[aB];cases e:o==30
 case true=>
  obtain rfl:o=30:=by simpa using e
  have:sin a (m.2.1.length:Int)=true:=by simpa[cL] using hi
  simp only[sin,aC,aO] at this;simp only[aA,this.1,this.2,aK,aG,gY]
 simp only[aB];cases e:o==31
 case true=>
  obtain rfl:o=31:=by simpa using e
  have:sin a (m.2.2.2.1.length:Int)=true:=by simpa[cL] using hi
  have hg:=tQ hs (f:=a) this;simp only[sin,aC,aO] at this;simp only[aA,this.1,this.2,aK,aG,aNE (x:=aE m a) (t:=[]) (by omega) (by simp),aF]
 simp only[aB];cases e:o==32
 case true=>
  obtain rfl:o=32:=by simpa using e
  have:sin a (m.1.length:Int)=true∧sin b ((bF m a).2.2.1.length:Int)=true:=by simpa[cL] using hi
  have hsl:jH m a b=true:=by unfold jH;unfold sin at this;rw[this.1,this.2];rfl
  have h1:=aA3 hsl;simp only[sin,aC,aO] at this;obtain⟨h2,h3⟩:=vN (sU hcl this.1.1 this.1.2) h1;have hg:=tQ hs (f:=(eS m a b).1) (bR.2 h2);simp only[aA,h2.1,h2.2,aK,aG,gY,pF,aNE (x:=aE m (eS m a b).1) (t:=[tR a]) (by omega) (by simp only[aJ,bJ];omega),aF]
 simp only[aB];cases e:o==34
 case true=>simp only[aA,gY,pF]
 simp only[aB];cases e:o==33
 case true=>simp only[aA,gY,aOj];cases (aE m f).2.2.1.1 !=5 <;> rfl
 simp only[aB]
theorem aXE {m:Im} {i:Ins} {f:Int} (hs:aM m=true) (hf:inM m f=true) (hi:cL m (aE m f) i=true):fof m i f=some (gL m (aE m f) i,()):=by
 unfold fof;rw[hs,hf,hi];rfl
theorem dE {α:Type} {P:α→Prop} {b:Bool} {x y:α} (h1:P x) (h2:P y):P (bif b then x else y):=by cases b <;> assumption
def Small (e:Eff):Prop:=e.1.length≤12∧e.2.1.length≤1
theorem aJl {m:Im} (hs:aM m=true) {g:Int} (hg:inM m g=true) {t:List Tp} (ht:t.length≤1):Small (mU (aE m g) t):=by
 have:=tQ hs hg;unfold Small mU;constructor
 ·simp only[aS,fX];omega
 ·cases (aE m g).2.2.1.1 !=5 <;> simp
theorem aRe (o:Int):Small (fO o).1:=by
 unfold fO
 repeat' refine dE (P:=fun z:Eff×Bool×Unit=>Small z.1) ⟨by decide,by decide⟩ ?_
 exact⟨by decide,by decide⟩
theorem aJk {m:Im} (hs:aM m=true) {i:Ins} {f:Int} (hi:cL m (aE m f) i=true):Small (gL m (aE m f) i):=by
 have hcl:=yH hs;unfold gL;rcases i with⟨o,a,b,⟨⟩⟩
 refine dE (aRe _) ?_;refine dE ⟨by simp,by simp⟩ (dE ⟨by simp,by simp⟩ (dE ⟨by simp,by simp⟩ (dE ⟨by simp,by simp⟩ (dE ⟨by simp,by simp⟩ (dE ⟨by simp,by simp⟩ (dE ⟨by simp,by simp⟩ ?_))))));cases e:o==31
 case true=>
  obtain rfl:o=31:=by simpa using e
  have:sin a (m.2.2.2.1.length:Int)=true:=by simpa[cL] using hi
  exact aJl hs this (by simp)
 simp only[aB];cases e:o==32
 case true=>
  obtain rfl:o=32:=by simpa using e
  have:sin a (m.1.length:Int)=true∧sin b ((bF m a).2.2.1.length:Int)=true:=by simpa[cL] using hi
  have hsl:jH m a b=true:=by unfold jH;unfold sin at this;rw[this.1,this.2];rfl
  have h1:=aA3 hsl;simp only[sin,aC,aO] at this;obtain⟨h2,h3⟩:=vN (sU hcl this.1.1 this.1.2) h1;exact aJl hs (bR.2 h2) (by simp)
 simp only[aB];exact dE ⟨by simp,by simp⟩ (dE (dE ⟨by simp,by simp⟩ ⟨by simp,by simp⟩) ⟨by simp,by simp⟩)
theorem aUv (i:Ins) (pc:Int):(eV i pc).length≤2:=by
 unfold eV;cases i.1==18 <;> cases i.1==19 <;> cases i.1==33 <;> exact fW rfl
theorem aIn {α β:Type} (p:α→β→Bool) (x:α) (_:β):∀(s:List α) (e:List β),e.length=s.length→((s.zip e).all fun q=>p q.1 q.2)=e.zipIdx.all fun q=>p (s.getD q.2 x) q.1:=by
 intro s e h;rw[xP,bT,bT];constructor
 ·rintro h1 ⟨b,k⟩ hq
  obtain⟨hk,hb⟩:=List.mem_zipIdx' hq;have:(s.getD k x,b)∈s.zip e:=by
   rw[List.mem_iff_getElem?];refine⟨k,?_⟩;have hks:k<s.length:=by omega
   simp[List.getElem?_zip_eq_some,hks,hk,hb]
  exact h1 _ this
 ·rintro h1 ⟨a,b⟩ hq
  obtain⟨k,hk⟩:=List.mem_iff_getElem?.1 hq;rw[List.getElem?_zip_eq_some] at hk;have h2:(b,k)∈e.zipIdx:=by
   rw[List.mem_zipIdx_iff_getElem?];exact hk.2
  have:=h1 _ h2;simpa[hk.1] using this
theorem aXv (m:Im) (f pc:Int) (s:List Tp) (r) (h:sH m f pc s=some r):∃k,aNg k m f pc s=some r:=by
 unfold sH at h;cases hb:aM m&&okL s <;> simp only[hb,aA,aB] at h
 ·cases h
 injection h with h
 subst h;simp only[aC] at hb;obtain⟨hs,hsl⟩:=hb;have hsl:=iG hsl;refine⟨20,?_⟩;have fold:∀g:Int,m.2.2.2.1.getD g.toNat zMt=aE m g:=fun _=>rfl;have fold2:(aE m f).2.2.2.1.getD pc.toNat cC=aN m f pc:=rfl;have fold3:(aE m f).2.2.2.1.length=aI m f:=rfl;unfold aNg aW;simp only[fold,fold2,fold3];cases hf:inM m f
 ·simp only[jP,bU,aA];have:¬(0≤f∧f<(m.2.2.2.1.length:Int)):=fun hh=>by rw[bR.2 hh] at hf;cases hf
  by_cases h0:f<0
  ·simp only[h0,aK,aA]
  ·have h1:f≥(m.2.2.2.1.length:Int):=by omega
   simp only[h0,h1,aK,bB,aA,aB]
 obtain⟨f0,f1⟩:=bR.1 hf;have f2:¬f<0:=by omega
 have f3:¬f≥(m.2.2.2.1.length:Int):=by omega
 have hc:=gR hs hf;simp only[f0,f1,f2,f3,aK,bB,aG,cZ,aA,aB];by_cases p0:pc<0
 ·have:¬0≤pc:=by omega
  simp only[p0,sin,this,aK,bB,jP,bU,aA]
 have p0':0≤pc:=by omega
 by_cases p1:pc≥(aI m f:Int)
 ·have:¬pc<(aI m f:Int):=by omega
  simp only[p0,p1,sin,this,aK,bB,vE,bU,aA,aB]
 have p1':pc<(aI m f:Int):=by omega
 have hp:sin pc (aI m f:Int)=true:=by simp[sin,p0',p1']
 simp only[p0,p0',p1,p1',hp,aK,bB,aG,aV,aA,aB,uQ];cases hn:(eV (aN m f pc) pc).contains (aI m f:Int)
 case true=>simp only[aA]
 simp only[aB];cases h6:(aN m f pc).1==6
 case true=>
  simp only[aA];by_cases s0:s.length=0
  ·have:((s.length:Int)==0)=true:=by simp[s0]
   rw[this,aH s0];rfl
  ·have:((s.length:Int)==0)=false:=sS.2 (by omega);rw[this,aT s0];simp only[iR,aB];by_cases s8:s.length≥8
   ·have:(s.length:Int)≥8:=by omega
    simp only[this,s8,aK,aA]
   ·have h1:¬(s.length:Int)≥8:=by omega
    have h2:IntKind.i64.wrap ((s.length:Int) - 1)=((s.length - 1:Nat):Int):=by rw[bV] <;> omega
    have h3:((s.length - 1:Nat):Int)≤(s.length:Int):=by omega
    simp only[h1,s8,h2,h3,dge,aK,bB,aG,fB,aA,aB,aL,iD];rw[aEy (by simp only[gO,lT,bZ,aS,fX];omega) (by simp)];simp only[aF,gO,lT,bZ]
 simp only[aB];have hi:=vR hs hf hp;rw[aXE hs hf hi];simp only[aF];have hsm:=aJk hs (f:=f) hi;generalize gL m (aE m f) (aN m f pc)=E at hsm⊢;obtain⟨hE1,hE2⟩:=hsm;unfold pQ;have w1:IntKind.i64.wrap ((s.length:Int) - (E.1.length:Int))=(s.length:Int) - (E.1.length:Int):=by rw[bV] <;> omega
 have w2:IntKind.i64.wrap ((s.length:Int) - (E.1.length:Int)+(E.2.1.length:Int))=(s.length:Int) - (E.1.length:Int)+(E.2.1.length:Int):=by rw[bV] <;> omega
 simp only[w1,w2];by_cases l1:s.length<E.1.length
 ·have:(s.length:Int) - (E.1.length:Int)<0:=by omega
  simp only[this,l1,aK,vD,aA]
 have l1':¬(s.length:Int) - (E.1.length:Int)<0:=by omega
 simp only[l1,l1',bB,iR,aB];by_cases l2:s.length - E.1.length+E.2.1.length>8
 ·have:(s.length:Int) - (E.1.length:Int)+(E.2.1.length:Int)>8:=by omega
  simp only[this,l2,aK,aA]
 have l2':¬(s.length:Int) - (E.1.length:Int)+(E.2.1.length:Int)>8:=by omega
 simp only[l2,l2',bB,aB];have hzip:=aIn (fun a b=>eX m (aN m f pc).1 a b) zTp zTp (s.drop (s.length - E.1.length)) E.1 (by rw[fX];omega);rw[hzip];generalize hD:s.length - E.1.length=D at*
 have hDi:(s.length:Int) - (E.1.length:Int)=(D:Int):=by omega
 have w4:IntKind.i64.wrap (D:Int)=(D:Int):=by rw[bV] <;> omega
 rw[show (E.1.zipIdx.all fun q=>eX m (aN m f pc).1 ((s.drop D).getD q.2 zTp) q.1)=iW (fun k x=>eX m (aN m f pc).1 ((s.drop D).getD k zTp) x) 0 E.1 by
  rw[xP,aAF,bT];constructor
  ·intro hh j x hx;have:=hh (x,j) (by rw[List.mem_zipIdx_iff_getElem?];exact hx);simpa using this
  ·rintro hh ⟨x,j⟩ hx
   rw[List.mem_zipIdx_iff_getElem?] at hx;have:=hh j x hx;simpa using this]
 refine (zU (xs:=E.1) (st:=fun k=>(eV (aN m f pc) pc,(k:Int),())) (p:=fun k x=>eX m (aN m f pc).1 ((s.drop D).getD k zTp) x) (ex:=some ([],[],4,())) (fin:=some (s.take D++E.2.1,eV (aN m f pc) pc,0,())) (fun k x rec hk hlt=>?_) (fun rec=>?_) 20 (by omega)).trans ?_
 ·have hx:(s.drop D).getD k zTp=s.getD (D+k) zTp:=by simp[fN]
  have w3:IntKind.i64.wrap ((D:Int)+(k:Int))=((D+k:Nat):Int):=by rw[bV] <;> omega
  rw[aHu];simp only[w4,hDi,w3,fold,fold2,dlt hlt,dge,dlt (show D+k<s.length by omega),aG,aA,aL,getD_some hk,hx,aQ hlt (show _≤lenMax by simp only[lenMax];omega)];cases eX m (aN m f pc).1 (s.getD (D+k) zTp) x <;> rfl
 ·have l3:(D:Int)≤(s.length:Int):=by omega
  rw[aHu];simp only[w4,hDi,aU,aB,dge,l3,aK,aG,aA,aL,aE0];rw[aEy (by simp only[gO,lT,bZ,aS,cO];omega) (by simp)];simp only[aF,gO,lT,bZ]
 ·cases iW (fun k x=>eX m (aN m f pc).1 ((s.drop D).getD k zTp) x) 0 E.1 <;> rfl
end Go.Pli

namespace Go.Pli
open Go Go.PM
theorem aZq {s:List Tp} (h:s.length<1000000):xC s=some (s,()):=by
 unfold xC;have:decide (([]:List Tp).length+s.length<rowMax)=true:=aH (by simp only[rowMax,bJ];omega);rw[this];rfl
theorem aVx {l:List Cl} {a b x:Tp} (h:gD l a b=x):wM l a b=some (x,()):=by unfold wM;rw[h]
theorem wG (l:List Cl) {a s:List Tp} (h:a.length=s.length):(bY l a s).length=s.length:=by
 unfold bY;rw[sZ,List.length_zip,h,Nat.min_self]
theorem aLT (l:List Cl) {a s:List Tp} {k:Nat} (h1:k<a.length) (h2:k<s.length):(bY l a s)[k]? =some (gD l (a.getD k zTp) (s.getD k zTp)):=by
 unfold bY;rw[rE,aX (show k<(a.zip s).length by rw[List.length_zip];omega)];simp[h1,h2]
def nR {α:Type} (z:α) (l:List α) (k:Nat):List α:=l.take k++List.replicate (l.length - k) z
theorem aNx {α:Type} (z:α) (l:List α) {k:Nat} (h:k≤l.length):(nR z l k).length=l.length:=by
 unfold nR;simp only[aS,cO,pK];omega
theorem aXW {α:Type} (z:α) {l:List α} {k:Nat} {x:α} (h:l[k]? =some x):(nR z l k).set k x=nR z l (k+1):=by
 have hk:k<l.length:=by
  by_cases hk:k<l.length
  ·exact hk
  ·rw[xN (by omega)] at h;cases h
 unfold nR;have ht:(l.take k).length=k:=by rw[cO];omega
 rw[List.set_append_right _ _ (by omega),ht,Nat.sub_self,oB,h];obtain⟨n,hn⟩:∃n,l.length - k=n+1:=⟨l.length - k - 1,by omega⟩;have hn':l.length - (k+1)=n:=by omega
 rw[hn,hn',List.replicate_succ];simp
theorem aXX {α:Type} (z:α) {l:List α} {k:Nat} {x:α} (h:l[k]? =some x):(nR z l (k+1)).getD k z=x:=by
 have hk:k<l.length:=by
  by_cases hk:k<l.length
  ·exact hk
  ·rw[xN (by omega)] at h;cases h
 unfold nR;have ht:k<(l.take (k+1)).length:=by rw[cO];omega
 rw[aEf,if_pos ht,eK,fY];simp[h]
theorem aPQ (m:Im) (o:Sh) (s:List Tp) (r) (h:xX m o s=some r):∃k,aIM k m o s=some r:=by
 unfold xX at h;cases hb:okL s <;> simp only[hb,aA,aB] at h
 ·cases h
 injection h with h
 subst h;have hs:=iG hb;refine⟨s.length+1,?_⟩;unfold aIM cQ;rw[aZq hs];cases o.1 <;> simp only[aV,bU,aA,aB,aF]
 ·rfl
 by_cases hl:o.2.1.length=s.length
 ·have e1:((o.2.1.length:Int) !=(s.length:Int))=false:=by rw[hl];simp
  have e2:decide (o.2.1.length≠s.length)=false:=by simp[hl]
  have e3:decide ((s.length:Int)<(rowMax:Int))=true:=aH (by simp only[rowMax];omega);have e4:decide ((0:Int)≤(s.length:Int))=true:=aH (by omega);simp only[e1,e2,e3,e4,aA,aB,fB,aK,aG];have hml:=wG m.1 hl;have key:=gV (L:=aCz m o s) (xs:=bY m.1 o.2.1 s) (st:=fun k=>((k:Int),nR zTp (bY m.1 o.2.1 s) k,())) (p:=fun x=> !(x.1==0)) (ex:=some (o,false,false,())) (fin:=some ((true,bY m.1 o.2.1 s,()),!(bY m.1 o.2.1 s==o.2.1),true,()))
   (fun k x rec hk hlt=>by
    have h1:k<s.length:=by omega
    have h2:k<o.2.1.length:=by omega
    have hx:=aLT m.1 h2 h1;rw[hk] at hx;have hx:=fL hx;have hkj:wM m.1 (o.2.1.getD k zTp) (s.getD k zTp)=some (x,()):=aVx hx.symm;have hf:=aNx zTp (bY m.1 o.2.1 s) (k:=k) (by omega);have hf2:=aNx zTp (bY m.1 o.2.1 s) (k:=k+1) (by omega);rw[aCz];simp only[dlt h1,dlt h2,dge,aG,aA,aL,hkj,aF,hf,hml,aXW zTp hk,hf2,aXX zTp hk,aQ h1 (show s.length≤lenMax by simp only[lenMax];omega)];cases x.1==0 <;> rfl)
   (fun rec=>by
    have:nR zTp (bY m.1 o.2.1 s) s.length=bY m.1 o.2.1 s:=by rw[←hml];unfold nR;simp
    rw[aCz];simp only[hml,this,aU,aB,eqL]) (s.length+1) (by omega)
  have h0:nR zTp (bY m.1 o.2.1 s) 0=List.replicate s.length zTp:=by unfold nR;simp[hml]
  rw[h0] at key;refine key.trans ?_;rw[←List.not_any_eq_all_not];cases (bY m.1 o.2.1 s).any fun t=>t.1==0 <;> rfl
 ·have e1:((o.2.1.length:Int) !=(s.length:Int))=true:=by simp;omega
  have e2:decide (o.2.1.length≠s.length)=true:=by simp[hl]
  simp only[e1,e2,aA]
theorem aUw {m:Im} (hs:aM m=true) {f pc:Int} (hf:inM m f=true) (hp:sin pc (aI m f:Int)=true) (hn:(eV (aN m f pc) pc).contains (aI m f:Int)=false):∀to∈eV (aN m f pc) pc,0≤to∧to<(aI m f:Int):=by
 have hi:=vR hs hf hp;have hc:=gR hs hf;simp only[sin,aC,aO] at hp;have hw:IntKind.i64.wrap (pc+1)=pc+1:=by rw[bV] <;> omega
 intro to ht;have hne:to≠(aI m f:Int):=by
  rintro rfl
  rw[vC.2 ht] at hn;cases hn
 have hj:((aN m f pc).1==18 || (aN m f pc).1==19)=true→0≤(aN m f pc).2.1∧(aN m f pc).2.1<(aI m f:Int):=by
  intro hh;have:sin (aN m f pc).2.1 (aI m f:Int)=true:=by
   rw[fS] at hh;unfold cL at hi;rcases hh with hh | hh <;> (have e:=eq_of_beq hh;rw[e] at hi;exact hi)
  simpa[sin] using this
 unfold eV at ht;cases h1:(aN m f pc).1==18 <;> simp only[h1,aA,aB] at ht
 ·cases h2:(aN m f pc).1==19 <;> simp only[h2,aA,aB] at ht
  ·cases h3:(aN m f pc).1==33 <;> simp only[h3,aA,aB] at ht
   ·rw[fI,hw] at ht;omega
   ·cases ht
  ·rw[hw] at ht;rcases cB.1 ht with ht | ht
   ·omega
   ·rw[fI] at ht;have:=hj (by rw[h2,Bool.or_true]);omega
 ·rw[fI] at ht;have:=hj (by rw[h1,vD]);omega
theorem oI {m:Im} (hs:aM m=true) {f pc:Int} {s:List Tp} (h:(aW m f pc s).2.2.1=0):
  inM m f=true∧sin pc (aI m f:Int)=true∧(aW m f pc s).1.length≤8∧(∀to∈(aW m f pc s).2.1,0≤to∧to<(aI m f:Int)):=by
 unfold aW at h⊢;cases hf:inM m f
 ·rw[hf] at h;simp at h
 cases hp:sin pc (aI m f:Int)
 ·rw[hf,hp] at h;simp at h
 simp only[hf,hp,aG,aV,aB] at h⊢;cases hn:(eV (aN m f pc) pc).contains (aI m f:Int)
 case true=>rw[hn] at h;simp at h
 have hin:=aUw hs hf hp hn;simp only[hn,aB] at h⊢;refine⟨trivial,trivial,?_⟩;cases h6:(aN m f pc).1==6 <;> simp only[h6,aA,aB] at h⊢
 ·unfold pQ at h⊢;generalize gL m (aE m f) (aN m f pc)=E at h⊢;cases hb:decide (s.length<E.1.length) || decide (s.length - E.1.length+E.2.1.length>8) <;> simp only[hb,aA,aB] at h⊢
  ·simp only[Bool.or_eq_false_iff,uO] at hb;cases hz:((s.drop (s.length - E.1.length)).zip E.1).all fun p=>eX m (aN m f pc).1 p.1 p.2 <;> simp only[hz,aA,aB] at h⊢
   ·cases h
   ·refine⟨?_,hin⟩;rw[aS,cO];omega
  ·cases h
 ·cases hb:decide (s.length=0) || decide (s.length≥8) <;> simp only[hb,aA,aB] at h⊢
  ·simp only[Bool.or_eq_false_iff,uO] at hb;refine⟨?_,hin⟩;rw[aS,fX];omega
  ·cases h
theorem aLv {m:Im} {r1:St4} {N:Nat} (hN:N<1000000) (ha:r1.1.length<1000000):∀(l pre:List Int) (h:List Sh) (q:List Bool) (F:Nat),r1.2.1=pre++l→r1.2.1.length≤1000→l.length<F→h.length=N→q.length=N→(∀to∈l,0≤to∧to<(N:Int))→
  aD (aCy m r1) F ((pre.length:Int),h,q,())=some (fK m.1 r1.1 l h q)
 | [],pre,h,q,F,he,hl,hF,hh,hq,_=>by
  obtain⟨F,rfl⟩:∃n,F=n+1:=⟨F - 1,by simp at hF;omega⟩;rw[bZ] at he;rw[aZ,aCy,he];simp only[aU,aB,fK]
 | to::l,pre,h,q,F,he,hl,hF,hh,hq,ht=>by
  obtain⟨F,rfl⟩:∃n,F=n+1:=⟨F - 1,by simp at hF;omega⟩;have hk:pre.length<r1.2.1.length:=by rw[he,aS];simp
  have hget:r1.2.1.getD pre.length 0=to:=by rw[he];simp
  obtain⟨t0,t1⟩:=ht to (cF ..);have hm:xX m (h.getD to.toNat zSh) r1.1=some (cQ m.1 (h.getD to.toNat zSh) r1.1):=by unfold xX;rw[gB ha];rfl
  have hw:=aQ hk (show r1.2.1.length≤lenMax by simp only[lenMax];omega);have t2:to<(h.length:Int):=by omega
  have t3:to<(q.length:Int):=by omega
  have ih:=fun h' q' hh' hq'=>aLv (m:=m) hN ha l (pre++[to]) h' q' F (by rw[he,bG];rfl) hl (by simp only[aJ] at hF;omega) hh' hq' (fun x hx=>ht x (bW _ hx));simp only[aS,aJ,bJ,cG] at ih;rw[aZ,aCy];simp only[dlt hk,dge,aG,aA,aL,hget,t0,t2,t3,aK,hm,aF,hw,fK];cases (cQ m.1 (h.getD to.toNat zSh) r1.1).2.2.1 <;> simp only[aV,bU,aA,aB];cases (cQ m.1 (h.getD to.toNat zSh) r1.1).2.1 <;> simp only[aA,aB]
  ·exact ih h q hh hq
  ·exact ih _ _ (by rw[dB,hh]) (by rw[dB,hq])
theorem aGn (l:List Cl) (a:List Tp):∀(ts:List Int) (h:List Sh) (q:List Bool),(fK l a ts h q).2.1.length=h.length∧(fK l a ts h q).2.2.1.length=q.length
 | [],h,q=>⟨rfl,rfl⟩
 | to::ts,h,q=>by
  unfold fK;cases (cQ l (h.getD to.toNat zSh) a).2.2.1 <;> simp only[aV,bU,aA,aB]
  ·exact⟨trivial,trivial⟩
  ·cases (cQ l (h.getD to.toNat zSh) a).2.1 <;> simp only[aA,aB]
   ·exact aGn l a ts h q
   ·have:=aGn l a ts (h.set to.toNat (cQ l (h.getD to.toNat zSh) a).1) (q.set to.toNat true);simpa using this
theorem aPN (m:Im) (f pc:Int) (h:List Sh) (q:List Bool):(jQ m f pc h q).2.1.length=h.length∧(jQ m f pc h q).2.2.1.length=q.length:=by
 unfold jQ;cases (aW m f pc (h.getD pc.toNat zSh).2.1).2.2.1 !=0 <;> simp only[aA,aB]
 ·exact aGn _ _ _ _ _
 ·exact⟨trivial,trivial⟩
structure OneP (m:Im) (f pc:Int) (h:List Sh) (q:List Bool):Prop where
 sane:aM m=true
 meth:inM m f=true
 at':sin pc (aI m f:Int)=true
 hl:h.length=aI m f
 ql:q.length=aI m f
 ok:∀s∈h,okL s.2.1=true
theorem aUm {m:Im} {f pc:Int} {h:List Sh} {q:List Bool} (hh:rU m f pc h q=true):OneP m f pc h q:=by
 simp only[rU,aC,aO,bT] at hh;exact⟨hh.1,hh.2.1,hh.2.2.1,hh.2.2.2.1,hh.2.2.2.2.1,hh.2.2.2.2.2⟩
theorem OneP.to {m:Im} {f pc:Int} {h:List Sh} {q:List Bool} (hh:OneP m f pc h q):rU m f pc h q=true:=by
 simp only[rU,aC,aO,bT];exact⟨hh.1,hh.2,hh.3,hh.4,hh.5,hh.6⟩
def bAC (z:St4):Prop:=z.2.1.length≤2
theorem yC (m:Im) (f pc:Int) (s:List Tp):bAC (aW m f pc s):=by
 have h2:=aUv (aN m f pc) pc;unfold aW pQ;exact dE (dY _) (dE (dY _) (dE (dE (dY _) h2) (dE (dY _) (dE h2 (dY _)))))
theorem aPL (m:Im) (f pc:Int) (h:List Sh) (q:List Bool) (r) (he:nD m f pc h q=some r):∃k,aIH k m f pc h q=some r:=by
 unfold nD at he;cases hb:rU m f pc h q <;> simp only[hb,aA,aB] at he
 ·cases he
 injection he with he
 subst he;obtain⟨hs,hf,hp,hhl,hql,hok⟩:=aUm hb;have hp':=hp;simp only[sin,aC,aO] at hp';have hc:=gR hs hf;have hz:okL (h.getD pc.toNat zSh).2.1=true:=by
  have:pc.toNat<h.length:=by omega
  rw[getD_some (aX this)];exact hok _ (dT this)
 have hst:sH m f pc (h.getD pc.toNat zSh).2.1=some (aW m f pc (h.getD pc.toNat zSh).2.1):=by unfold sH;rw[hs,hz];rfl
 refine⟨1001,?_⟩;have p2:pc<(h.length:Int):=by omega
 unfold aIH jQ;simp only[hp'.1,p2,aK,aG,aA,hst,aF];cases hne:(aW m f pc (h.getD pc.toNat zSh).2.1).2.2.1 !=0
 case true=>simp only[aA]
 simp only[aB];obtain⟨-,-,h8,hto⟩:=oI hs (f:=f) (pc:=pc) (s:=(h.getD pc.toNat zSh).2.1) (by simpa using hne);have hnl:(aW m f pc (h.getD pc.toNat zSh).2.1).2.1.length≤2:=yC ..;have:=aLv (m:=m) (r1:=aW m f pc (h.getD pc.toNat zSh).2.1) (N:=aI m f) (by omega) (by omega) (aW m f pc (h.getD pc.toNat zSh).2.1).2.1 [] h q 1001 rfl (by omega) (by omega) hhl hql hto;simpa using this
theorem aVi {σ R:Type} {L:σ→(σ→Option R)→Option R} {st:Nat→σ} {fin:Option R} {g:Nat→Option R} {xs:List Bool}
  (h1:∀(k:Nat) (rec),xs[k]? =some false→k<xs.length→L (st k) rec=rec (st (k+1))) (h2:∀(k:Nat) (rec),xs[k]? =some true→k<xs.length→L (st k) rec=g k) (h3:∀rec,L (st xs.length) rec=fin):
  ∀F:Nat,xs.length<F→aD L F (st 0)=bif xs.any id then g (xs.findIdx id) else fin:=by
 have key:∀(l pre:List Bool) (F:Nat),xs=pre++l→l.length<F→aD L F (st pre.length)=bif l.any id then g (pre.length+l.findIdx id) else fin:=by
  intro l
  induction l with
  | nil=>
   intro pre F hx hF;obtain⟨F,rfl⟩:∃n,F=n+1:=⟨F - 1,by simp at hF;omega⟩;rw[bZ] at hx;subst hx;rw[aZ,h3];rfl
  | cons x l ih=>
   intro pre F hx hF;obtain⟨F,rfl⟩:∃n,F=n+1:=⟨F - 1,by simp at hF;omega⟩;have hk:xs[pre.length]? =some x:=by rw[hx];simp
   have hl:pre.length<xs.length:=by rw[hx];simp
   cases x with
   | true=>
    rw[aZ,h2 _ _ hk hl];simp[List.findIdx_cons]
   | false=>
    rw[aZ,h1 _ _ hk hl];have:=ih (pre++[false]) F (by rw[hx];simp) (by simp only[aJ] at hF;omega);simp only[aS,aJ,bJ,cG] at this;rw[this];simp only[List.any_cons,List.findIdx_cons,id,iR,aB];rw[show pre.length+(l.findIdx id+1)=pre.length+1+l.findIdx id by omega]
 intro F hF;simpa using key xs [] F rfl hF
theorem aIL {m:Im} {f:Int} {fuel N:Nat} (hN:N<fuel) (hN2:N<1000000):∀(n:Nat) (h:List Sh) (q:List Bool) (r),q.length=N→mZ m f n h q=some r→aD (aAP m f fuel) n (h,q,())=some r
 | 0,_,_,_,_,hw=>by cases hw
 | n+1,h,q,r,hq,hw=>by
  rw[aZ,aAP];have key:=aVi (L:=aAQ m f (h,q,()) (aD (aAP m f fuel) n)) (st:=fun k=>((k:Int),())) (xs:=q) (fin:=some (h,0,0,()))
   (g:=fun k=>(nD m f (k:Int) h (q.set k false)).bind fun r5=>bif !r5.1 then some ([],(k:Int),4,()) else aD (aAP m f fuel) n (r5.2.1,r5.2.2.1,()))
   (fun k rec hk hl=>by
    rw[aAQ];simp only[dlt hl,dge,aG,aA,aL,getD_some hk,bU,aQ hl (show _≤lenMax by simp only[lenMax];omega)])
   (fun k rec hk hl=>by
    rw[aAQ];simp only[dlt hl,dge,aG,aA,aB,aL,getD_some hk,aV])
   (fun rec=>by
    rw[aAQ];simp only[aU,aB]) fuel (by omega)
  refine key.trans ?_;unfold mZ at hw;cases ha:q.any id <;> simp only[ha,aA,aB] at hw⊢
  ·exact hw
  ·cases ht:nD m f (q.findIdx id:Int) h (q.set (q.findIdx id) false) with
   | none=>rw[ht] at hw;cases hw
   | some r5=>
    rw[ht] at hw;simp only[aF] at hw⊢;have hr5:r5=jQ m f (q.findIdx id:Int) h (q.set (q.findIdx id) false):=by
     unfold nD at ht;cases hb:rU m f (q.findIdx id:Int) h (q.set (q.findIdx id) false) <;> simp only[hb,aA,aB] at ht
     ·cases ht
     ·injection ht with ht;exact ht.symm
    cases hr:r5.1 <;> simp only[hr,aV,bU,aA,aB] at hw⊢
    ·exact hw
    ·refine aIL hN hN2 n _ _ _ ?_ hw;rw[hr5,(aPN ..).2,dB,hq]
theorem aPO (m:Im) (f:Int) (r) (h:nE m f=some r):∃k,aIK k m f=some r:=by
 unfold nE at h;cases hb:aM m&&inM m f <;> simp only[hb,aA,aB] at h
 ·cases h
 simp only[aC] at hb;obtain⟨hs,hf⟩:=hb;obtain⟨f0,f1⟩:=bR.1 hf;have hc:=gR hs hf;refine⟨100*aI m f+2,?_⟩;have fold:∀g:Int,m.2.2.2.1.getD g.toNat zMt=aE m g:=fun _=>rfl;have fold3:(aE m f).2.2.2.1.length=aI m f:=rfl;have e0:decide ((0:Int)≤(aI m f:Int))=true:=aH (by omega);have e1:decide ((aI m f:Int)<(rowMax:Int))=true:=aH (by simp only[rowMax];omega);have e2:((aI m f:Int)==0)=false:=sS.2 (by omega);have e3:decide ((0:Int)<(aI m f:Int))=true:=aH (by omega);have e4:decide ((aI m f:Int)≤(aI m f:Int))=true:=aH (by omega);have e5:((List.replicate (aI m f) zSh).getD 0 zSh).2=([],()):=by
  obtain⟨n,hn⟩:∃n,aI m f=n+1:=⟨aI m f - 1,by omega⟩;rw[hn];rfl
 unfold aIK;simp only[fold,fold3,f0,f1,aK,aG,aA,aB,e0,e1,e2,e3,e4,e5,aL,pK,dB];exact aIL (N:=aI m f) (by omega) (by omega) _ _ _ _ (by simp) h
theorem aOG {m:Im} (h12:m.2.2.2.1.length≤12):∀(j k:Nat) (out:List (List Sh)) (F:Nat) (r),k+j=m.2.2.2.1.length→j<F→out.length≤k→qU m ((List.range' k j).map fun n:Nat=>(n:Int)) out=some r→aD (aCB m) F (out,(k:Int),())=some r
 | 0,k,out,F,r,hk,hF,_,h=>by
  obtain⟨F,rfl⟩:∃n,F=n+1:=⟨F - 1,by omega⟩;have:k=m.2.2.2.1.length:=by omega
  subst this;rw[aZ,aCB];simp only[aU,aB,idL];exact h
 | j+1,k,out,F,r,hk,hF,ho,h=>by
  obtain⟨F,rfl⟩:∃n,F=n+1:=⟨F - 1,by omega⟩;have hlt:k<m.2.2.2.1.length:=by omega
  rw[aZ,aCB];rw[List.range'_succ,dM,qU] at h;simp only[dlt hlt,aA];cases ht:nE m (k:Int) with
  | none=>rw[ht] at h;cases h
  | some r3=>
   rw[ht] at h;simp only[aF] at h⊢;cases he:r3.2.2.1 !=0 <;> simp only[he,aA,aB] at h⊢
   ·simp only[aJ,bJ,mD (show out.length+(0+1)<549755813888 by omega),aA,aQ hlt (show _≤lenMax by simp only[lenMax];omega)];exact aOG h12 j (k+1) _ F r (by omega) (by omega) (by simp;omega) h
   ·exact h
theorem aPX (m:Im) (r) (h:nF m=some r):∃k,aIV k m=some r:=by
 unfold nF at h;cases hs:aM m <;> simp only[hs,aA,aB] at h
 ·cases h
 have h12:=(cH (cX hs).1).methods;refine⟨m.2.2.2.1.length+1,?_⟩;unfold aIV;refine aOG h12 m.2.2.2.1.length 0 [] _ r (by omega) (by omega) (by simp) ?_;rw[←List.range_eq_range'];exact h
end Go.Pli

namespace Go.Pli
open Go Go.PM
theorem aZM (s:List Int):aOz s=some (idL s,()):=by simp[aOz,idL]
theorem aZO (s:List (List Int)):aOB s=some (idL s,()):=by simp[aOB,idL]
theorem zI {l:List (List Sh)} (h:dK l=true) {n:Nat} (hn:n<l.length):(l.getD n []).length<1000000∧∀s∈l.getD n [],s.2.1.length<1000000:=by
 simp only[dK,aC,bT] at h;rw[getD_some (aX hn)];have:=h.2 _ (dT hn);exact⟨iG this.1,fun s hs=>iG (this.2 s hs)⟩
theorem aLZ (l:List Int) {k:Nat} {x:Int} (h:l[k]? =some x):gC (l.take (k+1))=max (gC (l.take k)) x:=by
 unfold gC;rw[oB,h,List.foldl_append];rfl
theorem aU2 {B:Int} (hB:0≤B) {l:List Int} (h:∀x∈l,x≤B):0≤gC l∧gC l≤B:=by
 have key:∀(l:List Int) (a:Int),0≤a→a≤B→(∀x∈l,x≤B)→0≤l.foldl max a∧l.foldl max a≤B:=by
  intro l
  induction l with
  | nil=>intro a h0 h1 _;exact⟨h0,h1⟩
  | cons x l ih=>
   intro a h0 h1 hx;have:=hx x (cF ..);exact ih _ (by omega) (by omega) fun y hy=>hx y (bW _ hy)
 exact key l 0 (fB _) hB h
theorem aPV (l:List (List Sh)) (f:Int) (r) (h:xZ l f=some r):∃k,aIT k l f=some r:=by
 unfold xZ at h;cases hb:dK l <;> simp only[hb,aA,aB] at h
 ·cases h
 injection h with h
 subst h;refine⟨1000001,?_⟩;unfold aIT sN sin;by_cases h0:f<0
 ·have:¬0≤f:=by omega
  simp only[h0,this,aK,bB,jP,aA,aB]
 have h0':0≤f:=by omega
 by_cases h1:f≥(l.length:Int)
 ·have:¬f<(l.length:Int):=by omega
  simp only[h0,h1,this,aK,bB,vE,aA,aB]
 have h1':f<(l.length:Int):=by omega
 simp only[h0,h0',h1,h1',aK,bB,aG,aA,aB];obtain⟨hl,-⟩:=zI hb (n:=f.toNat) (by omega);generalize hh:l.getD f.toNat []=h at hl;have:=lK (L:=aCA l f) (n:=h.length) (st:=fun k=>(gC ((h.map fun s=>(s.2.1.length:Int)).take k),(k:Int),())) (fin:=some (gC (h.map fun s=>(s.2.1.length:Int)),()))
  (fun k rec hk=>by
   have hx:(h.map fun s=>(s.2.1.length:Int))[k]? =some (((h.getD k zSh).2.1.length:Nat):Int):=by simp[hk]
   rw[aCA];simp only[hh,dlt hk,dge,aG,aA,aL,aLZ _ hx,aQ hk (show _≤lenMax by simp only[lenMax];omega)])
  (fun rec=>by
   rw[aCA];simp only[hh,aU,aB];rw[List.take_of_length_le (by simp)]) 1000001 (by omega)
 exact this
theorem aNX {l:List (List Sh)} (h:dK l=true) (f:Int):0≤sN l f∧sN l f≤1000000:=by
 unfold sN;cases hs:sin f (l.length:Int) <;> simp only[aA,aB]
 ·omega
 simp only[sin,aC,aO] at hs;obtain⟨-,hl⟩:=zI h (n:=f.toNat) (by omega);refine aU2 (by omega) fun x hx=>?_;obtain⟨s,hs,rfl⟩:=gE.1 hx;have:=hl s hs;omega
theorem aYx {m:Im} {l:List (List Sh)} (hs:aM m=true) (hl:dK l=true) {f:Int} (hf:inM m f=true):aEs m l f=some (uJ m l f,()):=by
 obtain⟨f0,f1⟩:=bR.1 hf;have a:¬f<0:=by omega
 have b:¬f≥(m.2.2.2.1.length:Int):=by omega
 have hd:=aNX hl f;have hloc:=tQ hs hf;have fold:∀g:Int,m.2.2.2.1.getD g.toNat zMt=aE m g:=fun _=>rfl;have ht:xZ l f=some (sN l f,()):=by unfold xZ;rw[hl];rfl
 unfold aEs uJ;simp only[a,b,f0,f1,hf,fold,ht,aK,bB,aG,aA,aB,aF];rw[bV (n:=(3:Int)+_) (by omega) (by omega),bV (n:=(3:Int)+((aE m f).1.length:Int)+_) (by omega) (by omega),bV (by omega) (by omega)];simp
theorem aYG (to:Int) (part:List Int) (_:aYJ to part):aYI to part=some (xB to part,()):=rfl
theorem aWv (l:List Int) (c:List Int×Unit) (h:aWy l c):∃k,aWx k l c=some (aD2 l c,()):=by
 refine⟨l.length+1,uE (st:=fun k=>((k:Int),())) (p:=fun x=>xB x c.1) (fun k x rec hk hlt=>?_) (fun rec=>?_) _ (fM _)⟩
 ·unfold aHh;simp only[dlt hlt,dge,aG,aA,aL,getD_some hk,aQ hlt h.1.1]
 ·unfold aHh;simp only[aU,aB]
theorem aZb (l:List Int) (c:List Int×Unit) (_:aZd l c):aOf l c=some (aB6 l c,()):=by
 unfold aOf aD2 aB6;rw[sE]
theorem aYE (l:List (List Int)) (part:List Int) (r) (h:aAu l part=some r):∃k,aN1 k l part=some r:=by
 unfold aAu at h;cases hb:okL part <;> simp only[hb,aA,aB] at h
 ·cases h
 injection h with h
 subst h;have hp:=iG hb;refine⟨part.length+1,?_⟩;unfold aN1 iO;have:=gV (L:=aEw l part) (xs:=part) (st:=fun k=>((k:Int),())) (p:=fun k=> !(sin k (l.length:Int)&&(l.getD k.toNat []).any fun to=>part.contains to)) (ex:=some (true,())) (fin:=some (false,()))
  (fun k x rec hk hlt=>by
   have hw:=aQ hlt (show _≤lenMax by simp only[lenMax];omega);rw[aEw];simp only[dlt hlt,dge,aG,aA,aL,getD_some hk,hw,sin];by_cases h0:x<0
   ·have:¬0≤x:=by omega
    simp only[h0,this,aK,bB,jP,bU,aA]
   have h0':0≤x:=by omega
   by_cases h1:x≥(l.length:Int)
   ·have:¬x<(l.length:Int):=by omega
    simp only[h0,h1,this,aK,bB,vE,jP,bU,aA,aB]
   have h1':x<(l.length:Int):=by omega
   simp only[h0,h0',h1,h1',aK,bB,aG,cZ,aA,aB,aB6,xB];cases (l.getD x.toNat []).any fun to=>part.contains to <;> rfl)
  (fun rec=>by rw[aEw];simp only[aU,aB]) (part.length+1) (by omega)
 refine this.trans ?_;rw[←List.not_any_eq_all_not];cases part.any fun k=>sin k (l.length:Int)&&(l.getD k.toNat []).any fun to=>part.contains to <;> rfl
theorem aO4 {m:Im} {s1:List (List Int)×Int×Unit} {r4:List (List Int)×Unit} {s8:Int×Int×Int×Unit} {s5:Int×List Int×Unit} {rec9:(Int×Int×Int×Unit)→Option (List Int×Int×Unit)} {s10 r12:Int×Unit} {part es out:List Int} {f:Int}
  (hp:r4.1.getD s5.1.toNat []=part) (hf:part.getD s8.2.2.1.toNat 0=f) (he:s1.1.getD f.toNat []=es) (ho:s5.2.1=out) (hel:es.length<1000000) (hin:∀to∈es,inM m to=true):
  ∀(l pre:List Int) (b:Int) (F:Nat),es=pre++l→l.length<F→aD (aEv s1 r4 s8 s5 rec9 s10 r12) F (b,(pre.length:Int),())=rec9 (IntKind.i64.wrap (s8.1+IntKind.i64.wrap (s10.1*r12.1)),xG part out l b,IntKind.i64.wrap (s8.2.2.1+1),())
 | [],pre,b,F,hx,hF=>by
  obtain⟨F,rfl⟩:∃n,F=n+1:=⟨F - 1,by simp at hF;omega⟩;rw[bZ] at hx;rw[aZ,aEv];simp only[hp,hf,he,hx,aU,aB,xG]
 | to::l,pre,b,F,hx,hF=>by
  obtain⟨F,rfl⟩:∃n,F=n+1:=⟨F - 1,by simp at hF;omega⟩;have hk:pre.length<es.length:=by rw[hx,aS];simp
  have hget:es.getD pre.length 0=to:=by rw[hx];simp
  have hto:=(bR.1 (hin to (by rw[hx];simp))).1;have hw:=aQ hk (show es.length≤lenMax by simp only[lenMax];omega);have ih:=fun b'=>aO4 (rec9:=rec9) (s10:=s10) (r12:=r12) hp hf he ho hel hin l (pre++[to]) b' F (by rw[hx,bG];rfl) (by simp only[aJ] at hF;omega);simp only[aS,aJ,bJ,cG] at ih;rw[aZ,aEv];simp only[hp,hf,he,ho,dlt hk,dge,aG,aA,aL,hget,hw,uQ,xG,hto,aK,cZ];cases part.contains to <;> cases decide (to<(out.length:Int)) <;> simp only[aV,bU,aG,kZ,vE,aA,aB] <;> exact ih _
theorem aJv {m:Im} {r4:List (List Int)×Unit} {s8:Int×Int×Int×Unit} {s5:Int×List Int×Unit} {rec6:(Int×List Int×Unit)→Option (List Int×Int×Unit)} {part:List Int}
  (hp:r4.1.getD s5.1.toNat []=part) (hpl:part.length<1000000) (hin:∀f∈part,inM m f=true):
  ∀(l pre out:List Int) (F:Nat),part=pre++l→l.length<F→out.length=m.2.2.2.1.length→aD (aEu r4 s8 s5 rec6) F ((pre.length:Int),out,())=rec6 (IntKind.i64.wrap (s5.1+1),kK (IntKind.i64.wrap (s8.1+s8.2.1)) l out,())
 | [],pre,out,F,hx,hF,_=>by
  obtain⟨F,rfl⟩:∃n,F=n+1:=⟨F - 1,by simp at hF;omega⟩;rw[bZ] at hx;rw[aZ,aEu];simp only[hp,hx,aU,aB,kK]
 | f::l,pre,out,F,hx,hF,ho=>by
  obtain⟨F,rfl⟩:∃n,F=n+1:=⟨F - 1,by simp at hF;omega⟩;have hk:pre.length<part.length:=by rw[hx,aS];simp
  have hget:part.getD pre.length 0=f:=by rw[hx];simp
  obtain⟨f0,f1⟩:=bR.1 (hin f (by rw[hx];simp));have f1':f<(out.length:Int):=by omega
  have hw:=aQ hk (show part.length≤lenMax by simp only[lenMax];omega);have ih:=fun out' ho'=>aJv (s8:=s8) (rec6:=rec6) hp hpl hin l (pre++[f]) out' F (by rw[hx,bG];rfl) (by simp only[aJ] at hF;omega) ho';simp only[aS,aJ,bJ,cG] at ih;rw[aZ,aEu];simp only[hp,dlt hk,dge,aG,aA,aL,hget,hw,f0,f1',aK,kK];exact ih _ (by rw[dB,ho])
theorem aLk {m:Im} {l:List (List Sh)} (hs:aM m=true) (hl:dK l=true) {fuel:Nat} (hfu:1000000<fuel) {s1:List (List Int)×Int×Unit} (hed:s1.1=eF m) (hok:wZ m=true) {r4:List (List Int)×Unit} {r7:Bool×Unit} {s5:Int×List Int×Unit} {rec6:(Int×List Int×Unit)→Option (List Int×Int×Unit)} {part:List Int}
  (hp:r4.1.getD s5.1.toNat []=part) (hpl:part.length<1000000) (hin:∀f∈part,inM m f=true) (ho:s5.2.1.length=m.2.2.2.1.length):
  ∀(q pre:List Int) (a b:Int) (F:Nat),part=pre++q→q.length<F→aD (aB1 m l fuel s1 r4 r7 s5 rec6) F (a,b,(pre.length:Int),())=
   match mI m l (eF m) part s5.2.1 r7.1 q a b with
   | none=>some ([],5,())
   | some z=>rec6 (IntKind.i64.wrap (s5.1+1),kK (IntKind.i64.wrap (z.1+z.2)) part s5.2.1,())
 | [],pre,a,b,F,hx,hF=>by
  obtain⟨F,rfl⟩:∃n,F=n+1:=⟨F - 1,by simp at hF;omega⟩;rw[bZ] at hx;subst hx;have:=aJv (m:=m) (s8:=(a,b,(part.length:Int),())) (rec6:=rec6) hp hpl hin part [] s5.2.1 fuel rfl (by omega) ho;rw[aZ,aB1];simp only[hp,aU,aB,mI];simpa using this
 | f::q,pre,a,b,F,hx,hF=>by
  obtain⟨F,rfl⟩:∃n,F=n+1:=⟨F - 1,by simp at hF;omega⟩;have hk:pre.length<part.length:=by rw[hx,aS];simp
  have hget:part.getD pre.length 0=f:=by rw[hx];simp
  have hfm:=hin f (by rw[hx];simp);obtain⟨f0,f1⟩:=bR.1 hfm;have hw:=aQ hk (show part.length≤lenMax by simp only[lenMax];omega);have ih:=fun a' b'=>aLk hs hl hfu hed hok (r7:=r7) (rec6:=rec6) hp hpl hin ho q (pre++[f]) a' b' F (by rw[hx,bG];rfl) (by simp only[aJ] at hF;omega);simp only[aS,aJ,bJ,cG] at ih;have hfl:f<(s1.1.length:Int):=by rw[hed];unfold eF;rw[sZ,hY];exact f1
  have hfn:f.toNat<(eF m).length:=by unfold eF;rw[sZ,hY];omega
  have hes:=bT.1 hok _ (dT hfn);simp only[aC,bT] at hes;have hbey:=fun s8 (h8:part.getD s8.2.2.1.toNat 0=f) s10 r12=>aO4 (m:=m) (s1:=s1) (r4:=r4) (s8:=s8) (s5:=s5) (rec9:=aD (aB1 m l fuel s1 r4 r7 s5 rec6) F) (s10:=s10) (r12:=r12) (part:=part) (es:=(eF m)[f.toNat]) (out:=s5.2.1) (f:=f) hp h8 (by rw[hed,getD_some (aX hfn)]) rfl (iG hes.1) hes.2 (eF m)[f.toNat] [] s8.2.1 fuel rfl (by have:=iG hes.1;omega);have fold:∀g:Int,m.2.2.2.1.getD g.toNat zMt=aE m g:=fun _=>rfl;have hge:(eF m).getD f.toNat []=(eF m)[f.toNat]:=getD_some (aX hfn);rw[aZ,aB1];simp only[hp,dlt hk,dge,aG,aA,aL,hget,f0,f1,hfl,aK,aYx hs hl hfm,aF,mI,fold,hge];have hb:=hbey (a,b,(pre.length:Int),()) (by simpa using hget);simp only[bJ,Int.cast_ofNat_Int] at hb;cases hr7:r7.1 <;> simp only[hr7,aA,aB,aF] at ih⊢
  ·have:¬((1:Int)<1):=by omega
   simp only[this,bB,aB];rw[hb,hw];exact ih _ _
  ·cases decide ((aE m f).2.2.2.2.1<1) <;> simp only[aA,aB];rw[hb,hw];exact ih _ _
theorem aJx (v:Int):∀(l out:List Int),(kK v l out).length=out.length
 | [],_=>rfl
 | f::l,out=>by rw[kK,aJx v l,dB]
theorem aKd {m:Im} {l:List (List Sh)} (hs:aM m=true) (hl:dK l=true) {fuel:Nat} (hfu:1000000<fuel) {s1:List (List Int)×Int×Unit} (hed:s1.1=eF m) (hok:wZ m=true) {r4:List (List Int)×Unit} (hrl:r4.1.length<1000000) (hr:∀p∈r4.1,p.length<1000000∧∀f∈p,inM m f=true):
  ∀(ps pre:List (List Int)) (out:List Int) (F:Nat),r4.1=pre++ps→ps.length<F→out.length=m.2.2.2.1.length→aD (aB0 m l fuel s1 r4) F ((pre.length:Int),out,())=some (nJ m l (eF m) ps out)
 | [],pre,out,F,hx,hF,_=>by
  obtain⟨F,rfl⟩:∃n,F=n+1:=⟨F - 1,by simp at hF;omega⟩;rw[bZ] at hx;rw[aZ,aB0];simp only[hx,aU,aB,nJ]
 | part::ps,pre,out,F,hx,hF,ho=>by
  obtain⟨F,rfl⟩:∃n,F=n+1:=⟨F - 1,by simp at hF;omega⟩;have hk:pre.length<r4.1.length:=by rw[hx,aS];simp
  have hget:r4.1.getD pre.length []=part:=by rw[hx];simp
  obtain⟨hpl,hin⟩:=hr part (by rw[hx];simp);have hw:=aQ hk (show r4.1.length≤lenMax by simp only[lenMax];omega);have ih:=fun out' ho'=>aKd hs hl hfu hed hok hrl hr ps (pre++[part]) out' F (by rw[hx,bG];rfl) (by simp only[aJ] at hF;omega) ho';simp only[aS,aJ,bJ,cG] at ih;have hcy:aAu s1.1 part=some (iO (eF m) part,()):=by unfold aAu;rw[gB hpl,hed];rfl
  rw[aZ,aB0];simp only[dlt hk,dge,aG,aA,aL,hget,hcy,aF];have:=aLk hs hl hfu hed hok (r4:=r4) (r7:=(iO (eF m) part,())) (s5:=((pre.length:Int),out,())) (rec6:=aD (aB0 m l fuel s1 r4) F) (part:=part) (by simpa using hget) hpl hin ho part [] 0 0 fuel rfl (by omega);simp only[bJ] at this;refine this.trans ?_;rw[nJ];cases mI m l (eF m) part out (iO (eF m) part) part 0 0 with
  | none=>rfl
  | some z=>
   simp only[hw];exact ih _ (by rw[aJx,ho])
theorem aGp (m:Im):(eF m).length=m.2.2.2.1.length:=by unfold eF;rw[sZ,hY]
theorem aYC (m:Im) (l:List (List Sh)) (r) (h:sO m l=some r):∃k,aN0 k m l=some r:=by
 unfold sO at h;cases hb:aM m&&(dK l&&wZ m) <;> simp only[hb,aA,aB] at h
 ·cases h
 simp only[aC] at hb;obtain⟨hs,hl,hok⟩:=hb;cases hr:nK (eF m) with
 | none=>rw[hr] at h;cases h
 | some r4=>
  rw[hr] at h;simp only[aF] at h;cases hb:okL r4.1&&r4.1.all (fun p=>okL p&&p.all (inM m)) <;> simp only[hb,aA,aB] at h
  ·cases h
  injection h with h
  subst h;simp only[aC,bT] at hb;have hrl:=iG hb.1;have h12:=(cH (cX hs).1).methods;refine⟨1000001,?_⟩;unfold aN0;refine lK (L:=aEt m l 1000001) (n:=m.2.2.2.1.length) (st:=fun k=>((eF m).take k,(k:Int),())) (fun k rec hk=>?_) (fun rec=>?_) 1000001 (by omega)
  ·have hc:cof m (k:Int)=some (ofB m (k:Int),()):=by unfold cof;rw[(cX hs).1];rfl
   have hx:(eF m)[k]? =some (ofB m (k:Int)):=by
    unfold eF ints;simp[hk]
   rw[aEt];simp only[dlt hk,aA,hc,aF,aJ,bJ,mD (show ((eF m).take k).length+(0+1)<549755813888 by rw[cO];omega),aQ hk (show _≤lenMax by simp only[lenMax];omega)];rw[oB,hx];rfl
  ·have e:(eF m).take m.2.2.2.1.length=eF m:=by rw[←aGp,iD]
   have e0:decide ((0:Int)≤(m.2.2.2.1.length:Int))=true:=aH (by omega);have e1:decide ((m.2.2.2.1.length:Int)<(rowMax:Int))=true:=aH (by simp only[rowMax];omega);have e2:decide ((m.2.2.2.1.length:Int)≤(m.2.2.2.1.length:Int))=true:=aH (by omega);rw[aEt];simp only[aU,aB,e0,e1,e2,aG,aA,e,hr,aF];exact aKd hs hl (by omega) (s1:=(eF m,_,())) rfl hok hrl (fun p hp=>⟨iG (hb.2 p hp).1,fun f hf=>(hb.2 p hp).2 f hf⟩) r4.1 [] _ 1000001 rfl (by omega) (by simp)
theorem aLC {m:Im} {r1:List Int×Int×Unit} (hs:aM m=true):∀(l pre:List Int) (s h:Int) (F:Nat),m.2.2.2.2.1=pre++l→l.length<F→
  aD (aER m r1) F (s,h,(pre.length:Int),())=some ((eW m r1.1 l s h).1,IntKind.i64.wrap ((m.2.1.length:Int)+(eW m r1.1 l s h).2),0,())
 | [],pre,s,h,F,hx,hF=>by
  obtain⟨F,rfl⟩:∃n,F=n+1:=⟨F - 1,by simp at hF;omega⟩;rw[bZ] at hx;rw[aZ,aER];simp only[hx,aU,aB,eW]
 | f::l,pre,s,h,F,hx,hF=>by
  obtain⟨F,rfl⟩:∃n,F=n+1:=⟨F - 1,by simp at hF;omega⟩;have hk:pre.length<m.2.2.2.2.1.length:=by rw[hx,aS];simp
  have hget:m.2.2.2.2.1.getD pre.length 0=f:=by rw[hx];simp
  obtain⟨f0,f1⟩:=bR.1 (aRG hs f (by rw[hx];simp));have hen:m.2.2.2.2.1.length≤12:=by
   have:=(cH (cX hs).1).entries;simp only[eG,aC,aO] at this;omega
  have hw:=aQ hk (show _≤lenMax by simp only[lenMax];omega);have ih:=fun s' h'=>aLC (r1:=r1) hs l (pre++[f]) s' h' F (by rw[hx,bG];rfl) (by simp only[aJ] at hF;omega);simp only[aS,aJ,bJ,cG] at ih;have g0:decide (f≥0)=true:=aH f0;rw[aZ,aER];simp only[dlt hk,dge,aG,aA,aL,hget,hw,f0,f1,aK,aF,eW,cZ];cases decide (f<(r1.1.length:Int)) <;> simp only[aA,aB] <;> exact ih _ _
theorem bAo (m:Im) (l:List (List Sh)) (r) (h:pH m l=some r):∃k,aPg k m l=some r:=by
 unfold pH at h;cases hs:aM m <;> simp only[hs,aA,aB] at h
 ·cases h
 cases hd:sO m l with
 | none=>rw[hd] at h;cases h
 | some r1=>
  rw[hd] at h;simp only[aF] at h;injection h with h
  subst h;refine⟨1000,?_⟩;have hen:m.2.2.2.2.1.length≤12:=by
   have:=(cH (cX hs).1).entries;simp only[eG,aC,aO] at this;omega
  unfold aPg aDG;rw[hd];simp only[aF];cases r1.2.1 !=0 <;> simp only[aA,aB];exact aLC hs m.2.2.2.2.1 [] 0 0 1000 rfl (by omega)
end Go.Pli
