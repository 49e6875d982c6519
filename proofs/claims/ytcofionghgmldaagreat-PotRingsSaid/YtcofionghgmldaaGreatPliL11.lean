/- Who calls whom: the printed functions come to what is told in plain Lean. -/
import Derived.Test.YtcofionghgmldaaGreatPliNt
import Derived.Test.YtcofionghgmldaaGreatPliL5E
namespace Go.Pli
open Go Go.PM
theorem tC {α σ R:Type} {L:σ→(σ→Option R)→Option R} {n B:Nat} {st:Nat→List α→σ} {f:Nat→List α} {fin:List α→Option R} (hB:∀k,k<n→(f k).length≤B)
  (h1:∀(k:Nat) (out:List α) (rec),k<n→out.length≤B*n→L (st k out) rec=rec (st (k+1) (out++f k)))
  (h2:∀out rec,out.length≤B*n→L (st n out) rec=fin out):∀F:Nat,n<F→aE L F (st 0 [])=fin (((List.range n).map f).flatten):=by
 have hlen:∀k,k≤n→(((List.range k).map f).flatten).length≤B*k:=by
  intro k
  induction k with
  | zero=>intro _;simp
  | succ k ih=>
   intro hk
   have:=ih (by omega)
   have hb:=hB k (by omega)
   rw[List.range_succ,kB,iN,aX,Nat.mul_succ]
   simp only[dM,List.map_nil,fY,kC,bZ]
   omega
 have key:∀(j k F:Nat),k+j=n→j<F→aE L F (st k (((List.range k).map f).flatten))=fin (((List.range n).map f).flatten):=by
  intro j
  induction j with
  | zero=>
   intro k F hk hF
   obtain⟨F,rfl⟩:∃m,F=m+1:=⟨F - 1,by omega⟩
   have:k=n:=by omega
   subst this
   rw[aY,h2 _ _ (hlen k (aW _))]
  | succ j ih=>
   intro k F hk hF
   obtain⟨F,rfl⟩:∃m,F=m+1:=⟨F - 1,by omega⟩
   have hb:B*k≤B*n:=Nat.mul_le_mul_left _ (by omega)
   rw[aY,h1 k _ _ (by omega) (mZ (hlen k (by omega)) hb)]
   have:=ih (k+1) F (by omega) (by omega)
   rw[List.range_succ,kB,iN] at this
   simpa using this
 intro F hF
 have:=key n 0 F (by omega) hF
 simpa using this
theorem aBA (p:Int→Bool):∀n:Nat,((List.range n).map fun k:Nat=>bif p (k:Int) then[(k:Int)] else[]).flatten=(ints n).filter p
 | 0=>rfl
 | n+1=>by
  have ih:=aBA p n
  unfold ints at ih⊢
  rw[List.range_succ,kB,iN,ih,kB,List.filter_append]
  congr 1
  cases h:p (n:Int) <;> simp[h]
theorem aGv {α β:Type} (g:α→β) (z:α) (l:List α):(List.range l.length).map (fun k=>g (l.getD k z))=l.map g:=by
 apply uD (by simp)
 intro i h1 h2
 have:i<l.length:=by simpa using h1
 simp[this]
theorem aQP {α β:Type} (g:α→β) (l:List α):(l.map fun k=>[g k]).flatten=l.map g:=by
 induction l with
 | nil=>rfl
 | cons x l ih=>rw[dM,fY,ih];rfl
theorem mQ (n:Nat):(ints n).length=n:=by simp[ints]
theorem aIB {n k:Nat} (h:k<n) (z:Int):(ints n).getD k z=(k:Int):=by simp[ints,h]
theorem kO {n:Nat} {x:Int}:x∈ints n↔0≤x∧x<(n:Int):=by
 simp only[ints,eZ,iV]
 constructor
 ·rintro ⟨k,hk,rfl⟩;omega
 ·rintro ⟨h0,h1⟩;exact⟨x.toNat,by omega,by omega⟩
theorem aEH (m:Im) (c:Int):(lT m c).length≤m.1.length:=by
 unfold lT
 exact mZ (aAg _ _) (by simp[ints])
theorem kL {n:Nat} (h:n<549755813888):decide (n<rowMax)=true:=aI h
theorem aSx (m:Im) (c:Int) (r) (h:wY m c=some r):∃k,aKq k m c=some r:=by
 unfold wY at h
 cases hi:bW m <;> simp only[hi,aA,aB] at h
 ·cases h
 injection h with h
 subst h
 have h8:=(cV hi).classes
 refine⟨m.1.length+1,?_⟩
 unfold aKq
 have:=tC (L:=aB4 m c) (n:=m.1.length) (B:=1) (st:=fun k out=>(out,(k:Int),())) (f:=fun k=>bif dI m.1 (k:Int) c then[(k:Int)] else[]) (fin:=fun out=>some (idL out,())) (fun k _=>by cases dI m.1 (k:Int) c <;> simp)
  (fun k out rec hk ho=>by
   rw[aB4]
   simp only[dlt hk,aA,aF,bT,kL (show out.length+(0+1)<549755813888 by omega),bB hk (by simp only[lenMax];omega)]
   cases dI m.1 (k:Int) c <;> simp)
  (fun out rec _=>by rw[aB4];simp only[bH,aB]) (m.1.length+1) (by omega)
 rw[aBA (fun n=>dI m.1 n c)] at this
 exact this
theorem aSJ (m:Im) (n c:Int) (_:0≤n):(cB m.1 n).contains c=dI m.1 n c:=by
 unfold dI cB
 by_cases hn:n<(m.1.length:Int)
 ·simp only[hn,aM,aA,eK]
  cases hc:(cC m.1 n).contains c
  ·simp
  ·have hm:c∈cC m.1 n:=by simpa using hc
   have:=oJ (n.toNat+1) n (by omega) hm
   simp[this.1,show c<(m.1.length:Int) by omega]
 ·simp[hn]
theorem aNs {m:Im} (hi:bW m=true) (n:Int):jN m.1 n=some (cB m.1 n,()):=by
 have h8:=(cV hi).classes
 have hok:okL m.1=true:=by unfold okL;simp;omega
 unfold jN;rw[hok];rfl
theorem aC0 {l:List Int} {x:Int} (h:l.length<1000000000):rin l x=some (l.contains x,()):=by
 unfold rin;rw[aI (show l.length<9223372036854775807 by omega)];rfl
theorem aN8 (m:Im) (c:Int) (r) (h:vK m c=some r):∃k,aGW k m c=some r:=by
 unfold vK at h
 cases hi:bW m <;> simp only[hi,aA,aB] at h
 ·cases h
 injection h with h
 subst h
 have h8:=(cV hi).classes
 refine⟨m.1.length+1,?_⟩
 unfold aGW
 have:=tC (L:=aA4 m c) (n:=m.1.length) (B:=1) (st:=fun k out=>(out,(k:Int),())) (f:=fun k=>bif dI m.1 (k:Int) c then[(k:Int)] else[]) (fin:=fun out=>some (out,())) (fun k _=>by cases dI m.1 (k:Int) c <;> simp)
  (fun k out rec hk ho=>by
   have hl:=aGx (l:=m.1) (c:=(k:Int))
   rw[aA4]
   simp only[dlt hk,aA,aNs hi,aJ,aC0 (show (cB m.1 (k:Int)).length<1000000000 by omega),aSJ m (k:Int) c (by omega),aF,bT,kL (show out.length+(0+1)<549755813888 by omega),bB hk (by simp only[lenMax];omega)]
   cases dI m.1 (k:Int) c <;> simp)
  (fun out rec _=>by rw[aA4];simp only[bH,aB]) (m.1.length+1) (by omega)
 rw[aBA (fun n=>dI m.1 n c)] at this
 exact this
theorem aJM (m:Im) (c n:Int):aJO m c n=some (dR m c n):=by
 unfold aJO dR iH bX
 by_cases h1:c<0
 ·have:¬0≤c:=by omega
  simp[h1,this]
 ·have h1':0≤c:=by omega
  by_cases h2:c≥(m.1.length:Int)
  ·have:¬c<(m.1.length:Int):=by omega
   simp[h1,h2,this]
  ·have h2':c<(m.1.length:Int):=by omega
   by_cases h3:n<0
   ·have:¬0≤n:=by omega
    simp[h1,h2,h3,this]
   ·have h3':0≤n:=by omega
    by_cases h4:n≥((m.1.getD c.toNat zCl).2.2.1.length:Int)
    ·have:¬n<((m.1.getD c.toNat zCl).2.2.1.length:Int):=by omega
     simp only[h1,h2,h3,h4,h1',h2',h3',this,aM,bQ,aA,aB,aH,aAl]
    ·have h4':n<((m.1.getD c.toNat zCl).2.2.1.length:Int):=by omega
     simp only[h1,h2,h3,h4,h1',h2',h3',h4',aM,bQ,aA,aB,aH]
theorem aNM (m:Im) (c n:Int):aNN m c n=some (yQ m c n):=aJM m c n
theorem aMx (m:Im) (l:List Int) (n:Int):((List.range l.length).map fun k=>bif (dR m (l.getD k 0) n).2.1 then[(dR m (l.getD k 0) n).1] else[]).flatten=qL m l n:=by
 rw[aGv (fun c=>bif (dR m c n).2.1 then[(dR m c n).1] else[]) 0 l]
 unfold qL
 induction l with
 | nil=>rfl
 | cons c l ih=>
  rw[dM,fY,ih,List.filter_cons]
  cases h:(dR m c n).2.1 <;> simp
theorem aMy (m:Im) (l:List Int) (n:Int):(qL m l n).length≤l.length:=by
 unfold qL
 rw[qF]
 exact aAg _ _
theorem aFq {m:Im} {i:Ins} {L:List Int×Int×Unit→(List Int×Int×Unit→Option (List Int×Unit))→Option (List Int×Unit)} (l:List Int) (hl:l.length<1000)
  (hL:∀s rec,L s rec=(bif decide (s.2.1<(l.length:Int)) then
  bif decide (0≤s.2.1)&&decide (s.2.1<l.length) then
   let r4:=dR m (l.getD s.2.1.toNat 0) i.2.2.1
   bif r4.2.1 then
    bif decide (s.1.length+[r4.1].length<rowMax) then
     rec (s.1++[r4.1],IntKind.i64.wrap (s.2.1+1),())
    else none
   else rec (s.1,IntKind.i64.wrap (s.2.1+1),())
  else none
 else some (s.1,()))):aE L (l.length+1) ([],0,())=some (qL m l i.2.2.1,()):=by
 have:=tC (L:=L) (n:=l.length) (B:=1) (st:=fun k out=>(out,(k:Int),())) (f:=fun k=>bif (dR m (l.getD k 0) i.2.2.1).2.1 then[(dR m (l.getD k 0) i.2.2.1).1] else[]) (fin:=fun out=>some (out,())) (fun k _=>by cases (dR m (l.getD k 0) i.2.2.1).2.1 <;> simp)
  (fun k out rec hk ho=>by
   rw[hL]
   simp only[dlt hk,dge,aH,aA,aR,aF,bT,kL (show out.length+(0+1)<549755813888 by omega),bB hk (by simp only[lenMax];omega)]
   cases (dR m (l.getD k 0) i.2.2.1).2.1 <;> simp)
  (fun out rec _=>by rw[hL];simp only[bH,aB]) (l.length+1) (by omega)
 rw[aMx] at this
 exact this
theorem aRD (m:Im) (i:Ins) (r) (h:pW m i=some r):∃k,aJK k m i=some r:=by
 unfold pW at h
 cases hi:bW m <;> simp only[hi,aA,aB] at h
 ·cases h
 injection h with h
 subst h
 have h8:=(cV hi).classes
 have hl:=aEH m i.2.1
 refine⟨(lT m i.2.1).length+1,?_⟩
 unfold aJK bK
 have hb:wY m i.2.1=some (lT m i.2.1,()):=by unfold wY;rw[hi];rfl
 cases h1:i.1==31 <;> simp only[aA,aB]
 ·cases h2:i.1==32 <;> simp only[aA,aB]
  rw[hb]
  simp only[aJ]
  exact aFq (lT m i.2.1) (by omega) (fun s rec=>rfl)
 ·rfl
theorem aNw (m:Im) (i:Ins) (r) (h:oZ m i=some r):∃k,aGA k m i=some r:=by
 unfold oZ at h
 cases hi:bW m <;> simp only[hi,aA,aB] at h
 ·cases h
 injection h with h
 subst h
 have h8:=(cV hi).classes
 have hl:=aEH m i.2.1
 refine⟨(lT m i.2.1).length+1,?_⟩
 unfold aGA bK
 have hb:vK m i.2.1=some (lT m i.2.1,()):=by unfold vK;rw[hi];rfl
 cases h1:i.1==31 <;> simp only[aA,aB,aJ]
 ·cases h2:i.1==32 <;> simp only[aA,aB]
  rw[hb]
  simp only[aJ]
  exact aFq (lT m i.2.1) (by omega) (fun s rec=>rfl)
 ·have h2:(i.1==32)=false:=by
   have:i.1=31:=by simpa using h1
   rw[this];rfl
  have hroom:decide (([]:List Int).length+[i.2.1].length<rowMax)=true:=kL (by simp)
  rw[h2,hroom]
  rfl
theorem uP {m:Im} (hi:bW m=true) (i:Ins):(bK m i).length≤8:=by
 have h8:=(cV hi).classes
 have hl:=aEH m i.2.1
 have hs:=aMy m (lT m i.2.1) i.2.2.1
 unfold bK
 cases i.1==31 <;> simp only[aA,aB]
 ·cases i.1==32 <;> simp only[aA,aB]
  ·simp
  ·omega
 ·simp
theorem bD {m:Im} {f:Int}:inM m f=true↔0≤f∧f<(m.2.2.2.1.length:Int):=by
 unfold inM sin nM;simp
theorem aNF (m:Im) (f g:Int) (r) (h:vE m f g=some r):∃k,aGE k m f g=some r:=by
 unfold vE at h
 cases hi:bW m&&inM m f <;> simp only[hi,aA,aB] at h
 ·cases h
 injection h with h
 subst h
 simp only[aC] at hi
 obtain⟨hi,hf⟩:=hi
 obtain⟨h0,h1⟩:=bD.1 hf
 have hx:=(lH ((cV hi).mts _ (pH h0 h1))).2.2.2.1.1
 have hd:m.2.2.2.1.getD f.toNat zMt=aD m f:=rfl
 have hr:(decide (0≤f)&&decide (f<(m.2.2.2.1.length:Int)))=true:=by simp[h0,h1]
 refine⟨(aD m f).2.2.2.1.length+1,?_⟩
 unfold aGE hU
 have:=lJ (L:=aAS m f g) (xs:=(aD m f).2.2.2.1) (st:=fun k=>((k:Int),())) (p:=fun i=> !(bK m i).contains g) (ex:=some (true,())) (fin:=some (false,()))
  (fun k x rec hk hlt=>by
   have ht:oZ m x=some (bK m x,()):=by unfold oZ;rw[hi];rfl
   have htl:=uP hi x
   rw[aAS]
   simp only[hd,hr,dlt hlt,dge,aH,aA,aR,getD_some hk,ht,aJ,aC0 (show (bK m x).length<1000000000 by omega),bB hlt (by simp only[lenMax];omega)]
   cases (bK m x).contains g <;> rfl)
  (fun rec=>by rw[aAS];simp only[hd,hr,bH,aA,aB]) ((aD m f).2.2.2.1.length+1) (by omega)
 refine this.trans ?_
 rw[←List.not_any_eq_all_not]
 cases (aD m f).2.2.2.1.any fun i=>(bK m i).contains g <;> rfl
theorem aND (m:Im) (r) (h:vD m=some r):∃k,aGD k m=some r:=by
 unfold vD at h
 cases hi:bW m <;> simp only[hi,aA,aB] at h
 ·cases h
 injection h with h
 subst h
 have h12:=(cV hi).methods
 refine⟨m.2.2.2.1.length+1,?_⟩
 unfold aGD
 have:=tC (L:=aAQ m (m.2.2.2.1.length+1)) (n:=m.2.2.2.1.length) (B:=1) (st:=fun k out=>(out,(k:Int),())) (f:=fun k=>[(ints m.2.2.2.1.length).filter fun g=>hU m (k:Int) g]) (fin:=fun out=>some (out,())) (fun k _=>by simp)
  (fun k out rec hk ho=>by
   rw[aAQ]
   simp only[dlt hk,aA]
   have hin:inM m (k:Int)=true:=bD.2 ⟨by omega,by omega⟩
   have:=tC (L:=aAR m (out,(k:Int),()) rec) (n:=m.2.2.2.1.length) (B:=1) (st:=fun j l=>(l,(j:Int),())) (f:=fun j=>bif hU m (k:Int) (j:Int) then[(j:Int)] else[]) (fin:=fun l=>rec (out++[l],((k+1:Nat):Int),())) (fun j _=>by cases hU m (k:Int) (j:Int) <;> simp)
    (fun j l rec2 hj hl=>by
     have hc:vE m (k:Int) (j:Int)=some (hU m (k:Int) (j:Int),()):=by unfold vE;rw[hi,hin];rfl
     rw[aAR]
     simp only[dlt hj,aA,hc,aJ,aF,bT,kL (show l.length+(0+1)<549755813888 by omega),bB hj (by simp only[lenMax];omega)]
     cases hU m (k:Int) (j:Int) <;> simp)
    (fun l rec2 _=>by
     rw[aAR]
     simp only[bH,aB,aF,bT,kL (show out.length+(0+1)<549755813888 by omega),aH,aA,bB hk (show _≤lenMax by simp only[lenMax];omega)]) (m.2.2.2.1.length+1) (by omega)
   rw[aBA (fun g=>hU m (k:Int) g)] at this
   exact this)
  (fun out rec _=>by rw[aAQ];simp only[bH,aB]) (m.2.2.2.1.length+1) (by omega)
 rw[aQP] at this
 refine this.trans ?_
 unfold cM
 rw[show ints m.2.2.2.1.length=(List.range m.2.2.2.1.length).map fun k:Nat=>(k:Int) from rfl,List.map_map]
 rfl
end Go.Pli

namespace Go.Pli
open Go Go.PM
theorem nU {σ R:Type} {L:σ→(σ→Option R)→Option R} {n:Nat} {st:Nat→σ} {fin:Option R}
  (h1:∀(k:Nat) (rec),k<n→L (st k) rec=rec (st (k+1))) (h2:∀rec,L (st n) rec=fin):∀F:Nat,n<F→aE L F (st 0)=fin:=by
 have key:∀(j k F:Nat),k+j=n→j<F→aE L F (st k)=fin:=by
  intro j
  induction j with
  | zero=>
   intro k F hk hF
   obtain⟨F,rfl⟩:∃m,F=m+1:=⟨F - 1,by omega⟩
   have:k=n:=by omega
   subst this
   rw[aY,h2]
  | succ j ih=>
   intro k F hk hF
   obtain⟨F,rfl⟩:∃m,F=m+1:=⟨F - 1,by omega⟩
   rw[aY,h1 k _ (by omega)]
   exact ih (k+1) F (by omega) (by omega)
 intro F hF
 exact key n 0 F (by omega) hF
theorem fI {α:Type} {l:List α} {n:Nat} {z:α} (h:l.length≤n):l.getD n z=z:=by simp[cW,h]
theorem fD {α:Type} {l:List α} (h:l.length<1000000):okL l=true:=by simpa[okL] using h
theorem aKE {a b:Nat} (h:a<b):Nat.blt a b=true:=by rw[fW];exact h
theorem aJW {α:Type} (b:Bool) (x y:α):(bif b then some x else some y)=some (bif b then x else y):=by cases b <;> rfl
theorem aCC {α:Type} (l:List (List α)) {k:Nat} (hk:k<l.length):(l.take (k+1)).flatten=(l.take k).flatten++l.getD k []:=by
 rw[rS,iN]
 congr 1
 simp[hk]
theorem aFs {α:Type} (l:List (List α)) (k:Nat):(l.take k).flatten.length≤l.flatten.length:=by
 have:l.flatten=(l.take k).flatten++(l.drop k).flatten:=by rw[←iN,xI]
 rw[this,aX]
 exact Nat.le_add_right _ _
theorem aQp (s:Unit) (n:Int) (r) (h:wM s n=some r):aIK s n=some r:=by
 unfold wM at h
 cases hb:decide (0≤n)&&Nat.blt n.toNat 1000000000 <;> simp only[hb,aA,aB] at h
 ·cases h
 injection h with h
 subst h
 simp only[aC,aP,fW] at hb
 obtain⟨h0,h1⟩:=hb
 have h0':¬n<0:=by omega
 have e1:IntKind.i64.wrap ((0:Int) - (([]:List Tp).length:Int))=0:=by simp;rfl
 have e2:IntKind.i64.wrap (n - 0)=n:=by rw[cT] <;> omega
 unfold aIK
 rw[e1,e2]
 by_cases hp:n>0
 ·have hp':0<n:=hp
  have hm:n<(rowMax:Int):=by simp only[rowMax];omega
  have:0≤max n 0:=by omega
  simp[h0',hp',hm,this]
 ·simp[h0',hp]
theorem aRT (l:List (List Tp)) (r) (h:oI l=some r):∃k,aJX k l=some r:=by
 unfold oI at h
 cases hb:Nat.blt l.flatten.length 1000000000&&okL l <;> simp only[hb,aA,aB] at h
 ·cases h
 injection h with h
 subst h
 simp only[aC,fW] at hb
 obtain⟨hf,hl⟩:=hb
 have hl:=iP hl
 refine⟨l.length+1,?_⟩
 unfold aJX
 refine nU (n:=l.length) (st:=fun k=>(((l.take k).flatten.length:Int),(k:Int),())) (fin:=some (l.flatten,())) (fun k rec hk=>?_) (fun rec=>?_) (l.length+1) (by omega)
 ·unfold aEA
  have hw:IntKind.i64.wrap (((l.take k).flatten.length:Int)+((l.getD k ([]:List Tp)).length:Int))=((l.take (k+1)).flatten.length:Int):=by
   have e:=aCC l hk
   have:=aFs l (k+1)
   rw[e,aX] at this⊢
   rw[cT] <;> omega
  have hn:¬((l.take (k+1)).flatten.length:Int)<0:=by omega
  simp only[dlt hk,dge,aH,aA,aR,hw,hn,bQ,aB,bB hk (show l.length≤lenMax by simp only[lenMax];omega)]
 ·unfold aEA
  have hg:wM () ((l.take l.length).flatten.length:Int)=some ([],()):=by
   unfold wM
   rw[iA]
   have h1:(0:Int)≤(l.flatten.length:Int):=by omega
   have h2:Nat.blt (l.flatten.length:Int).toNat 1000000000=true:=by rw[fW];omega
   simp only[h1,h2,aM,aH,aA]
  simp only[bH,aB,hg,aJ]
  have:=nU (L:=aBV l) (n:=l.length) (st:=fun k=>((l.take k).flatten,(k:Int),())) (fin:=some (l.flatten,())) (fun k rec hk=>by
   unfold aBV
   have hm:decide ((l.take k).flatten.length+(l.getD k ([]:List Tp)).length<rowMax)=true:=by
    have e:=aCC l hk
    have:=aFs l (k+1)
    rw[e,aX] at this
    exact aI (by simp only[rowMax];omega)
   simp only[dlt hk,dge,aH,aA,aR,hm,aCC l hk,bB hk (show l.length≤lenMax by simp only[lenMax];omega)])
   (fun rec=>by
    unfold aBV
    simp only[bH,aB,iA]) (l.length+1) (by omega)
  simpa using this
theorem aBU {l:List (List Tp)} (h1:l.flatten.length<1000000000) (h2:l.length<1000000):oI l=some (l.flatten,()):=by
 unfold oI
 rw[aKE h1,fD h2]
 rfl
theorem aQc (s:List Int) (v:Int) (h:aQf s v):∃k,aQe k s v=some (aBC s v,()):=by
 refine⟨s.length+1,aDO (st:=fun k=>((k:Int),())) (p:=fun n=>v==n) (fun k x rec hk hlt=>?_) (fun rec=>?_) _ (hZ _)⟩
 ·unfold aD6
  simp only[dlt hlt,dge,aH,aA,aR,getD_some hk,bB hlt h.1.1]
 ·unfold aD6
  simp only[bH,aB]
theorem aRO (s:List Int) (v:Int) (_:aRP s v):aJS s v=some (wW s v,()):=by
 unfold aJS aBC wW
 rw[aBD,List.contains_eq_any_beq]
theorem aSh (s:List Iq):aJ6 s=some (idL s,()):=by simp[aJ6,idL]
theorem aRA (m:Im) (c:Int) (r) (h:cup m c=some r):aJI m c=some r:=by
 unfold cup at h
 cases hb:sin c (m.1.length:Int) <;> simp only[hb,aA,aB] at h
 ·cases h
 injection h with h
 subst h
 simp only[sin,aC,aP] at hb
 have h1:¬c<0:=by omega
 have h2:¬c≥(m.1.length:Int):=by omega
 unfold aJI kup eF
 simp only[hb.1,hb.2,h1,h2,aM,bQ,aH,mB,aA]
 cases decide ((m.1.getD c.toNat zCl).1≥c) <;> rfl
theorem aQV {m:Im} {c:Int} (h0:0≤c) (h1:c<(m.1.length:Int)):dQ m c=dQ m (kup m.1 c)++(bX m c).2.1:=by
 have hk:=lL (l:=m.1) h0
 have h2:kup m.1 c<(m.1.length:Int):=by omega
 unfold dQ cB
 simp only[h1,h2,aM,aA]
 rw[hJ h0]
 simp
theorem aJp {m:Im} {c:Int} (h:c<0):dQ m c=[]:=by
 unfold dQ cB
 rw[fK h]
 cases decide (c<(m.1.length:Int)) <;> rfl
theorem aKh {m:Im} (hi:bW m=true) {c:Int}:(bX m c).2.1.length≤8:=by
 have hf:=cV hi
 unfold bX
 by_cases hc:c.toNat<m.1.length
 ·have:=hf.cls (m.1.getD c.toNat zCl) (by simp[hc])
  simp only[pP,iF,aC,aP] at this
  have:=this.2.2.1.1
  omega
 ·have:m.1.getD c.toNat zCl=zCl:=fI (by omega)
  rw[this];decide
theorem aKm {m:Im} (hi:bW m=true):∀(n:Nat) (c:Int) (out:List Tp),c.toNat<n→c<(m.1.length:Int)→out.length+8*(c.toNat+1)≤1000→
  aE (aB3 m) (n+1) (c,out,())=some (dQ m c++out,())
 | 0,_,_,h,_,_=>by omega
 | n+1,c,out,h,hc,ho=>by
  rw[aY,aB3]
  by_cases h0:c<0
  ·have:¬c≥0:=by omega
   simp only[this,bQ,aB,aJp h0,qD]
  ·have h0':c≥0:=by omega
   have h0'':0≤c:=by omega
   have hk:=lL (l:=m.1) h0''
   have h8:=aKh hi (c:=c)
   have hcat:oI [(m.1.getD c.toNat zCl).2.1,out]=some ((bX m c).2.1++out,()):=by
    rw[aBU]
    ·simp[bX]
    ·simp only[fY,kC,bZ,aX]
     unfold bX at h8
     omega
    ·simp
   have hup:cup m c=some (kup m.1 c,()):=by simp[cup,sin,h0'',hc]
   simp only[h0',hc,aM,aH,aA,hcat,hup,aJ]
   rw[aQV h0'' hc,cF]
   by_cases hn:kup m.1 c<0
   ·rw[aY,aB3]
    have:¬kup m.1 c≥0:=by omega
    simp only[this,bQ,aB,aJp hn,qD]
   ·exact aKm hi n (kup m.1 c) _ (by omega) (by omega) (by rw[aX];omega)
theorem aSv (m:Im) (c:Int) (r) (h:pX m c=some r):∃k,aKo k m c=some r:=by
 unfold pX at h
 cases hi:bW m <;> simp only[hi,aA,aB] at h
 ·cases h
 injection h with h
 subst h
 have h8:=(cV hi).classes
 refine⟨c.toNat+1+1,?_⟩
 unfold aKo
 by_cases hc:c≥(m.1.length:Int)
 ·have:¬c<(m.1.length:Int):=by omega
  simp[hc,dQ,cB,this]
 ·have hc':c<(m.1.length:Int):=by omega
  simp only[hc,bQ,aB]
  rw[aKm hi (c.toNat+1) c [] (by omega) hc' (by simp only[bT];omega),bZ]
theorem aBP {m:Im} (hi:bW m=true) (c:Int):(dQ m c).length≤8*8:=by
 have h8:=(cV hi).classes
 have hl:(cB m.1 c).length≤8:=by
  unfold cB
  by_cases hc:c<(m.1.length:Int)
  ·have:=tW m.1 (c.toNat+1) c (by omega)
   by_cases h0:0≤c
   ·simp[hc];omega
   ·simp[hc,fK (show c<0 by omega)]
  ·simp[hc]
 unfold dQ
 have key:∀l:List Int,((l.map fun s=>(bX m s).2.1).flatten).length≤8*l.length:=by
  intro l
  induction l with
  | nil=>simp
  | cons x l ih=>
   have:=aKh hi (c:=x)
   simp only[dM,fY,aX,aF]
   omega
 have:=key (cB m.1 c).reverse
 rw[List.length_reverse] at this
 omega
theorem aRF (m:Im) (c:Int) (r) (h:wV m c=some r):aJP m c=some r:=by
 unfold wV at h
 cases hi:bW m <;> simp only[hi,aA,aB] at h
 ·cases h
 injection h with h
 subst h
 have hl:=aBP hi c
 unfold aJP pX qM
 rw[hi]
 simp only[aA,aJ]
 rw[cT (by omega) (by omega)]
 simp
theorem aEg {α:Type} (a b:List α) (n:Nat) (z:α):(a++b).getD n z=if n<a.length then a.getD n z else b.getD (n - a.length) z:=by
 by_cases h:n<a.length <;> simp[cW,List.getElem?_append,h]
theorem aSb (x:Mt) (n:Int) (r) (h:tV x n=some r):aJ3 x n=some r:=by
 unfold tV at h
 cases hb:okL x.1&&okL x.2.1 <;> simp only[hb,aA,aB] at h
 ·cases h
 injection h with h
 subst h
 simp only[aC] at hb
 have h1:=iP hb.1
 have h2:=iP hb.2
 unfold aJ3 jT
 by_cases h0:n<0
 ·simp[h0]
 ·rw[cT (by omega) (by omega)]
  by_cases h3:n≥(x.1.length:Int)+(x.2.1.length:Int)
  ·have:(x.1++x.2.1).length≤n.toNat:=by rw[aX];omega
   rw[fI this]
   simp only[h0,h3,aM,bQ,aA,aB]
  ·simp only[h0,h3,bQ,aB]
   rw[aEg]
   by_cases h4:n<(x.1.length:Int)
   ·have h5:n.toNat<x.1.length:=by omega
    have h6:0≤n:=by omega
    simp[h4,h5,h6]
   ·have h5:¬n.toNat<x.1.length:=by omega
    have h6:0≤n - (x.1.length:Int):=by omega
    have h7:n - (x.1.length:Int)<(x.2.1.length:Int):=by omega
    rw[cT (by omega) (by omega)]
    have h8:(n - (x.1.length:Int)).toNat=n.toNat - x.1.length:=by omega
    simp only[h4,h5,h6,h7,aM,bQ,aH,aA,aB,cL,h8]
theorem aOS (o:Int):aHD o=some (mK o,()):=by
 unfold aHD mK
 cases decide (o≥7) <;> rfl
theorem aQz (o:Int):aIZ o=some (eL o):=by
 unfold aIZ eL gU jB wS
 simp only[aJW]
theorem aQ0 (m:Im) (o:Int) (t w:Tp):aJq m o t w=some (dZ m o t w,()):=by
 unfold aJq dZ
 cases w.1==0 <;> cases w.1==4 <;> cases iR t <;> cases o !=34 <;> rfl
theorem aQI (i:Ins) (pc:Int):aI3 i pc=some (dX i pc,()):=by
 unfold aI3 dX
 cases i.1==18 <;> cases i.1==19 <;> cases i.1==33 <;> rfl
theorem aJr {x:Mt} {t:List Tp} (h1:x.1.length<1000000) (h2:t.length≤x.1.length):tO x t=some (iT x t,()):=by
 unfold tO
 rw[fD h1,fD (show t.length<1000000 by omega),aI h2]
 rfl
theorem aQ4 (x:Mt) (t:List Tp) (r) (h:tO x t=some r):aJs x t=some r:=by
 unfold tO at h
 cases hb:okL x.1&&(okL t&&decide (t.length≤x.1.length)) <;> simp only[hb,aA,aB] at h
 ·cases h
 injection h with h
 subst h
 simp only[aC,aP] at hb
 have h1:=iP hb.1
 have h3:=hb.2.2
 have h4:(t.length:Int)≤(x.1.length:Int):=by omega
 have h5:(0:Int)≤(t.length:Int):=by omega
 unfold aJs iT
 rw[iA,aBU (by simp only[fY,kC,bZ,aX,eJ];omega) (by simp)]
 simp only[h4,h5,aM,aH,aA,aJ,eV,fY,kC,bZ]
 cases x.2.2.1.1 !=5 <;> rfl
end Go.Pli

namespace Go.Pli
open Go Go.PM
theorem dF {m:Im} (h:aK m=true):bW m=true∧kJ m=true:=by simpa[aK] using h
theorem aFT {m:Im} (h:aK m=true):fH m m.2.1=true:=by
 have:=(dF h).2
 simp only[kJ,aC] at this
 exact this.1
theorem uT {m:Im} (h:aK m=true):kX m=true:=by
 have:=(dF h).2
 simp only[kJ,aC] at this
 exact this.2.1
theorem qO {m:Im} (h:aK m=true) {f:Int} (hf:inM m f=true):fF m (aD m f)=true:=by
 have:=(dF h).2
 simp only[kJ,aC] at this
 obtain⟨h0,h1⟩:=bD.1 hf
 exact bM.1 this.2.2.1 _ (pH h0 h1)
theorem fB {m:Im} (h:aK m=true) {f:Int} (hf:inM m f=true):0<codeN m f∧codeN m f≤64:=by
 have h1:=qO h hf
 simp only[fF,aC,aP] at h1
 obtain⟨a,b⟩:=bD.1 hf
 have h2:=(lH ((cV (dF h).1).mts _ (pH a b))).2.2.2.1.1
 unfold codeN
 have:=h1.2.2.2.1
 omega
theorem aME {m:Im} (h:aK m=true) {f:Int} (hf:inM m f=true):(jP m f).length=codeN m f:=by
 have h1:=qO h hf
 simp only[fF,aC,aP] at h1
 exact h1.2.2.2.2.1
theorem uS {m:Im} (h:aK m=true) {f:Int} (hf:inM m f=true):(aD m f).1.length+(aD m f).2.1.length≤8:=by
 have h1:=qO h hf
 simp only[fF,aC,aP] at h1
 exact h1.2.2.2.2.2.1
theorem aD4 {m:Im} {f pc:Int} (hp:sin pc (codeN m f:Int)=true):aG m f pc∈(aD m f).2.2.2.1:=by
 simp only[sin,aC,aP] at hp
 unfold codeN at hp
 have:pc.toNat<(aD m f).2.2.2.1.length:=by omega
 unfold aG
 rw[getD_some (aT this)]
 exact dU this
theorem sJ {m:Im} (h:aK m=true) {f pc:Int} (hf:inM m f=true) (hp:sin pc (codeN m f:Int)=true):cG m (aD m f) (aG m f pc)=true:=by
 have h1:=qO h hf
 simp only[fF,aC] at h1
 exact bM.1 h1.2.2.2.2.2.2 _ (aD4 hp)
theorem aJa {α β:Type} (g:α→List β):∀l:List α,((l.reverse.map g).flatten).length=bC (l.map fun x=>(g x).length)
 | []=>rfl
 | x::l=>by
  have:=aJa g l
  simp only[List.reverse_cons,kB,iN,aX,dM,List.map_nil,fY,kC,bZ,bC]
  rw[this]
  omega
theorem zV {m:Im} {c:Int} (h:c<(m.1.length:Int)):(dQ m c).length=jD m c:=by
 unfold dQ jD cB
 simp only[h,aM,aA]
 exact aJa _ _
theorem xZ {m:Im} {c n:Int} (h:iH m c n=true):(bX m c).2.2.1[n.toNat]? =some (dR m c n).1:=by
 unfold dR
 rw[h]
 simp only[iH,aC,aP] at h
 have hk:n.toNat<(bX m c).2.2.1.length:=by omega
 simp[hk]
theorem aQC (m:Im) (i:Ins) (f:Int) (r) (h:fof m i f=some r):aI2 m i f=some r:=by
 unfold fof at h
 cases hb:aK m&&(inM m f&&cG m (aD m f) i) <;> simp only[hb,aA,aB] at h
 ·cases h
 injection h with h
 subst h
 simp only[aC] at hb
 obtain⟨hs,hf,hi⟩:=hb
 have hfit:=(dF hs).1
 have hcl:=uT hs
 obtain⟨f0,f1⟩:=bD.1 hf
 have hloc:=uS hs hf
 have hL:tV (aD m f) i.2.1=some (jT (aD m f) i.2.1,()):=by
  unfold tV
  rw[fD (by omega),fD (by omega)]
  rfl
 have hF:pX m i.2.1=some (dQ m i.2.1,()):=by unfold pX;rw[hfit];rfl
 unfold aI2 eM
 have hr:(decide (0≤f)&&decide (f<(m.2.2.2.1.length:Int)))=true:=by simp[f0,f1]
 simp only[hr,aA]
 have fold:∀g:Int,m.2.2.2.1.getD g.toNat zMt=aD m g:=fun _=>rfl
 simp only[fold]
 cases hp:(eL i.1).2.1 <;> simp only[aA,aB]
 rcases i with⟨o,a,b,⟨⟩⟩
 simp only at hL hF hp⊢
 cases e:o==3
 case true=>simp only[aA,hL,aJ,fV]
 simp only[aB]
 cases e:o==4
 case true=>simp only[aA,hL,aJ,fV]
 simp only[aB]
 cases e:o==22
 case true=>simp only[aA,fV,mX]
 simp only[aB]
 cases e:o==27
 case true=>
  obtain rfl:o=27:=by simpa using e
  have:sin a (m.1.length:Int)=true∧sin b (jD m a:Int)=true:=by simpa[cG] using hi
  obtain⟨h1,h2⟩:=this
  simp only[sin,aC,aP] at h1 h2
  rw[←zV h1.2] at h2
  simp only[aA,hF,aJ,h2.1,h2.2,aM,aH,fV,mX]
 simp only[aB]
 cases e:o==28
 case true=>
  obtain rfl:o=28:=by simpa using e
  have:sin a (m.1.length:Int)=true∧sin b (jD m a:Int)=true:=by simpa[cG] using hi
  obtain⟨h1,h2⟩:=this
  simp only[sin,aC,aP] at h1 h2
  rw[←zV h1.2] at h2
  simp only[aA,hF,aJ,h2.1,h2.2,aM,aH,mX]
 simp only[aB]
 cases e:o==29
 case true=>
  obtain rfl:o=29:=by simpa using e
  have:sin a (m.2.1.length:Int)=true:=by simpa[cG] using hi
  simp only[sin,aC,aP] at this
  simp only[aA,this.1,this.2,aM,aH,fV]
 simp only[aB]
 cases e:o==30
 case true=>
  obtain rfl:o=30:=by simpa using e
  have:sin a (m.2.1.length:Int)=true:=by simpa[cG] using hi
  simp only[sin,aC,aP] at this
  simp only[aA,this.1,this.2,aM,aH,fV]
 simp only[aB]
 cases e:o==31
 case true=>
  obtain rfl:o=31:=by simpa using e
  have:sin a (m.2.2.2.1.length:Int)=true:=by simpa[cG] using hi
  have hg:=uS hs (f:=a) this
  simp only[sin,aC,aP] at this
  simp only[aA,this.1,this.2,aM,aH,aJr (x:=aD m a) (t:=[]) (by omega) (by simp),aJ]
 simp only[aB]
 cases e:o==32
 case true=>
  obtain rfl:o=32:=by simpa using e
  have:sin a (m.1.length:Int)=true∧sin b ((bX m a).2.2.1.length:Int)=true:=by simpa[cG] using hi
  have hsl:iH m a b=true:=by unfold iH;unfold sin at this;rw[this.1,this.2];rfl
  have h1:=xZ hsl
  simp only[sin,aC,aP] at this
  obtain⟨h2,h3⟩:=sF (uA hcl this.1.1 this.1.2) h1
  have hg:=uS hs (f:=(dR m a b).1) (bD.2 h2)
  simp only[aA,h2.1,h2.2,aM,aH,fV,mX,aJr (x:=aD m (dR m a b).1) (t:=[tR a]) (by omega) (by simp only[aF,bT];omega),aJ]
 simp only[aB]
 cases e:o==34
 case true=>simp only[aA,fV,mX]
 simp only[aB]
 cases e:o==33
 case true=>simp only[aA,fV,aJW];cases (aD m f).2.2.1.1 !=5 <;> rfl
 simp only[aB]
theorem aQD {m:Im} {i:Ins} {f:Int} (hs:aK m=true) (hf:inM m f=true) (hi:cG m (aD m f) i=true):fof m i f=some (eM m (aD m f) i,()):=by
 unfold fof
 rw[hs,hf,hi]
 rfl
theorem cQ {α:Type} {P:α→Prop} {b:Bool} {x y:α} (h1:P x) (h2:P y):P (bif b then x else y):=by cases b <;> assumption
def Small (e:Eff):Prop:=e.1.length≤12∧e.2.1.length≤1
theorem aFO {m:Im} (hs:aK m=true) {g:Int} (hg:inM m g=true) {t:List Tp} (ht:t.length≤1):Small (iT (aD m g) t):=by
 have:=uS hs hg
 unfold Small iT
 constructor
 ·simp only[aX,eJ];omega
 ·cases (aD m g).2.2.1.1 !=5 <;> simp
theorem aMw (o:Int):Small (eL o).1:=by
 unfold eL
 repeat' refine cQ (P:=fun z:Eff×Bool×Unit=>Small z.1) ⟨by decide,by decide⟩ ?_
 exact⟨by decide,by decide⟩
theorem aFN {m:Im} (hs:aK m=true) {i:Ins} {f:Int} (hi:cG m (aD m f) i=true):Small (eM m (aD m f) i):=by
 have hcl:=uT hs
 unfold eM
 rcases i with⟨o,a,b,⟨⟩⟩
 refine cQ (aMw _) ?_
 refine cQ ⟨by simp,by simp⟩ (cQ ⟨by simp,by simp⟩ (cQ ⟨by simp,by simp⟩ (cQ ⟨by simp,by simp⟩ (cQ ⟨by simp,by simp⟩ (cQ ⟨by simp,by simp⟩ (cQ ⟨by simp,by simp⟩ ?_))))))
 cases e:o==31
 case true=>
  obtain rfl:o=31:=by simpa using e
  have:sin a (m.2.2.2.1.length:Int)=true:=by simpa[cG] using hi
  exact aFO hs this (by simp)
 simp only[aB]
 cases e:o==32
 case true=>
  obtain rfl:o=32:=by simpa using e
  have:sin a (m.1.length:Int)=true∧sin b ((bX m a).2.2.1.length:Int)=true:=by simpa[cG] using hi
  have hsl:iH m a b=true:=by unfold iH;unfold sin at this;rw[this.1,this.2];rfl
  have h1:=xZ hsl
  simp only[sin,aC,aP] at this
  obtain⟨h2,h3⟩:=sF (uA hcl this.1.1 this.1.2) h1
  exact aFO hs (bD.2 h2) (by simp)
 simp only[aB]
 exact cQ ⟨by simp,by simp⟩ (cQ (cQ ⟨by simp,by simp⟩ ⟨by simp,by simp⟩) ⟨by simp,by simp⟩)
theorem aOV (i:Ins) (pc:Int):(dX i pc).length≤2:=by
 unfold dX
 cases i.1==18 <;> cases i.1==19 <;> cases i.1==33 <;> exact eO rfl
theorem aEY {α β:Type} (p:α→β→Bool) (x:α) (_:β):∀(s:List α) (e:List β),e.length=s.length→((s.zip e).all fun q=>p q.1 q.2)=e.zipIdx.all fun q=>p (s.getD q.2 x) q.1:=by
 intro s e h
 rw[aCp,bM,bM]
 constructor
 ·rintro h1 ⟨b,k⟩ hq
  obtain⟨hk,hb⟩:=List.mem_zipIdx' hq
  have:(s.getD k x,b)∈s.zip e:=by
   rw[List.mem_iff_getElem?]
   refine⟨k,?_⟩
   have hks:k<s.length:=by omega
   simp[List.getElem?_zip_eq_some,hks,hk,hb]
  exact h1 _ this
 ·rintro h1 ⟨a,b⟩ hq
  obtain⟨k,hk⟩:=List.mem_iff_getElem?.1 hq
  rw[List.getElem?_zip_eq_some] at hk
  have h2:(b,k)∈e.zipIdx:=by
   rw[List.mem_zipIdx_iff_getElem?]
   exact hk.2
  have:=h1 _ h2
  simpa[hk.1] using this
theorem aQu (m:Im) (f pc:Int) (s:List Tp) (r) (h:pR m f pc s=some r):∃k,aIX k m f pc s=some r:=by
 unfold pR at h
 cases hb:aK m&&okL s <;> simp only[hb,aA,aB] at h
 ·cases h
 injection h with h
 subst h
 simp only[aC] at hb
 obtain⟨hs,hsl⟩:=hb
 have hsl:=iP hsl
 refine⟨20,?_⟩
 have fold:∀g:Int,m.2.2.2.1.getD g.toNat zMt=aD m g:=fun _=>rfl
 have fold2:(aD m f).2.2.2.1.getD pc.toNat zIns=aG m f pc:=rfl
 have fold3:(aD m f).2.2.2.1.length=codeN m f:=rfl
 unfold aIX aO
 simp only[fold,fold2,fold3]
 cases hf:inM m f
 ·simp only[mC,cJ,aA]
  have:¬(0≤f∧f<(m.2.2.2.1.length:Int)):=fun hh=>by rw[bD.2 hh] at hf;cases hf
  by_cases h0:f<0
  ·simp only[h0,aM,aA]
  ·have h1:f≥(m.2.2.2.1.length:Int):=by omega
   simp only[h0,h1,aM,bQ,aA,aB]
 obtain⟨f0,f1⟩:=bD.1 hf
 have f2:¬f<0:=by omega
 have f3:¬f≥(m.2.2.2.1.length:Int):=by omega
 have hc:=fB hs hf
 simp only[f0,f1,f2,f3,aM,bQ,aH,eK,aA,aB]
 by_cases p0:pc<0
 ·have:¬0≤pc:=by omega
  simp only[p0,sin,this,aM,bQ,mC,cJ,aA]
 have p0':0≤pc:=by omega
 by_cases p1:pc≥(codeN m f:Int)
 ·have:¬pc<(codeN m f:Int):=by omega
  simp only[p0,p1,sin,this,aM,bQ,aAl,cJ,aA,aB]
 have p1':pc<(codeN m f:Int):=by omega
 have hp:sin pc (codeN m f:Int)=true:=by simp[sin,p0',p1']
 simp only[p0,p0',p1,p1',hp,aM,bQ,aH,bA,aA,aB,wW]
 cases hn:(dX (aG m f pc) pc).contains (codeN m f:Int)
 case true=>simp only[aA]
 simp only[aB]
 cases h6:(aG m f pc).1==6
 case true=>
  simp only[aA]
  by_cases s0:s.length=0
  ·have:((s.length:Int)==0)=true:=by simp[s0]
   rw[this,aI s0]
   rfl
  ·have:((s.length:Int)==0)=false:=rO.2 (by omega)
   rw[this,bO s0]
   simp only[mB,aB]
   by_cases s8:s.length≥8
   ·have:(s.length:Int)≥8:=by omega
    simp only[this,s8,aM,aA]
   ·have h1:¬(s.length:Int)≥8:=by omega
    have h2:IntKind.i64.wrap ((s.length:Int) - 1)=((s.length - 1:Nat):Int):=by rw[cT] <;> omega
    have h3:((s.length - 1:Nat):Int)≤(s.length:Int):=by omega
    simp only[h1,s8,h2,h3,dge,aM,bQ,aH,eV,aA,aB,aR,iA]
    rw[aBU (by simp only[fY,kC,bZ,aX,eJ];omega) (by simp)]
    simp only[aJ,fY,kC,bZ]
 simp only[aB]
 have hi:=sJ hs hf hp
 rw[aQD hs hf hi]
 simp only[aJ]
 have hsm:=aFN hs (f:=f) hi
 generalize eM m (aD m f) (aG m f pc)=E at hsm⊢
 obtain⟨hE1,hE2⟩:=hsm
 unfold nG
 have w1:IntKind.i64.wrap ((s.length:Int) - (E.1.length:Int))=(s.length:Int) - (E.1.length:Int):=by rw[cT] <;> omega
 have w2:IntKind.i64.wrap ((s.length:Int) - (E.1.length:Int)+(E.2.1.length:Int))=(s.length:Int) - (E.1.length:Int)+(E.2.1.length:Int):=by rw[cT] <;> omega
 simp only[w1,w2]
 by_cases l1:s.length<E.1.length
 ·have:(s.length:Int) - (E.1.length:Int)<0:=by omega
  simp only[this,l1,aM,uE,aA]
 have l1':¬(s.length:Int) - (E.1.length:Int)<0:=by omega
 simp only[l1,l1',bQ,mB,aB]
 by_cases l2:s.length - E.1.length+E.2.1.length>8
 ·have:(s.length:Int) - (E.1.length:Int)+(E.2.1.length:Int)>8:=by omega
  simp only[this,l2,aM,aA]
 have l2':¬(s.length:Int) - (E.1.length:Int)+(E.2.1.length:Int)>8:=by omega
 simp only[l2,l2',bQ,aB]
 have hzip:=aEY (fun a b=>dZ m (aG m f pc).1 a b) zTp zTp (s.drop (s.length - E.1.length)) E.1 (by rw[eJ];omega)
 rw[hzip]
 generalize hD:s.length - E.1.length=D at*
 have hDi:(s.length:Int) - (E.1.length:Int)=(D:Int):=by omega
 have w4:IntKind.i64.wrap (D:Int)=(D:Int):=by rw[cT] <;> omega
 rw[show (E.1.zipIdx.all fun q=>dZ m (aG m f pc).1 ((s.drop D).getD q.2 zTp) q.1)=jY (fun k x=>dZ m (aG m f pc).1 ((s.drop D).getD k zTp) x) 0 E.1 by
  rw[aCp,aCg,bM]
  constructor
  ·intro hh j x hx
   have:=hh (x,j) (by rw[List.mem_zipIdx_iff_getElem?];exact hx)
   simpa using this
  ·rintro hh ⟨x,j⟩ hx
   rw[List.mem_zipIdx_iff_getElem?] at hx
   have:=hh j x hx
   simpa using this]
 refine (aDQ (xs:=E.1) (st:=fun k=>(dX (aG m f pc) pc,(k:Int),())) (p:=fun k x=>dZ m (aG m f pc).1 ((s.drop D).getD k zTp) x) (ex:=some ([],[],4,())) (fin:=some (s.take D++E.2.1,dX (aG m f pc) pc,0,())) (fun k x rec hk hlt=>?_) (fun rec=>?_) 20 (by omega)).trans ?_
 ·have hx:(s.drop D).getD k zTp=s.getD (D+k) zTp:=by simp[eE]
  have w3:IntKind.i64.wrap ((D:Int)+(k:Int))=((D+k:Nat):Int):=by rw[cT] <;> omega
  rw[aEh]
  simp only[w4,hDi,w3,fold,fold2,dlt hlt,dge,dlt (show D+k<s.length by omega),aH,aA,aR,getD_some hk,hx,bB hlt (show _≤lenMax by simp only[lenMax];omega)]
  cases dZ m (aG m f pc).1 (s.getD (D+k) zTp) x <;> rfl
 ·have l3:(D:Int)≤(s.length:Int):=by omega
  rw[aEh]
  simp only[w4,hDi,bH,aB,dge,l3,aM,aH,aA,aR,aCk]
  rw[aBU (by simp only[fY,kC,bZ,aX,cA];omega) (by simp)]
  simp only[aJ,fY,kC,bZ]
 ·cases jY (fun k x=>dZ m (aG m f pc).1 ((s.drop D).getD k zTp) x) 0 E.1 <;> rfl
end Go.Pli

namespace Go.Pli
open Go Go.PM
theorem vY (l:List Cl) {a s:List Tp} (h:a.length=s.length):(bY l a s).length=s.length:=by
 unfold bY
 rw[qF,List.length_zip,h,Nat.min_self]
theorem aPm (l:List Cl) {a s:List Tp} {k:Nat} (h1:k<a.length) (h2:k<s.length):(bY l a s)[k]? =some (gE l (a.getD k zTp) (s.getD k zTp)):=by
 unfold bY
 rw[iM,aT (show k<(a.zip s).length by rw[List.length_zip];omega)]
 simp[h1,h2]
theorem aOW {m:Im} (hs:aK m=true) {f pc:Int} (hf:inM m f=true) (hp:sin pc (codeN m f:Int)=true) (hn:(dX (aG m f pc) pc).contains (codeN m f:Int)=false):∀to∈dX (aG m f pc) pc,0≤to∧to<(codeN m f:Int):=by
 have hi:=sJ hs hf hp
 have hc:=fB hs hf
 simp only[sin,aC,aP] at hp
 have hw:IntKind.i64.wrap (pc+1)=pc+1:=by rw[cT] <;> omega
 intro to ht
 have hne:to≠(codeN m f:Int):=by
  rintro rfl
  rw[rT.2 ht] at hn
  cases hn
 have hj:((aG m f pc).1==18 || (aG m f pc).1==19)=true→0≤(aG m f pc).2.1∧(aG m f pc).2.1<(codeN m f:Int):=by
  intro hh
  have:sin (aG m f pc).2.1 (codeN m f:Int)=true:=by
   rw[eQ] at hh
   unfold cG at hi
   rcases hh with hh | hh <;> (have e:=eq_of_beq hh;rw[e] at hi;exact hi)
  simpa[sin] using this
 unfold dX at ht
 cases h1:(aG m f pc).1==18 <;> simp only[h1,aA,aB] at ht
 ·cases h2:(aG m f pc).1==19 <;> simp only[h2,aA,aB] at ht
  ·cases h3:(aG m f pc).1==33 <;> simp only[h3,aA,aB] at ht
   ·rw[eD,hw] at ht;omega
   ·cases ht
  ·rw[hw] at ht
   rcases bJ.1 ht with ht | ht
   ·omega
   ·rw[eD] at ht
    have:=hj (by rw[h2,Bool.or_true])
    omega
 ·rw[eD] at ht
  have:=hj (by rw[h1,uE])
  omega
theorem oT {m:Im} (hs:aK m=true) {f pc:Int} {s:List Tp} (h:(aO m f pc s).2.2.1=0):
  inM m f=true∧sin pc (codeN m f:Int)=true∧(aO m f pc s).1.length≤8∧(∀to∈(aO m f pc s).2.1,0≤to∧to<(codeN m f:Int)):=by
 unfold aO at h⊢
 cases hf:inM m f
 ·rw[hf] at h;simp at h
 cases hp:sin pc (codeN m f:Int)
 ·rw[hf,hp] at h;simp at h
 simp only[hf,hp,aH,bA,aB] at h⊢
 cases hn:(dX (aG m f pc) pc).contains (codeN m f:Int)
 case true=>rw[hn] at h;simp at h
 have hin:=aOW hs hf hp hn
 simp only[hn,aB] at h⊢
 refine⟨trivial,trivial,?_⟩
 cases h6:(aG m f pc).1==6 <;> simp only[h6,aA,aB] at h⊢
 ·unfold nG at h⊢
  generalize eM m (aD m f) (aG m f pc)=E at h⊢
  cases hb:decide (s.length<E.1.length) || decide (s.length - E.1.length+E.2.1.length>8) <;> simp only[hb,aA,aB] at h⊢
  ·simp only[Bool.or_eq_false_iff,rF] at hb
   cases hz:((s.drop (s.length - E.1.length)).zip E.1).all fun p=>dZ m (aG m f pc).1 p.1 p.2 <;> simp only[hz,aA,aB] at h⊢
   ·cases h
   ·refine⟨?_,hin⟩
    rw[aX,cA]
    omega
  ·cases h
 ·cases hb:decide (s.length=0) || decide (s.length≥8) <;> simp only[hb,aA,aB] at h⊢
  ·simp only[Bool.or_eq_false_iff,rF] at hb
   refine⟨?_,hin⟩
   rw[aX,eJ]
   omega
  ·cases h
structure OneP (m:Im) (f pc:Int) (h:List Sh) (q:List Bool):Prop where
 sane:aK m=true
 meth:inM m f=true
 at':sin pc (codeN m f:Int)=true
 hl:h.length=codeN m f
 ql:q.length=codeN m f
 ok:∀s∈h,okL s.2.1=true
theorem aS8 {m:Im} {f pc:Int} {h:List Sh} {q:List Bool} (hh:sZ m f pc h q=true):OneP m f pc h q:=by
 simp only[sZ,aC,aP,bM] at hh
 exact⟨hh.1,hh.2.1,hh.2.2.1,hh.2.2.2.1,hh.2.2.2.2.1,hh.2.2.2.2.2⟩
theorem OneP.to {m:Im} {f pc:Int} {h:List Sh} {q:List Bool} (hh:OneP m f pc h q):sZ m f pc h q=true:=by
 simp only[sZ,aC,aP,bM]
 exact⟨hh.1,hh.2,hh.3,hh.4,hh.5,hh.6⟩
def aS2 (z:St4):Prop:=z.2.1.length≤2
theorem uR (m:Im) (f pc:Int) (s:List Tp):aS2 (aO m f pc s):=by
 have h2:=aOV (aG m f pc) pc
 unfold aO nG
 exact cQ (dL _) (cQ (dL _) (cQ (cQ (dL _) h2) (cQ (dL _) (cQ h2 (dL _)))))
end Go.Pli

namespace Go.Pli
open Go Go.PM
theorem aSo (s:List Int):aKa s=some (idL s,()):=by simp[aKa,idL]
theorem aSp (s:List (List Int)):aKd s=some (idL s,()):=by simp[aKd,idL]
theorem aON {l:List (List Sh)} (h:fC l=true) {n:Nat} (hn:n<l.length):(l.getD n []).length<1000000∧∀s∈l.getD n [],s.2.1.length<1000000:=by
 simp only[fC,aC,bM] at h
 rw[getD_some (aT hn)]
 have:=h.2 _ (dU hn)
 exact⟨iP this.1,fun s hs=>iP (this.2 s hs)⟩
theorem aRw (to:Int) (part:List Int) (_:aRz to part):aRy to part=some (tU to part,()):=rfl
theorem aQg (l:List Int) (c:List Int×Unit) (h:aQj l c):∃k,aQi k l c=some (aBE l c,()):=by
 refine⟨l.length+1,aDO (st:=fun k=>((k:Int),())) (p:=fun x=>tU x c.1) (fun k x rec hk hlt=>?_) (fun rec=>?_) _ (hZ _)⟩
 ·unfold aD7
  simp only[dlt hlt,dge,aH,aA,aR,getD_some hk,bB hlt h.1.1]
 ·unfold aD7
  simp only[bH,aB]
theorem aRQ (l:List Int) (c:List Int×Unit) (_:aRS l c):aJT l c=some (zX l c,()):=by
 unfold aJT aBE zX
 rw[aBD]
theorem aRt (l:List (List Int)) (part:List Int) (r) (h:tT l part=some r):∃k,aJH k l part=some r:=by
 unfold tT at h
 cases hb:okL part <;> simp only[hb,aA,aB] at h
 ·cases h
 injection h with h
 subst h
 have hp:=iP hb
 refine⟨part.length+1,?_⟩
 unfold aJH jE
 have:=lJ (L:=aBT l part) (xs:=part) (st:=fun k=>((k:Int),())) (p:=fun k=> !(sin k (l.length:Int)&&(l.getD k.toNat []).any fun to=>part.contains to)) (ex:=some (true,())) (fin:=some (false,()))
  (fun k x rec hk hlt=>by
   have hw:=bB hlt (show _≤lenMax by simp only[lenMax];omega)
   rw[aBT]
   simp only[dlt hlt,dge,aH,aA,aR,getD_some hk,hw,sin]
   by_cases h0:x<0
   ·have:¬0≤x:=by omega
    simp only[h0,this,aM,bQ,mC,cJ,aA]
   have h0':0≤x:=by omega
   by_cases h1:x≥(l.length:Int)
   ·have:¬x<(l.length:Int):=by omega
    simp only[h0,h1,this,aM,bQ,aAl,mC,cJ,aA,aB]
   have h1':x<(l.length:Int):=by omega
   simp only[h0,h0',h1,h1',aM,bQ,aH,eK,aA,aB,zX,tU]
   cases (l.getD x.toNat []).any fun to=>part.contains to <;> rfl)
  (fun rec=>by rw[aBT];simp only[bH,aB]) (part.length+1) (by omega)
 refine this.trans ?_
 rw[←List.not_any_eq_all_not]
 cases part.any fun k=>sin k (l.length:Int)&&(l.getD k.toNat []).any fun to=>part.contains to <;> rfl
theorem aDq (m:Im):(fE m).length=m.2.2.2.1.length:=by unfold fE;rw[qF,mQ]
end Go.Pli
