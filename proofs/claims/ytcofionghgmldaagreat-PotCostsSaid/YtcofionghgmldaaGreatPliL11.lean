/- Who calls whom: the printed functions come to what is told in plain Lean. -/
import Derived.Test.YtcofionghgmldaaGreatPliNt
import Derived.Test.YtcofionghgmldaaGreatPliL5E
namespace Go.Pli
open Go Go.PM
theorem yD {α σ R:Type} {L:σ→(σ→Option R)→Option R} {n B:Nat} {st:Nat→List α→σ} {f:Nat→List α} {fin:List α→Option R} (hB:∀k,k<n→(f k).length≤B)
  (h1:∀(k:Nat) (out:List α) (rec),k<n→out.length≤B*n→L (st k out) rec=rec (st (k+1) (out++f k)))
  (h2:∀out rec,out.length≤B*n→L (st n out) rec=fin out):∀F:Nat,n<F→aE L F (st 0 [])=fin (((List.range n).map f).flatten):=by
 have hlen:∀k,k≤n→(((List.range k).map f).flatten).length≤B*k:=by
  intro k
  induction k with
  | zero=>intro _;simp
  | succ k ih=>
   intro hk
   have:=ih (by omega)
   have hb:=hB k (by omega)
   rw[List.range_succ,jD,kY,aW,Nat.mul_succ]
   simp only[dK,List.map_nil,gK,jE,bU]
   omega
 have key:∀(j k F:Nat),k+j=n→j<F→aE L F (st k (((List.range k).map f).flatten))=fin (((List.range n).map f).flatten):=by
  intro j
  induction j with
  | zero=>
   intro k F hk hF
   obtain⟨F,rfl⟩:∃m,F=m+1:=⟨F - 1,by omega⟩
   have:k=n:=by omega
   subst this
   rw[aX,h2 _ _ (hlen k (aT _))]
  | succ j ih=>
   intro k F hk hF
   obtain⟨F,rfl⟩:∃m,F=m+1:=⟨F - 1,by omega⟩
   have hb:B*k≤B*n:=Nat.mul_le_mul_left _ (by omega)
   rw[aX,h1 k _ _ (by omega) (lX (hlen k (by omega)) hb)]
   have:=ih (k+1) F (by omega) (by omega)
   rw[List.range_succ,jD,kY] at this
   simpa using this
 intro F hF
 have:=key n 0 F (by omega) hF
 simpa using this
theorem aDa (p:Int→Bool):∀n:Nat,((List.range n).map fun k:Nat=>bif p (k:Int) then[(k:Int)] else[]).flatten=(ints n).filter p
 | 0=>rfl
 | n+1=>by
  have ih:=aDa p n
  unfold ints at ih⊢
  rw[List.range_succ,jD,kY,ih,jD,List.filter_append]
  congr 1
  cases h:p (n:Int) <;> simp[h]
theorem aFq {α β:Type} (g:α→β) (z:α) (l:List α):(List.range l.length).map (fun k=>g (l.getD k z))=l.map g:=by
 apply aD2 (by simp)
 intro i h1 h2
 have:i<l.length:=by simpa using h1
 simp[this]
theorem vA (n:Nat):(ints n).length=n:=by simp[ints]
theorem aOm {n k:Nat} (h:k<n) (z:Int):(ints n).getD k z=(k:Int):=by simp[ints,h]
theorem pN {n:Nat} {x:Int}:x∈ints n↔0≤x∧x<(n:Int):=by
 simp only[ints,gF,wA]
 constructor
 ·rintro ⟨k,hk,rfl⟩;omega
 ·rintro ⟨h0,h1⟩;exact⟨x.toNat,by omega,by omega⟩
theorem aDN (m:Im) (c:Int):(kR m c).length≤m.1.length:=by
 unfold kR
 exact lX (aBF _ _) (by simp[ints])
theorem lG {n:Nat} (h:n<549755813888):decide (n<rowMax)=true:=aI h
theorem aQK (m:Im) (c:Int) (r) (h:vO m c=some r):∃k,aI2 k m c=some r:=by
 unfold vO at h
 cases hi:bX m <;> simp only[hi,aA,aB] at h
 ·cases h
 injection h with h
 subst h
 have h8:=(dG hi).classes
 refine⟨m.1.length+1,?_⟩
 unfold aI2
 have:=yD (L:=aBp m c) (n:=m.1.length) (B:=1) (st:=fun k out=>(out,(k:Int),())) (f:=fun k=>bif dA m.1 (k:Int) c then[(k:Int)] else[]) (fin:=fun out=>some (idL out,())) (fun k _=>by cases dA m.1 (k:Int) c <;> simp)
  (fun k out rec hk ho=>by
   rw[aBp]
   simp only[dlt hk,aA,aF,bM,lG (show out.length+(0+1)<549755813888 by omega),bJ hk (by simp only[lenMax];omega)]
   cases dA m.1 (k:Int) c <;> simp)
  (fun out rec _=>by rw[aBp];simp only[bQ,aB]) (m.1.length+1) (by omega)
 rw[aDa (fun n=>dA m.1 n c)] at this
 exact this
theorem aQW (m:Im) (n c:Int) (_:0≤n):(cE m.1 n).contains c=dA m.1 n c:=by
 unfold dA cE
 by_cases hn:n<(m.1.length:Int)
 ·simp only[hn,aM,aA,eC]
  cases hc:(bS m.1 n).contains c
  ·simp
  ·have hm:c∈bS m.1 n:=by simpa using hc
   have:=oP (n.toNat+1) n (by omega) hm
   simp[this.1,show c<(m.1.length:Int) by omega]
 ·simp[hn]
theorem aL2 {m:Im} (hi:bX m=true) (n:Int):iQ m.1 n=some (cE m.1 n,()):=by
 have h8:=(dG hi).classes
 have hok:okL m.1=true:=by unfold okL;simp;omega
 unfold iQ;rw[hok];rfl
theorem aFj {l:List Int} {x:Int} (h:l.length<1000000000):rin l x=some (l.contains x,()):=by
 unfold rin;rw[aI (show l.length<9223372036854775807 by omega)];rfl
theorem aME (m:Im) (c:Int) (r) (h:tZ m c=some r):∃k,aFM k m c=some r:=by
 unfold tZ at h
 cases hi:bX m <;> simp only[hi,aA,aB] at h
 ·cases h
 injection h with h
 subst h
 have h8:=(dG hi).classes
 refine⟨m.1.length+1,?_⟩
 unfold aFM
 have:=yD (L:=aAp m c) (n:=m.1.length) (B:=1) (st:=fun k out=>(out,(k:Int),())) (f:=fun k=>bif dA m.1 (k:Int) c then[(k:Int)] else[]) (fin:=fun out=>some (out,())) (fun k _=>by cases dA m.1 (k:Int) c <;> simp)
  (fun k out rec hk ho=>by
   have hl:=aFs (l:=m.1) (c:=(k:Int))
   rw[aAp]
   simp only[dlt hk,aA,aL2 hi,aJ,aFj (show (cE m.1 (k:Int)).length<1000000000 by omega),aQW m (k:Int) c (by omega),aF,bM,lG (show out.length+(0+1)<549755813888 by omega),bJ hk (by simp only[lenMax];omega)]
   cases dA m.1 (k:Int) c <;> simp)
  (fun out rec _=>by rw[aAp];simp only[bQ,aB]) (m.1.length+1) (by omega)
 rw[aDa (fun n=>dA m.1 n c)] at this
 exact this
theorem aIo (m:Im) (c n:Int):aIq m c n=some (dJ m c n):=by
 unfold aIq dJ gR bP
 by_cases h1:c<0
 ·have:¬0≤c:=by omega
  simp[h1,this]
 ·have h1':0≤c:=by omega
  by_cases h2:c≥(m.1.length:Int)
  ·have:¬c<(m.1.length:Int):=by omega
   simp[h1,h2,this]
  ·have h2':c<(m.1.length:Int):=by omega
   by_cases h3:n<0
   ·have:¬0≤n:=by omega
    simp[h1,h2,h3,this]
   ·have h3':0≤n:=by omega
    by_cases h4:n≥((m.1.getD c.toNat zCl).2.2.1.length:Int)
    ·have:¬n<((m.1.getD c.toNat zCl).2.2.1.length:Int):=by omega
     simp only[h1,h2,h3,h4,h1',h2',h3',this,aM,bG,aA,aB,aH,zF]
    ·have h4':n<((m.1.getD c.toNat zCl).2.2.1.length:Int):=by omega
     simp only[h1,h2,h3,h4,h1',h2',h3',h4',aM,bG,aA,aB,aH]
theorem aMi (m:Im) (c n:Int):aMj m c n=some (xL m c n):=aIo m c n
theorem aK6 (m:Im) (l:List Int) (n:Int):((List.range l.length).map fun k=>bif (dJ m (l.getD k 0) n).2.1 then[(dJ m (l.getD k 0) n).1] else[]).flatten=pE m l n:=by
 rw[aFq (fun c=>bif (dJ m c n).2.1 then[(dJ m c n).1] else[]) 0 l]
 unfold pE
 induction l with
 | nil=>rfl
 | cons c l ih=>
  rw[dK,gK,ih,List.filter_cons]
  cases h:(dJ m c n).2.1 <;> simp
theorem aK7 (m:Im) (l:List Int) (n:Int):(pE m l n).length≤l.length:=by
 unfold pE
 rw[qM]
 exact aBF _ _
theorem aEs {m:Im} {i:Ins} {L:List Int×Int×Unit→(List Int×Int×Unit→Option (List Int×Unit))→Option (List Int×Unit)} (l:List Int) (hl:l.length<1000)
  (hL:∀s rec,L s rec=(bif decide (s.2.1<(l.length:Int)) then
  bif decide (0≤s.2.1)&&decide (s.2.1<l.length) then
   let r4:=dJ m (l.getD s.2.1.toNat 0) i.2.2.1
   bif r4.2.1 then
    bif decide (s.1.length+[r4.1].length<rowMax) then
     rec (s.1++[r4.1],IntKind.i64.wrap (s.2.1+1),())
    else none
   else rec (s.1,IntKind.i64.wrap (s.2.1+1),())
  else none
 else some (s.1,()))):aE L (l.length+1) ([],0,())=some (pE m l i.2.2.1,()):=by
 have:=yD (L:=L) (n:=l.length) (B:=1) (st:=fun k out=>(out,(k:Int),())) (f:=fun k=>bif (dJ m (l.getD k 0) i.2.2.1).2.1 then[(dJ m (l.getD k 0) i.2.2.1).1] else[]) (fin:=fun out=>some (out,())) (fun k _=>by cases (dJ m (l.getD k 0) i.2.2.1).2.1 <;> simp)
  (fun k out rec hk ho=>by
   rw[hL]
   simp only[dlt hk,dge,aH,aA,aU,aF,bM,lG (show out.length+(0+1)<549755813888 by omega),bJ hk (by simp only[lenMax];omega)]
   cases (dJ m (l.getD k 0) i.2.2.1).2.1 <;> simp)
  (fun out rec _=>by rw[hL];simp only[bQ,aB]) (l.length+1) (by omega)
 rw[aK6] at this
 exact this
theorem aPR (m:Im) (i:Ins) (r) (h:oO m i=some r):∃k,aIn k m i=some r:=by
 unfold oO at h
 cases hi:bX m <;> simp only[hi,aA,aB] at h
 ·cases h
 injection h with h
 subst h
 have h8:=(dG hi).classes
 have hl:=aDN m i.2.1
 refine⟨(kR m i.2.1).length+1,?_⟩
 unfold aIn cN
 have hb:vO m i.2.1=some (kR m i.2.1,()):=by unfold vO;rw[hi];rfl
 cases h1:i.1==31 <;> simp only[aA,aB]
 ·cases h2:i.1==32 <;> simp only[aA,aB]
  rw[hb]
  simp only[aJ]
  exact aEs (kR m i.2.1) (by omega) (fun s rec=>rfl)
 ·rfl
theorem aL4 (m:Im) (i:Ins) (r) (h:tO m i=some r):∃k,aFt k m i=some r:=by
 unfold tO at h
 cases hi:bX m <;> simp only[hi,aA,aB] at h
 ·cases h
 injection h with h
 subst h
 have h8:=(dG hi).classes
 have hl:=aDN m i.2.1
 refine⟨(kR m i.2.1).length+1,?_⟩
 unfold aFt cN
 have hb:tZ m i.2.1=some (kR m i.2.1,()):=by unfold tZ;rw[hi];rfl
 cases h1:i.1==31 <;> simp only[aA,aB,aJ]
 ·cases h2:i.1==32 <;> simp only[aA,aB]
  rw[hb]
  simp only[aJ]
  exact aEs (kR m i.2.1) (by omega) (fun s rec=>rfl)
 ·have h2:(i.1==32)=false:=by
   have:i.1=31:=by simpa using h1
   rw[this];rfl
  have hroom:decide (([]:List Int).length+[i.2.1].length<rowMax)=true:=lG (by simp)
  rw[h2,hroom]
  rfl
theorem wN {m:Im} (hi:bX m=true) (i:Ins):(cN m i).length≤8:=by
 have h8:=(dG hi).classes
 have hl:=aDN m i.2.1
 have hs:=aK7 m (kR m i.2.1) i.2.2.1
 unfold cN
 cases i.1==31 <;> simp only[aA,aB]
 ·cases i.1==32 <;> simp only[aA,aB]
  ·simp
  ·omega
 ·simp
theorem cC {m:Im} {f:Int}:inM m f=true↔0≤f∧f<(m.2.2.2.1.length:Int):=by
 unfold inM sin nM;simp
end Go.Pli

namespace Go.Pli
open Go Go.PM
theorem oA {σ R:Type} {L:σ→(σ→Option R)→Option R} {n:Nat} {st:Nat→σ} {fin:Option R}
  (h1:∀(k:Nat) (rec),k<n→L (st k) rec=rec (st (k+1))) (h2:∀rec,L (st n) rec=fin):∀F:Nat,n<F→aE L F (st 0)=fin:=by
 have key:∀(j k F:Nat),k+j=n→j<F→aE L F (st k)=fin:=by
  intro j
  induction j with
  | zero=>
   intro k F hk hF
   obtain⟨F,rfl⟩:∃m,F=m+1:=⟨F - 1,by omega⟩
   have:k=n:=by omega
   subst this
   rw[aX,h2]
  | succ j ih=>
   intro k F hk hF
   obtain⟨F,rfl⟩:∃m,F=m+1:=⟨F - 1,by omega⟩
   rw[aX,h1 k _ (by omega)]
   exact ih (k+1) F (by omega) (by omega)
 intro F hF
 exact key n 0 F (by omega) hF
theorem gU {α:Type} {l:List α} {n:Nat} {z:α} (h:l.length≤n):l.getD n z=z:=by simp[dX,h]
theorem fK {α:Type} {l:List α} (h:l.length<1000000):okL l=true:=by simpa[okL] using h
theorem aJg {a b:Nat} (h:a<b):Nat.blt a b=true:=by rw[fF];exact h
theorem aIy {α:Type} (b:Bool) (x y:α):(bif b then some x else some y)=some (bif b then x else y):=by cases b <;> rfl
theorem aBU {α:Type} (l:List (List α)) {k:Nat} (hk:k<l.length):(l.take (k+1)).flatten=(l.take k).flatten++l.getD k []:=by
 rw[qK,kY]
 congr 1
 simp[hk]
theorem aEt {α:Type} (l:List (List α)) (k:Nat):(l.take k).flatten.length≤l.flatten.length:=by
 have:l.flatten=(l.take k).flatten++(l.drop k).flatten:=by rw[←kY,vZ]
 rw[this,aW]
 exact Nat.le_add_right _ _
theorem aOJ (s:Unit) (n:Int) (r) (h:vD s n=some r):aHs s n=some r:=by
 unfold vD at h
 cases hb:decide (0≤n)&&Nat.blt n.toNat 1000000000 <;> simp only[hb,aA,aB] at h
 ·cases h
 injection h with h
 subst h
 simp only[aC,aQ,fF] at hb
 obtain⟨h0,h1⟩:=hb
 have h0':¬n<0:=by omega
 have e1:IntKind.i64.wrap ((0:Int) - (([]:List Tp).length:Int))=0:=by simp;rfl
 have e2:IntKind.i64.wrap (n - 0)=n:=by rw[cS] <;> omega
 unfold aHs
 rw[e1,e2]
 by_cases hp:n>0
 ·have hp':0<n:=hp
  have hm:n<(rowMax:Int):=by simp only[rowMax];omega
  have:0≤max n 0:=by omega
  simp[h0',hp',hm,this]
 ·simp[h0',hp]
theorem aP6 (l:List (List Tp)) (r) (h:nF l=some r):∃k,aIz k l=some r:=by
 unfold nF at h
 cases hb:Nat.blt l.flatten.length 1000000000&&okL l <;> simp only[hb,aA,aB] at h
 ·cases h
 injection h with h
 subst h
 simp only[aC,fF] at hb
 obtain⟨hf,hl⟩:=hb
 have hl:=gZ hl
 refine⟨l.length+1,?_⟩
 unfold aIz
 refine oA (n:=l.length) (st:=fun k=>(((l.take k).flatten.length:Int),(k:Int),())) (fin:=some (l.flatten,())) (fun k rec hk=>?_) (fun rec=>?_) (l.length+1) (by omega)
 ·unfold aDF
  have hw:IntKind.i64.wrap (((l.take k).flatten.length:Int)+((l.getD k ([]:List Tp)).length:Int))=((l.take (k+1)).flatten.length:Int):=by
   have e:=aBU l hk
   have:=aEt l (k+1)
   rw[e,aW] at this⊢
   rw[cS] <;> omega
  have hn:¬((l.take (k+1)).flatten.length:Int)<0:=by omega
  simp only[dlt hk,dge,aH,aA,aU,hw,hn,bG,aB,bJ hk (show l.length≤lenMax by simp only[lenMax];omega)]
 ·unfold aDF
  have hg:vD () ((l.take l.length).flatten.length:Int)=some ([],()):=by
   unfold vD
   rw[iA]
   have h1:(0:Int)≤(l.flatten.length:Int):=by omega
   have h2:Nat.blt (l.flatten.length:Int).toNat 1000000000=true:=by rw[fF];omega
   simp only[h1,h2,aM,aH,aA]
  simp only[bQ,aB,hg,aJ]
  have:=oA (L:=aBf l) (n:=l.length) (st:=fun k=>((l.take k).flatten,(k:Int),())) (fin:=some (l.flatten,())) (fun k rec hk=>by
   unfold aBf
   have hm:decide ((l.take k).flatten.length+(l.getD k ([]:List Tp)).length<rowMax)=true:=by
    have e:=aBU l hk
    have:=aEt l (k+1)
    rw[e,aW] at this
    exact aI (by simp only[rowMax];omega)
   simp only[dlt hk,dge,aH,aA,aU,hm,aBU l hk,bJ hk (show l.length≤lenMax by simp only[lenMax];omega)])
   (fun rec=>by
    unfold aBf
    simp only[bQ,aB,iA]) (l.length+1) (by omega)
  simpa using this
theorem aBe {l:List (List Tp)} (h1:l.flatten.length<1000000000) (h2:l.length<1000000):nF l=some (l.flatten,()):=by
 unfold nF
 rw[aJg h1,fK h2]
 rfl
theorem aOw (s:List Int) (v:Int) (h:aOz s v):∃k,aOy k s v=some (aAV s v,()):=by
 refine⟨s.length+1,aCV (st:=fun k=>((k:Int),())) (p:=fun n=>v==n) (fun k x rec hk hlt=>?_) (fun rec=>?_) _ (gX _)⟩
 ·unfold aDe
  simp only[dlt hlt,dge,aH,aA,aU,getD_some hk,bJ hlt h.1.1]
 ·unfold aDe
  simp only[bQ,aB]
theorem aP1 (s:List Int) (v:Int) (_:aP2 s v):aIu s v=some (vM s v,()):=by
 unfold aIu aAV vM
 rw[aAW,List.contains_eq_any_beq]
theorem aQu (s:List Iq):aII s=some (idL s,()):=by simp[aII,idL]
theorem aPO (m:Im) (c:Int) (r) (h:cup m c=some r):aIl m c=some r:=by
 unfold cup at h
 cases hb:sin c (m.1.length:Int) <;> simp only[hb,aA,aB] at h
 ·cases h
 injection h with h
 subst h
 simp only[sin,aC,aQ] at hb
 have h1:¬c<0:=by omega
 have h2:¬c≥(m.1.length:Int):=by omega
 unfold aIl kup eA
 simp only[hb.1,hb.2,h1,h2,aM,bG,aH,kZ,aA]
 cases decide ((m.1.getD c.toNat zCl).1≥c) <;> rfl
theorem aPd {m:Im} {c:Int} (h0:0≤c) (h1:c<(m.1.length:Int)):dS m c=dS m (kup m.1 c)++(bP m c).2.1:=by
 have hk:=kJ (l:=m.1) h0
 have h2:kup m.1 c<(m.1.length:Int):=by omega
 unfold dS cE
 simp only[h1,h2,aM,aA]
 rw[gI h0]
 simp
theorem aH4 {m:Im} {c:Int} (h:c<0):dS m c=[]:=by
 unfold dS cE
 rw[eU h]
 cases decide (c<(m.1.length:Int)) <;> rfl
theorem aIT {m:Im} (hi:bX m=true) {c:Int}:(bP m c).2.1.length≤8:=by
 have hf:=dG hi
 unfold bP
 by_cases hc:c.toNat<m.1.length
 ·have:=hf.cls (m.1.getD c.toNat zCl) (by simp[hc])
  simp only[oI,gP,aC,aQ] at this
  have:=this.2.2.1.1
  omega
 ·have:m.1.getD c.toNat zCl=zCl:=gU (by omega)
  rw[this];decide
theorem aIY {m:Im} (hi:bX m=true):∀(n:Nat) (c:Int) (out:List Tp),c.toNat<n→c<(m.1.length:Int)→out.length+8*(c.toNat+1)≤1000→
  aE (aBo m) (n+1) (c,out,())=some (dS m c++out,())
 | 0,_,_,h,_,_=>by omega
 | n+1,c,out,h,hc,ho=>by
  rw[aX,aBo]
  by_cases h0:c<0
  ·have:¬c≥0:=by omega
   simp only[this,bG,aB,aH4 h0,oX]
  ·have h0':c≥0:=by omega
   have h0'':0≤c:=by omega
   have hk:=kJ (l:=m.1) h0''
   have h8:=aIT hi (c:=c)
   have hcat:nF [(m.1.getD c.toNat zCl).2.1,out]=some ((bP m c).2.1++out,()):=by
    rw[aBe]
    ·simp[bP]
    ·simp only[gK,jE,bU,aW]
     unfold bP at h8
     omega
    ·simp
   have hup:cup m c=some (kup m.1 c,()):=by simp[cup,sin,h0'',hc]
   simp only[h0',hc,aM,aH,aA,hcat,hup,aJ]
   rw[aPd h0'' hc,cA]
   by_cases hn:kup m.1 c<0
   ·rw[aX,aBo]
    have:¬kup m.1 c≥0:=by omega
    simp only[this,bG,aB,aH4 hn,oX]
   ·exact aIY hi n (kup m.1 c) _ (by omega) (by omega) (by rw[aW];omega)
theorem aQI (m:Im) (c:Int) (r) (h:oQ m c=some r):∃k,aI0 k m c=some r:=by
 unfold oQ at h
 cases hi:bX m <;> simp only[hi,aA,aB] at h
 ·cases h
 injection h with h
 subst h
 have h8:=(dG hi).classes
 refine⟨c.toNat+1+1,?_⟩
 unfold aI0
 by_cases hc:c≥(m.1.length:Int)
 ·have:¬c<(m.1.length:Int):=by omega
  simp[hc,dS,cE,this]
 ·have hc':c<(m.1.length:Int):=by omega
  simp only[hc,bG,aB]
  rw[aIY hi (c.toNat+1) c [] (by omega) hc' (by simp only[bM];omega),bU]
theorem aA9 {m:Im} (hi:bX m=true) (c:Int):(dS m c).length≤8*8:=by
 have h8:=(dG hi).classes
 have hl:(cE m.1 c).length≤8:=by
  unfold cE
  by_cases hc:c<(m.1.length:Int)
  ·have:=sN m.1 (c.toNat+1) c (by omega)
   by_cases h0:0≤c
   ·simp[hc];omega
   ·simp[hc,eU (show c<0 by omega)]
  ·simp[hc]
 unfold dS
 have key:∀l:List Int,((l.map fun s=>(bP m s).2.1).flatten).length≤8*l.length:=by
  intro l
  induction l with
  | nil=>simp
  | cons x l ih=>
   have:=aIT hi (c:=x)
   simp only[dK,gK,aW,aF]
   omega
 have:=key (cE m.1 c).reverse
 rw[List.length_reverse] at this
 omega
theorem aPT (m:Im) (c:Int) (r) (h:vL m c=some r):aIr m c=some r:=by
 unfold vL at h
 cases hi:bX m <;> simp only[hi,aA,aB] at h
 ·cases h
 injection h with h
 subst h
 have hl:=aA9 hi c
 unfold aIr oQ qY
 rw[hi]
 simp only[aA,aJ]
 rw[cS (by omega) (by omega)]
 simp
theorem aDo {α:Type} (a b:List α) (n:Nat) (z:α):(a++b).getD n z=if n<a.length then a.getD n z else b.getD (n - a.length) z:=by
 by_cases h:n<a.length <;> simp[dX,List.getElem?_append,h]
theorem aQo (x:Mt) (n:Int) (r) (h:sM x n=some r):aIF x n=some r:=by
 unfold sM at h
 cases hb:okL x.1&&okL x.2.1 <;> simp only[hb,aA,aB] at h
 ·cases h
 injection h with h
 subst h
 simp only[aC] at hb
 have h1:=gZ hb.1
 have h2:=gZ hb.2
 unfold aIF iX
 by_cases h0:n<0
 ·simp[h0]
 ·rw[cS (by omega) (by omega)]
  by_cases h3:n≥(x.1.length:Int)+(x.2.1.length:Int)
  ·have:(x.1++x.2.1).length≤n.toNat:=by rw[aW];omega
   rw[gU this]
   simp only[h0,h3,aM,bG,aA,aB]
  ·simp only[h0,h3,bG,aB]
   rw[aDo]
   by_cases h4:n<(x.1.length:Int)
   ·have h5:n.toNat<x.1.length:=by omega
    have h6:0≤n:=by omega
    simp[h4,h5,h6]
   ·have h5:¬n.toNat<x.1.length:=by omega
    have h6:0≤n - (x.1.length:Int):=by omega
    have h7:n - (x.1.length:Int)<(x.2.1.length:Int):=by omega
    rw[cS (by omega) (by omega)]
    have h8:(n - (x.1.length:Int)).toNat=n.toNat - x.1.length:=by omega
    simp only[h4,h5,h6,h7,aM,bG,aH,aA,aB,cG,h8]
theorem aNj (o:Int):aGp o=some (lJ o,()):=by
 unfold aGp lJ
 cases decide (o≥7) <;> rfl
theorem aOT (o:Int):aHH o=some (eE o):=by
 unfold aHH eE gB iG vJ
 simp only[aIy]
theorem aPi (m:Im) (o:Int) (t w:Tp):aH5 m o t w=some (dU m o t w,()):=by
 unfold aH5 dU
 cases w.1==0 <;> cases w.1==4 <;> cases hJ t <;> cases o !=34 <;> rfl
theorem aO2 (i:Ins) (pc:Int):aHK i pc=some (dR i pc,()):=by
 unfold aHK dR
 cases i.1==18 <;> cases i.1==19 <;> cases i.1==33 <;> rfl
theorem aH6 {x:Mt} {t:List Tp} (h1:x.1.length<1000000) (h2:t.length≤x.1.length):sF x t=some (hY x t,()):=by
 unfold sF
 rw[fK h1,fK (show t.length<1000000 by omega),aI h2]
 rfl
theorem aPm (x:Mt) (t:List Tp) (r) (h:sF x t=some r):aH7 x t=some r:=by
 unfold sF at h
 cases hb:okL x.1&&(okL t&&decide (t.length≤x.1.length)) <;> simp only[hb,aA,aB] at h
 ·cases h
 injection h with h
 subst h
 simp only[aC,aQ] at hb
 have h1:=gZ hb.1
 have h3:=hb.2.2
 have h4:(t.length:Int)≤(x.1.length:Int):=by omega
 have h5:(0:Int)≤(t.length:Int):=by omega
 unfold aH7 hY
 rw[iA,aBe (by simp only[gK,jE,bU,aW,eB];omega) (by simp)]
 simp only[h4,h5,aM,aH,aA,aJ,jH,gK,jE,bU]
 cases x.2.2.1.1 !=5 <;> rfl
end Go.Pli

namespace Go.Pli
open Go Go.PM
theorem dQ {m:Im} (h:aL m=true):bX m=true∧jM m=true:=by simpa[aL] using h
theorem aES {m:Im} (h:aL m=true):eS m m.2.1=true:=by
 have:=(dQ h).2
 simp only[jM,aC] at this
 exact this.1
theorem tF {m:Im} (h:aL m=true):jX m=true:=by
 have:=(dQ h).2
 simp only[jM,aC] at this
 exact this.2.1
theorem pG {m:Im} (h:aL m=true) {f:Int} (hf:inM m f=true):eR m (aD m f)=true:=by
 have:=(dQ h).2
 simp only[jM,aC] at this
 obtain⟨h0,h1⟩:=cC.1 hf
 exact bI.1 this.2.2.1 _ (rT h0 h1)
theorem fH {m:Im} (h:aL m=true) {f:Int} (hf:inM m f=true):0<codeN m f∧codeN m f≤64:=by
 have h1:=pG h hf
 simp only[eR,aC,aQ] at h1
 obtain⟨a,b⟩:=cC.1 hf
 have h2:=(mP ((dG (dQ h).1).mts _ (rT a b))).2.2.2.1.1
 unfold codeN
 have:=h1.2.2.2.1
 omega
theorem aLe {m:Im} (h:aL m=true) {f:Int} (hf:inM m f=true):(iS m f).length=codeN m f:=by
 have h1:=pG h hf
 simp only[eR,aC,aQ] at h1
 exact h1.2.2.2.2.1
theorem tE {m:Im} (h:aL m=true) {f:Int} (hf:inM m f=true):(aD m f).1.length+(aD m f).2.1.length≤8:=by
 have h1:=pG h hf
 simp only[eR,aC,aQ] at h1
 exact h1.2.2.2.2.2.1
theorem aDc {m:Im} {f pc:Int} (hp:sin pc (codeN m f:Int)=true):aG m f pc∈(aD m f).2.2.2.1:=by
 simp only[sin,aC,aQ] at hp
 unfold codeN at hp
 have:pc.toNat<(aD m f).2.2.2.1.length:=by omega
 unfold aG
 rw[getD_some (aV this)]
 exact eH this
theorem rA {m:Im} (h:aL m=true) {f pc:Int} (hf:inM m f=true) (hp:sin pc (codeN m f:Int)=true):bW m (aD m f) (aG m f pc)=true:=by
 have h1:=pG h hf
 simp only[eR,aC] at h1
 exact bI.1 h1.2.2.2.2.2.2 _ (aDc hp)
theorem aHR {α β:Type} (g:α→List β):∀l:List α,((l.reverse.map g).flatten).length=aZ (l.map fun x=>(g x).length)
 | []=>rfl
 | x::l=>by
  have:=aHR g l
  simp only[List.reverse_cons,jD,kY,aW,dK,List.map_nil,gK,jE,bU,aZ]
  rw[this]
  omega
theorem yR {m:Im} {c:Int} (h:c<(m.1.length:Int)):(dS m c).length=iI m c:=by
 unfold dS iI cE
 simp only[h,aM,aA]
 exact aHR _ _
theorem wV {m:Im} {c n:Int} (h:gR m c n=true):(bP m c).2.2.1[n.toNat]? =some (dJ m c n).1:=by
 unfold dJ
 rw[h]
 simp only[gR,aC,aQ] at h
 have hk:n.toNat<(bP m c).2.2.1.length:=by omega
 simp[hk]
theorem aOW (m:Im) (i:Ins) (f:Int) (r) (h:fof m i f=some r):aHJ m i f=some r:=by
 unfold fof at h
 cases hb:aL m&&(inM m f&&bW m (aD m f) i) <;> simp only[hb,aA,aB] at h
 ·cases h
 injection h with h
 subst h
 simp only[aC] at hb
 obtain⟨hs,hf,hi⟩:=hb
 have hfit:=(dQ hs).1
 have hcl:=tF hs
 obtain⟨f0,f1⟩:=cC.1 hf
 have hloc:=tE hs hf
 have hL:sM (aD m f) i.2.1=some (iX (aD m f) i.2.1,()):=by
  unfold sM
  rw[fK (by omega),fK (by omega)]
  rfl
 have hF:oQ m i.2.1=some (dS m i.2.1,()):=by unfold oQ;rw[hfit];rfl
 unfold aHJ eF
 have hr:(decide (0≤f)&&decide (f<(m.2.2.2.1.length:Int)))=true:=by simp[f0,f1]
 simp only[hr,aA]
 have fold:∀g:Int,m.2.2.2.1.getD g.toNat zMt=aD m g:=fun _=>rfl
 simp only[fold]
 cases hp:(eE i.1).2.1 <;> simp only[aA,aB]
 rcases i with⟨o,a,b,⟨⟩⟩
 simp only at hL hF hp⊢
 cases e:o==3
 case true=>simp only[aA,hL,aJ,fE]
 simp only[aB]
 cases e:o==4
 case true=>simp only[aA,hL,aJ,fE]
 simp only[aB]
 cases e:o==22
 case true=>simp only[aA,fE,lW]
 simp only[aB]
 cases e:o==27
 case true=>
  obtain rfl:o=27:=by simpa using e
  have:sin a (m.1.length:Int)=true∧sin b (iI m a:Int)=true:=by simpa[bW] using hi
  obtain⟨h1,h2⟩:=this
  simp only[sin,aC,aQ] at h1 h2
  rw[←yR h1.2] at h2
  simp only[aA,hF,aJ,h2.1,h2.2,aM,aH,fE,lW]
 simp only[aB]
 cases e:o==28
 case true=>
  obtain rfl:o=28:=by simpa using e
  have:sin a (m.1.length:Int)=true∧sin b (iI m a:Int)=true:=by simpa[bW] using hi
  obtain⟨h1,h2⟩:=this
  simp only[sin,aC,aQ] at h1 h2
  rw[←yR h1.2] at h2
  simp only[aA,hF,aJ,h2.1,h2.2,aM,aH,lW]
 simp only[aB]
 cases e:o==29
 case true=>
  obtain rfl:o=29:=by simpa using e
  have:sin a (m.2.1.length:Int)=true:=by simpa[bW] using hi
  simp only[sin,aC,aQ] at this
  simp only[aA,this.1,this.2,aM,aH,fE]
 simp only[aB]
 cases e:o==30
 case true=>
  obtain rfl:o=30:=by simpa using e
  have:sin a (m.2.1.length:Int)=true:=by simpa[bW] using hi
  simp only[sin,aC,aQ] at this
  simp only[aA,this.1,this.2,aM,aH,fE]
 simp only[aB]
 cases e:o==31
 case true=>
  obtain rfl:o=31:=by simpa using e
  have:sin a (m.2.2.2.1.length:Int)=true:=by simpa[bW] using hi
  have hg:=tE hs (f:=a) this
  simp only[sin,aC,aQ] at this
  simp only[aA,this.1,this.2,aM,aH,aH6 (x:=aD m a) (t:=[]) (by omega) (by simp),aJ]
 simp only[aB]
 cases e:o==32
 case true=>
  obtain rfl:o=32:=by simpa using e
  have:sin a (m.1.length:Int)=true∧sin b ((bP m a).2.2.1.length:Int)=true:=by simpa[bW] using hi
  have hsl:gR m a b=true:=by unfold gR;unfold sin at this;rw[this.1,this.2];rfl
  have h1:=wV hsl
  simp only[sin,aC,aQ] at this
  obtain⟨h2,h3⟩:=qW (sR hcl this.1.1 this.1.2) h1
  have hg:=tE hs (f:=(dJ m a b).1) (cC.2 h2)
  simp only[aA,h2.1,h2.2,aM,aH,fE,lW,aH6 (x:=aD m (dJ m a b).1) (t:=[tR a]) (by omega) (by simp only[aF,bM];omega),aJ]
 simp only[aB]
 cases e:o==34
 case true=>simp only[aA,fE,lW]
 simp only[aB]
 cases e:o==33
 case true=>simp only[aA,fE,aIy];cases (aD m f).2.2.1.1 !=5 <;> rfl
 simp only[aB]
theorem aOX {m:Im} {i:Ins} {f:Int} (hs:aL m=true) (hf:inM m f=true) (hi:bW m (aD m f) i=true):fof m i f=some (eF m (aD m f) i,()):=by
 unfold fof
 rw[hs,hf,hi]
 rfl
theorem cK {α:Type} {P:α→Prop} {b:Bool} {x y:α} (h1:P x) (h2:P y):P (bif b then x else y):=by cases b <;> assumption
def Small (e:Eff):Prop:=e.1.length≤12∧e.2.1.length≤1
theorem aEM {m:Im} (hs:aL m=true) {g:Int} (hg:inM m g=true) {t:List Tp} (ht:t.length≤1):Small (hY (aD m g) t):=by
 have:=tE hs hg
 unfold Small hY
 constructor
 ·simp only[aW,eB];omega
 ·cases (aD m g).2.2.1.1 !=5 <;> simp
theorem aK5 (o:Int):Small (eE o).1:=by
 unfold eE
 repeat' refine cK (P:=fun z:Eff×Bool×Unit=>Small z.1) ⟨by decide,by decide⟩ ?_
 exact⟨by decide,by decide⟩
theorem aEL {m:Im} (hs:aL m=true) {i:Ins} {f:Int} (hi:bW m (aD m f) i=true):Small (eF m (aD m f) i):=by
 have hcl:=tF hs
 unfold eF
 rcases i with⟨o,a,b,⟨⟩⟩
 refine cK (aK5 _) ?_
 refine cK ⟨by simp,by simp⟩ (cK ⟨by simp,by simp⟩ (cK ⟨by simp,by simp⟩ (cK ⟨by simp,by simp⟩ (cK ⟨by simp,by simp⟩ (cK ⟨by simp,by simp⟩ (cK ⟨by simp,by simp⟩ ?_))))))
 cases e:o==31
 case true=>
  obtain rfl:o=31:=by simpa using e
  have:sin a (m.2.2.2.1.length:Int)=true:=by simpa[bW] using hi
  exact aEM hs this (by simp)
 simp only[aB]
 cases e:o==32
 case true=>
  obtain rfl:o=32:=by simpa using e
  have:sin a (m.1.length:Int)=true∧sin b ((bP m a).2.2.1.length:Int)=true:=by simpa[bW] using hi
  have hsl:gR m a b=true:=by unfold gR;unfold sin at this;rw[this.1,this.2];rfl
  have h1:=wV hsl
  simp only[sin,aC,aQ] at this
  obtain⟨h2,h3⟩:=qW (sR hcl this.1.1 this.1.2) h1
  exact aEM hs (cC.2 h2) (by simp)
 simp only[aB]
 exact cK ⟨by simp,by simp⟩ (cK (cK ⟨by simp,by simp⟩ ⟨by simp,by simp⟩) ⟨by simp,by simp⟩)
theorem aNm (i:Ins) (pc:Int):(dR i pc).length≤2:=by
 unfold dR
 cases i.1==18 <;> cases i.1==19 <;> cases i.1==33 <;> exact eP rfl
theorem aD6 {α β:Type} (p:α→β→Bool) (x:α) (_:β):∀(s:List α) (e:List β),e.length=s.length→((s.zip e).all fun q=>p q.1 q.2)=e.zipIdx.all fun q=>p (s.getD q.2 x) q.1:=by
 intro s e h
 rw[aBK,bI,bI]
 constructor
 ·rintro h1 ⟨b,k⟩ hq
  obtain⟨hk,hb⟩:=List.mem_zipIdx' hq
  have:(s.getD k x,b)∈s.zip e:=by
   rw[List.mem_iff_getElem?]
   refine⟨k,?_⟩
   have hks:k<s.length:=by omega
   simp[List.getElem?_zip_eq_some,hks,hk,hb]
  exact h1 _ this
 ·rintro h1 ⟨a,b⟩ hq
  obtain⟨k,hk⟩:=List.mem_iff_getElem?.1 hq
  rw[List.getElem?_zip_eq_some] at hk
  have h2:(b,k)∈e.zipIdx:=by
   rw[List.mem_zipIdx_iff_getElem?]
   exact hk.2
  have:=h1 _ h2
  simpa[hk.1] using this
theorem aOO (m:Im) (f pc:Int) (s:List Tp) (r) (h:oK m f pc s=some r):∃k,aHF k m f pc s=some r:=by
 unfold oK at h
 cases hb:aL m&&okL s <;> simp only[hb,aA,aB] at h
 ·cases h
 injection h with h
 subst h
 simp only[aC] at hb
 obtain⟨hs,hsl⟩:=hb
 have hsl:=gZ hsl
 refine⟨20,?_⟩
 have fold:∀g:Int,m.2.2.2.1.getD g.toNat zMt=aD m g:=fun _=>rfl
 have fold2:(aD m f).2.2.2.1.getD pc.toNat cM=aG m f pc:=rfl
 have fold3:(aD m f).2.2.2.1.length=codeN m f:=rfl
 unfold aHF aN
 simp only[fold,fold2,fold3]
 cases hf:inM m f
 ·simp only[lA,cD,aA]
  have:¬(0≤f∧f<(m.2.2.2.1.length:Int)):=fun hh=>by rw[cC.2 hh] at hf;cases hf
  by_cases h0:f<0
  ·simp only[h0,aM,aA]
  ·have h1:f≥(m.2.2.2.1.length:Int):=by omega
   simp only[h0,h1,aM,bG,aA,aB]
 obtain⟨f0,f1⟩:=cC.1 hf
 have f2:¬f<0:=by omega
 have f3:¬f≥(m.2.2.2.1.length:Int):=by omega
 have hc:=fH hs hf
 simp only[f0,f1,f2,f3,aM,bG,aH,eC,aA,aB]
 by_cases p0:pc<0
 ·have:¬0≤pc:=by omega
  simp only[p0,sin,this,aM,bG,lA,cD,aA]
 have p0':0≤pc:=by omega
 by_cases p1:pc≥(codeN m f:Int)
 ·have:¬pc<(codeN m f:Int):=by omega
  simp only[p0,p1,sin,this,aM,bG,zF,cD,aA,aB]
 have p1':pc<(codeN m f:Int):=by omega
 have hp:sin pc (codeN m f:Int)=true:=by simp[sin,p0',p1']
 simp only[p0,p0',p1,p1',hp,aM,bG,aH,bA,aA,aB,vM]
 cases hn:(dR (aG m f pc) pc).contains (codeN m f:Int)
 case true=>simp only[aA]
 simp only[aB]
 cases h6:(aG m f pc).1==6
 case true=>
  simp only[aA]
  by_cases s0:s.length=0
  ·have:((s.length:Int)==0)=true:=by simp[s0]
   rw[this,aI s0]
   rfl
  ·have:((s.length:Int)==0)=false:=qG.2 (by omega)
   rw[this,bO s0]
   simp only[kZ,aB]
   by_cases s8:s.length≥8
   ·have:(s.length:Int)≥8:=by omega
    simp only[this,s8,aM,aA]
   ·have h1:¬(s.length:Int)≥8:=by omega
    have h2:IntKind.i64.wrap ((s.length:Int) - 1)=((s.length - 1:Nat):Int):=by rw[cS] <;> omega
    have h3:((s.length - 1:Nat):Int)≤(s.length:Int):=by omega
    simp only[h1,s8,h2,h3,dge,aM,bG,aH,jH,aA,aB,aU,iA]
    rw[aBe (by simp only[gK,jE,bU,aW,eB];omega) (by simp)]
    simp only[aJ,gK,jE,bU]
 simp only[aB]
 have hi:=rA hs hf hp
 rw[aOX hs hf hi]
 simp only[aJ]
 have hsm:=aEL hs (f:=f) hi
 generalize eF m (aD m f) (aG m f pc)=E at hsm⊢
 obtain⟨hE1,hE2⟩:=hsm
 unfold mD
 have w1:IntKind.i64.wrap ((s.length:Int) - (E.1.length:Int))=(s.length:Int) - (E.1.length:Int):=by rw[cS] <;> omega
 have w2:IntKind.i64.wrap ((s.length:Int) - (E.1.length:Int)+(E.2.1.length:Int))=(s.length:Int) - (E.1.length:Int)+(E.2.1.length:Int):=by rw[cS] <;> omega
 simp only[w1,w2]
 by_cases l1:s.length<E.1.length
 ·have:(s.length:Int) - (E.1.length:Int)<0:=by omega
  simp only[this,l1,aM,sU,aA]
 have l1':¬(s.length:Int) - (E.1.length:Int)<0:=by omega
 simp only[l1,l1',bG,kZ,aB]
 by_cases l2:s.length - E.1.length+E.2.1.length>8
 ·have:(s.length:Int) - (E.1.length:Int)+(E.2.1.length:Int)>8:=by omega
  simp only[this,l2,aM,aA]
 have l2':¬(s.length:Int) - (E.1.length:Int)+(E.2.1.length:Int)>8:=by omega
 simp only[l2,l2',bG,aB]
 have hzip:=aD6 (fun a b=>dU m (aG m f pc).1 a b) zTp zTp (s.drop (s.length - E.1.length)) E.1 (by rw[eB];omega)
 rw[hzip]
 generalize hD:s.length - E.1.length=D at*
 have hDi:(s.length:Int) - (E.1.length:Int)=(D:Int):=by omega
 have w4:IntKind.i64.wrap (D:Int)=(D:Int):=by rw[cS] <;> omega
 rw[show (E.1.zipIdx.all fun q=>dU m (aG m f pc).1 ((s.drop D).getD q.2 zTp) q.1)=jC (fun k x=>dU m (aG m f pc).1 ((s.drop D).getD k zTp) x) 0 E.1 by
  rw[aBK,aBB,bI]
  constructor
  ·intro hh j x hx
   have:=hh (x,j) (by rw[List.mem_zipIdx_iff_getElem?];exact hx)
   simpa using this
  ·rintro hh ⟨x,j⟩ hx
   rw[List.mem_zipIdx_iff_getElem?] at hx
   have:=hh j x hx
   simpa using this]
 refine (aCX (xs:=E.1) (st:=fun k=>(dR (aG m f pc) pc,(k:Int),())) (p:=fun k x=>dU m (aG m f pc).1 ((s.drop D).getD k zTp) x) (ex:=some ([],[],4,())) (fin:=some (s.take D++E.2.1,dR (aG m f pc) pc,0,())) (fun k x rec hk hlt=>?_) (fun rec=>?_) 20 (by omega)).trans ?_
 ·have hx:(s.drop D).getD k zTp=s.getD (D+k) zTp:=by simp[dZ]
  have w3:IntKind.i64.wrap ((D:Int)+(k:Int))=((D+k:Nat):Int):=by rw[cS] <;> omega
  rw[aDp]
  simp only[w4,hDi,w3,fold,fold2,dlt hlt,dge,dlt (show D+k<s.length by omega),aH,aA,aU,getD_some hk,hx,bJ hlt (show _≤lenMax by simp only[lenMax];omega)]
  cases dU m (aG m f pc).1 (s.getD (D+k) zTp) x <;> rfl
 ·have l3:(D:Int)≤(s.length:Int):=by omega
  rw[aDp]
  simp only[w4,hDi,bQ,aB,dge,l3,aM,aH,aA,aU,aBG]
  rw[aBe (by simp only[gK,jE,bU,aW,bR];omega) (by simp)]
  simp only[aJ,gK,jE,bU]
 ·cases jC (fun k x=>dU m (aG m f pc).1 ((s.drop D).getD k zTp) x) 0 E.1 <;> rfl
end Go.Pli

namespace Go.Pli
open Go Go.PM
theorem uO (l:List Cl) {a s:List Tp} (h:a.length=s.length):(bN l a s).length=s.length:=by
 unfold bN
 rw[qM,List.length_zip,h,Nat.min_self]
theorem aNI (l:List Cl) {a s:List Tp} {k:Nat} (h1:k<a.length) (h2:k<s.length):(bN l a s)[k]? =some (fN l (a.getD k zTp) (s.getD k zTp)):=by
 unfold bN
 rw[kX,aV (show k<(a.zip s).length by rw[List.length_zip];omega)]
 simp[h1,h2]
theorem aNn {m:Im} (hs:aL m=true) {f pc:Int} (hf:inM m f=true) (hp:sin pc (codeN m f:Int)=true) (hn:(dR (aG m f pc) pc).contains (codeN m f:Int)=false):∀to∈dR (aG m f pc) pc,0≤to∧to<(codeN m f:Int):=by
 have hi:=rA hs hf hp
 have hc:=fH hs hf
 simp only[sin,aC,aQ] at hp
 have hw:IntKind.i64.wrap (pc+1)=pc+1:=by rw[cS] <;> omega
 intro to ht
 have hne:to≠(codeN m f:Int):=by
  rintro rfl
  rw[aD3.2 ht] at hn
  cases hn
 have hj:((aG m f pc).1==18 || (aG m f pc).1==19)=true→0≤(aG m f pc).2.1∧(aG m f pc).2.1<(codeN m f:Int):=by
  intro hh
  have:sin (aG m f pc).2.1 (codeN m f:Int)=true:=by
   rw[fT] at hh
   unfold bW at hi
   rcases hh with hh | hh <;> (have e:=eq_of_beq hh;rw[e] at hi;exact hi)
  simpa[sin] using this
 unfold dR at ht
 cases h1:(aG m f pc).1==18 <;> simp only[h1,aA,aB] at ht
 ·cases h2:(aG m f pc).1==19 <;> simp only[h2,aA,aB] at ht
  ·cases h3:(aG m f pc).1==33 <;> simp only[h3,aA,aB] at ht
   ·rw[dY,hw] at ht;omega
   ·cases ht
  ·rw[hw] at ht
   rcases bV.1 ht with ht | ht
   ·omega
   ·rw[dY] at ht
    have:=hj (by rw[h2,Bool.or_true])
    omega
 ·rw[dY] at ht
  have:=hj (by rw[h1,sU])
  omega
theorem nQ {m:Im} (hs:aL m=true) {f pc:Int} {s:List Tp} (h:(aN m f pc s).2.2.1=0):
  inM m f=true∧sin pc (codeN m f:Int)=true∧(aN m f pc s).1.length≤8∧(∀to∈(aN m f pc s).2.1,0≤to∧to<(codeN m f:Int)):=by
 unfold aN at h⊢
 cases hf:inM m f
 ·rw[hf] at h;simp at h
 cases hp:sin pc (codeN m f:Int)
 ·rw[hf,hp] at h;simp at h
 simp only[hf,hp,aH,bA,aB] at h⊢
 cases hn:(dR (aG m f pc) pc).contains (codeN m f:Int)
 case true=>rw[hn] at h;simp at h
 have hin:=aNn hs hf hp hn
 simp only[hn,aB] at h⊢
 refine⟨trivial,trivial,?_⟩
 cases h6:(aG m f pc).1==6 <;> simp only[h6,aA,aB] at h⊢
 ·unfold mD at h⊢
  generalize eF m (aD m f) (aG m f pc)=E at h⊢
  cases hb:decide (s.length<E.1.length) || decide (s.length - E.1.length+E.2.1.length>8) <;> simp only[hb,aA,aB] at h⊢
  ·simp only[Bool.or_eq_false_iff,pX] at hb
   cases hz:((s.drop (s.length - E.1.length)).zip E.1).all fun p=>dU m (aG m f pc).1 p.1 p.2 <;> simp only[hz,aA,aB] at h⊢
   ·cases h
   ·refine⟨?_,hin⟩
    rw[aW,bR]
    omega
  ·cases h
 ·cases hb:decide (s.length=0) || decide (s.length≥8) <;> simp only[hb,aA,aB] at h⊢
  ·simp only[Bool.or_eq_false_iff,pX] at hb
   refine⟨?_,hin⟩
   rw[aW,eB]
   omega
  ·cases h
structure OneP (m:Im) (f pc:Int) (h:List Sh) (q:List Bool):Prop where
 sane:aL m=true
 meth:inM m f=true
 at':sin pc (codeN m f:Int)=true
 hl:h.length=codeN m f
 ql:q.length=codeN m f
 ok:∀s∈h,okL s.2.1=true
theorem aRk {m:Im} {f pc:Int} {h:List Sh} {q:List Bool} (hh:rR m f pc h q=true):OneP m f pc h q:=by
 simp only[rR,aC,aQ,bI] at hh
 exact⟨hh.1,hh.2.1,hh.2.2.1,hh.2.2.2.1,hh.2.2.2.2.1,hh.2.2.2.2.2⟩
theorem OneP.to {m:Im} {f pc:Int} {h:List Sh} {q:List Bool} (hh:OneP m f pc h q):rR m f pc h q=true:=by
 simp only[rR,aC,aQ,bI]
 exact⟨hh.1,hh.2,hh.3,hh.4,hh.5,hh.6⟩
def aRf (z:St4):Prop:=z.2.1.length≤2
theorem wS (m:Im) (f pc:Int) (s:List Tp):aRf (aN m f pc s):=by
 have h2:=aNm (aG m f pc) pc
 unfold aN mD
 exact cK (dF _) (cK (dF _) (cK (cK (dF _) h2) (cK (dF _) (cK h2 (dF _)))))
end Go.Pli

namespace Go.Pli
open Go Go.PM
theorem aQB (s:List Int):aIM s=some (idL s,()):=by simp[aIM,idL]
theorem aQC (s:List (List Int)):aIP s=some (idL s,()):=by simp[aIP,idL]
theorem aNh {l:List (List Sh)} (h:fX l=true) {n:Nat} (hn:n<l.length):(l.getD n []).length<1000000∧∀s∈l.getD n [],s.2.1.length<1000000:=by
 simp only[fX,aC,bI] at h
 rw[getD_some (aV hn)]
 have:=h.2 _ (eH hn)
 exact⟨gZ this.1,fun s hs=>gZ (this.2 s hs)⟩
theorem aPK (to:Int) (part:List Int) (_:aPN to part):aPM to part=some (sL to part,()):=rfl
theorem aOA (l:List Int) (c:List Int×Unit) (h:aOD l c):∃k,aOC k l c=some (aAX l c,()):=by
 refine⟨l.length+1,aCV (st:=fun k=>((k:Int),())) (p:=fun x=>sL x c.1) (fun k x rec hk hlt=>?_) (fun rec=>?_) _ (gX _)⟩
 ·unfold aDf
  simp only[dlt hlt,dge,aH,aA,aU,getD_some hk,bJ hlt h.1.1]
 ·unfold aDf
  simp only[bQ,aB]
theorem aP3 (l:List Int) (c:List Int×Unit) (_:aP5 l c):aIv l c=some (yT l c,()):=by
 unfold aIv aAX yT
 rw[aAW]
theorem aPI (l:List (List Int)) (part:List Int) (r) (h:sK l part=some r):∃k,aIk k l part=some r:=by
 unfold sK at h
 cases hb:okL part <;> simp only[hb,aA,aB] at h
 ·cases h
 injection h with h
 subst h
 have hp:=gZ hb
 refine⟨part.length+1,?_⟩
 unfold aIk sJ
 have:=lN (L:=aBd l part) (xs:=part) (st:=fun k=>((k:Int),())) (p:=fun k=> !(sin k (l.length:Int)&&(l.getD k.toNat []).any fun to=>part.contains to)) (ex:=some (true,())) (fin:=some (false,()))
  (fun k x rec hk hlt=>by
   have hw:=bJ hlt (show _≤lenMax by simp only[lenMax];omega)
   rw[aBd]
   simp only[dlt hlt,dge,aH,aA,aU,getD_some hk,hw,sin]
   by_cases h0:x<0
   ·have:¬0≤x:=by omega
    simp only[h0,this,aM,bG,lA,cD,aA]
   have h0':0≤x:=by omega
   by_cases h1:x≥(l.length:Int)
   ·have:¬x<(l.length:Int):=by omega
    simp only[h0,h1,this,aM,bG,zF,lA,cD,aA,aB]
   have h1':x<(l.length:Int):=by omega
   simp only[h0,h0',h1,h1',aM,bG,aH,eC,aA,aB,yT,sL]
   cases (l.getD x.toNat []).any fun to=>part.contains to <;> rfl)
  (fun rec=>by rw[aBd];simp only[bQ,aB]) (part.length+1) (by omega)
 refine this.trans ?_
 rw[←List.not_any_eq_all_not]
 cases part.any fun k=>sin k (l.length:Int)&&(l.getD k.toNat []).any fun to=>part.contains to <;> rfl
theorem aGo (m:Im):(fY m).length=m.2.2.2.1.length:=by unfold fY;rw[qM,vA]
end Go.Pli
