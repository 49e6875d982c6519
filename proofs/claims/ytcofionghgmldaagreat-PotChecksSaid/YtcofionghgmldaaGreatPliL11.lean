/- Who calls whom: the printed functions come to what is told in plain Lean. -/
import Derived.Test.YtcofionghgmldaaGreatPliNt
import Derived.Test.YtcofionghgmldaaGreatPliL5E
namespace Go.Pli
open Go Go.PM
theorem yQ {α σ R:Type} {L:σ→(σ→Option R)→Option R} {n B:Nat} {st:Nat→List α→σ} {f:Nat→List α} {fin:List α→Option R} (hB:∀k,k<n→(f k).length≤B)
  (h1:∀(k:Nat) (out:List α) (rec),k<n→out.length≤B*n→L (st k out) rec=rec (st (k+1) (out++f k)))
  (h2:∀out rec,out.length≤B*n→L (st n out) rec=fin out):∀F:Nat,n<F→aE L F (st 0 [])=fin (((List.range n).map f).flatten):=by
 have hlen:∀k,k≤n→(((List.range k).map f).flatten).length≤B*k:=by
  intro k
  induction k with
  | zero=>intro _;simp
  | succ k ih=>
   intro hk
   have:=ih (by omega)
   have hb:=hB k (by omega)
   rw[List.range_succ,jG,lI,aW,Nat.mul_succ]
   simp only[dI,List.map_nil,fW,jH,bY]
   omega
 have key:∀(j k F:Nat),k+j=n→j<F→aE L F (st k (((List.range k).map f).flatten))=fin (((List.range n).map f).flatten):=by
  intro j
  induction j with
  | zero=>
   intro k F hk hF
   obtain⟨F,rfl⟩:∃m,F=m+1:=⟨F - 1,by omega⟩
   have:k=n:=by omega
   subst this
   rw[aX,h2 _ _ (hlen k (aV _))]
  | succ j ih=>
   intro k F hk hF
   obtain⟨F,rfl⟩:∃m,F=m+1:=⟨F - 1,by omega⟩
   have hb:B*k≤B*n:=Nat.mul_le_mul_left _ (by omega)
   rw[aX,h1 k _ _ (by omega) (mI (hlen k (by omega)) hb)]
   have:=ih (k+1) F (by omega) (by omega)
   rw[List.range_succ,jG,lI] at this
   simpa using this
 intro F hF
 have:=key n 0 F (by omega) hF
 simpa using this
theorem aDp (p:Int→Bool):∀n:Nat,((List.range n).map fun k:Nat=>bif p (k:Int) then[(k:Int)] else[]).flatten=(ints n).filter p
 | 0=>rfl
 | n+1=>by
  have ih:=aDp p n
  unfold ints at ih⊢
  rw[List.range_succ,jG,lI,ih,jG,List.filter_append]
  congr 1
  cases h:p (n:Int) <;> simp[h]
theorem aFE {α β:Type} (g:α→β) (z:α) (l:List α):(List.range l.length).map (fun k=>g (l.getD k z))=l.map g:=by
 apply aEg (by simp)
 intro i h1 h2
 have:i<l.length:=by simpa using h1
 simp[this]
theorem oP (n:Nat):(ints n).length=n:=by simp[ints]
theorem aHE {n k:Nat} (h:k<n) (z:Int):(ints n).getD k z=(k:Int):=by simp[ints,h]
theorem kP {n:Nat} {x:Int}:x∈ints n↔0≤x∧x<(n:Int):=by
 simp only[ints,fU,tG]
 constructor
 ·rintro ⟨k,hk,rfl⟩;omega
 ·rintro ⟨h0,h1⟩;exact⟨x.toNat,by omega,by omega⟩
theorem aD2 (m:Im) (c:Int):(lA m c).length≤m.1.length:=by
 unfold lA
 exact mI (aBT _ _) (by simp[ints])
theorem lP {n:Nat} (h:n<549755813888):decide (n<rowMax)=true:=aG h
theorem aRg (m:Im) (c:Int) (r) (h:wC m c=some r):∃k,aJp k m c=some r:=by
 unfold wC at h
 cases hi:cC m <;> simp only[hi,aA,aB] at h
 ·cases h
 injection h with h
 subst h
 have h8:=(dA hi).classes
 refine⟨m.1.length+1,?_⟩
 unfold aJp
 have:=yQ (L:=aBE m c) (n:=m.1.length) (B:=1) (st:=fun k out=>(out,(k:Int),())) (f:=fun k=>bif dD m.1 (k:Int) c then[(k:Int)] else[]) (fin:=fun out=>some (idL out,())) (fun k _=>by cases dD m.1 (k:Int) c <;> simp)
  (fun k out rec hk ho=>by
   rw[aBE]
   simp only[dlt hk,aA,aF,bP,lP (show out.length+(0+1)<549755813888 by omega),bH hk (by simp only[lenMax];omega)]
   cases dD m.1 (k:Int) c <;> simp)
  (fun out rec _=>by rw[aBE];simp only[bT,aB]) (m.1.length+1) (by omega)
 rw[aDp (fun n=>dD m.1 n c)] at this
 exact this
theorem aRs (m:Im) (n c:Int) (_:0≤n):(bV m.1 n).contains c=dD m.1 n c:=by
 unfold dD bV
 by_cases hn:n<(m.1.length:Int)
 ·simp only[hn,aM,aA,eD]
  cases hc:(bW m.1 n).contains c
  ·simp
  ·have hm:c∈bW m.1 n:=by simpa using hc
   have:=nS (n.toNat+1) n (by omega) hm
   simp[this.1,show c<(m.1.length:Int) by omega]
 ·simp[hn]
theorem aMu {m:Im} (hi:cC m=true) (n:Int):iU m.1 n=some (bV m.1 n,()):=by
 have h8:=(dA hi).classes
 have hok:okL m.1=true:=by unfold okL;simp;omega
 unfold iU;rw[hok];rfl
theorem aFx {l:List Int} {x:Int} (h:l.length<1000000000):rin l x=some (l.contains x,()):=by
 unfold rin;rw[aG (show l.length<9223372036854775807 by omega)];rfl
theorem aM5 (m:Im) (c:Int) (r) (h:uO m c=some r):∃k,aF1 k m c=some r:=by
 unfold uO at h
 cases hi:cC m <;> simp only[hi,aA,aB] at h
 ·cases h
 injection h with h
 subst h
 have h8:=(dA hi).classes
 refine⟨m.1.length+1,?_⟩
 unfold aF1
 have:=yQ (L:=aAF m c) (n:=m.1.length) (B:=1) (st:=fun k out=>(out,(k:Int),())) (f:=fun k=>bif dD m.1 (k:Int) c then[(k:Int)] else[]) (fin:=fun out=>some (out,())) (fun k _=>by cases dD m.1 (k:Int) c <;> simp)
  (fun k out rec hk ho=>by
   have hl:=aFG (l:=m.1) (c:=(k:Int))
   rw[aAF]
   simp only[dlt hk,aA,aMu hi,aJ,aFx (show (bV m.1 (k:Int)).length<1000000000 by omega),aRs m (k:Int) c (by omega),aF,bP,lP (show out.length+(0+1)<549755813888 by omega),bH hk (by simp only[lenMax];omega)]
   cases dD m.1 (k:Int) c <;> simp)
  (fun out rec _=>by rw[aAF];simp only[bT,aB]) (m.1.length+1) (by omega)
 rw[aDp (fun n=>dD m.1 n c)] at this
 exact this
theorem aIL (m:Im) (c n:Int):aIN m c n=some (dN m c n):=by
 unfold aIN dN gW bN
 by_cases h1:c<0
 ·have:¬0≤c:=by omega
  simp[h1,this]
 ·have h1':0≤c:=by omega
  by_cases h2:c≥(m.1.length:Int)
  ·have:¬c<(m.1.length:Int):=by omega
   simp[h1,h2,this]
  ·have h2':c<(m.1.length:Int):=by omega
   by_cases h3:n<0
   ·have:¬0≤n:=by omega
    simp[h1,h2,h3,this]
   ·have h3':0≤n:=by omega
    by_cases h4:n≥((m.1.getD c.toNat zCl).2.2.1.length:Int)
    ·have:¬n<((m.1.getD c.toNat zCl).2.2.1.length:Int):=by omega
     simp only[h1,h2,h3,h4,h1',h2',h3',this,aM,bJ,aA,aB,aI,zW]
    ·have h4':n<((m.1.getD c.toNat zCl).2.2.1.length:Int):=by omega
     simp only[h1,h2,h3,h4,h1',h2',h3',h4',aM,bJ,aA,aB,aI]
theorem aMJ (m:Im) (c n:Int):aMK m c n=some (xX m c n):=aIL m c n
theorem aLw (m:Im) (l:List Int) (n:Int):((List.range l.length).map fun k=>bif (dN m (l.getD k 0) n).2.1 then[(dN m (l.getD k 0) n).1] else[]).flatten=pP m l n:=by
 rw[aFE (fun c=>bif (dN m c n).2.1 then[(dN m c n).1] else[]) 0 l]
 unfold pP
 induction l with
 | nil=>rfl
 | cons c l ih=>
  rw[dI,fW,ih,List.filter_cons]
  cases h:(dN m c n).2.1 <;> simp
theorem aLx (m:Im) (l:List Int) (n:Int):(pP m l n).length≤l.length:=by
 unfold pP
 rw[qZ]
 exact aBT _ _
theorem aEF {m:Im} {i:Ins} {L:List Int×Int×Unit→(List Int×Int×Unit→Option (List Int×Unit))→Option (List Int×Unit)} (l:List Int) (hl:l.length<1000)
  (hL:∀s rec,L s rec=(bif decide (s.2.1<(l.length:Int)) then
  bif decide (0≤s.2.1)&&decide (s.2.1<l.length) then
   let r4:=dN m (l.getD s.2.1.toNat 0) i.2.2.1
   bif r4.2.1 then
    bif decide (s.1.length+[r4.1].length<rowMax) then
     rec (s.1++[r4.1],IntKind.i64.wrap (s.2.1+1),())
    else none
   else rec (s.1,IntKind.i64.wrap (s.2.1+1),())
  else none
 else some (s.1,()))):aE L (l.length+1) ([],0,())=some (pP m l i.2.2.1,()):=by
 have:=yQ (L:=L) (n:=l.length) (B:=1) (st:=fun k out=>(out,(k:Int),())) (f:=fun k=>bif (dN m (l.getD k 0) i.2.2.1).2.1 then[(dN m (l.getD k 0) i.2.2.1).1] else[]) (fin:=fun out=>some (out,())) (fun k _=>by cases (dN m (l.getD k 0) i.2.2.1).2.1 <;> simp)
  (fun k out rec hk ho=>by
   rw[hL]
   simp only[dlt hk,dge,aI,aA,aR,aF,bP,lP (show out.length+(0+1)<549755813888 by omega),bH hk (by simp only[lenMax];omega)]
   cases (dN m (l.getD k 0) i.2.2.1).2.1 <;> simp)
  (fun out rec _=>by rw[hL];simp only[bT,aB]) (l.length+1) (by omega)
 rw[aLw] at this
 exact this
theorem aQn (m:Im) (i:Ins) (r) (h:oZ m i=some r):∃k,aIK k m i=some r:=by
 unfold oZ at h
 cases hi:cC m <;> simp only[hi,aA,aB] at h
 ·cases h
 injection h with h
 subst h
 have h8:=(dA hi).classes
 have hl:=aD2 m i.2.1
 refine⟨(lA m i.2.1).length+1,?_⟩
 unfold aIK cP
 have hb:wC m i.2.1=some (lA m i.2.1,()):=by unfold wC;rw[hi];rfl
 cases h1:i.1==31 <;> simp only[aA,aB]
 ·cases h2:i.1==32 <;> simp only[aA,aB]
  rw[hb]
  simp only[aJ]
  exact aEF (lA m i.2.1) (by omega) (fun s rec=>rfl)
 ·rfl
theorem aMw (m:Im) (i:Ins) (r) (h:uF m i=some r):∃k,aFH k m i=some r:=by
 unfold uF at h
 cases hi:cC m <;> simp only[hi,aA,aB] at h
 ·cases h
 injection h with h
 subst h
 have h8:=(dA hi).classes
 have hl:=aD2 m i.2.1
 refine⟨(lA m i.2.1).length+1,?_⟩
 unfold aFH cP
 have hb:uO m i.2.1=some (lA m i.2.1,()):=by unfold uO;rw[hi];rfl
 cases h1:i.1==31 <;> simp only[aA,aB,aJ]
 ·cases h2:i.1==32 <;> simp only[aA,aB]
  rw[hb]
  simp only[aJ]
  exact aEF (lA m i.2.1) (by omega) (fun s rec=>rfl)
 ·have h2:(i.1==32)=false:=by
   have:i.1=31:=by simpa using h1
   rw[this];rfl
  have hroom:decide (([]:List Int).length+[i.2.1].length<rowMax)=true:=lP (by simp)
  rw[h2,hroom]
  rfl
theorem xA {m:Im} (hi:cC m=true) (i:Ins):(cP m i).length≤8:=by
 have h8:=(dA hi).classes
 have hl:=aD2 m i.2.1
 have hs:=aLx m (lA m i.2.1) i.2.2.1
 unfold cP
 cases i.1==31 <;> simp only[aA,aB]
 ·cases i.1==32 <;> simp only[aA,aB]
  ·simp
  ·omega
 ·simp
theorem bS {m:Im} {f:Int}:inM m f=true↔0≤f∧f<(m.2.2.2.1.length:Int):=by
 unfold inM sin nM;simp
end Go.Pli

namespace Go.Pli
open Go Go.PM
theorem sH {σ R:Type} {L:σ→(σ→Option R)→Option R} {n:Nat} {st:Nat→σ} {fin:Option R}
  (h1:∀(k:Nat) (rec),k<n→L (st k) rec=rec (st (k+1))) (h2:∀rec,L (st n) rec=fin):∀F:Nat,n<F→aE L F (st 0)=fin:=by
 have key:∀(j k F:Nat),k+j=n→j<F→aE L F (st k)=fin:=by
  intro j
  induction j with
  | zero=>
   intro k F hk hF
   obtain⟨F,rfl⟩:∃m,F=m+1:=⟨F - 1,by omega⟩
   have:k=n:=by omega
   subst this
   rw[aX,h2]
  | succ j ih=>
   intro k F hk hF
   obtain⟨F,rfl⟩:∃m,F=m+1:=⟨F - 1,by omega⟩
   rw[aX,h1 k _ (by omega)]
   exact ih (k+1) F (by omega) (by omega)
 intro F hF
 exact key n 0 F (by omega) hF
theorem gK {α:Type} {l:List α} {n:Nat} {z:α} (h:l.length≤n):l.getD n z=z:=by simp[dX,h]
theorem fD {α:Type} {l:List α} (h:l.length<1000000):okL l=true:=by simpa[okL] using h
theorem aJD {a b:Nat} (h:a<b):Nat.blt a b=true:=by rw[fJ];exact h
theorem aIV {α:Type} (b:Bool) (x y:α):(bif b then some x else some y)=some (bif b then x else y):=by cases b <;> rfl
theorem aB7 {α:Type} (l:List (List α)) {k:Nat} (hk:k<l.length):(l.take (k+1)).flatten=(l.take k).flatten++l.getD k []:=by
 rw[qV,lI]
 congr 1
 simp[hk]
theorem aEG {α:Type} (l:List (List α)) (k:Nat):(l.take k).flatten.length≤l.flatten.length:=by
 have:l.flatten=(l.take k).flatten++(l.drop k).flatten:=by rw[←lI,wN]
 rw[this,aW]
 exact Nat.le_add_right _ _
theorem aPd (s:Unit) (n:Int) (r) (h:vR s n=some r):aHN s n=some r:=by
 unfold vR at h
 cases hb:decide (0≤n)&&Nat.blt n.toNat 1000000000 <;> simp only[hb,aA,aB] at h
 ·cases h
 injection h with h
 subst h
 simp only[aC,aO,fJ] at hb
 obtain⟨h0,h1⟩:=hb
 have h0':¬n<0:=by omega
 have e1:IntKind.i64.wrap ((0:Int) - (([]:List Tp).length:Int))=0:=by simp;rfl
 have e2:IntKind.i64.wrap (n - 0)=n:=by rw[cO] <;> omega
 unfold aHN
 rw[e1,e2]
 by_cases hp:n>0
 ·have hp':0<n:=hp
  have hm:n<(rowMax:Int):=by simp only[rowMax];omega
  have:0≤max n 0:=by omega
  simp[h0',hp',hm,this]
 ·simp[h0',hp]
theorem aQC (l:List (List Tp)) (r) (h:nR l=some r):∃k,aIW k l=some r:=by
 unfold nR at h
 cases hb:Nat.blt l.flatten.length 1000000000&&okL l <;> simp only[hb,aA,aB] at h
 ·cases h
 injection h with h
 subst h
 simp only[aC,fJ] at hb
 obtain⟨hf,hl⟩:=hb
 have hl:=hJ hl
 refine⟨l.length+1,?_⟩
 unfold aIW
 refine sH (n:=l.length) (st:=fun k=>(((l.take k).flatten.length:Int),(k:Int),())) (fin:=some (l.flatten,())) (fun k rec hk=>?_) (fun rec=>?_) (l.length+1) (by omega)
 ·unfold aDV
  have hw:IntKind.i64.wrap (((l.take k).flatten.length:Int)+((l.getD k ([]:List Tp)).length:Int))=((l.take (k+1)).flatten.length:Int):=by
   have e:=aB7 l hk
   have:=aEG l (k+1)
   rw[e,aW] at this⊢
   rw[cO] <;> omega
  have hn:¬((l.take (k+1)).flatten.length:Int)<0:=by omega
  simp only[dlt hk,dge,aI,aA,aR,hw,hn,bJ,aB,bH hk (show l.length≤lenMax by simp only[lenMax];omega)]
 ·unfold aDV
  have hg:vR () ((l.take l.length).flatten.length:Int)=some ([],()):=by
   unfold vR
   rw[iD]
   have h1:(0:Int)≤(l.flatten.length:Int):=by omega
   have h2:Nat.blt (l.flatten.length:Int).toNat 1000000000=true:=by rw[fJ];omega
   simp only[h1,h2,aM,aI,aA]
  simp only[bT,aB,hg,aJ]
  have:=sH (L:=aBv l) (n:=l.length) (st:=fun k=>((l.take k).flatten,(k:Int),())) (fin:=some (l.flatten,())) (fun k rec hk=>by
   unfold aBv
   have hm:decide ((l.take k).flatten.length+(l.getD k ([]:List Tp)).length<rowMax)=true:=by
    have e:=aB7 l hk
    have:=aEG l (k+1)
    rw[e,aW] at this
    exact aG (by simp only[rowMax];omega)
   simp only[dlt hk,dge,aI,aA,aR,hm,aB7 l hk,bH hk (show l.length≤lenMax by simp only[lenMax];omega)])
   (fun rec=>by
    unfold aBv
    simp only[bT,aB,iD]) (l.length+1) (by omega)
  simpa using this
theorem aBu {l:List (List Tp)} (h1:l.flatten.length<1000000000) (h2:l.length<1000000):nR l=some (l.flatten,()):=by
 unfold nR
 rw[aJD h1,fD h2]
 rfl
theorem aO0 (s:List Int) (v:Int) (h:aO3 s v):∃k,aO2 k s v=some (aBb s v,()):=by
 refine⟨s.length+1,aC9 (st:=fun k=>((k:Int),())) (p:=fun n=>v==n) (fun k x rec hk hlt=>?_) (fun rec=>?_) _ (gN _)⟩
 ·unfold aDt
  simp only[dlt hlt,dge,aI,aA,aR,getD_some hk,bH hlt h.1.1]
 ·unfold aDt
  simp only[bT,aB]
theorem aQx (s:List Int) (v:Int) (_:aQy s v):aIR s v=some (wA s v,()):=by
 unfold aIR aBb wA
 rw[aBc,List.contains_eq_any_beq]
theorem aQ0 (s:List Iq):aI5 s=some (idL s,()):=by simp[aI5,idL]
theorem aQk (m:Im) (c:Int) (r) (h:cup m c=some r):aII m c=some r:=by
 unfold cup at h
 cases hb:sin c (m.1.length:Int) <;> simp only[hb,aA,aB] at h
 ·cases h
 injection h with h
 subst h
 simp only[sin,aC,aO] at hb
 have h1:¬c<0:=by omega
 have h2:¬c≥(m.1.length:Int):=by omega
 unfold aII kup eG
 simp only[hb.1,hb.2,h1,h2,aM,bJ,aI,jK,aA]
 cases decide ((m.1.getD c.toNat zCl).1≥c) <;> rfl
theorem aPJ {m:Im} {c:Int} (h0:0≤c) (h1:c<(m.1.length:Int)):dM m c=dM m (kup m.1 c)++(bN m c).2.1:=by
 have hk:=kS (l:=m.1) h0
 have h2:kup m.1 c<(m.1.length:Int):=by omega
 unfold dM bV
 simp only[h1,h2,aM,aA]
 rw[gL h0]
 simp
theorem aIp {m:Im} {c:Int} (h:c<0):dM m c=[]:=by
 unfold dM bV
 rw[fA h]
 cases decide (c<(m.1.length:Int)) <;> rfl
theorem aJg {m:Im} (hi:cC m=true) {c:Int}:(bN m c).2.1.length≤8:=by
 have hf:=dA hi
 unfold bN
 by_cases hc:c.toNat<m.1.length
 ·have:=hf.cls (m.1.getD c.toNat zCl) (by simp[hc])
  simp only[oU,gU,aC,aO] at this
  have:=this.2.2.1.1
  omega
 ·have:m.1.getD c.toNat zCl=zCl:=gK (by omega)
  rw[this];decide
theorem aJl {m:Im} (hi:cC m=true):∀(n:Nat) (c:Int) (out:List Tp),c.toNat<n→c<(m.1.length:Int)→out.length+8*(c.toNat+1)≤1000→
  aE (aBD m) (n+1) (c,out,())=some (dM m c++out,())
 | 0,_,_,h,_,_=>by omega
 | n+1,c,out,h,hc,ho=>by
  rw[aX,aBD]
  by_cases h0:c<0
  ·have:¬c≥0:=by omega
   simp only[this,bJ,aB,aIp h0,pI]
  ·have h0':c≥0:=by omega
   have h0'':0≤c:=by omega
   have hk:=kS (l:=m.1) h0''
   have h8:=aJg hi (c:=c)
   have hcat:nR [(m.1.getD c.toNat zCl).2.1,out]=some ((bN m c).2.1++out,()):=by
    rw[aBu]
    ·simp[bN]
    ·simp only[fW,jH,bY,aW]
     unfold bN at h8
     omega
    ·simp
   have hup:cup m c=some (kup m.1 c,()):=by simp[cup,sin,h0'',hc]
   simp only[h0',hc,aM,aI,aA,hcat,hup,aJ]
   rw[aPJ h0'' hc,cE]
   by_cases hn:kup m.1 c<0
   ·rw[aX,aBD]
    have:¬kup m.1 c≥0:=by omega
    simp only[this,bJ,aB,aIp hn,pI]
   ·exact aJl hi n (kup m.1 c) _ (by omega) (by omega) (by rw[aW];omega)
theorem aRe (m:Im) (c:Int) (r) (h:pA m c=some r):∃k,aJn k m c=some r:=by
 unfold pA at h
 cases hi:cC m <;> simp only[hi,aA,aB] at h
 ·cases h
 injection h with h
 subst h
 have h8:=(dA hi).classes
 refine⟨c.toNat+1+1,?_⟩
 unfold aJn
 by_cases hc:c≥(m.1.length:Int)
 ·have:¬c<(m.1.length:Int):=by omega
  simp[hc,dM,bV,this]
 ·have hc':c<(m.1.length:Int):=by omega
  simp only[hc,bJ,aB]
  rw[aJl hi (c.toNat+1) c [] (by omega) hc' (by simp only[bP];omega),bY]
theorem aBp {m:Im} (hi:cC m=true) (c:Int):(dM m c).length≤8*8:=by
 have h8:=(dA hi).classes
 have hl:(bV m.1 c).length≤8:=by
  unfold bV
  by_cases hc:c<(m.1.length:Int)
  ·have:=tB m.1 (c.toNat+1) c (by omega)
   by_cases h0:0≤c
   ·simp[hc];omega
   ·simp[hc,fA (show c<0 by omega)]
  ·simp[hc]
 unfold dM
 have key:∀l:List Int,((l.map fun s=>(bN m s).2.1).flatten).length≤8*l.length:=by
  intro l
  induction l with
  | nil=>simp
  | cons x l ih=>
   have:=aJg hi (c:=x)
   simp only[dI,fW,aW,aF]
   omega
 have:=key (bV m.1 c).reverse
 rw[List.length_reverse] at this
 omega
theorem aQp (m:Im) (c:Int) (r) (h:vZ m c=some r):aIO m c=some r:=by
 unfold vZ at h
 cases hi:cC m <;> simp only[hi,aA,aB] at h
 ·cases h
 injection h with h
 subst h
 have hl:=aBp hi c
 unfold aIO pA pQ
 rw[hi]
 simp only[aA,aJ]
 rw[cO (by omega) (by omega)]
 simp
theorem aDD {α:Type} (a b:List α) (n:Nat) (z:α):(a++b).getD n z=if n<a.length then a.getD n z else b.getD (n - a.length) z:=by
 by_cases h:n<a.length <;> simp[dX,List.getElem?_append,h]
theorem aQU (x:Mt) (n:Int) (r) (h:sZ x n=some r):aI2 x n=some r:=by
 unfold sZ at h
 cases hb:okL x.1&&okL x.2.1 <;> simp only[hb,aA,aB] at h
 ·cases h
 injection h with h
 subst h
 simp only[aC] at hb
 have h1:=hJ hb.1
 have h2:=hJ hb.2
 unfold aI2 iZ
 by_cases h0:n<0
 ·simp[h0]
 ·rw[cO (by omega) (by omega)]
  by_cases h3:n≥(x.1.length:Int)+(x.2.1.length:Int)
  ·have:(x.1++x.2.1).length≤n.toNat:=by rw[aW];omega
   rw[gK this]
   simp only[h0,h3,aM,bJ,aA,aB]
  ·simp only[h0,h3,bJ,aB]
   rw[aDD]
   by_cases h4:n<(x.1.length:Int)
   ·have h5:n.toNat<x.1.length:=by omega
    have h6:0≤n:=by omega
    simp[h4,h5,h6]
   ·have h5:¬n.toNat<x.1.length:=by omega
    have h6:0≤n - (x.1.length:Int):=by omega
    have h7:n - (x.1.length:Int)<(x.2.1.length:Int):=by omega
    rw[cO (by omega) (by omega)]
    have h8:(n - (x.1.length:Int)).toNat=n.toNat - x.1.length:=by omega
    simp only[h4,h5,h6,h7,aM,bJ,aI,aA,aB,cI,h8]
theorem aNM (o:Int):aGI o=some (lT o,()):=by
 unfold aGI lT
 cases decide (o≥7) <;> rfl
theorem aPo (o:Int):aH2 o=some (eK o):=by
 unfold aH2 eK gE iK vX
 simp only[aIV]
theorem aPO (m:Im) (o:Int) (t w:Tp):aIq m o t w=some (dZ m o t w,()):=by
 unfold aIq dZ
 cases w.1==0 <;> cases w.1==4 <;> cases hY t <;> cases o !=34 <;> rfl
theorem aPx (i:Ins) (pc:Int):aH5 i pc=some (dW i pc,()):=by
 unfold aH5 dW
 cases i.1==18 <;> cases i.1==19 <;> cases i.1==33 <;> rfl
theorem aIr {x:Mt} {t:List Tp} (h1:x.1.length<1000000) (h2:t.length≤x.1.length):sS x t=some (iB x t,()):=by
 unfold sS
 rw[fD h1,fD (show t.length<1000000 by omega),aG h2]
 rfl
theorem aPS (x:Mt) (t:List Tp) (r) (h:sS x t=some r):aIs x t=some r:=by
 unfold sS at h
 cases hb:okL x.1&&(okL t&&decide (t.length≤x.1.length)) <;> simp only[hb,aA,aB] at h
 ·cases h
 injection h with h
 subst h
 simp only[aC,aO] at hb
 have h1:=hJ hb.1
 have h3:=hb.2.2
 have h4:(t.length:Int)≤(x.1.length:Int):=by omega
 have h5:(0:Int)≤(t.length:Int):=by omega
 unfold aIs iB
 rw[iD,aBu (by simp only[fW,jH,bY,aW,eI];omega) (by simp)]
 simp only[h4,h5,aM,aI,aA,aJ,iQ,fW,jH,bY]
 cases x.2.2.1.1 !=5 <;> rfl
end Go.Pli

namespace Go.Pli
open Go Go.PM
theorem dL {m:Im} (h:aK m=true):cC m=true∧jP m=true:=by simpa[aK] using h
theorem aE6 {m:Im} (h:aK m=true):eY m m.2.1=true:=by
 have:=(dL h).2
 simp only[jP,aC] at this
 exact this.1
theorem tY {m:Im} (h:aK m=true):kB m=true:=by
 have:=(dL h).2
 simp only[jP,aC] at this
 exact this.2.1
theorem oD {m:Im} (h:aK m=true) {f:Int} (hf:inM m f=true):eR m (aD m f)=true:=by
 have:=(dL h).2
 simp only[jP,aC] at this
 obtain⟨h0,h1⟩:=bS.1 hf
 exact bG.1 this.2.2.1 _ (oL h0 h1)
theorem eW {m:Im} (h:aK m=true) {f:Int} (hf:inM m f=true):0<codeN m f∧codeN m f≤64:=by
 have h1:=oD h hf
 simp only[eR,aC,aO] at h1
 obtain⟨a,b⟩:=bS.1 hf
 have h2:=(kO ((dA (dL h).1).mts _ (oL a b))).2.2.2.1.1
 unfold codeN
 have:=h1.2.2.2.1
 omega
theorem aLE {m:Im} (h:aK m=true) {f:Int} (hf:inM m f=true):(cZ m f).length=codeN m f:=by
 have h1:=oD h hf
 simp only[eR,aC,aO] at h1
 exact h1.2.2.2.2.1
theorem tX {m:Im} (h:aK m=true) {f:Int} (hf:inM m f=true):(aD m f).1.length+(aD m f).2.1.length≤8:=by
 have h1:=oD h hf
 simp only[eR,aC,aO] at h1
 exact h1.2.2.2.2.2.1
theorem aDr {m:Im} {f pc:Int} (hp:sin pc (codeN m f:Int)=true):aH m f pc∈(aD m f).2.2.2.1:=by
 simp only[sin,aC,aO] at hp
 unfold codeN at hp
 have:pc.toNat<(aD m f).2.2.2.1.length:=by omega
 unfold aH
 rw[getD_some (aU this)]
 exact eC this
theorem rN {m:Im} (h:aK m=true) {f pc:Int} (hf:inM m f=true) (hp:sin pc (codeN m f:Int)=true):cB m (aD m f) (aH m f pc)=true:=by
 have h1:=oD h hf
 simp only[eR,aC] at h1
 exact bG.1 h1.2.2.2.2.2.2 _ (aDr hp)
theorem aIc {α β:Type} (g:α→List β):∀l:List α,((l.reverse.map g).flatten).length=bB (l.map fun x=>(g x).length)
 | []=>rfl
 | x::l=>by
  have:=aIc g l
  simp only[List.reverse_cons,jG,lI,aW,dI,List.map_nil,fW,jH,bY,bB]
  rw[this]
  omega
theorem zF {m:Im} {c:Int} (h:c<(m.1.length:Int)):(dM m c).length=iM m c:=by
 unfold dM iM bV
 simp only[h,aM,aA]
 exact aIc _ _
theorem xH {m:Im} {c n:Int} (h:gW m c n=true):(bN m c).2.2.1[n.toNat]? =some (dN m c n).1:=by
 unfold dN
 rw[h]
 simp only[gW,aC,aO] at h
 have hk:n.toNat<(bN m c).2.2.1.length:=by omega
 simp[hk]
theorem aPr (m:Im) (i:Ins) (f:Int) (r) (h:fof m i f=some r):aH4 m i f=some r:=by
 unfold fof at h
 cases hb:aK m&&(inM m f&&cB m (aD m f) i) <;> simp only[hb,aA,aB] at h
 ·cases h
 injection h with h
 subst h
 simp only[aC] at hb
 obtain⟨hs,hf,hi⟩:=hb
 have hfit:=(dL hs).1
 have hcl:=tY hs
 obtain⟨f0,f1⟩:=bS.1 hf
 have hloc:=tX hs hf
 have hL:sZ (aD m f) i.2.1=some (iZ (aD m f) i.2.1,()):=by
  unfold sZ
  rw[fD (by omega),fD (by omega)]
  rfl
 have hF:pA m i.2.1=some (dM m i.2.1,()):=by unfold pA;rw[hfit];rfl
 unfold aH4 eL
 have hr:(decide (0≤f)&&decide (f<(m.2.2.2.1.length:Int)))=true:=by simp[f0,f1]
 simp only[hr,aA]
 have fold:∀g:Int,m.2.2.2.1.getD g.toNat zMt=aD m g:=fun _=>rfl
 simp only[fold]
 cases hp:(eK i.1).2.1 <;> simp only[aA,aB]
 rcases i with⟨o,a,b,⟨⟩⟩
 simp only at hL hF hp⊢
 cases e:o==3
 case true=>simp only[aA,hL,aJ,fI]
 simp only[aB]
 cases e:o==4
 case true=>simp only[aA,hL,aJ,fI]
 simp only[aB]
 cases e:o==22
 case true=>simp only[aA,fI,mH]
 simp only[aB]
 cases e:o==27
 case true=>
  obtain rfl:o=27:=by simpa using e
  have:sin a (m.1.length:Int)=true∧sin b (iM m a:Int)=true:=by simpa[cB] using hi
  obtain⟨h1,h2⟩:=this
  simp only[sin,aC,aO] at h1 h2
  rw[←zF h1.2] at h2
  simp only[aA,hF,aJ,h2.1,h2.2,aM,aI,fI,mH]
 simp only[aB]
 cases e:o==28
 case true=>
  obtain rfl:o=28:=by simpa using e
  have:sin a (m.1.length:Int)=true∧sin b (iM m a:Int)=true:=by simpa[cB] using hi
  obtain⟨h1,h2⟩:=this
  simp only[sin,aC,aO] at h1 h2
  rw[←zF h1.2] at h2
  simp only[aA,hF,aJ,h2.1,h2.2,aM,aI,mH]
 simp only[aB]
 cases e:o==29
 case true=>
  obtain rfl:o=29:=by simpa using e
  have:sin a (m.2.1.length:Int)=true:=by simpa[cB] using hi
  simp only[sin,aC,aO] at this
  simp only[aA,this.1,this.2,aM,aI,fI]
 simp only[aB]
 cases e:o==30
 case true=>
  obtain rfl:o=30:=by simpa using e
  have:sin a (m.2.1.length:Int)=true:=by simpa[cB] using hi
  simp only[sin,aC,aO] at this
  simp only[aA,this.1,this.2,aM,aI,fI]
 simp only[aB]
 cases e:o==31
 case true=>
  obtain rfl:o=31:=by simpa using e
  have:sin a (m.2.2.2.1.length:Int)=true:=by simpa[cB] using hi
  have hg:=tX hs (f:=a) this
  simp only[sin,aC,aO] at this
  simp only[aA,this.1,this.2,aM,aI,aIr (x:=aD m a) (t:=[]) (by omega) (by simp),aJ]
 simp only[aB]
 cases e:o==32
 case true=>
  obtain rfl:o=32:=by simpa using e
  have:sin a (m.1.length:Int)=true∧sin b ((bN m a).2.2.1.length:Int)=true:=by simpa[cB] using hi
  have hsl:gW m a b=true:=by unfold gW;unfold sin at this;rw[this.1,this.2];rfl
  have h1:=xH hsl
  simp only[sin,aC,aO] at this
  obtain⟨h2,h3⟩:=rK (tF hcl this.1.1 this.1.2) h1
  have hg:=tX hs (f:=(dN m a b).1) (bS.2 h2)
  simp only[aA,h2.1,h2.2,aM,aI,fI,mH,aIr (x:=aD m (dN m a b).1) (t:=[tR a]) (by omega) (by simp only[aF,bP];omega),aJ]
 simp only[aB]
 cases e:o==34
 case true=>simp only[aA,fI,mH]
 simp only[aB]
 cases e:o==33
 case true=>simp only[aA,fI,aIV];cases (aD m f).2.2.1.1 !=5 <;> rfl
 simp only[aB]
theorem aPs {m:Im} {i:Ins} {f:Int} (hs:aK m=true) (hf:inM m f=true) (hi:cB m (aD m f) i=true):fof m i f=some (eL m (aD m f) i,()):=by
 unfold fof
 rw[hs,hf,hi]
 rfl
theorem cM {α:Type} {P:α→Prop} {b:Bool} {x y:α} (h1:P x) (h2:P y):P (bif b then x else y):=by cases b <;> assumption
def Small (e:Eff):Prop:=e.1.length≤12∧e.2.1.length≤1
theorem aE0 {m:Im} (hs:aK m=true) {g:Int} (hg:inM m g=true) {t:List Tp} (ht:t.length≤1):Small (iB (aD m g) t):=by
 have:=tX hs hg
 unfold Small iB
 constructor
 ·simp only[aW,eI];omega
 ·cases (aD m g).2.2.1.1 !=5 <;> simp
theorem aLv (o:Int):Small (eK o).1:=by
 unfold eK
 repeat' refine cM (P:=fun z:Eff×Bool×Unit=>Small z.1) ⟨by decide,by decide⟩ ?_
 exact⟨by decide,by decide⟩
theorem aEZ {m:Im} (hs:aK m=true) {i:Ins} {f:Int} (hi:cB m (aD m f) i=true):Small (eL m (aD m f) i):=by
 have hcl:=tY hs
 unfold eL
 rcases i with⟨o,a,b,⟨⟩⟩
 refine cM (aLv _) ?_
 refine cM ⟨by simp,by simp⟩ (cM ⟨by simp,by simp⟩ (cM ⟨by simp,by simp⟩ (cM ⟨by simp,by simp⟩ (cM ⟨by simp,by simp⟩ (cM ⟨by simp,by simp⟩ (cM ⟨by simp,by simp⟩ ?_))))))
 cases e:o==31
 case true=>
  obtain rfl:o=31:=by simpa using e
  have:sin a (m.2.2.2.1.length:Int)=true:=by simpa[cB] using hi
  exact aE0 hs this (by simp)
 simp only[aB]
 cases e:o==32
 case true=>
  obtain rfl:o=32:=by simpa using e
  have:sin a (m.1.length:Int)=true∧sin b ((bN m a).2.2.1.length:Int)=true:=by simpa[cB] using hi
  have hsl:gW m a b=true:=by unfold gW;unfold sin at this;rw[this.1,this.2];rfl
  have h1:=xH hsl
  simp only[sin,aC,aO] at this
  obtain⟨h2,h3⟩:=rK (tF hcl this.1.1 this.1.2) h1
  exact aE0 hs (bS.2 h2) (by simp)
 simp only[aB]
 exact cM ⟨by simp,by simp⟩ (cM (cM ⟨by simp,by simp⟩ ⟨by simp,by simp⟩) ⟨by simp,by simp⟩)
theorem aNP (i:Ins) (pc:Int):(dW i pc).length≤2:=by
 unfold dW
 cases i.1==18 <;> cases i.1==19 <;> cases i.1==33 <;> exact eU rfl
theorem aEk {α β:Type} (p:α→β→Bool) (x:α) (_:β):∀(s:List α) (e:List β),e.length=s.length→((s.zip e).all fun q=>p q.1 q.2)=e.zipIdx.all fun q=>p (s.getD q.2 x) q.1:=by
 intro s e h
 rw[aBX,bG,bG]
 constructor
 ·rintro h1 ⟨b,k⟩ hq
  obtain⟨hk,hb⟩:=List.mem_zipIdx' hq
  have:(s.getD k x,b)∈s.zip e:=by
   rw[List.mem_iff_getElem?]
   refine⟨k,?_⟩
   have hks:k<s.length:=by omega
   simp[List.getElem?_zip_eq_some,hks,hk,hb]
  exact h1 _ this
 ·rintro h1 ⟨a,b⟩ hq
  obtain⟨k,hk⟩:=List.mem_iff_getElem?.1 hq
  rw[List.getElem?_zip_eq_some] at hk
  have h2:(b,k)∈e.zipIdx:=by
   rw[List.mem_zipIdx_iff_getElem?]
   exact hk.2
  have:=h1 _ h2
  simpa[hk.1] using this
theorem aPj (m:Im) (f pc:Int) (s:List Tp) (r) (h:oV m f pc s=some r):∃k,aH0 k m f pc s=some r:=by
 unfold oV at h
 cases hb:aK m&&okL s <;> simp only[hb,aA,aB] at h
 ·cases h
 injection h with h
 subst h
 simp only[aC] at hb
 obtain⟨hs,hsl⟩:=hb
 have hsl:=hJ hsl
 refine⟨20,?_⟩
 have fold:∀g:Int,m.2.2.2.1.getD g.toNat zMt=aD m g:=fun _=>rfl
 have fold2:(aD m f).2.2.2.1.getD pc.toNat cT=aH m f pc:=rfl
 have fold3:(aD m f).2.2.2.1.length=codeN m f:=rfl
 unfold aH0 aN
 simp only[fold,fold2,fold3]
 cases hf:inM m f
 ·simp only[kD,cA,aA]
  have:¬(0≤f∧f<(m.2.2.2.1.length:Int)):=fun hh=>by rw[bS.2 hh] at hf;cases hf
  by_cases h0:f<0
  ·simp only[h0,aM,aA]
  ·have h1:f≥(m.2.2.2.1.length:Int):=by omega
   simp only[h0,h1,aM,bJ,aA,aB]
 obtain⟨f0,f1⟩:=bS.1 hf
 have f2:¬f<0:=by omega
 have f3:¬f≥(m.2.2.2.1.length:Int):=by omega
 have hc:=eW hs hf
 simp only[f0,f1,f2,f3,aM,bJ,aI,eD,aA,aB]
 by_cases p0:pc<0
 ·have:¬0≤pc:=by omega
  simp only[p0,sin,this,aM,bJ,kD,cA,aA]
 have p0':0≤pc:=by omega
 by_cases p1:pc≥(codeN m f:Int)
 ·have:¬pc<(codeN m f:Int):=by omega
  simp only[p0,p1,sin,this,aM,bJ,zW,cA,aA,aB]
 have p1':pc<(codeN m f:Int):=by omega
 have hp:sin pc (codeN m f:Int)=true:=by simp[sin,p0',p1']
 simp only[p0,p0',p1,p1',hp,aM,bJ,aI,aY,aA,aB,wA]
 cases hn:(dW (aH m f pc) pc).contains (codeN m f:Int)
 case true=>simp only[aA]
 simp only[aB]
 cases h6:(aH m f pc).1==6
 case true=>
  simp only[aA]
  by_cases s0:s.length=0
  ·have:((s.length:Int)==0)=true:=by simp[s0]
   rw[this,aG s0]
   rfl
  ·have:((s.length:Int)==0)=false:=qR.2 (by omega)
   rw[this,bA s0]
   simp only[jK,aB]
   by_cases s8:s.length≥8
   ·have:(s.length:Int)≥8:=by omega
    simp only[this,s8,aM,aA]
   ·have h1:¬(s.length:Int)≥8:=by omega
    have h2:IntKind.i64.wrap ((s.length:Int) - 1)=((s.length - 1:Nat):Int):=by rw[cO] <;> omega
    have h3:((s.length - 1:Nat):Int)≤(s.length:Int):=by omega
    simp only[h1,s8,h2,h3,dge,aM,bJ,aI,iQ,aA,aB,aR,iD]
    rw[aBu (by simp only[fW,jH,bY,aW,eI];omega) (by simp)]
    simp only[aJ,fW,jH,bY]
 simp only[aB]
 have hi:=rN hs hf hp
 rw[aPs hs hf hi]
 simp only[aJ]
 have hsm:=aEZ hs (f:=f) hi
 generalize eL m (aD m f) (aH m f pc)=E at hsm⊢
 obtain⟨hE1,hE2⟩:=hsm
 unfold mP
 have w1:IntKind.i64.wrap ((s.length:Int) - (E.1.length:Int))=(s.length:Int) - (E.1.length:Int):=by rw[cO] <;> omega
 have w2:IntKind.i64.wrap ((s.length:Int) - (E.1.length:Int)+(E.2.1.length:Int))=(s.length:Int) - (E.1.length:Int)+(E.2.1.length:Int):=by rw[cO] <;> omega
 simp only[w1,w2]
 by_cases l1:s.length<E.1.length
 ·have:(s.length:Int) - (E.1.length:Int)<0:=by omega
  simp only[this,l1,aM,rB,aA]
 have l1':¬(s.length:Int) - (E.1.length:Int)<0:=by omega
 simp only[l1,l1',bJ,jK,aB]
 by_cases l2:s.length - E.1.length+E.2.1.length>8
 ·have:(s.length:Int) - (E.1.length:Int)+(E.2.1.length:Int)>8:=by omega
  simp only[this,l2,aM,aA]
 have l2':¬(s.length:Int) - (E.1.length:Int)+(E.2.1.length:Int)>8:=by omega
 simp only[l2,l2',bJ,aB]
 have hzip:=aEk (fun a b=>dZ m (aH m f pc).1 a b) zTp zTp (s.drop (s.length - E.1.length)) E.1 (by rw[eI];omega)
 rw[hzip]
 generalize hD:s.length - E.1.length=D at*
 have hDi:(s.length:Int) - (E.1.length:Int)=(D:Int):=by omega
 have w4:IntKind.i64.wrap (D:Int)=(D:Int):=by rw[cO] <;> omega
 rw[show (E.1.zipIdx.all fun q=>dZ m (aH m f pc).1 ((s.drop D).getD q.2 zTp) q.1)=jE (fun k x=>dZ m (aH m f pc).1 ((s.drop D).getD k zTp) x) 0 E.1 by
  rw[aBX,aBQ,bG]
  constructor
  ·intro hh j x hx
   have:=hh (x,j) (by rw[List.mem_zipIdx_iff_getElem?];exact hx)
   simpa using this
  ·rintro hh ⟨x,j⟩ hx
   rw[List.mem_zipIdx_iff_getElem?] at hx
   have:=hh j x hx
   simpa using this]
 refine (aDc (xs:=E.1) (st:=fun k=>(dW (aH m f pc) pc,(k:Int),())) (p:=fun k x=>dZ m (aH m f pc).1 ((s.drop D).getD k zTp) x) (ex:=some ([],[],4,())) (fin:=some (s.take D++E.2.1,dW (aH m f pc) pc,0,())) (fun k x rec hk hlt=>?_) (fun rec=>?_) 20 (by omega)).trans ?_
 ·have hx:(s.drop D).getD k zTp=s.getD (D+k) zTp:=by simp[eF]
  have w3:IntKind.i64.wrap ((D:Int)+(k:Int))=((D+k:Nat):Int):=by rw[cO] <;> omega
  rw[aDE]
  simp only[w4,hDi,w3,fold,fold2,dlt hlt,dge,dlt (show D+k<s.length by omega),aI,aA,aR,getD_some hk,hx,bH hlt (show _≤lenMax by simp only[lenMax];omega)]
  cases dZ m (aH m f pc).1 (s.getD (D+k) zTp) x <;> rfl
 ·have l3:(D:Int)≤(s.length:Int):=by omega
  rw[aDE]
  simp only[w4,hDi,bT,aB,dge,l3,aM,aI,aA,aR,aBU]
  rw[aBu (by simp only[fW,jH,bY,aW,bU];omega) (by simp)]
  simp only[aJ,fW,jH,bY]
 ·cases jE (fun k x=>dZ m (aH m f pc).1 ((s.drop D).getD k zTp) x) 0 E.1 <;> rfl
end Go.Pli

namespace Go.Pli
open Go Go.PM
theorem vD (l:List Cl) {a s:List Tp} (h:a.length=s.length):(bR l a s).length=s.length:=by
 unfold bR
 rw[qZ,List.length_zip,h,Nat.min_self]
theorem aOb (l:List Cl) {a s:List Tp} {k:Nat} (h1:k<a.length) (h2:k<s.length):(bR l a s)[k]? =some (fP l (a.getD k zTp) (s.getD k zTp)):=by
 unfold bR
 rw[lH,aU (show k<(a.zip s).length by rw[List.length_zip];omega)]
 simp[h1,h2]
theorem aNQ {m:Im} (hs:aK m=true) {f pc:Int} (hf:inM m f=true) (hp:sin pc (codeN m f:Int)=true) (hn:(dW (aH m f pc) pc).contains (codeN m f:Int)=false):∀to∈dW (aH m f pc) pc,0≤to∧to<(codeN m f:Int):=by
 have hi:=rN hs hf hp
 have hc:=eW hs hf
 simp only[sin,aC,aO] at hp
 have hw:IntKind.i64.wrap (pc+1)=pc+1:=by rw[cO] <;> omega
 intro to ht
 have hne:to≠(codeN m f:Int):=by
  rintro rfl
  rw[aEh.2 ht] at hn
  cases hn
 have hj:((aH m f pc).1==18 || (aH m f pc).1==19)=true→0≤(aH m f pc).2.1∧(aH m f pc).2.1<(codeN m f:Int):=by
  intro hh
  have:sin (aH m f pc).2.1 (codeN m f:Int)=true:=by
   rw[fX] at hh
   unfold cB at hi
   rcases hh with hh | hh <;> (have e:=eq_of_beq hh;rw[e] at hi;exact hi)
  simpa[sin] using this
 unfold dW at ht
 cases h1:(aH m f pc).1==18 <;> simp only[h1,aA,aB] at ht
 ·cases h2:(aH m f pc).1==19 <;> simp only[h2,aA,aB] at ht
  ·cases h3:(aH m f pc).1==33 <;> simp only[h3,aA,aB] at ht
   ·rw[eE,hw] at ht;omega
   ·cases ht
  ·rw[hw] at ht
   rcases bZ.1 ht with ht | ht
   ·omega
   ·rw[eE] at ht
    have:=hj (by rw[h2,Bool.or_true])
    omega
 ·rw[eE] at ht
  have:=hj (by rw[h1,rB])
  omega
theorem lM {m:Im} (hs:aK m=true) {f pc:Int} {s:List Tp} (h:(aN m f pc s).2.2.1=0):
  inM m f=true∧sin pc (codeN m f:Int)=true∧(aN m f pc s).1.length≤8∧(∀to∈(aN m f pc s).2.1,0≤to∧to<(codeN m f:Int)):=by
 unfold aN at h⊢
 cases hf:inM m f
 ·rw[hf] at h;simp at h
 cases hp:sin pc (codeN m f:Int)
 ·rw[hf,hp] at h;simp at h
 simp only[hf,hp,aI,aY,aB] at h⊢
 cases hn:(dW (aH m f pc) pc).contains (codeN m f:Int)
 case true=>rw[hn] at h;simp at h
 have hin:=aNQ hs hf hp hn
 simp only[hn,aB] at h⊢
 refine⟨trivial,trivial,?_⟩
 cases h6:(aH m f pc).1==6 <;> simp only[h6,aA,aB] at h⊢
 ·unfold mP at h⊢
  generalize eL m (aD m f) (aH m f pc)=E at h⊢
  cases hb:decide (s.length<E.1.length) || decide (s.length - E.1.length+E.2.1.length>8) <;> simp only[hb,aA,aB] at h⊢
  ·simp only[Bool.or_eq_false_iff,qI] at hb
   cases hz:((s.drop (s.length - E.1.length)).zip E.1).all fun p=>dZ m (aH m f pc).1 p.1 p.2 <;> simp only[hz,aA,aB] at h⊢
   ·cases h
   ·refine⟨?_,hin⟩
    rw[aW,bU]
    omega
  ·cases h
 ·cases hb:decide (s.length=0) || decide (s.length≥8) <;> simp only[hb,aA,aB] at h⊢
  ·simp only[Bool.or_eq_false_iff,qI] at hb
   refine⟨?_,hin⟩
   rw[aW,eI]
   omega
  ·cases h
structure OneP (m:Im) (f pc:Int) (h:List Sh) (q:List Bool):Prop where
 sane:aK m=true
 meth:inM m f=true
 at':sin pc (codeN m f:Int)=true
 hl:h.length=codeN m f
 ql:q.length=codeN m f
 ok:∀s∈h,okL s.2.1=true
theorem aRQ {m:Im} {f pc:Int} {h:List Sh} {q:List Bool} (hh:sE m f pc h q=true):OneP m f pc h q:=by
 simp only[sE,aC,aO,bG] at hh
 exact⟨hh.1,hh.2.1,hh.2.2.1,hh.2.2.2.1,hh.2.2.2.2.1,hh.2.2.2.2.2⟩
theorem OneP.to {m:Im} {f pc:Int} {h:List Sh} {q:List Bool} (hh:OneP m f pc h q):sE m f pc h q=true:=by
 simp only[sE,aC,aO,bG]
 exact⟨hh.1,hh.2,hh.3,hh.4,hh.5,hh.6⟩
def aRL (z:St4):Prop:=z.2.1.length≤2
theorem tW (m:Im) (f pc:Int) (s:List Tp):aRL (aN m f pc s):=by
 have h2:=aNP (aH m f pc) pc
 unfold aN mP
 exact cM (dH _) (cM (dH _) (cM (cM (dH _) h2) (cM (dH _) (cM h2 (dH _)))))
end Go.Pli

namespace Go.Pli
open Go Go.PM
theorem aQ7 (s:List Int):aI9 s=some (idL s,()):=by simp[aI9,idL]
theorem aQ8 (s:List (List Int)):aJc s=some (idL s,()):=by simp[aJc,idL]
theorem aGE {l:List (List Sh)} (h:fC l=true) {n:Nat} (hn:n<l.length):(l.getD n []).length<1000000∧∀s∈l.getD n [],s.2.1.length<1000000:=by
 simp only[fC,aC,bG] at h
 rw[getD_some (aU hn)]
 have:=h.2 _ (eC hn)
 exact⟨hJ this.1,fun s hs=>hJ (this.2 s hs)⟩
theorem aQg (to:Int) (part:List Int) (_:aQj to part):aQi to part=some (sY to part,()):=rfl
theorem aO4 (l:List Int) (c:List Int×Unit) (h:aO7 l c):∃k,aO6 k l c=some (aBd l c,()):=by
 refine⟨l.length+1,aC9 (st:=fun k=>((k:Int),())) (p:=fun x=>sY x c.1) (fun k x rec hk hlt=>?_) (fun rec=>?_) _ (gN _)⟩
 ·unfold aDu
  simp only[dlt hlt,dge,aI,aA,aR,getD_some hk,bH hlt h.1.1]
 ·unfold aDu
  simp only[bT,aB]
theorem aQz (l:List Int) (c:List Int×Unit) (_:aQB l c):aIS l c=some (zH l c,()):=by
 unfold aIS aBd zH
 rw[aBc]
theorem aQe (l:List (List Int)) (part:List Int) (r) (h:sX l part=some r):∃k,aIH k l part=some r:=by
 unfold sX at h
 cases hb:okL part <;> simp only[hb,aA,aB] at h
 ·cases h
 injection h with h
 subst h
 have hp:=hJ hb
 refine⟨part.length+1,?_⟩
 unfold aIH sW
 have:=lX (L:=aBt l part) (xs:=part) (st:=fun k=>((k:Int),())) (p:=fun k=> !(sin k (l.length:Int)&&(l.getD k.toNat []).any fun to=>part.contains to)) (ex:=some (true,())) (fin:=some (false,()))
  (fun k x rec hk hlt=>by
   have hw:=bH hlt (show _≤lenMax by simp only[lenMax];omega)
   rw[aBt]
   simp only[dlt hlt,dge,aI,aA,aR,getD_some hk,hw,sin]
   by_cases h0:x<0
   ·have:¬0≤x:=by omega
    simp only[h0,this,aM,bJ,kD,cA,aA]
   have h0':0≤x:=by omega
   by_cases h1:x≥(l.length:Int)
   ·have:¬x<(l.length:Int):=by omega
    simp only[h0,h1,this,aM,bJ,zW,kD,cA,aA,aB]
   have h1':x<(l.length:Int):=by omega
   simp only[h0,h0',h1,h1',aM,bJ,aI,eD,aA,aB,zH,sY]
   cases (l.getD x.toNat []).any fun to=>part.contains to <;> rfl)
  (fun rec=>by rw[aBt];simp only[bT,aB]) (part.length+1) (by omega)
 refine this.trans ?_
 rw[←List.not_any_eq_all_not]
 cases part.any fun k=>sin k (l.length:Int)&&(l.getD k.toNat []).any fun to=>part.contains to <;> rfl
theorem aGH (m:Im):(gB m).length=m.2.2.2.1.length:=by unfold gB;rw[qZ,oP]
end Go.Pli
