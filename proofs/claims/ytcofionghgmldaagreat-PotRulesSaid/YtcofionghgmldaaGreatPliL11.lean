/- Who calls whom: the printed functions come to what is told in plain Lean. -/
import Derived.Test.YtcofionghgmldaaGreatPliNt
import Derived.Test.YtcofionghgmldaaGreatPliL5E
namespace Go.Pli
open Go Go.PM
theorem uY {α σ R:Type} {L:σ→(σ→Option R)→Option R} {n B:Nat} {st:Nat→List α→σ} {f:Nat→List α} {fin:List α→Option R} (hB:∀k,k<n→(f k).length≤B)
  (h1:∀(k:Nat) (out:List α) (rec),k<n→out.length≤B*n→L (st k out) rec=rec (st (k+1) (out++f k)))
  (h2:∀out rec,out.length≤B*n→L (st n out) rec=fin out):∀F:Nat,n<F→aE L F (st 0 [])=fin (((List.range n).map f).flatten):=by
 have hlen:∀k,k≤n→(((List.range k).map f).flatten).length≤B*k:=by
  intro k
  induction k with
  | zero=>intro _;simp
  | succ k ih=>
   intro hk
   have:=ih (by omega)
   have hb:=hB k (by omega)
   rw[List.range_succ,jF,lB,aV,Nat.mul_succ]
   simp only[dH,List.map_nil,fV,jG,bS]
   omega
 have key:∀(j k F:Nat),k+j=n→j<F→aE L F (st k (((List.range k).map f).flatten))=fin (((List.range n).map f).flatten):=by
  intro j
  induction j with
  | zero=>
   intro k F hk hF
   obtain⟨F,rfl⟩:∃m,F=m+1:=⟨F - 1,by omega⟩
   have:k=n:=by omega
   subst this
   rw[aY,h2 _ _ (hlen k (aU _))]
  | succ j ih=>
   intro k F hk hF
   obtain⟨F,rfl⟩:∃m,F=m+1:=⟨F - 1,by omega⟩
   have hb:B*k≤B*n:=Nat.mul_le_mul_left _ (by omega)
   rw[aY,h1 k _ _ (by omega) (lY (hlen k (by omega)) hb)]
   have:=ih (k+1) F (by omega) (by omega)
   rw[List.range_succ,jF,lB] at this
   simpa using this
 intro F hF
 have:=key n 0 F (by omega) hF
 simpa using this
theorem aDm (p:Int→Bool):∀n:Nat,((List.range n).map fun k:Nat=>bif p (k:Int) then[(k:Int)] else[]).flatten=(ints n).filter p
 | 0=>rfl
 | n+1=>by
  have ih:=aDm p n
  unfold ints at ih⊢
  rw[List.range_succ,jF,lB,ih,jF,List.filter_append]
  congr 1
  cases h:p (n:Int) <;> simp[h]
theorem aFE {α β:Type} (g:α→β) (z:α) (l:List α):(List.range l.length).map (fun k=>g (l.getD k z))=l.map g:=by
 apply aEf (by simp)
 intro i h1 h2
 have:i<l.length:=by simpa using h1
 simp[this]
theorem vH (n:Nat):(ints n).length=n:=by simp[ints]
theorem aOL {n k:Nat} (h:k<n) (z:Int):(ints n).getD k z=(k:Int):=by simp[ints,h]
theorem pW {n:Nat} {x:Int}:x∈ints n↔0≤x∧x<(n:Int):=by
 simp only[ints,fJ,wH]
 constructor
 ·rintro ⟨k,hk,rfl⟩;omega
 ·rintro ⟨h0,h1⟩;exact⟨x.toNat,by omega,by omega⟩
theorem aDZ (m:Im) (c:Int):(kV m c).length≤m.1.length:=by
 unfold kV
 exact lY (aBL _ _) (by simp[ints])
theorem jQ {n:Nat} (h:n<549755813888):decide (n<rowMax)=true:=aG h
theorem aRa (m:Im) (c:Int) (r) (h:vV m c=some r):∃k,aJj k m c=some r:=by
 unfold vV at h
 cases hi:cB m <;> simp only[hi,aA,aB] at h
 ·cases h
 injection h with h
 subst h
 have h8:=(dI hi).classes
 refine⟨m.1.length+1,?_⟩
 unfold aJj
 have:=uY (L:=aBw m c) (n:=m.1.length) (B:=1) (st:=fun k out=>(out,(k:Int),())) (f:=fun k=>bif dD m.1 (k:Int) c then[(k:Int)] else[]) (fin:=fun out=>some (idL out,())) (fun k _=>by cases dD m.1 (k:Int) c <;> simp)
  (fun k out rec hk ho=>by
   rw[aBw]
   simp only[dlt hk,aA,aF,bI,jQ (show out.length+(0+1)<549755813888 by omega),bG hk (by simp only[lenMax];omega)]
   cases dD m.1 (k:Int) c <;> simp)
  (fun out rec _=>by rw[aBw];simp only[bO,aB]) (m.1.length+1) (by omega)
 rw[aDm (fun n=>dD m.1 n c)] at this
 exact this
theorem aRn (m:Im) (n c:Int) (_:0≤n):(cF m.1 n).contains c=dD m.1 n c:=by
 unfold dD cF
 by_cases hn:n<(m.1.length:Int)
 ·simp only[hn,aK,aA,eG]
  cases hc:(bU m.1 n).contains c
  ·simp
  ·have hm:c∈bU m.1 n:=by simpa using hc
   have:=oU (n.toNat+1) n (by omega) hm
   simp[this.1,show c<(m.1.length:Int) by omega]
 ·simp[hn]
theorem aMr {m:Im} (hi:cB m=true) (n:Int):iT m.1 n=some (cF m.1 n,()):=by
 have h8:=(dI hi).classes
 have hok:okL m.1=true:=by unfold okL;simp;omega
 unfold iT;rw[hok];rfl
theorem aFx {l:List Int} {x:Int} (h:l.length<1000000000):rin l x=some (l.contains x,()):=by
 unfold rin;rw[aG (show l.length<9223372036854775807 by omega)];rfl
theorem aM2 (m:Im) (c:Int) (r) (h:uE m c=some r):∃k,aF1 k m c=some r:=by
 unfold uE at h
 cases hi:cB m <;> simp only[hi,aA,aB] at h
 ·cases h
 injection h with h
 subst h
 have h8:=(dI hi).classes
 refine⟨m.1.length+1,?_⟩
 unfold aF1
 have:=uY (L:=aAx m c) (n:=m.1.length) (B:=1) (st:=fun k out=>(out,(k:Int),())) (f:=fun k=>bif dD m.1 (k:Int) c then[(k:Int)] else[]) (fin:=fun out=>some (out,())) (fun k _=>by cases dD m.1 (k:Int) c <;> simp)
  (fun k out rec hk ho=>by
   have hl:=aFG (l:=m.1) (c:=(k:Int))
   rw[aAx]
   simp only[dlt hk,aA,aMr hi,aJ,aFx (show (cF m.1 (k:Int)).length<1000000000 by omega),aRn m (k:Int) c (by omega),aF,bI,jQ (show out.length+(0+1)<549755813888 by omega),bG hk (by simp only[lenMax];omega)]
   cases dD m.1 (k:Int) c <;> simp)
  (fun out rec _=>by rw[aAx];simp only[bO,aB]) (m.1.length+1) (by omega)
 rw[aDm (fun n=>dD m.1 n c)] at this
 exact this
theorem aIE (m:Im) (c n:Int):aIG m c n=some (dL m c n):=by
 unfold aIG dL gX bQ
 by_cases h1:c<0
 ·have:¬0≤c:=by omega
  simp[h1,this]
 ·have h1':0≤c:=by omega
  by_cases h2:c≥(m.1.length:Int)
  ·have:¬c<(m.1.length:Int):=by omega
   simp[h1,h2,this]
  ·have h2':c<(m.1.length:Int):=by omega
   by_cases h3:n<0
   ·have:¬0≤n:=by omega
    simp[h1,h2,h3,this]
   ·have h3':0≤n:=by omega
    by_cases h4:n≥((m.1.getD c.toNat zCl).2.2.1.length:Int)
    ·have:¬n<((m.1.getD c.toNat zCl).2.2.1.length:Int):=by omega
     simp only[h1,h2,h3,h4,h1',h2',h3',this,aK,bE,aA,aB,aI,zO]
    ·have h4':n<((m.1.getD c.toNat zCl).2.2.1.length:Int):=by omega
     simp only[h1,h2,h3,h4,h1',h2',h3',h4',aK,bE,aA,aB,aI]
theorem aMG (m:Im) (c n:Int):aMH m c n=some (xS m c n):=aIE m c n
theorem aLl (m:Im) (l:List Int) (n:Int):((List.range l.length).map fun k=>bif (dL m (l.getD k 0) n).2.1 then[(dL m (l.getD k 0) n).1] else[]).flatten=pL m l n:=by
 rw[aFE (fun c=>bif (dL m c n).2.1 then[(dL m c n).1] else[]) 0 l]
 unfold pL
 induction l with
 | nil=>rfl
 | cons c l ih=>
  rw[dH,fV,ih,List.filter_cons]
  cases h:(dL m c n).2.1 <;> simp
theorem aLm (m:Im) (l:List Int) (n:Int):(pL m l n).length≤l.length:=by
 unfold pL
 rw[pF]
 exact aBL _ _
theorem aEH {m:Im} {i:Ins} {L:List Int×Int×Unit→(List Int×Int×Unit→Option (List Int×Unit))→Option (List Int×Unit)} (l:List Int) (hl:l.length<1000)
  (hL:∀s rec,L s rec=(bif decide (s.2.1<(l.length:Int)) then
  bif decide (0≤s.2.1)&&decide (s.2.1<l.length) then
   let r4:=dL m (l.getD s.2.1.toNat 0) i.2.2.1
   bif r4.2.1 then
    bif decide (s.1.length+[r4.1].length<rowMax) then
     rec (s.1++[r4.1],IntKind.i64.wrap (s.2.1+1),())
    else none
   else rec (s.1,IntKind.i64.wrap (s.2.1+1),())
  else none
 else some (s.1,()))):aE L (l.length+1) ([],0,())=some (pL m l i.2.2.1,()):=by
 have:=uY (L:=L) (n:=l.length) (B:=1) (st:=fun k out=>(out,(k:Int),())) (f:=fun k=>bif (dL m (l.getD k 0) i.2.2.1).2.1 then[(dL m (l.getD k 0) i.2.2.1).1] else[]) (fin:=fun out=>some (out,())) (fun k _=>by cases (dL m (l.getD k 0) i.2.2.1).2.1 <;> simp)
  (fun k out rec hk ho=>by
   rw[hL]
   simp only[dlt hk,dge,aI,aA,aT,aF,bI,jQ (show out.length+(0+1)<549755813888 by omega),bG hk (by simp only[lenMax];omega)]
   cases (dL m (l.getD k 0) i.2.2.1).2.1 <;> simp)
  (fun out rec _=>by rw[hL];simp only[bO,aB]) (l.length+1) (by omega)
 rw[aLl] at this
 exact this
theorem aQi (m:Im) (i:Ins) (r) (h:oT m i=some r):∃k,aID k m i=some r:=by
 unfold oT at h
 cases hi:cB m <;> simp only[hi,aA,aB] at h
 ·cases h
 injection h with h
 subst h
 have h8:=(dI hi).classes
 have hl:=aDZ m i.2.1
 refine⟨(kV m i.2.1).length+1,?_⟩
 unfold aID cO
 have hb:vV m i.2.1=some (kV m i.2.1,()):=by unfold vV;rw[hi];rfl
 cases h1:i.1==31 <;> simp only[aA,aB]
 ·cases h2:i.1==32 <;> simp only[aA,aB]
  rw[hb]
  simp only[aJ]
  exact aEH (kV m i.2.1) (by omega) (fun s rec=>rfl)
 ·rfl
theorem aMt (m:Im) (i:Ins) (r) (h:tV m i=some r):∃k,aFH k m i=some r:=by
 unfold tV at h
 cases hi:cB m <;> simp only[hi,aA,aB] at h
 ·cases h
 injection h with h
 subst h
 have h8:=(dI hi).classes
 have hl:=aDZ m i.2.1
 refine⟨(kV m i.2.1).length+1,?_⟩
 unfold aFH cO
 have hb:uE m i.2.1=some (kV m i.2.1,()):=by unfold uE;rw[hi];rfl
 cases h1:i.1==31 <;> simp only[aA,aB,aJ]
 ·cases h2:i.1==32 <;> simp only[aA,aB]
  rw[hb]
  simp only[aJ]
  exact aEH (kV m i.2.1) (by omega) (fun s rec=>rfl)
 ·have h2:(i.1==32)=false:=by
   have:i.1=31:=by simpa using h1
   rw[this];rfl
  have hroom:decide (([]:List Int).length+[i.2.1].length<rowMax)=true:=jQ (by simp)
  rw[h2,hroom]
  rfl
theorem wU {m:Im} (hi:cB m=true) (i:Ins):(cO m i).length≤8:=by
 have h8:=(dI hi).classes
 have hl:=aDZ m i.2.1
 have hs:=aLm m (kV m i.2.1) i.2.2.1
 unfold cO
 cases i.1==31 <;> simp only[aA,aB]
 ·cases i.1==32 <;> simp only[aA,aB]
  ·simp
  ·omega
 ·simp
theorem cA {m:Im} {f:Int}:inM m f=true↔0≤f∧f<(m.2.2.2.1.length:Int):=by
 unfold inM sin nM;simp
end Go.Pli

namespace Go.Pli
open Go Go.PM
theorem oF {σ R:Type} {L:σ→(σ→Option R)→Option R} {n:Nat} {st:Nat→σ} {fin:Option R}
  (h1:∀(k:Nat) (rec),k<n→L (st k) rec=rec (st (k+1))) (h2:∀rec,L (st n) rec=fin):∀F:Nat,n<F→aE L F (st 0)=fin:=by
 have key:∀(j k F:Nat),k+j=n→j<F→aE L F (st k)=fin:=by
  intro j
  induction j with
  | zero=>
   intro k F hk hF
   obtain⟨F,rfl⟩:∃m,F=m+1:=⟨F - 1,by omega⟩
   have:k=n:=by omega
   subst this
   rw[aY,h2]
  | succ j ih=>
   intro k F hk hF
   obtain⟨F,rfl⟩:∃m,F=m+1:=⟨F - 1,by omega⟩
   rw[aY,h1 k _ (by omega)]
   exact ih (k+1) F (by omega) (by omega)
 intro F hF
 exact key n 0 F (by omega) hF
theorem gY {α:Type} {l:List α} {n:Nat} {z:α} (h:l.length≤n):l.getD n z=z:=by simp[dZ,h]
theorem fB {α:Type} {l:List α} (h:l.length<1000000):okL l=true:=by simpa[okL] using h
theorem aJx {a b:Nat} (h:a<b):Nat.blt a b=true:=by rw[eS];exact h
theorem aIP {α:Type} (b:Bool) (x y:α):(bif b then some x else some y)=some (bif b then x else y):=by cases b <;> rfl
theorem aBZ {α:Type} (l:List (List α)) {k:Nat} (hk:k<l.length):(l.take (k+1)).flatten=(l.take k).flatten++l.getD k []:=by
 rw[pC,lB]
 congr 1
 simp[hk]
theorem aEI {α:Type} (l:List (List α)) (k:Nat):(l.take k).flatten.length≤l.flatten.length:=by
 have:l.flatten=(l.take k).flatten++(l.drop k).flatten:=by rw[←lB,wG]
 rw[this,aV]
 exact Nat.le_add_right _ _
theorem aO8 (s:Unit) (n:Int) (r) (h:vK s n=some r):aHH s n=some r:=by
 unfold vK at h
 cases hb:decide (0≤n)&&Nat.blt n.toNat 1000000000 <;> simp only[hb,aA,aB] at h
 ·cases h
 injection h with h
 subst h
 simp only[aC,aP,eS] at hb
 obtain⟨h0,h1⟩:=hb
 have h0':¬n<0:=by omega
 have e1:IntKind.i64.wrap ((0:Int) - (([]:List Tp).length:Int))=0:=by simp;rfl
 have e2:IntKind.i64.wrap (n - 0)=n:=by rw[cT] <;> omega
 unfold aHH
 rw[e1,e2]
 by_cases hp:n>0
 ·have hp':0<n:=hp
  have hm:n<(rowMax:Int):=by simp only[rowMax];omega
  have:0≤max n 0:=by omega
  simp[h0',hp',hm,this]
 ·simp[h0',hp]
theorem aQw (l:List (List Tp)) (r) (h:nI l=some r):∃k,aIQ k l=some r:=by
 unfold nI at h
 cases hb:Nat.blt l.flatten.length 1000000000&&okL l <;> simp only[hb,aA,aB] at h
 ·cases h
 injection h with h
 subst h
 simp only[aC,eS] at hb
 obtain⟨hf,hl⟩:=hb
 have hl:=hU hl
 refine⟨l.length+1,?_⟩
 unfold aIQ
 refine oF (n:=l.length) (st:=fun k=>(((l.take k).flatten.length:Int),(k:Int),())) (fin:=some (l.flatten,())) (fun k rec hk=>?_) (fun rec=>?_) (l.length+1) (by omega)
 ·unfold aDR
  have hw:IntKind.i64.wrap (((l.take k).flatten.length:Int)+((l.getD k ([]:List Tp)).length:Int))=((l.take (k+1)).flatten.length:Int):=by
   have e:=aBZ l hk
   have:=aEI l (k+1)
   rw[e,aV] at this⊢
   rw[cT] <;> omega
  have hn:¬((l.take (k+1)).flatten.length:Int)<0:=by omega
  simp only[dlt hk,dge,aI,aA,aT,hw,hn,bE,aB,bG hk (show l.length≤lenMax by simp only[lenMax];omega)]
 ·unfold aDR
  have hg:vK () ((l.take l.length).flatten.length:Int)=some ([],()):=by
   unfold vK
   rw[iD]
   have h1:(0:Int)≤(l.flatten.length:Int):=by omega
   have h2:Nat.blt (l.flatten.length:Int).toNat 1000000000=true:=by rw[eS];omega
   simp only[h1,h2,aK,aI,aA]
  simp only[bO,aB,hg,aJ]
  have:=oF (L:=aBm l) (n:=l.length) (st:=fun k=>((l.take k).flatten,(k:Int),())) (fin:=some (l.flatten,())) (fun k rec hk=>by
   unfold aBm
   have hm:decide ((l.take k).flatten.length+(l.getD k ([]:List Tp)).length<rowMax)=true:=by
    have e:=aBZ l hk
    have:=aEI l (k+1)
    rw[e,aV] at this
    exact aG (by simp only[rowMax];omega)
   simp only[dlt hk,dge,aI,aA,aT,hm,aBZ l hk,bG hk (show l.length≤lenMax by simp only[lenMax];omega)])
   (fun rec=>by
    unfold aBm
    simp only[bO,aB,iD]) (l.length+1) (by omega)
  simpa using this
theorem aBl {l:List (List Tp)} (h1:l.flatten.length<1000000000) (h2:l.length<1000000):nI l=some (l.flatten,()):=by
 unfold nI
 rw[aJx h1,fB h2]
 rfl
theorem aOV (s:List Int) (v:Int) (h:aOY s v):∃k,aOX k s v=some (aA1 s v,()):=by
 refine⟨s.length+1,aC6 (st:=fun k=>((k:Int),())) (p:=fun n=>v==n) (fun k x rec hk hlt=>?_) (fun rec=>?_) _ (gO _)⟩
 ·unfold aDq
  simp only[dlt hlt,dge,aI,aA,aT,getD_some hk,bG hlt h.1.1]
 ·unfold aDq
  simp only[bO,aB]
theorem aQr (s:List Int) (v:Int) (_:aQs s v):aIL s v=some (vT s v,()):=by
 unfold aIL aA1 vT
 rw[aA2,List.contains_eq_any_beq]
theorem aQU (s:List Iq):aIZ s=some (idL s,()):=by simp[aIZ,idL]
theorem aQf (m:Im) (c:Int) (r) (h:cup m c=some r):aIB m c=some r:=by
 unfold cup at h
 cases hb:sin c (m.1.length:Int) <;> simp only[hb,aA,aB] at h
 ·cases h
 injection h with h
 subst h
 simp only[sin,aC,aP] at hb
 have h1:¬c<0:=by omega
 have h2:¬c≥(m.1.length:Int):=by omega
 unfold aIB kup eB
 simp only[hb.1,hb.2,h1,h2,aK,bE,aI,lC,aA]
 cases decide ((m.1.getD c.toNat zCl).1≥c) <;> rfl
theorem aPC {m:Im} {c:Int} (h0:0≤c) (h1:c<(m.1.length:Int)):dT m c=dT m (kup m.1 c)++(bQ m c).2.1:=by
 have hk:=kN (l:=m.1) h0
 have h2:kup m.1 c<(m.1.length:Int):=by omega
 unfold dT cF
 simp only[h1,h2,aK,aA]
 rw[gM h0]
 simp
theorem aIj {m:Im} {c:Int} (h:c<0):dT m c=[]:=by
 unfold dT cF
 rw[eX h]
 cases decide (c<(m.1.length:Int)) <;> rfl
theorem aJa {m:Im} (hi:cB m=true) {c:Int}:(bQ m c).2.1.length≤8:=by
 have hf:=dI hi
 unfold bQ
 by_cases hc:c.toNat<m.1.length
 ·have:=hf.cls (m.1.getD c.toNat zCl) (by simp[hc])
  simp only[oN,gV,aC,aP] at this
  have:=this.2.2.1.1
  omega
 ·have:m.1.getD c.toNat zCl=zCl:=gY (by omega)
  rw[this];decide
theorem aJf {m:Im} (hi:cB m=true):∀(n:Nat) (c:Int) (out:List Tp),c.toNat<n→c<(m.1.length:Int)→out.length+8*(c.toNat+1)≤1000→
  aE (aBv m) (n+1) (c,out,())=some (dT m c++out,())
 | 0,_,_,h,_,_=>by omega
 | n+1,c,out,h,hc,ho=>by
  rw[aY,aBv]
  by_cases h0:c<0
  ·have:¬c≥0:=by omega
   simp only[this,bE,aB,aIj h0,nO]
  ·have h0':c≥0:=by omega
   have h0'':0≤c:=by omega
   have hk:=kN (l:=m.1) h0''
   have h8:=aJa hi (c:=c)
   have hcat:nI [(m.1.getD c.toNat zCl).2.1,out]=some ((bQ m c).2.1++out,()):=by
    rw[aBl]
    ·simp[bQ]
    ·simp only[fV,jG,bS,aV]
     unfold bQ at h8
     omega
    ·simp
   have hup:cup m c=some (kup m.1 c,()):=by simp[cup,sin,h0'',hc]
   simp only[h0',hc,aK,aI,aA,hcat,hup,aJ]
   rw[aPC h0'' hc,bX]
   by_cases hn:kup m.1 c<0
   ·rw[aY,aBv]
    have:¬kup m.1 c≥0:=by omega
    simp only[this,bE,aB,aIj hn,nO]
   ·exact aJf hi n (kup m.1 c) _ (by omega) (by omega) (by rw[aV];omega)
theorem aQ8 (m:Im) (c:Int) (r) (h:oV m c=some r):∃k,aJh k m c=some r:=by
 unfold oV at h
 cases hi:cB m <;> simp only[hi,aA,aB] at h
 ·cases h
 injection h with h
 subst h
 have h8:=(dI hi).classes
 refine⟨c.toNat+1+1,?_⟩
 unfold aJh
 by_cases hc:c≥(m.1.length:Int)
 ·have:¬c<(m.1.length:Int):=by omega
  simp[hc,dT,cF,this]
 ·have hc':c<(m.1.length:Int):=by omega
  simp only[hc,bE,aB]
  rw[aJf hi (c.toNat+1) c [] (by omega) hc' (by simp only[bI];omega),bS]
theorem aBf {m:Im} (hi:cB m=true) (c:Int):(dT m c).length≤8*8:=by
 have h8:=(dI hi).classes
 have hl:(cF m.1 c).length≤8:=by
  unfold cF
  by_cases hc:c<(m.1.length:Int)
  ·have:=sR m.1 (c.toNat+1) c (by omega)
   by_cases h0:0≤c
   ·simp[hc];omega
   ·simp[hc,eX (show c<0 by omega)]
  ·simp[hc]
 unfold dT
 have key:∀l:List Int,((l.map fun s=>(bQ m s).2.1).flatten).length≤8*l.length:=by
  intro l
  induction l with
  | nil=>simp
  | cons x l ih=>
   have:=aJa hi (c:=x)
   simp only[dH,fV,aV,aF]
   omega
 have:=key (cF m.1 c).reverse
 rw[List.length_reverse] at this
 omega
theorem aQk (m:Im) (c:Int) (r) (h:vS m c=some r):aIH m c=some r:=by
 unfold vS at h
 cases hi:cB m <;> simp only[hi,aA,aB] at h
 ·cases h
 injection h with h
 subst h
 have hl:=aBf hi c
 unfold aIH oV rE
 rw[hi]
 simp only[aA,aJ]
 rw[cT (by omega) (by omega)]
 simp
theorem aDA {α:Type} (a b:List α) (n:Nat) (z:α):(a++b).getD n z=if n<a.length then a.getD n z else b.getD (n - a.length) z:=by
 by_cases h:n<a.length <;> simp[dZ,List.getElem?_append,h]
theorem aQO (x:Mt) (n:Int) (r) (h:sQ x n=some r):aIW x n=some r:=by
 unfold sQ at h
 cases hb:okL x.1&&okL x.2.1 <;> simp only[hb,aA,aB] at h
 ·cases h
 injection h with h
 subst h
 simp only[aC] at hb
 have h1:=hU hb.1
 have h2:=hU hb.2
 unfold aIW iZ
 by_cases h0:n<0
 ·simp[h0]
 ·rw[cT (by omega) (by omega)]
  by_cases h3:n≥(x.1.length:Int)+(x.2.1.length:Int)
  ·have:(x.1++x.2.1).length≤n.toNat:=by rw[aV];omega
   rw[gY this]
   simp only[h0,h3,aK,bE,aA,aB]
  ·simp only[h0,h3,bE,aB]
   rw[aDA]
   by_cases h4:n<(x.1.length:Int)
   ·have h5:n.toNat<x.1.length:=by omega
    have h6:0≤n:=by omega
    simp[h4,h5,h6]
   ·have h5:¬n.toNat<x.1.length:=by omega
    have h6:0≤n - (x.1.length:Int):=by omega
    have h7:n - (x.1.length:Int)<(x.2.1.length:Int):=by omega
    rw[cT (by omega) (by omega)]
    have h8:(n - (x.1.length:Int)).toNat=n.toNat - x.1.length:=by omega
    simp only[h4,h5,h6,h7,aK,bE,aI,aA,aB,cH,h8]
theorem aNJ (o:Int):aGE o=some (lK o,()):=by
 unfold aGE lK
 cases decide (o≥7) <;> rfl
theorem aPi (o:Int):aHW o=some (eI o):=by
 unfold aHW eI gE iJ vQ
 simp only[aIP]
theorem aPH (m:Im) (o:Int) (t w:Tp):aIk m o t w=some (dV m o t w,()):=by
 unfold aIk dV
 cases w.1==0 <;> cases w.1==4 <;> cases hZ t <;> cases o !=34 <;> rfl
theorem aPr (i:Ins) (pc:Int):aHZ i pc=some (dS i pc,()):=by
 unfold aHZ dS
 cases i.1==18 <;> cases i.1==19 <;> cases i.1==33 <;> rfl
theorem aIl {x:Mt} {t:List Tp} (h1:x.1.length<1000000) (h2:t.length≤x.1.length):sJ x t=some (iB x t,()):=by
 unfold sJ
 rw[fB h1,fB (show t.length<1000000 by omega),aG h2]
 rfl
theorem aPL (x:Mt) (t:List Tp) (r) (h:sJ x t=some r):aIm x t=some r:=by
 unfold sJ at h
 cases hb:okL x.1&&(okL t&&decide (t.length≤x.1.length)) <;> simp only[hb,aA,aB] at h
 ·cases h
 injection h with h
 subst h
 simp only[aC,aP] at hb
 have h1:=hU hb.1
 have h3:=hb.2.2
 have h4:(t.length:Int)≤(x.1.length:Int):=by omega
 have h5:(0:Int)≤(t.length:Int):=by omega
 unfold aIm iB
 rw[iD,aBl (by simp only[fV,jG,bS,aV,eF];omega) (by simp)]
 simp only[h4,h5,aK,aI,aA,aJ,jJ,fV,jG,bS]
 cases x.2.2.1.1 !=5 <;> rfl
end Go.Pli

namespace Go.Pli
open Go Go.PM
theorem dR {m:Im} (h:aM m=true):cB m=true∧jO m=true:=by simpa[aM] using h
theorem aE6 {m:Im} (h:aM m=true):eV m m.2.1=true:=by
 have:=(dR h).2
 simp only[jO,aC] at this
 exact this.1
theorem tL {m:Im} (h:aM m=true):kA m=true:=by
 have:=(dR h).2
 simp only[jO,aC] at this
 exact this.2.1
theorem pN {m:Im} (h:aM m=true) {f:Int} (hf:inM m f=true):eU m (aD m f)=true:=by
 have:=(dR h).2
 simp only[jO,aC] at this
 obtain⟨h0,h1⟩:=cA.1 hf
 exact bL.1 this.2.2.1 _ (rX h0 h1)
theorem fA {m:Im} (h:aM m=true) {f:Int} (hf:inM m f=true):0<codeN m f∧codeN m f≤64:=by
 have h1:=pN h hf
 simp only[eU,aC,aP] at h1
 obtain⟨a,b⟩:=cA.1 hf
 have h2:=(mS ((dI (dR h).1).mts _ (rX a b))).2.2.2.1.1
 unfold codeN
 have:=h1.2.2.2.1
 omega
theorem aLt {m:Im} (h:aM m=true) {f:Int} (hf:inM m f=true):(iV m f).length=codeN m f:=by
 have h1:=pN h hf
 simp only[eU,aC,aP] at h1
 exact h1.2.2.2.2.1
theorem tK {m:Im} (h:aM m=true) {f:Int} (hf:inM m f=true):(aD m f).1.length+(aD m f).2.1.length≤8:=by
 have h1:=pN h hf
 simp only[eU,aC,aP] at h1
 exact h1.2.2.2.2.2.1
theorem aDo {m:Im} {f pc:Int} (hp:sin pc (codeN m f:Int)=true):aH m f pc∈(aD m f).2.2.2.1:=by
 simp only[sin,aC,aP] at hp
 unfold codeN at hp
 have:pc.toNat<(aD m f).2.2.2.1.length:=by omega
 unfold aH
 rw[getD_some (aW this)]
 exact eE this
theorem rG {m:Im} (h:aM m=true) {f pc:Int} (hf:inM m f=true) (hp:sin pc (codeN m f:Int)=true):bZ m (aD m f) (aH m f pc)=true:=by
 have h1:=pN h hf
 simp only[eU,aC] at h1
 exact bL.1 h1.2.2.2.2.2.2 _ (aDo hp)
theorem aH6 {α β:Type} (g:α→List β):∀l:List α,((l.reverse.map g).flatten).length=bA (l.map fun x=>(g x).length)
 | []=>rfl
 | x::l=>by
  have:=aH6 g l
  simp only[List.reverse_cons,jF,lB,aV,dH,List.map_nil,fV,jG,bS,bA]
  rw[this]
  omega
theorem yZ {m:Im} {c:Int} (h:c<(m.1.length:Int)):(dT m c).length=iL m c:=by
 unfold dT iL cF
 simp only[h,aK,aA]
 exact aH6 _ _
theorem xB {m:Im} {c n:Int} (h:gX m c n=true):(bQ m c).2.2.1[n.toNat]? =some (dL m c n).1:=by
 unfold dL
 rw[h]
 simp only[gX,aC,aP] at h
 have hk:n.toNat<(bQ m c).2.2.1.length:=by omega
 simp[hk]
theorem aPl (m:Im) (i:Ins) (f:Int) (r) (h:fof m i f=some r):aHY m i f=some r:=by
 unfold fof at h
 cases hb:aM m&&(inM m f&&bZ m (aD m f) i) <;> simp only[hb,aA,aB] at h
 ·cases h
 injection h with h
 subst h
 simp only[aC] at hb
 obtain⟨hs,hf,hi⟩:=hb
 have hfit:=(dR hs).1
 have hcl:=tL hs
 obtain⟨f0,f1⟩:=cA.1 hf
 have hloc:=tK hs hf
 have hL:sQ (aD m f) i.2.1=some (iZ (aD m f) i.2.1,()):=by
  unfold sQ
  rw[fB (by omega),fB (by omega)]
  rfl
 have hF:oV m i.2.1=some (dT m i.2.1,()):=by unfold oV;rw[hfit];rfl
 unfold aHY eJ
 have hr:(decide (0≤f)&&decide (f<(m.2.2.2.1.length:Int)))=true:=by simp[f0,f1]
 simp only[hr,aA]
 have fold:∀g:Int,m.2.2.2.1.getD g.toNat zMt=aD m g:=fun _=>rfl
 simp only[fold]
 cases hp:(eI i.1).2.1 <;> simp only[aA,aB]
 rcases i with⟨o,a,b,⟨⟩⟩
 simp only at hL hF hp⊢
 cases e:o==3
 case true=>simp only[aA,hL,aJ,fI]
 simp only[aB]
 cases e:o==4
 case true=>simp only[aA,hL,aJ,fI]
 simp only[aB]
 cases e:o==22
 case true=>simp only[aA,fI,lX]
 simp only[aB]
 cases e:o==27
 case true=>
  obtain rfl:o=27:=by simpa using e
  have:sin a (m.1.length:Int)=true∧sin b (iL m a:Int)=true:=by simpa[bZ] using hi
  obtain⟨h1,h2⟩:=this
  simp only[sin,aC,aP] at h1 h2
  rw[←yZ h1.2] at h2
  simp only[aA,hF,aJ,h2.1,h2.2,aK,aI,fI,lX]
 simp only[aB]
 cases e:o==28
 case true=>
  obtain rfl:o=28:=by simpa using e
  have:sin a (m.1.length:Int)=true∧sin b (iL m a:Int)=true:=by simpa[bZ] using hi
  obtain⟨h1,h2⟩:=this
  simp only[sin,aC,aP] at h1 h2
  rw[←yZ h1.2] at h2
  simp only[aA,hF,aJ,h2.1,h2.2,aK,aI,lX]
 simp only[aB]
 cases e:o==29
 case true=>
  obtain rfl:o=29:=by simpa using e
  have:sin a (m.2.1.length:Int)=true:=by simpa[bZ] using hi
  simp only[sin,aC,aP] at this
  simp only[aA,this.1,this.2,aK,aI,fI]
 simp only[aB]
 cases e:o==30
 case true=>
  obtain rfl:o=30:=by simpa using e
  have:sin a (m.2.1.length:Int)=true:=by simpa[bZ] using hi
  simp only[sin,aC,aP] at this
  simp only[aA,this.1,this.2,aK,aI,fI]
 simp only[aB]
 cases e:o==31
 case true=>
  obtain rfl:o=31:=by simpa using e
  have:sin a (m.2.2.2.1.length:Int)=true:=by simpa[bZ] using hi
  have hg:=tK hs (f:=a) this
  simp only[sin,aC,aP] at this
  simp only[aA,this.1,this.2,aK,aI,aIl (x:=aD m a) (t:=[]) (by omega) (by simp),aJ]
 simp only[aB]
 cases e:o==32
 case true=>
  obtain rfl:o=32:=by simpa using e
  have:sin a (m.1.length:Int)=true∧sin b ((bQ m a).2.2.1.length:Int)=true:=by simpa[bZ] using hi
  have hsl:gX m a b=true:=by unfold gX;unfold sin at this;rw[this.1,this.2];rfl
  have h1:=xB hsl
  simp only[sin,aC,aP] at this
  obtain⟨h2,h3⟩:=rC (sV hcl this.1.1 this.1.2) h1
  have hg:=tK hs (f:=(dL m a b).1) (cA.2 h2)
  simp only[aA,h2.1,h2.2,aK,aI,fI,lX,aIl (x:=aD m (dL m a b).1) (t:=[tR a]) (by omega) (by simp only[aF,bI];omega),aJ]
 simp only[aB]
 cases e:o==34
 case true=>simp only[aA,fI,lX]
 simp only[aB]
 cases e:o==33
 case true=>simp only[aA,fI,aIP];cases (aD m f).2.2.1.1 !=5 <;> rfl
 simp only[aB]
theorem aPm {m:Im} {i:Ins} {f:Int} (hs:aM m=true) (hf:inM m f=true) (hi:bZ m (aD m f) i=true):fof m i f=some (eJ m (aD m f) i,()):=by
 unfold fof
 rw[hs,hf,hi]
 rfl
theorem cL {α:Type} {P:α→Prop} {b:Bool} {x y:α} (h1:P x) (h2:P y):P (bif b then x else y):=by cases b <;> assumption
def Small (e:Eff):Prop:=e.1.length≤12∧e.2.1.length≤1
theorem aE1 {m:Im} (hs:aM m=true) {g:Int} (hg:inM m g=true) {t:List Tp} (ht:t.length≤1):Small (iB (aD m g) t):=by
 have:=tK hs hg
 unfold Small iB
 constructor
 ·simp only[aV,eF];omega
 ·cases (aD m g).2.2.1.1 !=5 <;> simp
theorem aLk (o:Int):Small (eI o).1:=by
 unfold eI
 repeat' refine cL (P:=fun z:Eff×Bool×Unit=>Small z.1) ⟨by decide,by decide⟩ ?_
 exact⟨by decide,by decide⟩
theorem aE0 {m:Im} (hs:aM m=true) {i:Ins} {f:Int} (hi:bZ m (aD m f) i=true):Small (eJ m (aD m f) i):=by
 have hcl:=tL hs
 unfold eJ
 rcases i with⟨o,a,b,⟨⟩⟩
 refine cL (aLk _) ?_
 refine cL ⟨by simp,by simp⟩ (cL ⟨by simp,by simp⟩ (cL ⟨by simp,by simp⟩ (cL ⟨by simp,by simp⟩ (cL ⟨by simp,by simp⟩ (cL ⟨by simp,by simp⟩ (cL ⟨by simp,by simp⟩ ?_))))))
 cases e:o==31
 case true=>
  obtain rfl:o=31:=by simpa using e
  have:sin a (m.2.2.2.1.length:Int)=true:=by simpa[bZ] using hi
  exact aE1 hs this (by simp)
 simp only[aB]
 cases e:o==32
 case true=>
  obtain rfl:o=32:=by simpa using e
  have:sin a (m.1.length:Int)=true∧sin b ((bQ m a).2.2.1.length:Int)=true:=by simpa[bZ] using hi
  have hsl:gX m a b=true:=by unfold gX;unfold sin at this;rw[this.1,this.2];rfl
  have h1:=xB hsl
  simp only[sin,aC,aP] at this
  obtain⟨h2,h3⟩:=rC (sV hcl this.1.1 this.1.2) h1
  exact aE1 hs (cA.2 h2) (by simp)
 simp only[aB]
 exact cL ⟨by simp,by simp⟩ (cL (cL ⟨by simp,by simp⟩ ⟨by simp,by simp⟩) ⟨by simp,by simp⟩)
theorem aNM (i:Ins) (pc:Int):(dS i pc).length≤2:=by
 unfold dS
 cases i.1==18 <;> cases i.1==19 <;> cases i.1==33 <;> exact eR rfl
theorem aEk {α β:Type} (p:α→β→Bool) (x:α) (_:β):∀(s:List α) (e:List β),e.length=s.length→((s.zip e).all fun q=>p q.1 q.2)=e.zipIdx.all fun q=>p (s.getD q.2 x) q.1:=by
 intro s e h
 rw[aBQ,bL,bL]
 constructor
 ·rintro h1 ⟨b,k⟩ hq
  obtain⟨hk,hb⟩:=List.mem_zipIdx' hq
  have:(s.getD k x,b)∈s.zip e:=by
   rw[List.mem_iff_getElem?]
   refine⟨k,?_⟩
   have hks:k<s.length:=by omega
   simp[List.getElem?_zip_eq_some,hks,hk,hb]
  exact h1 _ this
 ·rintro h1 ⟨a,b⟩ hq
  obtain⟨k,hk⟩:=List.mem_iff_getElem?.1 hq
  rw[List.getElem?_zip_eq_some] at hk
  have h2:(b,k)∈e.zipIdx:=by
   rw[List.mem_zipIdx_iff_getElem?]
   exact hk.2
  have:=h1 _ h2
  simpa[hk.1] using this
theorem aPd (m:Im) (f pc:Int) (s:List Tp) (r) (h:oP m f pc s=some r):∃k,aHU k m f pc s=some r:=by
 unfold oP at h
 cases hb:aM m&&okL s <;> simp only[hb,aA,aB] at h
 ·cases h
 injection h with h
 subst h
 simp only[aC] at hb
 obtain⟨hs,hsl⟩:=hb
 have hsl:=hU hsl
 refine⟨20,?_⟩
 have fold:∀g:Int,m.2.2.2.1.getD g.toNat zMt=aD m g:=fun _=>rfl
 have fold2:(aD m f).2.2.2.1.getD pc.toNat cR=aH m f pc:=rfl
 have fold3:(aD m f).2.2.2.1.length=codeN m f:=rfl
 unfold aHU aN
 simp only[fold,fold2,fold3]
 cases hf:inM m f
 ·simp only[lD,bY,aA]
  have:¬(0≤f∧f<(m.2.2.2.1.length:Int)):=fun hh=>by rw[cA.2 hh] at hf;cases hf
  by_cases h0:f<0
  ·simp only[h0,aK,aA]
  ·have h1:f≥(m.2.2.2.1.length:Int):=by omega
   simp only[h0,h1,aK,bE,aA,aB]
 obtain⟨f0,f1⟩:=cA.1 hf
 have f2:¬f<0:=by omega
 have f3:¬f≥(m.2.2.2.1.length:Int):=by omega
 have hc:=fA hs hf
 simp only[f0,f1,f2,f3,aK,bE,aI,eG,aA,aB]
 by_cases p0:pc<0
 ·have:¬0≤pc:=by omega
  simp only[p0,sin,this,aK,bE,lD,bY,aA]
 have p0':0≤pc:=by omega
 by_cases p1:pc≥(codeN m f:Int)
 ·have:¬pc<(codeN m f:Int):=by omega
  simp only[p0,p1,sin,this,aK,bE,zO,bY,aA,aB]
 have p1':pc<(codeN m f:Int):=by omega
 have hp:sin pc (codeN m f:Int)=true:=by simp[sin,p0',p1']
 simp only[p0,p0',p1,p1',hp,aK,bE,aI,aZ,aA,aB,vT]
 cases hn:(dS (aH m f pc) pc).contains (codeN m f:Int)
 case true=>simp only[aA]
 simp only[aB]
 cases h6:(aH m f pc).1==6
 case true=>
  simp only[aA]
  by_cases s0:s.length=0
  ·have:((s.length:Int)==0)=true:=by simp[s0]
   rw[this,aG s0]
   rfl
  ·have:((s.length:Int)==0)=false:=oX.2 (by omega)
   rw[this,bH s0]
   simp only[lC,aB]
   by_cases s8:s.length≥8
   ·have:(s.length:Int)≥8:=by omega
    simp only[this,s8,aK,aA]
   ·have h1:¬(s.length:Int)≥8:=by omega
    have h2:IntKind.i64.wrap ((s.length:Int) - 1)=((s.length - 1:Nat):Int):=by rw[cT] <;> omega
    have h3:((s.length - 1:Nat):Int)≤(s.length:Int):=by omega
    simp only[h1,s8,h2,h3,dge,aK,bE,aI,jJ,aA,aB,aT,iD]
    rw[aBl (by simp only[fV,jG,bS,aV,eF];omega) (by simp)]
    simp only[aJ,fV,jG,bS]
 simp only[aB]
 have hi:=rG hs hf hp
 rw[aPm hs hf hi]
 simp only[aJ]
 have hsm:=aE0 hs (f:=f) hi
 generalize eJ m (aD m f) (aH m f pc)=E at hsm⊢
 obtain⟨hE1,hE2⟩:=hsm
 unfold mG
 have w1:IntKind.i64.wrap ((s.length:Int) - (E.1.length:Int))=(s.length:Int) - (E.1.length:Int):=by rw[cT] <;> omega
 have w2:IntKind.i64.wrap ((s.length:Int) - (E.1.length:Int)+(E.2.1.length:Int))=(s.length:Int) - (E.1.length:Int)+(E.2.1.length:Int):=by rw[cT] <;> omega
 simp only[w1,w2]
 by_cases l1:s.length<E.1.length
 ·have:(s.length:Int) - (E.1.length:Int)<0:=by omega
  simp only[this,l1,aK,sY,aA]
 have l1':¬(s.length:Int) - (E.1.length:Int)<0:=by omega
 simp only[l1,l1',bE,lC,aB]
 by_cases l2:s.length - E.1.length+E.2.1.length>8
 ·have:(s.length:Int) - (E.1.length:Int)+(E.2.1.length:Int)>8:=by omega
  simp only[this,l2,aK,aA]
 have l2':¬(s.length:Int) - (E.1.length:Int)+(E.2.1.length:Int)>8:=by omega
 simp only[l2,l2',bE,aB]
 have hzip:=aEk (fun a b=>dV m (aH m f pc).1 a b) zTp zTp (s.drop (s.length - E.1.length)) E.1 (by rw[eF];omega)
 rw[hzip]
 generalize hD:s.length - E.1.length=D at*
 have hDi:(s.length:Int) - (E.1.length:Int)=(D:Int):=by omega
 have w4:IntKind.i64.wrap (D:Int)=(D:Int):=by rw[cT] <;> omega
 rw[show (E.1.zipIdx.all fun q=>dV m (aH m f pc).1 ((s.drop D).getD q.2 zTp) q.1)=jE (fun k x=>dV m (aH m f pc).1 ((s.drop D).getD k zTp) x) 0 E.1 by
  rw[aBQ,aBI,bL]
  constructor
  ·intro hh j x hx
   have:=hh (x,j) (by rw[List.mem_zipIdx_iff_getElem?];exact hx)
   simpa using this
  ·rintro hh ⟨x,j⟩ hx
   rw[List.mem_zipIdx_iff_getElem?] at hx
   have:=hh j x hx
   simpa using this]
 refine (aC8 (xs:=E.1) (st:=fun k=>(dS (aH m f pc) pc,(k:Int),())) (p:=fun k x=>dV m (aH m f pc).1 ((s.drop D).getD k zTp) x) (ex:=some ([],[],4,())) (fin:=some (s.take D++E.2.1,dS (aH m f pc) pc,0,())) (fun k x rec hk hlt=>?_) (fun rec=>?_) 20 (by omega)).trans ?_
 ·have hx:(s.drop D).getD k zTp=s.getD (D+k) zTp:=by simp[eA]
  have w3:IntKind.i64.wrap ((D:Int)+(k:Int))=((D+k:Nat):Int):=by rw[cT] <;> omega
  rw[aDB]
  simp only[w4,hDi,w3,fold,fold2,dlt hlt,dge,dlt (show D+k<s.length by omega),aI,aA,aT,getD_some hk,hx,bG hlt (show _≤lenMax by simp only[lenMax];omega)]
  cases dV m (aH m f pc).1 (s.getD (D+k) zTp) x <;> rfl
 ·have l3:(D:Int)≤(s.length:Int):=by omega
  rw[aDB]
  simp only[w4,hDi,bO,aB,dge,l3,aK,aI,aA,aT,aBM]
  rw[aBl (by simp only[fV,jG,bS,aV,bR];omega) (by simp)]
  simp only[aJ,fV,jG,bS]
 ·cases jE (fun k x=>dV m (aH m f pc).1 ((s.drop D).getD k zTp) x) 0 E.1 <;> rfl
end Go.Pli

namespace Go.Pli
open Go Go.PM
theorem uU (l:List Cl) {a s:List Tp} (h:a.length=s.length):(bP l a s).length=s.length:=by
 unfold bP
 rw[pF,List.length_zip,h,Nat.min_self]
theorem aN8 (l:List Cl) {a s:List Tp} {k:Nat} (h1:k<a.length) (h2:k<s.length):(bP l a s)[k]? =some (fP l (a.getD k zTp) (s.getD k zTp)):=by
 unfold bP
 rw[kC,aW (show k<(a.zip s).length by rw[List.length_zip];omega)]
 simp[h1,h2]
theorem aNN {m:Im} (hs:aM m=true) {f pc:Int} (hf:inM m f=true) (hp:sin pc (codeN m f:Int)=true) (hn:(dS (aH m f pc) pc).contains (codeN m f:Int)=false):∀to∈dS (aH m f pc) pc,0≤to∧to<(codeN m f:Int):=by
 have hi:=rG hs hf hp
 have hc:=fA hs hf
 simp only[sin,aC,aP] at hp
 have hw:IntKind.i64.wrap (pc+1)=pc+1:=by rw[cT] <;> omega
 intro to ht
 have hne:to≠(codeN m f:Int):=by
  rintro rfl
  rw[aEg.2 ht] at hn
  cases hn
 have hj:((aH m f pc).1==18 || (aH m f pc).1==19)=true→0≤(aH m f pc).2.1∧(aH m f pc).2.1<(codeN m f:Int):=by
  intro hh
  have:sin (aH m f pc).2.1 (codeN m f:Int)=true:=by
   rw[fW] at hh
   unfold bZ at hi
   rcases hh with hh | hh <;> (have e:=eq_of_beq hh;rw[e] at hi;exact hi)
  simpa[sin] using this
 unfold dS at ht
 cases h1:(aH m f pc).1==18 <;> simp only[h1,aA,aB] at ht
 ·cases h2:(aH m f pc).1==19 <;> simp only[h2,aA,aB] at ht
  ·cases h3:(aH m f pc).1==33 <;> simp only[h3,aA,aB] at ht
   ·rw[dY,hw] at ht;omega
   ·cases ht
  ·rw[hw] at ht
   rcases bW.1 ht with ht | ht
   ·omega
   ·rw[dY] at ht
    have:=hj (by rw[h2,Bool.or_true])
    omega
 ·rw[dY] at ht
  have:=hj (by rw[h1,sY])
  omega
theorem mF {m:Im} (hs:aM m=true) {f pc:Int} {s:List Tp} (h:(aN m f pc s).2.2.1=0):
  inM m f=true∧sin pc (codeN m f:Int)=true∧(aN m f pc s).1.length≤8∧(∀to∈(aN m f pc s).2.1,0≤to∧to<(codeN m f:Int)):=by
 unfold aN at h⊢
 cases hf:inM m f
 ·rw[hf] at h;simp at h
 cases hp:sin pc (codeN m f:Int)
 ·rw[hf,hp] at h;simp at h
 simp only[hf,hp,aI,aZ,aB] at h⊢
 cases hn:(dS (aH m f pc) pc).contains (codeN m f:Int)
 case true=>rw[hn] at h;simp at h
 have hin:=aNN hs hf hp hn
 simp only[hn,aB] at h⊢
 refine⟨trivial,trivial,?_⟩
 cases h6:(aH m f pc).1==6 <;> simp only[h6,aA,aB] at h⊢
 ·unfold mG at h⊢
  generalize eJ m (aD m f) (aH m f pc)=E at h⊢
  cases hb:decide (s.length<E.1.length) || decide (s.length - E.1.length+E.2.1.length>8) <;> simp only[hb,aA,aB] at h⊢
  ·simp only[Bool.or_eq_false_iff,qG] at hb
   cases hz:((s.drop (s.length - E.1.length)).zip E.1).all fun p=>dV m (aH m f pc).1 p.1 p.2 <;> simp only[hz,aA,aB] at h⊢
   ·cases h
   ·refine⟨?_,hin⟩
    rw[aV,bR]
    omega
  ·cases h
 ·cases hb:decide (s.length=0) || decide (s.length≥8) <;> simp only[hb,aA,aB] at h⊢
  ·simp only[Bool.or_eq_false_iff,qG] at hb
   refine⟨?_,hin⟩
   rw[aV,eF]
   omega
  ·cases h
structure OneP (m:Im) (f pc:Int) (h:List Sh) (q:List Bool):Prop where
 sane:aM m=true
 meth:inM m f=true
 at':sin pc (codeN m f:Int)=true
 hl:h.length=codeN m f
 ql:q.length=codeN m f
 ok:∀s∈h,okL s.2.1=true
theorem aRL {m:Im} {f pc:Int} {h:List Sh} {q:List Bool} (hh:rV m f pc h q=true):OneP m f pc h q:=by
 simp only[rV,aC,aP,bL] at hh
 exact⟨hh.1,hh.2.1,hh.2.2.1,hh.2.2.2.1,hh.2.2.2.2.1,hh.2.2.2.2.2⟩
theorem OneP.to {m:Im} {f pc:Int} {h:List Sh} {q:List Bool} (hh:OneP m f pc h q):rV m f pc h q=true:=by
 simp only[rV,aC,aP,bL]
 exact⟨hh.1,hh.2,hh.3,hh.4,hh.5,hh.6⟩
def aRG (z:St4):Prop:=z.2.1.length≤2
theorem tJ (m:Im) (f pc:Int) (s:List Tp):aRG (aN m f pc s):=by
 have h2:=aNM (aH m f pc) pc
 unfold aN mG
 exact cL (dG _) (cL (dG _) (cL (cL (dG _) h2) (cL (dG _) (cL h2 (dG _)))))
end Go.Pli

namespace Go.Pli
open Go Go.PM
theorem aQ1 (s:List Int):aI3 s=some (idL s,()):=by simp[aI3,idL]
theorem aQ2 (s:List (List Int)):aI6 s=some (idL s,()):=by simp[aI6,idL]
theorem aNH {l:List (List Sh)} (h:gA l=true) {n:Nat} (hn:n<l.length):(l.getD n []).length<1000000∧∀s∈l.getD n [],s.2.1.length<1000000:=by
 simp only[gA,aC,bL] at h
 rw[getD_some (aW hn)]
 have:=h.2 _ (eE hn)
 exact⟨hU this.1,fun s hs=>hU (this.2 s hs)⟩
theorem aQb (to:Int) (part:List Int) (_:aQe to part):aQd to part=some (sP to part,()):=rfl
theorem aOZ (l:List Int) (c:List Int×Unit) (h:aO2 l c):∃k,aO1 k l c=some (aA3 l c,()):=by
 refine⟨l.length+1,aC6 (st:=fun k=>((k:Int),())) (p:=fun x=>sP x c.1) (fun k x rec hk hlt=>?_) (fun rec=>?_) _ (gO _)⟩
 ·unfold aDr
  simp only[dlt hlt,dge,aI,aA,aT,getD_some hk,bG hlt h.1.1]
 ·unfold aDr
  simp only[bO,aB]
theorem aQt (l:List Int) (c:List Int×Unit) (_:aQv l c):aIM l c=some (zB l c,()):=by
 unfold aIM aA3 zB
 rw[aA2]
theorem aP9 (l:List (List Int)) (part:List Int) (r) (h:sO l part=some r):∃k,aIA k l part=some r:=by
 unfold sO at h
 cases hb:okL part <;> simp only[hb,aA,aB] at h
 ·cases h
 injection h with h
 subst h
 have hp:=hU hb
 refine⟨part.length+1,?_⟩
 unfold aIA sN
 have:=lO (L:=aBk l part) (xs:=part) (st:=fun k=>((k:Int),())) (p:=fun k=> !(sin k (l.length:Int)&&(l.getD k.toNat []).any fun to=>part.contains to)) (ex:=some (true,())) (fin:=some (false,()))
  (fun k x rec hk hlt=>by
   have hw:=bG hlt (show _≤lenMax by simp only[lenMax];omega)
   rw[aBk]
   simp only[dlt hlt,dge,aI,aA,aT,getD_some hk,hw,sin]
   by_cases h0:x<0
   ·have:¬0≤x:=by omega
    simp only[h0,this,aK,bE,lD,bY,aA]
   have h0':0≤x:=by omega
   by_cases h1:x≥(l.length:Int)
   ·have:¬x<(l.length:Int):=by omega
    simp only[h0,h1,this,aK,bE,zO,lD,bY,aA,aB]
   have h1':x<(l.length:Int):=by omega
   simp only[h0,h0',h1,h1',aK,bE,aI,eG,aA,aB,zB,sP]
   cases (l.getD x.toNat []).any fun to=>part.contains to <;> rfl)
  (fun rec=>by rw[aBk];simp only[bO,aB]) (part.length+1) (by omega)
 refine this.trans ?_
 rw[←List.not_any_eq_all_not]
 cases part.any fun k=>sin k (l.length:Int)&&(l.getD k.toNat []).any fun to=>part.contains to <;> rfl
theorem aGD (m:Im):(gB m).length=m.2.2.2.1.length:=by unfold gB;rw[pF,vH]
end Go.Pli
