/- Who calls whom: the printed functions come to what is told in plain Lean. -/
import Derived.Test.YtcofionghgmldaaGreatPliNt
import Derived.Test.YtcofionghgmldaaGreatPliL5E
namespace Go.Pli
open Go Go.PM
theorem zM {α σ R:Type} {L:σ→(σ→Option R)→Option R} {n B:Nat} {st:Nat→List α→σ} {f:Nat→List α} {fin:List α→Option R} (hB:∀k,k<n→(f k).length≤B)
  (h1:∀(k:Nat) (out:List α) (rec),k<n→out.length≤B*n→L (st k out) rec=rec (st (k+1) (out++f k)))
  (h2:∀out rec,out.length≤B*n→L (st n out) rec=fin out):∀F:Nat,n<F→aE L F (st 0 [])=fin (((List.range n).map f).flatten):=by
 have hlen:∀k,k≤n→(((List.range k).map f).flatten).length≤B*k:=by
  intro k
  induction k with
  | zero=>intro _;simp
  | succ k ih=>
   intro hk
   have:=ih (by omega)
   have hb:=hB k (by omega)
   rw[List.range_succ,jZ,iL,aX,Nat.mul_succ]
   simp only[dO,List.map_nil,gO,kB,cB]
   omega
 have key:∀(j k F:Nat),k+j=n→j<F→aE L F (st k (((List.range k).map f).flatten))=fin (((List.range n).map f).flatten):=by
  intro j
  induction j with
  | zero=>
   intro k F hk hF
   obtain⟨F,rfl⟩:∃m,F=m+1:=⟨F - 1,by omega⟩
   have:k=n:=by omega
   subst this
   rw[aZ,h2 _ _ (hlen k (aU _))]
  | succ j ih=>
   intro k F hk hF
   obtain⟨F,rfl⟩:∃m,F=m+1:=⟨F - 1,by omega⟩
   have hb:B*k≤B*n:=Nat.mul_le_mul_left _ (by omega)
   rw[aZ,h1 k _ _ (by omega) (nH (hlen k (by omega)) hb)]
   have:=ih (k+1) F (by omega) (by omega)
   rw[List.range_succ,jZ,iL] at this
   simpa using this
 intro F hF
 have:=key n 0 F (by omega) hF
 simpa using this
theorem aEe (p:Int→Bool):∀n:Nat,((List.range n).map fun k:Nat=>bif p (k:Int) then[(k:Int)] else[]).flatten=(ints n).filter p
 | 0=>rfl
 | n+1=>by
  have ih:=aEe p n
  unfold ints at ih⊢
  rw[List.range_succ,jZ,iL,ih,jZ,List.filter_append]
  congr 1
  cases h:p (n:Int) <;> simp[h]
theorem aGB {α β:Type} (g:α→β) (z:α) (l:List α):(List.range l.length).map (fun k=>g (l.getD k z))=l.map g:=by
 apply aE4 (by simp)
 intro i h1 h2
 have:i<l.length:=by simpa using h1
 simp[this]
theorem jC (n:Nat):(ints n).length=n:=by simp[ints]
theorem aEd {n k:Nat} (h:k<n) (z:Int):(ints n).getD k z=(k:Int):=by simp[ints,h]
theorem iQ {n:Nat} {x:Int}:x∈ints n↔0≤x∧x<(n:Int):=by
 simp only[ints,fR,oT]
 constructor
 ·rintro ⟨k,hk,rfl⟩;omega
 ·rintro ⟨h0,h1⟩;exact⟨x.toNat,by omega,by omega⟩
theorem aES (m:Im) (c:Int):(lW m c).length≤m.1.length:=by
 unfold lW
 exact nH (aCu _ _) (by simp[ints])
theorem mM {n:Nat} (h:n<549755813888):decide (n<rowMax)=true:=aI h
theorem aST (m:Im) (c:Int) (r) (h:xA m c=some r):∃k,aKn k m c=some r:=by
 unfold xA at h
 cases hi:cN m <;> simp only[hi,aA,aB] at h
 ·cases h
 injection h with h
 subst h
 have h8:=(dD hi).classes
 refine⟨m.1.length+1,?_⟩
 unfold aKn
 have:=zM (L:=aCd m c) (n:=m.1.length) (B:=1) (st:=fun k out=>(out,(k:Int),())) (f:=fun k=>bif dH m.1 (k:Int) c then[(k:Int)] else[]) (fin:=fun out=>some (idL out,())) (fun k _=>by cases dH m.1 (k:Int) c <;> simp)
  (fun k out rec hk ho=>by
   rw[aCd]
   simp only[dlt hk,aA,aF,bK,mM (show out.length+(0+1)<549755813888 by omega),bG hk (by simp only[lenMax];omega)]
   cases dH m.1 (k:Int) c <;> simp)
  (fun out rec _=>by rw[aCd];simp only[bP,aB]) (m.1.length+1) (by omega)
 rw[aEe (fun n=>dH m.1 n c)] at this
 exact this
theorem aS5 (m:Im) (n c:Int) (_:0≤n):(cG m.1 n).contains c=dH m.1 n c:=by
 unfold dH cG
 by_cases hn:n<(m.1.length:Int)
 ·simp only[hn,aN,aA,eJ]
  cases hc:(cH m.1 n).contains c
  ·simp
  ·have hm:c∈cH m.1 n:=by simpa using hc
   have:=oO (n.toNat+1) n (by omega) hm
   simp[this.1,show c<(m.1.length:Int) by omega]
 ·simp[hn]
theorem aNN {m:Im} (hi:cN m=true) (n:Int):jO m.1 n=some (cG m.1 n,()):=by
 have h8:=(dD hi).classes
 have hok:okL m.1=true:=by unfold okL;simp;omega
 unfold jO;rw[hok];rfl
theorem aGt {l:List Int} {x:Int} (h:l.length<1000000000):rin l x=some (l.contains x,()):=by
 unfold rin;rw[aI (show l.length<9223372036854775807 by omega)];rfl
theorem aOr (m:Im) (c:Int) (r) (h:vM m c=some r):∃k,aGZ k m c=some r:=by
 unfold vM at h
 cases hi:cN m <;> simp only[hi,aA,aB] at h
 ·cases h
 injection h with h
 subst h
 have h8:=(dD hi).classes
 refine⟨m.1.length+1,?_⟩
 unfold aGZ
 have:=zM (L:=aBb m c) (n:=m.1.length) (B:=1) (st:=fun k out=>(out,(k:Int),())) (f:=fun k=>bif dH m.1 (k:Int) c then[(k:Int)] else[]) (fin:=fun out=>some (out,())) (fun k _=>by cases dH m.1 (k:Int) c <;> simp)
  (fun k out rec hk ho=>by
   have hl:=aGD (l:=m.1) (c:=(k:Int))
   rw[aBb]
   simp only[dlt hk,aA,aNN hi,aK,aGt (show (cG m.1 (k:Int)).length<1000000000 by omega),aS5 m (k:Int) c (by omega),aF,bK,mM (show out.length+(0+1)<549755813888 by omega),bG hk (by simp only[lenMax];omega)]
   cases dH m.1 (k:Int) c <;> simp)
  (fun out rec _=>by rw[aBb];simp only[bP,aB]) (m.1.length+1) (by omega)
 rw[aEe (fun n=>dH m.1 n c)] at this
 exact this
theorem aJI (m:Im) (c n:Int):aJK m c n=some (dQ m c n):=by
 unfold aJK dQ iG bZ
 by_cases h1:c<0
 ·have:¬0≤c:=by omega
  simp[h1,this]
 ·have h1':0≤c:=by omega
  by_cases h2:c≥(m.1.length:Int)
  ·have:¬c<(m.1.length:Int):=by omega
   simp[h1,h2,this]
  ·have h2':c<(m.1.length:Int):=by omega
   by_cases h3:n<0
   ·have:¬0≤n:=by omega
    simp[h1,h2,h3,this]
   ·have h3':0≤n:=by omega
    by_cases h4:n≥((m.1.getD c.toNat zCl).2.2.1.length:Int)
    ·have:¬n<((m.1.getD c.toNat zCl).2.2.1.length:Int):=by omega
     simp only[h1,h2,h3,h4,h1',h2',h3',this,aN,bU,aA,aB,aH,aAt]
    ·have h4':n<((m.1.getD c.toNat zCl).2.2.1.length:Int):=by omega
     simp only[h1,h2,h3,h4,h1',h2',h3',h4',aN,bU,aA,aB,aH]
theorem aN2 (m:Im) (c n:Int):aN3 m c n=some (yT m c n):=aJI m c n
theorem aMF (m:Im) (l:List Int) (n:Int):((List.range l.length).map fun k=>bif (dQ m (l.getD k 0) n).2.1 then[(dQ m (l.getD k 0) n).1] else[]).flatten=qM m l n:=by
 rw[aGB (fun c=>bif (dQ m c n).2.1 then[(dQ m c n).1] else[]) 0 l]
 unfold qM
 induction l with
 | nil=>rfl
 | cons c l ih=>
  rw[dO,gO,ih,List.filter_cons]
  cases h:(dQ m c n).2.1 <;> simp
theorem aMG (m:Im) (l:List Int) (n:Int):(qM m l n).length≤l.length:=by
 unfold qM
 rw[qF]
 exact aCu _ _
theorem aFt {m:Im} {i:Ins} {L:List Int×Int×Unit→(List Int×Int×Unit→Option (List Int×Unit))→Option (List Int×Unit)} (l:List Int) (hl:l.length<1000)
  (hL:∀s rec,L s rec=(bif decide (s.2.1<(l.length:Int)) then
  bif decide (0≤s.2.1)&&decide (s.2.1<l.length) then
   let r4:=dQ m (l.getD s.2.1.toNat 0) i.2.2.1
   bif r4.2.1 then
    bif decide (s.1.length+[r4.1].length<rowMax) then
     rec (s.1++[r4.1],IntKind.i64.wrap (s.2.1+1),())
    else none
   else rec (s.1,IntKind.i64.wrap (s.2.1+1),())
  else none
 else some (s.1,()))):aE L (l.length+1) ([],0,())=some (qM m l i.2.2.1,()):=by
 have:=zM (L:=L) (n:=l.length) (B:=1) (st:=fun k out=>(out,(k:Int),())) (f:=fun k=>bif (dQ m (l.getD k 0) i.2.2.1).2.1 then[(dQ m (l.getD k 0) i.2.2.1).1] else[]) (fin:=fun out=>some (out,())) (fun k _=>by cases (dQ m (l.getD k 0) i.2.2.1).2.1 <;> simp)
  (fun k out rec hk ho=>by
   rw[hL]
   simp only[dlt hk,dge,aH,aA,aR,aF,bK,mM (show out.length+(0+1)<549755813888 by omega),bG hk (by simp only[lenMax];omega)]
   cases (dQ m (l.getD k 0) i.2.2.1).2.1 <;> simp)
  (fun out rec _=>by rw[hL];simp only[bP,aB]) (l.length+1) (by omega)
 rw[aMF] at this
 exact this
theorem aRZ (m:Im) (i:Ins) (r) (h:pY m i=some r):∃k,aJH k m i=some r:=by
 unfold pY at h
 cases hi:cN m <;> simp only[hi,aA,aB] at h
 ·cases h
 injection h with h
 subst h
 have h8:=(dD hi).classes
 have hl:=aES m i.2.1
 refine⟨(lW m i.2.1).length+1,?_⟩
 unfold aJH bX
 have hb:xA m i.2.1=some (lW m i.2.1,()):=by unfold xA;rw[hi];rfl
 cases h1:i.1==31 <;> simp only[aA,aB]
 ·cases h2:i.1==32 <;> simp only[aA,aB]
  rw[hb]
  simp only[aK]
  exact aFt (lW m i.2.1) (by omega) (fun s rec=>rfl)
 ·rfl
theorem aNP (m:Im) (i:Ins) (r) (h:vD m i=some r):∃k,aGE k m i=some r:=by
 unfold vD at h
 cases hi:cN m <;> simp only[hi,aA,aB] at h
 ·cases h
 injection h with h
 subst h
 have h8:=(dD hi).classes
 have hl:=aES m i.2.1
 refine⟨(lW m i.2.1).length+1,?_⟩
 unfold aGE bX
 have hb:vM m i.2.1=some (lW m i.2.1,()):=by unfold vM;rw[hi];rfl
 cases h1:i.1==31 <;> simp only[aA,aB,aK]
 ·cases h2:i.1==32 <;> simp only[aA,aB]
  rw[hb]
  simp only[aK]
  exact aFt (lW m i.2.1) (by omega) (fun s rec=>rfl)
 ·have h2:(i.1==32)=false:=by
   have:i.1=31:=by simpa using h1
   rw[this];rfl
  have hroom:decide (([]:List Int).length+[i.2.1].length<rowMax)=true:=mM (by simp)
  rw[h2,hroom]
  rfl
theorem xW {m:Im} (hi:cN m=true) (i:Ins):(bX m i).length≤8:=by
 have h8:=(dD hi).classes
 have hl:=aES m i.2.1
 have hs:=aMG m (lW m i.2.1) i.2.2.1
 unfold bX
 cases i.1==31 <;> simp only[aA,aB]
 ·cases i.1==32 <;> simp only[aA,aB]
  ·simp
  ·omega
 ·simp
theorem bC {m:Im} {f:Int}:inM m f=true↔0≤f∧f<(m.2.2.2.1.length:Int):=by
 unfold inM sin nM;simp
end Go.Pli

namespace Go.Pli
open Go Go.PM
theorem rB {σ R:Type} {L:σ→(σ→Option R)→Option R} {n:Nat} {st:Nat→σ} {fin:Option R}
  (h1:∀(k:Nat) (rec),k<n→L (st k) rec=rec (st (k+1))) (h2:∀rec,L (st n) rec=fin):∀F:Nat,n<F→aE L F (st 0)=fin:=by
 have key:∀(j k F:Nat),k+j=n→j<F→aE L F (st k)=fin:=by
  intro j
  induction j with
  | zero=>
   intro k F hk hF
   obtain⟨F,rfl⟩:∃m,F=m+1:=⟨F - 1,by omega⟩
   have:k=n:=by omega
   subst this
   rw[aZ,h2]
  | succ j ih=>
   intro k F hk hF
   obtain⟨F,rfl⟩:∃m,F=m+1:=⟨F - 1,by omega⟩
   rw[aZ,h1 k _ (by omega)]
   exact ih (k+1) F (by omega) (by omega)
 intro F hF
 exact key n 0 F (by omega) hF
theorem gB {α:Type} {l:List α} {n:Nat} {z:α} (h:l.length≤n):l.getD n z=z:=by simp[dA,h]
theorem fB {α:Type} {l:List α} (h:l.length<1000000):okL l=true:=by simpa[okL] using h
theorem aKB {a b:Nat} (h:a<b):Nat.blt a b=true:=by rw[fQ];exact h
theorem aJT {α:Type} (b:Bool) (x y:α):(bif b then some x else some y)=some (bif b then x else y):=by cases b <;> rfl
theorem aCN {α:Type} (l:List (List α)) {k:Nat} (hk:k<l.length):(l.take (k+1)).flatten=(l.take k).flatten++l.getD k []:=by
 rw[rW,iL]
 congr 1
 simp[hk]
theorem aFv {α:Type} (l:List (List α)) (k:Nat):(l.take k).flatten.length≤l.flatten.length:=by
 have:l.flatten=(l.take k).flatten++(l.drop k).flatten:=by rw[←iL,xK]
 rw[this,aX]
 exact Nat.le_add_right _ _
theorem aQM (s:Unit) (n:Int) (r) (h:wO s n=some r):aIG s n=some r:=by
 unfold wO at h
 cases hb:decide (0≤n)&&Nat.blt n.toNat 1000000000 <;> simp only[hb,aA,aB] at h
 ·cases h
 injection h with h
 subst h
 simp only[aC,aP,fQ] at hb
 obtain⟨h0,h1⟩:=hb
 have h0':¬n<0:=by omega
 have e1:IntKind.i64.wrap ((0:Int) - (([]:List Tp).length:Int))=0:=by simp;rfl
 have e2:IntKind.i64.wrap (n - 0)=n:=by rw[cY] <;> omega
 unfold aIG
 rw[e1,e2]
 by_cases hp:n>0
 ·have hp':0<n:=hp
  have hm:n<(rowMax:Int):=by simp only[rowMax];omega
  have:0≤max n 0:=by omega
  simp[h0',hp',hm,this]
 ·simp[h0',hp]
theorem aSe (l:List (List Tp)) (r) (h:oN l=some r):∃k,aJU k l=some r:=by
 unfold oN at h
 cases hb:Nat.blt l.flatten.length 1000000000&&okL l <;> simp only[hb,aA,aB] at h
 ·cases h
 injection h with h
 subst h
 simp only[aC,fQ] at hb
 obtain⟨hf,hl⟩:=hb
 have hl:=iP hl
 refine⟨l.length+1,?_⟩
 unfold aJU
 refine rB (n:=l.length) (st:=fun k=>(((l.take k).flatten.length:Int),(k:Int),())) (fin:=some (l.flatten,())) (fun k rec hk=>?_) (fun rec=>?_) (l.length+1) (by omega)
 ·unfold aEL
  have hw:IntKind.i64.wrap (((l.take k).flatten.length:Int)+((l.getD k ([]:List Tp)).length:Int))=((l.take (k+1)).flatten.length:Int):=by
   have e:=aCN l hk
   have:=aFv l (k+1)
   rw[e,aX] at this⊢
   rw[cY] <;> omega
  have hn:¬((l.take (k+1)).flatten.length:Int)<0:=by omega
  simp only[dlt hk,dge,aH,aA,aR,hw,hn,bU,aB,bG hk (show l.length≤lenMax by simp only[lenMax];omega)]
 ·unfold aEL
  have hg:wO () ((l.take l.length).flatten.length:Int)=some ([],()):=by
   unfold wO
   rw[iD]
   have h1:(0:Int)≤(l.flatten.length:Int):=by omega
   have h2:Nat.blt (l.flatten.length:Int).toNat 1000000000=true:=by rw[fQ];omega
   simp only[h1,h2,aN,aH,aA]
  simp only[bP,aB,hg,aK]
  have:=rB (L:=aB3 l) (n:=l.length) (st:=fun k=>((l.take k).flatten,(k:Int),())) (fin:=some (l.flatten,())) (fun k rec hk=>by
   unfold aB3
   have hm:decide ((l.take k).flatten.length+(l.getD k ([]:List Tp)).length<rowMax)=true:=by
    have e:=aCN l hk
    have:=aFv l (k+1)
    rw[e,aX] at this
    exact aI (by simp only[rowMax];omega)
   simp only[dlt hk,dge,aH,aA,aR,hm,aCN l hk,bG hk (show l.length≤lenMax by simp only[lenMax];omega)])
   (fun rec=>by
    unfold aB3
    simp only[bP,aB,iD]) (l.length+1) (by omega)
  simpa using this
theorem aB2 {l:List (List Tp)} (h1:l.flatten.length<1000000000) (h2:l.length<1000000):oN l=some (l.flatten,()):=by
 unfold oN
 rw[aKB h1,fB h2]
 rfl
theorem aQy (s:List Int) (v:Int) (h:aQB s v):∃k,aQA k s v=some (aBJ s v,()):=by
 refine⟨s.length+1,aDX (st:=fun k=>((k:Int),())) (p:=fun n=>v==n) (fun k x rec hk hlt=>?_) (fun rec=>?_) _ (hC _)⟩
 ·unfold aEi
  simp only[dlt hlt,dge,aH,aA,aR,getD_some hk,bG hlt h.1.1]
 ·unfold aEi
  simp only[bP,aB]
theorem aR9 (s:List Int) (v:Int) (_:aSa s v):aJP s v=some (wY s v,()):=by
 unfold aJP aBJ wY
 rw[aBK,List.contains_eq_any_beq]
theorem aSC (s:List Iq):aJ3 s=some (idL s,()):=by simp[aJ3,idL]
theorem aRW (m:Im) (c:Int) (r) (h:cup m c=some r):aJF m c=some r:=by
 unfold cup at h
 cases hb:sin c (m.1.length:Int) <;> simp only[hb,aA,aB] at h
 ·cases h
 injection h with h
 subst h
 simp only[sin,aC,aP] at hb
 have h1:¬c<0:=by omega
 have h2:¬c≥(m.1.length:Int):=by omega
 unfold aJF kup eG
 simp only[hb.1,hb.2,h1,h2,aN,bU,aH,jJ,aA]
 cases decide ((m.1.getD c.toNat zCl).1≥c) <;> rfl
theorem aRk {m:Im} {c:Int} (h0:0≤c) (h1:c<(m.1.length:Int)):dP m c=dP m (kup m.1 c)++(bZ m c).2.1:=by
 have hk:=lO (l:=m.1) h0
 have h2:kup m.1 c<(m.1.length:Int):=by omega
 unfold dP cG
 simp only[h1,h2,aN,aA]
 rw[iA h0]
 simp
theorem aJl {m:Im} {c:Int} (h:c<0):dP m c=[]:=by
 unfold dP cG
 rw[fO h]
 cases decide (c<(m.1.length:Int)) <;> rfl
theorem aKe {m:Im} (hi:cN m=true) {c:Int}:(bZ m c).2.1.length≤8:=by
 have hf:=dD hi
 unfold bZ
 by_cases hc:c.toNat<m.1.length
 ·have:=hf.cls (m.1.getD c.toNat zCl) (by simp[hc])
  simp only[pR,iF,aC,aP] at this
  have:=this.2.2.1.1
  omega
 ·have:m.1.getD c.toNat zCl=zCl:=gB (by omega)
  rw[this];decide
theorem aKj {m:Im} (hi:cN m=true):∀(n:Nat) (c:Int) (out:List Tp),c.toNat<n→c<(m.1.length:Int)→out.length+8*(c.toNat+1)≤1000→
  aE (aCb m) (n+1) (c,out,())=some (dP m c++out,())
 | 0,_,_,h,_,_=>by omega
 | n+1,c,out,h,hc,ho=>by
  rw[aZ,aCb]
  by_cases h0:c<0
  ·have:¬c≥0:=by omega
   simp only[this,bU,aB,aJl h0,oS]
  ·have h0':c≥0:=by omega
   have h0'':0≤c:=by omega
   have hk:=lO (l:=m.1) h0''
   have h8:=aKe hi (c:=c)
   have hcat:oN [(m.1.getD c.toNat zCl).2.1,out]=some ((bZ m c).2.1++out,()):=by
    rw[aB2]
    ·simp[bZ]
    ·simp only[gO,kB,cB,aX]
     unfold bZ at h8
     omega
    ·simp
   have hup:cup m c=some (kup m.1 c,()):=by simp[cup,sin,h0'',hc]
   simp only[h0',hc,aN,aH,aA,hcat,hup,aK]
   rw[aRk h0'' hc,cK]
   by_cases hn:kup m.1 c<0
   ·rw[aZ,aCb]
    have:¬kup m.1 c≥0:=by omega
    simp only[this,bU,aB,aJl hn,oS]
   ·exact aKj hi n (kup m.1 c) _ (by omega) (by omega) (by rw[aX];omega)
theorem aSR (m:Im) (c:Int) (r) (h:pZ m c=some r):∃k,aKl k m c=some r:=by
 unfold pZ at h
 cases hi:cN m <;> simp only[hi,aA,aB] at h
 ·cases h
 injection h with h
 subst h
 have h8:=(dD hi).classes
 refine⟨c.toNat+1+1,?_⟩
 unfold aKl
 by_cases hc:c≥(m.1.length:Int)
 ·have:¬c<(m.1.length:Int):=by omega
  simp[hc,dP,cG,this]
 ·have hc':c<(m.1.length:Int):=by omega
  simp only[hc,bU,aB]
  rw[aKj hi (c.toNat+1) c [] (by omega) hc' (by simp only[bK];omega),cB]
theorem aBW {m:Im} (hi:cN m=true) (c:Int):(dP m c).length≤8*8:=by
 have h8:=(dD hi).classes
 have hl:(cG m.1 c).length≤8:=by
  unfold cG
  by_cases hc:c<(m.1.length:Int)
  ·have:=uF m.1 (c.toNat+1) c (by omega)
   by_cases h0:0≤c
   ·simp[hc];omega
   ·simp[hc,fO (show c<0 by omega)]
  ·simp[hc]
 unfold dP
 have key:∀l:List Int,((l.map fun s=>(bZ m s).2.1).flatten).length≤8*l.length:=by
  intro l
  induction l with
  | nil=>simp
  | cons x l ih=>
   have:=aKe hi (c:=x)
   simp only[dO,gO,aX,aF]
   omega
 have:=key (cG m.1 c).reverse
 rw[List.length_reverse] at this
 omega
theorem aR1 (m:Im) (c:Int) (r) (h:wX m c=some r):aJL m c=some r:=by
 unfold wX at h
 cases hi:cN m <;> simp only[hi,aA,aB] at h
 ·cases h
 injection h with h
 subst h
 have hl:=aBW hi c
 unfold aJL pZ qN
 rw[hi]
 simp only[aA,aK]
 rw[cY (by omega) (by omega)]
 simp
theorem aEs {α:Type} (a b:List α) (n:Nat) (z:α):(a++b).getD n z=if n<a.length then a.getD n z else b.getD (n - a.length) z:=by
 by_cases h:n<a.length <;> simp[dA,List.getElem?_append,h]
theorem aSw (x:Mt) (n:Int) (r) (h:uE x n=some r):aJ0 x n=some r:=by
 unfold uE at h
 cases hb:okL x.1&&okL x.2.1 <;> simp only[hb,aA,aB] at h
 ·cases h
 injection h with h
 subst h
 simp only[aC] at hb
 have h1:=iP hb.1
 have h2:=iP hb.2
 unfold aJ0 jS
 by_cases h0:n<0
 ·simp[h0]
 ·rw[cY (by omega) (by omega)]
  by_cases h3:n≥(x.1.length:Int)+(x.2.1.length:Int)
  ·have:(x.1++x.2.1).length≤n.toNat:=by rw[aX];omega
   rw[gB this]
   simp only[h0,h3,aN,bU,aA,aB]
  ·simp only[h0,h3,bU,aB]
   rw[aEs]
   by_cases h4:n<(x.1.length:Int)
   ·have h5:n.toNat<x.1.length:=by omega
    have h6:0≤n:=by omega
    simp[h4,h5,h6]
   ·have h5:¬n.toNat<x.1.length:=by omega
    have h6:0≤n - (x.1.length:Int):=by omega
    have h7:n - (x.1.length:Int)<(x.2.1.length:Int):=by omega
    rw[cY (by omega) (by omega)]
    have h8:(n - (x.1.length:Int)).toNat=n.toNat - x.1.length:=by omega
    simp only[h4,h5,h6,h7,aN,bU,aH,aA,aB,cO,h8]
theorem aPe (o:Int):aHE o=some (mR o,()):=by
 unfold aHE mR
 cases decide (o≥7) <;> rfl
theorem aQW (o:Int):aIV o=some (eP o):=by
 unfold aIV eP gX jD wU
 simp only[aJT]
theorem aRp (m:Im) (o:Int) (t w:Tp):aJm m o t w=some (eC m o t w,()):=by
 unfold aJm eC
 cases w.1==0 <;> cases w.1==4 <;> cases iS t <;> cases o !=34 <;> rfl
theorem aQ5 (i:Ins) (pc:Int):aIY i pc=some (eB i pc,()):=by
 unfold aIY eB
 cases i.1==18 <;> cases i.1==19 <;> cases i.1==33 <;> rfl
theorem aJn {x:Mt} {t:List Tp} (h1:x.1.length<1000000) (h2:t.length≤x.1.length):tY x t=some (iU x t,()):=by
 unfold tY
 rw[fB h1,fB (show t.length<1000000 by omega),aI h2]
 rfl
theorem aRt (x:Mt) (t:List Tp) (r) (h:tY x t=some r):aJo x t=some r:=by
 unfold tY at h
 cases hb:okL x.1&&(okL t&&decide (t.length≤x.1.length)) <;> simp only[hb,aA,aB] at h
 ·cases h
 injection h with h
 subst h
 simp only[aC,aP] at hb
 have h1:=iP hb.1
 have h3:=hb.2.2
 have h4:(t.length:Int)≤(x.1.length:Int):=by omega
 have h5:(0:Int)≤(t.length:Int):=by omega
 unfold aJo iU
 rw[iD,aB2 (by simp only[gO,kB,cB,aX,dW];omega) (by simp)]
 simp only[h4,h5,aN,aH,aA,aK,fD,gO,kB,cB]
 cases x.2.2.1.1 !=5 <;> rfl
end Go.Pli

namespace Go.Pli
open Go Go.PM
theorem dI {m:Im} (h:aJ m=true):cN m=true∧kJ m=true:=by simpa[aJ] using h
theorem aF0 {m:Im} (h:aJ m=true):fK m m.2.1=true:=by
 have:=(dI h).2
 simp only[kJ,aC] at this
 exact this.1
theorem uX {m:Im} (h:aJ m=true):kY m=true:=by
 have:=(dI h).2
 simp only[kJ,aC] at this
 exact this.2.1
theorem oZ {m:Im} (h:aJ m=true) {f:Int} (hf:inM m f=true):fC m (aD m f)=true:=by
 have:=(dI h).2
 simp only[kJ,aC] at this
 obtain⟨h0,h1⟩:=bC.1 hf
 exact bO.1 this.2.2.1 _ (pJ h0 h1)
theorem eU {m:Im} (h:aJ m=true) {f:Int} (hf:inM m f=true):0<codeN m f∧codeN m f≤64:=by
 have h1:=oZ h hf
 simp only[fC,aC,aP] at h1
 obtain⟨a,b⟩:=bC.1 hf
 have h2:=(lK ((dD (dI h).1).mts _ (pJ a b))).2.2.2.1.1
 unfold codeN
 have:=h1.2.2.2.1
 omega
theorem aMR {m:Im} (h:aJ m=true) {f:Int} (hf:inM m f=true):(eF m f).length=codeN m f:=by
 have h1:=oZ h hf
 simp only[fC,aC,aP] at h1
 exact h1.2.2.2.2.1
theorem uW {m:Im} (h:aJ m=true) {f:Int} (hf:inM m f=true):(aD m f).1.length+(aD m f).2.1.length≤8:=by
 have h1:=oZ h hf
 simp only[fC,aC,aP] at h1
 exact h1.2.2.2.2.2.1
theorem aEg {m:Im} {f pc:Int} (hp:sin pc (codeN m f:Int)=true):aG m f pc∈(aD m f).2.2.2.1:=by
 simp only[sin,aC,aP] at hp
 unfold codeN at hp
 have:pc.toNat<(aD m f).2.2.2.1.length:=by omega
 unfold aG
 rw[getD_some (aT this)]
 exact dX this
theorem sQ {m:Im} (h:aJ m=true) {f pc:Int} (hf:inM m f=true) (hp:sin pc (codeN m f:Int)=true):cM m (aD m f) (aG m f pc)=true:=by
 have h1:=oZ h hf
 simp only[fC,aC] at h1
 exact bO.1 h1.2.2.2.2.2.2 _ (aEg hp)
theorem aI5 {α β:Type} (g:α→List β):∀l:List α,((l.reverse.map g).flatten).length=bE (l.map fun x=>(g x).length)
 | []=>rfl
 | x::l=>by
  have:=aI5 g l
  simp only[List.reverse_cons,jZ,iL,aX,dO,List.map_nil,gO,kB,cB,bE]
  rw[this]
  omega
theorem zZ {m:Im} {c:Int} (h:c<(m.1.length:Int)):(dP m c).length=jF m c:=by
 unfold dP jF cG
 simp only[h,aN,aA]
 exact aI5 _ _
theorem yD {m:Im} {c n:Int} (h:iG m c n=true):(bZ m c).2.2.1[n.toNat]? =some (dQ m c n).1:=by
 unfold dQ
 rw[h]
 simp only[iG,aC,aP] at h
 have hk:n.toNat<(bZ m c).2.2.1.length:=by omega
 simp[hk]
theorem aQZ (m:Im) (i:Ins) (f:Int) (r) (h:fof m i f=some r):aIX m i f=some r:=by
 unfold fof at h
 cases hb:aJ m&&(inM m f&&cM m (aD m f) i) <;> simp only[hb,aA,aB] at h
 ·cases h
 injection h with h
 subst h
 simp only[aC] at hb
 obtain⟨hs,hf,hi⟩:=hb
 have hfit:=(dI hs).1
 have hcl:=uX hs
 obtain⟨f0,f1⟩:=bC.1 hf
 have hloc:=uW hs hf
 have hL:uE (aD m f) i.2.1=some (jS (aD m f) i.2.1,()):=by
  unfold uE
  rw[fB (by omega),fB (by omega)]
  rfl
 have hF:pZ m i.2.1=some (dP m i.2.1,()):=by unfold pZ;rw[hfit];rfl
 unfold aIX eQ
 have hr:(decide (0≤f)&&decide (f<(m.2.2.2.1.length:Int)))=true:=by simp[f0,f1]
 simp only[hr,aA]
 have fold:∀g:Int,m.2.2.2.1.getD g.toNat zMt=aD m g:=fun _=>rfl
 simp only[fold]
 cases hp:(eP i.1).2.1 <;> simp only[aA,aB]
 rcases i with⟨o,a,b,⟨⟩⟩
 simp only at hL hF hp⊢
 cases e:o==3
 case true=>simp only[aA,hL,aK,gC]
 simp only[aB]
 cases e:o==4
 case true=>simp only[aA,hL,aK,gC]
 simp only[aB]
 cases e:o==22
 case true=>simp only[aA,gC,nB]
 simp only[aB]
 cases e:o==27
 case true=>
  obtain rfl:o=27:=by simpa using e
  have:sin a (m.1.length:Int)=true∧sin b (jF m a:Int)=true:=by simpa[cM] using hi
  obtain⟨h1,h2⟩:=this
  simp only[sin,aC,aP] at h1 h2
  rw[←zZ h1.2] at h2
  simp only[aA,hF,aK,h2.1,h2.2,aN,aH,gC,nB]
 simp only[aB]
 cases e:o==28
 case true=>
  obtain rfl:o=28:=by simpa using e
  have:sin a (m.1.length:Int)=true∧sin b (jF m a:Int)=true:=by simpa[cM] using hi
  obtain⟨h1,h2⟩:=this
  simp only[sin,aC,aP] at h1 h2
  rw[←zZ h1.2] at h2
  simp only[aA,hF,aK,h2.1,h2.2,aN,aH,nB]
 simp only[aB]
 cases e:o==29
 case true=>
  obtain rfl:o=29:=by simpa using e
  have:sin a (m.2.1.length:Int)=true:=by simpa[cM] using hi
  simp only[sin,aC,aP] at this
  simp only[aA,this.1,this.2,aN,aH,gC]
 simp only[aB]
 cases e:o==30
 case true=>
  obtain rfl:o=30:=by simpa using e
  have:sin a (m.2.1.length:Int)=true:=by simpa[cM] using hi
  simp only[sin,aC,aP] at this
  simp only[aA,this.1,this.2,aN,aH,gC]
 simp only[aB]
 cases e:o==31
 case true=>
  obtain rfl:o=31:=by simpa using e
  have:sin a (m.2.2.2.1.length:Int)=true:=by simpa[cM] using hi
  have hg:=uW hs (f:=a) this
  simp only[sin,aC,aP] at this
  simp only[aA,this.1,this.2,aN,aH,aJn (x:=aD m a) (t:=[]) (by omega) (by simp),aK]
 simp only[aB]
 cases e:o==32
 case true=>
  obtain rfl:o=32:=by simpa using e
  have:sin a (m.1.length:Int)=true∧sin b ((bZ m a).2.2.1.length:Int)=true:=by simpa[cM] using hi
  have hsl:iG m a b=true:=by unfold iG;unfold sin at this;rw[this.1,this.2];rfl
  have h1:=yD hsl
  simp only[sin,aC,aP] at this
  obtain⟨h2,h3⟩:=sN (uJ hcl this.1.1 this.1.2) h1
  have hg:=uW hs (f:=(dQ m a b).1) (bC.2 h2)
  simp only[aA,h2.1,h2.2,aN,aH,gC,nB,aJn (x:=aD m (dQ m a b).1) (t:=[tR a]) (by omega) (by simp only[aF,bK];omega),aK]
 simp only[aB]
 cases e:o==34
 case true=>simp only[aA,gC,nB]
 simp only[aB]
 cases e:o==33
 case true=>simp only[aA,gC,aJT];cases (aD m f).2.2.1.1 !=5 <;> rfl
 simp only[aB]
theorem aQ0 {m:Im} {i:Ins} {f:Int} (hs:aJ m=true) (hf:inM m f=true) (hi:cM m (aD m f) i=true):fof m i f=some (eQ m (aD m f) i,()):=by
 unfold fof
 rw[hs,hf,hi]
 rfl
theorem cW {α:Type} {P:α→Prop} {b:Bool} {x y:α} (h1:P x) (h2:P y):P (bif b then x else y):=by cases b <;> assumption
def Small (e:Eff):Prop:=e.1.length≤12∧e.2.1.length≤1
theorem aFU {m:Im} (hs:aJ m=true) {g:Int} (hg:inM m g=true) {t:List Tp} (ht:t.length≤1):Small (iU (aD m g) t):=by
 have:=uW hs hg
 unfold Small iU
 constructor
 ·simp only[aX,dW];omega
 ·cases (aD m g).2.2.1.1 !=5 <;> simp
theorem aME (o:Int):Small (eP o).1:=by
 unfold eP
 repeat' refine cW (P:=fun z:Eff×Bool×Unit=>Small z.1) ⟨by decide,by decide⟩ ?_
 exact⟨by decide,by decide⟩
theorem aFT {m:Im} (hs:aJ m=true) {i:Ins} {f:Int} (hi:cM m (aD m f) i=true):Small (eQ m (aD m f) i):=by
 have hcl:=uX hs
 unfold eQ
 rcases i with⟨o,a,b,⟨⟩⟩
 refine cW (aME _) ?_
 refine cW ⟨by simp,by simp⟩ (cW ⟨by simp,by simp⟩ (cW ⟨by simp,by simp⟩ (cW ⟨by simp,by simp⟩ (cW ⟨by simp,by simp⟩ (cW ⟨by simp,by simp⟩ (cW ⟨by simp,by simp⟩ ?_))))))
 cases e:o==31
 case true=>
  obtain rfl:o=31:=by simpa using e
  have:sin a (m.2.2.2.1.length:Int)=true:=by simpa[cM] using hi
  exact aFU hs this (by simp)
 simp only[aB]
 cases e:o==32
 case true=>
  obtain rfl:o=32:=by simpa using e
  have:sin a (m.1.length:Int)=true∧sin b ((bZ m a).2.2.1.length:Int)=true:=by simpa[cM] using hi
  have hsl:iG m a b=true:=by unfold iG;unfold sin at this;rw[this.1,this.2];rfl
  have h1:=yD hsl
  simp only[sin,aC,aP] at this
  obtain⟨h2,h3⟩:=sN (uJ hcl this.1.1 this.1.2) h1
  exact aFU hs (bC.2 h2) (by simp)
 simp only[aB]
 exact cW ⟨by simp,by simp⟩ (cW (cW ⟨by simp,by simp⟩ ⟨by simp,by simp⟩) ⟨by simp,by simp⟩)
theorem aPh (i:Ins) (pc:Int):(eB i pc).length≤2:=by
 unfold eB
 cases i.1==18 <;> cases i.1==19 <;> cases i.1==33 <;> exact eH rfl
theorem aE7 {α β:Type} (p:α→β→Bool) (x:α) (_:β):∀(s:List α) (e:List β),e.length=s.length→((s.zip e).all fun q=>p q.1 q.2)=e.zipIdx.all fun q=>p (s.getD q.2 x) q.1:=by
 intro s e h
 rw[aCA,bO,bO]
 constructor
 ·rintro h1 ⟨b,k⟩ hq
  obtain⟨hk,hb⟩:=List.mem_zipIdx' hq
  have:(s.getD k x,b)∈s.zip e:=by
   rw[List.mem_iff_getElem?]
   refine⟨k,?_⟩
   have hks:k<s.length:=by omega
   simp[List.getElem?_zip_eq_some,hks,hk,hb]
  exact h1 _ this
 ·rintro h1 ⟨a,b⟩ hq
  obtain⟨k,hk⟩:=List.mem_iff_getElem?.1 hq
  rw[List.getElem?_zip_eq_some] at hk
  have h2:(b,k)∈e.zipIdx:=by
   rw[List.mem_zipIdx_iff_getElem?]
   exact hk.2
  have:=h1 _ h2
  simpa[hk.1] using this
theorem aQR (m:Im) (f pc:Int) (s:List Tp) (r) (h:pT m f pc s=some r):∃k,aIT k m f pc s=some r:=by
 unfold pT at h
 cases hb:aJ m&&okL s <;> simp only[hb,aA,aB] at h
 ·cases h
 injection h with h
 subst h
 simp only[aC] at hb
 obtain⟨hs,hsl⟩:=hb
 have hsl:=iP hsl
 refine⟨20,?_⟩
 have fold:∀g:Int,m.2.2.2.1.getD g.toNat zMt=aD m g:=fun _=>rfl
 have fold2:(aD m f).2.2.2.1.getD pc.toNat zIns=aG m f pc:=rfl
 have fold3:(aD m f).2.2.2.1.length=codeN m f:=rfl
 unfold aIT aQ
 simp only[fold,fold2,fold3]
 cases hf:inM m f
 ·simp only[lA,cF,aA]
  have:¬(0≤f∧f<(m.2.2.2.1.length:Int)):=fun hh=>by rw[bC.2 hh] at hf;cases hf
  by_cases h0:f<0
  ·simp only[h0,aN,aA]
  ·have h1:f≥(m.2.2.2.1.length:Int):=by omega
   simp only[h0,h1,aN,bU,aA,aB]
 obtain⟨f0,f1⟩:=bC.1 hf
 have f2:¬f<0:=by omega
 have f3:¬f≥(m.2.2.2.1.length:Int):=by omega
 have hc:=eU hs hf
 simp only[f0,f1,f2,f3,aN,bU,aH,eJ,aA,aB]
 by_cases p0:pc<0
 ·have:¬0≤pc:=by omega
  simp only[p0,sin,this,aN,bU,lA,cF,aA]
 have p0':0≤pc:=by omega
 by_cases p1:pc≥(codeN m f:Int)
 ·have:¬pc<(codeN m f:Int):=by omega
  simp only[p0,p1,sin,this,aN,bU,aAt,cF,aA,aB]
 have p1':pc<(codeN m f:Int):=by omega
 have hp:sin pc (codeN m f:Int)=true:=by simp[sin,p0',p1']
 simp only[p0,p0',p1,p1',hp,aN,bU,aH,aY,aA,aB,wY]
 cases hn:(eB (aG m f pc) pc).contains (codeN m f:Int)
 case true=>simp only[aA]
 simp only[aB]
 cases h6:(aG m f pc).1==6
 case true=>
  simp only[aA]
  by_cases s0:s.length=0
  ·have:((s.length:Int)==0)=true:=by simp[s0]
   rw[this,aI s0]
   rfl
  ·have:((s.length:Int)==0)=false:=oQ.2 (by omega)
   rw[this,bM s0]
   simp only[jJ,aB]
   by_cases s8:s.length≥8
   ·have:(s.length:Int)≥8:=by omega
    simp only[this,s8,aN,aA]
   ·have h1:¬(s.length:Int)≥8:=by omega
    have h2:IntKind.i64.wrap ((s.length:Int) - 1)=((s.length - 1:Nat):Int):=by rw[cY] <;> omega
    have h3:((s.length - 1:Nat):Int)≤(s.length:Int):=by omega
    simp only[h1,s8,h2,h3,dge,aN,bU,aH,fD,aA,aB,aR,iD]
    rw[aB2 (by simp only[gO,kB,cB,aX,dW];omega) (by simp)]
    simp only[aK,gO,kB,cB]
 simp only[aB]
 have hi:=sQ hs hf hp
 rw[aQ0 hs hf hi]
 simp only[aK]
 have hsm:=aFT hs (f:=f) hi
 generalize eQ m (aD m f) (aG m f pc)=E at hsm⊢
 obtain⟨hE1,hE2⟩:=hsm
 unfold nP
 have w1:IntKind.i64.wrap ((s.length:Int) - (E.1.length:Int))=(s.length:Int) - (E.1.length:Int):=by rw[cY] <;> omega
 have w2:IntKind.i64.wrap ((s.length:Int) - (E.1.length:Int)+(E.2.1.length:Int))=(s.length:Int) - (E.1.length:Int)+(E.2.1.length:Int):=by rw[cY] <;> omega
 simp only[w1,w2]
 by_cases l1:s.length<E.1.length
 ·have:(s.length:Int) - (E.1.length:Int)<0:=by omega
  simp only[this,l1,aN,sB,aA]
 have l1':¬(s.length:Int) - (E.1.length:Int)<0:=by omega
 simp only[l1,l1',bU,jJ,aB]
 by_cases l2:s.length - E.1.length+E.2.1.length>8
 ·have:(s.length:Int) - (E.1.length:Int)+(E.2.1.length:Int)>8:=by omega
  simp only[this,l2,aN,aA]
 have l2':¬(s.length:Int) - (E.1.length:Int)+(E.2.1.length:Int)>8:=by omega
 simp only[l2,l2',bU,aB]
 have hzip:=aE7 (fun a b=>eC m (aG m f pc).1 a b) zTp zTp (s.drop (s.length - E.1.length)) E.1 (by rw[dW];omega)
 rw[hzip]
 generalize hD:s.length - E.1.length=D at*
 have hDi:(s.length:Int) - (E.1.length:Int)=(D:Int):=by omega
 have w4:IntKind.i64.wrap (D:Int)=(D:Int):=by rw[cY] <;> omega
 rw[show (E.1.zipIdx.all fun q=>eC m (aG m f pc).1 ((s.drop D).getD q.2 zTp) q.1)=jX (fun k x=>eC m (aG m f pc).1 ((s.drop D).getD k zTp) x) 0 E.1 by
  rw[aCA,aCq,bO]
  constructor
  ·intro hh j x hx
   have:=hh (x,j) (by rw[List.mem_zipIdx_iff_getElem?];exact hx)
   simpa using this
  ·rintro hh ⟨x,j⟩ hx
   rw[List.mem_zipIdx_iff_getElem?] at hx
   have:=hh j x hx
   simpa using this]
 refine (aD0 (xs:=E.1) (st:=fun k=>(eB (aG m f pc) pc,(k:Int),())) (p:=fun k x=>eC m (aG m f pc).1 ((s.drop D).getD k zTp) x) (ex:=some ([],[],4,())) (fin:=some (s.take D++E.2.1,eB (aG m f pc) pc,0,())) (fun k x rec hk hlt=>?_) (fun rec=>?_) 20 (by omega)).trans ?_
 ·have hx:(s.drop D).getD k zTp=s.getD (D+k) zTp:=by simp[dS]
  have w3:IntKind.i64.wrap ((D:Int)+(k:Int))=((D+k:Nat):Int):=by rw[cY] <;> omega
  rw[aEt]
  simp only[w4,hDi,w3,fold,fold2,dlt hlt,dge,dlt (show D+k<s.length by omega),aH,aA,aR,getD_some hk,hx,bG hlt (show _≤lenMax by simp only[lenMax];omega)]
  cases eC m (aG m f pc).1 (s.getD (D+k) zTp) x <;> rfl
 ·have l3:(D:Int)≤(s.length:Int):=by omega
  rw[aEt]
  simp only[w4,hDi,bP,aB,dge,l3,aN,aH,aA,aR,aCv]
  rw[aB2 (by simp only[gO,kB,cB,aX,bN];omega) (by simp)]
  simp only[aK,gO,kB,cB]
 ·cases jX (fun k x=>eC m (aG m f pc).1 ((s.drop D).getD k zTp) x) 0 E.1 <;> rfl
end Go.Pli

namespace Go.Pli
open Go Go.PM
theorem wA (l:List Cl) {a s:List Tp} (h:a.length=s.length):(cC l a s).length=s.length:=by
 unfold cC
 rw[qF,List.length_zip,h,Nat.min_self]
theorem aPF (l:List Cl) {a s:List Tp} {k:Nat} (h1:k<a.length) (h2:k<s.length):(cC l a s)[k]? =some (gJ l (a.getD k zTp) (s.getD k zTp)):=by
 unfold cC
 rw[kA,aT (show k<(a.zip s).length by rw[List.length_zip];omega)]
 simp[h1,h2]
def aRi {α:Type} (z:α) (l:List α) (k:Nat):List α:=l.take k++List.replicate (l.length - k) z
theorem aPi {m:Im} (hs:aJ m=true) {f pc:Int} (hf:inM m f=true) (hp:sin pc (codeN m f:Int)=true) (hn:(eB (aG m f pc) pc).contains (codeN m f:Int)=false):∀to∈eB (aG m f pc) pc,0≤to∧to<(codeN m f:Int):=by
 have hi:=sQ hs hf hp
 have hc:=eU hs hf
 simp only[sin,aC,aP] at hp
 have hw:IntKind.i64.wrap (pc+1)=pc+1:=by rw[cY] <;> omega
 intro to ht
 have hne:to≠(codeN m f:Int):=by
  rintro rfl
  rw[rZ.2 ht] at hn
  cases hn
 have hj:((aG m f pc).1==18 || (aG m f pc).1==19)=true→0≤(aG m f pc).2.1∧(aG m f pc).2.1<(codeN m f:Int):=by
  intro hh
  have:sin (aG m f pc).2.1 (codeN m f:Int)=true:=by
   rw[eT] at hh
   unfold cM at hi
   rcases hh with hh | hh <;> (have e:=eq_of_beq hh;rw[e] at hi;exact hi)
  simpa[sin] using this
 unfold eB at ht
 cases h1:(aG m f pc).1==18 <;> simp only[h1,aA,aB] at ht
 ·cases h2:(aG m f pc).1==19 <;> simp only[h2,aA,aB] at ht
  ·cases h3:(aG m f pc).1==33 <;> simp only[h3,aA,aB] at ht
   ·rw[dV,hw] at ht;omega
   ·cases ht
  ·rw[hw] at ht
   rcases bL.1 ht with ht | ht
   ·omega
   ·rw[dV] at ht
    have:=hj (by rw[h2,Bool.or_true])
    omega
 ·rw[dV] at ht
  have:=hj (by rw[h1,sB])
  omega
theorem nO {m:Im} (hs:aJ m=true) {f pc:Int} {s:List Tp} (h:(aQ m f pc s).2.2.1=0):
  inM m f=true∧sin pc (codeN m f:Int)=true∧(aQ m f pc s).1.length≤8∧(∀to∈(aQ m f pc s).2.1,0≤to∧to<(codeN m f:Int)):=by
 unfold aQ at h⊢
 cases hf:inM m f
 ·rw[hf] at h;simp at h
 cases hp:sin pc (codeN m f:Int)
 ·rw[hf,hp] at h;simp at h
 simp only[hf,hp,aH,aY,aB] at h⊢
 cases hn:(eB (aG m f pc) pc).contains (codeN m f:Int)
 case true=>rw[hn] at h;simp at h
 have hin:=aPi hs hf hp hn
 simp only[hn,aB] at h⊢
 refine⟨trivial,trivial,?_⟩
 cases h6:(aG m f pc).1==6 <;> simp only[h6,aA,aB] at h⊢
 ·unfold nP at h⊢
  generalize eQ m (aD m f) (aG m f pc)=E at h⊢
  cases hb:decide (s.length<E.1.length) || decide (s.length - E.1.length+E.2.1.length>8) <;> simp only[hb,aA,aB] at h⊢
  ·simp only[Bool.or_eq_false_iff,rK] at hb
   cases hz:((s.drop (s.length - E.1.length)).zip E.1).all fun p=>eC m (aG m f pc).1 p.1 p.2 <;> simp only[hz,aA,aB] at h⊢
   ·cases h
   ·refine⟨?_,hin⟩
    rw[aX,bN]
    omega
  ·cases h
 ·cases hb:decide (s.length=0) || decide (s.length≥8) <;> simp only[hb,aA,aB] at h⊢
  ·simp only[Bool.or_eq_false_iff,rK] at hb
   refine⟨?_,hin⟩
   rw[aX,dW]
   omega
  ·cases h
structure OneP (m:Im) (f pc:Int) (h:List Sh) (q:List Bool):Prop where
 sane:aJ m=true
 meth:inM m f=true
 at':sin pc (codeN m f:Int)=true
 hl:h.length=codeN m f
 ql:q.length=codeN m f
 ok:∀s∈h,okL s.2.1=true
theorem aTu {m:Im} {f pc:Int} {h:List Sh} {q:List Bool} (hh:tH m f pc h q=true):OneP m f pc h q:=by
 simp only[tH,aC,aP,bO] at hh
 exact⟨hh.1,hh.2.1,hh.2.2.1,hh.2.2.2.1,hh.2.2.2.2.1,hh.2.2.2.2.2⟩
theorem OneP.to {m:Im} {f pc:Int} {h:List Sh} {q:List Bool} (hh:OneP m f pc h q):tH m f pc h q=true:=by
 simp only[tH,aC,aP,bO]
 exact⟨hh.1,hh.2,hh.3,hh.4,hh.5,hh.6⟩
def aTo (z:St4):Prop:=z.2.1.length≤2
theorem sL (m:Im) (f pc:Int) (s:List Tp):aTo (aQ m f pc s):=by
 have h2:=aPh (aG m f pc) pc
 unfold aQ nP
 exact cW (dL _) (cW (dL _) (cW (cW (dL _) h2) (cW (dL _) (cW h2 (dL _)))))
end Go.Pli

namespace Go.Pli
open Go Go.PM
theorem aSJ (s:List Int):aJ7 s=some (idL s,()):=by simp[aJ7,idL]
theorem aSK (s:List (List Int)):aKa s=some (idL s,()):=by simp[aKa,idL]
theorem aHC {l:List (List Sh)} (h:eN l=true) {n:Nat} (hn:n<l.length):(l.getD n []).length<1000000∧∀s∈l.getD n [],s.2.1.length<1000000:=by
 simp only[eN,aC,bO] at h
 rw[getD_some (aT hn)]
 have:=h.2 _ (dX hn)
 exact⟨iP this.1,fun s hs=>iP (this.2 s hs)⟩
theorem aRS (to:Int) (part:List Int) (_:aRV to part):aRU to part=some (uD to part,()):=rfl
theorem aQC (l:List Int) (c:List Int×Unit) (h:aQF l c):∃k,aQE k l c=some (aBL l c,()):=by
 refine⟨l.length+1,aDX (st:=fun k=>((k:Int),())) (p:=fun x=>uD x c.1) (fun k x rec hk hlt=>?_) (fun rec=>?_) _ (hC _)⟩
 ·unfold aEj
  simp only[dlt hlt,dge,aH,aA,aR,getD_some hk,bG hlt h.1.1]
 ·unfold aEj
  simp only[bP,aB]
theorem aSb (l:List Int) (c:List Int×Unit) (_:aSd l c):aJQ l c=some (aAd l c,()):=by
 unfold aJQ aBL aAd
 rw[aBK]
theorem aRP (l:List (List Int)) (part:List Int) (r) (h:uC l part=some r):∃k,aJE k l part=some r:=by
 unfold uC at h
 cases hb:okL part <;> simp only[hb,aA,aB] at h
 ·cases h
 injection h with h
 subst h
 have hp:=iP hb
 refine⟨part.length+1,?_⟩
 unfold aJE jG
 have:=mU (L:=aB1 l part) (xs:=part) (st:=fun k=>((k:Int),())) (p:=fun k=> !(sin k (l.length:Int)&&(l.getD k.toNat []).any fun to=>part.contains to)) (ex:=some (true,())) (fin:=some (false,()))
  (fun k x rec hk hlt=>by
   have hw:=bG hlt (show _≤lenMax by simp only[lenMax];omega)
   rw[aB1]
   simp only[dlt hlt,dge,aH,aA,aR,getD_some hk,hw,sin]
   by_cases h0:x<0
   ·have:¬0≤x:=by omega
    simp only[h0,this,aN,bU,lA,cF,aA]
   have h0':0≤x:=by omega
   by_cases h1:x≥(l.length:Int)
   ·have:¬x<(l.length:Int):=by omega
    simp only[h0,h1,this,aN,bU,aAt,lA,cF,aA,aB]
   have h1':x<(l.length:Int):=by omega
   simp only[h0,h0',h1,h1',aN,bU,aH,eJ,aA,aB,aAd,uD]
   cases (l.getD x.toNat []).any fun to=>part.contains to <;> rfl)
  (fun rec=>by rw[aB1];simp only[bP,aB]) (part.length+1) (by omega)
 refine this.trans ?_
 rw[←List.not_any_eq_all_not]
 cases part.any fun k=>sin k (l.length:Int)&&(l.getD k.toNat []).any fun to=>part.contains to <;> rfl
theorem aDv (m:Im):(fG m).length=m.2.2.2.1.length:=by unfold fG;rw[qF,jC]
end Go.Pli
