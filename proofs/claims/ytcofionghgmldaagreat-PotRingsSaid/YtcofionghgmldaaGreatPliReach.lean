/- Sorted rows of numbers, in plain Lean. -/
import Derived.Test.YtcofionghgmldaaGreatPliNt
import Derived.Test.YtcofionghgmldaaGreatPliL11
import Derived.Test.YtcofionghgmldaaGreatPliL5E
import Derived.KernelRfl
import Derived.Test.YtcofionghgmldaaGreatPliL14
namespace Go.Pli
open Go Go.PM
theorem aDI {x y:Int}:∀{l:List Int},y∈nW x l↔y=x∨y∈l
 | []=>by simp[nW]
 | z::l=>by
  simp only[nW]
  cases leI x z <;> simp only[aA,aB,bJ,aDI (l:=l)]
  constructor
  ·rintro (h | h | h)
   ·exact .inr (.inl h)
   ·exact .inl h
   ·exact .inr (.inr h)
  ·rintro (h | h | h)
   ·exact .inr (.inl h)
   ·exact .inl h
   ·exact .inr (.inr h)
theorem aBs {y:Int}:∀{l:List Int},y∈fN l↔y∈l
 | []=>Iff.rfl
 | x::l=>by simp only[fN,aDI,bJ,aBs (l:=l)]
theorem aHf (x:Int):∀l:List Int,(nW x l).Perm (x::l)
 | []=> .refl _
 | z::l=>by
  simp only[nW]
  cases leI x z <;> simp only[aA,aB]
  ·exact ((aHf x l).cons z).trans (.swap x z l)
  ·exact .refl _
theorem sV:∀l:List Int,(fN l).Perm l
 | []=> .refl _
 | x::l=>(aHf x (fN l)).trans ((sV l).cons x)
theorem aGj (x:Int):∀{l:List Int},l.Pairwise (·≤·)→(nW x l).Pairwise (·≤·)
 | [],_=>by simp[nW]
 | z::l,h=>by
  have h1:=jZ.1 h
  simp only[nW]
  cases hx:leI x z <;> simp only[aA,aB]
  ·have hz:z≤x:=by simp only[leI,rF] at hx;omega
   refine jZ.2 ⟨fun y hy=>?_,aGj x h1.2⟩
   rcases aDI.1 hy with rfl | hy
   ·exact hz
   ·exact h1.1 y hy
  ·have hz:x≤z:=by simpa[leI] using hx
   refine jZ.2 ⟨fun y hy=>?_,h⟩
   rcases bJ.1 hy with rfl | hy
   ·exact hz
   ·exact Int.le_trans hz (h1.1 y hy)
theorem aAH:∀l:List Int,(fN l).Pairwise (·≤·)
 | []=>List.Pairwise.nil
 | x::l=>aGj x (aAH l)
theorem aGi:∀{a b:List Int},a.Pairwise (·≤·)→b.Pairwise (·≤·)→a.Perm b→a=b
 | [],b,_,_,h=>by rw[List.Perm.nil_eq h]
 | x::a,[],_,_,h=>by have:=h.length_eq;simp at this
 | x::a,y::b,ha,hb,h=>by
  have h1:=jZ.1 ha
  have h2:=jZ.1 hb
  have hxy:x=y:=by
   have hx:x∈y::b:=h.mem_iff.1 bS
   have hy:y∈x::a:=h.mem_iff.2 bS
   rcases bJ.1 hx with hx | hx
   ·exact hx
   ·rcases bJ.1 hy with hy | hy
    ·exact hy.symm
    ·exact Int.le_antisymm (h1.1 y hy) (h2.1 x hx)
  subst hxy
  rw[aGi h1.2 h2.2 (List.Perm.cons_inv h)]
theorem aMv (l:List Int):(l.mergeSort fun x y=>decide (x≤y))=fN l:=by
 refine aGi ?_ (aAH l) ((List.mergeSort_perm l _).trans (sV l).symm)
 have:=List.pairwise_mergeSort (le:=fun x y:Int=>decide (x≤y)) (by intro a b c;simp;omega) (by intro a b;simp;omega) l
 exact this.imp (by intro a b h;simpa using h)
theorem aDJ {y:Int}:∀{l:List Int},y∈dO l↔y∈l
 | []=>Iff.rfl
 | a::l=>by
  have ih:=aDJ (y:=y) (l:=l)
  simp only[dO]
  split
  ·rename_i h
   rw[h] at ih
   simp only[List.not_mem_nil,false_iff] at ih
   simp[ih]
  ·rename_i b r h
   rw[h] at ih
   cases hab:a==b <;> simp only[aA,aB]
   ·rw[bJ,ih,bJ]
   ·have:a=b:=by simpa using hab
    subst this
    rw[ih,bJ]
    constructor
    ·exact .inr
    ·rintro (h' | h')
     ·subst h';exact ih.1 bS
     ·exact h'
theorem aFC:∀{l:List Int},l.Pairwise (·≤·)→(dO l).Pairwise (·<·)
 | [],_=>List.Pairwise.nil
 | a::l,h=>by
  have h1:=jZ.1 h
  have ih:=aFC h1.2
  simp only[dO]
  split
  ·simp
  ·rename_i b r hc
   rw[hc] at ih
   have hmem:∀y,y∈b::r→y∈l:=fun y hy=>aDJ.1 (by rw[hc];exact hy)
   cases hab:a==b <;> simp only[aA,aB]
   ·have hne:a≠b:=by simpa using hab
    have hle:=h1.1 b (hmem b bS)
    refine jZ.2 ⟨fun y hy=>?_,ih⟩
    rcases bJ.1 hy with rfl | hy'
    ·omega
    ·have:=(jZ.1 ih).1 y hy'
     omega
   ·exact ih
theorem aFB:∀{a b:List Int},a.Pairwise (·<·)→b.Pairwise (·<·)→(∀x,x∈a↔x∈b)→a=b
 | [],[],_,_,_=>rfl
 | [],y::b,_,_,h=>by have:=(h y).2 bS;simp at this
 | x::a,[],_,_,h=>by have:=(h x).1 bS;simp at this
 | x::a,y::b,ha,hb,h=>by
  have h1:=jZ.1 ha
  have h2:=jZ.1 hb
  have hxy:x=y:=by
   rcases bJ.1 ((h x).1 bS) with hx | hx
   ·exact hx
   ·rcases bJ.1 ((h y).2 bS) with hy | hy
    ·exact hy.symm
    ·have:=h1.1 y hy;have:=h2.1 x hx;omega
  subst hxy
  rw[aFB h1.2 h2.2 fun z=>?_]
  constructor
  ·intro hz
   rcases bJ.1 ((h z).1 (bI _ hz)) with rfl | hz'
   ·have:=h1.1 z hz;omega
   ·exact hz'
  ·intro hz
   rcases bJ.1 ((h z).2 (bI _ hz)) with rfl | hz'
   ·have:=h2.1 z hz;omega
   ·exact hz'
theorem aLm (n:Nat):(ints n).Pairwise (·<·):=by
 unfold ints
 rw[List.pairwise_map]
 exact List.pairwise_lt_range.imp (by intro a b h;omega)
theorem aNb {l:List Int} (h:l.Pairwise (·≤·)) (hn:l.Nodup):l.Pairwise (·<·):=by
 induction l with
 | nil=>exact List.Pairwise.nil
 | cons x l ih=>
  have h1:=jZ.1 h
  have h2:=List.nodup_cons.1 hn
  refine jZ.2 ⟨fun y hy=>?_,ih h1.2 h2.2⟩
  have:=h1.1 y hy
  have:x≠y:=fun e=>h2.1 (by rw[e];exact hy)
  omega
theorem aMu {l:List Int} (hn:l.Nodup):(fN l).Pairwise (·<·):=
 aNb (aAH l) ((sV l).nodup_iff.2 hn)
end Go.Pli

namespace Go.Pli
open Go Go.PM
theorem aDK {m:Im} {f g:Int}:g∈pZ m f↔hU m f g=true:=by
 unfold pZ hU
 simp only[iW,eZ,fL,rT]
 constructor
 ·rintro ⟨l,⟨i,hi,rfl⟩,hg⟩;exact⟨i,hi,hg⟩
 ·rintro ⟨i,hi,hg⟩;exact⟨_,⟨i,hi,rfl⟩,hg⟩
theorem aCA {m:Im} (h:uN m=true) {f g:Int} (hf:inM m f=true) (hc:hU m f g=true):inM m g=true:=by
 simp only[uN,bM] at h
 exact h f (kO.2 (bD.1 hf)) g (aDK.2 hc)
theorem aHX {m:Im} {f g:Int} (hf:inM m f=true):g∈ofB m f↔hU m f g=true:=by
 unfold ofB
 rw[hf]
 simp only[aA]
 rw[aDJ,aBs,aDK]
theorem aOP {m:Im} (h:uN m=true) {f:Int} (hf:inM m f=true):ofB m f=(ints m.2.2.2.1.length).filter fun g=>hU m f g:=by
 refine aFB ?_ ((aLm _).filter _) fun x=>?_
 ·unfold ofB
  rw[hf]
  exact aFC (aAH _)
 ·rw[aHX hf,lZ,kO]
  constructor
  ·intro hc;exact⟨bD.1 (aCA h hf hc),hc⟩
  ·exact fun hc=>hc.2
def Canon (m:Im) (S:List Int):Prop:=∃p:Int→Bool,S=(ints m.2.2.2.1.length).filter p
theorem Canon.inM {m:Im} {S:List Int} (h:Canon m S) {x:Int} (hx:x∈S):inM m x=true:=by
 obtain⟨p,rfl⟩:=h
 exact bD.2 (kO.1 (lZ.1 hx).1)
theorem Canon.len {m:Im} {S:List Int} (h:Canon m S):S.length≤m.2.2.2.1.length:=by
 obtain⟨p,rfl⟩:=h
 have:=aAg p (ints m.2.2.2.1.length)
 rwa [mQ] at this
theorem aSZ {m:Im} (hi:bW m=true) {f:Int} (hf:inM m f=true):(pZ m f).length≤512:=by
 obtain⟨h0,h1⟩:=bD.1 hf
 have hx:=(lH ((cV hi).mts _ (pH h0 h1))).2.2.2.1.1
 unfold pZ
 have key:∀l:List Ins,((l.map (bK m)).flatten).length≤8*l.length:=by
  intro l
  induction l with
  | nil=>simp
  | cons i l ih=>
   have:=uP hi i
   rw[dM,fY,aX,aF]
   omega
 have:=key (aD m f).2.2.2.1
 omega
theorem aDs:∀{a b:List Int},a.Nodup→(∀x∈a,x∈b)→a.length≤b.length
 | [],_,_,_=>dL _
 | x::a,b,ha,h=>by
  have h1:=List.nodup_cons.1 ha
  have hx:=h x bS
  have:=aDs (a:=a) (b:=b.erase x) h1.2 fun y hy=>by
   have hyx:y≠x:=fun e=>h1.1 (by rw[←e];exact hy)
   exact (List.mem_erase_of_ne hyx).2 (h y (bI _ hy))
  rw[List.length_erase_of_mem hx] at this
  have:=List.length_pos_of_mem hx
  simp only[aF];omega
end Go.Pli

namespace Go.Pli
open Go Go.PM
structure Grow (m n:Im):Prop where
 cls:∃e,n.1=m.1++e
 statics:m.2.1.length≤n.2.1.length
 ints:m.2.2.1.length≤n.2.2.1.length
 mts:n.2.2.2.1=m.2.2.2.1
end Go.Pli

namespace Go.Pli
open Go Go.PM
theorem aPo {m:Im} {l:List Int} {n g:Int} (h:g∈qL m l n):∃c∈l,iH m c n=true∧g=(bX m c).2.2.1.getD n.toNat 0:=by
 simp only[qL,eZ,lZ] at h
 obtain⟨c,⟨h1,h2⟩,rfl⟩:=h
 unfold dR at h2⊢
 cases hs:iH m c n <;> simp only[hs,aA,aB] at h2⊢
 ·cases h2
 ·exact⟨c,h1,hs,rfl⟩
theorem aCB {m:Im} (h:kJ m=true):uN m=true:=by
 simp only[kJ,aC] at h
 obtain⟨-,hc,hm,-⟩:=h
 simp only[uN,bM]
 intro f hf g hg
 obtain⟨h0,h1⟩:=kO.1 hf
 have hmth:=bM.1 hm _ (pH h0 h1)
 simp only[fF,aC] at hmth
 have hins:=hmth.2.2.2.2.2.2
 simp only[pZ,iW,eZ] at hg
 obtain⟨l,⟨i,hi,rfl⟩,hg⟩:=hg
 have hiB:=bM.1 hins i hi
 unfold bK at hg
 cases h31:i.1==31 <;> simp only[h31,aA,aB] at hg
 ·cases h32:i.1==32 <;> simp only[h32,aA,aB] at hg
  ·cases hg
  ·obtain⟨c,hcl,hs,rfl⟩:=aPo hg
   simp only[iH,aC,aP] at hs
   obtain⟨⟨c0,c1⟩,n0,n1⟩:=hs
   have hk:i.2.2.1.toNat<(bX m c).2.2.1.length:=by omega
   have hget:(bX m c).2.2.1[i.2.2.1.toNat]? =some ((bX m c).2.2.1.getD i.2.2.1.toNat 0):=by
    rw[cW,aT hk];rfl
   have:=(sF (uA hc c0 c1) hget).1
   exact bD.2 this
 ·rw[eD] at hg
  subst hg
  have e:i.1=31:=by simpa using h31
  unfold cG at hiB
  rw[e] at hiB
  have:sin i.2.1 (m.2.2.2.1.length:Int)=true:=hiB
  exact this
theorem pV (m:Im):(cM m).length=m.2.2.2.1.length:=by
 unfold cM;rw[qF,mQ]
end Go.Pli

namespace Go.Pli
open Go Go.PM
theorem zI {σ R:Type} {L:σ→(σ→Option R)→Option R} {n:Nat} {st:Nat→σ} {r:Option R}
  (h1:∀k rec,k<n→L (st k) rec=rec (st (k+1))) (h2:∀rec,L (st n) rec=r):∀F,n<F→aE L F (st 0)=r:=by
 have key:∀(j k F:Nat),k+j=n→j<F→aE L F (st k)=r:=by
  intro j
  induction j with
  | zero=>
   intro k F hk hF
   obtain⟨F,rfl⟩:∃n,F=n+1:=⟨F - 1,by omega⟩
   have:k=n:=by omega
   subst this
   rw[aY,h2]
  | succ j ih=>
   intro k F hk hF
   obtain⟨F,rfl⟩:∃n,F=n+1:=⟨F - 1,by omega⟩
   rw[aY,h1 k _ (by omega)]
   exact ih (k+1) F (by omega) (by omega)
 exact fun F hF=>key n 0 F (by omega) hF
theorem aPv (n:Nat) (f:Nat→Nat→Bool):(dD n f).length=n:=by simp[dD]
theorem aBu {n i:Nat} (h:i<n) (f:Nat→Nat→Bool):(dD n f).getD i []=(List.range n).map fun j=>f i j:=by simp[dD,h]
theorem aE4 {n j:Nat} (h:j<n) (f:Nat→Bool):((List.range n).map f).getD j false=f j:=by simp[h]
theorem aE3 (n:Nat) (f:Nat→Bool):((List.range n).map f).length=n:=by simp
theorem aE2 {n j:Nat} (f:Nat→Bool) (v:Bool):((List.range n).map f).set j v=(List.range n).map fun b=>if b=j then v else f b:=by
 apply uD (by simp)
 intro b h1 h2
 have hb:b<n:=by simpa using h2
 rw[List.getElem_set]
 by_cases hj:j=b
 ·subst hj;simp
 ·simp[hj,Ne.symm hj]
theorem aE1 {n i:Nat} (f:Nat→List Bool) (v:List Bool):((List.range n).map f).set i v=(List.range n).map fun a=>if a=i then v else f a:=by
 apply uD (by simp)
 intro b h1 h2
 have hb:b<n:=by simpa using h2
 rw[List.getElem_set]
 by_cases hj:i=b
 ·subst hj;simp
 ·simp[hj,Ne.symm hj]
theorem aPu {n i j:Nat} (hi:i<n) (f:Nat→Nat→Bool) (v:Bool):(dD n f).set i (((dD n f).getD i []).set j v)=dD n fun a b=>if a=i∧b=j then v else f a b:=by
 rw[aBu hi,aE2]
 unfold dD
 rw[aE1]
 apply kA
 intro a _
 by_cases ha:a=i
 ·subst ha
  rw[if_pos rfl]
  apply kA
  intro b _
  by_cases hb:b=j <;> simp[hb]
 ·rw[if_neg ha]
  apply kA
  intro b _
  simp[ha]
theorem aDN {n:Nat} {f g:Nat→Nat→Bool} (h:∀a,a<n→∀b,b<n→f a b=g a b):dD n f=dD n g:=by
 unfold dD
 apply kA
 intro a ha
 apply kA
 intro b hb
 exact h a (iV.1 ha) b (iV.1 hb)
theorem aE9 (l:List (List Int)) (k i:Nat):bE l (k+1) i k=bE l k i k:=by
 simp only[bE]
 cases bE l k i k <;> simp
theorem aE8 (l:List (List Int)) (k j:Nat):bE l (k+1) k j=bE l k k j:=by
 simp only[bE]
 cases bE l k k j <;> simp
def gQ (l:List (List Int)) (k i j:Nat) (a b:Nat):Bool:=if a<i∨(a=i∧b<j) then bE l (k+1) a b else bE l k a b
theorem aPg (l:List (List Int)) (k i j a:Nat):gQ l k i j a k=bE l k a k:=by
 unfold gQ
 split
 ·exact aE9 l k a
 ·rfl
theorem aPf (l:List (List Int)) (k i j b:Nat):gQ l k i j k b=bE l k k b:=by
 unfold gQ
 split
 ·exact aE8 l k b
 ·rfl
theorem aPh (l:List (List Int)) (k i j:Nat):gQ l k i j i j=bE l k i j:=by
 unfold gQ
 rw[if_neg (by omega)]
theorem aPe (l:List (List Int)) (k i j:Nat):(fun a b=>if a=i∧b=j then bE l (k+1) i j else gQ l k i j a b)=gQ l k i (j+1):=by
 funext a b
 unfold gQ
 by_cases h:a=i∧b=j
 ·obtain⟨rfl,rfl⟩:=h
  rw[if_pos ⟨rfl,rfl⟩,if_pos (.inr ⟨rfl,by omega⟩)]
 ·rw[if_neg h]
  by_cases h2:a<i∨(a=i∧b<j)
  ·rw[if_pos h2,if_pos (by omega)]
  ·rw[if_neg h2,if_neg (by omega)]
theorem aK2 {l:List (List Int)} (hl:l.length≤1000) {k:Nat} (hk:k<l.length) {rec6:(Int×List (List Bool)×Unit)→Option (List (List Bool)×Unit)} {x:List (List Bool)}:
  aE (aAN l 2000 ((k:Int),x,()) rec6) 2000 ((0:Int),dD l.length (bE l k),())=rec6 (((k+1:Nat):Int),dD l.length (bE l (k+1)),()):=by
 have h0:dD l.length (bE l k)=dD l.length (gQ l k 0 0):=aDN fun a _ b _=>by unfold gQ;rw[if_neg (by omega)]
 rw[h0]
 refine zI (n:=l.length) (st:=fun i=>((i:Int),dD l.length (gQ l k i 0),())) (fun i rec hi=>?_) (fun rec=>?_) 2000 (by omega)
 ·rw[aAN]
  simp only[dlt hi,aA]
  refine (zI (n:=l.length) (st:=fun j=>((j:Int),dD l.length (gQ l k i j),())) (fun j rec2 hj=>?_) (fun rec2=>?_) 2000 (by omega))
  ·rw[aC4]
   simp only[aPv,aBu hi,aBu hk,aE3,aE4 hj,aE4 hk,dlt hj,dlt hi,dlt hk,dge,aH,aA,aR,aPh,aPg,aPf,bB hj (show _≤lenMax by simp only[lenMax];omega)]
   have fin:∀v,v=bE l (k+1) i j→rec2 (((j+1:Nat):Int),(dD l.length (gQ l k i j)).set i (((List.range l.length).map fun b=>gQ l k i j i b).set j v),())=rec2 (((j+1:Nat):Int),dD l.length (gQ l k i (j+1)),()):=fun v hv=>by
    subst hv
    rw[←aBu hi (gQ l k i j),aPu hi,aPe]
   cases h1:bE l k i j <;> simp only[aA,aB]
   ·cases h2:bE l k i k <;> simp only[aA,aB]
    ·exact fin _ (by simp[bE,h1,h2])
    ·exact fin _ (by simp[bE,h1,h2])
   ·exact fin _ (by simp[bE,h1])
  ·rw[aC4]
   simp only[bH,aB,bB hi (show _≤lenMax by simp only[lenMax];omega)]
   congr 2
   refine dE (fun q=>(q,())) (aDN fun a ha b hb=>?_)
   unfold gQ
   by_cases h1:a<i∨(a=i∧b<l.length)
   ·rw[if_pos h1,if_pos (by omega)]
   ·rw[if_neg h1,if_neg (by omega)]
 ·rw[aAN]
  simp only[bH,aB,bB hk (show _≤lenMax by simp only[lenMax];omega)]
  congr 2
  refine dE (fun q=>(q,())) (aDN fun a ha b hb=>?_)
  unfold gQ
  rw[if_pos (.inl ha)]
theorem aK3 {l:List (List Int)} (hl:l.length≤1000):aE (aAM l 2000) 2000 ((0:Int),dD l.length (bE l 0),())=some (dD l.length (bE l l.length),()):=by
 refine zI (n:=l.length) (st:=fun k=>((k:Int),dD l.length (bE l k),())) (fun k rec hk=>?_) (fun rec=>?_) 2000 (by omega)
 ·rw[aAM]
  simp only[dlt hk,aA]
  exact aK2 hl hk
 ·rw[aAM]
  simp only[bH,aB]
def sC (l:List (List Int)) (n i p b:Nat):Bool:=(((l.getD i []).take p).contains (b:Int))&&decide (b<n)
def gM (l:List (List Int)) (n i:Nat) (v:List Bool):List (List Bool):=(List.range n).map fun a=>if a<i then (List.range n).map fun b=>oG l a b else if a=i then v else[]
theorem aF6 (l:List (List Int)) (n i:Nat) (v:List Bool):(gM l n i v).length=n:=by simp[gM]
theorem aM2 (l:List (List Int)) {n i:Nat} (hi:i<n) (v:List Bool):(gM l n i v).getD i []=v:=by simp[gM,hi]
theorem aF5 (l:List (List Int)) {n i:Nat} (v w:List Bool):(gM l n i v).set i w=gM l n i w:=by
 unfold gM
 rw[aE1]
 apply kA
 intro a _
 by_cases ha:a=i
 ·subst ha;simp
 ·simp[ha]
theorem aK4 {l:List (List Int)} (hl:l.length≤1000) (hr:∀r∈l,r.length≤1000) {i:Nat} (hi:i<l.length) {x:List (List Bool)} {rec2:(Int×List (List Bool)×Unit)→Option (List (List Bool)×Unit)}:
  aE (aAO l ((i:Int),x,()) rec2) 2000 ((0:Int),gM l l.length i (List.replicate l.length false),())=rec2 (((i+1:Nat):Int),gM l l.length (i+1) [],()):=by
 have hri:(l.getD i []).length≤1000:=hr _ (by rw[cW,aT hi];exact dU hi)
 have h0:gM l l.length i (List.replicate l.length false)=gM l l.length i ((List.range l.length).map (sC l l.length i 0)):=by
  congr 1
  apply uD (by simp)
  intro a h1 h2
  simp[sC]
 rw[h0]
 refine zI (n:=(l.getD i []).length) (st:=fun p=>((p:Int),gM l l.length i ((List.range l.length).map (sC l l.length i p)),())) (fun p rec hp=>?_) (fun rec=>?_) 2000 (by omega)
 ·have hget:(l.getD i []).getD p 0=(l.getD i [])[p]:=by rw[cW,aT hp];rfl
  rw[aAO]
  simp only[dlt hi,dlt hp,dge,aH,aA,aR,aF6,aM2 l hi,aE3,bB hp (show _≤lenMax by simp only[lenMax];omega)]
  have hnext:∀b,b<l.length→sC l l.length i (p+1) b=(sC l l.length i p b || ((l.getD i []).getD p 0==(b:Int))):=fun b hb=>by
   unfold sC
   rw[List.take_succ_eq_append_getElem hp,hget,List.contains_eq_any_beq,List.contains_eq_any_beq,List.any_append]
   simp only[List.any_cons,List.any_nil,xM,aI hb,uF]
   rw[show ((b:Int)==(l.getD i [])[p])=((l.getD i [])[p]==(b:Int)) from BEq.comm]
  by_cases h1:(l.getD i []).getD p 0≥0
  ·rw[aI h1]
   simp only[aA]
   by_cases h2:(l.getD i []).getD p 0<(l.length:Int)
   ·rw[aI h2]
    simp only[aH,aA]
    rw[aE2,aF5]
    congr 3
    congr 1
    apply kA
    intro b hb
    have hb:=iV.1 hb
    rw[hnext b hb]
    by_cases hbt:b=((l.getD i []).getD p 0).toNat
    ·rw[if_pos hbt]
     have:(l.getD i []).getD p 0=(b:Int):=by omega
     rw[this];simp
    ·rw[if_neg hbt]
     have:((l.getD i []).getD p 0==(b:Int))=false:=by
      have:¬(l.getD i []).getD p 0=(b:Int):=by omega
      simpa using this
     rw[this,xM]
   ·rw[bO h2]
    simp only[aB]
    congr 3
    congr 1
    apply kA
    intro b hb
    have hb:=iV.1 hb
    rw[hnext b hb]
    have:((l.getD i []).getD p 0==(b:Int))=false:=by
     have:¬(l.getD i []).getD p 0=(b:Int):=by omega
     simpa using this
    rw[this,xM]
  ·rw[bO h1]
   simp only[aB]
   congr 3
   congr 1
   apply kA
   intro b hb
   have hb:=iV.1 hb
   rw[hnext b hb]
   have:((l.getD i []).getD p 0==(b:Int))=false:=by
    have:¬(l.getD i []).getD p 0=(b:Int):=by omega
    simpa using this
   rw[this,xM]
 ·rw[aAO]
  simp only[dlt hi,dge,aH,aA,aR,bH,aB,bB hi (show _≤lenMax by simp only[lenMax];omega)]
  congr 2
  refine dE (fun q=>(q,())) ?_
  unfold gM
  apply kA
  intro a ha
  have ha:=iV.1 ha
  by_cases h1:a<i
  ·rw[if_pos h1,if_pos (by omega)]
  ·rw[if_neg h1]
   by_cases h2:a=i
   ·subst h2
    rw[if_pos rfl,if_pos (by omega)]
    apply kA
    intro b hb
    have hb:=iV.1 hb
    unfold sC oG
    rw[iA,aI hb,uF]
   ·rw[if_neg h2,if_neg (by omega)]
    by_cases h3:a=i+1
    ·rw[if_pos h3]
    ·rw[if_neg h3]
theorem aNu (l:List (List Int)) (r) (h:oY l=some r):∃k,aGy k l=some r:=by
 unfold oY at h
 cases hs:sE l <;> simp only[hs,aA,aB] at h
 ·cases h
 injection h with h
 subst h
 simp only[sE,aC,bM] at hs
 have hl:l.length≤1000:=eO hs.1
 have hr:∀r∈l,r.length≤1000:=fun r hr=>eO (hs.2 r hr)
 refine⟨2000,?_⟩
 unfold aGy
 have hrm:decide ((l.length:Int)<(rowMax:Int))=true:=aI (by simp only[rowMax];omega)
 have hle:decide ((l.length:Int)≤(l.length:Int))=true:=aI (eV _)
 have hz:decide ((0:Int)≤(l.length:Int))=true:=aI (by omega)
 simp only[hrm,hle,hz,aH,aA]
 have h0:(List.replicate l.length ([]:List Bool))=gM l l.length 0 []:=by
  apply uD (by simp[gM])
  intro a h1 h2
  simp[gM]
 rw[h0]
 refine zI (n:=l.length) (st:=fun i=>((i:Int),gM l l.length i [],())) (fun i rec hi=>?_) (fun rec=>?_) 2000 (by omega)
 ·rw[aC3]
  simp only[dlt hi,dge,hrm,hle,hz,aH,aA,aF6,aR,aF5]
  exact aK4 hl hr hi
 ·rw[aC3]
  simp only[bH,aB]
  have h1:gM l l.length l.length []=dD l.length (bE l 0):=by
   unfold gM dD
   apply kA
   intro a ha
   rw[if_pos (iV.1 ha)]
   rfl
  rw[h1]
  exact aK3 hl
theorem aAp (l:List (List Int)):∀(k i j m:Nat),m<k→bE l k i m=true→bE l k m j=true→bE l k i j=true
 | 0,_,_,_,h,_,_=>by omega
 | k+1,i,j,m,hm,h1,h2=>by
  have ih:=aAp l k
  by_cases hmk:m=k
  ·subst hmk
   rw[aE9] at h1
   rw[aE8] at h2
   simp only[bE,eQ,aC]
   exact .inr ⟨h1,h2⟩
  ·have hm':m<k:=by omega
   simp only[bE,eQ,aC] at h1 h2⊢
   rcases h1 with h1 | ⟨h1,h1'⟩ <;> rcases h2 with h2 | ⟨h2,h2'⟩
   ·exact .inl (ih i j m hm' h1 h2)
   ·exact .inr ⟨ih i k m hm' h1 h2,h2'⟩
   ·exact .inr ⟨h1,ih k j m hm' h1' h2⟩
   ·exact .inr ⟨h1,h2'⟩
theorem aCr (l:List (List Int)):∀(k:Nat) {i j:Nat},oG l i j=true→bE l k i j=true
 | 0,_,_,h=>h
 | k+1,_,_,h=>by simp only[bE,eQ];exact .inl (aCr l k h)
end Go.Pli

namespace Go.Pli
open Go Go.PM
theorem aRh {m:Im} (hi:bW m=true):sE (cM m)=true:=by
 have h12:=(cV hi).methods
 simp only[sE,aC,bM]
 refine⟨Nat.ble_eq_true_of_le (by rw[pV];omega),fun r hr=>Nat.ble_eq_true_of_le ?_⟩
 simp only[cM,eZ] at hr
 obtain⟨f,-,rfl⟩:=hr
 have:=aAg (fun g=>hU m f g) (ints m.2.2.2.1.length)
 rw[mQ] at this
 omega
end Go.Pli

namespace Go.Pli
open Go Go.PM
section
variable {m:Im} {l:List (List Sh)}
abbrev aS7 (m:Im):List (List Bool)×Unit:=(dD m.2.2.2.1.length (xO m),())
end
end Go.Pli
