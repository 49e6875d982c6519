/- Sorted rows of numbers, in plain Lean. -/
import Derived.Test.YtcofionghgmldaaGreatPliNt
import Derived.Test.YtcofionghgmldaaGreatPliL11
import Derived.Test.YtcofionghgmldaaGreatPliL5E
import Derived.KernelRfl
import Derived.Test.YtcofionghgmldaaGreatPliL14
namespace Go.Pli
open Go Go.PM
theorem aDR {x y:Int}:∀{l:List Int},y∈oC x l↔y=x∨y∈l
 | []=>by simp[oC]
 | z::l=>by
  simp only[oC]
  cases leI x z <;> simp only[aA,aB,bL,aDR (l:=l)]
  constructor
  ·rintro (h | h | h)
   ·exact .inr (.inl h)
   ·exact .inl h
   ·exact .inr (.inr h)
  ·rintro (h | h | h)
   ·exact .inr (.inl h)
   ·exact .inl h
   ·exact .inr (.inr h)
theorem aBB {y:Int}:∀{l:List Int},y∈fT l↔y∈l
 | []=>Iff.rfl
 | x::l=>by simp only[fT,aDR,bL,aBB (l:=l)]
theorem aHi (x:Int):∀l:List Int,(oC x l).Perm (x::l)
 | []=> .refl _
 | z::l=>by
  simp only[oC]
  cases leI x z <;> simp only[aA,aB]
  ·exact ((aHi x l).cons z).trans (.swap x z l)
  ·exact .refl _
theorem tD:∀l:List Int,(fT l).Perm l
 | []=> .refl _
 | x::l=>(aHi x (fT l)).trans ((tD l).cons x)
theorem aGo (x:Int):∀{l:List Int},l.Pairwise (·≤·)→(oC x l).Pairwise (·≤·)
 | [],_=>by simp[oC]
 | z::l,h=>by
  have h1:=jY.1 h
  simp only[oC]
  cases hx:leI x z <;> simp only[aA,aB]
  ·have hz:z≤x:=by simp only[leI,rK] at hx;omega
   refine jY.2 ⟨fun y hy=>?_,aGo x h1.2⟩
   rcases aDR.1 hy with rfl | hy
   ·exact hz
   ·exact h1.1 y hy
  ·have hz:x≤z:=by simpa[leI] using hx
   refine jY.2 ⟨fun y hy=>?_,h⟩
   rcases bL.1 hy with rfl | hy
   ·exact hz
   ·exact Int.le_trans hz (h1.1 y hy)
theorem aAP:∀l:List Int,(fT l).Pairwise (·≤·)
 | []=>List.Pairwise.nil
 | x::l=>aGo x (aAP l)
theorem aGn:∀{a b:List Int},a.Pairwise (·≤·)→b.Pairwise (·≤·)→a.Perm b→a=b
 | [],b,_,_,h=>by rw[List.Perm.nil_eq h]
 | x::a,[],_,_,h=>by have:=h.length_eq;simp at this
 | x::a,y::b,ha,hb,h=>by
  have h1:=jY.1 ha
  have h2:=jY.1 hb
  have hxy:x=y:=by
   have hx:x∈y::b:=h.mem_iff.1 bR
   have hy:y∈x::a:=h.mem_iff.2 bR
   rcases bL.1 hx with hx | hx
   ·exact hx
   ·rcases bL.1 hy with hy | hy
    ·exact hy.symm
    ·exact Int.le_antisymm (h1.1 y hy) (h2.1 x hx)
  subst hxy
  rw[aGn h1.2 h2.2 (List.Perm.cons_inv h)]
theorem aMD (l:List Int):(l.mergeSort fun x y=>decide (x≤y))=fT l:=by
 refine aGn ?_ (aAP l) ((List.mergeSort_perm l _).trans (tD l).symm)
 have:=List.pairwise_mergeSort (le:=fun x y:Int=>decide (x≤y)) (by intro a b c;simp;omega) (by intro a b;simp;omega) l
 exact this.imp (by intro a b h;simpa using h)
theorem aDS {y:Int}:∀{l:List Int},y∈dN l↔y∈l
 | []=>Iff.rfl
 | a::l=>by
  have ih:=aDS (y:=y) (l:=l)
  simp only[dN]
  split
  ·rename_i h
   rw[h] at ih
   simp only[List.not_mem_nil,false_iff] at ih
   simp[ih]
  ·rename_i b r h
   rw[h] at ih
   cases hab:a==b <;> simp only[aA,aB]
   ·rw[bL,ih,bL]
   ·have:a=b:=by simpa using hab
    subst this
    rw[ih,bL]
    constructor
    ·exact .inr
    ·rintro (h' | h')
     ·subst h';exact ih.1 bR
     ·exact h'
theorem aFG:∀{l:List Int},l.Pairwise (·≤·)→(dN l).Pairwise (·<·)
 | [],_=>List.Pairwise.nil
 | a::l,h=>by
  have h1:=jY.1 h
  have ih:=aFG h1.2
  simp only[dN]
  split
  ·simp
  ·rename_i b r hc
   rw[hc] at ih
   have hmem:∀y,y∈b::r→y∈l:=fun y hy=>aDS.1 (by rw[hc];exact hy)
   cases hab:a==b <;> simp only[aA,aB]
   ·have hne:a≠b:=by simpa using hab
    have hle:=h1.1 b (hmem b bR)
    refine jY.2 ⟨fun y hy=>?_,ih⟩
    rcases bL.1 hy with rfl | hy'
    ·omega
    ·have:=(jY.1 ih).1 y hy'
     omega
   ·exact ih
theorem aFF:∀{a b:List Int},a.Pairwise (·<·)→b.Pairwise (·<·)→(∀x,x∈a↔x∈b)→a=b
 | [],[],_,_,_=>rfl
 | [],y::b,_,_,h=>by have:=(h y).2 bR;simp at this
 | x::a,[],_,_,h=>by have:=(h x).1 bR;simp at this
 | x::a,y::b,ha,hb,h=>by
  have h1:=jY.1 ha
  have h2:=jY.1 hb
  have hxy:x=y:=by
   rcases bL.1 ((h x).1 bR) with hx | hx
   ·exact hx
   ·rcases bL.1 ((h y).2 bR) with hy | hy
    ·exact hy.symm
    ·have:=h1.1 y hy;have:=h2.1 x hx;omega
  subst hxy
  rw[aFF h1.2 h2.2 fun z=>?_]
  constructor
  ·intro hz
   rcases bL.1 ((h z).1 (bJ _ hz)) with rfl | hz'
   ·have:=h1.1 z hz;omega
   ·exact hz'
  ·intro hz
   rcases bL.1 ((h z).2 (bJ _ hz)) with rfl | hz'
   ·have:=h2.1 z hz;omega
   ·exact hz'
theorem aLm (n:Nat):(ints n).Pairwise (·<·):=by
 unfold ints
 rw[List.pairwise_map]
 exact List.pairwise_lt_range.imp (by intro a b h;omega)
theorem aNq {l:List Int} (h:l.Pairwise (·≤·)) (hn:l.Nodup):l.Pairwise (·<·):=by
 induction l with
 | nil=>exact List.Pairwise.nil
 | cons x l ih=>
  have h1:=jY.1 h
  have h2:=List.nodup_cons.1 hn
  refine jY.2 ⟨fun y hy=>?_,ih h1.2 h2.2⟩
  have:=h1.1 y hy
  have:x≠y:=fun e=>h2.1 (by rw[e];exact hy)
  omega
theorem aMC {l:List Int} (hn:l.Nodup):(fT l).Pairwise (·<·):=
 aNq (aAP l) ((tD l).nodup_iff.2 hn)
end Go.Pli

namespace Go.Pli
open Go Go.PM
theorem aDT {m:Im} {f g:Int}:g∈qC m f↔qA m f g=true:=by
 unfold qC qA
 simp only[iX,fR,eY,rZ]
 constructor
 ·rintro ⟨l,⟨i,hi,rfl⟩,hg⟩;exact⟨i,hi,hg⟩
 ·rintro ⟨i,hi,hg⟩;exact⟨_,⟨i,hi,rfl⟩,hg⟩
theorem aCL {m:Im} (h:uT m=true) {f g:Int} (hf:inM m f=true) (hc:qA m f g=true):inM m g=true:=by
 simp only[uT,bO] at h
 exact h f (iQ.2 (bC.1 hf)) g (aDT.2 hc)
theorem aHX {m:Im} {f g:Int} (hf:inM m f=true):g∈ofB m f↔qA m f g=true:=by
 unfold ofB
 rw[hf]
 simp only[aA]
 rw[aDS,aBB,aDT]
theorem aPa {m:Im} (h:uT m=true) {f:Int} (hf:inM m f=true):ofB m f=(ints m.2.2.2.1.length).filter fun g=>qA m f g:=by
 refine aFF ?_ ((aLm _).filter _) fun x=>?_
 ·unfold ofB
  rw[hf]
  exact aFG (aAP _)
 ·rw[aHX hf,mF,iQ]
  constructor
  ·intro hc;exact⟨bC.1 (aCL h hf hc),hc⟩
  ·exact fun hc=>hc.2
def Canon (m:Im) (S:List Int):Prop:=∃p:Int→Bool,S=(ints m.2.2.2.1.length).filter p
theorem Canon.inM {m:Im} {S:List Int} (h:Canon m S) {x:Int} (hx:x∈S):inM m x=true:=by
 obtain⟨p,rfl⟩:=h
 exact bC.2 (iQ.1 (mF.1 hx).1)
theorem Canon.len {m:Im} {S:List Int} (h:Canon m S):S.length≤m.2.2.2.1.length:=by
 obtain⟨p,rfl⟩:=h
 have:=aCu p (ints m.2.2.2.1.length)
 rwa [jC] at this
theorem aTl {m:Im} (hi:cN m=true) {f:Int} (hf:inM m f=true):(qC m f).length≤512:=by
 obtain⟨h0,h1⟩:=bC.1 hf
 have hx:=(lK ((dD hi).mts _ (pJ h0 h1))).2.2.2.1.1
 unfold qC
 have key:∀l:List Ins,((l.map (bX m)).flatten).length≤8*l.length:=by
  intro l
  induction l with
  | nil=>simp
  | cons i l ih=>
   have:=xW hi i
   rw[dO,gO,aX,aF]
   omega
 have:=key (aD m f).2.2.2.1
 omega
theorem aDz:∀{a b:List Int},a.Nodup→(∀x∈a,x∈b)→a.length≤b.length
 | [],_,_,_=>dL _
 | x::a,b,ha,h=>by
  have h1:=List.nodup_cons.1 ha
  have hx:=h x bR
  have:=aDz (a:=a) (b:=b.erase x) h1.2 fun y hy=>by
   have hyx:y≠x:=fun e=>h1.1 (by rw[←e];exact hy)
   exact (List.mem_erase_of_ne hyx).2 (h y (bJ _ hy))
  rw[List.length_erase_of_mem hx] at this
  have:=List.length_pos_of_mem hx
  simp only[aF];omega
end Go.Pli

namespace Go.Pli
open Go Go.PM
structure Grow (m n:Im):Prop where
 cls:∃e,n.1=m.1++e
 statics:m.2.1.length≤n.2.1.length
 ints:m.2.2.1.length≤n.2.2.1.length
 mts:n.2.2.2.1=m.2.2.2.1
end Go.Pli

namespace Go.Pli
open Go Go.PM
theorem aPH {m:Im} {l:List Int} {n g:Int} (h:g∈qM m l n):∃c∈l,iG m c n=true∧g=(bZ m c).2.2.1.getD n.toNat 0:=by
 simp only[qM,fR,mF] at h
 obtain⟨c,⟨h1,h2⟩,rfl⟩:=h
 unfold dQ at h2⊢
 cases hs:iG m c n <;> simp only[hs,aA,aB] at h2⊢
 ·cases h2
 ·exact⟨c,h1,hs,rfl⟩
theorem aCM {m:Im} (h:kJ m=true):uT m=true:=by
 simp only[kJ,aC] at h
 obtain⟨-,hc,hm,-⟩:=h
 simp only[uT,bO]
 intro f hf g hg
 obtain⟨h0,h1⟩:=iQ.1 hf
 have hmth:=bO.1 hm _ (pJ h0 h1)
 simp only[fC,aC] at hmth
 have hins:=hmth.2.2.2.2.2.2
 simp only[qC,iX,fR] at hg
 obtain⟨l,⟨i,hi,rfl⟩,hg⟩:=hg
 have hiB:=bO.1 hins i hi
 unfold bX at hg
 cases h31:i.1==31 <;> simp only[h31,aA,aB] at hg
 ·cases h32:i.1==32 <;> simp only[h32,aA,aB] at hg
  ·cases hg
  ·obtain⟨c,hcl,hs,rfl⟩:=aPH hg
   simp only[iG,aC,aP] at hs
   obtain⟨⟨c0,c1⟩,n0,n1⟩:=hs
   have hk:i.2.2.1.toNat<(bZ m c).2.2.1.length:=by omega
   have hget:(bZ m c).2.2.1[i.2.2.1.toNat]? =some ((bZ m c).2.2.1.getD i.2.2.1.toNat 0):=by
    rw[dA,aT hk];rfl
   have:=(sN (uJ hc c0 c1) hget).1
   exact bC.2 this
 ·rw[dV] at hg
  subst hg
  have e:i.1=31:=by simpa using h31
  unfold cM at hiB
  rw[e] at hiB
  have:sin i.2.1 (m.2.2.2.1.length:Int)=true:=hiB
  exact this
theorem uA (m:Im):(gM m).length=m.2.2.2.1.length:=by
 unfold gM;rw[qF,jC]
end Go.Pli

namespace Go.Pli
open Go Go.PM
theorem aK2 (l:List (List Int)) (k i:Nat):eM l (k+1) i k=eM l k i k:=by
 simp only[eM]
 cases eM l k i k <;> simp
theorem aK0 (l:List (List Int)) (k j:Nat):eM l (k+1) k j=eM l k k j:=by
 simp only[eM]
 cases eM l k k j <;> simp
theorem aAx (l:List (List Int)):∀(k i j m:Nat),m<k→eM l k i m=true→eM l k m j=true→eM l k i j=true
 | 0,_,_,_,h,_,_=>by omega
 | k+1,i,j,m,hm,h1,h2=>by
  have ih:=aAx l k
  by_cases hmk:m=k
  ·subst hmk
   rw[aK2] at h1
   rw[aK0] at h2
   simp only[eM,eT,aC]
   exact .inr ⟨h1,h2⟩
  ·have hm':m<k:=by omega
   simp only[eM,eT,aC] at h1 h2⊢
   rcases h1 with h1 | ⟨h1,h1'⟩ <;> rcases h2 with h2 | ⟨h2,h2'⟩
   ·exact .inl (ih i j m hm' h1 h2)
   ·exact .inr ⟨ih i k m hm' h1 h2,h2'⟩
   ·exact .inr ⟨h1,ih k j m hm' h1' h2⟩
   ·exact .inr ⟨h1,h2'⟩
theorem aCC (l:List (List Int)):∀(k:Nat) {i j:Nat},wV l i j=true→eM l k i j=true
 | 0,_,_,h=>h
 | k+1,_,_,h=>by simp only[eM,eT];exact .inl (aCC l k h)
end Go.Pli

namespace Go.Pli
open Go Go.PM
end Go.Pli

namespace Go.Pli
open Go Go.PM
section
variable {m:Im} {l:List (List Sh)}
abbrev aTt (m:Im):List (List Bool)×Unit:=(aPP m.2.2.2.1.length (xR m),())
end
end Go.Pli
