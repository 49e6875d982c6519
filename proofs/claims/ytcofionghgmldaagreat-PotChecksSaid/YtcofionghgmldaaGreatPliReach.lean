/- Sorted rows of numbers, in plain Lean. -/
import Derived.Test.YtcofionghgmldaaGreatPliNt
import Derived.Test.YtcofionghgmldaaGreatPliL11
import Derived.Test.YtcofionghgmldaaGreatPliL5E
import Derived.KernelRfl
import Derived.Test.YtcofionghgmldaaGreatPliL14
namespace Go.Pli
open Go Go.PM
theorem aC5 {x y:Int}:∀{l:List Int},y∈nG x l↔y=x∨y∈l
 | []=>by simp[nG]
 | z::l=>by
  simp only[nG]
  cases leI x z <;> simp only[aA,aB,bZ,aC5 (l:=l)]
  constructor
  ·rintro (h | h | h)
   ·exact .inr (.inl h)
   ·exact .inl h
   ·exact .inr (.inr h)
  ·rintro (h | h | h)
   ·exact .inr (.inl h)
   ·exact .inl h
   ·exact .inr (.inr h)
theorem aA3 {y:Int}:∀{l:List Int},y∈fB l↔y∈l
 | []=>Iff.rfl
 | x::l=>by simp only[fB,aC5,bZ,aA3 (l:=l)]
theorem aGl (x:Int):∀l:List Int,(nG x l).Perm (x::l)
 | []=> .refl _
 | z::l=>by
  simp only[nG]
  cases leI x z <;> simp only[aA,aB]
  ·exact ((aGl x l).cons z).trans (.swap x z l)
  ·exact .refl _
theorem sB:∀l:List Int,(fB l).Perm l
 | []=> .refl _
 | x::l=>(aGl x (fB l)).trans ((sB l).cons x)
theorem aFt (x:Int):∀{l:List Int},l.Pairwise (·≤·)→(nG x l).Pairwise (·≤·)
 | [],_=>by simp[nG]
 | z::l,h=>by
  have h1:=pH.1 h
  simp only[nG]
  cases hx:leI x z <;> simp only[aA,aB]
  ·have hz:z≤x:=by simp only[leI,qI] at hx;omega
   refine pH.2 ⟨fun y hy=>?_,aFt x h1.2⟩
   rcases aC5.1 hy with rfl | hy
   ·exact hz
   ·exact h1.1 y hy
  ·have hz:x≤z:=by simpa[leI] using hx
   refine pH.2 ⟨fun y hy=>?_,h⟩
   rcases bZ.1 hy with rfl | hy
   ·exact hz
   ·exact Int.le_trans hz (h1.1 y hy)
theorem aCu:∀l:List Int,(fB l).Pairwise (·≤·)
 | []=>List.Pairwise.nil
 | x::l=>aFt x (aCu l)
theorem aFs:∀{a b:List Int},a.Pairwise (·≤·)→b.Pairwise (·≤·)→a.Perm b→a=b
 | [],b,_,_,h=>by rw[List.Perm.nil_eq h]
 | x::a,[],_,_,h=>by have:=h.length_eq;simp at this
 | x::a,y::b,ha,hb,h=>by
  have h1:=pH.1 ha
  have h2:=pH.1 hb
  have hxy:x=y:=by
   have hx:x∈y::b:=h.mem_iff.1 cG
   have hy:y∈x::a:=h.mem_iff.2 cG
   rcases bZ.1 hx with hx | hx
   ·exact hx
   ·rcases bZ.1 hy with hy | hy
    ·exact hy.symm
    ·exact Int.le_antisymm (h1.1 y hy) (h2.1 x hx)
  subst hxy
  rw[aFs h1.2 h2.2 (List.Perm.cons_inv h)]
theorem aLu (l:List Int):(l.mergeSort fun x y=>decide (x≤y))=fB l:=by
 refine aFs ?_ (aCu l) ((List.mergeSort_perm l _).trans (sB l).symm)
 have:=List.pairwise_mergeSort (le:=fun x y:Int=>decide (x≤y)) (by intro a b c;simp;omega) (by intro a b;simp;omega) l
 exact this.imp (by intro a b h;simpa using h)
theorem aG4 {y:Int}:∀{l:List Int},y∈dT l↔y∈l
 | []=>Iff.rfl
 | a::l=>by
  have ih:=aG4 (y:=y) (l:=l)
  simp only[dT]
  split
  ·rename_i h
   rw[h] at ih
   simp only[List.not_mem_nil,false_iff] at ih
   simp[ih]
  ·rename_i b r h
   rw[h] at ih
   cases hab:a==b <;> simp only[aA,aB]
   ·rw[bZ,ih,bZ]
   ·have:a=b:=by simpa using hab
    subst this
    rw[ih,bZ]
    constructor
    ·exact .inr
    ·rintro (h' | h')
     ·subst h';exact ih.1 cG
     ·exact h'
theorem aMc {l:List Int} (h:l.Pairwise (·≤·)) (hn:l.Nodup):l.Pairwise (·<·):=by
 induction l with
 | nil=>exact List.Pairwise.nil
 | cons x l ih=>
  have h1:=pH.1 h
  have h2:=List.nodup_cons.1 hn
  refine pH.2 ⟨fun y hy=>?_,ih h1.2 h2.2⟩
  have:=h1.1 y hy
  have:x≠y:=fun e=>h2.1 (by rw[e];exact hy)
  omega
theorem aLt {l:List Int} (hn:l.Nodup):(fB l).Pairwise (·<·):=
 aMc (aCu l) ((sB l).nodup_iff.2 hn)
end Go.Pli

namespace Go.Pli
open Go Go.PM
theorem aC6 {m:Im} {f g:Int}:g∈pD m f↔wD m f g=true:=by
 unfold pD wD
 simp only[pJ,fU,iE,aEh]
 constructor
 ·rintro ⟨l,⟨i,hi,rfl⟩,hg⟩;exact⟨i,hi,hg⟩
 ·rintro ⟨i,hi,hg⟩;exact⟨_,⟨i,hi,rfl⟩,hg⟩
theorem aEC {m:Im} (h:aAf m=true) {f g:Int} (hf:inM m f=true) (hc:wD m f g=true):inM m g=true:=by
 simp only[aAf,bG] at h
 exact h f (kP.2 (bS.1 hf)) g (aC6.2 hc)
theorem aOe {m:Im} {f g:Int} (hf:inM m f=true):g∈ofB m f↔wD m f g=true:=by
 unfold ofB
 rw[hf]
 simp only[aA]
 rw[aG4,aA3,aC6]
def Canon (m:Im) (S:List Int):Prop:=∃p:Int→Bool,S=(ints m.2.2.2.1.length).filter p
theorem Canon.inM {m:Im} {S:List Int} (h:Canon m S) {x:Int} (hx:x∈S):inM m x=true:=by
 obtain⟨p,rfl⟩:=h
 exact bS.2 (kP.1 (qY.1 hx).1)
theorem Canon.len {m:Im} {S:List Int} (h:Canon m S):S.length≤m.2.2.2.1.length:=by
 obtain⟨p,rfl⟩:=h
 have:=aBT p (ints m.2.2.2.1.length)
 rwa [oP] at this
theorem aRI {m:Im} (hi:cC m=true) {f:Int} (hf:inM m f=true):(pD m f).length≤512:=by
 obtain⟨h0,h1⟩:=bS.1 hf
 have hx:=(kO ((dA hi).mts _ (oL h0 h1))).2.2.2.1.1
 unfold pD
 have key:∀l:List Ins,((l.map (cP m)).flatten).length≤8*l.length:=by
  intro l
  induction l with
  | nil=>simp
  | cons i l ih=>
   have:=xA hi i
   rw[dI,fW,aW,aF]
   omega
 have:=key (aD m f).2.2.2.1
 omega
theorem aGJ:∀{a b:List Int},a.Nodup→(∀x∈a,x∈b)→a.length≤b.length
 | [],_,_,_=>dH _
 | x::a,b,ha,h=>by
  have h1:=List.nodup_cons.1 ha
  have hx:=h x cG
  have:=aGJ (a:=a) (b:=b.erase x) h1.2 fun y hy=>by
   have hyx:y≠x:=fun e=>h1.1 (by rw[←e];exact hy)
   exact (List.mem_erase_of_ne hyx).2 (h y (bO _ hy))
  rw[List.length_erase_of_mem hx] at this
  have:=List.length_pos_of_mem hx
  simp only[aF];omega
end Go.Pli

namespace Go.Pli
open Go Go.PM
structure Grow (m n:Im):Prop where
 cls:∃e,n.1=m.1++e
 statics:m.2.1.length≤n.2.1.length
 ints:m.2.2.1.length≤n.2.2.1.length
 mts:n.2.2.2.1=m.2.2.2.1
end Go.Pli

namespace Go.Pli
open Go Go.PM
theorem aOd {m:Im} {l:List Int} {n g:Int} (h:g∈pP m l n):∃c∈l,gW m c n=true∧g=(bN m c).2.2.1.getD n.toNat 0:=by
 simp only[pP,fU,qY] at h
 obtain⟨c,⟨h1,h2⟩,rfl⟩:=h
 unfold dN at h2⊢
 cases hs:gW m c n <;> simp only[hs,aA,aB] at h2⊢
 ·cases h2
 ·exact⟨c,h1,hs,rfl⟩
theorem aED {m:Im} (h:jP m=true):aAf m=true:=by
 simp only[jP,aC] at h
 obtain⟨-,hc,hm,-⟩:=h
 simp only[aAf,bG]
 intro f hf g hg
 obtain⟨h0,h1⟩:=kP.1 hf
 have hmth:=bG.1 hm _ (oL h0 h1)
 simp only[eR,aC] at hmth
 have hins:=hmth.2.2.2.2.2.2
 simp only[pD,pJ,fU] at hg
 obtain⟨l,⟨i,hi,rfl⟩,hg⟩:=hg
 have hiB:=bG.1 hins i hi
 unfold cP at hg
 cases h31:i.1==31 <;> simp only[h31,aA,aB] at hg
 ·cases h32:i.1==32 <;> simp only[h32,aA,aB] at hg
  ·cases hg
  ·obtain⟨c,hcl,hs,rfl⟩:=aOd hg
   simp only[gW,aC,aO] at hs
   obtain⟨⟨c0,c1⟩,n0,n1⟩:=hs
   have hk:i.2.2.1.toNat<(bN m c).2.2.1.length:=by omega
   have hget:(bN m c).2.2.1[i.2.2.1.toNat]? =some ((bN m c).2.2.1.getD i.2.2.1.toNat 0):=by
    rw[dX,aU hk];rfl
   have:=(rK (tF hc c0 c1) hget).1
   exact bS.2 this
 ·rw[eE] at hg
  subst hg
  have e:i.1=31:=by simpa using h31
  unfold cB at hiB
  rw[e] at hiB
  have:sin i.2.1 (m.2.2.2.1.length:Int)=true:=hiB
  exact this
end Go.Pli

namespace Go.Pli
open Go Go.PM
end Go.Pli

namespace Go.Pli
open Go Go.PM
end Go.Pli

namespace Go.Pli
open Go Go.PM
section
variable {m:Im} {l:List (List Sh)}
abbrev aRP (m:Im):List (List Bool)×Unit:=(aOj m.2.2.2.1.length (wU m),())
end
end Go.Pli
