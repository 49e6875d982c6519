/- Sorted rows of numbers, in plain Lean. -/
import Derived.Test.YtcofionghgmldaaGreatPliNt
import Derived.Test.YtcofionghgmldaaGreatPliL11
import Derived.Test.YtcofionghgmldaaGreatPliL5E
import Derived.KernelRfl
import Derived.Test.YtcofionghgmldaaGreatPliL14
namespace Go.Pli
open Go Go.PM
theorem aCR {x y:Int}:∀{l:List Int},y∈mV x l↔y=x∨y∈l
 | []=>by simp[mV]
 | z::l=>by
  simp only[mV]
  cases leI x z <;> simp only[aA,aB,bV,aCR (l:=l)]
  constructor
  ·rintro (h | h | h)
   ·exact .inr (.inl h)
   ·exact .inl h
   ·exact .inr (.inr h)
  ·rintro (h | h | h)
   ·exact .inr (.inl h)
   ·exact .inl h
   ·exact .inr (.inr h)
theorem aAN {y:Int}:∀{l:List Int},y∈eW l↔y∈l
 | []=>Iff.rfl
 | x::l=>by simp only[eW,aCR,bV,aAN (l:=l)]
theorem aF4 (x:Int):∀l:List Int,(mV x l).Perm (x::l)
 | []=> .refl _
 | z::l=>by
  simp only[mV]
  cases leI x z <;> simp only[aA,aB]
  ·exact ((aF4 x l).cons z).trans (.swap x z l)
  ·exact .refl _
theorem rO:∀l:List Int,(eW l).Perm l
 | []=> .refl _
 | x::l=>(aF4 x (eW l)).trans ((rO l).cons x)
theorem aFf (x:Int):∀{l:List Int},l.Pairwise (·≤·)→(mV x l).Pairwise (·≤·)
 | [],_=>by simp[mV]
 | z::l,h=>by
  have h1:=oW.1 h
  simp only[mV]
  cases hx:leI x z <;> simp only[aA,aB]
  ·have hz:z≤x:=by simp only[leI,pX] at hx;omega
   refine oW.2 ⟨fun y hy=>?_,aFf x h1.2⟩
   rcases aCR.1 hy with rfl | hy
   ·exact hz
   ·exact h1.1 y hy
  ·have hz:x≤z:=by simpa[leI] using hx
   refine oW.2 ⟨fun y hy=>?_,h⟩
   rcases bV.1 hy with rfl | hy
   ·exact hz
   ·exact Int.le_trans hz (h1.1 y hy)
theorem aCh:∀l:List Int,(eW l).Pairwise (·≤·)
 | []=>List.Pairwise.nil
 | x::l=>aFf x (aCh l)
theorem aFe:∀{a b:List Int},a.Pairwise (·≤·)→b.Pairwise (·≤·)→a.Perm b→a=b
 | [],b,_,_,h=>by rw[List.Perm.nil_eq h]
 | x::a,[],_,_,h=>by have:=h.length_eq;simp at this
 | x::a,y::b,ha,hb,h=>by
  have h1:=oW.1 ha
  have h2:=oW.1 hb
  have hxy:x=y:=by
   have hx:x∈y::b:=h.mem_iff.1 cW
   have hy:y∈x::a:=h.mem_iff.2 cW
   rcases bV.1 hx with hx | hx
   ·exact hx
   ·rcases bV.1 hy with hy | hy
    ·exact hy.symm
    ·exact Int.le_antisymm (h1.1 y hy) (h2.1 x hx)
  subst hxy
  rw[aFe h1.2 h2.2 (List.Perm.cons_inv h)]
theorem aK4 (l:List Int):(l.mergeSort fun x y=>decide (x≤y))=eW l:=by
 refine aFe ?_ (aCh l) ((List.mergeSort_perm l _).trans (rO l).symm)
 have:=List.pairwise_mergeSort (le:=fun x y:Int=>decide (x≤y)) (by intro a b c;simp;omega) (by intro a b;simp;omega) l
 exact this.imp (by intro a b h;simpa using h)
theorem aGL {y:Int}:∀{l:List Int},y∈dO l↔y∈l
 | []=>Iff.rfl
 | a::l=>by
  have ih:=aGL (y:=y) (l:=l)
  simp only[dO]
  split
  ·rename_i h
   rw[h] at ih
   simp only[List.not_mem_nil,false_iff] at ih
   simp[ih]
  ·rename_i b r h
   rw[h] at ih
   cases hab:a==b <;> simp only[aA,aB]
   ·rw[bV,ih,bV]
   ·have:a=b:=by simpa using hab
    subst this
    rw[ih,bV]
    constructor
    ·exact .inr
    ·rintro (h' | h')
     ·subst h';exact ih.1 cW
     ·exact h'
theorem aLK {l:List Int} (h:l.Pairwise (·≤·)) (hn:l.Nodup):l.Pairwise (·<·):=by
 induction l with
 | nil=>exact List.Pairwise.nil
 | cons x l ih=>
  have h1:=oW.1 h
  have h2:=List.nodup_cons.1 hn
  refine oW.2 ⟨fun y hy=>?_,ih h1.2 h2.2⟩
  have:=h1.1 y hy
  have:x≠y:=fun e=>h2.1 (by rw[e];exact hy)
  omega
theorem aK3 {l:List Int} (hn:l.Nodup):(eW l).Pairwise (·<·):=
 aLK (aCh l) ((rO l).nodup_iff.2 hn)
end Go.Pli

namespace Go.Pli
open Go Go.PM
theorem aCS {m:Im} {f g:Int}:g∈oS m f↔vP m f g=true:=by
 unfold oS vP
 simp only[oY,gF,iM,aD3]
 constructor
 ·rintro ⟨l,⟨i,hi,rfl⟩,hg⟩;exact⟨i,hi,hg⟩
 ·rintro ⟨i,hi,hg⟩;exact⟨_,⟨i,hi,rfl⟩,hg⟩
theorem aEo {m:Im} (h:zP m=true) {f g:Int} (hf:inM m f=true) (hc:vP m f g=true):inM m g=true:=by
 simp only[zP,bI] at h
 exact h f (pN.2 (cC.1 hf)) g (aCS.2 hc)
theorem aNL {m:Im} {f g:Int} (hf:inM m f=true):g∈ofB m f↔vP m f g=true:=by
 unfold ofB
 rw[hf]
 simp only[aA]
 rw[aGL,aAN,aCS]
def Canon (m:Im) (S:List Int):Prop:=∃p:Int→Bool,S=(ints m.2.2.2.1.length).filter p
theorem Canon.inM {m:Im} {S:List Int} (h:Canon m S) {x:Int} (hx:x∈S):inM m x=true:=by
 obtain⟨p,rfl⟩:=h
 exact cC.2 (pN.1 (qL.1 hx).1)
theorem Canon.len {m:Im} {S:List Int} (h:Canon m S):S.length≤m.2.2.2.1.length:=by
 obtain⟨p,rfl⟩:=h
 have:=aBF p (ints m.2.2.2.1.length)
 rwa [vA] at this
theorem aRc {m:Im} (hi:bX m=true) {f:Int} (hf:inM m f=true):(oS m f).length≤512:=by
 obtain⟨h0,h1⟩:=cC.1 hf
 have hx:=(mP ((dG hi).mts _ (rT h0 h1))).2.2.2.1.1
 unfold oS
 have key:∀l:List Ins,((l.map (cN m)).flatten).length≤8*l.length:=by
  intro l
  induction l with
  | nil=>simp
  | cons i l ih=>
   have:=wN hi i
   rw[dK,gK,aW,aF]
   omega
 have:=key (aD m f).2.2.2.1
 omega
theorem aGq:∀{a b:List Int},a.Nodup→(∀x∈a,x∈b)→a.length≤b.length
 | [],_,_,_=>dF _
 | x::a,b,ha,h=>by
  have h1:=List.nodup_cons.1 ha
  have hx:=h x cW
  have:=aGq (a:=a) (b:=b.erase x) h1.2 fun y hy=>by
   have hyx:y≠x:=fun e=>h1.1 (by rw[←e];exact hy)
   exact (List.mem_erase_of_ne hyx).2 (h y (bZ _ hy))
  rw[List.length_erase_of_mem hx] at this
  have:=List.length_pos_of_mem hx
  simp only[aF];omega
end Go.Pli

namespace Go.Pli
open Go Go.PM
structure Grow (m n:Im):Prop where
 cls:∃e,n.1=m.1++e
 statics:m.2.1.length≤n.2.1.length
 ints:m.2.2.1.length≤n.2.2.1.length
 mts:n.2.2.2.1=m.2.2.2.1
end Go.Pli

namespace Go.Pli
open Go Go.PM
theorem aNK {m:Im} {l:List Int} {n g:Int} (h:g∈pE m l n):∃c∈l,gR m c n=true∧g=(bP m c).2.2.1.getD n.toNat 0:=by
 simp only[pE,gF,qL] at h
 obtain⟨c,⟨h1,h2⟩,rfl⟩:=h
 unfold dJ at h2⊢
 cases hs:gR m c n <;> simp only[hs,aA,aB] at h2⊢
 ·cases h2
 ·exact⟨c,h1,hs,rfl⟩
theorem aEq {m:Im} (h:jM m=true):zP m=true:=by
 simp only[jM,aC] at h
 obtain⟨-,hc,hm,-⟩:=h
 simp only[zP,bI]
 intro f hf g hg
 obtain⟨h0,h1⟩:=pN.1 hf
 have hmth:=bI.1 hm _ (rT h0 h1)
 simp only[eR,aC] at hmth
 have hins:=hmth.2.2.2.2.2.2
 simp only[oS,oY,gF] at hg
 obtain⟨l,⟨i,hi,rfl⟩,hg⟩:=hg
 have hiB:=bI.1 hins i hi
 unfold cN at hg
 cases h31:i.1==31 <;> simp only[h31,aA,aB] at hg
 ·cases h32:i.1==32 <;> simp only[h32,aA,aB] at hg
  ·cases hg
  ·obtain⟨c,hcl,hs,rfl⟩:=aNK hg
   simp only[gR,aC,aQ] at hs
   obtain⟨⟨c0,c1⟩,n0,n1⟩:=hs
   have hk:i.2.2.1.toNat<(bP m c).2.2.1.length:=by omega
   have hget:(bP m c).2.2.1[i.2.2.1.toNat]? =some ((bP m c).2.2.1.getD i.2.2.1.toNat 0):=by
    rw[dX,aV hk];rfl
   have:=(qW (sR hc c0 c1) hget).1
   exact cC.2 this
 ·rw[dY] at hg
  subst hg
  have e:i.1=31:=by simpa using h31
  unfold bW at hiB
  rw[e] at hiB
  have:sin i.2.1 (m.2.2.2.1.length:Int)=true:=hiB
  exact this
end Go.Pli

namespace Go.Pli
open Go Go.PM
end Go.Pli

namespace Go.Pli
open Go Go.PM
end Go.Pli

namespace Go.Pli
open Go Go.PM
section
variable {m:Im} {l:List (List Sh)}
abbrev aRj (m:Im):List (List Bool)×Unit:=(aNO m.2.2.2.1.length (wH m),())
end
end Go.Pli
