/- Sorted rows of numbers, in plain Lean. -/
import Derived.Test.YtcofionghgmldaaGreatPliNt
import Derived.Test.YtcofionghgmldaaGreatPliL11
import Derived.Test.YtcofionghgmldaaGreatPliL5E
import Derived.KernelRfl
import Derived.Test.YtcofionghgmldaaGreatPliL14
namespace Go.Pli
open Go Go.PM
theorem aC2 {x y:Int}:∀{l:List Int},y∈mY x l↔y=x∨y∈l
 | []=>by simp[mY]
 | z::l=>by
  simp only[mY]
  cases leI x z <;> simp only[aA,aB,bW,aC2 (l:=l)]
  constructor
  ·rintro (h | h | h)
   ·exact .inr (.inl h)
   ·exact .inl h
   ·exact .inr (.inr h)
  ·rintro (h | h | h)
   ·exact .inr (.inl h)
   ·exact .inl h
   ·exact .inr (.inr h)
theorem aAT {y:Int}:∀{l:List Int},y∈eZ l↔y∈l
 | []=>Iff.rfl
 | x::l=>by simp only[eZ,aC2,bW,aAT (l:=l)]
theorem aGj (x:Int):∀l:List Int,(mY x l).Perm (x::l)
 | []=> .refl _
 | z::l=>by
  simp only[mY]
  cases leI x z <;> simp only[aA,aB]
  ·exact ((aGj x l).cons z).trans (.swap x z l)
  ·exact .refl _
theorem rS:∀l:List Int,(eZ l).Perm l
 | []=> .refl _
 | x::l=>(aGj x (eZ l)).trans ((rS l).cons x)
theorem aFt (x:Int):∀{l:List Int},l.Pairwise (·≤·)→(mY x l).Pairwise (·≤·)
 | [],_=>by simp[mY]
 | z::l,h=>by
  have h1:=pD.1 h
  simp only[mY]
  cases hx:leI x z <;> simp only[aA,aB]
  ·have hz:z≤x:=by simp only[leI,qG] at hx;omega
   refine pD.2 ⟨fun y hy=>?_,aFt x h1.2⟩
   rcases aC2.1 hy with rfl | hy
   ·exact hz
   ·exact h1.1 y hy
  ·have hz:x≤z:=by simpa[leI] using hx
   refine pD.2 ⟨fun y hy=>?_,h⟩
   rcases bW.1 hy with rfl | hy
   ·exact hz
   ·exact Int.le_trans hz (h1.1 y hy)
theorem aCp:∀l:List Int,(eZ l).Pairwise (·≤·)
 | []=>List.Pairwise.nil
 | x::l=>aFt x (aCp l)
theorem aFs:∀{a b:List Int},a.Pairwise (·≤·)→b.Pairwise (·≤·)→a.Perm b→a=b
 | [],b,_,_,h=>by rw[List.Perm.nil_eq h]
 | x::a,[],_,_,h=>by have:=h.length_eq;simp at this
 | x::a,y::b,ha,hb,h=>by
  have h1:=pD.1 ha
  have h2:=pD.1 hb
  have hxy:x=y:=by
   have hx:x∈y::b:=h.mem_iff.1 cY
   have hy:y∈x::a:=h.mem_iff.2 cY
   rcases bW.1 hx with hx | hx
   ·exact hx
   ·rcases bW.1 hy with hy | hy
    ·exact hy.symm
    ·exact Int.le_antisymm (h1.1 y hy) (h2.1 x hx)
  subst hxy
  rw[aFs h1.2 h2.2 (List.Perm.cons_inv h)]
theorem aLj (l:List Int):(l.mergeSort fun x y=>decide (x≤y))=eZ l:=by
 refine aFs ?_ (aCp l) ((List.mergeSort_perm l _).trans (rS l).symm)
 have:=List.pairwise_mergeSort (le:=fun x y:Int=>decide (x≤y)) (by intro a b c;simp;omega) (by intro a b;simp;omega) l
 exact this.imp (by intro a b h;simpa using h)
theorem aG0 {y:Int}:∀{l:List Int},y∈dP l↔y∈l
 | []=>Iff.rfl
 | a::l=>by
  have ih:=aG0 (y:=y) (l:=l)
  simp only[dP]
  split
  ·rename_i h
   rw[h] at ih
   simp only[List.not_mem_nil,false_iff] at ih
   simp[ih]
  ·rename_i b r h
   rw[h] at ih
   cases hab:a==b <;> simp only[aA,aB]
   ·rw[bW,ih,bW]
   ·have:a=b:=by simpa using hab
    subst this
    rw[ih,bW]
    constructor
    ·exact .inr
    ·rintro (h' | h')
     ·subst h';exact ih.1 cY
     ·exact h'
theorem aL3 {l:List Int} (h:l.Pairwise (·≤·)) (hn:l.Nodup):l.Pairwise (·<·):=by
 induction l with
 | nil=>exact List.Pairwise.nil
 | cons x l ih=>
  have h1:=pD.1 h
  have h2:=List.nodup_cons.1 hn
  refine pD.2 ⟨fun y hy=>?_,ih h1.2 h2.2⟩
  have:=h1.1 y hy
  have:x≠y:=fun e=>h2.1 (by rw[e];exact hy)
  omega
theorem aLi {l:List Int} (hn:l.Nodup):(eZ l).Pairwise (·<·):=
 aL3 (aCp l) ((rS l).nodup_iff.2 hn)
end Go.Pli

namespace Go.Pli
open Go Go.PM
theorem aC3 {m:Im} {f g:Int}:g∈oY m f↔vW m f g=true:=by
 unfold oY vW
 simp only[nP,fJ,iP,aEg]
 constructor
 ·rintro ⟨l,⟨i,hi,rfl⟩,hg⟩;exact⟨i,hi,hg⟩
 ·rintro ⟨i,hi,hg⟩;exact⟨_,⟨i,hi,rfl⟩,hg⟩
theorem aED {m:Im} (h:zX m=true) {f g:Int} (hf:inM m f=true) (hc:vW m f g=true):inM m g=true:=by
 simp only[zX,bL] at h
 exact h f (pW.2 (cA.1 hf)) g (aC3.2 hc)
theorem aOb {m:Im} {f g:Int} (hf:inM m f=true):g∈ofB m f↔vW m f g=true:=by
 unfold ofB
 rw[hf]
 simp only[aA]
 rw[aG0,aAT,aC3]
def Canon (m:Im) (S:List Int):Prop:=∃p:Int→Bool,S=(ints m.2.2.2.1.length).filter p
theorem Canon.inM {m:Im} {S:List Int} (h:Canon m S) {x:Int} (hx:x∈S):inM m x=true:=by
 obtain⟨p,rfl⟩:=h
 exact cA.2 (pW.1 (qS.1 hx).1)
theorem Canon.len {m:Im} {S:List Int} (h:Canon m S):S.length≤m.2.2.2.1.length:=by
 obtain⟨p,rfl⟩:=h
 have:=aBL p (ints m.2.2.2.1.length)
 rwa [vH] at this
theorem aRD {m:Im} (hi:cB m=true) {f:Int} (hf:inM m f=true):(oY m f).length≤512:=by
 obtain⟨h0,h1⟩:=cA.1 hf
 have hx:=(mS ((dI hi).mts _ (rX h0 h1))).2.2.2.1.1
 unfold oY
 have key:∀l:List Ins,((l.map (cO m)).flatten).length≤8*l.length:=by
  intro l
  induction l with
  | nil=>simp
  | cons i l ih=>
   have:=wU hi i
   rw[dH,fV,aV,aF]
   omega
 have:=key (aD m f).2.2.2.1
 omega
theorem aGF:∀{a b:List Int},a.Nodup→(∀x∈a,x∈b)→a.length≤b.length
 | [],_,_,_=>dG _
 | x::a,b,ha,h=>by
  have h1:=List.nodup_cons.1 ha
  have hx:=h x cY
  have:=aGF (a:=a) (b:=b.erase x) h1.2 fun y hy=>by
   have hyx:y≠x:=fun e=>h1.1 (by rw[←e];exact hy)
   exact (List.mem_erase_of_ne hyx).2 (h y (cD _ hy))
  rw[List.length_erase_of_mem hx] at this
  have:=List.length_pos_of_mem hx
  simp only[aF];omega
end Go.Pli

namespace Go.Pli
open Go Go.PM
structure Grow (m n:Im):Prop where
 cls:∃e,n.1=m.1++e
 statics:m.2.1.length≤n.2.1.length
 ints:m.2.2.1.length≤n.2.2.1.length
 mts:n.2.2.2.1=m.2.2.2.1
end Go.Pli

namespace Go.Pli
open Go Go.PM
theorem aOa {m:Im} {l:List Int} {n g:Int} (h:g∈pL m l n):∃c∈l,gX m c n=true∧g=(bQ m c).2.2.1.getD n.toNat 0:=by
 simp only[pL,fJ,qS] at h
 obtain⟨c,⟨h1,h2⟩,rfl⟩:=h
 unfold dL at h2⊢
 cases hs:gX m c n <;> simp only[hs,aA,aB] at h2⊢
 ·cases h2
 ·exact⟨c,h1,hs,rfl⟩
theorem aEF {m:Im} (h:jO m=true):zX m=true:=by
 simp only[jO,aC] at h
 obtain⟨-,hc,hm,-⟩:=h
 simp only[zX,bL]
 intro f hf g hg
 obtain⟨h0,h1⟩:=pW.1 hf
 have hmth:=bL.1 hm _ (rX h0 h1)
 simp only[eU,aC] at hmth
 have hins:=hmth.2.2.2.2.2.2
 simp only[oY,nP,fJ] at hg
 obtain⟨l,⟨i,hi,rfl⟩,hg⟩:=hg
 have hiB:=bL.1 hins i hi
 unfold cO at hg
 cases h31:i.1==31 <;> simp only[h31,aA,aB] at hg
 ·cases h32:i.1==32 <;> simp only[h32,aA,aB] at hg
  ·cases hg
  ·obtain⟨c,hcl,hs,rfl⟩:=aOa hg
   simp only[gX,aC,aP] at hs
   obtain⟨⟨c0,c1⟩,n0,n1⟩:=hs
   have hk:i.2.2.1.toNat<(bQ m c).2.2.1.length:=by omega
   have hget:(bQ m c).2.2.1[i.2.2.1.toNat]? =some ((bQ m c).2.2.1.getD i.2.2.1.toNat 0):=by
    rw[dZ,aW hk];rfl
   have:=(rC (sV hc c0 c1) hget).1
   exact cA.2 this
 ·rw[dY] at hg
  subst hg
  have e:i.1=31:=by simpa using h31
  unfold bZ at hiB
  rw[e] at hiB
  have:sin i.2.1 (m.2.2.2.1.length:Int)=true:=hiB
  exact this
end Go.Pli

namespace Go.Pli
open Go Go.PM
end Go.Pli

namespace Go.Pli
open Go Go.PM
end Go.Pli

namespace Go.Pli
open Go Go.PM
section
variable {m:Im} {l:List (List Sh)}
abbrev aRK (m:Im):List (List Bool)×Unit:=(aOe m.2.2.2.1.length (wO m),())
end
end Go.Pli
