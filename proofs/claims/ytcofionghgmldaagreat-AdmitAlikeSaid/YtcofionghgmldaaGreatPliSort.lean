/- Sorted rows of numbers, in plain Lean. -/
import Derived.Test.YtcofionghgmldaaGreatPliNt
namespace Go.Pli
open Go Go.PM
theorem mem_insI {x y : Int} : ∀ {l : List Int}, y ∈ insI x l ↔ y = x ∨ y ∈ l
 | [] => by simp [insI]
 | z :: l => by
  simp only [insI]
  cases leI x z <;> simp only [cond_true, cond_false, List.mem_cons, mem_insI (l := l)]
  constructor
  ·rintro (h | h | h)
   ·exact .inr (.inl h)
   ·exact .inl h
   ·exact .inr (.inr h)
  ·rintro (h | h | h)
   ·exact .inr (.inl h)
   ·exact .inl h
   ·exact .inr (.inr h)
theorem mem_sortL {y : Int} : ∀ {l : List Int}, y ∈ sortL l ↔ y ∈ l
 | [] => Iff.rfl
 | x :: l => by simp only [sortL, mem_insI, List.mem_cons, mem_sortL (l := l)]
theorem perm_insI (x : Int) : ∀ l : List Int, (insI x l).Perm (x :: l)
 | [] => .refl _
 | z :: l => by
  simp only [insI]
  cases leI x z <;> simp only [cond_true, cond_false]
  ·exact ((perm_insI x l).cons z).trans (.swap x z l)
  ·exact .refl _
theorem perm_sortL : ∀ l : List Int, (sortL l).Perm l
 | [] => .refl _
 | x :: l => (perm_insI x (sortL l)).trans ((perm_sortL l).cons x)
theorem rising_insI (x : Int) : ∀ {l : List Int}, l.Pairwise (· ≤ ·) → (insI x l).Pairwise (· ≤ ·)
 | [], _ => by simp [insI]
 | z :: l, h => by
  have h1 := List.pairwise_cons.1 h
  simp only [insI]
  cases hx : leI x z <;> simp only [cond_true, cond_false]
  ·have hz : z ≤ x := by simp only [leI, decide_eq_false_iff_not] at hx; omega
   refine List.pairwise_cons.2 ⟨fun y hy => ?_, rising_insI x h1.2⟩
   rcases mem_insI.1 hy with rfl | hy
   ·exact hz
   ·exact h1.1 y hy
  ·have hz : x ≤ z := by simpa [leI] using hx
   refine List.pairwise_cons.2 ⟨fun y hy => ?_, h⟩
   rcases List.mem_cons.1 hy with rfl | hy
   ·exact hz
   ·exact Int.le_trans hz (h1.1 y hy)
theorem rising_sortL : ∀ l : List Int, (sortL l).Pairwise (· ≤ ·)
 | [] => List.Pairwise.nil
 | x :: l => rising_insI x (rising_sortL l)
theorem rising_perm : ∀ {a b : List Int}, a.Pairwise (· ≤ ·) → b.Pairwise (· ≤ ·) → a.Perm b → a = b
 | [], b, _, _, h => by rw [List.Perm.nil_eq h]
 | x :: a, [], _, _, h => by have := h.length_eq; simp at this
 | x :: a, y :: b, ha, hb, h => by
  have h1 := List.pairwise_cons.1 ha
  have h2 := List.pairwise_cons.1 hb
  have hxy : x = y := by
   have hx : x ∈ y :: b := h.mem_iff.1 List.mem_cons_self
   have hy : y ∈ x :: a := h.mem_iff.2 List.mem_cons_self
   rcases List.mem_cons.1 hx with hx | hx
   ·exact hx
   ·rcases List.mem_cons.1 hy with hy | hy
    ·exact hy.symm
    ·exact Int.le_antisymm (h1.1 y hy) (h2.1 x hx)
  subst hxy
  rw [rising_perm h1.2 h2.2 (List.Perm.cons_inv h)]
theorem sortL_merge (l : List Int) : (l.mergeSort fun x y => decide (x ≤ y)) = sortL l := by
 refine rising_perm ?_ (rising_sortL l) ((List.mergeSort_perm l _).trans (perm_sortL l).symm)
 have := List.pairwise_mergeSort (le := fun x y : Int => decide (x ≤ y)) (by intro a b c; simp; omega) (by intro a b; simp; omega) l
 exact this.imp (by intro a b h; simpa using h)
theorem mem_compactI {y : Int} : ∀ {l : List Int}, y ∈ compactI l ↔ y ∈ l
 | [] => Iff.rfl
 | a :: l => by
  have ih := mem_compactI (y := y) (l := l)
  simp only [compactI]
  split
  ·rename_i h
   rw [h] at ih
   simp only [List.not_mem_nil, false_iff] at ih
   simp [ih]
  ·rename_i b r h
   rw [h] at ih
   cases hab : a == b <;> simp only [cond_true, cond_false]
   ·rw [List.mem_cons, ih, List.mem_cons]
   ·have : a = b := by simpa using hab
    subst this
    rw [ih, List.mem_cons]
    constructor
    ·exact .inr
    ·rintro (h' | h')
     ·subst h'; exact ih.1 List.mem_cons_self
     ·exact h'
end Go.Pli
