/- Sorted rows of numbers, in plain Lean. -/
import Derived.Test.YtjgocfgkmcopgaaPliSpec11
namespace Go.Pli
open Go Go.PM

theorem mem_insI {x y : Int} : ∀ {l : List Int}, y ∈ insI x l ↔ y = x ∨ y ∈ l
  | [] => by simp [insI]
  | z :: l => by
    simp only [insI]
    cases leI x z <;> simp only [cond_true, cond_false, List.mem_cons, mem_insI (l := l)]
    constructor
    · rintro (h | h | h)
      · exact .inr (.inl h)
      · exact .inl h
      · exact .inr (.inr h)
    · rintro (h | h | h)
      · exact .inr (.inl h)
      · exact .inl h
      · exact .inr (.inr h)

theorem mem_sortL {y : Int} : ∀ {l : List Int}, y ∈ sortL l ↔ y ∈ l
  | [] => Iff.rfl
  | x :: l => by simp only [sortL, mem_insI, List.mem_cons, mem_sortL (l := l)]

theorem perm_insI (x : Int) : ∀ l : List Int, (insI x l).Perm (x :: l)
  | [] => .refl _
  | z :: l => by
    simp only [insI]
    cases leI x z <;> simp only [cond_true, cond_false]
    · exact ((perm_insI x l).cons z).trans (.swap x z l)
    · exact .refl _

theorem perm_sortL : ∀ l : List Int, (sortL l).Perm l
  | [] => .refl _
  | x :: l => (perm_insI x (sortL l)).trans ((perm_sortL l).cons x)

theorem rising_insI (x : Int) : ∀ {l : List Int}, l.Pairwise (· ≤ ·) → (insI x l).Pairwise (· ≤ ·)
  | [], _ => by simp [insI]
  | z :: l, h => by
    have h1 := List.pairwise_cons.1 h
    simp only [insI]
    cases hx : leI x z <;> simp only [cond_true, cond_false]
    · have hz : z ≤ x := by simp only [leI, decide_eq_false_iff_not] at hx; omega
      refine List.pairwise_cons.2 ⟨fun y hy => ?_, rising_insI x h1.2⟩
      rcases mem_insI.1 hy with rfl | hy
      · exact hz
      · exact h1.1 y hy
    · have hz : x ≤ z := by simpa [leI] using hx
      refine List.pairwise_cons.2 ⟨fun y hy => ?_, h⟩
      rcases List.mem_cons.1 hy with rfl | hy
      · exact hz
      · exact Int.le_trans hz (h1.1 y hy)

theorem rising_sortL : ∀ l : List Int, (sortL l).Pairwise (· ≤ ·)
  | [] => List.Pairwise.nil
  | x :: l => rising_insI x (rising_sortL l)

/-- Two rising rows of the same numbers are one. -/
theorem rising_perm : ∀ {a b : List Int}, a.Pairwise (· ≤ ·) → b.Pairwise (· ≤ ·) → a.Perm b → a = b
  | [], b, _, _, h => by rw [List.Perm.nil_eq h]
  | x :: a, [], _, _, h => by have := h.length_eq; simp at this
  | x :: a, y :: b, ha, hb, h => by
    have h1 := List.pairwise_cons.1 ha
    have h2 := List.pairwise_cons.1 hb
    have hxy : x = y := by
      have hx : x ∈ y :: b := h.mem_iff.1 List.mem_cons_self
      have hy : y ∈ x :: a := h.mem_iff.2 List.mem_cons_self
      rcases List.mem_cons.1 hx with hx | hx
      · exact hx
      · rcases List.mem_cons.1 hy with hy | hy
        · exact hy.symm
        · exact Int.le_antisymm (h1.1 y hy) (h2.1 x hx)
    subst hxy
    rw [rising_perm h1.2 h2.2 (List.Perm.cons_inv h)]

theorem sortL_perm {a b : List Int} (h : a.Perm b) : sortL a = sortL b :=
  rising_perm (rising_sortL a) (rising_sortL b) ((perm_sortL a).trans (h.trans (perm_sortL b).symm))

theorem sortL_merge (l : List Int) : (l.mergeSort fun x y => decide (x ≤ y)) = sortL l := by
  refine rising_perm ?_ (rising_sortL l) ((List.mergeSort_perm l _).trans (perm_sortL l).symm)
  have := List.pairwise_mergeSort (le := fun x y : Int => decide (x ≤ y)) (by intro a b c; simp; omega) (by intro a b; simp; omega) l
  exact this.imp (by intro a b h; simpa using h)

/-! ### runs of the same -/
theorem mem_compactI {y : Int} : ∀ {l : List Int}, y ∈ compactI l ↔ y ∈ l
  | [] => Iff.rfl
  | a :: l => by
    have ih := mem_compactI (y := y) (l := l)
    simp only [compactI]
    split
    · rename_i h
      rw [h] at ih
      simp only [List.not_mem_nil, false_iff] at ih
      simp [ih]
    · rename_i b r h
      rw [h] at ih
      cases hab : a == b <;> simp only [cond_true, cond_false]
      · rw [List.mem_cons, ih, List.mem_cons]
      · have : a = b := by simpa using hab
        subst this
        rw [ih, List.mem_cons]
        constructor
        · exact .inr
        · rintro (h' | h')
          · subst h'; exact ih.1 List.mem_cons_self
          · exact h'

theorem strict_compactI : ∀ {l : List Int}, l.Pairwise (· ≤ ·) → (compactI l).Pairwise (· < ·)
  | [], _ => List.Pairwise.nil
  | a :: l, h => by
    have h1 := List.pairwise_cons.1 h
    have ih := strict_compactI h1.2
    simp only [compactI]
    split
    · simp
    · rename_i b r hc
      rw [hc] at ih
      have hmem : ∀ y, y ∈ b :: r → y ∈ l := fun y hy => mem_compactI.1 (by rw [hc]; exact hy)
      cases hab : a == b <;> simp only [cond_true, cond_false]
      · have hne : a ≠ b := by simpa using hab
        have hle := h1.1 b (hmem b List.mem_cons_self)
        refine List.pairwise_cons.2 ⟨fun y hy => ?_, ih⟩
        rcases List.mem_cons.1 hy with rfl | hy'
        · omega
        · have := (List.pairwise_cons.1 ih).1 y hy'
          omega
      · exact ih

theorem strict_ext : ∀ {a b : List Int}, a.Pairwise (· < ·) → b.Pairwise (· < ·) → (∀ x, x ∈ a ↔ x ∈ b) → a = b
  | [], [], _, _, _ => rfl
  | [], y :: b, _, _, h => by have := (h y).2 List.mem_cons_self; simp at this
  | x :: a, [], _, _, h => by have := (h x).1 List.mem_cons_self; simp at this
  | x :: a, y :: b, ha, hb, h => by
    have h1 := List.pairwise_cons.1 ha
    have h2 := List.pairwise_cons.1 hb
    have hxy : x = y := by
      rcases List.mem_cons.1 ((h x).1 List.mem_cons_self) with hx | hx
      · exact hx
      · rcases List.mem_cons.1 ((h y).2 List.mem_cons_self) with hy | hy
        · exact hy.symm
        · have := h1.1 y hy; have := h2.1 x hx; omega
    subst hxy
    rw [strict_ext h1.2 h2.2 fun z => ?_]
    constructor
    · intro hz
      rcases List.mem_cons.1 ((h z).1 (List.mem_cons_of_mem _ hz)) with rfl | hz'
      · have := h1.1 z hz; omega
      · exact hz'
    · intro hz
      rcases List.mem_cons.1 ((h z).2 (List.mem_cons_of_mem _ hz)) with rfl | hz'
      · have := h2.1 z hz; omega
      · exact hz'

theorem strict_ints (n : Nat) : (ints n).Pairwise (· < ·) := by
  unfold ints
  rw [List.pairwise_map]
  exact List.pairwise_lt_range.imp (by intro a b h; omega)

theorem rising_strict {l : List Int} (h : l.Pairwise (· ≤ ·)) (hn : l.Nodup) : l.Pairwise (· < ·) := by
  induction l with
  | nil => exact List.Pairwise.nil
  | cons x l ih =>
    have h1 := List.pairwise_cons.1 h
    have h2 := List.nodup_cons.1 hn
    refine List.pairwise_cons.2 ⟨fun y hy => ?_, ih h1.2 h2.2⟩
    have := h1.1 y hy
    have : x ≠ y := fun e => h2.1 (by rw [e]; exact hy)
    omega

theorem sortL_strict {l : List Int} (hn : l.Nodup) : (sortL l).Pairwise (· < ·) :=
  rising_strict (rising_sortL l) ((perm_sortL l).nodup_iff.2 hn)

end Go.Pli
