/- Loops over rows, in plain Lean. -/
import Derived.Test.YtjgocfgkmcopgaaPMDefs
import Derived.Laws.BitsLemmas
namespace Go.Pli
open Go Go.PM

theorem w64' {n : Int} (h0 : -9223372036854775808 ≤ n) (h1 : n < 9223372036854775808) : IntKind.i64.wrap n = n := by
  rw [IntKind.wrap_i64]; omega

theorem wsucc {k n : Nat} (h : k < n) (hn : n ≤ lenMax) : IntKind.i64.wrap ((k : Int) + 1) = ((k + 1 : Nat) : Int) := by
  simp only [lenMax] at hn
  rw [w64'] <;> omega

theorem dlt {k n : Nat} (h : k < n) : decide ((k : Int) < (n : Int)) = true := decide_eq_true (by omega)
theorem dnlt (n : Nat) : decide ((n : Int) < (n : Int)) = false := decide_eq_false (by omega)
theorem dge (k : Nat) : decide (0 ≤ (k : Int)) = true := decide_eq_true (by omega)
theorem dge0 (k : Nat) : decide ((k : Int) ≥ 0) = true := decide_eq_true (by omega)

/-- A row run through from its head: each element goes on with another state, or ends it. -/
def foldX {α β R : Type} (f : Nat → α → β → Option (β ⊕ R)) (fin : β → Option R) : Nat → List α → β → Option R
  | _, [], b => fin b
  | k, x :: l, b => match f k x b with
    | none => none
    | some (.inl b') => foldX f fin (k + 1) l b'
    | some (.inr r) => some r

theorem loopF_step {S R : Type} (L : S → (S → Option R) → Option R) (n : Nat) (s : S) : loopF L (n + 1) s = L s (loopF L n) := rfl

theorem loop_foldX {α β σ R : Type} {L : σ → (σ → Option R) → Option R} {xs : List α} {st : Nat → β → σ} {f : Nat → α → β → Option (β ⊕ R)} {fin : β → Option R}
    (h1 : ∀ (k : Nat) (x : α) (b : β) (rec), xs[k]? = some x → k < xs.length → L (st k b) rec = match f k x b with
      | none => none
      | some (.inl b') => rec (st (k + 1) b')
      | some (.inr r) => some r)
    (h2 : ∀ b rec, L (st xs.length b) rec = fin b) : ∀ (F : Nat) (b : β), xs.length < F → loopF L F (st 0 b) = foldX f fin 0 xs b := by
  have key : ∀ (l pre : List α) (F : Nat) (b : β), xs = pre ++ l → l.length < F → loopF L F (st pre.length b) = foldX f fin pre.length l b := by
    intro l
    induction l with
    | nil =>
      intro pre F b hx hF
      obtain ⟨F, rfl⟩ : ∃ n, F = n + 1 := ⟨F - 1, by simp at hF; omega⟩
      rw [List.append_nil] at hx
      subst hx
      rw [loopF_step, h2]
      rfl
    | cons x l ih =>
      intro pre F b hx hF
      obtain ⟨F, rfl⟩ : ∃ n, F = n + 1 := ⟨F - 1, by simp at hF; omega⟩
      have hk : xs[pre.length]? = some x := by rw [hx]; simp
      have hl : pre.length < xs.length := by rw [hx]; simp
      rw [loopF_step, h1 pre.length x b _ hk hl]
      simp only [foldX]
      cases f pre.length x b with
      | none => rfl
      | some q =>
        cases q with
        | inl b' =>
          have := ih (pre ++ [x]) F b' (by rw [hx]; simp) (by simp only [List.length_cons] at hF; omega)
          simpa using this
        | inr r => rfl
  intro F b hF
  exact key xs [] F b rfl hF

/-- All of a row. -/
theorem loop_all {α σ R : Type} {L : σ → (σ → Option R) → Option R} {xs : List α} {st : Nat → σ} {p : α → Bool} {ex fin : Option R}
    (h1 : ∀ (k : Nat) (x : α) (rec), xs[k]? = some x → k < xs.length → L (st k) rec = bif p x then rec (st (k + 1)) else ex)
    (h2 : ∀ rec, L (st xs.length) rec = fin) : ∀ F : Nat, xs.length < F → loopF L F (st 0) = bif xs.all p then fin else ex := by
  have key : ∀ (l pre : List α) (F : Nat), xs = pre ++ l → l.length < F → loopF L F (st pre.length) = bif l.all p then fin else ex := by
    intro l
    induction l with
    | nil =>
      intro pre F hx hF
      obtain ⟨F, rfl⟩ : ∃ n, F = n + 1 := ⟨F - 1, by simp at hF; omega⟩
      rw [List.append_nil] at hx
      subst hx
      rw [loopF_step, h2]
      rfl
    | cons x l ih =>
      intro pre F hx hF
      obtain ⟨F, rfl⟩ : ∃ n, F = n + 1 := ⟨F - 1, by simp at hF; omega⟩
      have hk : xs[pre.length]? = some x := by rw [hx]; simp
      have hl : pre.length < xs.length := by rw [hx]; simp
      rw [loopF_step, h1 pre.length x _ hk hl]
      have := ih (pre ++ [x]) F (by rw [hx]; simp) (by simp only [List.length_cons] at hF; omega)
      simp only [List.length_append, List.length_cons, List.length_nil, Nat.zero_add] at this
      rw [this, List.all_cons]
      cases p x <;> rfl
  intro F hF
  exact key xs [] F rfl hF

/-- All of a row, by a test that may fail; k: the element's place. -/
def allO {α : Type} (p : Nat → α → Option Bool) : Nat → List α → Option Bool
  | _, [] => some true
  | k, x :: l => match p k x with
    | none => none
    | some true => allO p (k + 1) l
    | some false => some false

theorem loop_allO {α σ R : Type} {L : σ → (σ → Option R) → Option R} {xs : List α} {st : Nat → σ} {p : Nat → α → Option Bool} {ex fin : Option R}
    (h1 : ∀ (k : Nat) (x : α) (rec), xs[k]? = some x → k < xs.length → L (st k) rec = (p k x).bind fun q => bif q then rec (st (k + 1)) else ex)
    (h2 : ∀ rec, L (st xs.length) rec = fin) : ∀ F : Nat, xs.length < F → loopF L F (st 0) = (allO p 0 xs).bind fun q => bif q then fin else ex := by
  have key : ∀ (l pre : List α) (F : Nat), xs = pre ++ l → l.length < F → loopF L F (st pre.length) = (allO p pre.length l).bind fun q => bif q then fin else ex := by
    intro l
    induction l with
    | nil =>
      intro pre F hx hF
      obtain ⟨F, rfl⟩ : ∃ n, F = n + 1 := ⟨F - 1, by simp at hF; omega⟩
      rw [List.append_nil] at hx
      subst hx
      rw [loopF_step, h2]
      rfl
    | cons x l ih =>
      intro pre F hx hF
      obtain ⟨F, rfl⟩ : ∃ n, F = n + 1 := ⟨F - 1, by simp at hF; omega⟩
      have hk : xs[pre.length]? = some x := by rw [hx]; simp
      have hl : pre.length < xs.length := by rw [hx]; simp
      rw [loopF_step, h1 pre.length x _ hk hl]
      have := ih (pre ++ [x]) F (by rw [hx]; simp) (by simp only [List.length_cons] at hF; omega)
      simp only [List.length_append, List.length_cons, List.length_nil, Nat.zero_add] at this
      simp only [allO]
      cases p pre.length x with
      | none => rfl
      | some q => cases q <;> simp [this]
  intro F hF
  exact key xs [] F rfl hF

/-- Where in a row the first such stands; below 0: none does. -/
def indexF {α : Type} (p : α → Bool) : Nat → List α → Int
  | _, [] => -1
  | k, x :: l => bif p x then (k : Int) else indexF p (k + 1) l

theorem indexF_any {α : Type} (p : α → Bool) : ∀ (l : List α) (k : Nat), decide (indexF p k l ≥ 0) = l.any p
  | [], _ => rfl
  | x :: l, k => by
    simp only [indexF, List.any_cons]
    by_cases hp : p x = true
    · simp [hp]
    · have hp : p x = false := by simpa using hp
      simpa [hp] using indexF_any p l (k + 1)

theorem loop_index {α σ : Type} {L : σ → (σ → Option (Int × Unit)) → Option (Int × Unit)} {xs : List α} {st : Nat → σ} {p : α → Bool}
    (h1 : ∀ (k : Nat) (x : α) (rec), xs[k]? = some x → k < xs.length → L (st k) rec = bif p x then some ((k : Int), ()) else rec (st (k + 1)))
    (h2 : ∀ rec, L (st xs.length) rec = some (-1, ())) : ∀ F : Nat, xs.length < F → loopF L F (st 0) = some (indexF p 0 xs, ()) := by
  have key : ∀ (l pre : List α) (F : Nat), xs = pre ++ l → l.length < F → loopF L F (st pre.length) = some (indexF p pre.length l, ()) := by
    intro l
    induction l with
    | nil =>
      intro pre F hx hF
      obtain ⟨F, rfl⟩ : ∃ n, F = n + 1 := ⟨F - 1, by simp at hF; omega⟩
      rw [List.append_nil] at hx
      subst hx
      rw [loopF_step, h2]
      rfl
    | cons x l ih =>
      intro pre F hx hF
      obtain ⟨F, rfl⟩ : ∃ n, F = n + 1 := ⟨F - 1, by simp at hF; omega⟩
      have hk : xs[pre.length]? = some x := by rw [hx]; simp
      have hl : pre.length < xs.length := by rw [hx]; simp
      rw [loopF_step, h1 pre.length x _ hk hl]
      have := ih (pre ++ [x]) F (by rw [hx]; simp) (by simp only [List.length_cons] at hF; omega)
      simp only [List.length_append, List.length_cons, List.length_nil, Nat.zero_add] at this
      simp only [indexF, this]
      cases p x <;> rfl
  intro F hF
  exact key xs [] F rfl hF

theorem getD_some {α : Type} {xs : List α} {k : Nat} {x d : α} (h : xs[k]? = some x) : xs.getD k d = x := by simp [h]
theorem get_some {α : Type} {xs : List α} {k : Nat} (h : k < xs.length) : xs[k]? = some xs[k] := List.getElem?_eq_getElem h

/-- Two rows, element by element. -/
theorem all_zip_eq {α : Type} [BEq α] [LawfulBEq α] (d : α) : ∀ (a b : List α), a.length = b.length → (∀ k, k < a.length → (a.getD k d == b.getD k d) = true) → a = b := by
  intro a b hl h
  apply List.ext_getElem hl
  intro k h1 h2
  have := h k h1
  simpa [h1, h2] using this

end Go.Pli
