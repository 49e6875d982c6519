/- Numbers as bytes: there and back. -/
import Derived.Test.YtjgocfgkmcopgaaPliInst
import Derived.Laws.Strings
namespace Go.Pli
open Go Go.PM

theorem encF_small {j v : Nat} (h : v < 128) : encF j v = [(v : Int)] := by
  cases j with
  | zero => rfl
  | succ j => simp [encF, h]

theorem decF_encF : ∀ (k j i x v : Nat) (rest : List Int), 1 ≤ k → v < 128 ^ (j + 1) → v < 128 ^ k → (i = 0 ∨ 0 < v) →
    decF k i x (encF j v ++ rest) = some (x + 128 ^ i * v, i + (encF j v).length, true)
  | 0, _, _, _, _, _, hk, _, _, _ => by omega
  | k + 1, j, i, x, v, rest, _, hj, hk, hi => by
    by_cases hv : v < 128
    · rw [encF_small hv]
      have h1 : (v : Int) < 128 := by omega
      have h2 : ((v : Int)).toNat % 128 = v := by omega
      have h3 : (i == 0 || decide ((0 : Int) < (v : Int))) = true := by
        rcases hi with hi | hi
        · subst hi; rfl
        · have : decide ((0 : Int) < (v : Int)) = true := decide_eq_true (by omega)
          rw [this]; simp
      simp only [List.cons_append, List.nil_append, decF, if_pos h1, h2, h3, List.length_cons, List.length_nil]
    · cases j with
      | zero => simp at hj; omega
      | succ j =>
        have hk1 : 1 ≤ k := by
          rcases Nat.eq_zero_or_pos k with h | h
          · subst h; simp at hk; omega
          · exact h
        have ih := decF_encF k j (i + 1) (x + 128 ^ i * (v % 128)) (v / 128) rest hk1
          (by rw [Nat.div_lt_iff_lt_mul (by omega)]; rw [Nat.pow_succ] at hj; exact hj) (by rw [Nat.div_lt_iff_lt_mul (by omega)]; rw [Nat.pow_succ] at hk; exact hk) (.inr (Nat.div_pos (by omega) (by omega)))
        have h1 : ¬ (((128 + v % 128 : Nat) : Int) < 128) := by omega
        have h2 : (((128 + v % 128 : Nat) : Int)).toNat % 128 = v % 128 := by omega
        simp only [encF, if_neg hv, List.cons_append, decF, if_neg h1, h2]
        rw [ih]
        have e1 : x + 128 ^ i * (v % 128) + 128 ^ (i + 1) * (v / 128) = x + 128 ^ i * v := by
          rw [Nat.pow_succ, Nat.mul_assoc, Nat.add_assoc, ← Nat.mul_add, Nat.mod_add_div]
        rw [e1, List.length_cons]
        have e2 : i + 1 + (encF j (v / 128)).length = i + ((encF j (v / 128)).length + 1) := by omega
        rw [e2]

theorem encF_bytes : ∀ (j v : Nat), v < 128 ^ (j + 1) → bytesB (encF j v) = true
  | 0, v, h => by
    have h0 : v < 128 := by simpa using h
    simp [encF, bytesB]; omega
  | j + 1, v, h => by
    simp only [encF]
    split
    · simp [bytesB]; omega
    · have ih := encF_bytes j (v / 128) (by rw [Nat.div_lt_iff_lt_mul (by omega)]; rw [Nat.pow_succ] at h; exact h)
      simp only [bytesB, List.all_cons, Bool.and_eq_true, decide_eq_true_eq] at ih ⊢
      exact ⟨⟨by omega, by omega⟩, ih⟩

theorem encF_more : ∀ (j v : Nat), v < 128 ^ (j + 1) → encF (j + 1) v = encF j v
  | 0, v, h => by
    have h0 : v < 128 := by simpa using h
    simp [encF, h0]
  | j + 1, v, h => by
    have ih := encF_more j (v / 128) (by rw [Nat.div_lt_iff_lt_mul (by omega)]; rw [Nat.pow_succ] at h; exact h)
    rw [encF]
    conv => rhs; rw [encF]
    rw [ih]

theorem encF_le {j m v : Nat} (h : v < 128 ^ (j + 1)) (hm : j ≤ m) : encF m v = encF j v := by
  induction m with
  | zero => have : j = 0 := by omega
            subst this; rfl
  | succ m ih =>
    rcases Nat.lt_or_ge j (m + 1) with hj | hj
    · have hp : (128 : Nat) ^ (j + 1) ≤ 128 ^ (m + 1) := Nat.pow_le_pow_right (by omega) (by omega)
      rw [encF_more m v (by omega), ih (by omega)]
    · have : j = m + 1 := by omega
      subst this; rfl

theorem decF_inv : ∀ (k i x : Nat) (l : List Int) (y n : Nat), bytesB (l.take k) = true → decF k i x l = some (y, n, true) →
    ∃ v m, y = x + 128 ^ i * v ∧ n = i + m ∧ 1 ≤ m ∧ m ≤ l.length ∧ l.take m = encF (k - 1) v ∧ v < 128 ^ k ∧ (i = 0 ∨ 0 < v)
  | 0, _, _, _, _, _, _, h => by simp [decF] at h
  | k + 1, _, _, [], _, _, _, h => by simp [decF] at h
  | k + 1, i, x, c :: l, y, n, hb, h => by
    have hb' : (decide (0 ≤ c) && decide (c < 256)) = true ∧ bytesB (l.take k) = true := by
      have : bytesB ((c :: l).take (k + 1)) = true := hb
      simpa only [List.take_succ_cons, bytesB, List.all_cons, Bool.and_eq_true] using this
    have hc : 0 ≤ c ∧ c < 256 := by simpa using hb'.1
    simp only [decF] at h
    split at h
    · rename_i hlt
      simp only [Option.some.injEq, Prod.mk.injEq, Bool.or_eq_true, beq_iff_eq, decide_eq_true_eq] at h
      obtain ⟨h1, h2, h3⟩ := h
      have hm : c.toNat % 128 = c.toNat := by omega
      refine ⟨c.toNat, 1, by rw [← h1, hm], h2.symm, by omega, by simp, ?_, ?_, by omega⟩
      · rw [encF_small (by omega)]
        simp; omega
      · have : (128 : Nat) ^ 1 ≤ 128 ^ (k + 1) := Nat.pow_le_pow_right (by omega) (by omega)
        omega
    · rename_i hlt
      obtain ⟨v, m, e1, e2, e3, e4, e5, e6, e7⟩ := decF_inv k (i + 1) _ l y n hb'.2 h
      have hv : 0 < v := by omega
      have hk1 : 1 ≤ k := by
        rcases Nat.eq_zero_or_pos k with h | h
        · subst h; simp at e6; omega
        · exact h
      refine ⟨c.toNat % 128 + 128 * v, m + 1, ?_, by omega, by omega, by simp; omega, ?_, ?_, .inr (by omega)⟩
      · rw [e1, Nat.pow_succ, Nat.mul_add, Nat.add_assoc, Nat.mul_assoc]
      · obtain ⟨k', rfl⟩ : ∃ k', k = k' + 1 := ⟨k - 1, by omega⟩
        have hnl : ¬ (c.toNat % 128 + 128 * v < 128) := by omega
        simp only [Nat.add_sub_cancel] at e5 ⊢
        rw [List.take_succ_cons, e5, encF, if_neg hnl]
        have a1 : (c.toNat % 128 + 128 * v) % 128 = c.toNat % 128 := by omega
        have a2 : (c.toNat % 128 + 128 * v) / 128 = v := by omega
        rw [a1, a2]
        congr 1
        omega
      · rw [Nat.pow_succ]
        have := Nat.mul_le_mul_right 128 (show v + 1 ≤ 128 ^ k from e6)
        omega

theorem bytesB_append {a b : List Int} : bytesB (a ++ b) = (bytesB a && bytesB b) := by simp [bytesB]

theorem bytesB_take {l : List Int} (n : Nat) (h : bytesB l = true) : bytesB (l.take n) = true := by
  simp only [bytesB, List.all_eq_true] at h ⊢
  exact fun x hx => h x (List.mem_of_mem_take hx)

theorem bytesB_drop {l : List Int} (n : Nat) (h : bytesB l = true) : bytesB (l.drop n) = true := by
  simp only [bytesB, List.all_eq_true] at h ⊢
  exact fun x hx => h x (List.mem_of_mem_drop hx)

/-- A number ahead of other bytes, read. -/
theorem next_enc {v : Nat} {rest : List Int} {bad : Bool} (hv : v < 128 ^ 5) (hb : bytesB rest = true) : next (enc v ++ rest, bad, ()) = some ((v : Int), true, (rest, bad, ()), ()) := by
  have he : enc v = encF 4 v := encF_le hv (by omega)
  have hbs : bytesB ((enc v ++ rest).take 5) = true := bytesB_take 5 (by rw [bytesB_append, hb, he, encF_bytes 4 v hv]; rfl)
  unfold next
  simp only [hbs, cond_true]
  rw [he, decF_encF 5 4 0 0 v rest (by omega) hv hv (.inl rfl)]
  simp

theorem get_enc {v : Nat} {rest : List Int} {n : Int} (hv : v < 128 ^ 5) (hb : bytesB rest = true) (hn : (v : Int) ≤ n) (hn2 : n < 9223372036854775808) : getN (enc v ++ rest, false, ()) n = some ((v : Int), (rest, false, ()), ()) := by
  unfold getN
  rw [next_enc hv hb]
  have h0 : ¬ n < 0 := by omega
  have hw : IntKind.u64.wrap n = n := by rw [IntKind.wrap_u64]; omega
  have h1 : ¬ ((v : Int) > n) := by omega
  have hw2 : IntKind.i64.wrap (v : Int) = v := w64 (by omega) (by omega)
  simp only [cond_false, Option.bind_some, Bool.not_true, decide_eq_false h0, hw, decide_eq_false h1, hw2]

theorem enc_bytes {v : Nat} (h : v < 128 ^ 11) : bytesB (enc v) = true := encF_bytes 10 v h

end Go.Pli
