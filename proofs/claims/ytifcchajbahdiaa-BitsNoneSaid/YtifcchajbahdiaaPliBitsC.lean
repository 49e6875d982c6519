/- Bits: what the reference's loops come to. -/
import Derived.Test.YtifcchajbahdiaaPliBitsB
namespace Go.Pli
open Go Go.PM

theorem rnext_loop (b : List Int) : ∀ (k i x : Nat) (pre l : List Int), b = pre ++ l → pre.length = i → k + i = 5 → x < 128 ^ i → bytesB (l.take k) = true →
    loopF (rnextL1 b) (k + 1) ((x : Int), ((128 ^ i : Nat) : Int), (i : Int), ()) = match decF k i x l with
      | some (v, n, true) => some ((v : Int), (n : Int), ())
      | _ => some (0, 0, ())
  | 0, i, x, pre, l, hl, hp, hk, hx, hb => by
    have hi : i = 5 := by omega
    subst hi
    rw [loopF, rnextL1]
    by_cases hlen : ((5 : Nat) : Int) < (b.length : Int) <;> simp [decF]
  | k + 1, i, x, pre, [], hl, hp, hk, hx, hb => by
    rw [loopF, rnextL1]
    have : ¬ ((i : Int) < (b.length : Int)) := by rw [hl]; simp; omega
    simp [this, decF]
  | k + 1, i, x, pre, c :: l, hl, hp, hk, hx, hb => by
    have hb' : (decide (0 ≤ c) && decide (c < 256)) = true ∧ bytesB (l.take k) = true := by
      have : bytesB ((c :: l).take (k + 1)) = true := hb
      simpa only [List.take_succ_cons, bytesB, List.all_cons, Bool.and_eq_true] using this
    have hc : 0 ≤ c ∧ c < 256 := by simpa using hb'.1
    have hmul : 128 ^ i * (c.toNat % 128) ≤ 128 ^ i * 127 := Nat.mul_le_mul_left _ (by omega)
    have hpw : (128 : Nat) ^ i ≤ 128 ^ 4 := Nat.pow_le_pow_right (by omega) (by omega)
    have ih := rnext_loop b k (i + 1) (x + 128 ^ i * (c.toNat % 128)) (pre ++ [c]) l (by rw [hl]; simp) (by simp [hp]) (by omega) (by rw [Nat.pow_succ]; omega) hb'.2
    rw [loopF, rnextL1]
    have hlen : (i : Int) < (b.length : Int) := by rw [hl]; simp; omega
    have hget : b.getD i 0 = c := by
      rw [hl, List.getD_eq_getElem?_getD, List.getElem?_append_right (by omega)]
      simp [hp]
    have hm : c.tmod 128 = ((c.toNat % 128 : Nat) : Int) := by
      rw [Int.tmod_eq_emod_of_nonneg hc.1]; omega
    have h1 : IntKind.i64.wrap ((c.toNat % 128 : Nat) : Int) = ((c.toNat % 128 : Nat) : Int) := w64 (by omega) (by omega)
    have h2 : IntKind.i64.wrap (((128 ^ i : Nat) : Int) * ((c.toNat % 128 : Nat) : Int)) = ((128 ^ i * (c.toNat % 128) : Nat) : Int) := by
      rw [← Int.natCast_mul]; exact w64 (by omega) (by omega)
    have h3 : IntKind.i64.wrap ((x : Int) + ((128 ^ i * (c.toNat % 128) : Nat) : Int)) = ((x + 128 ^ i * (c.toNat % 128) : Nat) : Int) := by
      rw [← Int.natCast_add]; exact w64 (by omega) (by omega)
    have h4 : IntKind.i64.wrap (((128 ^ i : Nat) : Int) * 128) = ((128 ^ (i + 1) : Nat) : Int) := by
      rw [show ((128 ^ i : Nat) : Int) * 128 = ((128 ^ (i + 1) : Nat) : Int) from by rw [Nat.pow_succ]; push_cast; rfl]
      exact w64 (by omega) (by rw [Nat.pow_succ]; omega)
    have hi1 : IntKind.i64.wrap ((i : Int) + 1) = ((i + 1 : Nat) : Int) := by rw [w64 (by omega) (by omega)]; omega
    simp only [Int.toNat_natCast, hget, hm, h1, h2, h3, h4, hi1]
    rw [show decide ((i : Int) < (b.length : Int)) = true from decide_eq_true hlen, show decide ((0 : Int) ≤ (i : Int)) = true from decide_eq_true (by omega), show decide ((i : Int) < 5) = true from decide_eq_true (by omega)]
    simp only [Bool.and_self, cond_true, decF]
    by_cases hlt : c < 128
    · simp only [hlt, decide_true, cond_true, if_true]
      by_cases h0 : i = 0
      · subst h0
        simp
      · have h0' : (i == 0) = false := by simpa using h0
        by_cases hcz : c = 0
        · subst hcz
          have : 0 < i := by omega
          simp [h0', this]
        · have : 0 < c := by omega
          have hi0 : 0 < i := by omega
          have hcb : (c == 0) = false := by simpa using hcz
          simp [h0', hi0, hcb, this]
    · simp only [hlt, decide_false, cond_false, if_false]
      exact ih

theorem rnext_ok (b : List Int) (s) (h : rnext b = some s) : ∃ k, rnextN k b = some s := by
  unfold rnext at h
  cases hr : bytesB (b.take 5) <;> simp only [hr, cond_true, cond_false] at h
  · cases h
  refine ⟨6, ?_⟩
  have := rnext_loop b 5 0 0 [] b rfl rfl rfl (by simp) hr
  unfold rnextN
  rw [← h]
  exact this

theorem rin_loop (l : List Int) (x : Int) (hlen : l.length < 9223372036854775807) : ∀ (m : List Int) (pre : List Int), l = pre ++ m → loopF (rinL1 l x) (m.length + 1) ((pre.length : Int), ()) = some (m.contains x, ())
  | [], pre, hl => by
    rw [loopF, rinL1]
    have : ¬ ((pre.length : Int) < (l.length : Int)) := by rw [hl]; simp
    simp [this]
  | c :: m, pre, hl => by
    have ih := rin_loop l x hlen m (pre ++ [c]) (by rw [hl]; simp)
    rw [List.length_cons, loopF, rinL1]
    have h1 : (pre.length : Int) < (l.length : Int) := by rw [hl]; simp; omega
    have hget : l.getD pre.length 0 = c := by rw [hl, List.getD_eq_getElem?_getD, List.getElem?_append_right (by omega)]; simp
    have hi1 : IntKind.i64.wrap ((pre.length : Int) + 1) = (((pre ++ [c]).length : Nat) : Int) := by rw [w64 (by omega) (by omega)]; simp
    simp only [Int.toNat_natCast, hget, hi1]
    rw [show decide ((pre.length : Int) < (l.length : Int)) = true from decide_eq_true h1, show decide ((0 : Int) ≤ (pre.length : Int)) = true from decide_eq_true (by omega)]
    simp only [Bool.and_self, cond_true]
    rw [ih]
    by_cases hc : c = x
    · subst hc; simp
    · have h' : (c == x) = false := by simpa using hc
      have h'' : (x == c) = false := by simpa using fun h => hc h.symm
      rw [List.contains_cons, h', h'']
      simp

theorem rin_ok (l : List Int) (x : Int) (r) (h : rin l x = some r) : ∃ k, rinN k l x = some r := by
  unfold rin at h
  cases hr : decide (l.length < 9223372036854775807) <;> simp only [hr, cond_true, cond_false] at h
  · cases h
  refine ⟨l.length + 1, ?_⟩
  rw [← h]
  exact rin_loop l x (of_decide_eq_true hr) l [] rfl

end Go.Pli
