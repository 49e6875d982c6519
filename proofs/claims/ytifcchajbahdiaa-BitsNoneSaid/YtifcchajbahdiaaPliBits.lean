/- Bits: what the loops come to. -/
import Derived.Test.YtifcchajbahdiaaPliNatBits
namespace Go.Pli
open Go Go.PM

theorem bor128 : ∀ m : Nat, m < 128 → IntKind.u8.wrap ((BitVec.ofInt 8 (m : Int) ||| BitVec.ofInt 8 128).toNat : Int) = ((128 + m : Nat) : Int) := by
  have h : ∀ m : Fin 128, IntKind.u8.wrap ((BitVec.ofInt 8 ((m.val : Nat) : Int) ||| BitVec.ofInt 8 128).toNat : Int) = ((128 + m.val : Nat) : Int) := by decide +kernel
  intro m hm
  exact h ⟨m, hm⟩

theorem put_loop : ∀ (j v : Nat) (b : List Int), v < 128 ^ (j + 1) → v < 18446744073709551616 → b.length + j + 1 < rowMax → loopF putL1 (j + 1) (b, (v : Int), ()) = some (b ++ encF j v, ())
  | 0, v, b, h1, h2, h3 => by
    have hv : v < 128 := by simpa using h1
    have hw : IntKind.u8.wrap (v : Int) = v := by rw [IntKind.wrap_u8]; omega
    have h3' : b.length + 1 < rowMax := by omega
    have hd : ¬ (128 : Int) ≤ v := by omega
    simp [loopF, putL1, hd, hw, h3', encF]
  | j + 1, v, b, h1, h2, h3 => by
    have ih := put_loop j (v / 128)
    rw [loopF]
    have h3' : b.length + 1 < rowMax := by omega
    by_cases hv : v < 128
    · have hw : IntKind.u8.wrap (v : Int) = v := by rw [IntKind.wrap_u8]; omega
      have hd : ¬ (128 : Int) ≤ v := by omega
      simp [putL1, hd, hw, h3', encF, hv]
    · have hd : (128 : Int) ≤ v := by omega
      have hm : (v : Int).tmod 128 = ((v % 128 : Nat) : Int) := by
        rw [Int.tmod_eq_emod_of_nonneg (by omega)]; omega
      have hq : (v : Int).tdiv 128 = ((v / 128 : Nat) : Int) := by
        rw [Int.tdiv_eq_ediv_of_nonneg (by omega)]; omega
      have hw : IntKind.u8.wrap ((v % 128 : Nat) : Int) = ((v % 128 : Nat) : Int) := by rw [IntKind.wrap_u8]; omega
      have hw2 : IntKind.u64.wrap ((v / 128 : Nat) : Int) = ((v / 128 : Nat) : Int) := by rw [IntKind.wrap_u64]; omega
      have hb := bor128 (v % 128) (Nat.mod_lt _ (by omega))
      have hpow : v / 128 < 128 ^ (j + 1) := by
        rw [Nat.div_lt_iff_lt_mul (by omega)]
        rw [Nat.pow_succ] at h1
        exact h1
      simp only [putL1, hm, hq, hw, hw2, hb, encF, if_neg hv]
      have hge : decide ((v : Int) ≥ 128) = true := by simpa using hd
      have hlt : decide (b.length + [((128 + v % 128 : Nat) : Int)].length < rowMax) = true := by simpa using h3'
      rw [hge, hlt]
      simp only [cond_true]
      rw [ih _ hpow (by omega) (by simp; omega)]
      simp

theorem roomFor_lt {b : List Int} (h : roomFor b = true) : b.length + 20 < rowMax := by simpa [roomFor] using h

theorem put_ok (b : List Int) (n : Int) (r) (h : put b n = some r) : ∃ k, putN k b n = some r := by
  unfold put at h
  cases hr : roomFor b <;> simp only [hr, cond_true, cond_false] at h
  · cases h
  injection h with h
  subst h
  have hlt := roomFor_lt hr
  refine ⟨11, ?_⟩
  unfold putN
  have hw : 0 ≤ IntKind.u64.wrap (max n 0) ∧ IntKind.u64.wrap (max n 0) < 18446744073709551616 := by rw [IntKind.wrap_u64]; omega
  have hn : IntKind.u64.wrap (max n 0) = ((IntKind.u64.wrap (max n 0)).toNat : Int) := by omega
  rw [hn]
  rw [put_loop 10 _ b (by omega) (by omega) (by omega)]
  rfl

theorem rbytes_loop : ∀ (j v : Nat) (b : List Int), v < 128 ^ (j + 1) → v < 9223372036854775808 → b.length + j + 1 < rowMax → loopF rbytesL1 (j + 1) ((v : Int), b, ()) = some (b ++ encF j v, ())
  | 0, v, b, h1, h2, h3 => by
    have hv : v < 128 := by simpa using h1
    have hw : IntKind.u8.wrap (v : Int) = v := by rw [IntKind.wrap_u8]; omega
    have h3' : b.length + 1 < rowMax := by omega
    have hd : ¬ (128 : Int) ≤ v := by omega
    simp [loopF, rbytesL1, hd, hw, h3', encF]
  | j + 1, v, b, h1, h2, h3 => by
    have ih := rbytes_loop j (v / 128)
    rw [loopF]
    have h3' : b.length + 1 < rowMax := by omega
    by_cases hv : v < 128
    · have hw : IntKind.u8.wrap (v : Int) = v := by rw [IntKind.wrap_u8]; omega
      have hd : ¬ (128 : Int) ≤ v := by omega
      simp [rbytesL1, hd, hw, h3', encF, hv]
    · have hd : (128 : Int) ≤ v := by omega
      have hm : (v : Int).tmod 128 = ((v % 128 : Nat) : Int) := by
        rw [Int.tmod_eq_emod_of_nonneg (by omega)]; omega
      have hq : (v : Int).tdiv 128 = ((v / 128 : Nat) : Int) := by
        rw [Int.tdiv_eq_ediv_of_nonneg (by omega)]; omega
      have hw : IntKind.u8.wrap (IntKind.i64.wrap ((128 : Int) + ((v % 128 : Nat) : Int))) = ((128 + v % 128 : Nat) : Int) := by rw [IntKind.wrap_u8, IntKind.wrap_i64]; omega
      have hw2 : IntKind.i64.wrap ((v / 128 : Nat) : Int) = ((v / 128 : Nat) : Int) := by rw [IntKind.wrap_i64]; omega
      have hpow : v / 128 < 128 ^ (j + 1) := by
        rw [Nat.div_lt_iff_lt_mul (by omega)]
        rw [Nat.pow_succ] at h1
        exact h1
      simp only [rbytesL1, hm, hq, hw, hw2, encF, if_neg hv]
      have hge : decide ((v : Int) ≥ 128) = true := by simpa using hd
      have hlt : decide (b.length + [((128 + v % 128 : Nat) : Int)].length < rowMax) = true := by simpa using h3'
      rw [hge, hlt]
      simp only [cond_true]
      rw [ih _ hpow (by omega) (by simp; omega)]
      simp

theorem rbytes_ok (n : Int) (r) (h : rbytes n = some r) : ∃ k, rbytesN k n = some r := by
  unfold rbytes at h
  cases hr : decide (n < 9223372036854775808) <;> simp only [hr, cond_true, cond_false] at h
  · cases h
  injection h with h
  subst h
  have hlt := of_decide_eq_true hr
  refine ⟨11, ?_⟩
  have key : loopF rbytesL1 11 ((n.toNat : Int), ([] : List Int), ()) = some (enc n.toNat, ()) := by
    rw [rbytes_loop 10 n.toNat [] (by omega) (by omega) (by simp [rowMax])]
    rfl
  unfold rbytesN
  by_cases hn : n < 0
  · have : n.toNat = 0 := by omega
    rw [this] at key
    simp only [hn, decide_true, cond_true, Option.bind_some]
    rw [this]
    exact key
  · have : (n.toNat : Int) = n := by omega
    rw [this] at key
    simp only [hn, decide_false, cond_false, Option.bind_some]
    exact key

end Go.Pli
