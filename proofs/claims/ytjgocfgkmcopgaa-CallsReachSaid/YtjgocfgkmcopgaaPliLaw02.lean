/- The laws on bits, plain. -/
import Derived.Test.YtjgocfgkmcopgaaPliBits
import Derived.KernelRfl
namespace Go.Pli
open Go Go.PM

theorem strOfNums_append (a b : List Int) : strOfNums (a ++ b) = strOfNums a ++ strOfNums b := by
  have h : (strOfNums (a ++ b)).data = (strOfNums a ++ strOfNums b).data := by
    apply Array.ext'
    simp [strOfNums]
  exact ByteArray.ext h

theorem encF_length : ∀ (k v : Nat), (encF k v).length ≤ k + 1
  | 0, v => by simp [encF]
  | k + 1, v => by
    simp only [encF]
    split
    · simp
    · have := encF_length k (v / 128)
      simp; omega

theorem enc_length (v : Nat) : (enc v).length ≤ 11 := encF_length 10 v

theorem zig (m : Int) (h0 : -2147483648 ≤ m) (h1 : m ≤ 2147483647) : IntKind.u32.wrap ((BitVec.ofInt 32 (IntKind.u32.wrap ((IntKind.u32.wrap m) * 2)) ^^^ BitVec.ofInt 32 (IntKind.u32.wrap (m.fdiv 2147483648))).toNat) = if m < 0 then -2 * m - 1 else 2 * m := by
  by_cases hm : m < 0
  · rw [if_pos hm]
    have hf : m.fdiv 2147483648 = -1 := by rw [Int.fdiv_eq_ediv_of_nonneg _ (by omega)]; omega
    have hw : IntKind.u32.wrap (-1) = 4294967295 := by rw [IntKind.wrap_u32]; rfl
    have hx : IntKind.u32.wrap ((IntKind.u32.wrap m) * 2) = ((2 * m + 4294967296).toNat : Int) := by rw [IntKind.wrap_u32, IntKind.wrap_u32]; omega
    rw [hf, hw, hx]
    have hall : BitVec.ofInt 32 4294967295 = BitVec.allOnes 32 := by decide
    rw [hall, BitVec.xor_allOnes, BitVec.toNat_not]
    have : (BitVec.ofInt 32 ((2 * m + 4294967296).toNat : Int)).toNat = (2 * m + 4294967296).toNat := by simp; omega
    rw [this, IntKind.wrap_u32]
    omega
  · rw [if_neg hm]
    have hf : m.fdiv 2147483648 = 0 := by rw [Int.fdiv_eq_ediv_of_nonneg _ (by omega)]; omega
    have hw : IntKind.u32.wrap 0 = 0 := rfl
    have hx : IntKind.u32.wrap ((IntKind.u32.wrap m) * 2) = ((2 * m).toNat : Int) := by rw [IntKind.wrap_u32, IntKind.wrap_u32]; omega
    rw [hf, hw, hx]
    have hz : BitVec.ofInt 32 0 = 0#32 := by decide
    rw [hz, BitVec.xor_zero]
    have : (BitVec.ofInt 32 ((2 * m).toNat : Int)).toNat = (2 * m).toNat := by simp; omega
    rw [this, IntKind.wrap_u32]
    omega

theorem roomFor_of {b : List Int} (h : b.length < 1000000) : roomFor b = true := by
  simp [roomFor, rowMax]; omega

theorem put_eq {b : List Int} {n : Int} (hb : b.length < 1000000) (h0 : n < 9223372036854775808) : put b n = some (b ++ enc n.toNat, ()) := by
  unfold put
  rw [roomFor_of hb]
  have : (IntKind.u64.wrap (max n 0)).toNat = n.toNat := by rw [IntKind.wrap_u64]; omega
  rw [this]
  rfl

def zg (m : Int) : Nat := (if m < 0 then -2 * m - 1 else 2 * m).toNat

theorem longN_eq {b : List Int} {m : Int} (hb : b.length < 1000000) (h0 : -2147483648 ≤ m) (h1 : m ≤ 2147483647) : longN b m = some (b ++ enc (zg m), ()) := by
  unfold longN
  rw [zig m h0 h1]
  have hw : IntKind.i64.wrap (if m < 0 then -2 * m - 1 else 2 * m) = if m < 0 then -2 * m - 1 else 2 * m := w64 (by split <;> omega) (by split <;> omega)
  rw [hw, put_eq hb (by split <;> omega)]
  rfl

theorem rbytes_eq {n : Int} (h0 : n < 9223372036854775808) : rbytes n = some (enc n.toNat, ()) := by
  unfold rbytes
  have : Nat.blt n.toNat 9223372036854775808 = true := by simp; omega
  rw [this]
  rfl

theorem rsignedN_eq {m : Int} (h0 : -2147483648 ≤ m) (h1 : m ≤ 2147483647) : rsignedN m = some (enc (zg m), ()) := by
  unfold rsignedN zg
  have hm : IntKind.i64.wrap m = m := w64 (by omega) (by omega)
  rw [hm]
  by_cases h : m < 0
  · have e1 : IntKind.i64.wrap ((-2 : Int) * m) = -2 * m := w64 (by omega) (by omega)
    have e2 : IntKind.i64.wrap (-2 * m - 1) = -2 * m - 1 := w64 (by omega) (by omega)
    rw [e1, e2, rbytes_eq (by omega), decide_eq_true h, if_pos h]
    rfl
  · have e1 : IntKind.i64.wrap ((2 : Int) * m) = 2 * m := w64 (by omega) (by omega)
    rw [e1, rbytes_eq (n := 2 * m) (by omega), decide_eq_false h, if_neg h]
    rfl

theorem awake2_eq : awake2N = some (true, ()) := by kernel_rfl

theorem size_ok {a b : List Int} (ha : a.length < 1000000) (hb : b.length < 1000000) : decide ((strOfNums a).size + (strOfNums b).size ≤ 140737488355328) = true := by
  rw [strOfNums_size, strOfNums_size]
  exact decide_eq_true (by omega)

theorem bitsPuts_law (b : List Int) (n m : Int) (h0 : -2147483648 ≤ m) (h1 : m ≤ 2147483647) : bitsPutsN b n m = some (true, ()) := by
  unfold bitsPutsN
  rw [awake2_eq]
  by_cases hb : (b.length : Int) > 100
  · rw [decide_eq_true hb]; rfl
  rw [decide_eq_false hb]
  simp only [cond_false]
  by_cases hn2 : n > 1152921504606846976
  · rw [decide_eq_true hn2]; rfl
  rw [decide_eq_false hn2]
  have hl : b.length < 1000000 := by omega
  have hlt : decide (([] : List Int).length + b.length < rowMax) = true := decide_eq_true (by simp [rowMax]; omega)
  have he : (enc n.toNat).length < 1000000 := by have := enc_length n.toNat; omega
  have he2 : (enc (zg m)).length < 1000000 := by have := enc_length (zg m); omega
  simp only [cond_false, hlt, cond_true, List.nil_append, put_eq hl (show n < 9223372036854775808 by omega), longN_eq hl h0 h1, Option.bind_some, rbytes_eq (show n < 9223372036854775808 by omega), rsignedN_eq h0 h1,
    size_ok hl he, size_ok hl he2, strOfNums_append, beq_self_eq_true]

end Go.Pli
