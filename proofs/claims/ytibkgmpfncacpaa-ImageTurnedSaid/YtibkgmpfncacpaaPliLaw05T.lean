/- An image's bytes with one byte turned, plain. -/
import Derived.Test.YtibkgmpfncacpaaPliLaw05
import Derived.Test.YtibkgmpfncacpaaPliNat5O
namespace Go.Pli
open Go Go.PM

theorem u8_of_wf {P : Program} {u : Int} (h : Wf P (.int .u8) u) : 0 ≤ u ∧ u < 256 := by
  have h : IntKind.u8.min ≤ u ∧ u ≤ IntKind.u8.max := h
  have e1 : IntKind.u8.min = 0 := rfl
  have e2 : IntKind.u8.max = 255 := rfl
  omega

theorem mem_bytesB {l : List Int} : bytesB l = true ↔ ∀ x ∈ l, 0 ≤ x ∧ x < 256 := by
  simp only [bytesB, List.all_eq_true, Bool.and_eq_true, decide_eq_true_eq]

theorem bytesB_set {l : List Int} {i : Nat} {x : Int} (h : bytesB l = true) (hx : 0 ≤ x ∧ x < 256) : bytesB (l.set i x) = true := by
  rw [mem_bytesB] at h ⊢
  intro y hy
  rcases List.mem_or_eq_of_mem_set hy with hy | rfl
  · exact h y hy
  · exact hx

theorem xor_byte {x t : Int} (hx : 0 ≤ x ∧ x < 256) (ht : 0 ≤ t ∧ t < 256) (h0 : t ≠ 0) :
    (0 ≤ IntKind.u8.wrap ((BitVec.ofInt 8 x ^^^ BitVec.ofInt 8 t).toNat) ∧ IntKind.u8.wrap ((BitVec.ofInt 8 x ^^^ BitVec.ofInt 8 t).toNat) < 256) ∧ IntKind.u8.wrap ((BitVec.ofInt 8 x ^^^ BitVec.ofInt 8 t).toNat) ≠ x := by
  obtain ⟨a, rfl⟩ : ∃ a : Nat, x = a := ⟨x.toNat, by omega⟩
  obtain ⟨c, rfl⟩ : ∃ c : Nat, t = c := ⟨t.toNat, by omega⟩
  have hlt := (BitVec.ofInt 8 (a : Int) ^^^ BitVec.ofInt 8 (c : Int)).isLt
  have hw : IntKind.u8.wrap (((BitVec.ofInt 8 (a : Int) ^^^ BitVec.ofInt 8 (c : Int)).toNat : Nat) : Int) = (((BitVec.ofInt 8 (a : Int) ^^^ BitVec.ofInt 8 (c : Int)).toNat : Nat) : Int) := by
    have : ∀ n : Nat, n < 256 → IntKind.u8.wrap (n : Int) = (n : Int) := by
      intro n hn
      have : IntKind.u8.wrap (n : Int) = (n : Int) % 256 := rfl
      rw [this]; omega
    exact this _ hlt
  rw [hw]
  refine ⟨⟨by omega, by omega⟩, fun he => h0 ?_⟩
  have he : (BitVec.ofInt 8 (a : Int) ^^^ BitVec.ofInt 8 (c : Int)).toNat = a := by exact_mod_cast he
  rw [BitVec.ofInt_natCast, BitVec.ofInt_natCast, BitVec.toNat_xor, BitVec.toNat_ofNat, BitVec.toNat_ofNat, Nat.mod_eq_of_lt (show a < 2 ^ 8 by omega), Nat.mod_eq_of_lt (show c < 2 ^ 8 by omega)] at he
  have : a ^^^ (a ^^^ c) = a ^^^ a := by rw [he]
  rw [← Nat.xor_assoc, Nat.xor_self, Nat.zero_xor] at this
  omega

theorem imageTurned_law (m : Im) (a t : Int) (h32 : ints32 m.2.2.1 = true) (ha : 0 ≤ a ∧ a < 65536) (ht : 0 ≤ t ∧ t < 256) : imageTurnedN m a t = some (true, ()) := by
  unfold imageTurnedN
  rw [awake5_eq]
  cases small5 m
  · rfl
  simp only [Bool.not_true, cond_false]
  by_cases ht0 : t = 0
  · subst ht0; rfl
  have ht0' : (t == 0) = false := by simpa using ht0
  rw [ht0']
  simp only [cond_false]
  cases hi : ifits m
  · have : iencode m = some ([], 1, ()) := by unfold iencode; rw [hi]; rfl
    rw [this]; rfl
  by_cases hl : (encIm m).length > 8192
  · have : iencode m = some ([], 12, ()) := by unfold iencode; rw [hi, h32, decide_eq_true hl]; rfl
    rw [this]
    rfl
  have he : iencode m = some (encIm m, 0, ()) := by unfold iencode; rw [hi, h32, decide_eq_false hl]; rfl
  have h4 := encIm_len m
  have h0 : ((0 : Int) != 0) = false := rfl
  have hz : (((encIm m).length : Int) == 0) = false := by
    have : ¬ ((encIm m).length : Int) = 0 := by omega
    simpa using this
  have hz2 : decide (((encIm m).length : Int) = 0) = false := decide_eq_false (by omega)
  rw [he]
  simp only [Option.bind_some, h0, hz, hz2, cond_false, Bool.not_false, cond_true]
  have hw : (IntKind.i64.wrap a).tmod ((encIm m).length : Int) = ((a.toNat % (encIm m).length : Nat) : Int) := by
    rw [w64' (by omega) (by omega)]
    rw [show a = ((a.toNat : Nat) : Int) by omega, Int.toNat_natCast]
    exact (Int.ofNat_tmod _ _).symm
  have hlt := Nat.mod_lt a.toNat (show (encIm m).length > 0 by omega)
  rw [hw]
  have hlt' : decide (((a.toNat % (encIm m).length : Nat) : Int) < ((encIm m).length : Int)) = true := decide_eq_true (by omega)
  have hge : decide ((0 : Int) ≤ ((a.toNat % (encIm m).length : Nat) : Int)) = true := decide_eq_true (by omega)
  simp only [hge, hlt', Bool.and_self, cond_true, Int.toNat_natCast]
  have hb := encIm_bytes hi h32
  generalize hk : a.toNat % (encIm m).length = k at hlt
  have hx := mem_bytesB.1 hb ((encIm m).getD k 0) (by rw [List.getD_eq_getElem?_getD, List.getElem?_eq_getElem hlt]; exact List.getElem_mem hlt)
  obtain ⟨x1, x2⟩ := xor_byte hx ht ht0
  generalize hy : IntKind.u8.wrap (((BitVec.ofInt 8 ((encIm m).getD k 0) ^^^ BitVec.ofInt 8 t).toNat : Nat) : Int) = y at x1 x2
  rcases decode_inv (bytesB_set (i := k) hb x1) with h | ⟨q, h, qi, q32, qe, ql⟩
  · rw [h]; rfl
  · rw [h]
    simp only [Option.bind_some, h0, cond_false]
    have hne : (q == m) = false := by
      cases hqm : q == m with
      | false => rfl
      | true =>
        have : q = m := by simpa using hqm
        subst this
        exfalso
        apply x2
        have := congrArg (fun l : List Int => l.getD k 0) qe
        simp only [List.getD_eq_getElem?_getD, List.getElem?_set_self hlt, Option.getD_some] at this
        rw [List.getD_eq_getElem?_getD]
        exact this
    unfold r5same
    rw [hne]; rfl

end Go.Pli
