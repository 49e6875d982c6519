/- The laws on instructions, plain: a row of them. -/
import Derived.Test.YtifcchajbahdiaaPliLaw04B
namespace Go.Pli
open Go Go.PM

def flat (l : List Ins) : List Int := (l.filter igood).flatMap ienc

theorem flat_cons_good {i : Ins} {l : List Ins} (h : igood i = true) : flat (i :: l) = ienc i ++ flat l := by simp [flat, h]
theorem flat_cons_bad {i : Ins} {l : List Ins} (h : igood i = false) : flat (i :: l) = flat l := by simp [flat, h]

theorem enc_one {v : Nat} (h : v < 128) : (enc v).length = 1 := by unfold enc; rw [encF_small h]; rfl
theorem enc_two {v : Nat} (h : v < 16384) : 1 ≤ (enc v).length ∧ (enc v).length ≤ 2 := by
  have : enc v = encF 1 v := encF_le (by omega) (by omega)
  rw [this, encF]
  split <;> simp [encF]

theorem good_len {i : Ins} (h : igood i = true) : 1 ≤ (ienc i).length ∧ (ienc i).length ≤ 5 := by
  obtain ⟨o, a, b, -⟩ := good_range h
  have l1 := enc_one (v := i.1.toNat) (by omega)
  have l2 := enc_two (v := i.2.1.toNat) (by omega)
  have l3 := enc_two (v := i.2.2.1.toNat) (by omega)
  unfold ienc
  cases decide (iargs i.1 < 1) <;> cases decide (iargs i.1 < 2) <;> simp <;> omega

theorem ienc_bytes {i : Ins} (h : igood i = true) : bytesB (ienc i) = true := by
  obtain ⟨o, a, b, -⟩ := good_range h
  have e1 : bytesB (enc i.1.toNat) = true := enc_bytes (by omega)
  have e2 : bytesB (enc i.2.1.toNat) = true := enc_bytes (by omega)
  have e3 : bytesB (enc i.2.2.1.toNat) = true := enc_bytes (by omega)
  unfold ienc
  rw [bytesB_append, e1]
  cases decide (iargs i.1 < 1)
  · simp only [cond_false, bytesB_append, e2]
    cases decide (iargs i.1 < 2)
    · simp only [cond_false, e3]; rfl
    · rfl
  · rfl

theorem flat_bytes : ∀ l : List Ins, bytesB (flat l) = true
  | [] => rfl
  | i :: l => by
    cases h : igood i
    · rw [flat_cons_bad h]; exact flat_bytes l
    · rw [flat_cons_good h, bytesB_append, ienc_bytes h, flat_bytes l]; rfl

theorem flat_len : ∀ l : List Ins, (l.filter igood).length ≤ (flat l).length ∧ (flat l).length ≤ 5 * (l.filter igood).length ∧ (l.filter igood).length ≤ l.length
  | [] => by simp [flat]
  | i :: l => by
    have ih := flat_len l
    cases h : igood i
    · rw [flat_cons_bad h, List.filter_cons_of_neg (by simp [h])]
      simp only [List.length_cons]; omega
    · have := good_len h
      rw [flat_cons_good h, List.filter_cons_of_pos h]
      simp only [List.length_append, List.length_cons]; omega

theorem at_get {α : Type} {l pre m : List α} {x d : α} (hl : l.take 60 = pre ++ x :: m) : pre.length < l.length ∧ pre.length < 60 ∧ l.getD pre.length d = x := by
  have h1 : (l.take 60)[pre.length]? = some x := by rw [hl]; simp
  rw [List.getElem?_take] at h1
  split at h1
  · rename_i hlt
    refine ⟨(List.getElem?_eq_some_iff.1 h1).1, hlt, ?_⟩
    rw [List.getD, h1]; rfl
  · cases h1

theorem at_end {α : Type} {l pre : List α} (hl : l.take 60 = pre) : ¬ (pre.length < l.length ∧ pre.length < 60) := by
  rw [← hl, List.length_take]
  omega

theorem row_put (l : List Ins) : ∀ (m pre : List Ins) (b : List Int) (n : Int), l.take 60 = pre ++ m → b.length ≤ 100 * pre.length → 0 ≤ n → n ≤ pre.length →
    loopF (instRowL1 l) (m.length + 1) (b, n, (pre.length : Int), ()) = some (.inl (b ++ flat m, n + ((m.filter igood).length : Int), ()))
  | [], pre, b, n, hl, hb, hn, hn2 => by
    rw [List.append_nil] at hl
    have he := at_end hl
    rw [List.length_nil, loopF, instRowL1]
    by_cases h : pre.length < l.length
    · have h2 : ¬ ((pre.length : Int) < 60) := by omega
      simp [h, h2, flat]
    · have h2 : ¬ ((pre.length : Int) < (l.length : Int)) := by omega
      simp [h, flat]
  | x :: m, pre, b, n, hl, hb, hn, hn2 => by
    obtain ⟨h1, h2, h3⟩ := at_get (d := ((0 : Int), ((0 : Int), ((0 : Int), ())))) hl
    have hl' : l.take 60 = (pre ++ [x]) ++ m := by rw [hl]; simp
    have hw : IntKind.i64.wrap ((pre.length : Int) + 1) = (((pre ++ [x]).length : Nat) : Int) := by rw [w64 (by omega) (by omega)]; simp
    have hwn : IntKind.i64.wrap (n + 1) = n + 1 := w64 (by omega) (by omega)
    rw [List.length_cons, loopF, instRowL1]
    simp only [Int.toNat_natCast, h3, hw, hwn, decide_eq_true (show (pre.length : Int) < (l.length : Int) by omega), decide_eq_true (show (pre.length : Int) < 60 by omega), decide_eq_true (show (0 : Int) ≤ (pre.length : Int) by omega), Bool.and_self, cond_true]
    cases hg : igood x
    · have ih := row_put l m (pre ++ [x]) b n hl' (by simp; omega) hn (by simp; omega)
      simp only [cond_false]
      rw [ih, flat_cons_bad hg, List.filter_cons_of_neg (by simp [hg])]
    · obtain ⟨g1, g2, g3, -⟩ := good_range hg
      have hlen := good_len hg
      simp only [cond_true]
      rw [iput_eq (by omega) (by omega) (by omega) (by omega)]
      have ih := row_put l m (pre ++ [x]) (b ++ ienc x) (n + 1) hl' (by simp; omega) (by omega) (by simp; omega)
      simp only [Option.bind_some]
      rw [ih, flat_cons_good hg, List.filter_cons_of_pos hg]
      simp only [List.append_assoc, List.length_cons]
      congr 4
      omega

theorem row_get (l : List Ins) : ∀ (m pre : List Ins), l.take 60 = pre ++ m →
    loopF (instRowL2 l) (m.length + 1) ((pre.length : Int), (flat m, false, ()), ()) = some (.inl (([], false, ()), ()))
  | [], pre, hl => by
    rw [List.append_nil] at hl
    have he := at_end hl
    rw [List.length_nil, loopF, instRowL2]
    by_cases h : pre.length < l.length
    · have h2 : ¬ ((pre.length : Int) < 60) := by omega
      simp [h, h2, flat]
    · have h2 : ¬ ((pre.length : Int) < (l.length : Int)) := by omega
      simp [h, flat]
  | x :: m, pre, hl => by
    obtain ⟨h1, h2, h3⟩ := at_get (d := ((0 : Int), ((0 : Int), ((0 : Int), ())))) hl
    have hl' : l.take 60 = (pre ++ [x]) ++ m := by rw [hl]; simp
    have ih := row_get l m (pre ++ [x]) hl'
    have hw : IntKind.i64.wrap ((pre.length : Int) + 1) = (((pre ++ [x]).length : Nat) : Int) := by rw [w64 (by omega) (by omega)]; simp
    rw [List.length_cons, loopF, instRowL2]
    simp only [Int.toNat_natCast, h3, hw, decide_eq_true (show (pre.length : Int) < (l.length : Int) by omega), decide_eq_true (show (pre.length : Int) < 60 by omega), decide_eq_true (show (0 : Int) ≤ (pre.length : Int) by omega), Bool.and_self, cond_true]
    cases hg : igood x
    · simp only [cond_false]
      rw [flat_cons_bad hg]
      exact ih
    · simp only [cond_true]
      rw [flat_cons_good hg, getN_ienc hg (flat_bytes m)]
      simp only [Option.bind_some, beq_self_eq_true, Bool.and_self, Bool.not_true, cond_false]
      exact ih

theorem instRow_law (l : List Ins) : ∃ k, instRowN k l = some (true, ()) := by
  refine ⟨(l.take 60).length + 1, ?_⟩
  unfold instRowN
  have h1 := row_put l (l.take 60) [] [] 0 rfl (by simp) (by omega) (by simp)
  have h2 := row_get l (l.take 60) [] rfl
  simp only [List.length_nil, Int.natCast_zero, List.nil_append, Int.zero_add] at h1 h2
  have h1' : loopF (instRowL1 l) ((l.take 60).length + 1) (([] : List Int), ((0 : Int), ((0 : Int), ()))) = some (.inl (flat (l.take 60), (((l.take 60).filter igood).length : Int), ())) := h1
  rw [h1']
  have h2' : loopF (instRowL2 l) ((l.take 60).length + 1) ((0 : Int), newN (flat (l.take 60)), ()) = some (.inl (([], false, ()), ())) := h2
  simp only [Option.bind_some]
  rw [h2', awake4_eq]
  have hlen := flat_len (l.take 60)
  have h60 : (l.take 60).length ≤ 60 := by simp; omega
  have hw : IntKind.i64.wrap ((5 : Int) * (((l.take 60).filter igood).length : Int)) = 5 * (((l.take 60).filter igood).length : Int) := w64 (by omega) (by omega)
  have hf : finN ([], false, ()) = some (true, ([], false, ()), ()) := rfl
  simp only [Option.bind_some, cond_true, hf, hw]
  rw [decide_eq_true (show ((flat (l.take 60)).length : Int) ≥ (((l.take 60).filter igood).length : Int) by omega), decide_eq_true (show ((flat (l.take 60)).length : Int) ≤ 5 * (((l.take 60).filter igood).length : Int) by omega)]
  rfl

end Go.Pli
