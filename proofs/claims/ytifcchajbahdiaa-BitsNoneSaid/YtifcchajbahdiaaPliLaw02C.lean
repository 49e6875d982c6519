/- The laws on bits, plain: no two numbers have the same bytes. -/
import Derived.Test.YtifcchajbahdiaaPliLaw02B
namespace Go.Pli
open Go Go.PM

theorem str_list (l : List Int) : (strOfNums l).toList = l.map fun n => UInt8.ofNat n.toNat := by
  rw [ByteArray.toList_eq, strOfNums_data]

theorem bytes_back : ∀ {l : List Int}, bytesB l = true → (l.map fun n => UInt8.ofNat n.toNat).map (fun u => (u.toNat : Int)) = l
  | [], _ => rfl
  | x :: l, h => by
    simp only [bytesB, List.all_cons, Bool.and_eq_true, decide_eq_true_eq] at h
    have ih := bytes_back (l := l) (by simpa [bytesB] using h.2)
    rw [List.map_cons, List.map_cons, ih]
    congr 1
    have : (UInt8.ofNat x.toNat).toNat = x.toNat := by
      rw [UInt8.toNat_ofNat']
      omega
    rw [this]; omega

theorem str_inj {a b : List Int} (ha : bytesB a = true) (hb : bytesB b = true) (h : (strOfNums a).toList = (strOfNums b).toList) : a = b := by
  rw [str_list, str_list] at h
  rw [← bytes_back ha, ← bytes_back hb, h]

theorem str_eq {a b : List Int} (ha : bytesB a = true) (hb : bytesB b = true) : ((strOfNums a).toList == (strOfNums b).toList) = decide (a = b) := by
  by_cases h : a = b
  · subst h; simp
  · have : ¬ (strOfNums a).toList = (strOfNums b).toList := fun hh => h (str_inj ha hb hh)
    rw [decide_eq_false h]
    simpa using this

theorem enc_inj {v w : Nat} (hv : v < 128 ^ 5) (hw : w < 128 ^ 5) (h : enc v = enc w) : v = w := by
  have a1 : enc v = encF 4 v := encF_le hv (by omega)
  have a2 : enc w = encF 4 w := encF_le hw (by omega)
  have e1 := decF_encF 5 4 0 0 v [] (by omega) hv hv (.inl rfl)
  have e2 := decF_encF 5 4 0 0 w [] (by omega) hw hw (.inl rfl)
  rw [← a1, h, a2, e2] at e1
  simp only [Option.some.injEq, Prod.mk.injEq] at e1
  omega

theorem encF_pos (j v : Nat) : 1 ≤ (encF j v).length := by
  cases j with
  | zero => simp [encF]
  | succ j => rw [encF]; split <;> simp

theorem short_bytes (r1 : List Int × Unit) (hlen : r1.1.length < 1000) : ∀ (j v : Nat) (pre : List Int) (k : Nat), v < 128 ^ (j + 1) → r1.1 = pre ++ encF j v → loopF (bitsShortL1 r1) (k + j + 2) ((pre.length : Int), ()) = some (true, ())
  | j, v, pre, k, hv, hl => by
    have hget : ∀ (c : Int) (t : List Int), encF j v = c :: t → r1.1.getD pre.length 0 = c := fun c t hc => by
      rw [hl, hc, List.getD_eq_getElem?_getD, List.getElem?_append_right (by omega)]; simp
    have hp := encF_pos j v
    have hll : r1.1.length = pre.length + (encF j v).length := by rw [hl]; simp
    have hw1 : IntKind.i64.wrap ((pre.length : Int) + 1) = ((pre.length + 1 : Nat) : Int) := by rw [w64 (by omega) (by omega)]; simp
    have hw2 : IntKind.i64.wrap ((r1.1.length : Int) - 1) = (r1.1.length : Int) - 1 := w64 (by omega) (by omega)
    rw [show k + j + 2 = (k + j + 1) + 1 from rfl, loopF, bitsShortL1]
    by_cases h : v < 128
    · have hg := hget (v : Int) [] (encF_small h)
      rw [encF_small h] at hll
      simp only [Int.toNat_natCast, hg, hw1, hw2, decide_eq_true (show (pre.length : Int) < (r1.1.length : Int) by simp at hll; omega), decide_eq_true (show (0 : Int) ≤ (pre.length : Int) by omega), Bool.and_self, cond_true,
        decide_eq_false (show ¬ ((v : Int) ≥ 128) by omega), decide_eq_false (show ¬ ((pre.length : Int) < (r1.1.length : Int) - 1) by simp at hll; omega), beq_self_eq_true, Bool.not_true, cond_false]
      rw [loopF, bitsShortL1]
      simp only [decide_eq_false (show ¬ (((pre.length + 1 : Nat) : Int) < (r1.1.length : Int)) by simp at hll; omega), cond_false, awake2_eq]
      rfl
    · cases j with
      | zero => simp at hv; omega
      | succ j =>
        have hc : encF (j + 1) v = ((128 + v % 128 : Nat) : Int) :: encF j (v / 128) := by rw [encF, if_neg h]
        have hg := hget _ _ hc
        have hp2 := encF_pos j (v / 128)
        rw [hc, List.length_cons] at hll
        have ih := short_bytes r1 hlen j (v / 128) (pre ++ [((128 + v % 128 : Nat) : Int)]) k (by rw [Nat.div_lt_iff_lt_mul (by omega)]; rw [Nat.pow_succ] at hv; exact hv) (by rw [hl, hc]; simp)
        simp only [Int.toNat_natCast, hg, hw1, hw2, decide_eq_true (show (pre.length : Int) < (r1.1.length : Int) by omega), decide_eq_true (show (0 : Int) ≤ (pre.length : Int) by omega), Bool.and_self, cond_true,
          decide_eq_true (show (((128 + v % 128 : Nat) : Int) ≥ 128) by omega), decide_eq_true (show ((pre.length : Int) < (r1.1.length : Int) - 1) by omega), beq_self_eq_true, Bool.not_true, cond_false]
        have hpl : ((pre.length + 1 : Nat) : Int) = (((pre ++ [((128 + v % 128 : Nat) : Int)]).length : Nat) : Int) := by simp
        rw [hpl]
        exact ih
termination_by j => j

theorem short_size (a b : Int) (F : Nat) (r1 r2 : List Int × Unit) (hx : (((strOfNums r1.1).toList == (strOfNums r2.1).toList) == (a == b)) = true) (hin : loopF (bitsShortL1 r1) F ((0 : Int), ()) = some (true, ())) :
    ∀ (j v s k : Nat), v < 128 ^ (j + 1) → s + j < 1000 → v < 9223372036854775808 → r1.1.length + 1 = s + (encF j v).length → loopF (bitsShortL2 a b F r1 r2) (k + j + 1) ((s : Int), (v : Int), ()) = some (true, ())
  | j, v, s, k, hv, hs, hv2, hl => by
    rw [loopF, bitsShortL2]
    by_cases h : v < 128
    · rw [encF_small h] at hl
      have hsz : ((r1.1.length : Int) != (s : Int)) = false := by simp at hl; simp; omega
      simp only [decide_eq_false (show ¬ ((v : Int) ≥ 128) by omega), cond_false, hsz, hx, Bool.not_true]
      exact hin
    · cases j with
      | zero => simp at hv; omega
      | succ j =>
        have hc : encF (j + 1) v = ((128 + v % 128 : Nat) : Int) :: encF j (v / 128) := by rw [encF, if_neg h]
        rw [hc, List.length_cons] at hl
        have ih := short_size a b F r1 r2 hx hin j (v / 128) (s + 1) k (by rw [Nat.div_lt_iff_lt_mul (by omega)]; rw [Nat.pow_succ] at hv; exact hv)
        have hq : (v : Int).tdiv 128 = ((v / 128 : Nat) : Int) := by rw [Int.tdiv_eq_ediv_of_nonneg (by omega)]; omega
        have hw : IntKind.i64.wrap ((v / 128 : Nat) : Int) = ((v / 128 : Nat) : Int) := w64 (by omega) (by omega)
        have hw2 : IntKind.i64.wrap ((s : Int) + 1) = ((s + 1 : Nat) : Int) := by rw [w64 (by omega) (by omega)]; simp
        simp only [decide_eq_true (show ((v : Int) ≥ 128) by omega), cond_true, hq, hw, hw2]
        rw [show k + (j + 1) = k + j + 1 from rfl]
        exact ih (by omega) (by omega) (by omega)
termination_by j => j

theorem bitsShort_law (a b : Int) (ha : 0 ≤ a ∧ a < 4294967296) (hb : 0 ≤ b ∧ b < 4294967296) : ∃ k, bitsShortN k a b = some (true, ()) := by
  have wa : IntKind.i64.wrap a = a := w64 (by omega) (by omega)
  have wb : IntKind.i64.wrap b = b := w64 (by omega) (by omega)
  have la := enc_length a.toNat
  have ea : enc a.toNat = encF 4 a.toNat := encF_le (by omega) (by omega)
  have hin : loopF (bitsShortL1 (enc a.toNat, ())) 6 ((0 : Int), ()) = some (true, ()) :=
    short_bytes (enc a.toNat, ()) (by simp only; omega) 4 a.toNat [] 0 (by omega) (by simp [ea])
  have hx : (((strOfNums (enc a.toNat)).toList == (strOfNums (enc b.toNat)).toList) == (a == b)) = true := by
    rw [str_eq (enc_bytes (by omega)) (enc_bytes (by omega))]
    by_cases h : a = b
    · subst h; simp
    · have h2 : ¬ enc a.toNat = enc b.toNat := fun hh => h (by have := enc_inj (by omega) (by omega) hh; omega)
      have h3 : (a == b) = false := by simpa using h
      rw [decide_eq_false h2, h3]; rfl
  refine ⟨6, ?_⟩
  unfold bitsShortN
  rw [wa, wb, put_eq (by simp) (by omega), put_eq (by simp) (by omega)]
  simp only [Option.bind_some, List.nil_append]
  have := short_size a b 6 (enc a.toNat, ()) (enc b.toNat, ()) hx hin 4 a.toNat 1 1 (by omega) (by omega) (by omega) (by simp only [ea]; omega)
  have han : ((a.toNat : Nat) : Int) = a := by omega
  rw [han] at this
  exact this

end Go.Pli
