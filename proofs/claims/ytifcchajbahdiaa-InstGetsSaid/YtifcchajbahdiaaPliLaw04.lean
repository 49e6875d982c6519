/- The laws on instructions, plain. -/
import Derived.Test.YtifcchajbahdiaaPliCodec
namespace Go.Pli
open Go Go.PM

theorem awake4_eq : awake4N = some (true, ()) := by kernel_rfl

theorem instKinds_law (i : Ins) : instKindsN i = some (true, ()) := by
  unfold instKindsN
  rw [awake4_eq]
  simp only [Option.bind_some, cond_true, rargs, rinstr, beq_self_eq_true]

/-- An instruction's bytes. -/
def ienc (i : Ins) : List Int := enc i.1.toNat ++ (bif decide (iargs i.1 < 1) then [] else enc i.2.1.toNat ++ (bif decide (iargs i.1 < 2) then [] else enc i.2.2.1.toNat))

theorem iput_eq {b : List Int} {i : Ins} (hb : b.length < 900000) (h1 : i.1 < 9223372036854775808) (h2 : i.2.1 < 9223372036854775808) (h3 : i.2.2.1 < 9223372036854775808) : iput b i = some (b ++ ienc i, ()) := by
  unfold iput ienc
  have l1 := enc_length i.1.toNat
  have l2 := enc_length i.2.1.toNat
  rw [put_eq (by omega) h1]
  simp only [Option.bind_some]
  cases decide (iargs i.1 < 1)
  · simp only [cond_false]
    rw [put_eq (by simp; omega) h2]
    simp only [Option.bind_some]
    cases decide (iargs i.1 < 2)
    · simp only [cond_false]
      rw [put_eq (by simp; omega) h3]
      simp
    · simp
  · simp

theorem ienc_length (i : Ins) : 1 ≤ (ienc i).length ∧ (ienc i).length ≤ 33 := by
  unfold ienc
  have l1 := enc_length i.1.toNat
  have l2 := enc_length i.2.1.toNat
  have l3 := enc_length i.2.2.1.toNat
  have p1 : 1 ≤ (enc i.1.toNat).length := by
    unfold enc
    rw [encF]
    split <;> simp
  cases decide (iargs i.1 < 1) <;> cases decide (iargs i.1 < 2) <;> simp <;> omega

theorem good_range {i : Ins} (h : igood i = true) : (1 ≤ i.1 ∧ i.1 ≤ 34) ∧ (0 ≤ i.2.1 ∧ i.2.1 ≤ 255) ∧ (0 ≤ i.2.2.1 ∧ i.2.2.1 ≤ 255) ∧ (iargs i.1 < 1 → i.2.1 = 0) ∧ (iargs i.1 < 2 → i.2.2.1 = 0) := by
  unfold igood within at h
  have hr : iargs i.1 ≥ 0 → 1 ≤ i.1 ∧ i.1 ≤ 34 := by
    intro h0
    unfold iargs at h0
    by_cases h1 : i.1 < 1
    · have hc : ([1, 3, 4, 18, 19, 22, 23, 29, 30, 31, 34] : List Int).contains i.1 = false := by simp; omega
      have h2 : (i.1 == 27 || (i.1 == 28 || i.1 == 32)) = false := by simp; omega
      rw [hc, h2, decide_eq_true h1, Bool.true_or] at h0
      exact absurd h0 (by decide)
    by_cases h34 : i.1 > 34
    · have hc : ([1, 3, 4, 18, 19, 22, 23, 29, 30, 31, 34] : List Int).contains i.1 = false := by simp; omega
      have h2 : (i.1 == 27 || (i.1 == 28 || i.1 == 32)) = false := by simp; omega
      rw [hc, h2, decide_eq_true h34, Bool.or_true] at h0
      exact absurd h0 (by decide)
    omega
  rcases iargs_range i.1 with ha | ha | ha | ha <;> rw [ha] at h hr ⊢ <;> simp at h hr ⊢ <;> omega

theorem getN_ienc {i : Ins} {rest : List Int} (hg : igood i = true) (hb : bytesB rest = true) : igetN (ienc i ++ rest, false, ()) = some (i, (rest, false, ()), ()) := by
  obtain ⟨⟨o1, o2⟩, ⟨a1, a2⟩, ⟨b1, b2⟩, z1, z2⟩ := good_range hg
  obtain ⟨o, a, b, u⟩ := i
  simp only at o1 o2 a1 a2 b1 b2 z1 z2
  have ho : ((o.toNat : Nat) : Int) = o := by omega
  have haa : ((a.toNat : Nat) : Int) = a := by omega
  have hbb : ((b.toNat : Nat) : Int) = b := by omega
  have eb : bytesB (enc b.toNat) = true := enc_bytes (by omega)
  have ea : bytesB (enc a.toNat) = true := enc_bytes (by omega)
  unfold igetN ienc
  simp only [List.append_assoc]
  by_cases h1 : iargs o < 1
  · have e1 := z1 h1
    have e2 := z2 (by omega)
    subst e1; subst e2
    rw [decide_eq_true h1]
    simp only [cond_true, List.nil_append]
    rw [get_enc (v := o.toNat) (by omega) hb (by omega) (by omega), ho]
    have h2 : ¬ iargs o > 0 := by omega
    have h3 : ¬ iargs o > 1 := by omega
    simp only [Option.bind_some, decide_eq_false h2, decide_eq_false h3, cond_false]
  · rw [decide_eq_false h1]
    simp only [cond_false, List.append_assoc]
    have h2 : iargs o > 0 := by omega
    by_cases h3 : iargs o < 2
    · have e2 := z2 h3
      subst e2
      rw [decide_eq_true h3]
      simp only [cond_true, List.nil_append]
      rw [get_enc (v := o.toNat) (by omega) (by rw [bytesB_append, ea, hb]; rfl) (by omega) (by omega), ho]
      have h4 : ¬ iargs o > 1 := by omega
      simp only [Option.bind_some, decide_eq_true h2, cond_true]
      rw [get_enc (v := a.toNat) (by omega) hb (by omega) (by omega), haa]
      simp only [Option.bind_some, decide_eq_false h4, cond_false]
    · rw [decide_eq_false h3]
      simp only [cond_false]
      rw [get_enc (v := o.toNat) (by omega) (by rw [bytesB_append, ea, bytesB_append, eb, hb]; rfl) (by omega) (by omega), ho]
      have h4 : iargs o > 1 := by omega
      simp only [Option.bind_some, decide_eq_true h2, cond_true]
      rw [get_enc (v := a.toNat) (by omega) (by rw [bytesB_append, eb, hb]; rfl) (by omega) (by omega), haa]
      simp only [Option.bind_some, decide_eq_true h4, cond_true]
      rw [get_enc (v := b.toNat) (by omega) hb (by omega) (by omega), hbb]
      rfl

theorem room_dec {n : Nat} (h : n < 900000) : decide (n < rowMax) = true := decide_eq_true (by simp [rowMax]; omega)

theorem finN_nil (bad : Bool) : finN ([], bad, ()) = some (!bad, ([], bad, ()), ()) := by cases bad <;> rfl

theorem instPuts_law (b : List Int) (i : Ins) : instPutsN b i = some (true, ()) := by
  unfold instPutsN
  rw [awake4_eq]
  by_cases hb : (b.length : Int) > 50
  · rw [decide_eq_true hb]; rfl
  rw [decide_eq_false hb]
  by_cases c1 : i.1 > 1152921504606846976
  · rw [decide_eq_true c1]; rfl
  rw [decide_eq_false c1]
  by_cases c2 : i.2.1 > 1152921504606846976
  · rw [decide_eq_true c2]; rfl
  rw [decide_eq_false c2]
  by_cases c3 : i.2.2.1 > 1152921504606846976
  · rw [decide_eq_true c3]; rfl
  rw [decide_eq_false c3]
  simp only [cond_false, List.nil_append, List.length_nil, Nat.zero_add]
  have l1 := enc_length i.1.toNat
  have l2 := enc_length i.2.1.toNat
  have l3 := enc_length i.2.2.1.toNat
  have hr0 : decide (b.length < rowMax) = true := room_dec (by omega)
  rw [hr0, rbytes_eq (n := i.1) (by omega), rbytes_eq (n := i.2.1) (by omega), rbytes_eq (n := i.2.2.1) (by omega)]
  have hr1 : decide (b.length + (enc i.1.toNat).length < rowMax) = true := room_dec (by omega)
  simp only [cond_true, Option.bind_some, hr1]
  -- what is wanted
  have hwant : ((bif decide (rargs i.1 > 0) then
        bif decide ((b ++ enc i.1.toNat).length + (enc i.2.1.toNat).length < rowMax) then
          some (.inl ((b ++ enc i.1.toNat) ++ enc i.2.1.toNat, ()))
        else none
      else some (.inl (b ++ enc i.1.toNat, ())) : Option ((List Int × Unit) ⊕ (Bool × Unit)))) = some (.inl (b ++ enc i.1.toNat ++ (bif decide (iargs i.1 < 1) then [] else enc i.2.1.toNat), ())) := by
    have hr2 : decide ((b ++ enc i.1.toNat).length + (enc i.2.1.toNat).length < rowMax) = true := room_dec (by simp; omega)
    rw [hr2]
    unfold rargs
    by_cases ha : iargs i.1 > 0
    · rw [decide_eq_true ha, decide_eq_false (by omega : ¬ iargs i.1 < 1)]; rfl
    · rw [decide_eq_false ha, decide_eq_true (by omega : iargs i.1 < 1)]; simp
  rw [hwant]
  simp only [Option.bind_some]
  have hwant2 : ∀ X : List Int, X.length < 900 → ((bif decide (rargs i.1 > 1) then
          bif decide (X.length + (enc i.2.2.1.toNat).length < rowMax) then
            some (.inl (X ++ enc i.2.2.1.toNat, ()))
          else none
        else some (.inl (X, ())) : Option ((List Int × Unit) ⊕ (Bool × Unit)))) = some (.inl (X ++ (bif decide (iargs i.1 < 2) then [] else enc i.2.2.1.toNat), ())) := by
    intro X hX
    have hr2 : decide (X.length + (enc i.2.2.1.toNat).length < rowMax) = true := room_dec (by omega)
    rw [hr2]
    unfold rargs
    by_cases ha : iargs i.1 > 1
    · rw [decide_eq_true ha, decide_eq_false (by omega : ¬ iargs i.1 < 2)]; rfl
    · rw [decide_eq_false ha, decide_eq_true (by omega : iargs i.1 < 2)]; simp
  have hXl : (b ++ enc i.1.toNat ++ (bif decide (iargs i.1 < 1) then [] else enc i.2.1.toNat)).length < 900 := by
    cases decide (iargs i.1 < 1) <;> simp <;> omega
  rw [hwant2 _ hXl]
  simp only [Option.bind_some]
  rw [iput_eq (by omega) (by omega) (by omega) (by omega)]
  have hsame : b ++ enc i.1.toNat ++ (bif decide (iargs i.1 < 1) then [] else enc i.2.1.toNat) ++ (bif decide (iargs i.1 < 2) then [] else enc i.2.2.1.toNat) = b ++ ienc i := by
    unfold ienc
    by_cases ha : iargs i.1 < 1
    · rw [decide_eq_true ha, decide_eq_true (by omega : iargs i.1 < 2)]; simp
    · rw [decide_eq_false ha]; simp
  rw [hsame]
  have hle : ¬ (((b ++ ienc i).length : Int) < (b.length : Int)) := by simp; omega
  simp only [Option.bind_some, decide_eq_false hle, cond_false, beq_self_eq_true, Bool.not_true]
  cases hg : rinstr i
  · rfl
  · have hl1 : decide (0 ≤ (b.length : Int)) = true := decide_eq_true (by omega)
    have hl2 : decide ((b.length : Int) ≤ ((b ++ ienc i).length : Int)) = true := decide_eq_true (by simp; omega)
    have hl3 : decide (((b ++ ienc i).length : Int) ≤ ((b ++ ienc i).length : Int)) = true := decide_eq_true (by omega)
    rw [hl1, hl2, hl3]
    simp only [Bool.not_true, cond_false, Bool.and_self, cond_true, List.take_length, List.drop_left, newN]
    have hget := getN_ienc (rest := []) hg rfl
    rw [List.append_nil] at hget
    rw [hget]
    simp only [Option.bind_some, beq_self_eq_true, Bool.and_self, cond_true, finN_nil]
    rfl

end Go.Pli
