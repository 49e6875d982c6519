/- Instructions: what the functions come to. -/
import Derived.Test.YtcofionghgmldaaGreatPliBits
import Derived.Laws.Strings
namespace Go.Pli
open Go Go.PM
theorem iargs_eq (o : Int) : iargsN o = some (iargs o, ()) := by
  unfold iargsN iargs
  simp only [List.contains_cons, List.contains_nil]
  by_cases h1 : o = 1
  · subst h1; rfl
  by_cases h3 : o = 3
  · subst h3; rfl
  by_cases h4 : o = 4
  · subst h4; rfl
  by_cases h18 : o = 18
  · subst h18; rfl
  by_cases h19 : o = 19
  · subst h19; rfl
  by_cases h22 : o = 22
  · subst h22; rfl
  by_cases h23 : o = 23
  · subst h23; rfl
  by_cases h29 : o = 29
  · subst h29; rfl
  by_cases h30 : o = 30
  · subst h30; rfl
  by_cases h31 : o = 31
  · subst h31; rfl
  have e : ∀ k : Int, o ≠ k → (o == k) = false := fun k h => by simpa using h
  simp only [e 1 h1, e 3 h3, e 4 h4, e 18 h18, e 19 h19, e 22 h22, e 23 h23, e 29 h29, e 30 h30, e 31 h31, cond_false, Bool.false_or, Bool.or_false, Option.bind_some]
  cases o == 34 <;> cases o == 27 <;> cases o == 28 <;> cases o == 32 <;> cases decide (o < 1) <;> cases decide (o > 34) <;> rfl
theorem within_eq (n c a : Int) : withinN n c a = some (within n c a, ()) := by
  unfold withinN within
  cases decide (a ≥ c) <;> cases decide (n ≥ 0) <;> rfl
theorem igood_eq (i : Ins) : igoodN i = some (igood i, ()) := by
  unfold igoodN igood
  cases decide (iargs i.1 ≥ 0) <;> cases within i.2.1 (iargs i.1) 0 <;> rfl
theorem iargs_range (o : Int) : iargs o = -1 ∨ iargs o = 0 ∨ iargs o = 1 ∨ iargs o = 2 := by
  unfold iargs
  cases ([1, 3, 4, 18, 19, 22, 23, 29, 30, 31, 34] : List Int).contains o <;> cases (o == 27 || (o == 28 || o == 32)) <;> cases (decide (o < 1) || decide (o > 34)) <;> simp
theorem rargs_eq (o : Int) : rargsN o = some (rargs o, ()) := by
  unfold rargsN rargs
  have hr : rin ([1, 3, 4, 18, 19, 22, 23, 29, 30, 31, 34] : List Int) o = some (([1, 3, 4, 18, 19, 22, 23, 29, 30, 31, 34] : List Int).contains o, ()) := rfl
  rw [hr]
  by_cases h1 : o < 1
  · have hc : ([1, 3, 4, 18, 19, 22, 23, 29, 30, 31, 34] : List Int).contains o = false := by
      simp; omega
    have h2 : (o == 27 || (o == 28 || o == 32)) = false := by simp; omega
    unfold iargs
    rw [hc, h2, decide_eq_true h1]; rfl
  by_cases h34 : o > 34
  · have hc : ([1, 3, 4, 18, 19, 22, 23, 29, 30, 31, 34] : List Int).contains o = false := by
      simp; omega
    have h2 : (o == 27 || (o == 28 || o == 32)) = false := by simp; omega
    unfold iargs
    rw [hc, h2, decide_eq_false h1, decide_eq_true h34]; rfl
  unfold iargs
  rw [decide_eq_false h1, decide_eq_false h34]
  simp only [Option.bind_some]
  cases ([1, 3, 4, 18, 19, 22, 23, 29, 30, 31, 34] : List Int).contains o <;> cases o == 27 <;> cases o == 28 <;> cases o == 32 <;> rfl
theorem rinstr_eq (i : Ins) : rinstrN i = some (rinstr i, ()) := by
  unfold rinstrN rinstr igood rargs within
  generalize i.2.1 = a
  generalize i.2.2.1 = b
  rcases iargs_range i.1 with h | h | h | h <;> rw [h] <;> by_cases ha : a = 0 <;> by_cases hb : b = 0 <;>
    first
      | (subst ha; subst hb; rfl)
      | (subst ha; have hb' : (b == 0) = false := by simpa using hb
         have hb2 : (b != 0) = true := by simpa using hb
         simp only [hb', hb2]; cases decide (b ≥ 0) <;> cases decide (b ≤ 255) <;> rfl)
      | (subst hb; have ha' : (a == 0) = false := by simpa using ha
         have ha2 : (a != 0) = true := by simpa using ha
         simp only [ha', ha2]; cases decide (a ≥ 0) <;> cases decide (a ≤ 255) <;> rfl)
      | (have ha' : (a == 0) = false := by simpa using ha
         have ha2 : (a != 0) = true := by simpa using ha
         have hb' : (b == 0) = false := by simpa using hb
         have hb2 : (b != 0) = true := by simpa using hb
         simp only [ha', ha2, hb', hb2]; cases decide (a ≥ 0) <;> cases decide (a ≤ 255) <;> cases decide (b ≥ 0) <;> cases decide (b ≤ 255) <;> rfl)
end Go.Pli

namespace Go.Pli
open Go Go.PM
theorem encF_small {j v : Nat} (h : v < 128) : encF j v = [(v : Int)] := by
 cases j with
 | zero => rfl
 | succ j => simp [encF, h]
theorem decF_encF : ∀ (k j i x v : Nat) (rest : List Int), 1 ≤ k → v < 128 ^ (j + 1) → v < 128 ^ k → (i = 0 ∨ 0 < v) →
  decF k i x (encF j v ++ rest) = some (x + 128 ^ i * v, i + (encF j v).length, true)
 | 0, _, _, _, _, _, hk, _, _, _ => by omega
 | k + 1, j, i, x, v, rest, _, hj, hk, hi => by
  by_cases hv : v < 128
  ·rw [encF_small hv]
   have h1 : (v : Int) < 128 := by omega
   have h2 : ((v : Int)).toNat % 128 = v := by omega
   have h3 : (i == 0 || decide ((0 : Int) < (v : Int))) = true := by
    rcases hi with hi | hi
    ·subst hi; rfl
    ·have : decide ((0 : Int) < (v : Int)) = true := decide_eq_true (by omega)
     rw [this]; simp
   simp only [List.cons_append, List.nil_append, decF, if_pos h1, h2, h3, List.length_cons, List.length_nil]
  ·cases j with
   | zero => simp at hj; omega
   | succ j =>
    have hk1 : 1 ≤ k := by
     rcases Nat.eq_zero_or_pos k with h | h
     ·subst h; simp at hk; omega
     ·exact h
    have ih := decF_encF k j (i + 1) (x + 128 ^ i * (v % 128)) (v / 128) rest hk1
     (by rw [Nat.div_lt_iff_lt_mul (by omega)]; rw [Nat.pow_succ] at hj; exact hj) (by rw [Nat.div_lt_iff_lt_mul (by omega)]; rw [Nat.pow_succ] at hk; exact hk) (.inr (Nat.div_pos (by omega) (by omega)))
    have h1 : ¬ (((128 + v % 128 : Nat) : Int) < 128) := by omega
    have h2 : (((128 + v % 128 : Nat) : Int)).toNat % 128 = v % 128 := by omega
    simp only [encF, if_neg hv, List.cons_append, decF, if_neg h1, h2]
    rw [ih]
    have e1 : x + 128 ^ i * (v % 128) + 128 ^ (i + 1) * (v / 128) = x + 128 ^ i * v := by
     rw [Nat.pow_succ, Nat.mul_assoc, Nat.add_assoc, ← Nat.mul_add, Nat.mod_add_div]
    rw [e1, List.length_cons]
    have e2 : i + 1 + (encF j (v / 128)).length = i + ((encF j (v / 128)).length + 1) := by omega
    rw [e2]
theorem encF_bytes : ∀ (j v : Nat), v < 128 ^ (j + 1) → bytesB (encF j v) = true
 | 0, v, h => by
  have h0 : v < 128 := by simpa using h
  simp [encF, bytesB]; omega
 | j + 1, v, h => by
  simp only [encF]
  split
  ·simp [bytesB]; omega
  ·have ih := encF_bytes j (v / 128) (by rw [Nat.div_lt_iff_lt_mul (by omega)]; rw [Nat.pow_succ] at h; exact h)
   simp only [bytesB, List.all_cons, Bool.and_eq_true, decide_eq_true_eq] at ih ⊢
   exact ⟨⟨by omega, by omega⟩, ih⟩
theorem encF_more : ∀ (j v : Nat), v < 128 ^ (j + 1) → encF (j + 1) v = encF j v
 | 0, v, h => by
  have h0 : v < 128 := by simpa using h
  simp [encF, h0]
 | j + 1, v, h => by
  have ih := encF_more j (v / 128) (by rw [Nat.div_lt_iff_lt_mul (by omega)]; rw [Nat.pow_succ] at h; exact h)
  rw [encF]
  conv => rhs; rw [encF]
  rw [ih]
theorem encF_le {j m v : Nat} (h : v < 128 ^ (j + 1)) (hm : j ≤ m) : encF m v = encF j v := by
 induction m with
 | zero => have : j = 0 := by omega
           subst this; rfl
 | succ m ih =>
  rcases Nat.lt_or_ge j (m + 1) with hj | hj
  ·have hp : (128 : Nat) ^ (j + 1) ≤ 128 ^ (m + 1) := Nat.pow_le_pow_right (by omega) (by omega)
   rw [encF_more m v (by omega), ih (by omega)]
  ·have : j = m + 1 := by omega
   subst this; rfl
theorem decF_inv : ∀ (k i x : Nat) (l : List Int) (y n : Nat), bytesB (l.take k) = true → decF k i x l = some (y, n, true) →
  ∃ v m, y = x + 128 ^ i * v ∧ n = i + m ∧ 1 ≤ m ∧ m ≤ l.length ∧ l.take m = encF (k - 1) v ∧ v < 128 ^ k ∧ (i = 0 ∨ 0 < v)
 | 0, _, _, _, _, _, _, h => by simp [decF] at h
 | k + 1, _, _, [], _, _, _, h => by simp [decF] at h
 | k + 1, i, x, c :: l, y, n, hb, h => by
  have hb' : (decide (0 ≤ c) && decide (c < 256)) = true ∧ bytesB (l.take k) = true := by
   have : bytesB ((c :: l).take (k + 1)) = true := hb
   simpa only [List.take_succ_cons, bytesB, List.all_cons, Bool.and_eq_true] using this
  have hc : 0 ≤ c ∧ c < 256 := by simpa using hb'.1
  simp only [decF] at h
  split at h
  ·rename_i hlt
   simp only [Option.some.injEq, Prod.mk.injEq, Bool.or_eq_true, beq_iff_eq, decide_eq_true_eq] at h
   obtain ⟨h1, h2, h3⟩ := h
   have hm : c.toNat % 128 = c.toNat := by omega
   refine ⟨c.toNat, 1, by rw [← h1, hm], h2.symm, by omega, by simp, ?_, ?_, by omega⟩
   ·rw [encF_small (by omega)]
    simp; omega
   ·have : (128 : Nat) ^ 1 ≤ 128 ^ (k + 1) := Nat.pow_le_pow_right (by omega) (by omega)
    omega
  ·rename_i hlt
   obtain ⟨v, m, e1, e2, e3, e4, e5, e6, e7⟩ := decF_inv k (i + 1) _ l y n hb'.2 h
   have hv : 0 < v := by omega
   have hk1 : 1 ≤ k := by
    rcases Nat.eq_zero_or_pos k with h | h
    ·subst h; simp at e6; omega
    ·exact h
   refine ⟨c.toNat % 128 + 128 * v, m + 1, ?_, by omega, by omega, by simp; omega, ?_, ?_, .inr (by omega)⟩
   ·rw [e1, Nat.pow_succ, Nat.mul_add, Nat.add_assoc, Nat.mul_assoc]
   ·obtain ⟨k', rfl⟩ : ∃ k', k = k' + 1 := ⟨k - 1, by omega⟩
    have hnl : ¬ (c.toNat % 128 + 128 * v < 128) := by omega
    simp only [Nat.add_sub_cancel] at e5 ⊢
    rw [List.take_succ_cons, e5, encF, if_neg hnl]
    have a1 : (c.toNat % 128 + 128 * v) % 128 = c.toNat % 128 := by omega
    have a2 : (c.toNat % 128 + 128 * v) / 128 = v := by omega
    rw [a1, a2]
    congr 1
    omega
   ·rw [Nat.pow_succ]
    have := Nat.mul_le_mul_right 128 (show v + 1 ≤ 128 ^ k from e6)
    omega
theorem bytesB_append {a b : List Int} : bytesB (a ++ b) = (bytesB a && bytesB b) := by simp [bytesB]
theorem bytesB_take {l : List Int} (n : Nat) (h : bytesB l = true) : bytesB (l.take n) = true := by
 simp only [bytesB, List.all_eq_true] at h ⊢
 exact fun x hx => h x (List.mem_of_mem_take hx)
theorem next_enc {v : Nat} {rest : List Int} {bad : Bool} (hv : v < 128 ^ 5) (hb : bytesB rest = true) : next (enc v ++ rest, bad, ()) = some ((v : Int), true, (rest, bad, ()), ()) := by
 have he : enc v = encF 4 v := encF_le hv (by omega)
 have hbs : bytesB ((enc v ++ rest).take 5) = true := bytesB_take 5 (by rw [bytesB_append, hb, he, encF_bytes 4 v hv]; rfl)
 unfold next
 simp only [hbs, cond_true]
 rw [he, decF_encF 5 4 0 0 v rest (by omega) hv hv (.inl rfl)]
 simp
theorem get_enc {v : Nat} {rest : List Int} {n : Int} (hv : v < 128 ^ 5) (hb : bytesB rest = true) (hn : (v : Int) ≤ n) (hn2 : n < 9223372036854775808) : getN (enc v ++ rest, false, ()) n = some ((v : Int), (rest, false, ()), ()) := by
 unfold getN
 rw [next_enc hv hb]
 have h0 : ¬ n < 0 := by omega
 have hw : IntKind.u64.wrap n = n := by rw [IntKind.wrap_u64]; omega
 have h1 : ¬ ((v : Int) > n) := by omega
 have hw2 : IntKind.i64.wrap (v : Int) = v := w64 (by omega) (by omega)
 simp only [cond_false, Option.bind_some, Bool.not_true, decide_eq_false h0, hw, decide_eq_false h1, hw2]
theorem enc_bytes {v : Nat} (h : v < 128 ^ 11) : bytesB (enc v) = true := encF_bytes 10 v h
end Go.Pli

namespace Go.Pli
open Go Go.PM
def ienc (i : Ins) : List Int := enc i.1.toNat ++ (bif decide (iargs i.1 < 1) then [] else enc i.2.1.toNat ++ (bif decide (iargs i.1 < 2) then [] else enc i.2.2.1.toNat))
theorem iput_eq {b : List Int} {i : Ins} (hb : b.length < 900000) (h1 : i.1 < 9223372036854775808) (h2 : i.2.1 < 9223372036854775808) (h3 : i.2.2.1 < 9223372036854775808) : iput b i = some (b ++ ienc i, ()) := by
 unfold iput ienc
 have l1 := enc_length i.1.toNat
 have l2 := enc_length i.2.1.toNat
 rw [put_eq (by omega) h1]
 simp only [Option.bind_some]
 cases decide (iargs i.1 < 1)
 ·simp only [cond_false]
  rw [put_eq (by simp; omega) h2]
  simp only [Option.bind_some]
  cases decide (iargs i.1 < 2)
  ·simp only [cond_false]
   rw [put_eq (by simp; omega) h3]
   simp
  ·simp
 ·simp
theorem ienc_length (i : Ins) : 1 ≤ (ienc i).length ∧ (ienc i).length ≤ 33 := by
 unfold ienc
 have l1 := enc_length i.1.toNat
 have l2 := enc_length i.2.1.toNat
 have l3 := enc_length i.2.2.1.toNat
 have p1 : 1 ≤ (enc i.1.toNat).length := by
  unfold enc
  rw [encF]
  split <;> simp
 cases decide (iargs i.1 < 1) <;> cases decide (iargs i.1 < 2) <;> simp <;> omega
theorem good_range {i : Ins} (h : igood i = true) : (1 ≤ i.1 ∧ i.1 ≤ 34) ∧ (0 ≤ i.2.1 ∧ i.2.1 ≤ 255) ∧ (0 ≤ i.2.2.1 ∧ i.2.2.1 ≤ 255) ∧ (iargs i.1 < 1 → i.2.1 = 0) ∧ (iargs i.1 < 2 → i.2.2.1 = 0) := by
 unfold igood within at h
 have hr : iargs i.1 ≥ 0 → 1 ≤ i.1 ∧ i.1 ≤ 34 := by
  intro h0
  unfold iargs at h0
  by_cases h1 : i.1 < 1
  ·have hc : ([1, 3, 4, 18, 19, 22, 23, 29, 30, 31, 34] : List Int).contains i.1 = false := by simp; omega
   have h2 : (i.1 == 27 || (i.1 == 28 || i.1 == 32)) = false := by simp; omega
   rw [hc, h2, decide_eq_true h1, Bool.true_or] at h0
   exact absurd h0 (by decide)
  by_cases h34 : i.1 > 34
  ·have hc : ([1, 3, 4, 18, 19, 22, 23, 29, 30, 31, 34] : List Int).contains i.1 = false := by simp; omega
   have h2 : (i.1 == 27 || (i.1 == 28 || i.1 == 32)) = false := by simp; omega
   rw [hc, h2, decide_eq_true h34, Bool.or_true] at h0
   exact absurd h0 (by decide)
  omega
 rcases iargs_range i.1 with ha | ha | ha | ha <;> rw [ha] at h hr ⊢ <;> simp at h hr ⊢ <;> omega
theorem getN_ienc {i : Ins} {rest : List Int} (hg : igood i = true) (hb : bytesB rest = true) : igetN (ienc i ++ rest, false, ()) = some (i, (rest, false, ()), ()) := by
 obtain ⟨⟨o1, o2⟩, ⟨a1, a2⟩, ⟨b1, b2⟩, z1, z2⟩ := good_range hg
 obtain ⟨o, a, b, u⟩ := i
 simp only at o1 o2 a1 a2 b1 b2 z1 z2
 have ho : ((o.toNat : Nat) : Int) = o := by omega
 have haa : ((a.toNat : Nat) : Int) = a := by omega
 have hbb : ((b.toNat : Nat) : Int) = b := by omega
 have eb : bytesB (enc b.toNat) = true := enc_bytes (by omega)
 have ea : bytesB (enc a.toNat) = true := enc_bytes (by omega)
 unfold igetN ienc
 simp only [List.append_assoc]
 by_cases h1 : iargs o < 1
 ·have e1 := z1 h1
  have e2 := z2 (by omega)
  subst e1; subst e2
  rw [decide_eq_true h1]
  simp only [cond_true, List.nil_append]
  rw [get_enc (v := o.toNat) (by omega) hb (by omega) (by omega), ho]
  have h2 : ¬ iargs o > 0 := by omega
  have h3 : ¬ iargs o > 1 := by omega
  simp only [Option.bind_some, decide_eq_false h2, decide_eq_false h3, cond_false]
 ·rw [decide_eq_false h1]
  simp only [cond_false, List.append_assoc]
  have h2 : iargs o > 0 := by omega
  by_cases h3 : iargs o < 2
  ·have e2 := z2 h3
   subst e2
   rw [decide_eq_true h3]
   simp only [cond_true, List.nil_append]
   rw [get_enc (v := o.toNat) (by omega) (by rw [bytesB_append, ea, hb]; rfl) (by omega) (by omega), ho]
   have h4 : ¬ iargs o > 1 := by omega
   simp only [Option.bind_some, decide_eq_true h2, cond_true]
   rw [get_enc (v := a.toNat) (by omega) hb (by omega) (by omega), haa]
   simp only [Option.bind_some, decide_eq_false h4, cond_false]
  ·rw [decide_eq_false h3]
   simp only [cond_false]
   rw [get_enc (v := o.toNat) (by omega) (by rw [bytesB_append, ea, bytesB_append, eb, hb]; rfl) (by omega) (by omega), ho]
   have h4 : iargs o > 1 := by omega
   simp only [Option.bind_some, decide_eq_true h2, cond_true]
   rw [get_enc (v := a.toNat) (by omega) (by rw [bytesB_append, eb, hb]; rfl) (by omega) (by omega), haa]
   simp only [Option.bind_some, decide_eq_true h4, cond_true]
   rw [get_enc (v := b.toNat) (by omega) hb (by omega) (by omega), hbb]
   rfl
end Go.Pli

namespace Go.Pli
open Go Go.PM
end Go.Pli

namespace Go.Pli
open Go Go.PM
def flat (l : List Ins) : List Int := (l.filter igood).flatMap ienc
theorem flat_cons_good {i : Ins} {l : List Ins} (h : igood i = true) : flat (i :: l) = ienc i ++ flat l := by simp [flat, h]
theorem flat_cons_bad {i : Ins} {l : List Ins} (h : igood i = false) : flat (i :: l) = flat l := by simp [flat, h]
theorem enc_one {v : Nat} (h : v < 128) : (enc v).length = 1 := by unfold enc; rw [encF_small h]; rfl
theorem enc_two {v : Nat} (h : v < 16384) : 1 ≤ (enc v).length ∧ (enc v).length ≤ 2 := by
 have : enc v = encF 1 v := encF_le (by omega) (by omega)
 rw [this, encF]
 split <;> simp [encF]
theorem good_len {i : Ins} (h : igood i = true) : 1 ≤ (ienc i).length ∧ (ienc i).length ≤ 5 := by
 obtain ⟨o, a, b, -⟩ := good_range h
 have l1 := enc_one (v := i.1.toNat) (by omega)
 have l2 := enc_two (v := i.2.1.toNat) (by omega)
 have l3 := enc_two (v := i.2.2.1.toNat) (by omega)
 unfold ienc
 cases decide (iargs i.1 < 1) <;> cases decide (iargs i.1 < 2) <;> simp <;> omega
theorem ienc_bytes {i : Ins} (h : igood i = true) : bytesB (ienc i) = true := by
 obtain ⟨o, a, b, -⟩ := good_range h
 have e1 : bytesB (enc i.1.toNat) = true := enc_bytes (by omega)
 have e2 : bytesB (enc i.2.1.toNat) = true := enc_bytes (by omega)
 have e3 : bytesB (enc i.2.2.1.toNat) = true := enc_bytes (by omega)
 unfold ienc
 rw [bytesB_append, e1]
 cases decide (iargs i.1 < 1)
 ·simp only [cond_false, bytesB_append, e2]
  cases decide (iargs i.1 < 2)
  ·simp only [cond_false, e3]; rfl
  ·rfl
 ·rfl
theorem at_get {α : Type} {l pre m : List α} {x d : α} (hl : l.take 60 = pre ++ x :: m) : pre.length < l.length ∧ pre.length < 60 ∧ l.getD pre.length d = x := by
 have h1 : (l.take 60)[pre.length]? = some x := by rw [hl]; simp
 rw [List.getElem?_take] at h1
 split at h1
 ·rename_i hlt
  refine ⟨(List.getElem?_eq_some_iff.1 h1).1, hlt, ?_⟩
  rw [List.getD, h1]; rfl
 ·cases h1
theorem at_end {α : Type} {l pre : List α} (hl : l.take 60 = pre) : ¬ (pre.length < l.length ∧ pre.length < 60) := by
 rw [← hl, List.length_take]
 omega
theorem row_put (l : List Ins) : ∀ (m pre : List Ins) (b : List Int) (n : Int), l.take 60 = pre ++ m → b.length ≤ 100 * pre.length → 0 ≤ n → n ≤ pre.length →
  loopF (instRowL1 l) (m.length + 1) (b, n, (pre.length : Int), ()) = some (.inl (b ++ flat m, n + ((m.filter igood).length : Int), ()))
 | [], pre, b, n, hl, hb, hn, hn2 => by
  rw [List.append_nil] at hl
  have he := at_end hl
  rw [List.length_nil, loopF, instRowL1]
  by_cases h : pre.length < l.length
  ·have h2 : ¬ ((pre.length : Int) < 60) := by omega
   simp [h, h2, flat]
  ·have h2 : ¬ ((pre.length : Int) < (l.length : Int)) := by omega
   simp [h, flat]
 | x :: m, pre, b, n, hl, hb, hn, hn2 => by
  obtain ⟨h1, h2, h3⟩ := at_get (d := ((0 : Int), ((0 : Int), ((0 : Int), ())))) hl
  have hl' : l.take 60 = (pre ++ [x]) ++ m := by rw [hl]; simp
  have hw : IntKind.i64.wrap ((pre.length : Int) + 1) = (((pre ++ [x]).length : Nat) : Int) := by rw [w64 (by omega) (by omega)]; simp
  have hwn : IntKind.i64.wrap (n + 1) = n + 1 := w64 (by omega) (by omega)
  rw [List.length_cons, loopF, instRowL1]
  simp only [Int.toNat_natCast, h3, hw, hwn, decide_eq_true (show (pre.length : Int) < (l.length : Int) by omega), decide_eq_true (show (pre.length : Int) < 60 by omega), decide_eq_true (show (0 : Int) ≤ (pre.length : Int) by omega), Bool.and_self, cond_true]
  cases hg : igood x
  ·have ih := row_put l m (pre ++ [x]) b n hl' (by simp; omega) hn (by simp; omega)
   simp only [cond_false]
   rw [ih, flat_cons_bad hg, List.filter_cons_of_neg (by simp [hg])]
  ·obtain ⟨g1, g2, g3, -⟩ := good_range hg
   have hlen := good_len hg
   simp only [cond_true]
   rw [iput_eq (by omega) (by omega) (by omega) (by omega)]
   have ih := row_put l m (pre ++ [x]) (b ++ ienc x) (n + 1) hl' (by simp; omega) (by omega) (by simp; omega)
   simp only [Option.bind_some]
   rw [ih, flat_cons_good hg, List.filter_cons_of_pos hg]
   simp only [List.append_assoc, List.length_cons]
   congr 4
   omega
end Go.Pli
