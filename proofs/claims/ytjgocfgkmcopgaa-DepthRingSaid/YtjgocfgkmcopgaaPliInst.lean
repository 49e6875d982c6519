/- Instructions: what the functions come to. -/
import Derived.Test.YtjgocfgkmcopgaaPliBits
import Derived.Laws.Strings
namespace Go.Pli
open Go Go.PM
theorem iargs_range (o : Int) : iargs o = -1 ∨ iargs o = 0 ∨ iargs o = 1 ∨ iargs o = 2 := by
  unfold iargs
  cases ([1, 3, 4, 18, 19, 22, 23, 29, 30, 31, 34] : List Int).contains o <;> cases (o == 27 || (o == 28 || o == 32)) <;> cases (decide (o < 1) || decide (o > 34)) <;> simp
theorem rargs_eq (o : Int) : rargsN o = some (rargs o, ()) := by
  unfold rargsN rargs
  have hr : rin ([1, 3, 4, 18, 19, 22, 23, 29, 30, 31, 34] : List Int) o = some (([1, 3, 4, 18, 19, 22, 23, 29, 30, 31, 34] : List Int).contains o, ()) := rfl
  rw [hr]
  by_cases h1 : o < 1
  · have hc : ([1, 3, 4, 18, 19, 22, 23, 29, 30, 31, 34] : List Int).contains o = false := by
      simp; omega
    have h2 : (o == 27 || (o == 28 || o == 32)) = false := by simp; omega
    unfold iargs
    rw [hc, h2, decide_eq_true h1]; rfl
  by_cases h34 : o > 34
  · have hc : ([1, 3, 4, 18, 19, 22, 23, 29, 30, 31, 34] : List Int).contains o = false := by
      simp; omega
    have h2 : (o == 27 || (o == 28 || o == 32)) = false := by simp; omega
    unfold iargs
    rw [hc, h2, decide_eq_false h1, decide_eq_true h34]; rfl
  unfold iargs
  rw [decide_eq_false h1, decide_eq_false h34]
  simp only [Option.bind_some]
  cases ([1, 3, 4, 18, 19, 22, 23, 29, 30, 31, 34] : List Int).contains o <;> cases o == 27 <;> cases o == 28 <;> cases o == 32 <;> rfl
theorem rinstr_eq (i : Ins) : rinstrN i = some (rinstr i, ()) := by
  unfold rinstrN rinstr igood rargs within
  generalize i.2.1 = a
  generalize i.2.2.1 = b
  rcases iargs_range i.1 with h | h | h | h <;> rw [h] <;> by_cases ha : a = 0 <;> by_cases hb : b = 0 <;>
    first
      | (subst ha; subst hb; rfl)
      | (subst ha; have hb' : (b == 0) = false := by simpa using hb
         have hb2 : (b != 0) = true := by simpa using hb
         simp only [hb', hb2]; cases decide (b ≥ 0) <;> cases decide (b ≤ 255) <;> rfl)
      | (subst hb; have ha' : (a == 0) = false := by simpa using ha
         have ha2 : (a != 0) = true := by simpa using ha
         simp only [ha', ha2]; cases decide (a ≥ 0) <;> cases decide (a ≤ 255) <;> rfl)
      | (have ha' : (a == 0) = false := by simpa using ha
         have ha2 : (a != 0) = true := by simpa using ha
         have hb' : (b == 0) = false := by simpa using hb
         have hb2 : (b != 0) = true := by simpa using hb
         simp only [ha', ha2, hb', hb2]; cases decide (a ≥ 0) <;> cases decide (a ≤ 255) <;> cases decide (b ≥ 0) <;> cases decide (b ≤ 255) <;> rfl)
end Go.Pli

namespace Go.Pli
open Go Go.PM
theorem encF_small {j v : Nat} (h : v < 128) : encF j v = [(v : Int)] := by
 cases j with
 | zero => rfl
 | succ j => simp [encF, h]
theorem encF_more : ∀ (j v : Nat), v < 128 ^ (j + 1) → encF (j + 1) v = encF j v
 | 0, v, h => by
  have h0 : v < 128 := by simpa using h
  simp [encF, h0]
 | j + 1, v, h => by
  have ih := encF_more j (v / 128) (by rw [Nat.div_lt_iff_lt_mul (by omega)]; rw [Nat.pow_succ] at h; exact h)
  rw [encF]
  conv => rhs; rw [encF]
  rw [ih]
theorem encF_le {j m v : Nat} (h : v < 128 ^ (j + 1)) (hm : j ≤ m) : encF m v = encF j v := by
 induction m with
 | zero => have : j = 0 := by omega
           subst this; rfl
 | succ m ih =>
  rcases Nat.lt_or_ge j (m + 1) with hj | hj
  ·have hp : (128 : Nat) ^ (j + 1) ≤ 128 ^ (m + 1) := Nat.pow_le_pow_right (by omega) (by omega)
   rw [encF_more m v (by omega), ih (by omega)]
  ·have : j = m + 1 := by omega
   subst this; rfl
end Go.Pli

namespace Go.Pli
open Go Go.PM
def ienc (i : Ins) : List Int := enc i.1.toNat ++ (bif decide (iargs i.1 < 1) then [] else enc i.2.1.toNat ++ (bif decide (iargs i.1 < 2) then [] else enc i.2.2.1.toNat))
theorem iput_eq {b : List Int} {i : Ins} (hb : b.length < 900000) (h1 : i.1 < 9223372036854775808) (h2 : i.2.1 < 9223372036854775808) (h3 : i.2.2.1 < 9223372036854775808) : iput b i = some (b ++ ienc i, ()) := by
 unfold iput ienc
 have l1 := enc_length i.1.toNat
 have l2 := enc_length i.2.1.toNat
 rw [put_eq (by omega) h1]
 simp only [Option.bind_some]
 cases decide (iargs i.1 < 1)
 ·simp only [cond_false]
  rw [put_eq (by simp; omega) h2]
  simp only [Option.bind_some]
  cases decide (iargs i.1 < 2)
  ·simp only [cond_false]
   rw [put_eq (by simp; omega) h3]
   simp
  ·simp
 ·simp
theorem good_range {i : Ins} (h : igood i = true) : (1 ≤ i.1 ∧ i.1 ≤ 34) ∧ (0 ≤ i.2.1 ∧ i.2.1 ≤ 255) ∧ (0 ≤ i.2.2.1 ∧ i.2.2.1 ≤ 255) ∧ (iargs i.1 < 1 → i.2.1 = 0) ∧ (iargs i.1 < 2 → i.2.2.1 = 0) := by
 unfold igood within at h
 have hr : iargs i.1 ≥ 0 → 1 ≤ i.1 ∧ i.1 ≤ 34 := by
  intro h0
  unfold iargs at h0
  by_cases h1 : i.1 < 1
  ·have hc : ([1, 3, 4, 18, 19, 22, 23, 29, 30, 31, 34] : List Int).contains i.1 = false := by simp; omega
   have h2 : (i.1 == 27 || (i.1 == 28 || i.1 == 32)) = false := by simp; omega
   rw [hc, h2, decide_eq_true h1, Bool.true_or] at h0
   exact absurd h0 (by decide)
  by_cases h34 : i.1 > 34
  ·have hc : ([1, 3, 4, 18, 19, 22, 23, 29, 30, 31, 34] : List Int).contains i.1 = false := by simp; omega
   have h2 : (i.1 == 27 || (i.1 == 28 || i.1 == 32)) = false := by simp; omega
   rw [hc, h2, decide_eq_true h34, Bool.or_true] at h0
   exact absurd h0 (by decide)
  omega
 rcases iargs_range i.1 with ha | ha | ha | ha <;> rw [ha] at h hr ⊢ <;> simp at h hr ⊢ <;> omega
end Go.Pli

namespace Go.Pli
open Go Go.PM
end Go.Pli

namespace Go.Pli
open Go Go.PM
def flat (l : List Ins) : List Int := (l.filter igood).flatMap ienc
theorem flat_cons_good {i : Ins} {l : List Ins} (h : igood i = true) : flat (i :: l) = ienc i ++ flat l := by simp [flat, h]
theorem flat_cons_bad {i : Ins} {l : List Ins} (h : igood i = false) : flat (i :: l) = flat l := by simp [flat, h]
theorem enc_one {v : Nat} (h : v < 128) : (enc v).length = 1 := by unfold enc; rw [encF_small h]; rfl
theorem enc_two {v : Nat} (h : v < 16384) : 1 ≤ (enc v).length ∧ (enc v).length ≤ 2 := by
 have : enc v = encF 1 v := encF_le (by omega) (by omega)
 rw [this, encF]
 split <;> simp [encF]
theorem good_len {i : Ins} (h : igood i = true) : 1 ≤ (ienc i).length ∧ (ienc i).length ≤ 5 := by
 obtain ⟨o, a, b, -⟩ := good_range h
 have l1 := enc_one (v := i.1.toNat) (by omega)
 have l2 := enc_two (v := i.2.1.toNat) (by omega)
 have l3 := enc_two (v := i.2.2.1.toNat) (by omega)
 unfold ienc
 cases decide (iargs i.1 < 1) <;> cases decide (iargs i.1 < 2) <;> simp <;> omega
theorem at_get {α : Type} {l pre m : List α} {x d : α} (hl : l.take 60 = pre ++ x :: m) : pre.length < l.length ∧ pre.length < 60 ∧ l.getD pre.length d = x := by
 have h1 : (l.take 60)[pre.length]? = some x := by rw [hl]; simp
 rw [List.getElem?_take] at h1
 split at h1
 ·rename_i hlt
  refine ⟨(List.getElem?_eq_some_iff.1 h1).1, hlt, ?_⟩
  rw [List.getD, h1]; rfl
 ·cases h1
theorem at_end {α : Type} {l pre : List α} (hl : l.take 60 = pre) : ¬ (pre.length < l.length ∧ pre.length < 60) := by
 rw [← hl, List.length_take]
 omega
theorem row_put (l : List Ins) : ∀ (m pre : List Ins) (b : List Int) (n : Int), l.take 60 = pre ++ m → b.length ≤ 100 * pre.length → 0 ≤ n → n ≤ pre.length →
  loopF (instRowL1 l) (m.length + 1) (b, n, (pre.length : Int), ()) = some (.inl (b ++ flat m, n + ((m.filter igood).length : Int), ()))
 | [], pre, b, n, hl, hb, hn, hn2 => by
  rw [List.append_nil] at hl
  have he := at_end hl
  rw [List.length_nil, loopF, instRowL1]
  by_cases h : pre.length < l.length
  ·have h2 : ¬ ((pre.length : Int) < 60) := by omega
   simp [h, h2, flat]
  ·have h2 : ¬ ((pre.length : Int) < (l.length : Int)) := by omega
   simp [h, flat]
 | x :: m, pre, b, n, hl, hb, hn, hn2 => by
  obtain ⟨h1, h2, h3⟩ := at_get (d := ((0 : Int), ((0 : Int), ((0 : Int), ())))) hl
  have hl' : l.take 60 = (pre ++ [x]) ++ m := by rw [hl]; simp
  have hw : IntKind.i64.wrap ((pre.length : Int) + 1) = (((pre ++ [x]).length : Nat) : Int) := by rw [w64 (by omega) (by omega)]; simp
  have hwn : IntKind.i64.wrap (n + 1) = n + 1 := w64 (by omega) (by omega)
  rw [List.length_cons, loopF, instRowL1]
  simp only [Int.toNat_natCast, h3, hw, hwn, decide_eq_true (show (pre.length : Int) < (l.length : Int) by omega), decide_eq_true (show (pre.length : Int) < 60 by omega), decide_eq_true (show (0 : Int) ≤ (pre.length : Int) by omega), Bool.and_self, cond_true]
  cases hg : igood x
  ·have ih := row_put l m (pre ++ [x]) b n hl' (by simp; omega) hn (by simp; omega)
   simp only [cond_false]
   rw [ih, flat_cons_bad hg, List.filter_cons_of_neg (by simp [hg])]
  ·obtain ⟨g1, g2, g3, -⟩ := good_range hg
   have hlen := good_len hg
   simp only [cond_true]
   rw [iput_eq (by omega) (by omega) (by omega) (by omega)]
   have ih := row_put l m (pre ++ [x]) (b ++ ienc x) (n + 1) hl' (by simp; omega) (by omega) (by simp; omega)
   simp only [Option.bind_some]
   rw [ih, flat_cons_good hg, List.filter_cons_of_pos hg]
   simp only [List.append_assoc, List.length_cons]
   congr 4
   omega
end Go.Pli
