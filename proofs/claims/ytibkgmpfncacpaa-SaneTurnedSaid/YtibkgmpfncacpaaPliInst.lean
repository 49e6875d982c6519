/- Instructions: what the functions come to. -/
import Derived.Test.YtibkgmpfncacpaaPliBits
import Derived.Laws.Strings
namespace Go.Pli
open Go Go.PM
theorem iargs_eq (o : Int) : iargsN o = some (iargs o, ()) := by
  unfold iargsN iargs
  simp only [List.contains_cons, List.contains_nil]
  by_cases h1 : o = 1
  · subst h1; rfl
  by_cases h3 : o = 3
  · subst h3; rfl
  by_cases h4 : o = 4
  · subst h4; rfl
  by_cases h18 : o = 18
  · subst h18; rfl
  by_cases h19 : o = 19
  · subst h19; rfl
  by_cases h22 : o = 22
  · subst h22; rfl
  by_cases h23 : o = 23
  · subst h23; rfl
  by_cases h29 : o = 29
  · subst h29; rfl
  by_cases h30 : o = 30
  · subst h30; rfl
  by_cases h31 : o = 31
  · subst h31; rfl
  have e : ∀ k : Int, o ≠ k → (o == k) = false := fun k h => by simpa using h
  simp only [e 1 h1, e 3 h3, e 4 h4, e 18 h18, e 19 h19, e 22 h22, e 23 h23, e 29 h29, e 30 h30, e 31 h31, cond_false, Bool.false_or, Bool.or_false, Option.bind_some]
  cases o == 34 <;> cases o == 27 <;> cases o == 28 <;> cases o == 32 <;> cases decide (o < 1) <;> cases decide (o > 34) <;> rfl
theorem within_eq (n c a : Int) : withinN n c a = some (within n c a, ()) := by
  unfold withinN within
  cases decide (a ≥ c) <;> cases decide (n ≥ 0) <;> rfl
theorem igood_eq (i : Ins) : igoodN i = some (igood i, ()) := by
  unfold igoodN igood
  cases decide (iargs i.1 ≥ 0) <;> cases within i.2.1 (iargs i.1) 0 <;> rfl
theorem iargs_range (o : Int) : iargs o = -1 ∨ iargs o = 0 ∨ iargs o = 1 ∨ iargs o = 2 := by
  unfold iargs
  cases ([1, 3, 4, 18, 19, 22, 23, 29, 30, 31, 34] : List Int).contains o <;> cases (o == 27 || (o == 28 || o == 32)) <;> cases (decide (o < 1) || decide (o > 34)) <;> simp
theorem rargs_eq (o : Int) : rargsN o = some (rargs o, ()) := by
  unfold rargsN rargs
  have hr : rin ([1, 3, 4, 18, 19, 22, 23, 29, 30, 31, 34] : List Int) o = some (([1, 3, 4, 18, 19, 22, 23, 29, 30, 31, 34] : List Int).contains o, ()) := rfl
  rw [hr]
  by_cases h1 : o < 1
  · have hc : ([1, 3, 4, 18, 19, 22, 23, 29, 30, 31, 34] : List Int).contains o = false := by
      simp; omega
    have h2 : (o == 27 || (o == 28 || o == 32)) = false := by simp; omega
    unfold iargs
    rw [hc, h2, decide_eq_true h1]; rfl
  by_cases h34 : o > 34
  · have hc : ([1, 3, 4, 18, 19, 22, 23, 29, 30, 31, 34] : List Int).contains o = false := by
      simp; omega
    have h2 : (o == 27 || (o == 28 || o == 32)) = false := by simp; omega
    unfold iargs
    rw [hc, h2, decide_eq_false h1, decide_eq_true h34]; rfl
  unfold iargs
  rw [decide_eq_false h1, decide_eq_false h34]
  simp only [Option.bind_some]
  cases ([1, 3, 4, 18, 19, 22, 23, 29, 30, 31, 34] : List Int).contains o <;> cases o == 27 <;> cases o == 28 <;> cases o == 32 <;> rfl
theorem rinstr_eq (i : Ins) : rinstrN i = some (rinstr i, ()) := by
  unfold rinstrN rinstr igood rargs within
  generalize i.2.1 = a
  generalize i.2.2.1 = b
  rcases iargs_range i.1 with h | h | h | h <;> rw [h] <;> by_cases ha : a = 0 <;> by_cases hb : b = 0 <;>
    first
      | (subst ha; subst hb; rfl)
      | (subst ha; have hb' : (b == 0) = false := by simpa using hb
         have hb2 : (b != 0) = true := by simpa using hb
         simp only [hb', hb2]; cases decide (b ≥ 0) <;> cases decide (b ≤ 255) <;> rfl)
      | (subst hb; have ha' : (a == 0) = false := by simpa using ha
         have ha2 : (a != 0) = true := by simpa using ha
         simp only [ha', ha2]; cases decide (a ≥ 0) <;> cases decide (a ≤ 255) <;> rfl)
      | (have ha' : (a == 0) = false := by simpa using ha
         have ha2 : (a != 0) = true := by simpa using ha
         have hb' : (b == 0) = false := by simpa using hb
         have hb2 : (b != 0) = true := by simpa using hb
         simp only [ha', ha2, hb', hb2]; cases decide (a ≥ 0) <;> cases decide (a ≤ 255) <;> cases decide (b ≥ 0) <;> cases decide (b ≤ 255) <;> rfl)
end Go.Pli

namespace Go.Pli
open Go Go.PM
end Go.Pli

namespace Go.Pli
open Go Go.PM
def ienc (i : Ins) : List Int := enc i.1.toNat ++ (bif decide (iargs i.1 < 1) then [] else enc i.2.1.toNat ++ (bif decide (iargs i.1 < 2) then [] else enc i.2.2.1.toNat))
theorem good_range {i : Ins} (h : igood i = true) : (1 ≤ i.1 ∧ i.1 ≤ 34) ∧ (0 ≤ i.2.1 ∧ i.2.1 ≤ 255) ∧ (0 ≤ i.2.2.1 ∧ i.2.2.1 ≤ 255) ∧ (iargs i.1 < 1 → i.2.1 = 0) ∧ (iargs i.1 < 2 → i.2.2.1 = 0) := by
 unfold igood within at h
 have hr : iargs i.1 ≥ 0 → 1 ≤ i.1 ∧ i.1 ≤ 34 := by
  intro h0
  unfold iargs at h0
  by_cases h1 : i.1 < 1
  ·have hc : ([1, 3, 4, 18, 19, 22, 23, 29, 30, 31, 34] : List Int).contains i.1 = false := by simp; omega
   have h2 : (i.1 == 27 || (i.1 == 28 || i.1 == 32)) = false := by simp; omega
   rw [hc, h2, decide_eq_true h1, Bool.true_or] at h0
   exact absurd h0 (by decide)
  by_cases h34 : i.1 > 34
  ·have hc : ([1, 3, 4, 18, 19, 22, 23, 29, 30, 31, 34] : List Int).contains i.1 = false := by simp; omega
   have h2 : (i.1 == 27 || (i.1 == 28 || i.1 == 32)) = false := by simp; omega
   rw [hc, h2, decide_eq_true h34, Bool.or_true] at h0
   exact absurd h0 (by decide)
  omega
 rcases iargs_range i.1 with ha | ha | ha | ha <;> rw [ha] at h hr ⊢ <;> simp at h hr ⊢ <;> omega
end Go.Pli

namespace Go.Pli
open Go Go.PM
end Go.Pli

namespace Go.Pli
open Go Go.PM
def flat (l : List Ins) : List Int := (l.filter igood).flatMap ienc
end Go.Pli
