/- The laws on whether all is there, plain. -/
import Derived.Test.YtcofionghgmldaaGreatPliL5E
import Derived.KernelRfl
import Derived.Test.YtcofionghgmldaaGreatPliReach
import Derived.Test.YtcofionghgmldaaGreatPliLaw16A
namespace Go.Pli
open Go Go.PM
structure Grow (m n : Im) : Prop where
 cls : ∃ e, n.1 = m.1 ++ e
 statics : m.2.1.length ≤ n.2.1.length
 ints : m.2.2.1.length ≤ n.2.2.1.length
 mts : n.2.2.2.1 = m.2.2.2.1
end Go.Pli

namespace Go.Pli
open Go Go.PM
theorem mem_slotsOf {m : Im} {l : List Int} {n g : Int} (h : g ∈ slotsOf m l n) : ∃ c ∈ l, hasSlot m c n = true ∧ g = (clOf m c).2.2.1.getD n.toNat 0 := by
 simp only [slotsOf, List.mem_map, List.mem_filter] at h
 obtain ⟨c, ⟨h1, h2⟩, rfl⟩ := h
 unfold cslot at h2 ⊢
 cases hs : hasSlot m c n <;> simp only [hs, cond_true, cond_false] at h2 ⊢
 ·cases h2
 ·exact ⟨c, h1, hs, rfl⟩
theorem tgtOk_of {m : Im} (h : saneB m = true) : tgtOk m = true := by
 simp only [saneB, Bool.and_eq_true] at h
 obtain ⟨-, hc, hm, -⟩ := h
 simp only [tgtOk, List.all_eq_true]
 intro f hf g hg
 obtain ⟨h0, h1⟩ := mem_ints.1 hf
 have hmth := List.all_eq_true.1 hm _ (mtOf_mem h0 h1)
 simp only [methodB, Bool.and_eq_true] at hmth
 have hins := hmth.2.2.2.2.2.2
 simp only [allT, List.mem_flatten, List.mem_map] at hg
 obtain ⟨l, ⟨i, hi, rfl⟩, hg⟩ := hg
 have hiB := List.all_eq_true.1 hins i hi
 unfold targetsB at hg
 cases h31 : i.1 == 31 <;> simp only [h31, cond_true, cond_false] at hg
 ·cases h32 : i.1 == 32 <;> simp only [h32, cond_true, cond_false] at hg
  ·cases hg
  ·obtain ⟨c, hcl, hs, rfl⟩ := mem_slotsOf hg
   simp only [hasSlot, Bool.and_eq_true, decide_eq_true_eq] at hs
   obtain ⟨⟨c0, c1⟩, n0, n1⟩ := hs
   have hk : i.2.2.1.toNat < (clOf m c).2.2.1.length := by omega
   have hget : (clOf m c).2.2.1[i.2.2.1.toNat]? = some ((clOf m c).2.2.1.getD i.2.2.1.toNat 0) := by
    rw [List.getD_eq_getElem?_getD, List.getElem?_eq_getElem hk]; rfl
   have := (slots_of (allC_of hc c0 c1) hget).1
   exact inM_iff.2 this
 ·rw [List.mem_singleton] at hg
  subst hg
  have e : i.1 = 31 := by simpa using h31
  unfold instrB at hiB
  rw [e] at hiB
  have : sin i.2.1 (m.2.2.2.1.length : Int) = true := hiB
  exact this
end Go.Pli

namespace Go.Pli
open Go Go.PM
theorem compactI_le : ∀ l : List Int, (compactI l).length ≤ l.length
 | [] => Nat.le_refl _
 | a :: l => by
  have := compactI_le l
  unfold compactI
  cases h : compactI l with
  | nil => simp
  | cons b r =>
   rw [h] at this
   simp only [List.length_cons] at this ⊢
   cases a == b <;> simp only [cond_true, cond_false, List.length_cons] <;> omega
theorem ofAll_row {m : Im} (hs : saneP m = true) {e : List Int} (he : e ∈ ofAll m) : e.length ≤ 1000 ∧ ∀ x ∈ e, inM m x = true := by
 obtain ⟨f, hf, rfl⟩ := List.mem_map.1 he
 have hfm : inM m f = true := inM_iff.2 (mem_ints.1 hf)
 have ht := tgtOk_of (saneP_of hs).2
 constructor
 ·unfold ofB
  rw [hfm]
  simp only [cond_true]
  have h1 := compactI_le (sortL (allT m f))
  have h2 := allT_len (saneP_of hs).1 hfm
  rw [(perm_sortL _).length_eq] at h1
  omega
 ·intro x hx
  exact tgt_in ht hfm ((mem_ofB hfm).1 hx)
theorem edOk_of {m : Im} (hs : saneP m = true) : edOk m = true := by
 simp only [edOk, List.all_eq_true, Bool.and_eq_true]
 intro e he
 obtain ⟨h1, h2⟩ := ofAll_row hs he
 exact ⟨okL_of (by omega), h2⟩
theorem aneeds_ends {m : Im} (hs : saneP m = true) {l : List (List Sh)} (hl : okSS l = true) : ∃ r, aneeds m l = some r := by
 have h12 := (fit_of (saneP_of hs).1).methods
 have hlen := ofAll_len m
 obtain ⟨r, hr, h1, h2⟩ := rings_ends (ED := ofAll m) (by omega) fun e he => (ofAll_row hs he).1
 have hall : (okL r.1 && r.1.all (fun p => okL p && p.all (inM m))) = true := by
  simp only [Bool.and_eq_true, List.all_eq_true]
  refine ⟨okL_of (by omega), fun p hp => ?_⟩
  obtain ⟨h3, h4⟩ := h2 p hp
  refine ⟨okL_of (by omega), fun x hx => ?_⟩
  obtain ⟨x0, x1⟩ := h4 x hx
  exact inM_iff.2 ⟨x0, by omega⟩
 unfold aneeds dbound
 rw [hs, hl, edOk_of hs, hr]
 simp only [Bool.and_self, cond_true, Option.bind_some, hall]
 exact ⟨_, rfl⟩
theorem scheck_sane {m : Im} (h : scheck m = 0) : saneP m = true := by
 unfold scheck at h
 unfold saneP
 cases h1 : ifits m <;> cases h2 : saneB m <;> simp only [h1, h2, cond_true, cond_false] at h ⊢ <;> first | rfl | (exact absurd h (by decide))
structure Told (m : Im) (t : List (List Sh) × Int × Int × Int × Unit) (n : Int × Int × Int × Unit) (p : Int × Int × Unit) : Prop where
 check : tcheck m = some t
 ok : okSS t.1 = true
 needs : aneeds m t.1 = some n
 pot : pcheck m t.1 = some p
theorem told {m : Im} (hs : saneP m = true) : ∃ t n p, Told m t n p := by
 obtain ⟨t, h1, h2, -⟩ := tcheck_ends hs
 obtain ⟨n, h3⟩ := aneeds_ends hs h2
 exact ⟨t, n, potM m t.1 (ints m.2.2.2.1.length), h1, h2, h3, by unfold pcheck; rw [hs, h2]; rfl⟩
def answer (m : Im) (t : List (List Sh) × Int × Int × Int × Unit) (n : Int × Int × Int × Unit) (p : Int × Int × Unit) : List (List Sh) × Int × Unit :=
 bif t.2.2.2.1 != 0 then ([], t.2.2.2.1, ())
 else bif n.2.2.1 != 0 then ([], n.2.2.1, ())
 else bif p.2.1 != 0 then ([], p.2.1, ())
 else bif decide (n.1 > m.2.2.2.2.2.1) then ([], 7, ())
 else bif decide (n.2.1 > m.2.2.2.2.2.2.1) then ([], 7, ())
 else (t.1, 0, ())
theorem acheck_told {m : Im} (h0 : scheck m = 0) {t n p} (h : Told m t n p) : acheckN m = some (answer m t n p) := by
 have h0' : (scheck m != 0) = false := by simp [h0]
 unfold acheckN answer
 rw [h0', h.check]
 simp only [cond_false, Option.bind_some]
 cases t.2.2.2.1 != 0 <;> simp only [cond_true, cond_false]
 rw [h.needs]
 simp only [Option.bind_some]
 cases n.2.2.1 != 0 <;> simp only [cond_true, cond_false]
 rw [h.pot]
 simp only [Option.bind_some]
 cases p.2.1 != 0 <;> simp only [cond_true, cond_false]
 cases decide (n.1 > m.2.2.2.2.2.1) <;> simp only [cond_true, cond_false]
 cases decide (n.2.1 > m.2.2.2.2.2.2.1) <;> simp only [cond_true, cond_false]
theorem acheck_bad {m : Im} (h0 : scheck m ≠ 0) : acheckN m = some ([], scheck m, ()) := by
 have h0' : (scheck m != 0) = true := by simp [h0]
 unfold acheckN
 rw [h0']
 rfl
theorem answer_ok {m : Im} {t n p} (h : Told m t n p) : okSS (answer m t n p).1 = true ∧ ((answer m t n p).2.1 ≠ 0 → (answer m t n p).1 = []) := by
 have hn : okSS [] = true := by rfl
 unfold answer
 cases h1 : t.2.2.2.1 != 0 <;> simp only [cond_true, cond_false]
 ·cases n.2.2.1 != 0 <;> simp only [cond_true, cond_false]
  ·cases p.2.1 != 0 <;> simp only [cond_true, cond_false]
   ·cases decide (n.1 > m.2.2.2.2.2.1) <;> simp only [cond_true, cond_false]
    ·cases decide (n.2.1 > m.2.2.2.2.2.2.1) <;> simp only [cond_true, cond_false]
     ·exact ⟨h.ok, fun h => absurd rfl h⟩
     ·exact ⟨hn, fun _ => trivial⟩
    ·exact ⟨hn, fun _ => trivial⟩
   ·exact ⟨hn, fun _ => trivial⟩
  ·exact ⟨hn, fun _ => trivial⟩
 ·exact ⟨hn, fun _ => trivial⟩
theorem acheck_ends (m : Im) : ∃ r, acheckN m = some r ∧ okSS r.1 = true ∧ (r.2.1 ≠ 0 → r.1 = []) := by
 by_cases h0 : scheck m = 0
 ·obtain ⟨t, n, p, ht⟩ := told (scheck_sane h0)
  exact ⟨_, acheck_told h0 ht, answer_ok ht⟩
 ·exact ⟨_, acheck_bad h0, rfl, fun _ => rfl⟩
def room (m : Im) (s h : Int) : Im := (m.1, m.2.1, m.2.2.1, m.2.2.2.1, m.2.2.2.2.1, s, h, ())
end Go.Pli
