/- What a method comes to, in plain Lean. -/
import Derived.Test.YtcofionghgmldaaGreatPliSort
import Derived.Test.YtcofionghgmldaaGreatPliL11
namespace Go.Pli
open Go Go.PM
theorem mem_allT {m : Im} {f g : Int} : g ∈ allT m f ↔ callsB m f g = true := by
 unfold allT callsB
 simp only [List.mem_flatten, List.mem_map, List.any_eq_true, List.contains_iff_mem]
 constructor
 ·rintro ⟨l, ⟨i, hi, rfl⟩, hg⟩; exact ⟨i, hi, hg⟩
 ·rintro ⟨i, hi, hg⟩; exact ⟨_, ⟨i, hi, rfl⟩, hg⟩
theorem tgt_in {m : Im} (h : tgtOk m = true) {f g : Int} (hf : inM m f = true) (hc : callsB m f g = true) : inM m g = true := by
 simp only [tgtOk, List.all_eq_true] at h
 exact h f (mem_ints.2 (inM_iff.1 hf)) g (mem_allT.2 hc)
theorem mem_ofB {m : Im} {f g : Int} (hf : inM m f = true) : g ∈ ofB m f ↔ callsB m f g = true := by
 unfold ofB
 rw [hf]
 simp only [cond_true]
 rw [mem_compactI, mem_sortL, mem_allT]
def Canon (m : Im) (S : List Int) : Prop := ∃ p : Int → Bool, S = (ints m.2.2.2.1.length).filter p
theorem Canon.inM {m : Im} {S : List Int} (h : Canon m S) {x : Int} (hx : x ∈ S) : inM m x = true := by
 obtain ⟨p, rfl⟩ := h
 exact inM_iff.2 (mem_ints.1 (List.mem_filter.1 hx).1)
theorem Canon.len {m : Im} {S : List Int} (h : Canon m S) : S.length ≤ m.2.2.2.1.length := by
 obtain ⟨p, rfl⟩ := h
 have := List.length_filter_le p (ints m.2.2.2.1.length)
 rwa [ints_len] at this
theorem allT_len {m : Im} (hi : ifits m = true) {f : Int} (hf : inM m f = true) : (allT m f).length ≤ 512 := by
 obtain ⟨h0, h1⟩ := inM_iff.1 hf
 have hx := (mth_of ((fit_of hi).mts _ (mtOf_mem h0 h1))).2.2.2.1.1
 unfold allT
 have key : ∀ l : List Ins, ((l.map (targetsB m)).flatten).length ≤ 8 * l.length := by
  intro l
  induction l with
  | nil => simp
  | cons i l ih =>
   have := targetsB_len hi i
   rw [List.map_cons, List.flatten_cons, List.length_append, List.length_cons]
   omega
 have := key (mtOf m f).2.2.2.1
 omega
theorem cof_ok (m : Im) (f : Int) (r) (h : cof m f = some r) : ∃ k, cofN k m f = some r := by
 unfold cof at h
 cases hi : ifits m <;> simp only [hi, cond_true, cond_false] at h
 ·cases h
 injection h with h
 subst h
 refine ⟨(mtOf m f).2.2.2.1.length + 1, ?_⟩
 unfold cofN ofB
 by_cases h0 : f < 0
 ·have : inM m f = false := by cases hh : inM m f; rfl; have := inM_iff.1 hh; omega
  rw [this, decide_eq_true h0]; rfl
 ·by_cases h1 : f ≥ (m.2.2.2.1.length : Int)
  ·have : inM m f = false := by cases hh : inM m f; rfl; have := inM_iff.1 hh; omega
   rw [this, decide_eq_false h0, decide_eq_true h1]; rfl
  ·have hf : inM m f = true := inM_iff.2 ⟨by omega, by omega⟩
   have hd : m.2.2.2.1.getD f.toNat zMt = mtOf m f := rfl
   have hr : (decide (0 ≤ f) && decide (f < (m.2.2.2.1.length : Int))) = true := by simp; omega
   have hx := (mth_of ((fit_of hi).mts _ (mtOf_mem (show 0 ≤ f by omega) (show f < (m.2.2.2.1.length : Int) by omega)))).2.2.2.1.1
   rw [hf, decide_eq_false h0, decide_eq_false h1, hr]
   simp only [cond_true, cond_false]
   have := loop_coll (L := cofL1 m f) (n := (mtOf m f).2.2.2.1.length) (B := 8) (st := fun k out => (out, (k : Int), ())) (f := fun k => targetsB m ((mtOf m f).2.2.2.1.getD k zIns)) (fin := fun out => some (compactI (sortL out), ())) (fun k _ => targetsB_len hi _)
    (fun k out rec hk ho => by
     have ht : ∀ x, ctargets m x = some (targetsB m x, ()) := fun x => by unfold ctargets; rw [hi]; rfl
     have htl := targetsB_len hi ((mtOf m f).2.2.2.1.getD k zIns)
     rw [cofL1]
     simp only [hd, dlt hk, dge, Bool.and_self, cond_true, Int.toNat_natCast, ht, Option.bind_some, room_ok (show out.length + (targetsB m ((mtOf m f).2.2.2.1.getD k zIns)).length < 549755813888 by omega), wsucc hk (by simp only [lenMax]; omega)])
    (fun out rec _ => by rw [cofL1]; simp only [hd, dnlt, cond_false]; rfl) ((mtOf m f).2.2.2.1.length + 1) (by omega)
   rw [range_mapD] at this
   exact this
end Go.Pli
