/- Sorted rows of numbers, in plain Lean. -/
import Derived.Test.YtjgocfgkmcopgaaPliNt
import Derived.Test.YtjgocfgkmcopgaaPliL11
import Derived.Test.YtjgocfgkmcopgaaPliL5E
import Derived.KernelRfl
import Derived.Test.YtjgocfgkmcopgaaPliL14
namespace Go.Pli
open Go Go.PM
theorem mem_insI {x y : Int} : ∀ {l : List Int}, y ∈ insI x l ↔ y = x ∨ y ∈ l
 | [] => by simp [insI]
 | z :: l => by
  simp only [insI]
  cases leI x z <;> simp only [cond_true, cond_false, List.mem_cons, mem_insI (l := l)]
  constructor
  ·rintro (h | h | h)
   ·exact .inr (.inl h)
   ·exact .inl h
   ·exact .inr (.inr h)
  ·rintro (h | h | h)
   ·exact .inr (.inl h)
   ·exact .inl h
   ·exact .inr (.inr h)
theorem mem_sortL {y : Int} : ∀ {l : List Int}, y ∈ sortL l ↔ y ∈ l
 | [] => Iff.rfl
 | x :: l => by simp only [sortL, mem_insI, List.mem_cons, mem_sortL (l := l)]
theorem perm_insI (x : Int) : ∀ l : List Int, (insI x l).Perm (x :: l)
 | [] => .refl _
 | z :: l => by
  simp only [insI]
  cases leI x z <;> simp only [cond_true, cond_false]
  ·exact ((perm_insI x l).cons z).trans (.swap x z l)
  ·exact .refl _
theorem perm_sortL : ∀ l : List Int, (sortL l).Perm l
 | [] => .refl _
 | x :: l => (perm_insI x (sortL l)).trans ((perm_sortL l).cons x)
theorem rising_insI (x : Int) : ∀ {l : List Int}, l.Pairwise (· ≤ ·) → (insI x l).Pairwise (· ≤ ·)
 | [], _ => by simp [insI]
 | z :: l, h => by
  have h1 := List.pairwise_cons.1 h
  simp only [insI]
  cases hx : leI x z <;> simp only [cond_true, cond_false]
  ·have hz : z ≤ x := by simp only [leI, decide_eq_false_iff_not] at hx; omega
   refine List.pairwise_cons.2 ⟨fun y hy => ?_, rising_insI x h1.2⟩
   rcases mem_insI.1 hy with rfl | hy
   ·exact hz
   ·exact h1.1 y hy
  ·have hz : x ≤ z := by simpa [leI] using hx
   refine List.pairwise_cons.2 ⟨fun y hy => ?_, h⟩
   rcases List.mem_cons.1 hy with rfl | hy
   ·exact hz
   ·exact Int.le_trans hz (h1.1 y hy)
theorem rising_sortL : ∀ l : List Int, (sortL l).Pairwise (· ≤ ·)
 | [] => List.Pairwise.nil
 | x :: l => rising_insI x (rising_sortL l)
theorem rising_perm : ∀ {a b : List Int}, a.Pairwise (· ≤ ·) → b.Pairwise (· ≤ ·) → a.Perm b → a = b
 | [], b, _, _, h => by rw [List.Perm.nil_eq h]
 | x :: a, [], _, _, h => by have := h.length_eq; simp at this
 | x :: a, y :: b, ha, hb, h => by
  have h1 := List.pairwise_cons.1 ha
  have h2 := List.pairwise_cons.1 hb
  have hxy : x = y := by
   have hx : x ∈ y :: b := h.mem_iff.1 List.mem_cons_self
   have hy : y ∈ x :: a := h.mem_iff.2 List.mem_cons_self
   rcases List.mem_cons.1 hx with hx | hx
   ·exact hx
   ·rcases List.mem_cons.1 hy with hy | hy
    ·exact hy.symm
    ·exact Int.le_antisymm (h1.1 y hy) (h2.1 x hx)
  subst hxy
  rw [rising_perm h1.2 h2.2 (List.Perm.cons_inv h)]
theorem sortL_merge (l : List Int) : (l.mergeSort fun x y => decide (x ≤ y)) = sortL l := by
 refine rising_perm ?_ (rising_sortL l) ((List.mergeSort_perm l _).trans (perm_sortL l).symm)
 have := List.pairwise_mergeSort (le := fun x y : Int => decide (x ≤ y)) (by intro a b c; simp; omega) (by intro a b; simp; omega) l
 exact this.imp (by intro a b h; simpa using h)
theorem mem_compactI {y : Int} : ∀ {l : List Int}, y ∈ compactI l ↔ y ∈ l
 | [] => Iff.rfl
 | a :: l => by
  have ih := mem_compactI (y := y) (l := l)
  simp only [compactI]
  split
  ·rename_i h
   rw [h] at ih
   simp only [List.not_mem_nil, false_iff] at ih
   simp [ih]
  ·rename_i b r h
   rw [h] at ih
   cases hab : a == b <;> simp only [cond_true, cond_false]
   ·rw [List.mem_cons, ih, List.mem_cons]
   ·have : a = b := by simpa using hab
    subst this
    rw [ih, List.mem_cons]
    constructor
    ·exact .inr
    ·rintro (h' | h')
     ·subst h'; exact ih.1 List.mem_cons_self
     ·exact h'
theorem strict_compactI : ∀ {l : List Int}, l.Pairwise (· ≤ ·) → (compactI l).Pairwise (· < ·)
 | [], _ => List.Pairwise.nil
 | a :: l, h => by
  have h1 := List.pairwise_cons.1 h
  have ih := strict_compactI h1.2
  simp only [compactI]
  split
  ·simp
  ·rename_i b r hc
   rw [hc] at ih
   have hmem : ∀ y, y ∈ b :: r → y ∈ l := fun y hy => mem_compactI.1 (by rw [hc]; exact hy)
   cases hab : a == b <;> simp only [cond_true, cond_false]
   ·have hne : a ≠ b := by simpa using hab
    have hle := h1.1 b (hmem b List.mem_cons_self)
    refine List.pairwise_cons.2 ⟨fun y hy => ?_, ih⟩
    rcases List.mem_cons.1 hy with rfl | hy'
    ·omega
    ·have := (List.pairwise_cons.1 ih).1 y hy'
     omega
   ·exact ih
theorem strict_ext : ∀ {a b : List Int}, a.Pairwise (· < ·) → b.Pairwise (· < ·) → (∀ x, x ∈ a ↔ x ∈ b) → a = b
 | [], [], _, _, _ => rfl
 | [], y :: b, _, _, h => by have := (h y).2 List.mem_cons_self; simp at this
 | x :: a, [], _, _, h => by have := (h x).1 List.mem_cons_self; simp at this
 | x :: a, y :: b, ha, hb, h => by
  have h1 := List.pairwise_cons.1 ha
  have h2 := List.pairwise_cons.1 hb
  have hxy : x = y := by
   rcases List.mem_cons.1 ((h x).1 List.mem_cons_self) with hx | hx
   ·exact hx
   ·rcases List.mem_cons.1 ((h y).2 List.mem_cons_self) with hy | hy
    ·exact hy.symm
    ·have := h1.1 y hy; have := h2.1 x hx; omega
  subst hxy
  rw [strict_ext h1.2 h2.2 fun z => ?_]
  constructor
  ·intro hz
   rcases List.mem_cons.1 ((h z).1 (List.mem_cons_of_mem _ hz)) with rfl | hz'
   ·have := h1.1 z hz; omega
   ·exact hz'
  ·intro hz
   rcases List.mem_cons.1 ((h z).2 (List.mem_cons_of_mem _ hz)) with rfl | hz'
   ·have := h2.1 z hz; omega
   ·exact hz'
theorem strict_ints (n : Nat) : (ints n).Pairwise (· < ·) := by
 unfold ints
 rw [List.pairwise_map]
 exact List.pairwise_lt_range.imp (by intro a b h; omega)
theorem rising_strict {l : List Int} (h : l.Pairwise (· ≤ ·)) (hn : l.Nodup) : l.Pairwise (· < ·) := by
 induction l with
 | nil => exact List.Pairwise.nil
 | cons x l ih =>
  have h1 := List.pairwise_cons.1 h
  have h2 := List.nodup_cons.1 hn
  refine List.pairwise_cons.2 ⟨fun y hy => ?_, ih h1.2 h2.2⟩
  have := h1.1 y hy
  have : x ≠ y := fun e => h2.1 (by rw [e]; exact hy)
  omega
theorem sortL_strict {l : List Int} (hn : l.Nodup) : (sortL l).Pairwise (· < ·) :=
 rising_strict (rising_sortL l) ((perm_sortL l).nodup_iff.2 hn)
end Go.Pli

namespace Go.Pli
open Go Go.PM
theorem mem_allT {m : Im} {f g : Int} : g ∈ allT m f ↔ callsB m f g = true := by
 unfold allT callsB
 simp only [List.mem_flatten, List.mem_map, List.any_eq_true, List.contains_iff_mem]
 constructor
 ·rintro ⟨l, ⟨i, hi, rfl⟩, hg⟩; exact ⟨i, hi, hg⟩
 ·rintro ⟨i, hi, hg⟩; exact ⟨_, ⟨i, hi, rfl⟩, hg⟩
theorem tgt_in {m : Im} (h : tgtOk m = true) {f g : Int} (hf : inM m f = true) (hc : callsB m f g = true) : inM m g = true := by
 simp only [tgtOk, List.all_eq_true] at h
 exact h f (mem_ints.2 (inM_iff.1 hf)) g (mem_allT.2 hc)
theorem mem_ofB {m : Im} {f g : Int} (hf : inM m f = true) : g ∈ ofB m f ↔ callsB m f g = true := by
 unfold ofB
 rw [hf]
 simp only [cond_true]
 rw [mem_compactI, mem_sortL, mem_allT]
theorem ofB_eq {m : Im} (h : tgtOk m = true) {f : Int} (hf : inM m f = true) : ofB m f = (ints m.2.2.2.1.length).filter fun g => callsB m f g := by
 refine strict_ext ?_ ((strict_ints _).filter _) fun x => ?_
 ·unfold ofB
  rw [hf]
  exact strict_compactI (rising_sortL _)
 ·rw [mem_ofB hf, List.mem_filter, mem_ints]
  constructor
  ·intro hc; exact ⟨inM_iff.1 (tgt_in h hf hc), hc⟩
  ·exact fun hc => hc.2
def Canon (m : Im) (S : List Int) : Prop := ∃ p : Int → Bool, S = (ints m.2.2.2.1.length).filter p
theorem Canon.inM {m : Im} {S : List Int} (h : Canon m S) {x : Int} (hx : x ∈ S) : inM m x = true := by
 obtain ⟨p, rfl⟩ := h
 exact inM_iff.2 (mem_ints.1 (List.mem_filter.1 hx).1)
theorem Canon.len {m : Im} {S : List Int} (h : Canon m S) : S.length ≤ m.2.2.2.1.length := by
 obtain ⟨p, rfl⟩ := h
 have := List.length_filter_le p (ints m.2.2.2.1.length)
 rwa [ints_len] at this
theorem allT_len {m : Im} (hi : ifits m = true) {f : Int} (hf : inM m f = true) : (allT m f).length ≤ 512 := by
 obtain ⟨h0, h1⟩ := inM_iff.1 hf
 have hx := (mth_of ((fit_of hi).mts _ (mtOf_mem h0 h1))).2.2.2.1.1
 unfold allT
 have key : ∀ l : List Ins, ((l.map (targetsB m)).flatten).length ≤ 8 * l.length := by
  intro l
  induction l with
  | nil => simp
  | cons i l ih =>
   have := targetsB_len hi i
   rw [List.map_cons, List.flatten_cons, List.length_append, List.length_cons]
   omega
 have := key (mtOf m f).2.2.2.1
 omega
theorem cof_ok (m : Im) (f : Int) (r) (h : cof m f = some r) : ∃ k, cofN k m f = some r := by
 unfold cof at h
 cases hi : ifits m <;> simp only [hi, cond_true, cond_false] at h
 ·cases h
 injection h with h
 subst h
 refine ⟨(mtOf m f).2.2.2.1.length + 1, ?_⟩
 unfold cofN ofB
 by_cases h0 : f < 0
 ·have : inM m f = false := by cases hh : inM m f; rfl; have := inM_iff.1 hh; omega
  rw [this, decide_eq_true h0]; rfl
 ·by_cases h1 : f ≥ (m.2.2.2.1.length : Int)
  ·have : inM m f = false := by cases hh : inM m f; rfl; have := inM_iff.1 hh; omega
   rw [this, decide_eq_false h0, decide_eq_true h1]; rfl
  ·have hf : inM m f = true := inM_iff.2 ⟨by omega, by omega⟩
   have hd : m.2.2.2.1.getD f.toNat zMt = mtOf m f := rfl
   have hr : (decide (0 ≤ f) && decide (f < (m.2.2.2.1.length : Int))) = true := by simp; omega
   have hx := (mth_of ((fit_of hi).mts _ (mtOf_mem (show 0 ≤ f by omega) (show f < (m.2.2.2.1.length : Int) by omega)))).2.2.2.1.1
   rw [hf, decide_eq_false h0, decide_eq_false h1, hr]
   simp only [cond_true, cond_false]
   have := loop_coll (L := cofL1 m f) (n := (mtOf m f).2.2.2.1.length) (B := 8) (st := fun k out => (out, (k : Int), ())) (f := fun k => targetsB m ((mtOf m f).2.2.2.1.getD k zIns)) (fin := fun out => some (compactI (sortL out), ())) (fun k _ => targetsB_len hi _)
    (fun k out rec hk ho => by
     have ht : ∀ x, ctargets m x = some (targetsB m x, ()) := fun x => by unfold ctargets; rw [hi]; rfl
     have htl := targetsB_len hi ((mtOf m f).2.2.2.1.getD k zIns)
     rw [cofL1]
     simp only [hd, dlt hk, dge, Bool.and_self, cond_true, Int.toNat_natCast, ht, Option.bind_some, room_ok (show out.length + (targetsB m ((mtOf m f).2.2.2.1.getD k zIns)).length < 549755813888 by omega), wsucc hk (by simp only [lenMax]; omega)])
    (fun out rec _ => by rw [cofL1]; simp only [hd, dnlt, cond_false]; rfl) ((mtOf m f).2.2.2.1.length + 1) (by omega)
   rw [range_mapD] at this
   exact this
theorem nodup_sub_len : ∀ {a b : List Int}, a.Nodup → (∀ x ∈ a, x ∈ b) → a.length ≤ b.length
 | [], _, _, _ => Nat.zero_le _
 | x :: a, b, ha, h => by
  have h1 := List.nodup_cons.1 ha
  have hx := h x List.mem_cons_self
  have := nodup_sub_len (a := a) (b := b.erase x) h1.2 fun y hy => by
   have hyx : y ≠ x := fun e => h1.1 (by rw [← e]; exact hy)
   exact (List.mem_erase_of_ne hyx).2 (h y (List.mem_cons_of_mem _ hy))
  rw [List.length_erase_of_mem hx] at this
  have := List.length_pos_of_mem hx
  simp only [List.length_cons]; omega
end Go.Pli

namespace Go.Pli
open Go Go.PM
theorem scheck_zero (m : Im) : (scheck m == 0) = (ifits m && saneB m) := by
 unfold scheck
 cases ifits m <;> cases saneB m <;> rfl
structure Grow (m n : Im) : Prop where
 cls : ∃ e, n.1 = m.1 ++ e
 statics : m.2.1.length ≤ n.2.1.length
 ints : m.2.2.1.length ≤ n.2.2.1.length
 mts : n.2.2.2.1 = m.2.2.2.1
end Go.Pli

namespace Go.Pli
open Go Go.PM
theorem sane11_eq (m : Im) : sane11N m = some (sane11 m, ()) := by
 unfold sane11N sane11
 cases decide ((m.2.2.2.1.length : Int) ≤ 12) <;> cases decide ((m.1.length : Int) ≤ 8) <;> cases decide ((m.2.2.1.length : Int) ≤ 16) <;> rfl
theorem sane11_of {m : Im} (h : sane11 m = true) : ifits m = true ∧ saneB m = true := by
 simp only [sane11, Bool.and_eq_true] at h
 have := h.2.2.2
 rw [show r5sane m = scheck m from rfl, scheck_zero, Bool.and_eq_true] at this
 exact this
theorem mem_slotsOf {m : Im} {l : List Int} {n g : Int} (h : g ∈ slotsOf m l n) : ∃ c ∈ l, hasSlot m c n = true ∧ g = (clOf m c).2.2.1.getD n.toNat 0 := by
 simp only [slotsOf, List.mem_map, List.mem_filter] at h
 obtain ⟨c, ⟨h1, h2⟩, rfl⟩ := h
 unfold cslot at h2 ⊢
 cases hs : hasSlot m c n <;> simp only [hs, cond_true, cond_false] at h2 ⊢
 ·cases h2
 ·exact ⟨c, h1, hs, rfl⟩
theorem tgtOk_of {m : Im} (h : saneB m = true) : tgtOk m = true := by
 simp only [saneB, Bool.and_eq_true] at h
 obtain ⟨-, hc, hm, -⟩ := h
 simp only [tgtOk, List.all_eq_true]
 intro f hf g hg
 obtain ⟨h0, h1⟩ := mem_ints.1 hf
 have hmth := List.all_eq_true.1 hm _ (mtOf_mem h0 h1)
 simp only [methodB, Bool.and_eq_true] at hmth
 have hins := hmth.2.2.2.2.2.2
 simp only [allT, List.mem_flatten, List.mem_map] at hg
 obtain ⟨l, ⟨i, hi, rfl⟩, hg⟩ := hg
 have hiB := List.all_eq_true.1 hins i hi
 unfold targetsB at hg
 cases h31 : i.1 == 31 <;> simp only [h31, cond_true, cond_false] at hg
 ·cases h32 : i.1 == 32 <;> simp only [h32, cond_true, cond_false] at hg
  ·cases hg
  ·obtain ⟨c, hcl, hs, rfl⟩ := mem_slotsOf hg
   simp only [hasSlot, Bool.and_eq_true, decide_eq_true_eq] at hs
   obtain ⟨⟨c0, c1⟩, n0, n1⟩ := hs
   have hk : i.2.2.1.toNat < (clOf m c).2.2.1.length := by omega
   have hget : (clOf m c).2.2.1[i.2.2.1.toNat]? = some ((clOf m c).2.2.1.getD i.2.2.1.toNat 0) := by
    rw [List.getD_eq_getElem?_getD, List.getElem?_eq_getElem hk]; rfl
   have := (slots_of (allC_of hc c0 c1) hget).1
   exact inM_iff.2 this
 ·rw [List.mem_singleton] at hg
  subst hg
  have e : i.1 = 31 := by simpa using h31
  unfold instrB at hiB
  rw [e] at hiB
  have : sin i.2.1 (m.2.2.2.1.length : Int) = true := hiB
  exact this
theorem edges_len (m : Im) : (edgesB m).length = m.2.2.2.1.length := by
 unfold edgesB; rw [List.length_map, ints_len]
end Go.Pli

namespace Go.Pli
open Go Go.PM
theorem loop_st {σ R : Type} {L : σ → (σ → Option R) → Option R} {n : Nat} {st : Nat → σ} {r : Option R}
  (h1 : ∀ k rec, k < n → L (st k) rec = rec (st (k + 1))) (h2 : ∀ rec, L (st n) rec = r) : ∀ F, n < F → loopF L F (st 0) = r := by
 have key : ∀ (j k F : Nat), k + j = n → j < F → loopF L F (st k) = r := by
  intro j
  induction j with
  | zero =>
   intro k F hk hF
   obtain ⟨F, rfl⟩ : ∃ n, F = n + 1 := ⟨F - 1, by omega⟩
   have : k = n := by omega
   subst this
   rw [loopF_step, h2]
  | succ j ih =>
   intro k F hk hF
   obtain ⟨F, rfl⟩ : ∃ n, F = n + 1 := ⟨F - 1, by omega⟩
   rw [loopF_step, h1 k _ (by omega)]
   exact ih (k + 1) F (by omega) (by omega)
 exact fun F hF => key n 0 F (by omega) hF
theorem matF_len (n : Nat) (f : Nat → Nat → Bool) : (matF n f).length = n := by simp [matF]
theorem matF_row {n i : Nat} (h : i < n) (f : Nat → Nat → Bool) : (matF n f).getD i [] = (List.range n).map fun j => f i j := by simp [matF, h]
theorem wrow_get {n j : Nat} (h : j < n) (f : Nat → Bool) : ((List.range n).map f).getD j false = f j := by simp [h]
theorem wrow_len (n : Nat) (f : Nat → Bool) : ((List.range n).map f).length = n := by simp
theorem wrow_set {n j : Nat} (f : Nat → Bool) (v : Bool) : ((List.range n).map f).set j v = (List.range n).map fun b => if b = j then v else f b := by
 apply List.ext_getElem (by simp)
 intro b h1 h2
 have hb : b < n := by simpa using h2
 rw [List.getElem_set]
 by_cases hj : j = b
 ·subst hj; simp
 ·simp [hj, Ne.symm hj]
theorem wrows_set {n i : Nat} (f : Nat → List Bool) (v : List Bool) : ((List.range n).map f).set i v = (List.range n).map fun a => if a = i then v else f a := by
 apply List.ext_getElem (by simp)
 intro b h1 h2
 have hb : b < n := by simpa using h2
 rw [List.getElem_set]
 by_cases hj : i = b
 ·subst hj; simp
 ·simp [hj, Ne.symm hj]
theorem matF_set {n i j : Nat} (hi : i < n) (f : Nat → Nat → Bool) (v : Bool) : (matF n f).set i (((matF n f).getD i []).set j v) = matF n fun a b => if a = i ∧ b = j then v else f a b := by
 rw [matF_row hi, wrow_set]
 unfold matF
 rw [wrows_set]
 apply List.map_congr_left
 intro a _
 by_cases ha : a = i
 ·subst ha
  rw [if_pos rfl]
  apply List.map_congr_left
  intro b _
  by_cases hb : b = j <;> simp [hb]
 ·rw [if_neg ha]
  apply List.map_congr_left
  intro b _
  simp [ha]
theorem matF_congr {n : Nat} {f g : Nat → Nat → Bool} (h : ∀ a, a < n → ∀ b, b < n → f a b = g a b) : matF n f = matF n g := by
 unfold matF
 apply List.map_congr_left
 intro a ha
 apply List.map_congr_left
 intro b hb
 exact h a (List.mem_range.1 ha) b (List.mem_range.1 hb)
theorem way_col (l : List (List Int)) (k i : Nat) : wayF l (k + 1) i k = wayF l k i k := by
 simp only [wayF]
 cases wayF l k i k <;> simp
theorem way_row (l : List (List Int)) (k j : Nat) : wayF l (k + 1) k j = wayF l k k j := by
 simp only [wayF]
 cases wayF l k k j <;> simp
def midF (l : List (List Int)) (k i j : Nat) (a b : Nat) : Bool := if a < i ∨ (a = i ∧ b < j) then wayF l (k + 1) a b else wayF l k a b
theorem mid_col (l : List (List Int)) (k i j a : Nat) : midF l k i j a k = wayF l k a k := by
 unfold midF
 split
 ·exact way_col l k a
 ·rfl
theorem mid_row (l : List (List Int)) (k i j b : Nat) : midF l k i j k b = wayF l k k b := by
 unfold midF
 split
 ·exact way_row l k b
 ·rfl
theorem mid_at (l : List (List Int)) (k i j : Nat) : midF l k i j i j = wayF l k i j := by
 unfold midF
 rw [if_neg (by omega)]
theorem mid_step (l : List (List Int)) (k i j : Nat) : (fun a b => if a = i ∧ b = j then wayF l (k + 1) i j else midF l k i j a b) = midF l k i (j + 1) := by
 funext a b
 unfold midF
 by_cases h : a = i ∧ b = j
 ·obtain ⟨rfl, rfl⟩ := h
  rw [if_pos ⟨rfl, rfl⟩, if_pos (.inr ⟨rfl, by omega⟩)]
 ·rw [if_neg h]
  by_cases h2 : a < i ∨ (a = i ∧ b < j)
  ·rw [if_pos h2, if_pos (by omega)]
  ·rw [if_neg h2, if_neg (by omega)]
theorem ways_mid {l : List (List Int)} (hl : l.length ≤ 1000) {k : Nat} (hk : k < l.length) {rec6 : (Int × List (List Bool) × Unit) → Option (List (List Bool) × Unit)} {x : List (List Bool)} :
  loopF (r8waysL3 l 2000 ((k : Int), x, ()) rec6) 2000 ((0 : Int), matF l.length (wayF l k), ()) = rec6 (((k + 1 : Nat) : Int), matF l.length (wayF l (k + 1)), ()) := by
 have h0 : matF l.length (wayF l k) = matF l.length (midF l k 0 0) := matF_congr fun a _ b _ => by unfold midF; rw [if_neg (by omega)]
 rw [h0]
 refine loop_st (n := l.length) (st := fun i => ((i : Int), matF l.length (midF l k i 0), ())) (fun i rec hi => ?_) (fun rec => ?_) 2000 (by omega)
 ·rw [r8waysL3]
  simp only [dlt hi, cond_true]
  refine (loop_st (n := l.length) (st := fun j => ((j : Int), matF l.length (midF l k i j), ())) (fun j rec2 hj => ?_) (fun rec2 => ?_) 2000 (by omega))
  ·rw [r8waysL2]
   simp only [matF_len, matF_row hi, matF_row hk, wrow_len, wrow_get hj, wrow_get hk, dlt hj, dlt hi, dlt hk, dge, Bool.and_self, cond_true, Int.toNat_natCast, mid_at, mid_col, mid_row, wsucc hj (show _ ≤ lenMax by simp only [lenMax]; omega)]
   have fin : ∀ v, v = wayF l (k + 1) i j → rec2 (((j + 1 : Nat) : Int), (matF l.length (midF l k i j)).set i (((List.range l.length).map fun b => midF l k i j i b).set j v), ()) = rec2 (((j + 1 : Nat) : Int), matF l.length (midF l k i (j + 1)), ()) := fun v hv => by
    subst hv
    rw [← matF_row hi (midF l k i j), matF_set hi, mid_step]
   cases h1 : wayF l k i j <;> simp only [cond_true, cond_false]
   ·cases h2 : wayF l k i k <;> simp only [cond_true, cond_false]
    ·exact fin _ (by simp [wayF, h1, h2])
    ·exact fin _ (by simp [wayF, h1, h2])
   ·exact fin _ (by simp [wayF, h1])
  ·rw [r8waysL2]
   simp only [dnlt, cond_false, wsucc hi (show _ ≤ lenMax by simp only [lenMax]; omega)]
   congr 2
   refine congrArg (fun q => (q, ())) (matF_congr fun a ha b hb => ?_)
   unfold midF
   by_cases h1 : a < i ∨ (a = i ∧ b < l.length)
   ·rw [if_pos h1, if_pos (by omega)]
   ·rw [if_neg h1, if_neg (by omega)]
 ·rw [r8waysL3]
  simp only [dnlt, cond_false, wsucc hk (show _ ≤ lenMax by simp only [lenMax]; omega)]
  congr 2
  refine congrArg (fun q => (q, ())) (matF_congr fun a ha b hb => ?_)
  unfold midF
  rw [if_pos (.inl ha)]
theorem ways_last {l : List (List Int)} (hl : l.length ≤ 1000) : loopF (r8waysL4 l 2000) 2000 ((0 : Int), matF l.length (wayF l 0), ()) = some (matF l.length (wayF l l.length), ()) := by
 refine loop_st (n := l.length) (st := fun k => ((k : Int), matF l.length (wayF l k), ())) (fun k rec hk => ?_) (fun rec => ?_) 2000 (by omega)
 ·rw [r8waysL4]
  simp only [dlt hk, cond_true]
  exact ways_mid hl hk
 ·rw [r8waysL4]
  simp only [dnlt, cond_false]
def stepF (l : List (List Int)) (n i p b : Nat) : Bool := (((l.getD i []).take p).contains (b : Int)) && decide (b < n)
def rowsF (l : List (List Int)) (n i : Nat) (v : List Bool) : List (List Bool) := (List.range n).map fun a => if a < i then (List.range n).map fun b => edgeL l a b else if a = i then v else []
theorem rowsF_len (l : List (List Int)) (n i : Nat) (v : List Bool) : (rowsF l n i v).length = n := by simp [rowsF]
theorem rowsF_at (l : List (List Int)) {n i : Nat} (hi : i < n) (v : List Bool) : (rowsF l n i v).getD i [] = v := by simp [rowsF, hi]
theorem rowsF_set (l : List (List Int)) {n i : Nat} (v w : List Bool) : (rowsF l n i v).set i w = rowsF l n i w := by
 unfold rowsF
 rw [wrows_set]
 apply List.map_congr_left
 intro a _
 by_cases ha : a = i
 ·subst ha; simp
 ·simp [ha]
theorem ways_first {l : List (List Int)} (hl : l.length ≤ 1000) (hr : ∀ r ∈ l, r.length ≤ 1000) {i : Nat} (hi : i < l.length) {x : List (List Bool)} {rec2 : (Int × List (List Bool) × Unit) → Option (List (List Bool) × Unit)} :
  loopF (r8waysL1 l ((i : Int), x, ()) rec2) 2000 ((0 : Int), rowsF l l.length i (List.replicate l.length false), ()) = rec2 (((i + 1 : Nat) : Int), rowsF l l.length (i + 1) [], ()) := by
 have hri : (l.getD i []).length ≤ 1000 := hr _ (by rw [List.getD_eq_getElem?_getD, List.getElem?_eq_getElem hi]; exact List.getElem_mem hi)
 have h0 : rowsF l l.length i (List.replicate l.length false) = rowsF l l.length i ((List.range l.length).map (stepF l l.length i 0)) := by
  congr 1
  apply List.ext_getElem (by simp)
  intro a h1 h2
  simp [stepF]
 rw [h0]
 refine loop_st (n := (l.getD i []).length) (st := fun p => ((p : Int), rowsF l l.length i ((List.range l.length).map (stepF l l.length i p)), ())) (fun p rec hp => ?_) (fun rec => ?_) 2000 (by omega)
 ·have hget : (l.getD i []).getD p 0 = (l.getD i [])[p] := by rw [List.getD_eq_getElem?_getD, List.getElem?_eq_getElem hp]; rfl
  rw [r8waysL1]
  simp only [dlt hi, dlt hp, dge, Bool.and_self, cond_true, Int.toNat_natCast, rowsF_len, rowsF_at l hi, wrow_len, wsucc hp (show _ ≤ lenMax by simp only [lenMax]; omega)]
  have hnext : ∀ b, b < l.length → stepF l l.length i (p + 1) b = (stepF l l.length i p b || ((l.getD i []).getD p 0 == (b : Int))) := fun b hb => by
   unfold stepF
   rw [List.take_succ_eq_append_getElem hp, hget, List.contains_eq_any_beq, List.contains_eq_any_beq, List.any_append]
   simp only [List.any_cons, List.any_nil, Bool.or_false, decide_eq_true hb, Bool.and_true]
   rw [show ((b : Int) == (l.getD i [])[p]) = ((l.getD i [])[p] == (b : Int)) from BEq.comm]
  by_cases h1 : (l.getD i []).getD p 0 ≥ 0
  ·rw [decide_eq_true h1]
   simp only [cond_true]
   by_cases h2 : (l.getD i []).getD p 0 < (l.length : Int)
   ·rw [decide_eq_true h2]
    simp only [Bool.and_self, cond_true]
    rw [wrow_set, rowsF_set]
    congr 3
    congr 1
    apply List.map_congr_left
    intro b hb
    have hb := List.mem_range.1 hb
    rw [hnext b hb]
    by_cases hbt : b = ((l.getD i []).getD p 0).toNat
    ·rw [if_pos hbt]
     have : (l.getD i []).getD p 0 = (b : Int) := by omega
     rw [this]; simp
    ·rw [if_neg hbt]
     have : ((l.getD i []).getD p 0 == (b : Int)) = false := by
      have : ¬ (l.getD i []).getD p 0 = (b : Int) := by omega
      simpa using this
     rw [this, Bool.or_false]
   ·rw [decide_eq_false h2]
    simp only [cond_false]
    congr 3
    congr 1
    apply List.map_congr_left
    intro b hb
    have hb := List.mem_range.1 hb
    rw [hnext b hb]
    have : ((l.getD i []).getD p 0 == (b : Int)) = false := by
     have : ¬ (l.getD i []).getD p 0 = (b : Int) := by omega
     simpa using this
    rw [this, Bool.or_false]
  ·rw [decide_eq_false h1]
   simp only [cond_false]
   congr 3
   congr 1
   apply List.map_congr_left
   intro b hb
   have hb := List.mem_range.1 hb
   rw [hnext b hb]
   have : ((l.getD i []).getD p 0 == (b : Int)) = false := by
    have : ¬ (l.getD i []).getD p 0 = (b : Int) := by omega
    simpa using this
   rw [this, Bool.or_false]
 ·rw [r8waysL1]
  simp only [dlt hi, dge, Bool.and_self, cond_true, Int.toNat_natCast, dnlt, cond_false, wsucc hi (show _ ≤ lenMax by simp only [lenMax]; omega)]
  congr 2
  refine congrArg (fun q => (q, ())) ?_
  unfold rowsF
  apply List.map_congr_left
  intro a ha
  have ha := List.mem_range.1 ha
  by_cases h1 : a < i
  ·rw [if_pos h1, if_pos (by omega)]
  ·rw [if_neg h1]
   by_cases h2 : a = i
   ·subst h2
    rw [if_pos rfl, if_pos (by omega)]
    apply List.map_congr_left
    intro b hb
    have hb := List.mem_range.1 hb
    unfold stepF edgeL
    rw [List.take_length, decide_eq_true hb, Bool.and_true]
   ·rw [if_neg h2, if_neg (by omega)]
    by_cases h3 : a = i + 1
    ·rw [if_pos h3]
    ·rw [if_neg h3]
theorem r8ways_ok (l : List (List Int)) (r) (h : r8ways l = some r) : ∃ k, r8waysN k l = some r := by
 unfold r8ways at h
 cases hs : smallL l <;> simp only [hs, cond_true, cond_false] at h
 ·cases h
 injection h with h
 subst h
 simp only [smallL, Bool.and_eq_true, List.all_eq_true] at hs
 have hl : l.length ≤ 1000 := Nat.le_of_ble_eq_true hs.1
 have hr : ∀ r ∈ l, r.length ≤ 1000 := fun r hr => Nat.le_of_ble_eq_true (hs.2 r hr)
 refine ⟨2000, ?_⟩
 unfold r8waysN
 have hrm : decide ((l.length : Int) < (rowMax : Int)) = true := decide_eq_true (by simp only [rowMax]; omega)
 have hle : decide ((l.length : Int) ≤ (l.length : Int)) = true := decide_eq_true (Int.le_refl _)
 have hz : decide ((0 : Int) ≤ (l.length : Int)) = true := decide_eq_true (by omega)
 simp only [hrm, hle, hz, Bool.and_self, cond_true]
 have h0 : (List.replicate l.length ([] : List Bool)) = rowsF l l.length 0 [] := by
  apply List.ext_getElem (by simp [rowsF])
  intro a h1 h2
  simp [rowsF]
 rw [h0]
 refine loop_st (n := l.length) (st := fun i => ((i : Int), rowsF l l.length i [], ())) (fun i rec hi => ?_) (fun rec => ?_) 2000 (by omega)
 ·rw [r8waysL5]
  simp only [dlt hi, dge, hrm, hle, hz, Bool.and_self, cond_true, rowsF_len, Int.toNat_natCast, rowsF_set]
  exact ways_first hl hr hi
 ·rw [r8waysL5]
  simp only [dnlt, cond_false]
  have h1 : rowsF l l.length l.length [] = matF l.length (wayF l 0) := by
   unfold rowsF matF
   apply List.map_congr_left
   intro a ha
   rw [if_pos (List.mem_range.1 ha)]
   rfl
  rw [h1]
  exact ways_last hl
theorem way_trans (l : List (List Int)) : ∀ (k i j m : Nat), m < k → wayF l k i m = true → wayF l k m j = true → wayF l k i j = true
 | 0, _, _, _, h, _, _ => by omega
 | k + 1, i, j, m, hm, h1, h2 => by
  have ih := way_trans l k
  by_cases hmk : m = k
  ·subst hmk
   rw [way_col] at h1
   rw [way_row] at h2
   simp only [wayF, Bool.or_eq_true, Bool.and_eq_true]
   exact .inr ⟨h1, h2⟩
  ·have hm' : m < k := by omega
   simp only [wayF, Bool.or_eq_true, Bool.and_eq_true] at h1 h2 ⊢
   rcases h1 with h1 | ⟨h1, h1'⟩ <;> rcases h2 with h2 | ⟨h2, h2'⟩
   ·exact .inl (ih i j m hm' h1 h2)
   ·exact .inr ⟨ih i k m hm' h1 h2, h2'⟩
   ·exact .inr ⟨h1, ih k j m hm' h1' h2⟩
   ·exact .inr ⟨h1, h2'⟩
theorem way_edge (l : List (List Int)) : ∀ (k : Nat) {i j : Nat}, edgeL l i j = true → wayF l k i j = true
 | 0, _, _, h => h
 | k + 1, _, _, h => by simp only [wayF, Bool.or_eq_true]; exact .inl (way_edge l k h)
end Go.Pli

namespace Go.Pli
open Go Go.PM
theorem edges_small {m : Im} (hi : ifits m = true) : smallL (edgesB m) = true := by
 have h12 := (fit_of hi).methods
 simp only [smallL, Bool.and_eq_true, List.all_eq_true]
 refine ⟨Nat.ble_eq_true_of_le (by rw [edges_len]; omega), fun r hr => Nat.ble_eq_true_of_le ?_⟩
 simp only [edgesB, List.mem_map] at hr
 obtain ⟨f, -, rfl⟩ := hr
 have := List.length_filter_le (fun g => callsB m f g) (ints m.2.2.2.1.length)
 rw [ints_len] at this
 omega
end Go.Pli

namespace Go.Pli
open Go Go.PM
theorem r8frame_ok (m : Im) (l : List (List Sh)) (f : Int) (r) (h : r8frame m l f = some r) : ∃ k, r8frameN k m l f = some r := by
 unfold r8frame at h
 cases hg : saneP m && okSS l <;> rw [hg] at h <;> simp only [cond_true, cond_false] at h
 ·cases h
 have := Option.some.inj h
 subst this
 simp only [Bool.and_eq_true] at hg
 obtain ⟨hs, hb⟩ := hg
 refine ⟨1000001, ?_⟩
 unfold r8frameN frameB
 by_cases h0 : f < 0
 ·have : inM m f = false := by cases hh : inM m f; rfl; have := inM_iff.1 hh; omega
  rw [this, decide_eq_true h0]; rfl
 by_cases h1 : f ≥ (m.2.2.2.1.length : Int)
 ·have : inM m f = false := by cases hh : inM m f; rfl; have := inM_iff.1 hh; omega
  rw [this, decide_eq_false h0, decide_eq_true h1]; rfl
 have hf : inM m f = true := inM_iff.2 ⟨by omega, by omega⟩
 have f0 : 0 ≤ f := by omega
 have f1 : f < (m.2.2.2.1.length : Int) := by omega
 have key : loopF (r8frameL1 l f) 1000001 ((0 : Int), ((0 : Int), ())) = some (.inl (deepB l f, ())) := by
  unfold deepB sin
  by_cases hl : f < (l.length : Int)
  ·obtain ⟨hlr, -⟩ := okSS_row hb (n := f.toNat) (by omega)
   simp only [f0, hl, decide_true, Bool.and_self, cond_true]
   have q : ∀ (hh : List Sh), l.getD f.toNat [] = hh → hh.length < 1000000 → loopF (r8frameL1 l f) 1000001 ((0 : Int), ((0 : Int), ())) = some (.inl (maxL (hh.map fun s => (s.2.1.length : Int)), ())) := fun hh hhe hhl => by
    have := loop_seq (L := r8frameL1 l f) (n := hh.length) (st := fun k => (maxL ((hh.map fun s => (s.2.1.length : Int)).take k), (k : Int), ())) (fin := some (.inl (maxL (hh.map fun s => (s.2.1.length : Int)), ())))
     (fun k rec hk => by
      have hx : (hh.map fun s => (s.2.1.length : Int))[k]? = some (((hh.getD k zSh).2.1.length : Nat) : Int) := by simp [hk]
      have hmx := maxL_step (hh.map fun s => (s.2.1.length : Int)) hx
      rw [r8frameL1]
      simp only [f0, hl, hhe, dlt hk, dge, decide_true, Bool.and_self, cond_true, Int.toNat_natCast, wsucc hk (show _ ≤ lenMax by simp only [lenMax]; omega)]
      rw [hmx]
      by_cases hgt : (((hh.getD k zSh).2.1.length : Nat) : Int) > maxL ((hh.map fun s => (s.2.1.length : Int)).take k)
      ·rw [decide_eq_true hgt, Int.max_eq_right (by omega)]; rfl
      ·rw [decide_eq_false hgt, Int.max_eq_left (by omega)]; rfl)
     (fun rec => by
      rw [r8frameL1]
      simp only [f0, hl, hhe, dnlt, decide_true, Bool.and_self, cond_true, cond_false]
      rw [List.take_of_length_le (by simp)]) 1000001 (by omega)
    exact this
   exact q _ rfl hlr
  ·simp only [hl, decide_false, Bool.and_false, cond_false]
   rw [loopF_step, r8frameL1]
   simp only [hl, decide_false, cond_false]
 have hd := deepB_bound hb f
 have hloc := sane_locals hs hf
 have fold : ∀ g : Int, m.2.2.2.1.getD g.toNat zMt = mtOf m g := fun _ => rfl
 rw [key, hf]
 simp only [h0, h1, f0, f1, fold, decide_true, decide_false, Bool.and_self, cond_true, cond_false, Option.bind_some]
 rw [w64' (n := (3 : Int) + _) (by omega) (by omega), w64' (n := (3 : Int) + ((mtOf m f).1.length : Int) + _) (by omega) (by omega), w64' (by omega) (by omega)]
 simp
theorem beyR_app (W : Nat → Nat → Bool) (out : List Int) (g : Int) : ∀ (a b : List Int) (x : Int), beyR W out g (a ++ b) x = beyR W out g b (beyR W out g a x)
 | [], _, _ => rfl
 | _ :: a, b, _ => by rw [List.cons_append, beyR, beyR, beyR_app W out g a b]
theorem sumR_app (m : Im) (l : List (List Sh)) (W : Nat → Nat → Bool) (f : Int) (out : List Int) : ∀ (p q : List Int) (a b : Int), sumR m l W f out (p ++ q) a b = sumR m l W f out q (sumR m l W f out p a b).1 (sumR m l W f out p a b).2
 | [], _, _, _ => rfl
 | g :: p, q, a, b => by
  rw [List.cons_append, sumR, sumR]
  cases g != f && !(W f.toNat g.toNat && W g.toNat f.toNat) <;> simp only [cond_true, cond_false]
  ·exact sumR_app m l W f out p q _ _
  ·exact sumR_app m l W f out p q _ _
theorem roundR_app (m : Im) (l : List (List Sh)) (W : Nat → Nat → Bool) : ∀ (p q out : List Int), roundR m l W (p ++ q) out = roundR m l W q (roundR m l W p out)
 | [], _, _ => rfl
 | f :: p, q, out => by rw [List.cons_append, roundR, roundR, roundR_app m l W p q]
theorem roundR_len (m : Im) (l : List (List Sh)) (W : Nat → Nat → Bool) : ∀ (p out : List Int), (roundR m l W p out).length = out.length
 | [], _ => rfl
 | f :: p, out => by rw [roundR, roundR_len m l W p, List.length_set]
theorem rndsR_succ (m : Im) (l : List (List Sh)) (W : Nat → Nat → Bool) : ∀ (k : Nat) (out : List Int), rndsR m l W (k + 1) out = roundR m l W (ints m.2.2.2.1.length) (rndsR m l W k out)
 | 0, _ => rfl
 | k + 1, out => by
  show rndsR m l W (k + 1) (roundR m l W (ints m.2.2.2.1.length) out) = _
  rw [rndsR_succ m l W k]
  rfl
theorem rndsR_len (m : Im) (l : List (List Sh)) (W : Nat → Nat → Bool) : ∀ (k : Nat) (out : List Int), (rndsR m l W k out).length = out.length
 | 0, _ => rfl
 | k + 1, out => by rw [rndsR_succ, roundR_len, rndsR_len m l W k]
theorem ints_take {n k : Nat} (h : k < n) : (ints n).take (k + 1) = (ints n).take k ++ [(k : Int)] := by
 rw [List.take_add_one]
 congr 1
 simp [ints, h]
theorem edges_row {m : Im} {g : Nat} (hg : g < m.2.2.2.1.length) : ((edgesB m).getD g []).length ≤ m.2.2.2.1.length ∧ ∀ to ∈ (edgesB m).getD g [], 0 ≤ to ∧ to < (m.2.2.2.1.length : Int) := by
 have hk : g < (edgesB m).length := by rw [edges_len]; exact hg
 have hm : (edgesB m).getD g [] ∈ edgesB m := by rw [getD_some (List.getElem?_eq_getElem hk)]; exact List.getElem_mem hk
 generalize (edgesB m).getD g [] = e at hm
 unfold edgesB at hm
 obtain ⟨f, -, rfl⟩ := List.mem_map.1 hm
 constructor
 ·have := List.length_filter_le (fun g => callsB m f g) (ints m.2.2.2.1.length)
  rwa [ints_len] at this
 ·exact fun to ht => mem_ints.1 (List.mem_filter.1 ht).1
section
variable {m : Im} {l : List (List Sh)}
abbrev wayX (m : Im) : List (List Bool) × Unit := (matF m.2.2.2.1.length (wayM m), ())
theorem bound_edges (h12 : m.2.2.2.1.length ≤ 12) {s7 : Int × List Int × Unit} (hout : s7.2.1.length = m.2.2.2.1.length) {s9 : Int × Int × Int × Unit} {g : Nat} (hg9 : s9.2.2.1 = (g : Int)) (hg : g < m.2.2.2.1.length) (s15 : Int × Unit) (r17 : Int × Unit) {F : Nat} (hF : 100 < F) :
  loopF (r8boundL1 (edgesB m, ()) (wayX m) s7 s9 s15 r17) F (s9.2.1, ((0 : Int), ())) = some (.inl (IntKind.i64.wrap (s9.1 + IntKind.i64.wrap (s15.1 * r17.1)), beyR (wayM m) s7.2.1 (g : Int) ((edgesB m).getD g []) s9.2.1, ())) := by
 obtain ⟨hel, hei⟩ := edges_row hg
 have hge : (g : Int) < ((edgesB m).length : Int) := by rw [edges_len]; omega
 have hgg : decide ((g : Int) < ((edgesB m).length : Int)) = true := decide_eq_true hge
 generalize hE : (edgesB m).getD g [] = E at hel hei
 exact loop_seq (L := r8boundL1 (edgesB m, ()) (wayX m) s7 s9 s15 r17) (n := E.length) (st := fun k => (beyR (wayM m) s7.2.1 (g : Int) (E.take k) s9.2.1, (k : Int), ())) (fin := some (.inl (IntKind.i64.wrap (s9.1 + IntKind.i64.wrap (s15.1 * r17.1)), beyR (wayM m) s7.2.1 (g : Int) E s9.2.1, ())))
  (fun k rec hk => by
   have hx : E[k]? = some E[k] := List.getElem?_eq_getElem hk
   obtain ⟨t0, t1⟩ := hei _ (List.getElem_mem hk)
   have htn : E[k].toNat < m.2.2.2.1.length := by omega
   have ht2 : decide (E[k] < ((matF m.2.2.2.1.length (wayM m)).length : Int)) = true := decide_eq_true (by rw [matF_len]; exact t1)
   have ht3 : decide (E[k] < (s7.2.1.length : Int)) = true := decide_eq_true (by rw [hout]; exact t1)
   have hrow := matF_row htn (wayM m)
   have hgl : decide ((g : Int) < (((List.range m.2.2.2.1.length).map fun j => wayM m E[k].toNat j).length : Int)) = true := decide_eq_true (by simp; omega)
   have hst : E.take (k + 1) = E.take k ++ [E[k]] := by rw [List.take_add_one, hx]; rfl
   rw [r8boundL1]
   simp only [hg9, hgg, hE, dge, dlt hk, Bool.and_self, cond_true, Int.toNat_natCast, getD_some hx, t0, decide_true, ht2, ht3, hrow, hgl, wrow_get hg, wsucc hk (show _ ≤ lenMax by simp only [lenMax]; omega)]
   rw [hst, beyR_app]
   simp only [beyR, Int.toNat_natCast]
   cases wayM m E[k].toNat g <;> simp only [Bool.not_true, Bool.not_false, Bool.true_and, Bool.false_and, cond_true, cond_false]
   cases decide (s7.2.1.getD E[k].toNat 0 > beyR (wayM m) s7.2.1 (g : Int) (E.take k) s9.2.1) <;> simp only [cond_true, cond_false])
  (fun rec => by
   rw [r8boundL1]
   simp only [hg9, hgg, hE, dge, dnlt, Bool.and_self, cond_true, cond_false, Int.toNat_natCast, List.take_length]) F (by omega)
theorem bound_ring (hs : saneP m = true) (hl : okSS l = true) {fuel : Nat} (hfu : 100 < fuel) {s7 : Int × List Int × Unit} (hout : s7.2.1.length = m.2.2.2.1.length) {f : Nat} (hf7 : s7.1 = (f : Int)) (hf : f < m.2.2.2.1.length) (rec8) {F : Nat} (hF : 100 < F) :
  loopF (r8boundL2 m l fuel (edgesB m, ()) (wayX m) s7 rec8) F ((0 : Int), ((0 : Int), ((0 : Int), ()))) = rec8 (((f + 1 : Nat) : Int), s7.2.1.set f (stepR m l (wayM m) s7.2.1 (f : Int)), ()) := by
 have h12 := (fit_of (saneP_of hs).1).methods
 have hfr : ∀ g : Int, r8frame m l g = some (frameB m l g, ()) := fun g => by unfold r8frame; rw [hs, hl]; rfl
 have hfo : decide ((f : Int) < (s7.2.1.length : Int)) = true := decide_eq_true (by rw [hout]; omega)
 have hlenI := ints_len m.2.2.2.1.length
 have hrow := fun {i} (h : i < m.2.2.2.1.length) => matF_row h (wayM m)
 have fold : ∀ g : Nat, m.2.2.2.1.getD g zMt = mtOf m (g : Int) := fun g => by unfold mtOf; rw [Int.toNat_natCast]
 exact loop_seq (L := r8boundL2 m l fuel (edgesB m, ()) (wayX m) s7 rec8) (n := m.2.2.2.1.length)
  (st := fun k => ((sumR m l (wayM m) (f : Int) s7.2.1 ((ints m.2.2.2.1.length).take k) 0 0).1, (sumR m l (wayM m) (f : Int) s7.2.1 ((ints m.2.2.2.1.length).take k) 0 0).2, (k : Int), ()))
  (fun g rec hg => by
   have hstep := ints_take hg
   have hgl : ∀ i, decide ((g : Int) < (((List.range m.2.2.2.1.length).map fun j => wayM m i j).length : Int)) = true := fun i => decide_eq_true (by simp; omega)
   have hfl : ∀ i, decide ((f : Int) < (((List.range m.2.2.2.1.length).map fun j => wayM m i j).length : Int)) = true := fun i => decide_eq_true (by simp; omega)
   have hw := wsucc hg (show _ ≤ lenMax by simp only [lenMax]; omega)
   rw [hstep, sumR_app]
   generalize sumR m l (wayM m) (f : Int) s7.2.1 ((ints m.2.2.2.1.length).take g) 0 0 = S
   have hedge := fun (s15 : Int × Unit) (r17 : Int × Unit) => bound_edges (m := m) h12 hout (s9 := (S.1, S.2, (g : Int), ())) rfl hg s15 r17 hfu
   simp only at hedge
   rw [r8boundL2]
   simp only [hf7, dlt hg, dlt hf, dge, Bool.and_self, cond_true, Int.toNat_natCast, matF_len, hrow hg, hrow hf, hgl, hfl, wrow_get hg, wrow_get hf, hfr, hedge, hw, fold, Option.bind_some]
   simp only [sumR, Int.toNat_natCast]
   cases hne : (g : Int) != (f : Int) <;> simp only [Bool.true_and, Bool.false_and, cond_true, cond_false, Option.bind_some]
   ·cases wayM m g g <;> simp only [cond_true, cond_false, Option.bind_some]
   ·cases wayM m f g <;> simp only [Bool.true_and, Bool.false_and, Bool.not_true, Bool.not_false, cond_true, cond_false, Option.bind_some]
    cases wayM m g f <;> simp only [Bool.not_true, Bool.not_false, cond_true, cond_false, Option.bind_some]
    cases wayM m g g <;> simp only [cond_true, cond_false, Option.bind_some])
  (fun rec => by
   rw [List.take_of_length_le (by omega)]
   rw [r8boundL2]
   simp only [hf7, dnlt, hfo, dge, Bool.and_self, cond_true, cond_false, Int.toNat_natCast, wsucc hf (show _ ≤ lenMax by simp only [lenMax]; omega)]
   rfl) F (by omega)
theorem bound_round (hs : saneP m = true) (hl : okSS l = true) {fuel : Nat} (hfu : 100 < fuel) {s5 : Int × List Int × Unit} (hout : s5.2.1.length = m.2.2.2.1.length) {i : Nat} (hi5 : s5.1 = (i : Int)) (hi : i < m.2.2.2.1.length) (rec6) {F : Nat} (hF : 100 < F) :
  loopF (r8boundL3 m l fuel (edgesB m, ()) (wayX m) s5 rec6) F ((0 : Int), s5.2.1, ()) = rec6 (((i + 1 : Nat) : Int), roundR m l (wayM m) (ints m.2.2.2.1.length) s5.2.1, ()) := by
 have h12 := (fit_of (saneP_of hs).1).methods
 have hlenI := ints_len m.2.2.2.1.length
 exact loop_seq (L := r8boundL3 m l fuel (edgesB m, ()) (wayX m) s5 rec6) (n := m.2.2.2.1.length)
  (st := fun k => ((k : Int), roundR m l (wayM m) ((ints m.2.2.2.1.length).take k) s5.2.1, ()))
  (fun f rec hf => by
   rw [ints_take hf, roundR_app]
   have hol : (roundR m l (wayM m) ((ints m.2.2.2.1.length).take f) s5.2.1).length = m.2.2.2.1.length := by rw [roundR_len, hout]
   generalize roundR m l (wayM m) ((ints m.2.2.2.1.length).take f) s5.2.1 = out at hol
   rw [r8boundL3]
   simp only [dlt hf, cond_true]
   rw [bound_ring hs hl hfu (s7 := ((f : Int), out, ())) hol rfl hf rec hfu]
   simp only [roundR, Int.toNat_natCast])
  (fun rec => by
   rw [List.take_of_length_le (by omega), r8boundL3]
   simp only [dnlt, cond_false, hi5, wsucc hi (show _ ≤ lenMax by simp only [lenMax]; omega)]) F (by omega)
theorem bound_rounds (hs : saneP m = true) (hl : okSS l = true) {fuel : Nat} (hfu : 100 < fuel) {F : Nat} (hF : 100 < F) :
  loopF (r8boundL4 m l fuel (edgesB m, ()) (wayX m)) F ((0 : Int), (List.replicate m.2.2.2.1.length (0 : Int), ())) = some (rndsR m l (wayM m) m.2.2.2.1.length (List.replicate m.2.2.2.1.length 0), true, ()) := by
 have h12 := (fit_of (saneP_of hs).1).methods
 exact loop_seq (L := r8boundL4 m l fuel (edgesB m, ()) (wayX m)) (n := m.2.2.2.1.length)
  (st := fun k => ((k : Int), rndsR m l (wayM m) k (List.replicate m.2.2.2.1.length 0), ()))
  (fun i rec hi => by
   rw [rndsR_succ]
   have hol : (rndsR m l (wayM m) i (List.replicate m.2.2.2.1.length 0)).length = m.2.2.2.1.length := by rw [rndsR_len, List.length_replicate]
   generalize rndsR m l (wayM m) i (List.replicate m.2.2.2.1.length 0) = out at hol
   rw [r8boundL4]
   simp only [dlt hi, cond_true]
   exact bound_round hs hl hfu (s5 := ((i : Int), out, ())) hol rfl hi rec hfu)
  (fun rec => by
   rw [r8boundL4]
   simp only [dnlt, cond_false]) F (by omega)
end
theorem r8bound_ok (m : Im) (l : List (List Sh)) (r) (h : r8bound m l = some r) : ∃ k, r8boundN k m l = some r := by
 unfold r8bound at h
 cases hg : saneP m && (okSS l && (tgtOk m && smallL (edgesB m))) <;> rw [hg] at h <;> simp only [cond_true, cond_false] at h
 ·cases h
 have := Option.some.inj h
 subst this
 simp only [Bool.and_eq_true] at hg
 obtain ⟨hs, hl, -, hsm⟩ := hg
 have hfi := (saneP_of hs).1
 have h12 := (fit_of hfi).methods
 have h1 : r8edges m = some (edgesB m, ()) := by unfold r8edges; rw [hfi]; rfl
 have h2 : r8ways (edgesB m) = some (wayX m) := by unfold r8ways; rw [hsm, edges_len]; rfl
 have fold : ∀ g : Nat, m.2.2.2.1.getD g zMt = mtOf m (g : Int) := fun g => by unfold mtOf; rw [Int.toNat_natCast]
 refine ⟨1001, ?_⟩
 unfold r8boundN boundR
 rw [h1, Option.bind_some, h2, Option.bind_some]
 have hrm : decide ((m.2.2.2.1.length : Int) < (rowMax : Int)) = true := decide_eq_true (by simp only [rowMax]; omega)
 have hle : decide ((m.2.2.2.1.length : Int) ≤ (m.2.2.2.1.length : Int)) = true := decide_eq_true (Int.le_refl _)
 have key := loop_all (L := r8boundL5 m l 1001 (edgesB m, ()) (wayX m)) (xs := ints m.2.2.2.1.length) (st := fun k => ((k : Int), ())) (p := fun f => !(wayM m f.toNat f.toNat && decide ((mtOf m f).2.2.2.2.1 < 1))) (ex := some (([] : List Int), false, ()))
  (fin := some (rndsR m l (wayM m) m.2.2.2.1.length (List.replicate m.2.2.2.1.length 0), true, ()))
  (fun k x rec hk hlt => by
   rw [ints_len] at hlt
   have hx : x = (k : Int) := by have := ints_get hlt 0; rw [getD_some hk] at this; exact this
   subst hx
   have hkl : decide ((k : Int) < (((List.range m.2.2.2.1.length).map fun j => wayM m k j).length : Int)) = true := decide_eq_true (by simp; omega)
   rw [r8boundL5]
   simp only [dlt hlt, dge, Bool.and_self, cond_true, Int.toNat_natCast, matF_len, matF_row hlt, hkl, wrow_get hlt, fold, wsucc hlt (show _ ≤ lenMax by simp only [lenMax]; omega)]
   cases wayM m k k <;> simp only [Bool.true_and, Bool.false_and, Bool.not_false, cond_true, cond_false]
   cases decide ((mtOf m (k : Int)).2.2.2.2.1 < 1) <;> simp only [Bool.not_true, Bool.not_false, cond_true, cond_false])
  (fun rec => by
   rw [ints_len, r8boundL5]
   simp only [dnlt, dge, hle, hrm, Bool.and_self, cond_true, cond_false]
   exact bound_rounds hs hl (by omega) (by omega)) 1001 (by rw [ints_len]; omega)
 rw [show ((0 : Int), ()) = (((0 : Nat) : Int), ()) from rfl, key]
 have e : ((ints m.2.2.2.1.length).all fun f => !(wayM m f.toNat f.toNat && decide ((mtOf m f).2.2.2.2.1 < 1))) = !shallow m := by
  unfold shallow
  rw [← List.not_any_eq_all_not]
 rw [e]
 cases shallow m <;> rfl
end Go.Pli
