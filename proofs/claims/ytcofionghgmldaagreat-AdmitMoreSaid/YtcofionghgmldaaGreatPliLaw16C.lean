/- The laws on whether all is there, plain. -/
import Derived.Test.YtcofionghgmldaaGreatPliL5E
import Derived.KernelRfl
import Derived.Test.YtcofionghgmldaaGreatPliReach
import Derived.Test.YtcofionghgmldaaGreatPliLaw16A
namespace Go.Pli
open Go Go.PM
structure Grow (m n : Im) : Prop where
  cls : ∃ e, n.1 = m.1 ++ e
  statics : m.2.1.length ≤ n.2.1.length
  ints : m.2.2.1.length ≤ n.2.2.1.length
  mts : n.2.2.2.1 = m.2.2.2.1
end Go.Pli

namespace Go.Pli
open Go Go.PM
theorem mem_slotsOf {m : Im} {l : List Int} {n g : Int} (h : g ∈ slotsOf m l n) : ∃ c ∈ l, hasSlot m c n = true ∧ g = (clOf m c).2.2.1.getD n.toNat 0 := by
  simp only [slotsOf, List.mem_map, List.mem_filter] at h
  obtain ⟨c, ⟨h1, h2⟩, rfl⟩ := h
  unfold cslot at h2 ⊢
  cases hs : hasSlot m c n <;> simp only [hs, cond_true, cond_false] at h2 ⊢
  · cases h2
  · exact ⟨c, h1, hs, rfl⟩
theorem tgtOk_of {m : Im} (h : saneB m = true) : tgtOk m = true := by
  simp only [saneB, Bool.and_eq_true] at h
  obtain ⟨-, hc, hm, -⟩ := h
  simp only [tgtOk, List.all_eq_true]
  intro f hf g hg
  obtain ⟨h0, h1⟩ := mem_ints.1 hf
  have hmth := List.all_eq_true.1 hm _ (mtOf_mem h0 h1)
  simp only [methodB, Bool.and_eq_true] at hmth
  have hins := hmth.2.2.2.2.2.2
  simp only [allT, List.mem_flatten, List.mem_map] at hg
  obtain ⟨l, ⟨i, hi, rfl⟩, hg⟩ := hg
  have hiB := List.all_eq_true.1 hins i hi
  unfold targetsB at hg
  cases h31 : i.1 == 31 <;> simp only [h31, cond_true, cond_false] at hg
  · cases h32 : i.1 == 32 <;> simp only [h32, cond_true, cond_false] at hg
    · cases hg
    · obtain ⟨c, hcl, hs, rfl⟩ := mem_slotsOf hg
      simp only [hasSlot, Bool.and_eq_true, decide_eq_true_eq] at hs
      obtain ⟨⟨c0, c1⟩, n0, n1⟩ := hs
      have hk : i.2.2.1.toNat < (clOf m c).2.2.1.length := by omega
      have hget : (clOf m c).2.2.1[i.2.2.1.toNat]? = some ((clOf m c).2.2.1.getD i.2.2.1.toNat 0) := by
        rw [List.getD_eq_getElem?_getD, List.getElem?_eq_getElem hk]; rfl
      have := (slots_of (allC_of hc c0 c1) hget).1
      exact inM_iff.2 this
  · rw [List.mem_singleton] at hg
    subst hg
    have e : i.1 = 31 := by simpa using h31
    unfold instrB at hiB
    rw [e] at hiB
    have : sin i.2.1 (m.2.2.2.1.length : Int) = true := hiB
    exact this
end Go.Pli

namespace Go.Pli
open Go Go.PM
theorem compactI_le : ∀ l : List Int, (compactI l).length ≤ l.length
  | [] => Nat.le_refl _
  | a :: l => by
    have := compactI_le l
    unfold compactI
    cases h : compactI l with
    | nil => simp
    | cons b r =>
      rw [h] at this
      simp only [List.length_cons] at this ⊢
      cases a == b <;> simp only [cond_true, cond_false, List.length_cons] <;> omega
theorem ofAll_row {m : Im} (hs : saneP m = true) {e : List Int} (he : e ∈ ofAll m) : e.length ≤ 1000 ∧ ∀ x ∈ e, inM m x = true := by
  obtain ⟨f, hf, rfl⟩ := List.mem_map.1 he
  have hfm : inM m f = true := inM_iff.2 (mem_ints.1 hf)
  have ht := tgtOk_of (saneP_of hs).2
  constructor
  · unfold ofB
    rw [hfm]
    simp only [cond_true]
    have h1 := compactI_le (sortL (allT m f))
    have h2 := allT_len (saneP_of hs).1 hfm
    rw [(perm_sortL _).length_eq] at h1
    omega
  · intro x hx
    exact tgt_in ht hfm ((mem_ofB hfm).1 hx)
theorem edOk_of {m : Im} (hs : saneP m = true) : edOk m = true := by
  simp only [edOk, List.all_eq_true, Bool.and_eq_true]
  intro e he
  obtain ⟨h1, h2⟩ := ofAll_row hs he
  exact ⟨okL_of (by omega), h2⟩
theorem aneeds_ends {m : Im} (hs : saneP m = true) {l : List (List Sh)} (hl : okSS l = true) : ∃ r, aneeds m l = some r := by
  have h12 := (fit_of (saneP_of hs).1).methods
  have hlen := ofAll_len m
  obtain ⟨r, hr, h1, h2⟩ := rings_ends (ED := ofAll m) (by omega) fun e he => (ofAll_row hs he).1
  have hall : (okL r.1 && r.1.all (fun p => okL p && p.all (inM m))) = true := by
    simp only [Bool.and_eq_true, List.all_eq_true]
    refine ⟨okL_of (by omega), fun p hp => ?_⟩
    obtain ⟨h3, h4⟩ := h2 p hp
    refine ⟨okL_of (by omega), fun x hx => ?_⟩
    obtain ⟨x0, x1⟩ := h4 x hx
    exact inM_iff.2 ⟨x0, by omega⟩
  unfold aneeds dbound
  rw [hs, hl, edOk_of hs, hr]
  simp only [Bool.and_self, cond_true, Option.bind_some, hall]
  exact ⟨_, rfl⟩
theorem scheck_sane {m : Im} (h : scheck m = 0) : saneP m = true := by
  unfold scheck at h
  unfold saneP
  cases h1 : ifits m <;> cases h2 : saneB m <;> simp only [h1, h2, cond_true, cond_false] at h ⊢ <;> first | rfl | (exact absurd h (by decide))
structure Told (m : Im) (t : List (List Sh) × Int × Int × Int × Unit) (n : Int × Int × Int × Unit) (p : Int × Int × Unit) : Prop where
  check : tcheck m = some t
  ok : okSS t.1 = true
  needs : aneeds m t.1 = some n
  pot : pcheck m t.1 = some p
theorem told {m : Im} (hs : saneP m = true) : ∃ t n p, Told m t n p := by
  obtain ⟨t, h1, h2, -⟩ := tcheck_ends hs
  obtain ⟨n, h3⟩ := aneeds_ends hs h2
  exact ⟨t, n, potM m t.1 (ints m.2.2.2.1.length), h1, h2, h3, by unfold pcheck; rw [hs, h2]; rfl⟩
def answer (m : Im) (t : List (List Sh) × Int × Int × Int × Unit) (n : Int × Int × Int × Unit) (p : Int × Int × Unit) : List (List Sh) × Int × Unit :=
  bif t.2.2.2.1 != 0 then ([], t.2.2.2.1, ())
  else bif n.2.2.1 != 0 then ([], n.2.2.1, ())
  else bif p.2.1 != 0 then ([], p.2.1, ())
  else bif decide (n.1 > m.2.2.2.2.2.1) then ([], 7, ())
  else bif decide (n.2.1 > m.2.2.2.2.2.2.1) then ([], 7, ())
  else (t.1, 0, ())
theorem acheck_told {m : Im} (h0 : scheck m = 0) {t n p} (h : Told m t n p) : acheckN m = some (answer m t n p) := by
  have h0' : (scheck m != 0) = false := by simp [h0]
  unfold acheckN answer
  rw [h0', h.check]
  simp only [cond_false, Option.bind_some]
  cases t.2.2.2.1 != 0 <;> simp only [cond_true, cond_false]
  rw [h.needs]
  simp only [Option.bind_some]
  cases n.2.2.1 != 0 <;> simp only [cond_true, cond_false]
  rw [h.pot]
  simp only [Option.bind_some]
  cases p.2.1 != 0 <;> simp only [cond_true, cond_false]
  cases decide (n.1 > m.2.2.2.2.2.1) <;> simp only [cond_true, cond_false]
  cases decide (n.2.1 > m.2.2.2.2.2.2.1) <;> simp only [cond_true, cond_false]
theorem acheck_bad {m : Im} (h0 : scheck m ≠ 0) : acheckN m = some ([], scheck m, ()) := by
  have h0' : (scheck m != 0) = true := by simp [h0]
  unfold acheckN
  rw [h0']
  rfl
def room (m : Im) (s h : Int) : Im := (m.1, m.2.1, m.2.2.1, m.2.2.2.1, m.2.2.2.2.1, s, h, ())
theorem saneB_room (m : Im) (s h : Int) : saneB (room m s h) = saneB m := by kernel_rfl
theorem tone_room {m : Im} {s h : Int} (he : saneP (room m s h) = saneP m) (f pc : Int) (hh : List Sh) (q : List Bool) : tone (room m s h) f pc hh q = tone m f pc hh q := by
  have h1 : oneP (room m s h) f pc hh q = oneP m f pc hh q := by unfold oneP; rw [he]; rfl
  unfold tone
  rw [h1]
  rfl
theorem walk_room {m : Im} {s h : Int} (he : saneP (room m s h) = saneP m) (f : Int) : ∀ (n : Nat) (hh : List Sh) (q : List Bool), walkM (room m s h) f n hh q = walkM m f n hh q
  | 0, _, _ => rfl
  | n + 1, hh, q => by
    unfold walkM
    rw [tone_room he]
    cases q.any id <;> simp only [cond_true, cond_false]
    congr 1
    funext r
    rw [walk_room he f n]
theorem tmethod_room {m : Im} {s h : Int} (he : saneP (room m s h) = saneP m) (f : Int) : tmethod (room m s h) f = tmethod m f := by
  unfold tmethod
  rw [he, walk_room he]
  rfl
theorem check_room {m : Im} {s h : Int} (he : saneP (room m s h) = saneP m) : ∀ (l : List Int) (out : List (List Sh)), checkM (room m s h) l out = checkM m l out
  | [], _ => rfl
  | f :: l, out => by
    unfold checkM
    rw [tmethod_room he]
    congr 1
    funext r
    rw [check_room he l]
theorem tcheck_room {m : Im} {s h : Int} (he : saneP (room m s h) = saneP m) : tcheck (room m s h) = tcheck m := by
  unfold tcheck
  rw [he, check_room he]
  rfl
theorem part_room (m : Im) (s h : Int) (l : List (List Sh)) (ed : List (List Int)) (part out : List Int) (c : Bool) : ∀ (q : List Int) (a b : Int), partF (room m s h) l ed part out c q a b = partF m l ed part out c q a b
  | [], _, _ => rfl
  | f :: q, a, b => by
    unfold partF
    rw [part_room m s h l ed part out c q]
    rfl
theorem rings_room (m : Im) (s h : Int) (l : List (List Sh)) (ed : List (List Int)) : ∀ (ps : List (List Int)) (out : List Int), ringsF (room m s h) l ed ps out = ringsF m l ed ps out
  | [], _ => rfl
  | p :: ps, out => by
    unfold ringsF
    rw [part_room]
    cases partF m l ed p out (cyclicB ed p) p 0 0 with
    | none => rfl
    | some a => exact rings_room m s h l ed ps _
theorem needF_room (m : Im) (s h : Int) (bd : List Int) : ∀ (q : List Int) (a b : Int), needF (room m s h) bd q a b = needF m bd q a b
  | [], _, _ => rfl
  | f :: q, a, b => by
    unfold needF
    rw [needF_room m s h bd q, needF_room m s h bd q]
    rfl
theorem aneeds_room {m : Im} {s h : Int} (he : saneP (room m s h) = saneP m) (l : List (List Sh)) : aneeds (room m s h) l = aneeds m l := by
  have hd : dbound (room m s h) l = dbound m l := by
    unfold dbound
    rw [he]
    have e1 : edOk (room m s h) = edOk m := by kernel_rfl
    have e2 : ofAll (room m s h) = ofAll m := by kernel_rfl
    have e3 : inM (room m s h) = inM m := rfl
    have e4 : (room m s h).2.2.2.1 = m.2.2.2.1 := rfl
    rw [e1, e2, e3, e4]
    congr 2
    funext r
    rw [rings_room]
  have hn : ∀ r, needB (room m s h) r = needB m r := by
    intro r
    unfold needB
    rw [needF_room]
    rfl
  unfold aneeds
  rw [he, hd]
  congr 2
  funext r
  rw [hn]
theorem potM_room (m : Im) (s h : Int) (l : List (List Sh)) : ∀ q : List Int, potM (room m s h) l q = potM m l q
  | [] => rfl
  | f :: q => by
    unfold potM
    rw [potM_room m s h l q]
    have e1 : rulesB (room m s h) l f = rulesB m l f := by kernel_rfl
    have e2 : goodR (room m s h) f = goodR m f := rfl
    have e3 : phiOf (room m s h) f = phiOf m f := rfl
    rw [e1, e2, e3]
theorem pcheck_room {m : Im} {s h : Int} (he : saneP (room m s h) = saneP m) (l : List (List Sh)) : pcheck (room m s h) l = pcheck m l := by
  unfold pcheck
  rw [he, potM_room]
  rfl
theorem more_room {m : Im} {s h : Int} (hf : ifits (room m s h) = ifits m) (h1 : m.2.2.2.2.2.1 ≤ s) (h2 : m.2.2.2.2.2.2.1 ≤ h) :
    ∃ r r', acheckN m = some r ∧ acheckN (room m s h) = some r' ∧ (r.2.1 = 0 → r'.2.1 = 0) ∧ (r'.2.1 = 0 ∨ r.2.1 = r'.2.1 ∨ r.2.1 = 7) := by
  have he : saneP (room m s h) = saneP m := by unfold saneP; rw [hf, saneB_room]
  have hsc : scheck (room m s h) = scheck m := by unfold scheck; rw [hf, saneB_room]
  by_cases h0 : scheck m = 0
  · obtain ⟨t, n, p, ht⟩ := told (scheck_sane h0)
    have ht' : Told (room m s h) t n p := ⟨by rw [tcheck_room he]; exact ht.check, ht.ok, by rw [aneeds_room he]; exact ht.needs, by rw [pcheck_room he]; exact ht.pot⟩
    refine ⟨_, _, acheck_told h0 ht, acheck_told (by rw [hsc]; exact h0) ht', ?_⟩
    have e1 : (room m s h).2.2.2.2.2.1 = s := rfl
    have e2 : (room m s h).2.2.2.2.2.2.1 = h := rfl
    unfold answer
    rw [e1, e2]
    cases t.2.2.2.1 != 0 <;> simp only [cond_true, cond_false]
    · cases n.2.2.1 != 0 <;> simp only [cond_true, cond_false]
      · cases p.2.1 != 0 <;> simp only [cond_true, cond_false]
        · by_cases a1 : n.1 > m.2.2.2.2.2.1
          · simp only [a1, decide_true, cond_true]
            exact ⟨fun h => absurd h (by decide), .inr (.inr trivial)⟩
          · have a2 : ¬ n.1 > s := by omega
            simp only [a1, a2, decide_false, cond_false]
            by_cases b1 : n.2.1 > m.2.2.2.2.2.2.1
            · simp only [b1, decide_true, cond_true]
              exact ⟨fun h => absurd h (by decide), .inr (.inr trivial)⟩
            · have b2 : ¬ n.2.1 > h := by omega
              simp only [b1, b2, decide_false, cond_false]
              exact ⟨fun _ => trivial, .inl trivial⟩
        · exact ⟨fun h => h, .inr (.inl trivial)⟩
      · exact ⟨fun h => h, .inr (.inl trivial)⟩
    · exact ⟨fun h => h, .inr (.inl trivial)⟩
  · refine ⟨_, _, acheck_bad h0, acheck_bad (by rw [hsc]; exact h0), ?_⟩
    rw [hsc]
    exact ⟨fun h => h, .inr (.inl rfl)⟩
end Go.Pli
