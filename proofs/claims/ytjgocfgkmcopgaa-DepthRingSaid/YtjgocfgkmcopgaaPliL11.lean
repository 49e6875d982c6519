/- Who calls whom: the printed functions come to what is told in plain Lean. -/
import Derived.Test.YtjgocfgkmcopgaaPliNt
import Derived.Test.YtjgocfgkmcopgaaPliL5E
namespace Go.Pli
open Go Go.PM
theorem loop_coll {α σ R : Type} {L : σ → (σ → Option R) → Option R} {n B : Nat} {st : Nat → List α → σ} {f : Nat → List α} {fin : List α → Option R} (hB : ∀ k, k < n → (f k).length ≤ B)
  (h1 : ∀ (k : Nat) (out : List α) (rec), k < n → out.length ≤ B * n → L (st k out) rec = rec (st (k + 1) (out ++ f k)))
  (h2 : ∀ out rec, out.length ≤ B * n → L (st n out) rec = fin out) : ∀ F : Nat, n < F → loopF L F (st 0 []) = fin (((List.range n).map f).flatten) := by
 have hlen : ∀ k, k ≤ n → (((List.range k).map f).flatten).length ≤ B * k := by
  intro k
  induction k with
  | zero => intro _; simp
  | succ k ih =>
   intro hk
   have := ih (by omega)
   have hb := hB k (by omega)
   rw [List.range_succ, List.map_append, List.flatten_append, List.length_append, Nat.mul_succ]
   simp only [List.map_cons, List.map_nil, List.flatten_cons, List.flatten_nil, List.append_nil]
   omega
 have key : ∀ (j k F : Nat), k + j = n → j < F → loopF L F (st k (((List.range k).map f).flatten)) = fin (((List.range n).map f).flatten) := by
  intro j
  induction j with
  | zero =>
   intro k F hk hF
   obtain ⟨F, rfl⟩ : ∃ m, F = m + 1 := ⟨F - 1, by omega⟩
   have : k = n := by omega
   subst this
   rw [loopF_step, h2 _ _ (hlen k (Nat.le_refl _))]
  | succ j ih =>
   intro k F hk hF
   obtain ⟨F, rfl⟩ : ∃ m, F = m + 1 := ⟨F - 1, by omega⟩
   have hb : B * k ≤ B * n := Nat.mul_le_mul_left _ (by omega)
   rw [loopF_step, h1 k _ _ (by omega) (Nat.le_trans (hlen k (by omega)) hb)]
   have := ih (k + 1) F (by omega) (by omega)
   rw [List.range_succ, List.map_append, List.flatten_append] at this
   simpa using this
 intro F hF
 have := key n 0 F (by omega) hF
 simpa using this
theorem ints_filter (p : Int → Bool) : ∀ n : Nat, ((List.range n).map fun k : Nat => bif p (k : Int) then [(k : Int)] else []).flatten = (ints n).filter p
 | 0 => rfl
 | n + 1 => by
  have ih := ints_filter p n
  unfold ints at ih ⊢
  rw [List.range_succ, List.map_append, List.flatten_append, ih, List.map_append, List.filter_append]
  congr 1
  cases h : p (n : Int) <;> simp [h]
theorem range_mapD {α β : Type} (g : α → β) (z : α) (l : List α) : (List.range l.length).map (fun k => g (l.getD k z)) = l.map g := by
 apply List.ext_getElem (by simp)
 intro i h1 h2
 have : i < l.length := by simpa using h1
 simp [this]
theorem flat_one {α β : Type} (g : α → β) (l : List α) : (l.map fun k => [g k]).flatten = l.map g := by
 induction l with
 | nil => rfl
 | cons x l ih => rw [List.map_cons, List.flatten_cons, ih]; rfl
theorem ints_len (n : Nat) : (ints n).length = n := by simp [ints]
theorem ints_get {n k : Nat} (h : k < n) (z : Int) : (ints n).getD k z = (k : Int) := by simp [ints, h]
theorem mem_ints {n : Nat} {x : Int} : x ∈ ints n ↔ 0 ≤ x ∧ x < (n : Int) := by
 simp only [ints, List.mem_map, List.mem_range]
 constructor
 ·rintro ⟨k, hk, rfl⟩; omega
 ·rintro ⟨h0, h1⟩; exact ⟨x.toNat, by omega, by omega⟩
theorem belowB_len (m : Im) (c : Int) : (belowB m c).length ≤ m.1.length := by
 unfold belowB
 exact Nat.le_trans (List.length_filter_le _ _) (by simp [ints])
theorem room_ok {n : Nat} (h : n < 549755813888) : decide (n < rowMax) = true := decide_eq_true h
theorem cbelow_ok (m : Im) (c : Int) (r) (h : cbelow m c = some r) : ∃ k, cbelowN k m c = some r := by
 unfold cbelow at h
 cases hi : ifits m <;> simp only [hi, cond_true, cond_false] at h
 ·cases h
 injection h with h
 subst h
 have h8 := (fit_of hi).classes
 refine ⟨m.1.length + 1, ?_⟩
 unfold cbelowN
 have := loop_coll (L := cbelowL1 m c) (n := m.1.length) (B := 1) (st := fun k out => (out, (k : Int), ())) (f := fun k => bif kbelow m.1 (k : Int) c then [(k : Int)] else []) (fin := fun out => some (idL out, ())) (fun k _ => by cases kbelow m.1 (k : Int) c <;> simp)
  (fun k out rec hk ho => by
   rw [cbelowL1]
   simp only [dlt hk, cond_true, List.length_cons, List.length_nil, room_ok (show out.length + (0 + 1) < 549755813888 by omega), wsucc hk (by simp only [lenMax]; omega)]
   cases kbelow m.1 (k : Int) c <;> simp)
  (fun out rec _ => by rw [cbelowL1]; simp only [dnlt, cond_false]) (m.1.length + 1) (by omega)
 rw [ints_filter (fun n => kbelow m.1 n c)] at this
 exact this
theorem below_r5 (m : Im) (n c : Int) (_ : 0 ≤ n) : (raboveB m.1 n).contains c = kbelow m.1 n c := by
 unfold kbelow raboveB
 by_cases hn : n < (m.1.length : Int)
 ·simp only [hn, decide_true, cond_true, Bool.true_and]
  cases hc : (chain m.1 n).contains c
  ·simp
  ·have hm : c ∈ chain m.1 n := by simpa using hc
   have := chain_mem (n.toNat + 1) n (by omega) hm
   simp [this.1, show c < (m.1.length : Int) by omega]
 ·simp [hn]
theorem rabove_at {m : Im} (hi : ifits m = true) (n : Int) : rabove m.1 n = some (raboveB m.1 n, ()) := by
 have h8 := (fit_of hi).classes
 have hok : okL m.1 = true := by unfold okL; simp; omega
 unfold rabove; rw [hok]; rfl
theorem rin_at {l : List Int} {x : Int} (h : l.length < 1000000000) : rin l x = some (l.contains x, ()) := by
 unfold rin; rw [decide_eq_true (show l.length < 9223372036854775807 by omega)]; rfl
theorem r5below_ok (m : Im) (c : Int) (r) (h : r5below m c = some r) : ∃ k, r5belowN k m c = some r := by
 unfold r5below at h
 cases hi : ifits m <;> simp only [hi, cond_true, cond_false] at h
 ·cases h
 injection h with h
 subst h
 have h8 := (fit_of hi).classes
 refine ⟨m.1.length + 1, ?_⟩
 unfold r5belowN
 have := loop_coll (L := r5belowL1 m c) (n := m.1.length) (B := 1) (st := fun k out => (out, (k : Int), ())) (f := fun k => bif kbelow m.1 (k : Int) c then [(k : Int)] else []) (fin := fun out => some (out, ())) (fun k _ => by cases kbelow m.1 (k : Int) c <;> simp)
  (fun k out rec hk ho => by
   have hl := raboveB_len (l := m.1) (c := (k : Int))
   rw [r5belowL1]
   simp only [dlt hk, cond_true, rabove_at hi, Option.bind_some, rin_at (show (raboveB m.1 (k : Int)).length < 1000000000 by omega), below_r5 m (k : Int) c (by omega), List.length_cons, List.length_nil, room_ok (show out.length + (0 + 1) < 549755813888 by omega), wsucc hk (by simp only [lenMax]; omega)]
   cases kbelow m.1 (k : Int) c <;> simp)
  (fun out rec _ => by rw [r5belowL1]; simp only [dnlt, cond_false]) (m.1.length + 1) (by omega)
 rw [ints_filter (fun n => kbelow m.1 n c)] at this
 exact this
theorem cslot_eq (m : Im) (c n : Int) : cslotN m c n = some (cslot m c n) := by
 unfold cslotN cslot hasSlot clOf
 by_cases h1 : c < 0
 ·have : ¬ 0 ≤ c := by omega
  simp [h1, this]
 ·have h1' : 0 ≤ c := by omega
  by_cases h2 : c ≥ (m.1.length : Int)
  ·have : ¬ c < (m.1.length : Int) := by omega
   simp [h1, h2, this]
  ·have h2' : c < (m.1.length : Int) := by omega
   by_cases h3 : n < 0
   ·have : ¬ 0 ≤ n := by omega
    simp [h1, h2, h3, this]
   ·have h3' : 0 ≤ n := by omega
    by_cases h4 : n ≥ ((m.1.getD c.toNat zCl).2.2.1.length : Int)
    ·have : ¬ n < ((m.1.getD c.toNat zCl).2.2.1.length : Int) := by omega
     simp only [h1, h2, h3, h4, h1', h2', h3', this, decide_true, decide_false, cond_true, cond_false, Bool.and_self, Bool.and_false]
    ·have h4' : n < ((m.1.getD c.toNat zCl).2.2.1.length : Int) := by omega
     simp only [h1, h2, h3, h4, h1', h2', h3', h4', decide_true, decide_false, cond_true, cond_false, Bool.and_self]
theorem r5slot_eq (m : Im) (c n : Int) : r5slotN m c n = some (r5slot m c n) := cslot_eq m c n
theorem slots_coll (m : Im) (l : List Int) (n : Int) : ((List.range l.length).map fun k => bif (cslot m (l.getD k 0) n).2.1 then [(cslot m (l.getD k 0) n).1] else []).flatten = slotsOf m l n := by
 rw [range_mapD (fun c => bif (cslot m c n).2.1 then [(cslot m c n).1] else []) 0 l]
 unfold slotsOf
 induction l with
 | nil => rfl
 | cons c l ih =>
  rw [List.map_cons, List.flatten_cons, ih, List.filter_cons]
  cases h : (cslot m c n).2.1 <;> simp
theorem slotsOf_len (m : Im) (l : List Int) (n : Int) : (slotsOf m l n).length ≤ l.length := by
 unfold slotsOf
 rw [List.length_map]
 exact List.length_filter_le _ _
theorem targets_loop {m : Im} {i : Ins} {L : List Int × Int × Unit → (List Int × Int × Unit → Option (List Int × Unit)) → Option (List Int × Unit)} (l : List Int) (hl : l.length < 1000)
  (hL : ∀ s rec, L s rec = (bif decide (s.2.1 < (l.length : Int)) then
  bif decide (0 ≤ s.2.1) && decide (s.2.1 < l.length) then
   let r4 := cslot m (l.getD s.2.1.toNat 0) i.2.2.1
   bif r4.2.1 then
    bif decide (s.1.length + [r4.1].length < rowMax) then
     rec (s.1 ++ [r4.1], IntKind.i64.wrap (s.2.1 + 1), ())
    else none
   else rec (s.1, IntKind.i64.wrap (s.2.1 + 1), ())
  else none
 else some (s.1, ()))) : loopF L (l.length + 1) ([], 0, ()) = some (slotsOf m l i.2.2.1, ()) := by
 have := loop_coll (L := L) (n := l.length) (B := 1) (st := fun k out => (out, (k : Int), ())) (f := fun k => bif (cslot m (l.getD k 0) i.2.2.1).2.1 then [(cslot m (l.getD k 0) i.2.2.1).1] else []) (fin := fun out => some (out, ())) (fun k _ => by cases (cslot m (l.getD k 0) i.2.2.1).2.1 <;> simp)
  (fun k out rec hk ho => by
   rw [hL]
   simp only [dlt hk, dge, Bool.and_self, cond_true, Int.toNat_natCast, List.length_cons, List.length_nil, room_ok (show out.length + (0 + 1) < 549755813888 by omega), wsucc hk (by simp only [lenMax]; omega)]
   cases (cslot m (l.getD k 0) i.2.2.1).2.1 <;> simp)
  (fun out rec _ => by rw [hL]; simp only [dnlt, cond_false]) (l.length + 1) (by omega)
 rw [slots_coll] at this
 exact this
theorem ctargets_ok (m : Im) (i : Ins) (r) (h : ctargets m i = some r) : ∃ k, ctargetsN k m i = some r := by
 unfold ctargets at h
 cases hi : ifits m <;> simp only [hi, cond_true, cond_false] at h
 ·cases h
 injection h with h
 subst h
 have h8 := (fit_of hi).classes
 have hl := belowB_len m i.2.1
 refine ⟨(belowB m i.2.1).length + 1, ?_⟩
 unfold ctargetsN targetsB
 have hb : cbelow m i.2.1 = some (belowB m i.2.1, ()) := by unfold cbelow; rw [hi]; rfl
 cases h1 : i.1 == 31 <;> simp only [cond_true, cond_false]
 ·cases h2 : i.1 == 32 <;> simp only [cond_true, cond_false]
  rw [hb]
  simp only [Option.bind_some]
  exact targets_loop (belowB m i.2.1) (by omega) (fun s rec => rfl)
 ·rfl
theorem r8targets_ok (m : Im) (i : Ins) (r) (h : r8targets m i = some r) : ∃ k, r8targetsN k m i = some r := by
 unfold r8targets at h
 cases hi : ifits m <;> simp only [hi, cond_true, cond_false] at h
 ·cases h
 injection h with h
 subst h
 have h8 := (fit_of hi).classes
 have hl := belowB_len m i.2.1
 refine ⟨(belowB m i.2.1).length + 1, ?_⟩
 unfold r8targetsN targetsB
 have hb : r5below m i.2.1 = some (belowB m i.2.1, ()) := by unfold r5below; rw [hi]; rfl
 cases h1 : i.1 == 31 <;> simp only [cond_true, cond_false, Option.bind_some]
 ·cases h2 : i.1 == 32 <;> simp only [cond_true, cond_false]
  rw [hb]
  simp only [Option.bind_some]
  exact targets_loop (belowB m i.2.1) (by omega) (fun s rec => rfl)
 ·have h2 : (i.1 == 32) = false := by
   have : i.1 = 31 := by simpa using h1
   rw [this]; rfl
  have hroom : decide (([] : List Int).length + [i.2.1].length < rowMax) = true := room_ok (by simp)
  rw [h2, hroom]
  rfl
theorem targetsB_len {m : Im} (hi : ifits m = true) (i : Ins) : (targetsB m i).length ≤ 8 := by
 have h8 := (fit_of hi).classes
 have hl := belowB_len m i.2.1
 have hs := slotsOf_len m (belowB m i.2.1) i.2.2.1
 unfold targetsB
 cases i.1 == 31 <;> simp only [cond_true, cond_false]
 ·cases i.1 == 32 <;> simp only [cond_true, cond_false]
  ·simp
  ·omega
 ·simp
theorem inM_iff {m : Im} {f : Int} : inM m f = true ↔ 0 ≤ f ∧ f < (m.2.2.2.1.length : Int) := by
 unfold inM sin nM; simp
theorem r8calls_ok (m : Im) (f g : Int) (r) (h : r8calls m f g = some r) : ∃ k, r8callsN k m f g = some r := by
 unfold r8calls at h
 cases hi : ifits m && inM m f <;> simp only [hi, cond_true, cond_false] at h
 ·cases h
 injection h with h
 subst h
 simp only [Bool.and_eq_true] at hi
 obtain ⟨hi, hf⟩ := hi
 obtain ⟨h0, h1⟩ := inM_iff.1 hf
 have hx := (mth_of ((fit_of hi).mts _ (mtOf_mem h0 h1))).2.2.2.1.1
 have hd : m.2.2.2.1.getD f.toNat zMt = mtOf m f := rfl
 have hr : (decide (0 ≤ f) && decide (f < (m.2.2.2.1.length : Int))) = true := by simp [h0, h1]
 refine ⟨(mtOf m f).2.2.2.1.length + 1, ?_⟩
 unfold r8callsN callsB
 have := loop_all (L := r8callsL1 m f g) (xs := (mtOf m f).2.2.2.1) (st := fun k => ((k : Int), ())) (p := fun i => !(targetsB m i).contains g) (ex := some (true, ())) (fin := some (false, ()))
  (fun k x rec hk hlt => by
   have ht : r8targets m x = some (targetsB m x, ()) := by unfold r8targets; rw [hi]; rfl
   have htl := targetsB_len hi x
   rw [r8callsL1]
   simp only [hd, hr, dlt hlt, dge, Bool.and_self, cond_true, Int.toNat_natCast, getD_some hk, ht, Option.bind_some, rin_at (show (targetsB m x).length < 1000000000 by omega), wsucc hlt (by simp only [lenMax]; omega)]
   cases (targetsB m x).contains g <;> rfl)
  (fun rec => by rw [r8callsL1]; simp only [hd, hr, dnlt, cond_true, cond_false]) ((mtOf m f).2.2.2.1.length + 1) (by omega)
 refine this.trans ?_
 rw [← List.not_any_eq_all_not]
 cases (mtOf m f).2.2.2.1.any fun i => (targetsB m i).contains g <;> rfl
theorem r8edges_ok (m : Im) (r) (h : r8edges m = some r) : ∃ k, r8edgesN k m = some r := by
 unfold r8edges at h
 cases hi : ifits m <;> simp only [hi, cond_true, cond_false] at h
 ·cases h
 injection h with h
 subst h
 have h12 := (fit_of hi).methods
 refine ⟨m.2.2.2.1.length + 1, ?_⟩
 unfold r8edgesN
 have := loop_coll (L := r8edgesL2 m (m.2.2.2.1.length + 1)) (n := m.2.2.2.1.length) (B := 1) (st := fun k out => (out, (k : Int), ())) (f := fun k => [(ints m.2.2.2.1.length).filter fun g => callsB m (k : Int) g]) (fin := fun out => some (out, ())) (fun k _ => by simp)
  (fun k out rec hk ho => by
   rw [r8edgesL2]
   simp only [dlt hk, cond_true]
   have hin : inM m (k : Int) = true := inM_iff.2 ⟨by omega, by omega⟩
   have := loop_coll (L := r8edgesL1 m (out, (k : Int), ()) rec) (n := m.2.2.2.1.length) (B := 1) (st := fun j l => (l, (j : Int), ())) (f := fun j => bif callsB m (k : Int) (j : Int) then [(j : Int)] else []) (fin := fun l => rec (out ++ [l], ((k + 1 : Nat) : Int), ())) (fun j _ => by cases callsB m (k : Int) (j : Int) <;> simp)
    (fun j l rec2 hj hl => by
     have hc : r8calls m (k : Int) (j : Int) = some (callsB m (k : Int) (j : Int), ()) := by unfold r8calls; rw [hi, hin]; rfl
     rw [r8edgesL1]
     simp only [dlt hj, cond_true, hc, Option.bind_some, List.length_cons, List.length_nil, room_ok (show l.length + (0 + 1) < 549755813888 by omega), wsucc hj (by simp only [lenMax]; omega)]
     cases callsB m (k : Int) (j : Int) <;> simp)
    (fun l rec2 _ => by
     rw [r8edgesL1]
     simp only [dnlt, cond_false, List.length_cons, List.length_nil, room_ok (show out.length + (0 + 1) < 549755813888 by omega), Bool.and_self, cond_true, wsucc hk (show _ ≤ lenMax by simp only [lenMax]; omega)]) (m.2.2.2.1.length + 1) (by omega)
   rw [ints_filter (fun g => callsB m (k : Int) g)] at this
   exact this)
  (fun out rec _ => by rw [r8edgesL2]; simp only [dnlt, cond_false]) (m.2.2.2.1.length + 1) (by omega)
 rw [flat_one] at this
 refine this.trans ?_
 unfold edgesB
 rw [show ints m.2.2.2.1.length = (List.range m.2.2.2.1.length).map fun k : Nat => (k : Int) from rfl, List.map_map]
 rfl
end Go.Pli

namespace Go.Pli
open Go Go.PM
theorem loop_seq {σ R : Type} {L : σ → (σ → Option R) → Option R} {n : Nat} {st : Nat → σ} {fin : Option R}
  (h1 : ∀ (k : Nat) (rec), k < n → L (st k) rec = rec (st (k + 1))) (h2 : ∀ rec, L (st n) rec = fin) : ∀ F : Nat, n < F → loopF L F (st 0) = fin := by
 have key : ∀ (j k F : Nat), k + j = n → j < F → loopF L F (st k) = fin := by
  intro j
  induction j with
  | zero =>
   intro k F hk hF
   obtain ⟨F, rfl⟩ : ∃ m, F = m + 1 := ⟨F - 1, by omega⟩
   have : k = n := by omega
   subst this
   rw [loopF_step, h2]
  | succ j ih =>
   intro k F hk hF
   obtain ⟨F, rfl⟩ : ∃ m, F = m + 1 := ⟨F - 1, by omega⟩
   rw [loopF_step, h1 k _ (by omega)]
   exact ih (k + 1) F (by omega) (by omega)
 intro F hF
 exact key n 0 F (by omega) hF
theorem getD_out {α : Type} {l : List α} {n : Nat} {z : α} (h : l.length ≤ n) : l.getD n z = z := by simp [List.getD_eq_getElem?_getD, h]
theorem okL_of {α : Type} {l : List α} (h : l.length < 1000000) : okL l = true := by simpa [okL] using h
theorem indexI_eq (s : List Int) (v : Int) (h : indexILen s v) : ∃ k, indexIN k s v = some (indexI s v, ()) := by
 refine ⟨s.length + 1, loop_index (st := fun k => ((k : Int), ())) (p := fun n => v == n) (fun k x rec hk hlt => ?_) (fun rec => ?_) _ (Nat.lt_succ_self _)⟩
 ·unfold indexIL1
  simp only [dlt hlt, dge, Bool.and_self, cond_true, Int.toNat_natCast, getD_some hk, wsucc hlt h.1.1]
 ·unfold indexIL1
  simp only [dnlt, cond_false]
theorem containsI_eq (s : List Int) (v : Int) (_ : containsILen s v) : containsIN s v = some (containsI s v, ()) := by
 unfold containsIN indexI containsI
 rw [indexF_any, List.contains_eq_any_beq]
theorem class_fields {m : Im} (hi : ifits m = true) {c : Int} : (clOf m c).2.1.length ≤ 8 := by
 have hf := fit_of hi
 unfold clOf
 by_cases hc : c.toNat < m.1.length
 ·have := hf.cls (m.1.getD c.toNat zCl) (by simp [hc])
  simp only [iclass, itypes, Bool.and_eq_true, decide_eq_true_eq] at this
  have := this.2.2.1.1
  omega
 ·have : m.1.getD c.toNat zCl = zCl := getD_out (by omega)
  rw [this]; decide
theorem fieldsB_len {m : Im} (hi : ifits m = true) (c : Int) : (fieldsB m c).length ≤ 8 * 8 := by
 have h8 := (fit_of hi).classes
 have hl : (raboveB m.1 c).length ≤ 8 := by
  unfold raboveB
  by_cases hc : c < (m.1.length : Int)
  ·have := chain_len m.1 (c.toNat + 1) c (by omega)
   by_cases h0 : 0 ≤ c
   ·simp [hc]; omega
   ·simp [hc, chain_neg (show c < 0 by omega)]
  ·simp [hc]
 unfold fieldsB
 have key : ∀ l : List Int, ((l.map fun s => (clOf m s).2.1).flatten).length ≤ 8 * l.length := by
  intro l
  induction l with
  | nil => simp
  | cons x l ih =>
   have := class_fields hi (c := x)
   simp only [List.map_cons, List.flatten_cons, List.length_append, List.length_cons]
   omega
 have := key (raboveB m.1 c).reverse
 rw [List.length_reverse] at this
 omega
theorem getD_app {α : Type} (a b : List α) (n : Nat) (z : α) : (a ++ b).getD n z = if n < a.length then a.getD n z else b.getD (n - a.length) z := by
 by_cases h : n < a.length <;> simp [List.getD_eq_getElem?_getD, List.getElem?_append, h]
end Go.Pli

namespace Go.Pli
open Go Go.PM
theorem saneP_of {m : Im} (h : saneP m = true) : ifits m = true ∧ saneB m = true := by simpa [saneP] using h
theorem sane_goods {m : Im} (h : saneP m = true) : goods m m.2.1 = true := by
 have := (saneP_of h).2
 simp only [saneB, Bool.and_eq_true] at this
 exact this.1
theorem sane_allC {m : Im} (h : saneP m = true) : allC m = true := by
 have := (saneP_of h).2
 simp only [saneB, Bool.and_eq_true] at this
 exact this.2.1
theorem sane_method {m : Im} (h : saneP m = true) {f : Int} (hf : inM m f = true) : methodB m (mtOf m f) = true := by
 have := (saneP_of h).2
 simp only [saneB, Bool.and_eq_true] at this
 obtain ⟨h0, h1⟩ := inM_iff.1 hf
 exact List.all_eq_true.1 this.2.2.1 _ (mtOf_mem h0 h1)
theorem sane_code {m : Im} (h : saneP m = true) {f : Int} (hf : inM m f = true) : 0 < codeN m f ∧ codeN m f ≤ 64 := by
 have h1 := sane_method h hf
 simp only [methodB, Bool.and_eq_true, decide_eq_true_eq] at h1
 obtain ⟨a, b⟩ := inM_iff.1 hf
 have h2 := (mth_of ((fit_of (saneP_of h).1).mts _ (mtOf_mem a b))).2.2.2.1.1
 unfold codeN
 have := h1.2.2.2.1
 omega
theorem sane_locals {m : Im} (h : saneP m = true) {f : Int} (hf : inM m f = true) : (mtOf m f).1.length + (mtOf m f).2.1.length ≤ 8 := by
 have h1 := sane_method h hf
 simp only [methodB, Bool.and_eq_true, decide_eq_true_eq] at h1
 exact h1.2.2.2.2.2.1
theorem insOf_mem {m : Im} {f pc : Int} (hp : sin pc (codeN m f : Int) = true) : insOf m f pc ∈ (mtOf m f).2.2.2.1 := by
 simp only [sin, Bool.and_eq_true, decide_eq_true_eq] at hp
 unfold codeN at hp
 have : pc.toNat < (mtOf m f).2.2.2.1.length := by omega
 unfold insOf
 rw [getD_some (List.getElem?_eq_getElem this)]
 exact List.getElem_mem this
theorem sane_instr {m : Im} (h : saneP m = true) {f pc : Int} (hf : inM m f = true) (hp : sin pc (codeN m f : Int) = true) : instrB m (mtOf m f) (insOf m f pc) = true := by
 have h1 := sane_method h hf
 simp only [methodB, Bool.and_eq_true] at h1
 exact List.all_eq_true.1 h1.2.2.2.2.2.2 _ (insOf_mem hp)
theorem flat_rev_len {α β : Type} (g : α → List β) : ∀ l : List α, ((l.reverse.map g).flatten).length = sumL (l.map fun x => (g x).length)
 | [] => rfl
 | x :: l => by
  have := flat_rev_len g l
  simp only [List.reverse_cons, List.map_append, List.flatten_append, List.length_append, List.map_cons, List.map_nil, List.flatten_cons, List.flatten_nil, List.append_nil, sumL]
  rw [this]
  omega
theorem fieldsB_count {m : Im} {c : Int} (h : c < (m.1.length : Int)) : (fieldsB m c).length = fieldsC m c := by
 unfold fieldsB fieldsC raboveB
 simp only [h, decide_true, cond_true]
 exact flat_rev_len _ _
theorem slot_at {m : Im} {c n : Int} (h : hasSlot m c n = true) : (clOf m c).2.2.1[n.toNat]? = some (cslot m c n).1 := by
 unfold cslot
 rw [h]
 simp only [hasSlot, Bool.and_eq_true, decide_eq_true_eq] at h
 have hk : n.toNat < (clOf m c).2.2.1.length := by omega
 simp [hk]
theorem cond_P {α : Type} {P : α → Prop} {b : Bool} {x y : α} (h1 : P x) (h2 : P y) : P (bif b then x else y) := by cases b <;> assumption
def Small (e : Eff) : Prop := e.1.length ≤ 12 ∧ e.2.1.length ≤ 1
theorem small_called {m : Im} (hs : saneP m = true) {g : Int} (hg : inM m g = true) {t : List Tp} (ht : t.length ≤ 1) : Small (calledB (mtOf m g) t) := by
 have := sane_locals hs hg
 unfold Small calledB
 constructor
 ·simp only [List.length_append, List.length_drop]; omega
 ·cases (mtOf m g).2.2.1.1 != 5 <;> simp
theorem small_plain (o : Int) : Small (fplain o).1 := by
 unfold fplain
 repeat' refine cond_P (P := fun z : Eff × Bool × Unit => Small z.1) ⟨by decide, by decide⟩ ?_
 exact ⟨by decide, by decide⟩
theorem small_eff {m : Im} (hs : saneP m = true) {i : Ins} {f : Int} (hi : instrB m (mtOf m f) i = true) : Small (effB m (mtOf m f) i) := by
 have hcl := sane_allC hs
 unfold effB
 rcases i with ⟨o, a, b, ⟨⟩⟩
 refine cond_P (small_plain _) ?_
 refine cond_P ⟨by simp, by simp⟩ (cond_P ⟨by simp, by simp⟩ (cond_P ⟨by simp, by simp⟩ (cond_P ⟨by simp, by simp⟩ (cond_P ⟨by simp, by simp⟩ (cond_P ⟨by simp, by simp⟩ (cond_P ⟨by simp, by simp⟩ ?_))))))
 cases e : o == 31
 case true =>
  obtain rfl : o = 31 := by simpa using e
  have : sin a (m.2.2.2.1.length : Int) = true := by simpa [instrB] using hi
  exact small_called hs this (by simp)
 simp only [cond_false]
 cases e : o == 32
 case true =>
  obtain rfl : o = 32 := by simpa using e
  have : sin a (m.1.length : Int) = true ∧ sin b ((clOf m a).2.2.1.length : Int) = true := by simpa [instrB] using hi
  have hsl : hasSlot m a b = true := by unfold hasSlot; unfold sin at this; rw [this.1, this.2]; rfl
  have h1 := slot_at hsl
  simp only [sin, Bool.and_eq_true, decide_eq_true_eq] at this
  obtain ⟨h2, h3⟩ := slots_of (allC_of hcl this.1.1 this.1.2) h1
  exact small_called hs (inM_iff.2 h2) (by simp)
 simp only [cond_false]
 exact cond_P ⟨by simp, by simp⟩ (cond_P (cond_P ⟨by simp, by simp⟩ ⟨by simp, by simp⟩) ⟨by simp, by simp⟩)
theorem nexts_two (i : Ins) (pc : Int) : (fnexts i pc).length ≤ 2 := by
 unfold fnexts
 cases i.1 == 18 <;> cases i.1 == 19 <;> cases i.1 == 33 <;> exact Nat.le_of_ble_eq_true rfl
theorem zip_all_drop {α β : Type} (p : α → β → Bool) (x : α) (_ : β) : ∀ (s : List α) (e : List β), e.length = s.length → ((s.zip e).all fun q => p q.1 q.2) = e.zipIdx.all fun q => p (s.getD q.2 x) q.1 := by
 intro s e h
 rw [Bool.eq_iff_iff, List.all_eq_true, List.all_eq_true]
 constructor
 ·rintro h1 ⟨b, k⟩ hq
  obtain ⟨hk, hb⟩ := List.mem_zipIdx' hq
  have : (s.getD k x, b) ∈ s.zip e := by
   rw [List.mem_iff_getElem?]
   refine ⟨k, ?_⟩
   have hks : k < s.length := by omega
   simp [List.getElem?_zip_eq_some, hks, hk, hb]
  exact h1 _ this
 ·rintro h1 ⟨a, b⟩ hq
  obtain ⟨k, hk⟩ := List.mem_iff_getElem?.1 hq
  rw [List.getElem?_zip_eq_some] at hk
  have h2 : (b, k) ∈ e.zipIdx := by
   rw [List.mem_zipIdx_iff_getElem?]
   exact hk.2
  have := h1 _ h2
  simpa [hk.1] using this
end Go.Pli

namespace Go.Pli
open Go Go.PM
theorem mergeO_len (l : List Cl) {a s : List Tp} (h : a.length = s.length) : (mergeO l a s).length = s.length := by
 unfold mergeO
 rw [List.length_map, List.length_zip, h, Nat.min_self]
theorem mergeO_get (l : List Cl) {a s : List Tp} {k : Nat} (h1 : k < a.length) (h2 : k < s.length) : (mergeO l a s)[k]? = some (joinB l (a.getD k zTp) (s.getD k zTp)) := by
 unfold mergeO
 rw [List.getElem?_map, List.getElem?_eq_getElem (show k < (a.zip s).length by rw [List.length_zip]; omega)]
 simp [h1, h2]
theorem nexts_in {m : Im} (hs : saneP m = true) {f pc : Int} (hf : inM m f = true) (hp : sin pc (codeN m f : Int) = true) (hn : (fnexts (insOf m f pc) pc).contains (codeN m f : Int) = false) : ∀ to ∈ fnexts (insOf m f pc) pc, 0 ≤ to ∧ to < (codeN m f : Int) := by
 have hi := sane_instr hs hf hp
 have hc := sane_code hs hf
 simp only [sin, Bool.and_eq_true, decide_eq_true_eq] at hp
 have hw : IntKind.i64.wrap (pc + 1) = pc + 1 := by rw [w64'] <;> omega
 intro to ht
 have hne : to ≠ (codeN m f : Int) := by
  rintro rfl
  rw [List.contains_iff_mem.2 ht] at hn
  cases hn
 have hj : ((insOf m f pc).1 == 18 || (insOf m f pc).1 == 19) = true → 0 ≤ (insOf m f pc).2.1 ∧ (insOf m f pc).2.1 < (codeN m f : Int) := by
  intro hh
  have : sin (insOf m f pc).2.1 (codeN m f : Int) = true := by
   rw [Bool.or_eq_true] at hh
   unfold instrB at hi
   rcases hh with hh | hh <;> (have e := eq_of_beq hh; rw [e] at hi; exact hi)
  simpa [sin] using this
 unfold fnexts at ht
 cases h1 : (insOf m f pc).1 == 18 <;> simp only [h1, cond_true, cond_false] at ht
 ·cases h2 : (insOf m f pc).1 == 19 <;> simp only [h2, cond_true, cond_false] at ht
  ·cases h3 : (insOf m f pc).1 == 33 <;> simp only [h3, cond_true, cond_false] at ht
   ·rw [List.mem_singleton, hw] at ht; omega
   ·cases ht
  ·rw [hw] at ht
   rcases List.mem_cons.1 ht with ht | ht
   ·omega
   ·rw [List.mem_singleton] at ht
    have := hj (by rw [h2, Bool.or_true])
    omega
 ·rw [List.mem_singleton] at ht
  have := hj (by rw [h1, Bool.true_or])
  omega
theorem step_facts {m : Im} (hs : saneP m = true) {f pc : Int} {s : List Tp} (h : (stepB m f pc s).2.2.1 = 0) :
  inM m f = true ∧ sin pc (codeN m f : Int) = true ∧ (stepB m f pc s).1.length ≤ 8 ∧ (∀ to ∈ (stepB m f pc s).2.1, 0 ≤ to ∧ to < (codeN m f : Int)) := by
 unfold stepB at h ⊢
 cases hf : inM m f
 ·rw [hf] at h; simp at h
 cases hp : sin pc (codeN m f : Int)
 ·rw [hf, hp] at h; simp at h
 simp only [hf, hp, Bool.and_self, Bool.not_true, cond_false] at h ⊢
 cases hn : (fnexts (insOf m f pc) pc).contains (codeN m f : Int)
 case true => rw [hn] at h; simp at h
 have hin := nexts_in hs hf hp hn
 simp only [hn, cond_false] at h ⊢
 refine ⟨trivial, trivial, ?_⟩
 cases h6 : (insOf m f pc).1 == 6 <;> simp only [h6, cond_true, cond_false] at h ⊢
 ·unfold stepE at h ⊢
  generalize effB m (mtOf m f) (insOf m f pc) = E at h ⊢
  cases hb : decide (s.length < E.1.length) || decide (s.length - E.1.length + E.2.1.length > 8) <;> simp only [hb, cond_true, cond_false] at h ⊢
  ·simp only [Bool.or_eq_false_iff, decide_eq_false_iff_not] at hb
   cases hz : ((s.drop (s.length - E.1.length)).zip E.1).all fun p => ffits m (insOf m f pc).1 p.1 p.2 <;> simp only [hz, cond_true, cond_false] at h ⊢
   ·cases h
   ·refine ⟨?_, hin⟩
    rw [List.length_append, List.length_take]
    omega
  ·cases h
 ·cases hb : decide (s.length = 0) || decide (s.length ≥ 8) <;> simp only [hb, cond_true, cond_false] at h ⊢
  ·simp only [Bool.or_eq_false_iff, decide_eq_false_iff_not] at hb
   refine ⟨?_, hin⟩
   rw [List.length_append, List.length_drop]
   omega
  ·cases h
structure OneP (m : Im) (f pc : Int) (h : List Sh) (q : List Bool) : Prop where
 sane : saneP m = true
 meth : inM m f = true
 at' : sin pc (codeN m f : Int) = true
 hl : h.length = codeN m f
 ql : q.length = codeN m f
 ok : ∀ s ∈ h, okL s.2.1 = true
theorem oneP_of {m : Im} {f pc : Int} {h : List Sh} {q : List Bool} (hh : oneP m f pc h q = true) : OneP m f pc h q := by
 simp only [oneP, Bool.and_eq_true, decide_eq_true_eq, List.all_eq_true] at hh
 exact ⟨hh.1, hh.2.1, hh.2.2.1, hh.2.2.2.1, hh.2.2.2.2.1, hh.2.2.2.2.2⟩
theorem OneP.to {m : Im} {f pc : Int} {h : List Sh} {q : List Bool} (hh : OneP m f pc h q) : oneP m f pc h q = true := by
 simp only [oneP, Bool.and_eq_true, decide_eq_true_eq, List.all_eq_true]
 exact ⟨hh.1, hh.2, hh.3, hh.4, hh.5, hh.6⟩
def TwoN (z : St4) : Prop := z.2.1.length ≤ 2
theorem step_two (m : Im) (f pc : Int) (s : List Tp) : TwoN (stepB m f pc s) := by
 have h2 := nexts_two (insOf m f pc) pc
 unfold stepB stepE
 exact cond_P (Nat.zero_le _) (cond_P (Nat.zero_le _) (cond_P (cond_P (Nat.zero_le _) h2) (cond_P (Nat.zero_le _) (cond_P h2 (Nat.zero_le _)))))
end Go.Pli

namespace Go.Pli
open Go Go.PM
theorem clipIO_eq (s : List Int) : clipION s = some (idL s, ()) := by simp [clipION, idL]
theorem clipIIO_eq (s : List (List Int)) : clipIION s = some (idL s, ()) := by simp [clipIION, idL]
theorem okSS_row {l : List (List Sh)} (h : okSS l = true) {n : Nat} (hn : n < l.length) : (l.getD n []).length < 1000000 ∧ ∀ s ∈ l.getD n [], s.2.1.length < 1000000 := by
 simp only [okSS, Bool.and_eq_true, List.all_eq_true] at h
 rw [getD_some (List.getElem?_eq_getElem hn)]
 have := h.2 _ (List.getElem_mem hn)
 exact ⟨okL_lt this.1, fun s hs => okL_lt (this.2 s hs)⟩
theorem maxL_step (l : List Int) {k : Nat} {x : Int} (h : l[k]? = some x) : maxL (l.take (k + 1)) = max (maxL (l.take k)) x := by
 unfold maxL
 rw [List.take_add_one, h, List.foldl_append]
 rfl
theorem maxL_le {B : Int} (hB : 0 ≤ B) {l : List Int} (h : ∀ x ∈ l, x ≤ B) : 0 ≤ maxL l ∧ maxL l ≤ B := by
 have key : ∀ (l : List Int) (a : Int), 0 ≤ a → a ≤ B → (∀ x ∈ l, x ≤ B) → 0 ≤ l.foldl max a ∧ l.foldl max a ≤ B := by
  intro l
  induction l with
  | nil => intro a h0 h1 _; exact ⟨h0, h1⟩
  | cons x l ih =>
   intro a h0 h1 hx
   have := hx x (List.mem_cons_self ..)
   exact ih _ (by omega) (by omega) fun y hy => hx y (List.mem_cons_of_mem _ hy)
 exact key l 0 (Int.le_refl _) hB h
theorem tdeep_ok (l : List (List Sh)) (f : Int) (r) (h : tdeep l f = some r) : ∃ k, tdeepN k l f = some r := by
 unfold tdeep at h
 cases hb : okSS l <;> simp only [hb, cond_true, cond_false] at h
 ·cases h
 injection h with h
 subst h
 refine ⟨1000001, ?_⟩
 unfold tdeepN deepB sin
 by_cases h0 : f < 0
 ·have : ¬ 0 ≤ f := by omega
  simp only [h0, this, decide_true, decide_false, Bool.false_and, cond_true, cond_false]
 have h0' : 0 ≤ f := by omega
 by_cases h1 : f ≥ (l.length : Int)
 ·have : ¬ f < (l.length : Int) := by omega
  simp only [h0, h1, this, decide_true, decide_false, Bool.and_false, cond_true, cond_false]
 have h1' : f < (l.length : Int) := by omega
 simp only [h0, h0', h1, h1', decide_true, decide_false, Bool.and_self, cond_true, cond_false]
 obtain ⟨hl, -⟩ := okSS_row hb (n := f.toNat) (by omega)
 generalize hh : l.getD f.toNat [] = h at hl
 have := loop_seq (L := tdeepL1 l f) (n := h.length) (st := fun k => (maxL ((h.map fun s => (s.2.1.length : Int)).take k), (k : Int), ())) (fin := some (maxL (h.map fun s => (s.2.1.length : Int)), ()))
  (fun k rec hk => by
   have hx : (h.map fun s => (s.2.1.length : Int))[k]? = some (((h.getD k zSh).2.1.length : Nat) : Int) := by simp [hk]
   rw [tdeepL1]
   simp only [hh, dlt hk, dge, Bool.and_self, cond_true, Int.toNat_natCast, maxL_step _ hx, wsucc hk (show _ ≤ lenMax by simp only [lenMax]; omega)])
  (fun rec => by
   rw [tdeepL1]
   simp only [hh, dnlt, cond_false]
   rw [List.take_of_length_le (by simp)]) 1000001 (by omega)
 exact this
theorem deepB_bound {l : List (List Sh)} (h : okSS l = true) (f : Int) : 0 ≤ deepB l f ∧ deepB l f ≤ 1000000 := by
 unfold deepB
 cases hs : sin f (l.length : Int) <;> simp only [cond_true, cond_false]
 ·omega
 simp only [sin, Bool.and_eq_true, decide_eq_true_eq] at hs
 obtain ⟨-, hl⟩ := okSS_row h (n := f.toNat) (by omega)
 refine maxL_le (by omega) fun x hx => ?_
 obtain ⟨s, hs, rfl⟩ := List.mem_map.1 hx
 have := hl s hs
 omega
theorem dframe_at {m : Im} {l : List (List Sh)} (hs : saneP m = true) (hl : okSS l = true) {f : Int} (hf : inM m f = true) : dframeN m l f = some (frameB m l f, ()) := by
 obtain ⟨f0, f1⟩ := inM_iff.1 hf
 have a : ¬ f < 0 := by omega
 have b : ¬ f ≥ (m.2.2.2.1.length : Int) := by omega
 have hd := deepB_bound hl f
 have hloc := sane_locals hs hf
 have fold : ∀ g : Int, m.2.2.2.1.getD g.toNat zMt = mtOf m g := fun _ => rfl
 have ht : tdeep l f = some (deepB l f, ()) := by unfold tdeep; rw [hl]; rfl
 unfold dframeN frameB
 simp only [a, b, f0, f1, hf, fold, ht, decide_true, decide_false, Bool.and_self, cond_true, cond_false, Option.bind_some]
 rw [w64' (n := (3 : Int) + _) (by omega) (by omega), w64' (n := (3 : Int) + ((mtOf m f).1.length : Int) + _) (by omega) (by omega), w64' (by omega) (by omega)]
 simp
theorem cyc1_eq (to : Int) (part : List Int) (_ : cyc1Len to part) : cyc1N to part = some (cyc1 to part, ()) := rfl
theorem indexCyc_eq (l : List Int) (c : List Int × Unit) (h : indexCycLen l c) : ∃ k, indexCycN k l c = some (indexCyc l c, ()) := by
 refine ⟨l.length + 1, loop_index (st := fun k => ((k : Int), ())) (p := fun x => cyc1 x c.1) (fun k x rec hk hlt => ?_) (fun rec => ?_) _ (Nat.lt_succ_self _)⟩
 ·unfold indexCycL1
  simp only [dlt hlt, dge, Bool.and_self, cond_true, Int.toNat_natCast, getD_some hk, wsucc hlt h.1.1]
 ·unfold indexCycL1
  simp only [dnlt, cond_false]
theorem containsCyc_eq (l : List Int) (c : List Int × Unit) (_ : containsCycLen l c) : containsCycN l c = some (containsCyc l c, ()) := by
 unfold containsCycN indexCyc containsCyc
 rw [indexF_any]
theorem cyclic_ok (l : List (List Int)) (part : List Int) (r) (h : cyclic l part = some r) : ∃ k, cyclicN k l part = some r := by
 unfold cyclic at h
 cases hb : okL part <;> simp only [hb, cond_true, cond_false] at h
 ·cases h
 injection h with h
 subst h
 have hp := okL_lt hb
 refine ⟨part.length + 1, ?_⟩
 unfold cyclicN cyclicB
 have := loop_all (L := cyclicL1 l part) (xs := part) (st := fun k => ((k : Int), ())) (p := fun k => !(sin k (l.length : Int) && (l.getD k.toNat []).any fun to => part.contains to)) (ex := some (true, ())) (fin := some (false, ()))
  (fun k x rec hk hlt => by
   have hw := wsucc hlt (show _ ≤ lenMax by simp only [lenMax]; omega)
   rw [cyclicL1]
   simp only [dlt hlt, dge, Bool.and_self, cond_true, Int.toNat_natCast, getD_some hk, hw, sin]
   by_cases h0 : x < 0
   ·have : ¬ 0 ≤ x := by omega
    simp only [h0, this, decide_true, decide_false, Bool.false_and, Bool.not_false, cond_true]
   have h0' : 0 ≤ x := by omega
   by_cases h1 : x ≥ (l.length : Int)
   ·have : ¬ x < (l.length : Int) := by omega
    simp only [h0, h1, this, decide_true, decide_false, Bool.and_false, Bool.false_and, Bool.not_false, cond_true, cond_false]
   have h1' : x < (l.length : Int) := by omega
   simp only [h0, h0', h1, h1', decide_true, decide_false, Bool.and_self, Bool.true_and, cond_true, cond_false, containsCyc, cyc1]
   cases (l.getD x.toNat []).any fun to => part.contains to <;> rfl)
  (fun rec => by rw [cyclicL1]; simp only [dnlt, cond_false]) (part.length + 1) (by omega)
 refine this.trans ?_
 rw [← List.not_any_eq_all_not]
 cases part.any fun k => sin k (l.length : Int) && (l.getD k.toNat []).any fun to => part.contains to <;> rfl
theorem bey_loop {m : Im} {s1 : List (List Int) × Int × Unit} {r4 : List (List Int) × Unit} {s8 : Int × Int × Int × Unit} {s5 : Int × List Int × Unit} {rec9 : (Int × Int × Int × Unit) → Option (List Int × Int × Unit)} {s10 r12 : Int × Unit} {part es out : List Int} {f : Int}
  (hp : r4.1.getD s5.1.toNat [] = part) (hf : part.getD s8.2.2.1.toNat 0 = f) (he : s1.1.getD f.toNat [] = es) (ho : s5.2.1 = out) (hel : es.length < 1000000) (hin : ∀ to ∈ es, inM m to = true) :
  ∀ (l pre : List Int) (b : Int) (F : Nat), es = pre ++ l → l.length < F → loopF (dboundL1 s1 r4 s8 s5 rec9 s10 r12) F (b, (pre.length : Int), ()) = rec9 (IntKind.i64.wrap (s8.1 + IntKind.i64.wrap (s10.1 * r12.1)), beyondF part out l b, IntKind.i64.wrap (s8.2.2.1 + 1), ())
 | [], pre, b, F, hx, hF => by
  obtain ⟨F, rfl⟩ : ∃ n, F = n + 1 := ⟨F - 1, by simp at hF; omega⟩
  rw [List.append_nil] at hx
  rw [loopF_step, dboundL1]
  simp only [hp, hf, he, hx, dnlt, cond_false, beyondF]
 | to :: l, pre, b, F, hx, hF => by
  obtain ⟨F, rfl⟩ : ∃ n, F = n + 1 := ⟨F - 1, by simp at hF; omega⟩
  have hk : pre.length < es.length := by rw [hx, List.length_append]; simp
  have hget : es.getD pre.length 0 = to := by rw [hx]; simp
  have hto := (inM_iff.1 (hin to (by rw [hx]; simp))).1
  have hw := wsucc hk (show es.length ≤ lenMax by simp only [lenMax]; omega)
  have ih := fun b' => bey_loop (rec9 := rec9) (s10 := s10) (r12 := r12) hp hf he ho hel hin l (pre ++ [to]) b' F (by rw [hx, List.append_assoc]; rfl) (by simp only [List.length_cons] at hF; omega)
  simp only [List.length_append, List.length_cons, List.length_nil, Nat.zero_add] at ih
  rw [loopF_step, dboundL1]
  simp only [hp, hf, he, ho, dlt hk, dge, Bool.and_self, cond_true, Int.toNat_natCast, hget, hw, containsI, beyondF, hto, decide_true, Bool.true_and]
  cases part.contains to <;> cases decide (to < (out.length : Int)) <;> simp only [Bool.not_true, Bool.not_false, Bool.and_self, Bool.and_true, Bool.and_false, cond_true, cond_false] <;> exact ih _
theorem set_loop {m : Im} {r4 : List (List Int) × Unit} {s8 : Int × Int × Int × Unit} {s5 : Int × List Int × Unit} {rec6 : (Int × List Int × Unit) → Option (List Int × Int × Unit)} {part : List Int}
  (hp : r4.1.getD s5.1.toNat [] = part) (hpl : part.length < 1000000) (hin : ∀ f ∈ part, inM m f = true) :
  ∀ (l pre out : List Int) (F : Nat), part = pre ++ l → l.length < F → out.length = m.2.2.2.1.length → loopF (dboundL2 r4 s8 s5 rec6) F ((pre.length : Int), out, ()) = rec6 (IntKind.i64.wrap (s5.1 + 1), setF (IntKind.i64.wrap (s8.1 + s8.2.1)) l out, ())
 | [], pre, out, F, hx, hF, _ => by
  obtain ⟨F, rfl⟩ : ∃ n, F = n + 1 := ⟨F - 1, by simp at hF; omega⟩
  rw [List.append_nil] at hx
  rw [loopF_step, dboundL2]
  simp only [hp, hx, dnlt, cond_false, setF]
 | f :: l, pre, out, F, hx, hF, ho => by
  obtain ⟨F, rfl⟩ : ∃ n, F = n + 1 := ⟨F - 1, by simp at hF; omega⟩
  have hk : pre.length < part.length := by rw [hx, List.length_append]; simp
  have hget : part.getD pre.length 0 = f := by rw [hx]; simp
  obtain ⟨f0, f1⟩ := inM_iff.1 (hin f (by rw [hx]; simp))
  have f1' : f < (out.length : Int) := by omega
  have hw := wsucc hk (show part.length ≤ lenMax by simp only [lenMax]; omega)
  have ih := fun out' ho' => set_loop (s8 := s8) (rec6 := rec6) hp hpl hin l (pre ++ [f]) out' F (by rw [hx, List.append_assoc]; rfl) (by simp only [List.length_cons] at hF; omega) ho'
  simp only [List.length_append, List.length_cons, List.length_nil, Nat.zero_add] at ih
  rw [loopF_step, dboundL2]
  simp only [hp, dlt hk, dge, Bool.and_self, cond_true, Int.toNat_natCast, hget, hw, f0, f1', decide_true, setF]
  exact ih _ (by rw [List.length_set, ho])
theorem part_loop {m : Im} {l : List (List Sh)} (hs : saneP m = true) (hl : okSS l = true) {fuel : Nat} (hfu : 1000000 < fuel) {s1 : List (List Int) × Int × Unit} (hed : s1.1 = ofAll m) (hok : edOk m = true) {r4 : List (List Int) × Unit} {r7 : Bool × Unit} {s5 : Int × List Int × Unit} {rec6 : (Int × List Int × Unit) → Option (List Int × Int × Unit)} {part : List Int}
  (hp : r4.1.getD s5.1.toNat [] = part) (hpl : part.length < 1000000) (hin : ∀ f ∈ part, inM m f = true) (ho : s5.2.1.length = m.2.2.2.1.length) :
  ∀ (q pre : List Int) (a b : Int) (F : Nat), part = pre ++ q → q.length < F → loopF (dboundL3 m l fuel s1 r4 r7 s5 rec6) F (a, b, (pre.length : Int), ()) =
   match partF m l (ofAll m) part s5.2.1 r7.1 q a b with
   | none => some ([], 5, ())
   | some z => rec6 (IntKind.i64.wrap (s5.1 + 1), setF (IntKind.i64.wrap (z.1 + z.2)) part s5.2.1, ())
 | [], pre, a, b, F, hx, hF => by
  obtain ⟨F, rfl⟩ : ∃ n, F = n + 1 := ⟨F - 1, by simp at hF; omega⟩
  rw [List.append_nil] at hx
  subst hx
  have := set_loop (m := m) (s8 := (a, b, (part.length : Int), ())) (rec6 := rec6) hp hpl hin part [] s5.2.1 fuel rfl (by omega) ho
  rw [loopF_step, dboundL3]
  simp only [hp, dnlt, cond_false, partF]
  simpa using this
 | f :: q, pre, a, b, F, hx, hF => by
  obtain ⟨F, rfl⟩ : ∃ n, F = n + 1 := ⟨F - 1, by simp at hF; omega⟩
  have hk : pre.length < part.length := by rw [hx, List.length_append]; simp
  have hget : part.getD pre.length 0 = f := by rw [hx]; simp
  have hfm := hin f (by rw [hx]; simp)
  obtain ⟨f0, f1⟩ := inM_iff.1 hfm
  have hw := wsucc hk (show part.length ≤ lenMax by simp only [lenMax]; omega)
  have ih := fun a' b' => part_loop hs hl hfu hed hok (r7 := r7) (rec6 := rec6) hp hpl hin ho q (pre ++ [f]) a' b' F (by rw [hx, List.append_assoc]; rfl) (by simp only [List.length_cons] at hF; omega)
  simp only [List.length_append, List.length_cons, List.length_nil, Nat.zero_add] at ih
  have hfl : f < (s1.1.length : Int) := by rw [hed]; unfold ofAll; rw [List.length_map, ints_len]; exact f1
  have hfn : f.toNat < (ofAll m).length := by unfold ofAll; rw [List.length_map, ints_len]; omega
  have hes := List.all_eq_true.1 hok _ (List.getElem_mem hfn)
  simp only [Bool.and_eq_true, List.all_eq_true] at hes
  have hbey := fun s8 (h8 : part.getD s8.2.2.1.toNat 0 = f) s10 r12 => bey_loop (m := m) (s1 := s1) (r4 := r4) (s8 := s8) (s5 := s5) (rec9 := loopF (dboundL3 m l fuel s1 r4 r7 s5 rec6) F) (s10 := s10) (r12 := r12) (part := part) (es := (ofAll m)[f.toNat]) (out := s5.2.1) (f := f) hp h8 (by rw [hed, getD_some (List.getElem?_eq_getElem hfn)]) rfl (okL_lt hes.1) hes.2 (ofAll m)[f.toNat] [] s8.2.1 fuel rfl (by have := okL_lt hes.1; omega)
  have fold : ∀ g : Int, m.2.2.2.1.getD g.toNat zMt = mtOf m g := fun _ => rfl
  have hge : (ofAll m).getD f.toNat [] = (ofAll m)[f.toNat] := getD_some (List.getElem?_eq_getElem hfn)
  rw [loopF_step, dboundL3]
  simp only [hp, dlt hk, dge, Bool.and_self, cond_true, Int.toNat_natCast, hget, f0, f1, hfl, decide_true, dframe_at hs hl hfm, Option.bind_some, partF, fold, hge]
  have hb := hbey (a, b, (pre.length : Int), ()) (by simpa using hget)
  simp only [List.length_nil, Int.cast_ofNat_Int] at hb
  cases hr7 : r7.1 <;> simp only [hr7, cond_true, cond_false, Option.bind_some] at ih ⊢
  ·have : ¬ ((1 : Int) < 1) := by omega
   simp only [this, decide_false, cond_false]
   rw [hb, hw]
   exact ih _ _
  ·cases decide ((mtOf m f).2.2.2.2.1 < 1) <;> simp only [cond_true, cond_false]
   rw [hb, hw]
   exact ih _ _
theorem setF_len (v : Int) : ∀ (l out : List Int), (setF v l out).length = out.length
 | [], _ => rfl
 | f :: l, out => by rw [setF, setF_len v l, List.length_set]
theorem rings_loop {m : Im} {l : List (List Sh)} (hs : saneP m = true) (hl : okSS l = true) {fuel : Nat} (hfu : 1000000 < fuel) {s1 : List (List Int) × Int × Unit} (hed : s1.1 = ofAll m) (hok : edOk m = true) {r4 : List (List Int) × Unit} (hrl : r4.1.length < 1000000) (hr : ∀ p ∈ r4.1, p.length < 1000000 ∧ ∀ f ∈ p, inM m f = true) :
  ∀ (ps pre : List (List Int)) (out : List Int) (F : Nat), r4.1 = pre ++ ps → ps.length < F → out.length = m.2.2.2.1.length → loopF (dboundL4 m l fuel s1 r4) F ((pre.length : Int), out, ()) = some (ringsF m l (ofAll m) ps out)
 | [], pre, out, F, hx, hF, _ => by
  obtain ⟨F, rfl⟩ : ∃ n, F = n + 1 := ⟨F - 1, by simp at hF; omega⟩
  rw [List.append_nil] at hx
  rw [loopF_step, dboundL4]
  simp only [hx, dnlt, cond_false, ringsF]
 | part :: ps, pre, out, F, hx, hF, ho => by
  obtain ⟨F, rfl⟩ : ∃ n, F = n + 1 := ⟨F - 1, by simp at hF; omega⟩
  have hk : pre.length < r4.1.length := by rw [hx, List.length_append]; simp
  have hget : r4.1.getD pre.length [] = part := by rw [hx]; simp
  obtain ⟨hpl, hin⟩ := hr part (by rw [hx]; simp)
  have hw := wsucc hk (show r4.1.length ≤ lenMax by simp only [lenMax]; omega)
  have ih := fun out' ho' => rings_loop hs hl hfu hed hok hrl hr ps (pre ++ [part]) out' F (by rw [hx, List.append_assoc]; rfl) (by simp only [List.length_cons] at hF; omega) ho'
  simp only [List.length_append, List.length_cons, List.length_nil, Nat.zero_add] at ih
  have hcy : cyclic s1.1 part = some (cyclicB (ofAll m) part, ()) := by unfold cyclic; rw [okL_of hpl, hed]; rfl
  rw [loopF_step, dboundL4]
  simp only [dlt hk, dge, Bool.and_self, cond_true, Int.toNat_natCast, hget, hcy, Option.bind_some]
  have := part_loop hs hl hfu hed hok (r4 := r4) (r7 := (cyclicB (ofAll m) part, ())) (s5 := ((pre.length : Int), out, ())) (rec6 := loopF (dboundL4 m l fuel s1 r4) F) (part := part) (by simpa using hget) hpl hin ho part [] 0 0 fuel rfl (by omega)
  simp only [List.length_nil] at this
  refine this.trans ?_
  rw [ringsF]
  cases partF m l (ofAll m) part out (cyclicB (ofAll m) part) part 0 0 with
  | none => rfl
  | some z =>
   simp only [hw]
   exact ih _ (by rw [setF_len, ho])
theorem ofAll_len (m : Im) : (ofAll m).length = m.2.2.2.1.length := by unfold ofAll; rw [List.length_map, ints_len]
theorem dbound_ok (m : Im) (l : List (List Sh)) (r) (h : dbound m l = some r) : ∃ k, dboundN k m l = some r := by
 unfold dbound at h
 cases hb : saneP m && (okSS l && edOk m) <;> simp only [hb, cond_true, cond_false] at h
 ·cases h
 simp only [Bool.and_eq_true] at hb
 obtain ⟨hs, hl, hok⟩ := hb
 cases hr : rings (ofAll m) with
 | none => rw [hr] at h; cases h
 | some r4 =>
  rw [hr] at h
  simp only [Option.bind_some] at h
  cases hb : okL r4.1 && r4.1.all (fun p => okL p && p.all (inM m)) <;> simp only [hb, cond_true, cond_false] at h
  ·cases h
  injection h with h
  subst h
  simp only [Bool.and_eq_true, List.all_eq_true] at hb
  have hrl := okL_lt hb.1
  have h12 := (fit_of (saneP_of hs).1).methods
  refine ⟨1000001, ?_⟩
  unfold dboundN
  refine loop_seq (L := dboundL5 m l 1000001) (n := m.2.2.2.1.length) (st := fun k => ((ofAll m).take k, (k : Int), ())) (fun k rec hk => ?_) (fun rec => ?_) 1000001 (by omega)
  ·have hc : cof m (k : Int) = some (ofB m (k : Int), ()) := by unfold cof; rw [(saneP_of hs).1]; rfl
   have hx : (ofAll m)[k]? = some (ofB m (k : Int)) := by
    unfold ofAll ints
    simp [hk]
   rw [dboundL5]
   simp only [dlt hk, cond_true, hc, Option.bind_some, List.length_cons, List.length_nil, room_ok (show ((ofAll m).take k).length + (0 + 1) < 549755813888 by rw [List.length_take]; omega), wsucc hk (show _ ≤ lenMax by simp only [lenMax]; omega)]
   rw [List.take_add_one, hx]
   rfl
  ·have e : (ofAll m).take m.2.2.2.1.length = ofAll m := by rw [← ofAll_len, List.take_length]
   have e0 : decide ((0 : Int) ≤ (m.2.2.2.1.length : Int)) = true := decide_eq_true (by omega)
   have e1 : decide ((m.2.2.2.1.length : Int) < (rowMax : Int)) = true := decide_eq_true (by simp only [rowMax]; omega)
   have e2 : decide ((m.2.2.2.1.length : Int) ≤ (m.2.2.2.1.length : Int)) = true := decide_eq_true (by omega)
   rw [dboundL5]
   simp only [dnlt, cond_false, e0, e1, e2, Bool.and_self, cond_true, e, hr, Option.bind_some]
   exact rings_loop hs hl (by omega) (s1 := (ofAll m, _, ())) rfl hok hrl (fun p hp => ⟨okL_lt (hb.2 p hp).1, fun f hf => (hb.2 p hp).2 f hf⟩) r4.1 [] _ 1000001 rfl (by omega) (by simp)
end Go.Pli
