/- Who calls whom: the printed functions come to what is told in plain Lean. -/
import Derived.Test.YtjgocfgkmcopgaaPliNat11
import Derived.Test.YtjgocfgkmcopgaaPliL5G
import Derived.Test.YtjgocfgkmcopgaaPliSort
namespace Go.Pli
open Go Go.PM

/-- A loop that puts to its end what each place gives. -/
theorem loop_coll {α σ R : Type} {L : σ → (σ → Option R) → Option R} {n B : Nat} {st : Nat → List α → σ} {f : Nat → List α} {fin : List α → Option R} (hB : ∀ k, k < n → (f k).length ≤ B)
    (h1 : ∀ (k : Nat) (out : List α) (rec), k < n → out.length ≤ B * n → L (st k out) rec = rec (st (k + 1) (out ++ f k)))
    (h2 : ∀ out rec, out.length ≤ B * n → L (st n out) rec = fin out) : ∀ F : Nat, n < F → loopF L F (st 0 []) = fin (((List.range n).map f).flatten) := by
  have hlen : ∀ k, k ≤ n → (((List.range k).map f).flatten).length ≤ B * k := by
    intro k
    induction k with
    | zero => intro _; simp
    | succ k ih =>
      intro hk
      have := ih (by omega)
      have hb := hB k (by omega)
      rw [List.range_succ, List.map_append, List.flatten_append, List.length_append, Nat.mul_succ]
      simp only [List.map_cons, List.map_nil, List.flatten_cons, List.flatten_nil, List.append_nil]
      omega
  have key : ∀ (j k F : Nat), k + j = n → j < F → loopF L F (st k (((List.range k).map f).flatten)) = fin (((List.range n).map f).flatten) := by
    intro j
    induction j with
    | zero =>
      intro k F hk hF
      obtain ⟨F, rfl⟩ : ∃ m, F = m + 1 := ⟨F - 1, by omega⟩
      have : k = n := by omega
      subst this
      rw [loopF_step, h2 _ _ (hlen k (Nat.le_refl _))]
    | succ j ih =>
      intro k F hk hF
      obtain ⟨F, rfl⟩ : ∃ m, F = m + 1 := ⟨F - 1, by omega⟩
      have hb : B * k ≤ B * n := Nat.mul_le_mul_left _ (by omega)
      rw [loopF_step, h1 k _ _ (by omega) (Nat.le_trans (hlen k (by omega)) hb)]
      have := ih (k + 1) F (by omega) (by omega)
      rw [List.range_succ, List.map_append, List.flatten_append] at this
      simpa using this
  intro F hF
  have := key n 0 F (by omega) hF
  simpa using this

theorem ints_filter (p : Int → Bool) : ∀ n : Nat, ((List.range n).map fun k : Nat => bif p (k : Int) then [(k : Int)] else []).flatten = (ints n).filter p
  | 0 => rfl
  | n + 1 => by
    have ih := ints_filter p n
    unfold ints at ih ⊢
    rw [List.range_succ, List.map_append, List.flatten_append, ih, List.map_append, List.filter_append]
    congr 1
    cases h : p (n : Int) <;> simp [h]

theorem range_mapD {α β : Type} (g : α → β) (z : α) (l : List α) : (List.range l.length).map (fun k => g (l.getD k z)) = l.map g := by
  apply List.ext_getElem (by simp)
  intro i h1 h2
  have : i < l.length := by simpa using h1
  simp [this]

theorem flat_one {α β : Type} (g : α → β) (l : List α) : (l.map fun k => [g k]).flatten = l.map g := by
  induction l with
  | nil => rfl
  | cons x l ih => rw [List.map_cons, List.flatten_cons, ih]; rfl

theorem ints_len (n : Nat) : (ints n).length = n := by simp [ints]
theorem ints_get {n k : Nat} (h : k < n) (z : Int) : (ints n).getD k z = (k : Int) := by simp [ints, h]
theorem mem_ints {n : Nat} {x : Int} : x ∈ ints n ↔ 0 ≤ x ∧ x < (n : Int) := by
  simp only [ints, List.mem_map, List.mem_range]
  constructor
  · rintro ⟨k, hk, rfl⟩; omega
  · rintro ⟨h0, h1⟩; exact ⟨x.toNat, by omega, by omega⟩

theorem belowB_len (m : Im) (c : Int) : (belowB m c).length ≤ m.1.length := by
  unfold belowB
  exact Nat.le_trans (List.length_filter_le _ _) (by simp [ints])

theorem room_ok {n : Nat} (h : n < 549755813888) : decide (n < rowMax) = true := decide_eq_true h

theorem cbelow_ok (m : Im) (c : Int) (r) (h : cbelow m c = some r) : ∃ k, cbelowN k m c = some r := by
  unfold cbelow at h
  cases hi : ifits m <;> simp only [hi, cond_true, cond_false] at h
  · cases h
  injection h with h
  subst h
  have h8 := (fit_of hi).classes
  refine ⟨m.1.length + 1, ?_⟩
  unfold cbelowN
  have := loop_coll (L := cbelowL1 m c) (n := m.1.length) (B := 1) (st := fun k out => (out, (k : Int), ())) (f := fun k => bif kbelow m.1 (k : Int) c then [(k : Int)] else []) (fin := fun out => some (idL out, ())) (fun k _ => by cases kbelow m.1 (k : Int) c <;> simp)
    (fun k out rec hk ho => by
      rw [cbelowL1]
      simp only [dlt hk, cond_true, List.length_cons, List.length_nil, room_ok (show out.length + (0 + 1) < 549755813888 by omega), wsucc hk (by simp only [lenMax]; omega)]
      cases kbelow m.1 (k : Int) c <;> simp)
    (fun out rec _ => by rw [cbelowL1]; simp only [dnlt, cond_false]) (m.1.length + 1) (by omega)
  rw [ints_filter (fun n => kbelow m.1 n c)] at this
  exact this

theorem below_r5 (m : Im) (n c : Int) (_ : 0 ≤ n) : (raboveB m.1 n).contains c = kbelow m.1 n c := by
  unfold kbelow raboveB
  by_cases hn : n < (m.1.length : Int)
  · simp only [hn, decide_true, cond_true, Bool.true_and]
    cases hc : (chain m.1 n).contains c
    · simp
    · have hm : c ∈ chain m.1 n := by simpa using hc
      have := chain_mem (n.toNat + 1) n (by omega) hm
      simp [this.1, show c < (m.1.length : Int) by omega]
  · simp [hn]

theorem rabove_at {m : Im} (hi : ifits m = true) (n : Int) : rabove m.1 n = some (raboveB m.1 n, ()) := by
  have h8 := (fit_of hi).classes
  have hok : okL m.1 = true := by unfold okL; simp; omega
  unfold rabove; rw [hok]; rfl
theorem rin_at {l : List Int} {x : Int} (h : l.length < 1000000000) : rin l x = some (l.contains x, ()) := by
  unfold rin; rw [decide_eq_true (show l.length < 9223372036854775807 by omega)]; rfl

theorem r5below_ok (m : Im) (c : Int) (r) (h : r5below m c = some r) : ∃ k, r5belowN k m c = some r := by
  unfold r5below at h
  cases hi : ifits m <;> simp only [hi, cond_true, cond_false] at h
  · cases h
  injection h with h
  subst h
  have h8 := (fit_of hi).classes
  refine ⟨m.1.length + 1, ?_⟩
  unfold r5belowN
  have := loop_coll (L := r5belowL1 m c) (n := m.1.length) (B := 1) (st := fun k out => (out, (k : Int), ())) (f := fun k => bif kbelow m.1 (k : Int) c then [(k : Int)] else []) (fin := fun out => some (out, ())) (fun k _ => by cases kbelow m.1 (k : Int) c <;> simp)
    (fun k out rec hk ho => by
      have hl := raboveB_len (l := m.1) (c := (k : Int))
      rw [r5belowL1]
      simp only [dlt hk, cond_true, rabove_at hi, Option.bind_some, rin_at (show (raboveB m.1 (k : Int)).length < 1000000000 by omega), below_r5 m (k : Int) c (by omega), List.length_cons, List.length_nil, room_ok (show out.length + (0 + 1) < 549755813888 by omega), wsucc hk (by simp only [lenMax]; omega)]
      cases kbelow m.1 (k : Int) c <;> simp)
    (fun out rec _ => by rw [r5belowL1]; simp only [dnlt, cond_false]) (m.1.length + 1) (by omega)
  rw [ints_filter (fun n => kbelow m.1 n c)] at this
  exact this

theorem cslot_eq (m : Im) (c n : Int) : cslotN m c n = some (cslot m c n) := by
  unfold cslotN cslot hasSlot clOf
  by_cases h1 : c < 0
  · have : ¬ 0 ≤ c := by omega
    simp [h1, this]
  · have h1' : 0 ≤ c := by omega
    by_cases h2 : c ≥ (m.1.length : Int)
    · have : ¬ c < (m.1.length : Int) := by omega
      simp [h1, h2, this]
    · have h2' : c < (m.1.length : Int) := by omega
      by_cases h3 : n < 0
      · have : ¬ 0 ≤ n := by omega
        simp [h1, h2, h3, this]
      · have h3' : 0 ≤ n := by omega
        by_cases h4 : n ≥ ((m.1.getD c.toNat zCl).2.2.1.length : Int)
        · have : ¬ n < ((m.1.getD c.toNat zCl).2.2.1.length : Int) := by omega
          simp only [h1, h2, h3, h4, h1', h2', h3', this, decide_true, decide_false, cond_true, cond_false, Bool.and_self, Bool.and_false]
        · have h4' : n < ((m.1.getD c.toNat zCl).2.2.1.length : Int) := by omega
          simp only [h1, h2, h3, h4, h1', h2', h3', h4', decide_true, decide_false, cond_true, cond_false, Bool.and_self]
theorem r5slot_eq (m : Im) (c n : Int) : r5slotN m c n = some (r5slot m c n) := cslot_eq m c n

theorem slots_coll (m : Im) (l : List Int) (n : Int) : ((List.range l.length).map fun k => bif (cslot m (l.getD k 0) n).2.1 then [(cslot m (l.getD k 0) n).1] else []).flatten = slotsOf m l n := by
  rw [range_mapD (fun c => bif (cslot m c n).2.1 then [(cslot m c n).1] else []) 0 l]
  unfold slotsOf
  induction l with
  | nil => rfl
  | cons c l ih =>
    rw [List.map_cons, List.flatten_cons, ih, List.filter_cons]
    cases h : (cslot m c n).2.1 <;> simp

theorem slotsOf_len (m : Im) (l : List Int) (n : Int) : (slotsOf m l n).length ≤ l.length := by
  unfold slotsOf
  rw [List.length_map]
  exact List.length_filter_le _ _

theorem targets_loop {m : Im} {i : Ins} {L : List Int × Int × Unit → (List Int × Int × Unit → Option (List Int × Unit)) → Option (List Int × Unit)} (l : List Int) (hl : l.length < 1000)
    (hL : ∀ s rec, L s rec = (bif decide (s.2.1 < (l.length : Int)) then
    bif decide (0 ≤ s.2.1) && decide (s.2.1 < l.length) then
      let r4 := cslot m (l.getD s.2.1.toNat 0) i.2.2.1
      bif r4.2.1 then
        bif decide (s.1.length + [r4.1].length < rowMax) then
          rec (s.1 ++ [r4.1], IntKind.i64.wrap (s.2.1 + 1), ())
        else none
      else rec (s.1, IntKind.i64.wrap (s.2.1 + 1), ())
    else none
  else some (s.1, ()))) : loopF L (l.length + 1) ([], 0, ()) = some (slotsOf m l i.2.2.1, ()) := by
  have := loop_coll (L := L) (n := l.length) (B := 1) (st := fun k out => (out, (k : Int), ())) (f := fun k => bif (cslot m (l.getD k 0) i.2.2.1).2.1 then [(cslot m (l.getD k 0) i.2.2.1).1] else []) (fin := fun out => some (out, ())) (fun k _ => by cases (cslot m (l.getD k 0) i.2.2.1).2.1 <;> simp)
    (fun k out rec hk ho => by
      rw [hL]
      simp only [dlt hk, dge, Bool.and_self, cond_true, Int.toNat_natCast, List.length_cons, List.length_nil, room_ok (show out.length + (0 + 1) < 549755813888 by omega), wsucc hk (by simp only [lenMax]; omega)]
      cases (cslot m (l.getD k 0) i.2.2.1).2.1 <;> simp)
    (fun out rec _ => by rw [hL]; simp only [dnlt, cond_false]) (l.length + 1) (by omega)
  rw [slots_coll] at this
  exact this

theorem ctargets_ok (m : Im) (i : Ins) (r) (h : ctargets m i = some r) : ∃ k, ctargetsN k m i = some r := by
  unfold ctargets at h
  cases hi : ifits m <;> simp only [hi, cond_true, cond_false] at h
  · cases h
  injection h with h
  subst h
  have h8 := (fit_of hi).classes
  have hl := belowB_len m i.2.1
  refine ⟨(belowB m i.2.1).length + 1, ?_⟩
  unfold ctargetsN targetsB
  have hb : cbelow m i.2.1 = some (belowB m i.2.1, ()) := by unfold cbelow; rw [hi]; rfl
  cases h1 : i.1 == 31 <;> simp only [cond_true, cond_false]
  · cases h2 : i.1 == 32 <;> simp only [cond_true, cond_false]
    rw [hb]
    simp only [Option.bind_some]
    exact targets_loop (belowB m i.2.1) (by omega) (fun s rec => rfl)
  · rfl

theorem r8targets_ok (m : Im) (i : Ins) (r) (h : r8targets m i = some r) : ∃ k, r8targetsN k m i = some r := by
  unfold r8targets at h
  cases hi : ifits m <;> simp only [hi, cond_true, cond_false] at h
  · cases h
  injection h with h
  subst h
  have h8 := (fit_of hi).classes
  have hl := belowB_len m i.2.1
  refine ⟨(belowB m i.2.1).length + 1, ?_⟩
  unfold r8targetsN targetsB
  have hb : r5below m i.2.1 = some (belowB m i.2.1, ()) := by unfold r5below; rw [hi]; rfl
  cases h1 : i.1 == 31 <;> simp only [cond_true, cond_false, Option.bind_some]
  · cases h2 : i.1 == 32 <;> simp only [cond_true, cond_false]
    rw [hb]
    simp only [Option.bind_some]
    exact targets_loop (belowB m i.2.1) (by omega) (fun s rec => rfl)
  · have h2 : (i.1 == 32) = false := by
      have : i.1 = 31 := by simpa using h1
      rw [this]; rfl
    have hroom : decide (([] : List Int).length + [i.2.1].length < rowMax) = true := room_ok (by simp)
    rw [h2, hroom]
    rfl

theorem targetsB_len {m : Im} (hi : ifits m = true) (i : Ins) : (targetsB m i).length ≤ 8 := by
  have h8 := (fit_of hi).classes
  have hl := belowB_len m i.2.1
  have hs := slotsOf_len m (belowB m i.2.1) i.2.2.1
  unfold targetsB
  cases i.1 == 31 <;> simp only [cond_true, cond_false]
  · cases i.1 == 32 <;> simp only [cond_true, cond_false]
    · simp
    · omega
  · simp

theorem inM_iff {m : Im} {f : Int} : inM m f = true ↔ 0 ≤ f ∧ f < (m.2.2.2.1.length : Int) := by
  unfold inM sin nM; simp

theorem r8calls_ok (m : Im) (f g : Int) (r) (h : r8calls m f g = some r) : ∃ k, r8callsN k m f g = some r := by
  unfold r8calls at h
  cases hi : ifits m && inM m f <;> simp only [hi, cond_true, cond_false] at h
  · cases h
  injection h with h
  subst h
  simp only [Bool.and_eq_true] at hi
  obtain ⟨hi, hf⟩ := hi
  obtain ⟨h0, h1⟩ := inM_iff.1 hf
  have hx := (mth_of ((fit_of hi).mts _ (mtOf_mem h0 h1))).2.2.2.1.1
  have hd : m.2.2.2.1.getD f.toNat zMt = mtOf m f := rfl
  have hr : (decide (0 ≤ f) && decide (f < (m.2.2.2.1.length : Int))) = true := by simp [h0, h1]
  refine ⟨(mtOf m f).2.2.2.1.length + 1, ?_⟩
  unfold r8callsN callsB
  have := loop_all (L := r8callsL1 m f g) (xs := (mtOf m f).2.2.2.1) (st := fun k => ((k : Int), ())) (p := fun i => !(targetsB m i).contains g) (ex := some (true, ())) (fin := some (false, ()))
    (fun k x rec hk hlt => by
      have ht : r8targets m x = some (targetsB m x, ()) := by unfold r8targets; rw [hi]; rfl
      have htl := targetsB_len hi x
      rw [r8callsL1]
      simp only [hd, hr, dlt hlt, dge, Bool.and_self, cond_true, Int.toNat_natCast, getD_some hk, ht, Option.bind_some, rin_at (show (targetsB m x).length < 1000000000 by omega), wsucc hlt (by simp only [lenMax]; omega)]
      cases (targetsB m x).contains g <;> rfl)
    (fun rec => by rw [r8callsL1]; simp only [hd, hr, dnlt, cond_true, cond_false]) ((mtOf m f).2.2.2.1.length + 1) (by omega)
  refine this.trans ?_
  rw [← List.not_any_eq_all_not]
  cases (mtOf m f).2.2.2.1.any fun i => (targetsB m i).contains g <;> rfl

theorem r8edges_ok (m : Im) (r) (h : r8edges m = some r) : ∃ k, r8edgesN k m = some r := by
  unfold r8edges at h
  cases hi : ifits m <;> simp only [hi, cond_true, cond_false] at h
  · cases h
  injection h with h
  subst h
  have h12 := (fit_of hi).methods
  refine ⟨m.2.2.2.1.length + 1, ?_⟩
  unfold r8edgesN
  have := loop_coll (L := r8edgesL2 m (m.2.2.2.1.length + 1)) (n := m.2.2.2.1.length) (B := 1) (st := fun k out => (out, (k : Int), ())) (f := fun k => [(ints m.2.2.2.1.length).filter fun g => callsB m (k : Int) g]) (fin := fun out => some (out, ())) (fun k _ => by simp)
    (fun k out rec hk ho => by
      rw [r8edgesL2]
      simp only [dlt hk, cond_true]
      have hin : inM m (k : Int) = true := inM_iff.2 ⟨by omega, by omega⟩
      have := loop_coll (L := r8edgesL1 m (out, (k : Int), ()) rec) (n := m.2.2.2.1.length) (B := 1) (st := fun j l => (l, (j : Int), ())) (f := fun j => bif callsB m (k : Int) (j : Int) then [(j : Int)] else []) (fin := fun l => rec (out ++ [l], ((k + 1 : Nat) : Int), ())) (fun j _ => by cases callsB m (k : Int) (j : Int) <;> simp)
        (fun j l rec2 hj hl => by
          have hc : r8calls m (k : Int) (j : Int) = some (callsB m (k : Int) (j : Int), ()) := by unfold r8calls; rw [hi, hin]; rfl
          rw [r8edgesL1]
          simp only [dlt hj, cond_true, hc, Option.bind_some, List.length_cons, List.length_nil, room_ok (show l.length + (0 + 1) < 549755813888 by omega), wsucc hj (by simp only [lenMax]; omega)]
          cases callsB m (k : Int) (j : Int) <;> simp)
        (fun l rec2 _ => by
          rw [r8edgesL1]
          simp only [dnlt, cond_false, List.length_cons, List.length_nil, room_ok (show out.length + (0 + 1) < 549755813888 by omega), Bool.and_self, cond_true, wsucc hk (show _ ≤ lenMax by simp only [lenMax]; omega)]) (m.2.2.2.1.length + 1) (by omega)
      rw [ints_filter (fun g => callsB m (k : Int) g)] at this
      exact this)
    (fun out rec _ => by rw [r8edgesL2]; simp only [dnlt, cond_false]) (m.2.2.2.1.length + 1) (by omega)
  rw [flat_one] at this
  refine this.trans ?_
  unfold edgesB
  rw [show ints m.2.2.2.1.length = (List.range m.2.2.2.1.length).map fun k : Nat => (k : Int) from rfl, List.map_map]
  rfl

end Go.Pli

namespace Go.Pli
open Go Go.PM

theorem mem_memI {a : Int} : ∀ {l : List Int}, memI a l = true ↔ a ∈ l
  | [] => by simp [memI]
  | b :: l => by simp [memI, mem_memI (l := l)]

theorem mem_dedup {a : Int} : ∀ {l : List Int}, a ∈ dedupI l ↔ a ∈ l
  | [] => Iff.rfl
  | b :: l => by
    have ih := mem_dedup (a := a) (l := l)
    simp only [dedupI]
    cases h : memI b (dedupI l) <;> simp only [cond_true, cond_false, List.mem_cons, ih]
    constructor
    · exact .inr
    · rintro (h' | h')
      · subst h'; exact ih.1 (mem_memI.1 h)
      · exact h'

theorem nodup_dedup : ∀ (l : List Int), (dedupI l).Nodup
  | [] => List.nodup_nil
  | b :: l => by
    simp only [dedupI]
    cases h : memI b (dedupI l) <;> simp only [cond_true, cond_false]
    · exact List.nodup_cons.2 ⟨fun hh => (by rw [mem_memI.2 hh] at h; cases h), nodup_dedup l⟩
    · exact nodup_dedup l

theorem dedup_len : ∀ (l : List Int), (dedupI l).length ≤ l.length
  | [] => Nat.le_refl _
  | b :: l => by
    have := dedup_len l
    simp only [dedupI]
    cases memI b (dedupI l) <;> simp only [cond_true, cond_false, List.length_cons] <;> omega

theorem allSame_of {R : Type} {l : List Int} {f : Int → Option R} {r : R} (hn : l ≠ []) (h : ∀ x ∈ l, f x = some r) : allSame l f = some r := by
  unfold allSame
  have hh : ∃ r, ∀ x ∈ l, f x = some r := ⟨r, h⟩
  rw [dif_pos hh]
  obtain ⟨x, hx⟩ := List.exists_mem_of_ne_nil l hn
  have h1 := hh.choose_spec x hx
  rw [h x hx] at h1
  rw [← Option.some.inj h1]

theorem nextOf_of {R : Type} {l : List Int} {a : Option R} {f : Int → Option R} {r : R} (h0 : l = [] → a = some r) (h : ∀ x ∈ l, f x = some r) : nextOf l a f = some r := by
  cases l with
  | nil => exact h0 rfl
  | cons x l => exact allSame_of (by simp) h

theorem mem_allT {m : Im} {f g : Int} : g ∈ allT m f ↔ callsB m f g = true := by
  unfold allT callsB
  simp only [List.mem_flatten, List.mem_map, List.any_eq_true, List.contains_iff_mem]
  constructor
  · rintro ⟨l, ⟨i, hi, rfl⟩, hg⟩; exact ⟨i, hi, hg⟩
  · rintro ⟨i, hi, hg⟩; exact ⟨_, ⟨i, hi, rfl⟩, hg⟩

theorem tgt_in {m : Im} (h : tgtOk m = true) {f g : Int} (hf : inM m f = true) (hc : callsB m f g = true) : inM m g = true := by
  simp only [tgtOk, List.all_eq_true] at h
  exact h f (mem_ints.2 (inM_iff.1 hf)) g (mem_allT.2 hc)

theorem mem_ofB {m : Im} {f g : Int} (hf : inM m f = true) : g ∈ ofB m f ↔ callsB m f g = true := by
  unfold ofB
  rw [hf]
  simp only [cond_true]
  rw [mem_compactI, mem_sortL, mem_allT]

/-- Who is called, rising. -/
theorem ofB_eq {m : Im} (h : tgtOk m = true) {f : Int} (hf : inM m f = true) : ofB m f = (ints m.2.2.2.1.length).filter fun g => callsB m f g := by
  refine strict_ext ?_ ((strict_ints _).filter _) fun x => ?_
  · unfold ofB
    rw [hf]
    exact strict_compactI (rising_sortL _)
  · rw [mem_ofB hf, List.mem_filter, mem_ints]
    constructor
    · intro hc; exact ⟨inM_iff.1 (tgt_in h hf hc), hc⟩
    · exact fun hc => hc.2

theorem mem_growS {m : Im} {S : List Int} {g : Int} : g ∈ growS m S ↔ inM m g = true ∧ (g ∈ S ∨ ∃ x ∈ S, callsB m x g = true) := by
  unfold growS
  rw [List.mem_filter, mem_ints, inM_iff, Bool.or_eq_true, mem_memI, List.any_eq_true]

/-- Nothing beyond is called. -/
def Shut (m : Im) (S : Int → Prop) : Prop := ∀ x y, S x → inM m y = true → callsB m x y = true → S y

theorem closN_least {m : Im} {T : Int → Prop} (hT : Shut m T) : ∀ (n : Nat) {S : List Int}, (∀ x ∈ S, T x) → ∀ x ∈ closN m n S, T x
  | 0, _, h => h
  | n + 1, S, h => closN_least hT n fun g hg => by
    obtain ⟨h1, h2 | ⟨x, hx, hc⟩⟩ := mem_growS.1 hg
    · exact h g h2
    · exact hT x g (h x hx) h1 hc

theorem filter_same {α : Type} {p q : α → Bool} : ∀ {l : List α}, (∀ x ∈ l, p x = true → q x = true) → (l.filter q).length ≤ (l.filter p).length → l.filter p = l.filter q
  | [], _, _ => rfl
  | x :: l, h, hl => by
    have hle : ∀ l : List α, (∀ x ∈ l, p x = true → q x = true) → (l.filter p).length ≤ (l.filter q).length := by
      intro l
      induction l with
      | nil => intro _; simp
      | cons y l ih =>
        intro h
        have := ih fun x hx => h x (List.mem_cons_of_mem _ hx)
        have hy := h y List.mem_cons_self
        simp only [List.filter_cons]
        cases hp : p y
        · cases q y <;> simp <;> omega
        · rw [hy hp]; simp; omega
    have h' : ∀ x ∈ l, p x = true → q x = true := fun y hy => h y (List.mem_cons_of_mem _ hy)
    have hx := h x List.mem_cons_self
    have := hle l h'
    simp only [List.filter_cons] at hl ⊢
    cases hp : p x
    · cases hq : q x
      · rw [hp, hq] at hl
        simp only [Bool.false_eq_true, if_false] at hl ⊢
        exact filter_same h' hl
      · rw [hp, hq] at hl
        simp at hl
        omega
    · rw [hp, hx hp] at hl
      rw [hx hp]
      simp only [if_true, List.length_cons] at hl ⊢
      rw [filter_same h' (by omega)]

/-- A row of methods, rising. -/
def Canon (m : Im) (S : List Int) : Prop := ∃ p : Int → Bool, S = (ints m.2.2.2.1.length).filter p
theorem canon_grow (m : Im) (S : List Int) : Canon m (growS m S) := ⟨_, rfl⟩
theorem canon_closN (m : Im) : ∀ (n : Nat) (S : List Int), Canon m S → Canon m (closN m n S)
  | 0, _, h => h
  | n + 1, S, _ => canon_closN m n _ (canon_grow m S)
theorem Canon.strict {m : Im} {S : List Int} (h : Canon m S) : S.Pairwise (· < ·) := by
  obtain ⟨p, rfl⟩ := h
  exact (strict_ints _).filter _
theorem Canon.inM {m : Im} {S : List Int} (h : Canon m S) {x : Int} (hx : x ∈ S) : inM m x = true := by
  obtain ⟨p, rfl⟩ := h
  exact inM_iff.2 (mem_ints.1 (List.mem_filter.1 hx).1)
theorem Canon.len {m : Im} {S : List Int} (h : Canon m S) : S.length ≤ m.2.2.2.1.length := by
  obtain ⟨p, rfl⟩ := h
  have := List.length_filter_le p (ints m.2.2.2.1.length)
  rwa [ints_len] at this

theorem sub_closN {m : Im} : ∀ (n : Nat) {S : List Int}, Canon m S → ∀ x ∈ S, x ∈ closN m n S
  | 0, _, _, _, h => h
  | n + 1, S, hS, x, h => sub_closN n (canon_grow m S) x (mem_growS.2 ⟨hS.inM h, .inl h⟩)

theorem closN_fix {m : Im} {S : List Int} (h : growS m S = S) : ∀ n, closN m n S = S
  | 0 => rfl
  | n + 1 => by simp only [closN]; rw [h]; exact closN_fix h n

theorem shut_or {m : Im} : ∀ (n : Nat) {S : List Int}, Canon m S → Shut m (· ∈ closN m n S) ∨ S.length + n ≤ (closN m n S).length
  | 0, S, _ => .inr (by simp [closN])
  | n + 1, S, hS => by
    by_cases hfix : growS m S = S
    · refine .inl ?_
      rw [closN_fix hfix]
      intro x y hx hy hc
      rw [← hfix]
      exact mem_growS.2 ⟨hy, .inr ⟨x, hx, hc⟩⟩
    · simp only [closN]
      rcases shut_or n (canon_grow m S) with h | h
      · exact .inl h
      · refine .inr ?_
        have hlt : S.length < (growS m S).length := by
          obtain ⟨p, hp⟩ := hS
          rcases Nat.lt_or_ge S.length (growS m S).length with hh | hh
          · exact hh
          · refine absurd ?_ hfix
            have hsub : ∀ x ∈ ints m.2.2.2.1.length, p x = true → (memI x S || S.any fun z => callsB m z x) = true := fun x hx hpx => by
              have : x ∈ S := by rw [hp]; exact List.mem_filter.2 ⟨hx, hpx⟩
              rw [mem_memI.2 this]; rfl
            have := filter_same hsub (by
              have e : (growS m S).length = ((ints m.2.2.2.1.length).filter fun x => memI x S || S.any fun z => callsB m z x).length := rfl
              rw [← e]
              rw [hp] at hh ⊢
              rw [← hp] at hh ⊢
              exact hh)
            rw [← hp] at this
            exact this.symm
        omega

theorem canon_one {m : Im} {f : Int} (hf : inM m f = true) : Canon m [f] := by
  refine ⟨fun x => x == f, strict_ext (by simp) ((strict_ints _).filter _) fun x => ?_⟩
  rw [List.mem_filter, mem_ints, List.mem_singleton]
  constructor
  · rintro rfl; exact ⟨inM_iff.1 hf, by simp⟩
  · rintro ⟨-, h⟩; simpa using h

theorem reachB_at {m : Im} {f : Int} (hf : inM m f = true) : reachB m f = closN m m.2.2.2.1.length [f] := by
  unfold reachB; rw [hf]; rfl

theorem reach_canon {m : Im} {f : Int} (hf : inM m f = true) : Canon m (reachB m f) := by
  rw [reachB_at hf]; exact canon_closN m _ _ (canon_one hf)

theorem reach_self {m : Im} {f : Int} (hf : inM m f = true) : f ∈ reachB m f := by
  rw [reachB_at hf]; exact sub_closN _ (canon_one hf) f List.mem_cons_self

theorem reach_shut {m : Im} {f : Int} (hf : inM m f = true) : Shut m (· ∈ reachB m f) := by
  rw [reachB_at hf]
  rcases shut_or m.2.2.2.1.length (canon_one hf) with h | h
  · exact h
  · have := (canon_closN m m.2.2.2.1.length [f] (canon_one hf)).len
    simp at h; omega

theorem reach_least {m : Im} {f : Int} (hf : inM m f = true) {T : Int → Prop} (hT : Shut m T) (h : T f) : ∀ x ∈ reachB m f, T x := by
  rw [reachB_at hf]
  exact closN_least hT _ fun x hx => by rw [List.mem_singleton] at hx; rw [hx]; exact h

/-- What is come to comes to no more. -/
theorem reach_sub {m : Im} {f g : Int} (hf : inM m f = true) (hg : g ∈ reachB m f) : ∀ x ∈ reachB m g, x ∈ reachB m f :=
  reach_least ((reach_canon hf).inM hg) (reach_shut hf) hg

/-! ### the functions -/
theorem allT_len {m : Im} (hi : ifits m = true) {f : Int} (hf : inM m f = true) : (allT m f).length ≤ 512 := by
  obtain ⟨h0, h1⟩ := inM_iff.1 hf
  have hx := (mth_of ((fit_of hi).mts _ (mtOf_mem h0 h1))).2.2.2.1.1
  unfold allT
  have key : ∀ l : List Ins, ((l.map (targetsB m)).flatten).length ≤ 8 * l.length := by
    intro l
    induction l with
    | nil => simp
    | cons i l ih =>
      have := targetsB_len hi i
      rw [List.map_cons, List.flatten_cons, List.length_append, List.length_cons]
      omega
  have := key (mtOf m f).2.2.2.1
  omega

theorem cof_ok (m : Im) (f : Int) (r) (h : cof m f = some r) : ∃ k, cofN k m f = some r := by
  unfold cof at h
  cases hi : ifits m <;> simp only [hi, cond_true, cond_false] at h
  · cases h
  injection h with h
  subst h
  refine ⟨(mtOf m f).2.2.2.1.length + 1, ?_⟩
  unfold cofN ofB
  by_cases h0 : f < 0
  · have : inM m f = false := by cases hh : inM m f; rfl; have := inM_iff.1 hh; omega
    rw [this, decide_eq_true h0]; rfl
  · by_cases h1 : f ≥ (m.2.2.2.1.length : Int)
    · have : inM m f = false := by cases hh : inM m f; rfl; have := inM_iff.1 hh; omega
      rw [this, decide_eq_false h0, decide_eq_true h1]; rfl
    · have hf : inM m f = true := inM_iff.2 ⟨by omega, by omega⟩
      have hd : m.2.2.2.1.getD f.toNat zMt = mtOf m f := rfl
      have hr : (decide (0 ≤ f) && decide (f < (m.2.2.2.1.length : Int))) = true := by simp; omega
      have hx := (mth_of ((fit_of hi).mts _ (mtOf_mem (show 0 ≤ f by omega) (show f < (m.2.2.2.1.length : Int) by omega)))).2.2.2.1.1
      rw [hf, decide_eq_false h0, decide_eq_false h1, hr]
      simp only [cond_true, cond_false]
      have := loop_coll (L := cofL1 m f) (n := (mtOf m f).2.2.2.1.length) (B := 8) (st := fun k out => (out, (k : Int), ())) (f := fun k => targetsB m ((mtOf m f).2.2.2.1.getD k zIns)) (fin := fun out => some (compactI (sortL out), ())) (fun k _ => targetsB_len hi _)
        (fun k out rec hk ho => by
          have ht : ∀ x, ctargets m x = some (targetsB m x, ()) := fun x => by unfold ctargets; rw [hi]; rfl
          have htl := targetsB_len hi ((mtOf m f).2.2.2.1.getD k zIns)
          rw [cofL1]
          simp only [hd, dlt hk, dge, Bool.and_self, cond_true, Int.toNat_natCast, ht, Option.bind_some, room_ok (show out.length + (targetsB m ((mtOf m f).2.2.2.1.getD k zIns)).length < 549755813888 by omega), wsucc hk (by simp only [lenMax]; omega)])
        (fun out rec _ => by rw [cofL1]; simp only [hd, dnlt, cond_false]; rfl) ((mtOf m f).2.2.2.1.length + 1) (by omega)
      rw [range_mapD] at this
      exact this

/-- The keys, whichever comes first, put into a row and sorted. -/
theorem keys_loop : ∀ (n : Nat) (out left : List Int) (F : Nat), left.length = n → n < F → out.length + n < 1000000 → loopF creachL2 F (out, left, ()) = some (sortL (out ++ left), ())
  | n, out, left, F, hn, hF, ho => by
    obtain ⟨F, rfl⟩ : ∃ k, F = k + 1 := ⟨F - 1, by omega⟩
    rw [loopF_step, creachL2]
    refine nextOf_of (fun h => ?_) fun x hx => ?_
    · simp only at h
      rw [h, List.append_nil]; rfl
    · simp only at hx
      have hpos := List.length_pos_of_mem hx
      have hlen : (left.erase x).length = left.length - 1 := List.length_erase_of_mem hx
      obtain ⟨n, rfl⟩ : ∃ k, n = k + 1 := ⟨n - 1, by omega⟩
      simp only [List.length_cons, List.length_nil, room_ok (show out.length + (0 + 1) < 549755813888 by omega), Bool.and_self, cond_true]
      rw [keys_loop n (out ++ [x]) (left.erase x) F (by omega) (by omega) (by simp; omega)]
      congr 2
      refine sortL_perm ?_
      rw [List.append_assoc]
      exact List.Perm.append_left out ((List.perm_cons_erase hx).symm)

/-- What is not known yet is put to both rows. -/
def addF : List Int → List Int × List Int → List Int × List Int
  | [], s => s
  | x :: l, s => addF l (bif memI x s.2 then s else (s.1 ++ [x], s.2 ++ [x]))

theorem add_loop {rec2 : (List Int × List Int × Unit) → Option (List Int × Unit)} {r3 : List Int × Unit} (hk : ∀ x ∈ r3.1, keyOk x = true) (hl : r3.1.length < 1000) : ∀ (l pre : List Int) (s : List Int × List Int) (F : Nat), r3.1 = pre ++ l → l.length < F → s.1.length + l.length < 1000000 → s.2.length + l.length < 1000000 →
    loopF (creachL1 rec2 r3) F (s.1, (pre.length : Int), s.2, ()) = rec2 ((addF l s).1, (addF l s).2, ())
  | [], pre, s, F, hp, hF, _, _ => by
    obtain ⟨F, rfl⟩ : ∃ k, F = k + 1 := ⟨F - 1, by simp at hF; omega⟩
    rw [List.append_nil] at hp
    rw [loopF_step, creachL1, hp]
    simp only [dnlt, cond_false]
    rfl
  | x :: l, pre, s, F, hp, hF, h1, h2 => by
    obtain ⟨F, rfl⟩ : ∃ k, F = k + 1 := ⟨F - 1, by simp at hF; omega⟩
    have hlt : pre.length < r3.1.length := by rw [hp]; simp
    have hg : r3.1[pre.length]? = some x := by rw [hp]; simp
    have hkx : keyOk x = true := hk x (by rw [hp]; simp)
    simp only [List.length_cons] at hF h1 h2
    have hp' : r3.1 = (pre ++ [x]) ++ l := by rw [hp]; simp
    have hnext : ∀ s' : List Int × List Int, s'.1.length + l.length < 1000000 → s'.2.length + l.length < 1000000 → loopF (creachL1 rec2 r3) F (s'.1, ((pre.length + 1 : Nat) : Int), s'.2, ()) = rec2 ((addF l s').1, (addF l s').2, ()) := fun s' q1 q2 => by
      have := add_loop (rec2 := rec2) hk hl l (pre ++ [x]) s' F hp' (by omega) q1 q2
      rw [List.length_append] at this
      exact this
    rw [loopF_step, creachL1]
    simp only [dlt hlt, dge, Bool.and_self, cond_true, Int.toNat_natCast, getD_some hg, hkx, wsucc hlt (show _ ≤ lenMax by simp only [lenMax]; omega), List.length_cons, List.length_nil, room_ok (show s.2.length < 549755813888 by omega), room_ok (show s.1.length + (0 + 1) < 549755813888 by omega)]
    simp only [addF]
    cases hm : memI x s.2 <;> simp only [Bool.not_true, Bool.not_false, cond_true, cond_false]
    · exact hnext (s.1 ++ [x], s.2 ++ [x]) (by simp; omega) (by simp; omega)
    · exact hnext s (by omega) (by omega)

theorem addF_spec : ∀ (l : List Int) (s : List Int × List Int), s.2.Nodup → ∃ new : List Int, addF l s = (s.1 ++ new, s.2 ++ new) ∧ (s.2 ++ new).Nodup ∧ (∀ x, x ∈ new → x ∈ l) ∧ ∀ x ∈ l, x ∈ s.2 ++ new
  | [], s, h => ⟨[], by simp [addF], by simpa using h, by simp, by simp⟩
  | x :: l, s, h => by
    simp only [addF]
    cases hm : memI x s.2 <;> simp only [cond_true, cond_false]
    · have hx : x ∉ s.2 := fun hh => by rw [mem_memI.2 hh] at hm; cases hm
      have hn : (s.2 ++ [x]).Nodup := by
        rw [List.nodup_append]
        exact ⟨h, by simp, fun a ha b hb => by rw [List.mem_singleton] at hb; subst hb; exact fun e => hx (by rw [← e]; exact ha)⟩
      obtain ⟨new, k1, k2, k3, k4⟩ := addF_spec l (s.1 ++ [x], s.2 ++ [x]) hn
      refine ⟨x :: new, by rw [k1]; simp, by simpa using k2, fun y hy => ?_, fun y hy => ?_⟩
      · rcases List.mem_cons.1 hy with rfl | hy
        · exact List.mem_cons_self
        · exact List.mem_cons_of_mem _ (k3 y hy)
      · rcases List.mem_cons.1 hy with rfl | hy
        · simp
        · have := k4 y hy; simpa using this
    · obtain ⟨new, k1, k2, k3, k4⟩ := addF_spec l s h
      refine ⟨new, k1, k2, fun y hy => List.mem_cons_of_mem _ (k3 y hy), fun y hy => ?_⟩
      rcases List.mem_cons.1 hy with rfl | hy
      · exact List.mem_append_left _ (mem_memI.1 hm)
      · exact k4 y hy

theorem nodup_sub_len : ∀ {a b : List Int}, a.Nodup → (∀ x ∈ a, x ∈ b) → a.length ≤ b.length
  | [], _, _, _ => Nat.zero_le _
  | x :: a, b, ha, h => by
    have h1 := List.nodup_cons.1 ha
    have hx := h x List.mem_cons_self
    have := nodup_sub_len (a := a) (b := b.erase x) h1.2 fun y hy => by
      have hyx : y ≠ x := fun e => h1.1 (by rw [← e]; exact hy)
      exact (List.mem_erase_of_ne hyx).2 (h y (List.mem_cons_of_mem _ hy))
    rw [List.length_erase_of_mem hx] at this
    have := List.length_pos_of_mem hx
    simp only [List.length_cons]; omega

theorem finish {m : Im} (hi : ifits m = true) {f : Int} (hf : inM m f = true) (met : List Int) {F' : (List Int × List Int × Unit) → Option (List Int × Unit)} (hnd : met.Nodup) (h2 : ∀ x ∈ met, x ∈ reachB m f) (h3 : f ∈ met) (h4 : ∀ x ∈ met, ∀ y, callsB m x y = true → y ∈ met) :
    creachL3 m 1000 ([], met, ()) F' = some (reachB m f, ()) := by
  have h12 := (fit_of hi).methods
  have hml : met.length ≤ m.2.2.2.1.length := by
    have := nodup_sub_len hnd h2
    have := (reach_canon hf).len
    omega
  have hdl := dedup_len met
  unfold creachL3
  have e1 : decide ((([] : List Int).length : Int) > 0) = false := by decide
  simp only [e1, cond_false]
  rw [keys_loop (dedupI met).length [] (dedupI met) 1000 rfl (by omega) (by simp; omega), List.nil_append]
  congr 2
  refine strict_ext (sortL_strict (nodup_dedup met)) (reach_canon hf).strict fun x => ?_
  rw [mem_sortL, mem_dedup]
  refine ⟨h2 x, fun hx => ?_⟩
  exact reach_least hf (T := fun y => y ∈ met) (fun a b ha _ hc => h4 a ha b hc) h3 x hx

/-- All that is met, one after the other. -/
theorem walk_loop {m : Im} (hi : ifits m = true) (ht : tgtOk m = true) {f : Int} (hf : inM m f = true) : ∀ (n : Nat) (todo met : List Int) (F : Nat), todo.length + (m.2.2.2.1.length - met.length) = n → n < F →
    met.Nodup → (∀ x ∈ todo, x ∈ met) → (∀ x ∈ met, x ∈ reachB m f) → f ∈ met → (∀ x ∈ met, x ∉ todo → ∀ y, callsB m x y = true → y ∈ met) → todo.length + (m.2.2.2.1.length - met.length) ≤ 10000 →
    loopF (creachL3 m 1000) F (todo, met, ()) = some (reachB m f, ()) := by
  have h12 := (fit_of hi).methods
  intro n
  induction n with
  | zero =>
    intro todo met F hn hF hnd h1 h2 h3 h4 h5
    obtain ⟨F, rfl⟩ : ∃ k, F = k + 1 := ⟨F - 1, by omega⟩
    have : todo = [] := List.eq_nil_of_length_eq_zero (by omega)
    subst this
    rw [loopF_step, creachL3]
    exact finish hi hf met hnd h2 h3 (fun x hx y hc => h4 x hx (by simp) y hc)
  | succ n ih =>
    intro todo met F hn hF hnd h1 h2 h3 h4 h5
    obtain ⟨F, rfl⟩ : ∃ k, F = k + 1 := ⟨F - 1, by omega⟩
    cases todo with
    | nil =>
      rw [loopF_step, creachL3]
      exact finish hi hf met hnd h2 h3 (fun x hx y hc => h4 x hx (by simp) y hc)
    | cons x rest =>
      have hxm := h1 x List.mem_cons_self
      have hx : inM m x = true := (reach_canon hf).inM (h2 x hxm)
      have hcof : cof m x = some (ofB m x, ()) := by unfold cof; rw [hi]; rfl
      have hof : ∀ y, y ∈ ofB m x ↔ callsB m x y = true := fun y => mem_ofB hx
      have hofin : ∀ y ∈ ofB m x, inM m y = true := fun y hy => tgt_in ht hx ((hof y).1 hy)
      have hoflen : (ofB m x).length ≤ m.2.2.2.1.length := by
        rw [ofB_eq ht hx]
        have := List.length_filter_le (fun g => callsB m x g) (ints m.2.2.2.1.length)
        rwa [ints_len] at this
      have hkey : ∀ y ∈ ofB m x, keyOk y = true := fun y hy => by
        have := inM_iff.1 (hofin y hy)
        simp only [keyOk, Bool.and_eq_true, decide_eq_true_eq]
        omega
      have hmlen : met.length ≤ m.2.2.2.1.length := by
        have := nodup_sub_len hnd h2
        have := (reach_canon hf).len
        omega
      simp only [List.length_cons] at h5 hn
      rw [loopF_step, creachL3]
      have e1 : decide (((x :: rest).length : Int) > 0) = true := decide_eq_true (by simp)
      have e2 : decide ((0 : Int) < ((x :: rest).length : Int)) = true := decide_eq_true (by simp)
      have e3 : decide ((1 : Int) ≤ ((x :: rest).length : Int)) = true := decide_eq_true (by rw [List.length_cons]; omega)
      have e4 : decide (((x :: rest).length : Int) ≤ ((x :: rest).length : Int)) = true := decide_eq_true (Int.le_refl _)
      simp only [e1, e3, e4, Bool.and_self, cond_true, List.getD_cons_zero, hcof, Option.bind_some, List.take_length, List.drop_succ_cons, List.drop_zero]
      obtain ⟨new, k1, k2, k3, k4⟩ := addF_spec (ofB m x) (rest, met) hnd
      have := add_loop (rec2 := loopF (creachL3 m 1000) F) (r3 := (ofB m x, ())) hkey (by show (ofB m x).length < 1000; omega) (ofB m x) [] (rest, met) 1000 rfl (by omega) (by simp only; omega) (by simp only; omega)
      simp only [List.length_nil] at this
      rw [show ((0 : Nat) : Int) = 0 from rfl] at this
      rw [this, k1]
      have hnewr : ∀ y ∈ new, y ∈ reachB m f := fun y hy => reach_shut hf x y (h2 x hxm) (hofin y (k3 y hy)) ((hof y).1 (k3 y hy))
      have hall : ∀ y ∈ met ++ new, y ∈ reachB m f := fun y hy => by
        rcases List.mem_append.1 hy with hy | hy
        · exact h2 y hy
        · exact hnewr y hy
      have hlen2 : (met ++ new).length ≤ m.2.2.2.1.length := by
        have := nodup_sub_len (a := met ++ new) k2 hall
        have := (reach_canon hf).len
        omega
      rw [List.length_append] at hlen2
      refine ih (rest ++ new) (met ++ new) F (by simp only [List.length_append]; omega) (by omega) k2 (fun y hy => ?_) hall (List.mem_append_left _ h3) (fun y hy hyt z hc => ?_) (by simp only [List.length_append]; omega)
      · rcases List.mem_append.1 hy with hy | hy
        · exact List.mem_append_left _ (h1 y (List.mem_cons_of_mem _ hy))
        · exact List.mem_append_right _ hy
      · by_cases hyx : y = x
        · subst hyx
          exact k4 z ((hof z).2 hc)
        · rcases List.mem_append.1 hy with hy' | hy'
          · refine List.mem_append_left _ (h4 y hy' (fun hh => ?_) z hc)
            rcases List.mem_cons.1 hh with hh | hh
            · exact hyx hh
            · exact hyt (List.mem_append_left _ hh)
          · exact absurd (List.mem_append_right _ hy') hyt

theorem creach_ok (m : Im) (f : Int) (r) (h : creach m f = some r) : ∃ k, creachN k m f = some r := by
  unfold creach at h
  cases hi : ifits m && tgtOk m <;> simp only [hi, cond_true, cond_false] at h
  · cases h
  injection h with h
  subst h
  simp only [Bool.and_eq_true] at hi
  obtain ⟨hi, ht⟩ := hi
  refine ⟨1000, ?_⟩
  have h12 := (fit_of hi).methods
  unfold creachN
  by_cases h0 : f < 0
  · have : inM m f = false := by cases hh : inM m f; rfl; have := inM_iff.1 hh; omega
    unfold reachB
    rw [this, decide_eq_true h0]; rfl
  · by_cases h1 : f ≥ (m.2.2.2.1.length : Int)
    · have : inM m f = false := by cases hh : inM m f; rfl; have := inM_iff.1 hh; omega
      unfold reachB
      rw [this, decide_eq_false h0, decide_eq_true h1]; rfl
    · have hf : inM m f = true := inM_iff.2 ⟨by omega, by omega⟩
      have hk : keyOk f = true := by simp only [keyOk, Bool.and_eq_true, decide_eq_true_eq]; omega
      rw [decide_eq_false h0, decide_eq_false h1, hk]
      simp only [cond_true, cond_false]
      refine walk_loop hi ht hf _ [f] [f] 1000 rfl (by simp; omega) (by simp) (fun x hx => hx) (fun x hx => ?_) List.mem_cons_self (fun x hx hxt => absurd hx hxt) (by simp; omega)
      rw [List.mem_singleton] at hx
      rw [hx]; exact reach_self hf

end Go.Pli

namespace Go.Pli
open Go Go.PM

theorem loop_st {σ R : Type} {L : σ → (σ → Option R) → Option R} {n : Nat} {st : Nat → σ} {r : Option R}
    (h1 : ∀ k rec, k < n → L (st k) rec = rec (st (k + 1))) (h2 : ∀ rec, L (st n) rec = r) : ∀ F, n < F → loopF L F (st 0) = r := by
  have key : ∀ (j k F : Nat), k + j = n → j < F → loopF L F (st k) = r := by
    intro j
    induction j with
    | zero =>
      intro k F hk hF
      obtain ⟨F, rfl⟩ : ∃ n, F = n + 1 := ⟨F - 1, by omega⟩
      have : k = n := by omega
      subst this
      rw [loopF_step, h2]
    | succ j ih =>
      intro k F hk hF
      obtain ⟨F, rfl⟩ : ∃ n, F = n + 1 := ⟨F - 1, by omega⟩
      rw [loopF_step, h1 k _ (by omega)]
      exact ih (k + 1) F (by omega) (by omega)
  exact fun F hF => key n 0 F (by omega) hF

/-! ### rows of rows by their places -/
theorem matF_len (n : Nat) (f : Nat → Nat → Bool) : (matF n f).length = n := by simp [matF]
theorem matF_row {n i : Nat} (h : i < n) (f : Nat → Nat → Bool) : (matF n f).getD i [] = (List.range n).map fun j => f i j := by simp [matF, h]
theorem wrow_get {n j : Nat} (h : j < n) (f : Nat → Bool) : ((List.range n).map f).getD j false = f j := by simp [h]
theorem wrow_len (n : Nat) (f : Nat → Bool) : ((List.range n).map f).length = n := by simp
theorem wrow_set {n j : Nat} (f : Nat → Bool) (v : Bool) : ((List.range n).map f).set j v = (List.range n).map fun b => if b = j then v else f b := by
  apply List.ext_getElem (by simp)
  intro b h1 h2
  have hb : b < n := by simpa using h2
  rw [List.getElem_set]
  by_cases hj : j = b
  · subst hj; simp
  · simp [hj, Ne.symm hj]
theorem wrows_set {n i : Nat} (f : Nat → List Bool) (v : List Bool) : ((List.range n).map f).set i v = (List.range n).map fun a => if a = i then v else f a := by
  apply List.ext_getElem (by simp)
  intro b h1 h2
  have hb : b < n := by simpa using h2
  rw [List.getElem_set]
  by_cases hj : i = b
  · subst hj; simp
  · simp [hj, Ne.symm hj]
theorem matF_set {n i j : Nat} (hi : i < n) (f : Nat → Nat → Bool) (v : Bool) : (matF n f).set i (((matF n f).getD i []).set j v) = matF n fun a b => if a = i ∧ b = j then v else f a b := by
  rw [matF_row hi, wrow_set]
  unfold matF
  rw [wrows_set]
  apply List.map_congr_left
  intro a _
  by_cases ha : a = i
  · subst ha
    rw [if_pos rfl]
    apply List.map_congr_left
    intro b _
    by_cases hb : b = j <;> simp [hb]
  · rw [if_neg ha]
    apply List.map_congr_left
    intro b _
    simp [ha]
theorem matF_congr {n : Nat} {f g : Nat → Nat → Bool} (h : ∀ a, a < n → ∀ b, b < n → f a b = g a b) : matF n f = matF n g := by
  unfold matF
  apply List.map_congr_left
  intro a ha
  apply List.map_congr_left
  intro b hb
  exact h a (List.mem_range.1 ha) b (List.mem_range.1 hb)

/-! ### ways -/
theorem way_col (l : List (List Int)) (k i : Nat) : wayF l (k + 1) i k = wayF l k i k := by
  simp only [wayF]
  cases wayF l k i k <;> simp
theorem way_row (l : List (List Int)) (k j : Nat) : wayF l (k + 1) k j = wayF l k k j := by
  simp only [wayF]
  cases wayF l k k j <;> simp

/-- While it is found: what is done, what is not. -/
def midF (l : List (List Int)) (k i j : Nat) (a b : Nat) : Bool := if a < i ∨ (a = i ∧ b < j) then wayF l (k + 1) a b else wayF l k a b
theorem mid_col (l : List (List Int)) (k i j a : Nat) : midF l k i j a k = wayF l k a k := by
  unfold midF
  split
  · exact way_col l k a
  · rfl
theorem mid_row (l : List (List Int)) (k i j b : Nat) : midF l k i j k b = wayF l k k b := by
  unfold midF
  split
  · exact way_row l k b
  · rfl
theorem mid_at (l : List (List Int)) (k i j : Nat) : midF l k i j i j = wayF l k i j := by
  unfold midF
  rw [if_neg (by omega)]
theorem mid_step (l : List (List Int)) (k i j : Nat) : (fun a b => if a = i ∧ b = j then wayF l (k + 1) i j else midF l k i j a b) = midF l k i (j + 1) := by
  funext a b
  unfold midF
  by_cases h : a = i ∧ b = j
  · obtain ⟨rfl, rfl⟩ := h
    rw [if_pos ⟨rfl, rfl⟩, if_pos (.inr ⟨rfl, by omega⟩)]
  · rw [if_neg h]
    by_cases h2 : a < i ∨ (a = i ∧ b < j)
    · rw [if_pos h2, if_pos (by omega)]
    · rw [if_neg h2, if_neg (by omega)]

theorem ways_mid {l : List (List Int)} (hl : l.length ≤ 1000) {k : Nat} (hk : k < l.length) {rec6 : (Int × List (List Bool) × Unit) → Option (List (List Bool) × Unit)} {x : List (List Bool)} :
    loopF (r8waysL3 l 2000 ((k : Int), x, ()) rec6) 2000 ((0 : Int), matF l.length (wayF l k), ()) = rec6 (((k + 1 : Nat) : Int), matF l.length (wayF l (k + 1)), ()) := by
  have h0 : matF l.length (wayF l k) = matF l.length (midF l k 0 0) := matF_congr fun a _ b _ => by unfold midF; rw [if_neg (by omega)]
  rw [h0]
  refine loop_st (n := l.length) (st := fun i => ((i : Int), matF l.length (midF l k i 0), ())) (fun i rec hi => ?_) (fun rec => ?_) 2000 (by omega)
  · rw [r8waysL3]
    simp only [dlt hi, cond_true]
    refine (loop_st (n := l.length) (st := fun j => ((j : Int), matF l.length (midF l k i j), ())) (fun j rec2 hj => ?_) (fun rec2 => ?_) 2000 (by omega))
    · rw [r8waysL2]
      simp only [matF_len, matF_row hi, matF_row hk, wrow_len, wrow_get hj, wrow_get hk, dlt hj, dlt hi, dlt hk, dge, Bool.and_self, cond_true, Int.toNat_natCast, mid_at, mid_col, mid_row, wsucc hj (show _ ≤ lenMax by simp only [lenMax]; omega)]
      have fin : ∀ v, v = wayF l (k + 1) i j → rec2 (((j + 1 : Nat) : Int), (matF l.length (midF l k i j)).set i (((List.range l.length).map fun b => midF l k i j i b).set j v), ()) = rec2 (((j + 1 : Nat) : Int), matF l.length (midF l k i (j + 1)), ()) := fun v hv => by
        subst hv
        rw [← matF_row hi (midF l k i j), matF_set hi, mid_step]
      cases h1 : wayF l k i j <;> simp only [cond_true, cond_false]
      · cases h2 : wayF l k i k <;> simp only [cond_true, cond_false]
        · exact fin _ (by simp [wayF, h1, h2])
        · exact fin _ (by simp [wayF, h1, h2])
      · exact fin _ (by simp [wayF, h1])
    · rw [r8waysL2]
      simp only [dnlt, cond_false, wsucc hi (show _ ≤ lenMax by simp only [lenMax]; omega)]
      congr 2
      refine congrArg (fun q => (q, ())) (matF_congr fun a ha b hb => ?_)
      unfold midF
      by_cases h1 : a < i ∨ (a = i ∧ b < l.length)
      · rw [if_pos h1, if_pos (by omega)]
      · rw [if_neg h1, if_neg (by omega)]
  · rw [r8waysL3]
    simp only [dnlt, cond_false, wsucc hk (show _ ≤ lenMax by simp only [lenMax]; omega)]
    congr 2
    refine congrArg (fun q => (q, ())) (matF_congr fun a ha b hb => ?_)
    unfold midF
    rw [if_pos (.inl ha)]

theorem ways_last {l : List (List Int)} (hl : l.length ≤ 1000) : loopF (r8waysL4 l 2000) 2000 ((0 : Int), matF l.length (wayF l 0), ()) = some (matF l.length (wayF l l.length), ()) := by
  refine loop_st (n := l.length) (st := fun k => ((k : Int), matF l.length (wayF l k), ())) (fun k rec hk => ?_) (fun rec => ?_) 2000 (by omega)
  · rw [r8waysL4]
    simp only [dlt hk, cond_true]
    exact ways_mid hl hk
  · rw [r8waysL4]
    simp only [dnlt, cond_false]

/-- The steps of one node, one after the other. -/
def stepF (l : List (List Int)) (n i p b : Nat) : Bool := (((l.getD i []).take p).contains (b : Int)) && decide (b < n)
def rowsF (l : List (List Int)) (n i : Nat) (v : List Bool) : List (List Bool) := (List.range n).map fun a => if a < i then (List.range n).map fun b => edgeL l a b else if a = i then v else []

theorem rowsF_len (l : List (List Int)) (n i : Nat) (v : List Bool) : (rowsF l n i v).length = n := by simp [rowsF]
theorem rowsF_at (l : List (List Int)) {n i : Nat} (hi : i < n) (v : List Bool) : (rowsF l n i v).getD i [] = v := by simp [rowsF, hi]
theorem rowsF_set (l : List (List Int)) {n i : Nat} (v w : List Bool) : (rowsF l n i v).set i w = rowsF l n i w := by
  unfold rowsF
  rw [wrows_set]
  apply List.map_congr_left
  intro a _
  by_cases ha : a = i
  · subst ha; simp
  · simp [ha]

theorem ways_first {l : List (List Int)} (hl : l.length ≤ 1000) (hr : ∀ r ∈ l, r.length ≤ 1000) {i : Nat} (hi : i < l.length) {x : List (List Bool)} {rec2 : (Int × List (List Bool) × Unit) → Option (List (List Bool) × Unit)} :
    loopF (r8waysL1 l ((i : Int), x, ()) rec2) 2000 ((0 : Int), rowsF l l.length i (List.replicate l.length false), ()) = rec2 (((i + 1 : Nat) : Int), rowsF l l.length (i + 1) [], ()) := by
  have hri : (l.getD i []).length ≤ 1000 := hr _ (by rw [List.getD_eq_getElem?_getD, List.getElem?_eq_getElem hi]; exact List.getElem_mem hi)
  have h0 : rowsF l l.length i (List.replicate l.length false) = rowsF l l.length i ((List.range l.length).map (stepF l l.length i 0)) := by
    congr 1
    apply List.ext_getElem (by simp)
    intro a h1 h2
    simp [stepF]
  rw [h0]
  refine loop_st (n := (l.getD i []).length) (st := fun p => ((p : Int), rowsF l l.length i ((List.range l.length).map (stepF l l.length i p)), ())) (fun p rec hp => ?_) (fun rec => ?_) 2000 (by omega)
  · have hget : (l.getD i []).getD p 0 = (l.getD i [])[p] := by rw [List.getD_eq_getElem?_getD, List.getElem?_eq_getElem hp]; rfl
    rw [r8waysL1]
    simp only [dlt hi, dlt hp, dge, Bool.and_self, cond_true, Int.toNat_natCast, rowsF_len, rowsF_at l hi, wrow_len, wsucc hp (show _ ≤ lenMax by simp only [lenMax]; omega)]
    have hnext : ∀ b, b < l.length → stepF l l.length i (p + 1) b = (stepF l l.length i p b || ((l.getD i []).getD p 0 == (b : Int))) := fun b hb => by
      unfold stepF
      rw [List.take_succ_eq_append_getElem hp, hget, List.contains_eq_any_beq, List.contains_eq_any_beq, List.any_append]
      simp only [List.any_cons, List.any_nil, Bool.or_false, decide_eq_true hb, Bool.and_true]
      rw [show ((b : Int) == (l.getD i [])[p]) = ((l.getD i [])[p] == (b : Int)) from BEq.comm]
    by_cases h1 : (l.getD i []).getD p 0 ≥ 0
    · rw [decide_eq_true h1]
      simp only [cond_true]
      by_cases h2 : (l.getD i []).getD p 0 < (l.length : Int)
      · rw [decide_eq_true h2]
        simp only [Bool.and_self, cond_true]
        rw [wrow_set, rowsF_set]
        congr 3
        congr 1
        apply List.map_congr_left
        intro b hb
        have hb := List.mem_range.1 hb
        rw [hnext b hb]
        by_cases hbt : b = ((l.getD i []).getD p 0).toNat
        · rw [if_pos hbt]
          have : (l.getD i []).getD p 0 = (b : Int) := by omega
          rw [this]; simp
        · rw [if_neg hbt]
          have : ((l.getD i []).getD p 0 == (b : Int)) = false := by
            have : ¬ (l.getD i []).getD p 0 = (b : Int) := by omega
            simpa using this
          rw [this, Bool.or_false]
      · rw [decide_eq_false h2]
        simp only [cond_false]
        congr 3
        congr 1
        apply List.map_congr_left
        intro b hb
        have hb := List.mem_range.1 hb
        rw [hnext b hb]
        have : ((l.getD i []).getD p 0 == (b : Int)) = false := by
          have : ¬ (l.getD i []).getD p 0 = (b : Int) := by omega
          simpa using this
        rw [this, Bool.or_false]
    · rw [decide_eq_false h1]
      simp only [cond_false]
      congr 3
      congr 1
      apply List.map_congr_left
      intro b hb
      have hb := List.mem_range.1 hb
      rw [hnext b hb]
      have : ((l.getD i []).getD p 0 == (b : Int)) = false := by
        have : ¬ (l.getD i []).getD p 0 = (b : Int) := by omega
        simpa using this
      rw [this, Bool.or_false]
  · rw [r8waysL1]
    simp only [dlt hi, dge, Bool.and_self, cond_true, Int.toNat_natCast, dnlt, cond_false, wsucc hi (show _ ≤ lenMax by simp only [lenMax]; omega)]
    congr 2
    refine congrArg (fun q => (q, ())) ?_
    unfold rowsF
    apply List.map_congr_left
    intro a ha
    have ha := List.mem_range.1 ha
    by_cases h1 : a < i
    · rw [if_pos h1, if_pos (by omega)]
    · rw [if_neg h1]
      by_cases h2 : a = i
      · subst h2
        rw [if_pos rfl, if_pos (by omega)]
        apply List.map_congr_left
        intro b hb
        have hb := List.mem_range.1 hb
        unfold stepF edgeL
        rw [List.take_length, decide_eq_true hb, Bool.and_true]
      · rw [if_neg h2, if_neg (by omega)]
        by_cases h3 : a = i + 1
        · rw [if_pos h3]
        · rw [if_neg h3]

theorem r8ways_ok (l : List (List Int)) (r) (h : r8ways l = some r) : ∃ k, r8waysN k l = some r := by
  unfold r8ways at h
  cases hs : smallL l <;> simp only [hs, cond_true, cond_false] at h
  · cases h
  injection h with h
  subst h
  simp only [smallL, Bool.and_eq_true, List.all_eq_true] at hs
  have hl : l.length ≤ 1000 := Nat.le_of_ble_eq_true hs.1
  have hr : ∀ r ∈ l, r.length ≤ 1000 := fun r hr => Nat.le_of_ble_eq_true (hs.2 r hr)
  refine ⟨2000, ?_⟩
  unfold r8waysN
  have hrm : decide ((l.length : Int) < (rowMax : Int)) = true := decide_eq_true (by simp only [rowMax]; omega)
  have hle : decide ((l.length : Int) ≤ (l.length : Int)) = true := decide_eq_true (Int.le_refl _)
  have hz : decide ((0 : Int) ≤ (l.length : Int)) = true := decide_eq_true (by omega)
  simp only [hrm, hle, hz, Bool.and_self, cond_true]
  have h0 : (List.replicate l.length ([] : List Bool)) = rowsF l l.length 0 [] := by
    apply List.ext_getElem (by simp [rowsF])
    intro a h1 h2
    simp [rowsF]
  rw [h0]
  refine loop_st (n := l.length) (st := fun i => ((i : Int), rowsF l l.length i [], ())) (fun i rec hi => ?_) (fun rec => ?_) 2000 (by omega)
  · rw [r8waysL5]
    simp only [dlt hi, dge, hrm, hle, hz, Bool.and_self, cond_true, rowsF_len, Int.toNat_natCast, rowsF_set]
    exact ways_first hl hr hi
  · rw [r8waysL5]
    simp only [dnlt, cond_false]
    have h1 : rowsF l l.length l.length [] = matF l.length (wayF l 0) := by
      unfold rowsF matF
      apply List.map_congr_left
      intro a ha
      rw [if_pos (List.mem_range.1 ha)]
      rfl
    rw [h1]
    exact ways_last hl

/-! ### what ways are -/
theorem way_trans (l : List (List Int)) : ∀ (k i j m : Nat), m < k → wayF l k i m = true → wayF l k m j = true → wayF l k i j = true
  | 0, _, _, _, h, _, _ => by omega
  | k + 1, i, j, m, hm, h1, h2 => by
    have ih := way_trans l k
    by_cases hmk : m = k
    · subst hmk
      rw [way_col] at h1
      rw [way_row] at h2
      simp only [wayF, Bool.or_eq_true, Bool.and_eq_true]
      exact .inr ⟨h1, h2⟩
    · have hm' : m < k := by omega
      simp only [wayF, Bool.or_eq_true, Bool.and_eq_true] at h1 h2 ⊢
      rcases h1 with h1 | ⟨h1, h1'⟩ <;> rcases h2 with h2 | ⟨h2, h2'⟩
      · exact .inl (ih i j m hm' h1 h2)
      · exact .inr ⟨ih i k m hm' h1 h2, h2'⟩
      · exact .inr ⟨h1, ih k j m hm' h1' h2⟩
      · exact .inr ⟨h1, h2'⟩

theorem way_edge (l : List (List Int)) : ∀ (k : Nat) {i j : Nat}, edgeL l i j = true → wayF l k i j = true
  | 0, _, _, h => h
  | k + 1, _, _, h => by simp only [wayF, Bool.or_eq_true]; exact .inl (way_edge l k h)

/-- What holds on each edge's other end holds at the end of a way. -/
theorem way_ends (l : List (List Int)) {T : Nat → Prop} (hT : ∀ i j, T i → edgeL l i j = true → T j) : ∀ (k : Nat) {i j : Nat}, wayF l k i j = true → T i → T j
  | 0, i, j, h, hi => hT i j hi h
  | k + 1, i, j, h, hi => by
    simp only [wayF, Bool.or_eq_true, Bool.and_eq_true] at h
    rcases h with h | ⟨h1, h2⟩
    · exact way_ends l hT k h hi
    · exact way_ends l hT k h2 (way_ends l hT k h1 hi)

end Go.Pli
