/- The laws on whether all is there, plain. -/
import Derived.Test.YtjgocfgkmcopgaaPliL5G
import Derived.KernelRfl
import Derived.Test.YtjgocfgkmcopgaaPliL11
namespace Go.Pli
open Go Go.PM

theorem awake6_eq : awake6N = some (true, ()) := by kernel_rfl

theorem saneChecks_law (m : Im) : saneChecksN m = some (true, ()) := by
  unfold saneChecksN
  rw [awake6_eq]
  unfold r5sane
  cases small6 m <;> simp

theorem scheck_zero (m : Im) : (scheck m == 0) = (ifits m && saneB m) := by
  unfold scheck
  cases ifits m <;> cases saneB m <;> rfl
theorem scheck_not (m : Im) : (scheck m != 0) = !(ifits m && saneB m) := by rw [bne_not, scheck_zero]

/-! ### an image that has grown -/
structure Grow (m n : Im) : Prop where
  cls : ∃ e, n.1 = m.1 ++ e
  statics : m.2.1.length ≤ n.2.1.length
  ints : m.2.2.1.length ≤ n.2.2.1.length
  mts : n.2.2.2.1 = m.2.2.2.1

theorem grow_len {m n : Im} (g : Grow m n) : m.1.length ≤ n.1.length := by
  obtain ⟨e, he⟩ := g.cls
  rw [he]; simp

theorem grow_clOf {m n : Im} (g : Grow m n) {c : Int} (h0 : 0 ≤ c) (h1 : c < (m.1.length : Int)) : clOf n c = clOf m c := by
  obtain ⟨e, he⟩ := g.cls
  have h : c.toNat < m.1.length := by omega
  unfold clOf
  rw [he, List.getD_eq_getElem?_getD, List.getD_eq_getElem?_getD, List.getElem?_append_left h]
theorem grow_sup {m n : Im} (g : Grow m n) {c : Int} (h0 : 0 ≤ c) (h1 : c < (m.1.length : Int)) : supC n.1 c = supC m.1 c := by
  have := grow_clOf g h0 h1
  exact congrArg (·.1) this
theorem grow_kup {m n : Im} (g : Grow m n) {c : Int} (h0 : 0 ≤ c) (h1 : c < (m.1.length : Int)) : kup n.1 c = kup m.1 c := by
  have hl := grow_len g
  unfold kup
  rw [grow_sup g h0 h1]
  have a : ¬ c ≥ (m.1.length : Int) := by omega
  have b : ¬ c ≥ (n.1.length : Int) := by omega
  simp [a, b]
theorem grow_chain {m n : Im} (g : Grow m n) : ∀ (k : Nat) (c : Int), c.toNat < k → c < (m.1.length : Int) → chain n.1 c = chain m.1 c
  | 0, _, h, _ => by omega
  | k + 1, c, h, h1 => by
    by_cases hc : c < 0
    · rw [chain_neg hc, chain_neg hc]
    · have h0 : 0 ≤ c := by omega
      have := kup_lt (l := m.1) h0
      rw [chain_step h0, chain_step h0, grow_kup g h0 h1]
      by_cases hk : kup m.1 c < 0
      · rw [chain_neg hk, chain_neg hk]
      · rw [grow_chain g k (kup m.1 c) (by omega) (by omega)]
theorem grow_fields {m n : Im} (g : Grow m n) {c : Int} (h1 : c < (m.1.length : Int)) : fieldsC n c = fieldsC m c := by
  unfold fieldsC
  rw [grow_chain g (c.toNat + 1) c (by omega) h1]
  congr 1
  refine List.map_congr_left fun s hs => ?_
  have := chain_mem (c.toNat + 1) c (by omega) hs
  rw [grow_clOf g this.1 (by omega)]
theorem grow_good {m n : Im} (g : Grow m n) {t : Tp} (h : kgood t (m.1.length : Int) = true) : kgood t (n.1.length : Int) = true := by
  have hl := grow_len g
  unfold kgood at h ⊢
  cases h12 : t.1 == 1 || t.1 == 2 <;> rw [h12] at h
  · simp only [cond_false, Bool.and_eq_true, decide_eq_true_eq] at h ⊢
    exact ⟨h.1, h.2.1, by omega⟩
  · exact h
theorem grow_goods {m n : Im} (g : Grow m n) {l : List Tp} (h : goods m l = true) : goods n l = true := by
  simp only [goods, List.all_eq_true] at h ⊢
  exact fun t ht => grow_good g (h t ht)
theorem grow_sub {m n : Im} (g : Grow m n) {c : Int} (h1 : c < (m.1.length : Int)) (b : Tp) : ksub n.1 (3, c, ()) b = ksub m.1 (3, c, ()) b := by
  rw [← rsub_ksub, ← rsub_ksub]
  unfold rsubB raboveB
  have hl := grow_len g
  have a : c < (n.1.length : Int) := by omega
  have h4 : ((3 : Int) == 4) = false := rfl
  have h3 : ((3 : Int) == 3) = true := rfl
  simp only [h4, h3, h1, a, decide_true, cond_true, cond_false, grow_chain g (c.toNat + 1) c (by omega) h1]
theorem grow_class {m n : Im} (g : Grow m n) {c : Int} (h0 : 0 ≤ c) (h1 : c < (m.1.length : Int)) (h : classB m c = true) : classB n c = true := by
  have hs := sup_lt h
  have hup : upSlots n c = upSlots m c := by
    unfold upSlots
    rw [grow_sup g h0 h1]
    by_cases hk : 0 ≤ supC m.1 c
    · rw [grow_clOf g hk (by omega)]
    · simp [hk]
  unfold classB at h ⊢
  rw [grow_sup g h0 h1, grow_clOf g h0 h1, grow_fields g h1, hup]
  simp only [Bool.and_eq_true] at h ⊢
  obtain ⟨a1, a2, a3, a4, a5⟩ := h
  refine ⟨a1, grow_goods g a2, a3, a4, ?_⟩
  rw [allN_true] at a5 ⊢
  intro j f hj
  have := a5 j f hj
  have hmt : ∀ f, mtOf n f = mtOf m f := fun f => by unfold mtOf; rw [g.mts]
  unfold slotB fitsB at this ⊢
  rw [g.mts, hup, hmt, hmt, grow_sub g h1]
  exact this
theorem grow_instr {m n : Im} (g : Grow m n) {x : Mt} {i : Ins} (h : instrB m x i = true) : instrB n x i = true := by
  have hl := grow_len g
  have hs := g.statics
  have hi := g.ints
  unfold instrB at h ⊢
  rw [g.mts]
  cases c1 : i.1 == 1 <;> rw [c1] at h
  · simp only [cond_false] at h ⊢
    cases c3 : i.1 == 3 || i.1 == 4 <;> rw [c3] at h
    · simp only [cond_false] at h ⊢
      cases c18 : i.1 == 18 || i.1 == 19 <;> rw [c18] at h
      · simp only [cond_false] at h ⊢
        cases c22 : i.1 == 22 || i.1 == 34 <;> rw [c22] at h
        · simp only [cond_false] at h ⊢
          cases c27 : i.1 == 27 || i.1 == 28 <;> rw [c27] at h
          · simp only [cond_false] at h ⊢
            cases c29 : i.1 == 29 || i.1 == 30 <;> rw [c29] at h
            · simp only [cond_false] at h ⊢
              cases c31 : i.1 == 31 <;> rw [c31] at h
              · simp only [cond_false] at h ⊢
                cases c32 : i.1 == 32 <;> rw [c32] at h
                · rfl
                · simp only [cond_true, sin, Bool.and_eq_true, decide_eq_true_eq] at h ⊢
                  obtain ⟨⟨a1, a2⟩, a3, a4⟩ := h
                  rw [grow_clOf g a1 a2]
                  exact ⟨⟨a1, by omega⟩, a3, a4⟩
              · exact h
            · simp only [cond_true, sin, Bool.and_eq_true, decide_eq_true_eq] at h ⊢
              exact ⟨h.1, by omega⟩
          · simp only [cond_true, sin, Bool.and_eq_true, decide_eq_true_eq] at h ⊢
            obtain ⟨⟨a1, a2⟩, a3, a4⟩ := h
            rw [grow_fields g a2]
            exact ⟨⟨a1, by omega⟩, a3, a4⟩
        · simp only [cond_true, sin, Bool.and_eq_true, decide_eq_true_eq] at h ⊢
          exact ⟨h.1, by omega⟩
      · exact h
    · exact h
  · simp only [cond_true, sin, Bool.and_eq_true, decide_eq_true_eq] at h ⊢
    exact ⟨h.1, by omega⟩
theorem grow_method {m n : Im} (g : Grow m n) {x : Mt} (h : methodB m x = true) : methodB n x = true := by
  unfold methodB at h ⊢
  simp only [Bool.and_eq_true, Bool.or_eq_true] at h ⊢
  obtain ⟨a1, a2, a3, a4, a5, a6, a7⟩ := h
  refine ⟨grow_goods g a1, grow_goods g a2, a3.elim .inl fun h => .inr (grow_good g h), a4, a5, a6, ?_⟩
  rw [List.all_eq_true] at a7 ⊢
  exact fun i hi => grow_instr g (a7 i hi)
theorem grow_entry {m n : Im} (g : Grow m n) (f : Int) : entryB n f = entryB m f := by
  unfold entryB mtOf
  rw [g.mts]

/-- What grows in a sane way is sane. -/
theorem grow_sane {m n : Im} (g : Grow m n) (h : saneB m = true) (hst : goods n n.2.1 = true) (hnew : ∀ c : Int, (m.1.length : Int) ≤ c → c < (n.1.length : Int) → classB n c = true) (hent : n.2.2.2.2.1 = m.2.2.2.2.1) : saneB n = true := by
  unfold saneB at h ⊢
  simp only [Bool.and_eq_true] at h ⊢
  obtain ⟨a1, a2, a3, a4⟩ := h
  refine ⟨hst, ?_, ?_, ?_⟩
  · unfold allC
    rw [range_all]
    intro k hk
    by_cases hlt : k < m.1.length
    · exact grow_class g (by omega) (by omega) (allC_of a2 (by omega) (by omega))
    · exact hnew (k : Int) (by omega) (by omega)
  · rw [g.mts]
    rw [List.all_eq_true] at a3 ⊢
    exact fun x hx => grow_method g (a3 x hx)
  · rw [hent]
    rw [List.all_eq_true] at a4 ⊢
    exact fun f hf => by rw [grow_entry g]; exact a4 f hf

theorem saneParts_law (m : Im) (v : Int) : sanePartsN m v = some (true, ()) := by
  unfold sanePartsN
  rw [awake6_eq]
  cases small6 m
  · rfl
  simp only [Bool.not_true, cond_false]
  rw [scheck_not]
  cases hs : ifits m && saneB m
  · rfl
  simp only [Bool.not_true, cond_false]
  simp only [Bool.and_eq_true] at hs
  obtain ⟨hi, hsane⟩ := hs
  have hf := fit_of hi
  have h8 := hf.classes
  have h16 := hf.ints
  obtain ⟨hst, hst2⟩ := types_of hf.statics
  have hsp := hsane
  simp only [saneB, Bool.and_eq_true] at hsp
  obtain ⟨s1, s2, s3, s4⟩ := hsp
  have hip := hi
  simp only [ifits, Bool.and_eq_true, decide_eq_true_eq] at hip
  obtain ⟨i1, i2, i3, i4, i5, i6, i7, i8, i9⟩ := hip
  -- no entries
  have hA : (scheck (m.1, m.2.1, m.2.2.1, m.2.2.2.1, (([] : List Int), m.2.2.2.2.2)) != 0) = false := by
    rw [scheck_not]
    have e1 : ifits (m.1, m.2.1, m.2.2.1, m.2.2.2.1, (([] : List Int), m.2.2.2.2.2)) = true := by
      simp only [ifits, Bool.and_eq_true, decide_eq_true_eq]
      exact ⟨i1, i2, i3, i4, i5, i6, rfl, i8, i9⟩
    have e2 : saneB (m.1, m.2.1, m.2.2.1, m.2.2.2.1, (([] : List Int), m.2.2.2.2.2)) = true := by
      simp only [saneB, Bool.and_eq_true]
      exact ⟨s1, s2, s3, rfl⟩
    rw [e1, e2]; rfl
  rw [hA]
  simp only [cond_false]
  -- a number more
  have hB : (scheck (m.1, m.2.1, ((([] : List Int) ++ m.2.2.1) ++ [v], m.2.2.2)) == 0) = decide ((m.2.2.1.length : Int) < 16) := by
    rw [scheck_zero, List.nil_append]
    have g : Grow m (m.1, m.2.1, (m.2.2.1 ++ [v], m.2.2.2)) := ⟨⟨[], (List.append_nil _).symm⟩, Nat.le_refl _, by simp, rfl⟩
    rw [grow_sane g hsane s1 (fun c h1 h2 => by have : c < (m.1.length : Int) := h2; omega) rfl, Bool.and_true]
    by_cases hc : (m.2.2.1.length : Int) < 16
    · rw [decide_eq_true hc]
      simp only [ifits, Bool.and_eq_true, decide_eq_true_eq]
      refine ⟨i1, i2, ?_, i4, i5, i6, i7, i8, i9⟩
      simp only [List.length_append, List.length_cons, List.length_nil]; omega
    · rw [decide_eq_false hc]
      have : decide (((m.2.2.1 ++ [v]).length : Int) ≤ 16) = false := decide_eq_false (by simp only [List.length_append, List.length_cons, List.length_nil]; omega)
      unfold ifits
      simp only [this, Bool.false_and, Bool.and_false]
  -- a static more
  have hC : (scheck (m.1, ((([] : List Tp) ++ m.2.1) ++ [((2 : Int), ((0 : Int), ()))], m.2.2)) == 0) = decide ((m.2.1.length : Int) < 8) := by
    rw [scheck_zero, List.nil_append]
    have g : Grow m (m.1, (m.2.1 ++ [((2 : Int), ((0 : Int), ()))], m.2.2)) := ⟨⟨[], (List.append_nil _).symm⟩, by simp, Nat.le_refl _, rfl⟩
    have hgs : goods (m.1, (m.2.1 ++ [((2 : Int), ((0 : Int), ()))], m.2.2)) (m.2.1 ++ [((2 : Int), ((0 : Int), ()))]) = true := by
      have h1 := grow_goods g s1
      unfold goods at h1 ⊢
      rw [List.all_append, h1]
      rfl
    rw [grow_sane g hsane hgs (fun c h1 h2 => by have : c < (m.1.length : Int) := h2; omega) rfl, Bool.and_true]
    by_cases hc : (m.2.1.length : Int) < 8
    · rw [decide_eq_true hc]
      simp only [ifits, Bool.and_eq_true, decide_eq_true_eq]
      refine ⟨i1, ?_, i3, i4, i5, i6, i7, i8, i9⟩
      simp only [itypes, Bool.and_eq_true, decide_eq_true_eq, List.all_append, List.length_append, List.length_cons, List.length_nil]
      refine ⟨by omega, ?_, rfl⟩
      simpa using hst2
    · rw [decide_eq_false hc]
      have : itypes (m.2.1 ++ [((2 : Int), ((0 : Int), ()))]) 8 = false := by
        unfold itypes
        rw [decide_eq_false (by simp only [List.length_append, List.length_cons, List.length_nil]; omega)]; rfl
      unfold ifits
      simp only [this, Bool.false_and, Bool.and_false]
  -- a class more
  have hD : (scheck ((([] : List Cl) ++ m.1) ++ [((-1 : Int), (([] : List Tp), (([] : List Int), ())))], m.2) == 0) = decide ((m.1.length : Int) < 8) := by
    rw [scheck_zero, List.nil_append]
    have g : Grow m (m.1 ++ [((-1 : Int), (([] : List Tp), (([] : List Int), ())))], m.2) := ⟨⟨_, rfl⟩, Nat.le_refl _, Nat.le_refl _, rfl⟩
    have hnew : ∀ c : Int, (m.1.length : Int) ≤ c → c < ((m.1 ++ [((-1 : Int), (([] : List Tp), (([] : List Int), ())))] : List Cl).length : Int) → classB (m.1 ++ [((-1 : Int), (([] : List Tp), (([] : List Int), ())))], m.2) c = true := by
      intro c h1 h2
      simp only [List.length_append, List.length_cons, List.length_nil] at h2
      have hc : c.toNat = m.1.length := by omega
      have hcl : clOf (m.1 ++ [((-1 : Int), (([] : List Tp), (([] : List Int), ())))], m.2) c = ((-1 : Int), (([] : List Tp), (([] : List Int), ()))) := by
        unfold clOf
        rw [hc]
        simp
      have hsup : supC (m.1 ++ [((-1 : Int), (([] : List Tp), (([] : List Int), ())))]) c = -1 := congrArg (·.1) hcl
      have hups : upSlots (m.1 ++ [((-1 : Int), (([] : List Tp), (([] : List Int), ())))], m.2) c = [] := by
        unfold upSlots
        simp only [hsup]
        rfl
      have hfs : fieldsC (m.1 ++ [((-1 : Int), (([] : List Tp), (([] : List Int), ())))], m.2) c = 0 := by
        rw [fieldsC_eq (by omega) (by simp only [List.length_append, List.length_cons, List.length_nil]; omega) (by simp only [hsup]; omega)]
        unfold upFields
        simp only [hsup, hcl]
        rw [chain_neg (by omega)]
        rfl
      unfold classB
      rw [hcl, hfs, hups]
      simp only [hsup]
      have : decide ((-1 : Int) < c) = true := decide_eq_true (by omega)
      rw [this]
      rfl
    rw [grow_sane g hsane (grow_goods g s1) hnew rfl, Bool.and_true]
    by_cases hc : (m.1.length : Int) < 8
    · rw [decide_eq_true hc]
      simp only [ifits, Bool.and_eq_true, decide_eq_true_eq]
      refine ⟨?_, i2, i3, i4, ?_, i6, i7, i8, i9⟩
      · simp only [List.length_append, List.length_cons, List.length_nil]; omega
      · rw [List.all_append, i5]; rfl
    · rw [decide_eq_false hc]
      have : decide (((m.1 ++ [((-1 : Int), (([] : List Tp), (([] : List Int), ())))] : List Cl).length : Int) ≤ 8) = false := decide_eq_false (by simp only [List.length_append, List.length_cons, List.length_nil]; omega)
      unfold ifits
      simp only [this, Bool.false_and]
  rw [hB, hC, hD]
  have r1 : ∀ {α : Type} (l : List α), l.length ≤ 16 → decide (([] : List α).length + l.length < rowMax) = true := fun l h => decide_eq_true (by simp [rowMax]; omega)
  have r2 : ∀ {α : Type} (l : List α) (x : α), l.length ≤ 16 → decide ((([] : List α) ++ l).length + [x].length < rowMax) = true := fun l x h => decide_eq_true (by simp [rowMax]; omega)
  rw [r1 _ h16, r2 _ _ h16, r1 _ (by omega : m.2.1.length ≤ 16), r2 _ _ (by omega : m.2.1.length ≤ 16), r1 _ (by omega : m.1.length ≤ 16), r2 _ _ (by omega : m.1.length ≤ 16)]
  simp

end Go.Pli

namespace Go.Pli
open Go Go.PM

theorem sane11_eq (m : Im) : sane11N m = some (sane11 m, ()) := by
  unfold sane11N sane11
  cases decide ((m.2.2.2.1.length : Int) ≤ 12) <;> cases decide ((m.1.length : Int) ≤ 8) <;> cases decide ((m.2.2.1.length : Int) ≤ 16) <;> rfl

theorem awake11_eq : awake11N = some (true, ()) := by kernel_rfl

theorem sane11_of {m : Im} (h : sane11 m = true) : ifits m = true ∧ saneB m = true := by
  simp only [sane11, Bool.and_eq_true] at h
  have := h.2.2.2
  rw [show r5sane m = scheck m from rfl, scheck_zero, Bool.and_eq_true] at this
  exact this

theorem mem_slotsOf {m : Im} {l : List Int} {n g : Int} (h : g ∈ slotsOf m l n) : ∃ c ∈ l, hasSlot m c n = true ∧ g = (clOf m c).2.2.1.getD n.toNat 0 := by
  simp only [slotsOf, List.mem_map, List.mem_filter] at h
  obtain ⟨c, ⟨h1, h2⟩, rfl⟩ := h
  unfold cslot at h2 ⊢
  cases hs : hasSlot m c n <;> simp only [hs, cond_true, cond_false] at h2 ⊢
  · cases h2
  · exact ⟨c, h1, hs, rfl⟩

theorem tgtOk_of {m : Im} (h : saneB m = true) : tgtOk m = true := by
  simp only [saneB, Bool.and_eq_true] at h
  obtain ⟨-, hc, hm, -⟩ := h
  simp only [tgtOk, List.all_eq_true]
  intro f hf g hg
  obtain ⟨h0, h1⟩ := mem_ints.1 hf
  have hmth := List.all_eq_true.1 hm _ (mtOf_mem h0 h1)
  simp only [methodB, Bool.and_eq_true] at hmth
  have hins := hmth.2.2.2.2.2.2
  simp only [allT, List.mem_flatten, List.mem_map] at hg
  obtain ⟨l, ⟨i, hi, rfl⟩, hg⟩ := hg
  have hiB := List.all_eq_true.1 hins i hi
  unfold targetsB at hg
  cases h31 : i.1 == 31 <;> simp only [h31, cond_true, cond_false] at hg
  · cases h32 : i.1 == 32 <;> simp only [h32, cond_true, cond_false] at hg
    · cases hg
    · obtain ⟨c, hcl, hs, rfl⟩ := mem_slotsOf hg
      simp only [hasSlot, Bool.and_eq_true, decide_eq_true_eq] at hs
      obtain ⟨⟨c0, c1⟩, n0, n1⟩ := hs
      have hk : i.2.2.1.toNat < (clOf m c).2.2.1.length := by omega
      have hget : (clOf m c).2.2.1[i.2.2.1.toNat]? = some ((clOf m c).2.2.1.getD i.2.2.1.toNat 0) := by
        rw [List.getD_eq_getElem?_getD, List.getElem?_eq_getElem hk]; rfl
      have := (slots_of (allC_of hc c0 c1) hget).1
      exact inM_iff.2 this
  · rw [List.mem_singleton] at hg
    subst hg
    have e : i.1 = 31 := by simpa using h31
    unfold instrB at hiB
    rw [e] at hiB
    have : sin i.2.1 (m.2.2.2.1.length : Int) = true := hiB
    exact this

theorem edges_len (m : Im) : (edgesB m).length = m.2.2.2.1.length := by
  unfold edgesB; rw [List.length_map, ints_len]

theorem callsOf_law (m : Im) (f : Int) : ∃ k, callsOfN k m f = some (true, ()) := by
  refine ⟨1000, ?_⟩
  unfold callsOfN
  rw [awake11_eq]
  cases hs : sane11 m
  · rfl
  obtain ⟨hi, hsB⟩ := sane11_of hs
  have ht := tgtOk_of hsB
  have h12 := (fit_of hi).methods
  have hcof : ∀ x, cof m x = some (ofB m x, ()) := fun x => by unfold cof; rw [hi]; rfl
  have hre : ∀ x, creach m x = some (reachB m x, ()) := fun x => by unfold creach; rw [hi, ht]; rfl
  have hed : r8edges m = some (edgesB m, ()) := by unfold r8edges; rw [hi]; rfl
  have hfin : ∀ rec, callsOfL1 m f (edgesB m, ()) (((edgesB m).length : Int), ()) rec = some (true, ()) := fun rec => by
    rw [callsOfL1]
    simp only [dnlt, cond_false, awake11_eq, hcof, hre, Option.bind_some]
    by_cases h0 : f < 0
    · have : inM m f = false := by cases hh : inM m f; rfl; have := inM_iff.1 hh; omega
      have e1 : ofB m f = [] := by unfold ofB; rw [this]; rfl
      have e2 : reachB m f = [] := by unfold reachB; rw [this]; rfl
      rw [decide_eq_true h0, e1, e2]; rfl
    · rw [decide_eq_false h0]
      by_cases h1 : f ≥ ((edgesB m).length : Int)
      · have : inM m f = false := by cases hh : inM m f; rfl; have := inM_iff.1 hh; rw [edges_len] at h1; omega
        have e1 : ofB m f = [] := by unfold ofB; rw [this]; rfl
        have e2 : reachB m f = [] := by unfold reachB; rw [this]; rfl
        rw [decide_eq_true h1, e1, e2]; rfl
      · rw [decide_eq_false h1]; rfl
  simp only [Bool.not_true, cond_false, hed, Option.bind_some]
  have key : ∀ (j k F : Nat), k + j = (edgesB m).length → j < F → loopF (callsOfL1 m f (edgesB m, ())) F ((k : Int), ()) = some (true, ()) := by
    intro j
    induction j with
    | zero =>
      intro k F hk hF
      obtain ⟨F, rfl⟩ : ∃ n, F = n + 1 := ⟨F - 1, by omega⟩
      have : k = (edgesB m).length := by omega
      subst this
      rw [loopF_step, hfin]
    | succ j ih =>
      intro k F hk hF
      obtain ⟨F, rfl⟩ : ∃ n, F = n + 1 := ⟨F - 1, by omega⟩
      have hk' : k < (edgesB m).length := by omega
      have hkm : k < m.2.2.2.1.length := by rw [edges_len] at hk'; exact hk'
      have hin : inM m (k : Int) = true := inM_iff.2 ⟨by omega, by omega⟩
      have hg : (edgesB m).getD k [] = ofB m (k : Int) := by
        rw [ofB_eq ht hin]
        unfold edgesB
        rw [List.getD_eq_getElem?_getD, List.getElem?_map]
        have : (ints m.2.2.2.1.length)[k]? = some (k : Int) := by simp [ints, hkm]
        rw [this]; rfl
      rw [loopF_step, callsOfL1]
      simp only [dlt hk', dge, Bool.and_self, cond_true, Int.toNat_natCast, hcof, Option.bind_some, hg]
      have : rints (ofB m (k : Int)) (ofB m (k : Int)) = true := by unfold rints; exact beq_self_eq_true _
      rw [this]
      simp only [Bool.not_true, cond_false]
      rw [wsucc hk' (by rw [edges_len]; simp only [lenMax]; omega)]
      exact ih (k + 1) F (by omega) (by omega)
  exact key (edgesB m).length 0 1000 (by omega) (by rw [edges_len]; omega)

/-- A loop that finds nothing amiss. -/
theorem loop_pass {σ R : Type} {L : σ → (σ → Option R) → Option R} {n : Nat} {st : Nat → σ} {r : Option R}
    (h1 : ∀ k rec, k < n → L (st k) rec = rec (st (k + 1))) (h2 : ∀ rec, L (st n) rec = r) : ∀ F, n < F → loopF L F (st 0) = r := by
  have key : ∀ (j k F : Nat), k + j = n → j < F → loopF L F (st k) = r := by
    intro j
    induction j with
    | zero =>
      intro k F hk hF
      obtain ⟨F, rfl⟩ : ∃ n, F = n + 1 := ⟨F - 1, by omega⟩
      have : k = n := by omega
      subst this
      rw [loopF_step, h2]
    | succ j ih =>
      intro k F hk hF
      obtain ⟨F, rfl⟩ : ∃ n, F = n + 1 := ⟨F - 1, by omega⟩
      rw [loopF_step, h1 k _ (by omega)]
      exact ih (k + 1) F (by omega) (by omega)
  exact fun F hF => key n 0 F (by omega) hF

theorem rin_of {l : List Int} {x : Int} (hl : l.length < 1000) (h : x ∈ l) : rin l x = some (true, ()) := by
  unfold rin
  have h1 : decide (l.length < 9223372036854775807) = true := decide_eq_true (by omega)
  have h2 : l.contains x = true := by simpa using h
  rw [h1, h2]; rfl

theorem callsClosed_law (m : Im) : ∃ k, callsClosedN k m = some (true, ()) := by
  refine ⟨1000, ?_⟩
  unfold callsClosedN
  rw [awake11_eq]
  cases hs : sane11 m
  · rfl
  obtain ⟨hi, hsB⟩ := sane11_of hs
  have ht := tgtOk_of hsB
  have h12 := (fit_of hi).methods
  have hre : ∀ x, creach m x = some (reachB m x, ()) := fun x => by unfold creach; rw [hi, ht]; rfl
  simp only [Bool.not_true, cond_false]
  refine loop_pass (n := m.2.2.2.1.length) (st := fun k => ((k : Int), ())) (fun k rec hk => ?_) (fun rec => ?_) 1000 (by omega)
  · have hin : inM m (k : Int) = true := inM_iff.2 ⟨by omega, by omega⟩
    have hlen := (reach_canon hin).len
    rw [callsClosedL3]
    simp only [dlt hk, cond_true, hre, Option.bind_some, rin_of (l := reachB m (k : Int)) (by omega) (reach_self hin), Bool.not_true, cond_false]
    refine loop_pass (n := (reachB m (k : Int)).length) (st := fun k => ((k : Int), ())) (fun a rec2 ha => ?_) (fun rec2 => ?_) 1000 (by omega)
    · have hga : (reachB m (k : Int)).getD a 0 ∈ reachB m (k : Int) := by
        rw [List.getD_eq_getElem?_getD, List.getElem?_eq_getElem ha]; exact List.getElem_mem ha
      generalize hx : (reachB m (k : Int)).getD a 0 = x at hga
      have hxin := (reach_canon hin).inM hga
      have hlen2 := (reach_canon hxin).len
      rw [callsClosedL2]
      simp only [dlt ha, dge, Bool.and_self, cond_true, Int.toNat_natCast, hx, hre, Option.bind_some]
      refine loop_pass (n := (reachB m x).length) (st := fun k => ((k : Int), ())) (fun b rec3 hb => ?_) (fun rec3 => ?_) 1000 (by omega)
      · have hgb : (reachB m x).getD b 0 ∈ reachB m x := by
          rw [List.getD_eq_getElem?_getD, List.getElem?_eq_getElem hb]; exact List.getElem_mem hb
        rw [callsClosedL1]
        simp only [dlt hb, dge, Bool.and_self, cond_true, Int.toNat_natCast, rin_of (l := reachB m (k : Int)) (by omega) (reach_sub hin hga _ hgb), Option.bind_some, Bool.not_true, cond_false]
        rw [wsucc hb (by simp only [lenMax]; omega)]
      · rw [callsClosedL1]
        simp only [dnlt, cond_false]
        rw [wsucc ha (by simp only [lenMax]; omega)]
    · rw [callsClosedL2]
      simp only [dnlt, cond_false]
      rw [wsucc hk (by simp only [lenMax]; omega)]
  · rw [callsClosedL3]
    simp only [dnlt, cond_false, awake11_eq, Option.bind_some]

end Go.Pli

namespace Go.Pli
open Go Go.PM

theorem edges_small {m : Im} (hi : ifits m = true) : smallL (edgesB m) = true := by
  have h12 := (fit_of hi).methods
  simp only [smallL, Bool.and_eq_true, List.all_eq_true]
  refine ⟨Nat.ble_eq_true_of_le (by rw [edges_len]; omega), fun r hr => Nat.ble_eq_true_of_le ?_⟩
  simp only [edgesB, List.mem_map] at hr
  obtain ⟨f, -, rfl⟩ := hr
  have := List.length_filter_le (fun g => callsB m f g) (ints m.2.2.2.1.length)
  rw [ints_len] at this
  omega

theorem edge_calls {m : Im} {i j : Nat} (hi : i < m.2.2.2.1.length) : edgeL (edgesB m) i j = (decide (j < m.2.2.2.1.length) && callsB m (i : Int) (j : Int)) := by
  have hg : (edgesB m).getD i [] = (ints m.2.2.2.1.length).filter fun g => callsB m (i : Int) g := by
    unfold edgesB
    rw [List.getD_eq_getElem?_getD, List.getElem?_map]
    have : (ints m.2.2.2.1.length)[i]? = some (i : Int) := by simp [ints, hi]
    rw [this]; rfl
  unfold edgeL
  rw [hg]
  have : ((ints m.2.2.2.1.length).filter fun g => callsB m (i : Int) g).contains (j : Int) = true ↔ (decide (j < m.2.2.2.1.length) && callsB m (i : Int) (j : Int)) = true := by
    rw [List.contains_iff_mem, List.mem_filter, mem_ints, Bool.and_eq_true, decide_eq_true_eq]
    constructor
    · rintro ⟨⟨_, h1⟩, h2⟩; exact ⟨by omega, h2⟩
    · rintro ⟨h1, h2⟩; exact ⟨⟨by omega, by omega⟩, h2⟩
  cases h1 : ((ints m.2.2.2.1.length).filter fun g => callsB m (i : Int) g).contains (j : Int) <;> cases h2 : (decide (j < m.2.2.2.1.length) && callsB m (i : Int) (j : Int)) <;> simp_all

/-- Ways, and what is come to. -/
theorem way_reach {m : Im} {f g : Nat} (hf : f < m.2.2.2.1.length) (hg : g < m.2.2.2.1.length) : (decide (g = f) || wayF (edgesB m) m.2.2.2.1.length f g) = true ↔ (g : Int) ∈ reachB m (f : Int) := by
  have hfin : inM m (f : Int) = true := inM_iff.2 ⟨by omega, by omega⟩
  rw [Bool.or_eq_true, decide_eq_true_eq]
  constructor
  · rintro (rfl | h)
    · exact reach_self hfin
    · have := way_ends (edgesB m) (T := fun i => i < m.2.2.2.1.length → (i : Int) ∈ reachB m (f : Int) ∧ i < m.2.2.2.1.length) (fun i j hi he hj => by
        by_cases hil : i < m.2.2.2.1.length
        · rw [edge_calls hil, Bool.and_eq_true] at he
          exact ⟨reach_shut hfin (i : Int) (j : Int) (hi hil).1 (inM_iff.2 ⟨by omega, by omega⟩) he.2, hj⟩
        · unfold edgeL at he
          rw [List.getD_eq_getElem?_getD, List.getElem?_eq_none (by rw [edges_len]; omega)] at he
          simp at he) m.2.2.2.1.length h (fun hh => ⟨reach_self hfin, hh⟩)
      exact (this hg).1
  · intro h
    have key := reach_least hfin (T := fun x => ∃ k : Nat, x = (k : Int) ∧ k < m.2.2.2.1.length ∧ (k = f ∨ wayF (edgesB m) m.2.2.2.1.length f k = true)) (fun x y hx hy hc => by
      obtain ⟨k, rfl, hk, hw⟩ := hx
      obtain ⟨y0, y1⟩ := inM_iff.1 hy
      have hyl : y.toNat < m.2.2.2.1.length := by omega
      have hyy : y = ((y.toNat : Nat) : Int) := by omega
      have hedge : edgeL (edgesB m) k y.toNat = true := by
        rw [edge_calls hk, Bool.and_eq_true, decide_eq_true_eq]
        exact ⟨hyl, by rw [← hyy]; exact hc⟩
      refine ⟨y.toNat, hyy, hyl, .inr ?_⟩
      have he := way_edge (edgesB m) m.2.2.2.1.length hedge
      rcases hw with rfl | hw
      · exact he
      · exact way_trans (edgesB m) _ f y.toNat k hk hw he) ⟨f, rfl, hf, .inl rfl⟩ (g : Int) h
    obtain ⟨k, hk, -, hw⟩ := key
    have : k = g := by omega
    subst this
    exact hw

theorem callsReach_law (m : Im) : ∃ k, callsReachN k m = some (true, ()) := by
  refine ⟨2000, ?_⟩
  unfold callsReachN
  rw [awake11_eq]
  cases hs : sane11 m
  · rfl
  obtain ⟨hi, hsB⟩ := sane11_of hs
  have ht := tgtOk_of hsB
  have h12 := (fit_of hi).methods
  have hre : ∀ x, creach m x = some (reachB m x, ()) := fun x => by unfold creach; rw [hi, ht]; rfl
  have hed : r8edges m = some (edgesB m, ()) := by unfold r8edges; rw [hi]; rfl
  have hway : r8ways (edgesB m) = some (matF m.2.2.2.1.length (wayF (edgesB m) m.2.2.2.1.length), ()) := by
    unfold r8ways; rw [edges_small hi, edges_len]; rfl
  simp only [Bool.not_true, cond_false, hed, hway, Option.bind_some]
  refine loop_st (n := m.2.2.2.1.length) (st := fun f => ((f : Int), ())) (fun f rec hf => ?_) (fun rec => ?_) 2000 (by omega)
  · have hfin : inM m (f : Int) = true := inM_iff.2 ⟨by omega, by omega⟩
    rw [callsReachL2]
    simp only [matF_len, dlt hf, cond_true]
    have := loop_coll (L := callsReachL1 m (matF m.2.2.2.1.length (wayF (edgesB m) m.2.2.2.1.length), ()) ((f : Int), ()) rec) (n := m.2.2.2.1.length) (B := 1) (st := fun g out => (out, (g : Int), ()))
      (f := fun g => bif (decide (g = f) || wayF (edgesB m) m.2.2.2.1.length f g) then [(g : Int)] else [])
      (fin := fun out => bif !(rints (reachB m (f : Int)) out) then some (false, ()) else rec (((f + 1 : Nat) : Int), ()))
      (fun g _ => by cases (decide (g = f) || wayF (edgesB m) m.2.2.2.1.length f g) <;> simp)
      (fun g out rec2 hg ho => by
        have hgf : ((g : Int) == (f : Int)) = decide (g = f) := by
          by_cases h : g = f
          · subst h; simp
          · have : ¬ ((g : Int) = (f : Int)) := by omega
            simp [h, this]
        rw [callsReachL1]
        simp only [matF_len, matF_row hf, wrow_len, wrow_get hg, dlt hg, dlt hf, dge, Bool.and_self, cond_true, Int.toNat_natCast, hgf, List.length_cons, List.length_nil, room_ok (show out.length + (0 + 1) < 549755813888 by omega), wsucc hg (show _ ≤ lenMax by simp only [lenMax]; omega)]
        cases decide (g = f) <;> cases wayF (edgesB m) m.2.2.2.1.length f g <;> simp)
      (fun out rec2 _ => by
        rw [callsReachL1]
        simp only [matF_len, dnlt, cond_false, hre, Option.bind_some, wsucc hf (show _ ≤ lenMax by simp only [lenMax]; omega)]) 2000 (by omega)
    refine this.trans ?_
    have hrow : (((List.range m.2.2.2.1.length).map fun g : Nat => bif (decide (g = f) || wayF (edgesB m) m.2.2.2.1.length f g) then [(g : Int)] else []).flatten) = reachB m (f : Int) := by
      have h1 := ints_filter (fun x => decide (x.toNat = f) || wayF (edgesB m) m.2.2.2.1.length f x.toNat) m.2.2.2.1.length
      simp only [Int.toNat_natCast] at h1
      rw [h1]
      refine strict_ext ((strict_ints _).filter _) (reach_canon hfin).strict fun x => ?_
      rw [List.mem_filter, mem_ints]
      constructor
      · rintro ⟨⟨x0, x1⟩, hx⟩
        have := (way_reach hf (show x.toNat < m.2.2.2.1.length by omega)).1 hx
        rwa [show ((x.toNat : Nat) : Int) = x by omega] at this
      · intro hx
        obtain ⟨x0, x1⟩ := inM_iff.1 ((reach_canon hfin).inM hx)
        refine ⟨⟨x0, x1⟩, (way_reach hf (show x.toNat < m.2.2.2.1.length by omega)).2 ?_⟩
        rwa [show ((x.toNat : Nat) : Int) = x by omega]
    rw [hrow]
    have : rints (reachB m (f : Int)) (reachB m (f : Int)) = true := by unfold rints; exact beq_self_eq_true _
    rw [this]; rfl
  · rw [callsReachL2]
    simp only [matF_len, dnlt, cond_false, awake11_eq, Option.bind_some]

end Go.Pli
