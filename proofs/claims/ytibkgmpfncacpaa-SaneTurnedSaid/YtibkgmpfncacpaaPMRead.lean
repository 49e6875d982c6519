/- PM: from a row's input to typed values, with what is known of the places that are read. -/
import Derived.Test.YtibkgmpfncacpaaPMLaw
namespace Go.PM
open Go
section
variable {H : Type} {enc : TypeId × Value → H} {P : Program} {W : World} {sp : Nat → Bool} {hd : Bool} {S : Nat → Nat → Prop}
def ReadS (enc : TypeId × Value → H) (P : Program) (W : World) (sp : Nat → Bool) (hd : Bool) (S : Nat → Nat → Prop) (T : Ty) : Prop :=
 ∀ (t : TypeId) (fuel : Nat) (cs : List Value) (d : DataW H) (ps : List MemPlace), TyOk P t T → DataW.trod enc P W 0 sp hd fuel t cs = some (d, ps) → (∀ b o, MemPlace.cell b o ∈ ps → S b o) → (d.weights P t).all (· ≤ reachBytes) = true →
  ∃ x : T.D, Rep (fun b o => b < W.heap.size ∧ S b o) W T x cs ∧ Wf P T x
def ReadT (enc : TypeId × Value → H) (P : Program) (W : World) (sp : Nat → Bool) (hd : Bool) (S : Nat → Nat → Prop) (T : Ty) : Prop :=
 ∀ (fs : List Field) (o fuel : Nat) (cs : List Value) (xs : List (DataW H × List MemPlace)), tyGo P T (.inr (fs, o)) = true →
  (fs.mapM fun f => DataW.trod enc P W 0 sp hd fuel f.type ((cs.drop f.offset).take (P.cellsOf f.type))) = some xs → (∀ x ∈ xs, ∀ b o, MemPlace.cell b o ∈ x.2 → S b o) → cs.length = o + T.sz → (DataW.weightsEach P (fs.map (·.type)) (xs.map (·.1))).all (· ≤ reachBytes) = true →
  ∃ x : T.D, Rep (fun b o => b < W.heap.size ∧ S b o) W T x (cs.drop o) ∧ Wf P T x
theorem readT_pair {a b : Ty} (ha : ReadS enc P W sp hd S a) (hb : ReadT enc P W sp hd S b) : ReadT enc P W sp hd S (.pair a b) := by
 intro fs o fuel cs xs hty hm hS hl hw
 cases fs with
 | nil => simp [tyGo] at hty
 | cons f fs =>
  simp only [tyGo, Bool.and_eq_true, beq_iff_eq, decide_eq_true_eq] at hty
  obtain ⟨⟨⟨⟨h1, h2⟩, h3⟩, h4⟩, h5⟩ := hty
  rw [List.mapM_cons] at hm
  cases hf : DataW.trod enc P W 0 sp hd fuel f.type ((cs.drop f.offset).take (P.cellsOf f.type)) with
  | none => simp [hf] at hm
  | some y =>
   cases hfs : fs.mapM fun f => DataW.trod enc P W 0 sp hd fuel f.type ((cs.drop f.offset).take (P.cellsOf f.type)) with
   | none => simp [hf, hfs] at hm
   | some ys =>
    simp [hf, hfs] at hm
    subst hm
    simp only [List.map_cons, DataW.weightsEach, List.all_append, Bool.and_eq_true] at hw
    obtain ⟨x, hx, wx⟩ := ha f.type fuel _ y.1 y.2 h4 hf (hS y List.mem_cons_self) hw.1
    obtain ⟨z, hz, wz⟩ := hb fs (o + a.sz) fuel cs ys h5 hfs (fun x hx => hS x (List.mem_cons_of_mem _ hx)) (by simp [Ty.sz] at hl; omega) hw.2
    refine ⟨(x, z), ⟨_, _, ?_, hx, hz⟩, wx, wz⟩
    have hc : P.cellsOf f.type = a.sz := TyOk.cellsOf h4
    rw [hc, h1, ← List.drop_drop, List.take_append_drop]
theorem readT_unit : ReadT enc P W sp hd S .unit := by
 intro fs o fuel cs xs hty hm hS hl hw
 exact ⟨(), by show cs.drop o = []; rw [List.drop_eq_nil_iff]; simp [Ty.sz] at hl; omega, trivial⟩
theorem readS_both : ∀ T : Ty, ReadS enc P W sp hd S T ∧ ((∃ a b, T = .pair a b) ∨ T = .unit → ReadT enc P W sp hd S T)
 | .clo _ _ => by
  refine ⟨fun t fuel cs d ps hty h hS hw => ?_, fun h => by rcases h with ⟨_, _, h⟩ | h <;> cases h⟩
  have h2 : (Ty.clo _ _).plain = true := hty.plain
  cases h2
 | .osl _ _ => by
  refine ⟨fun t fuel cs d ps hty h hS hw => ?_, fun h => by rcases h with ⟨_, _, h⟩ | h <;> cases h⟩
  have h2 : (Ty.osl _ _).plain = true := hty.plain
  cases h2
 | .any => by
  refine ⟨fun t fuel cs d ps hty h hS hw => ?_, fun h => by rcases h with ⟨_, _, h⟩ | h <;> cases h⟩
  unfold TyOk at hty
  simp only [tyGo, Bool.and_eq_true] at hty
  have h2 := hty.2
  split at h2
  ·rename_i hu
   cases fuel with
   | zero => simp [DataW.trod] at h
   | succ n =>
    simp only [DataW.trod, hu] at h
    cases cs with
    | nil => simp at h
    | cons v l => cases l with
     | cons v' l => simp at h
     | nil => cases v <;> first | exact ⟨(), ⟨_, rfl, rfl⟩, trivial⟩ | (simp at h; done)
  ·cases h2
 | .bool => by
  refine ⟨fun t fuel cs d ps hty h hS hw => ?_, fun h => by rcases h with ⟨_, _, h⟩ | h <;> cases h⟩
  have hu : P.underlying t = some .bool := bool_und hty
  cases fuel with
  | zero => simp [DataW.trod] at h
  | succ n =>
   simp only [DataW.trod, hu] at h
   cases cs with
   | nil => simp at h
   | cons v l => cases l with
    | cons v' l => simp at h
    | nil => cases v <;> first | (simp at h; done) | exact ⟨_, rfl, trivial⟩
 | .int k => by
  refine ⟨fun t fuel cs d ps hty h hS hw => ?_, fun h => by rcases h with ⟨_, _, h⟩ | h <;> cases h⟩
  have hu := hty.int_und
  cases fuel with
  | zero => simp [DataW.trod] at h
  | succ n =>
   simp only [DataW.trod, hu] at h
   cases cs with
   | nil => simp at h
   | cons v l => cases l with
    | cons v' l => simp at h
    | nil =>
     cases v <;> try (simp at h; done)
     rename_i k' m
     simp only at h
     split at h
     ·rename_i hk
      obtain ⟨rfl, hk⟩ := hk
      exact ⟨m, rfl, by simpa [Lit.wf, Wf] using hk⟩
     ·cases h
 | .str => by
  refine ⟨fun t fuel cs d ps hty h hS hw => ?_, fun h => by rcases h with ⟨_, _, h⟩ | h <;> cases h⟩
  have hu : P.underlying t = some .string := by
   unfold TyOk at hty
   simp only [tyGo, Bool.and_eq_true] at hty
   have h2 := hty.2
   split at h2
   ·assumption
   ·simp at h2
  cases fuel with
  | zero => simp [DataW.trod] at h
  | succ n =>
   simp only [DataW.trod, hu] at h
   cases cs with
   | nil => simp at h
   | cons v l => cases l with
    | cons v' l => simp at h
    | nil =>
     cases v <;> try (simp at h; done)
     rename_i s
     simp only at h
     split at h
     ·simp only [Option.some.injEq, Prod.mk.injEq] at h
      rw [← h.1] at hw
      exact ⟨s, rfl, by simpa [DataW.weights, Wf] using hw⟩
     ·cases h
 | .unit => by
  refine ⟨fun t fuel cs d ps hty h hS hw => ?_, fun _ => readT_unit⟩
  have hc := hty.cellsOf
  rcases hty.agg_und with ⟨⟨fs, hu⟩, -⟩ | ⟨h', -⟩
  ·cases fuel with
   | zero => simp [DataW.trod] at h
   | succ n =>
    simp only [DataW.trod, hu] at h
    split at h
    ·rename_i hl
     exact ⟨(), by show cs = []; rw [hc] at hl; exact List.eq_nil_of_length_eq_zero hl, trivial⟩
    ·cases h
  ·cases h'
 | .pair a b => by
  have iha := (readS_both a).1
  have ihb : ReadT enc P W sp hd S b ∨ ((∀ x y, b ≠ .pair x y) ∧ b ≠ .unit) := by
   by_cases h1 : (∃ x y, b = .pair x y) ∨ b = .unit
   ·exact .inl ((readS_both b).2 h1)
   ·exact .inr ⟨fun x y h => h1 (.inl ⟨x, y, h⟩), fun h => h1 (.inr h)⟩
  have hB : ReadT enc P W sp hd S (.pair a b) := by
   rcases ihb with ihb | ⟨n1, n2⟩
   ·exact readT_pair iha ihb
   ·intro fs o fuel cs xs hty
    cases fs with
    | nil => simp [tyGo] at hty
    | cons f fs =>
     simp only [tyGo, Bool.and_eq_true] at hty
     have := hty.2
     cases b <;> simp [tyGo] at this
     ·exact absurd rfl n2
     ·exact absurd rfl (n1 _ _)
  refine ⟨fun t fuel cs d ps hty h hS hw => ?_, fun _ => hB⟩
  have hc := hty.cellsOf
  have hty' := hty
  unfold TyOk at hty'
  simp only [tyGo, Bool.and_eq_true] at hty'
  have h2 := hty'.2
  split at h2
  ·rename_i fs hu
   have h3 : tyGo P (.pair a b) (.inr (fs.toList, 0)) = true := by
    simp only [tyGo]
    split at h2
    ·rename_i fd l hl
     simpa using h2
    ·simp at h2
   cases fuel with
   | zero => simp [DataW.trod] at h
   | succ n =>
    simp only [DataW.trod, hu] at h
    split at h
    ·rename_i hl
     cases hm : fs.toList.mapM fun f => DataW.trod enc P W 0 sp hd n f.type ((cs.drop f.offset).take (P.cellsOf f.type)) with
     | none => rw [hm] at h; cases h
     | some xs =>
      rw [hm] at h
      simp only [Option.map_some, Option.some.injEq, Prod.mk.injEq] at h
      have hw2 : (DataW.weightsEach P (fs.toList.map (·.type)) (xs.map (·.1))).all (· ≤ reachBytes) = true := by
       rw [← h.1] at hw
       simpa [DataW.weights, hu] using hw
      obtain ⟨x, hx, wx⟩ := hB fs.toList 0 n cs xs h3 hm (fun x hx b o hb => hS b o (by rw [← h.2]; exact List.mem_flatMap.2 ⟨x, hx, hb⟩)) (by rw [Nat.zero_add, ← hc]; exact hl) hw2
      exact ⟨x, hx, wx⟩
    ·cases h
  ·simp at h2
 | .sl e r => by
  have ih := (readS_both r).1
  refine ⟨fun t fuel cs d ps hty h hS hw => ?_, fun h => by rcases h with ⟨_, _, h⟩ | h <;> cases h⟩
  have hu := hty.sl_und
  have hr := hty.sl_row
  have hc := hr.cellsOf
  cases fuel with
  | zero => simp [DataW.trod] at h
  | succ n =>
   simp only [DataW.trod, hu] at h
   cases cs with
   | nil => simp at h
   | cons v l => cases l with
    | cons v' l => simp at h
    | nil =>
     cases v <;> try (simp at h; done)
     rename_i A len cap
     cases A with
     | none =>
      cases len with
      | zero => cases cap with
       | zero => exact ⟨[], ⟨none, 0, rfl, ⟨Nat.le_refl _, Nat.zero_le _⟩, fun hn => absurd rfl hn⟩, by simp, fun i x hx => by simp at hx⟩
       | succ cap => simp at h
      | succ len => simp at h
     | some ad =>
      simp only at h
      split at h
      ·rename_i hle
       cases hel : (List.range len).mapM fun i => (W.cells? 0 (ad.add (i * P.cellsOf e)) (P.cellsOf e)).bind (DataW.trod enc P W 0 sp hd n e) with
       | none => rw [hel] at h; cases h
       | some elems =>
        rw [hel] at h
        simp only [Option.bind_some] at h
        rw [Option.map_eq_some_iff] at h
        obtain ⟨rest, _, h⟩ := h
        simp only [Prod.mk.injEq] at h
        have hlen := mapM_some_length hel
        rw [List.length_range] at hlen
        rw [← h.2] at hS
        rw [← h.1] at hw
        simp only [DataW.weights, hu, List.all_cons, List.all_append, Bool.and_eq_true, decide_eq_true_eq, List.length_map] at hw
        have hx : ∀ i, i < len → ∃ x : r.D, Wf P r x ∧ ∃ ci, Rep (fun b o => b < W.heap.size ∧ S b o) W r x ci ∧ ∀ (j : Nat) u, ci[j]? = some u → W.cell? ((ad.add (i * P.cellsOf e)).add j) = some u := by
         intro i hi
         have hg := mapM_some_get hel i i (by simp [hi])
         have hsome : elems[i]? = some (elems[i]'(by omega)) := List.getElem?_eq_getElem (by omega)
         rw [hsome] at hg
         rw [Option.bind_eq_some_iff] at hg
         obtain ⟨ci, hci, htr⟩ := hg
         obtain ⟨x, hx, wx⟩ := ih e n ci _ _ hr htr (fun b o hb => hS b o (List.mem_append.2 (.inr (List.mem_flatMap.2 ⟨_, List.mem_append.2 (.inl (List.mem_of_getElem? hsome)), hb⟩)))) (weightsAll_mem hw.2.1 (i := i) (by rw [List.getElem?_map, hsome]; rfl))
         exact ⟨x, wx, ci, hx, (cells?_spec hci).2⟩
        obtain ⟨xs, hxl, hxs⟩ := pickList len hx
        have hsz : 0 < r.sz := (hty.sl_info).choose_spec.choose_spec.2.2.2.2.1
        have hspot : xs ≠ [] → ad.spot = none := fun hne => by
         have h0 : 0 < xs.length := List.length_pos_iff.2 hne
         obtain ⟨_, ci, hci, hcell⟩ := hxs 0 xs[0] (List.getElem?_eq_getElem h0)
         have hl := hci.len
         have := hcell 0 (ci[0]'(by omega)) (List.getElem?_eq_getElem (by omega))
         simpa [Addr.add] using (cell?_lt this).2
        have hby : 1 ≤ P.bytesOf e := by
         obtain ⟨i, z, hi, _, _, _, _, hb, _⟩ := hty.sl_info
         simp only [Program.bytesOf, hi]; exact hb
        have hlm : len ≤ lenMax := by
         have h1 : elems.length ≤ (elems.length + rest.length) * P.bytesOf e := Nat.le_trans (Nat.le_add_right _ _) (Nat.le_mul_of_pos_right _ hby)
         have h2 := hw.1
         simp only [reachBytes] at h2
         simp only [lenMax]; omega
        refine ⟨xs, ⟨some ad, cap, by rw [hxl], ⟨by omega, by omega⟩, fun hne => ⟨ad, rfl, hspot hne, fun i x hx => ?_⟩⟩, ?_, fun i x hx => (hxs i x hx).1⟩
        ·obtain ⟨_, ci, hci, hcell⟩ := hxs i x hx
         refine ⟨ci, hci, fun j u hu => ?_⟩
         have hh := hcell j u hu
         have ha : (ad.add (i * P.cellsOf e)).add j = ⟨ad.block, ad.off + i * r.sz + j, none⟩ := by
          rw [addr_add (hspot hne), addr_add rfl, hc]
         rw [ha] at hh
         refine ⟨⟨(cell?_lt hh).1, hS _ _ (List.mem_append.2 (.inl ?_))⟩, hh⟩
         have hi : i < xs.length := (List.getElem?_eq_some_iff.1 hx).1
         have hj : j < r.sz := by rw [← hci.len]; exact (List.getElem?_eq_some_iff.1 hu).1
         refine List.mem_map.2 ⟨i * r.sz + j, List.mem_range.2 ?_, by rw [Nat.add_assoc]⟩
         rw [hc]
         have h1 : (i + 1) * r.sz ≤ (elems.length + rest.length) * r.sz := Nat.mul_le_mul_right _ (by omega)
         rw [Nat.succ_mul] at h1
         omega
        ·rw [hxl, ← hlen]
         have := hw.1
         exact Nat.le_trans (Nat.mul_le_mul_right _ (by omega)) this
      ·cases h
end
end Go.PM
