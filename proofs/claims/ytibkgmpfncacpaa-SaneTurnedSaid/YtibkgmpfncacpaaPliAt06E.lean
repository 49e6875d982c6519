/- SaneTurned by hand: the header is written, and written back. -/
import Derived.Test.YtibkgmpfncacpaaPliAt06D
namespace Go.Pli
open Go Go.PM Go.Proofs
noncomputable section
def ops7 : Array Oper := regOps (hd4 st7)
theorem reg7 : st7 = .seq (.region 7 ops7 false) st8 := by kernel_rfl
theorem list7 : ops7.toList = [opOf ops7 0, opOf ops7 1, opOf ops7 2, opOf ops7 3, opOf ops7 4] := by kernel_rfl
theorem op7_0 : (opOf ops7 0).guard = none ∧ (opOf ops7 0).op = .move (.tmp 11) ∧ (opOf ops7 0).dst = some 63 := ⟨by kernel_rfl, by kernel_rfl, by kernel_rfl⟩
theorem op7_1 : (opOf ops7 1).guard = none ∧ (opOf ops7 1).op = .nilCheck (.tmp 63) ∧ (opOf ops7 1).dst = some 64 := ⟨by kernel_rfl, by kernel_rfl, by kernel_rfl⟩
theorem op7_2 : (opOf ops7 2).guard = none ∧ (opOf ops7 2).op = .fieldAddr 38 (.tmp 64) 3 ∧ (opOf ops7 2).dst = some 65 := ⟨by kernel_rfl, by kernel_rfl, by kernel_rfl⟩
theorem op7_3 : (opOf ops7 3).guard = none ∧ (opOf ops7 3).op = .load 36 (.tmp 65) ∧ (opOf ops7 3).dst = some 66 := ⟨by kernel_rfl, by kernel_rfl, by kernel_rfl⟩
theorem op7_4 : (opOf ops7 4).guard = none ∧ (opOf ops7 4).op = .assign (.tmp 66) ∧ (opOf ops7 4).dst = some 14 := ⟨by kernel_rfl, by kernel_rfl, by kernel_rfl⟩
def ops8 : Array Oper := regOps (hd4 st8)
theorem reg8 : st8 = .seq (.region 8 ops8 false) st9 := by kernel_rfl
theorem list8 : ops8.toList = [opOf ops8 0, opOf ops8 1, opOf ops8 2, opOf ops8 3, opOf ops8 4] := by kernel_rfl
theorem op8_0 : (opOf ops8 0).guard = none ∧ (opOf ops8 0).op = .move (.tmp 11) ∧ (opOf ops8 0).dst = some 67 := ⟨by kernel_rfl, by kernel_rfl, by kernel_rfl⟩
theorem op8_1 : (opOf ops8 1).guard = none ∧ (opOf ops8 1).op = .move (.tmp 12) ∧ (opOf ops8 1).dst = some 68 := ⟨by kernel_rfl, by kernel_rfl, by kernel_rfl⟩
theorem op8_2 : (opOf ops8 2).guard = none ∧ (opOf ops8 2).op = .nilCheck (.tmp 67) ∧ (opOf ops8 2).dst = some 69 := ⟨by kernel_rfl, by kernel_rfl, by kernel_rfl⟩
theorem op8_3 : (opOf ops8 3).guard = none ∧ (opOf ops8 3).op = .fieldAddr 38 (.tmp 69) 3 ∧ (opOf ops8 3).dst = some 70 := ⟨by kernel_rfl, by kernel_rfl, by kernel_rfl⟩
theorem op8_4 : (opOf ops8 4).guard = none ∧ (opOf ops8 4).op = .store 36 (.tmp 70) (.tmp 68) ∧ (opOf ops8 4).dst = none := ⟨by kernel_rfl, by kernel_rfl, by kernel_rfl⟩
def ops10 : Array Oper := regOps (hd4 st10)
theorem reg10 : st10 = .seq (.region 10 ops10 false) st11 := by kernel_rfl
theorem list10 : ops10.toList = [opOf ops10 0, opOf ops10 1, opOf ops10 2, opOf ops10 3, opOf ops10 4] := by kernel_rfl
theorem op10_0 : (opOf ops10 0).guard = none ∧ (opOf ops10 0).op = .move (.tmp 11) ∧ (opOf ops10 0).dst = some 76 := ⟨by kernel_rfl, by kernel_rfl, by kernel_rfl⟩
theorem op10_1 : (opOf ops10 1).guard = none ∧ (opOf ops10 1).op = .move (.tmp 14) ∧ (opOf ops10 1).dst = some 77 := ⟨by kernel_rfl, by kernel_rfl, by kernel_rfl⟩
theorem op10_2 : (opOf ops10 2).guard = none ∧ (opOf ops10 2).op = .nilCheck (.tmp 76) ∧ (opOf ops10 2).dst = some 78 := ⟨by kernel_rfl, by kernel_rfl, by kernel_rfl⟩
theorem op10_3 : (opOf ops10 3).guard = none ∧ (opOf ops10 3).op = .fieldAddr 38 (.tmp 78) 3 ∧ (opOf ops10 3).dst = some 79 := ⟨by kernel_rfl, by kernel_rfl, by kernel_rfl⟩
theorem op10_4 : (opOf ops10 4).guard = none ∧ (opOf ops10 4).op = .store 36 (.tmp 79) (.tmp 77) ∧ (opOf ops10 4).dst = none := ⟨by kernel_rfl, by kernel_rfl, by kernel_rfl⟩
theorem fld38 {o : Oper} {a : Act} {W : World} {t b p : Nat} (ho : o.op = .fieldAddr 38 (.tmp t) 3) (h : a.tmps.getD t undef = .pointer (some ⟨b, p, none⟩)) : (execOp a.eval o).run Try.prog W = .ok (.value (.pointer (some ⟨b, p + 4, none⟩))) W :=
 rField (T := tyTMt) (off := 4) (ft := tyStyTIns) ho T38 (by kernel_rfl) h
theorem segT7 {W : World} {a0 : Act} {Q : Exit → Act → World → Prop} {b0 p : Nat} {u0 : Value} (s0 : a0.tmps.size = 84) (hd : a0.defers = []) (h11 : a0.tmps.getD 11 undef = .pointer (some ⟨b0, p, none⟩)) (hc : W.cell? ⟨b0, p + 4, none⟩ = some u0)
  (h : ∀ a' : Act, a'.tmps.size = 84 → a'.defers = [] → (∀ t, t < 63 → t ≠ 14 → a'.tmps.getD t undef = a0.tmps.getD t undef) → a'.tmps.getD 14 undef = u0 → st8.wp Try.prog Q a' W) : st7.wp Try.prog Q a0 W := by
 rw [reg7]
 apply wp_seq
 apply wp_region_list
 rw [list7]
 obtain ⟨g7_0, e7_0, d7_0⟩ := op7_0
 obtain ⟨g7_1, e7_1, d7_1⟩ := op7_1
 obtain ⟨g7_2, e7_2, d7_2⟩ := op7_2
 obtain ⟨g7_3, e7_3, d7_3⟩ := op7_3
 obtain ⟨g7_4, e7_4, d7_4⟩ := op7_4
 generalize opOf ops7 0 = o7_0 at *
 generalize opOf ops7 1 = o7_1 at *
 generalize opOf ops7 2 = o7_2 at *
 generalize opOf ops7 3 = o7_3 at *
 generalize opOf ops7 4 = o7_4 at *
 refine wpList_plain g7_0 fun K hK => wp_value (v := Value.pointer (some ⟨b0, p, none⟩)) (W' := W) (by have := rMove (P := Try.prog) (a := a0) (W := W) e7_0; rwa [h11] at this) (hK _ _ ?_)
 clear K hK
 rw [d7_0]
 obtain ⟨s1, f1, q1, p1⟩ := putT (v := Value.pointer (some ⟨b0, p, none⟩)) s0 (show 63 < 84 by decide)
 generalize a0.put (some 63) (Value.pointer (some ⟨b0, p, none⟩)) = a1 at s1 f1 q1 p1 ⊢
 refine wpList_plain g7_1 fun K hK => wp_value (v := Value.pointer (some ⟨b0, p, none⟩)) (W' := W) (rNil e7_1 q1) (hK _ _ ?_)
 clear K hK
 rw [d7_1]
 obtain ⟨s2, f2, q2, p2⟩ := putT (v := Value.pointer (some ⟨b0, p, none⟩)) s1 (show 64 < 84 by decide)
 generalize a1.put (some 64) (Value.pointer (some ⟨b0, p, none⟩)) = a2 at s2 f2 q2 p2 ⊢
 refine wpList_plain g7_2 fun K hK => wp_value (v := Value.pointer (some ⟨b0, p + 4, none⟩)) (W' := W) (fld38 e7_2 q2) (hK _ _ ?_)
 clear K hK
 rw [d7_2]
 obtain ⟨s3, f3, q3, p3⟩ := putT (v := Value.pointer (some ⟨b0, p + 4, none⟩)) s2 (show 65 < 84 by decide)
 generalize a2.put (some 65) (Value.pointer (some ⟨b0, p + 4, none⟩)) = a3 at s3 f3 q3 p3 ⊢
 refine wpList_plain g7_3 fun K hK => wp_value (v := u0) (W' := W) (rLoad e7_3 T36 q3 hc) (hK _ _ ?_)
 clear K hK
 rw [d7_3]
 obtain ⟨s4, f4, q4, p4⟩ := putT (v := u0) s3 (show 66 < 84 by decide)
 generalize a3.put (some 66) (u0) = a4 at s4 f4 q4 p4 ⊢
 refine wpList_plain g7_4 fun K hK => wp_value (v := u0) (W' := W) (by have := rAssign (P := Try.prog) (a := a4) (W := W) e7_4; rwa [q4] at this) (hK _ _ ?_)
 clear K hK
 rw [d7_4]
 obtain ⟨s5, f5, q5, p5⟩ := putT (v := u0) s4 (show 14 < 84 by decide)
 generalize a4.put (some 14) (u0) = a5 at s5 f5 q5 p5 ⊢
 exact h a5 s5 (by rw [f5, f4, f3, f2, f1, hd]) (fun t ht h14 => by rw [p5 t h14, p4 t (by omega), p3 t (by omega), p2 t (by omega), p1 t (by omega)]) q5
theorem segT8 {W : World} {a0 : Act} {Q : Exit → Act → World → Prop} {b0 p m c : Nat} {A : Option Addr} {v0 : Value} (s0 : a0.tmps.size = 84) (hd : a0.defers = []) (h11 : a0.tmps.getD 11 undef = .pointer (some ⟨b0, p, none⟩)) (hc : W.cell? ⟨b0, p + 4, none⟩ = some v0) (hz : W.frozen? ⟨b0, p + 4, none⟩ = false) (hv : a0.tmps.getD 12 undef = .slice A m c)
  (h : ∀ a' : Act, a'.tmps.size = 84 → a'.defers = [] → (∀ t, t < 67 → a'.tmps.getD t undef = a0.tmps.getD t undef) → st9.wp Try.prog Q a' (W.setCell ⟨b0, p + 4, none⟩ (.slice A m c))) : st8.wp Try.prog Q a0 W := by
 rw [reg8]
 apply wp_seq
 apply wp_region_list
 rw [list8]
 obtain ⟨g8_0, e8_0, d8_0⟩ := op8_0
 obtain ⟨g8_1, e8_1, d8_1⟩ := op8_1
 obtain ⟨g8_2, e8_2, d8_2⟩ := op8_2
 obtain ⟨g8_3, e8_3, d8_3⟩ := op8_3
 obtain ⟨g8_4, e8_4, d8_4⟩ := op8_4
 generalize opOf ops8 0 = o8_0 at *
 generalize opOf ops8 1 = o8_1 at *
 generalize opOf ops8 2 = o8_2 at *
 generalize opOf ops8 3 = o8_3 at *
 generalize opOf ops8 4 = o8_4 at *
 refine wpList_plain g8_0 fun K hK => wp_value (v := Value.pointer (some ⟨b0, p, none⟩)) (W' := W) (by have := rMove (P := Try.prog) (a := a0) (W := W) e8_0; rwa [h11] at this) (hK _ _ ?_)
 clear K hK
 rw [d8_0]
 obtain ⟨s1, f1, q1, p1⟩ := putT (v := Value.pointer (some ⟨b0, p, none⟩)) s0 (show 67 < 84 by decide)
 generalize a0.put (some 67) (Value.pointer (some ⟨b0, p, none⟩)) = a1 at s1 f1 q1 p1 ⊢
 refine wpList_plain g8_1 fun K hK => wp_value (v := Value.slice A m c) (W' := W) (by have := rMove (P := Try.prog) (a := a1) (W := W) e8_1; rwa [p1 12 (by decide), hv] at this) (hK _ _ ?_)
 clear K hK
 rw [d8_1]
 obtain ⟨s2, f2, q2, p2⟩ := putT (v := Value.slice A m c) s1 (show 68 < 84 by decide)
 generalize a1.put (some 68) (Value.slice A m c) = a2 at s2 f2 q2 p2 ⊢
 refine wpList_plain g8_2 fun K hK => wp_value (v := Value.pointer (some ⟨b0, p, none⟩)) (W' := W) (rNil e8_2 (by rw [p2 67 (by decide)]; exact q1)) (hK _ _ ?_)
 clear K hK
 rw [d8_2]
 obtain ⟨s3, f3, q3, p3⟩ := putT (v := Value.pointer (some ⟨b0, p, none⟩)) s2 (show 69 < 84 by decide)
 generalize a2.put (some 69) (Value.pointer (some ⟨b0, p, none⟩)) = a3 at s3 f3 q3 p3 ⊢
 refine wpList_plain g8_3 fun K hK => wp_value (v := Value.pointer (some ⟨b0, p + 4, none⟩)) (W' := W) (fld38 e8_3 q3) (hK _ _ ?_)
 clear K hK
 rw [d8_3]
 obtain ⟨s4, f4, q4, p4⟩ := putT (v := Value.pointer (some ⟨b0, p + 4, none⟩)) s3 (show 70 < 84 by decide)
 generalize a3.put (some 70) (Value.pointer (some ⟨b0, p + 4, none⟩)) = a4 at s4 f4 q4 p4 ⊢
 refine wpList_plain g8_4 fun K hK => wp_skip' (W' := W.setCell ⟨b0, p + 4, none⟩ (.slice A m c)) (rStore e8_4 T36 q4 (by rw [p4 68 (by decide), p3 68 (by decide)]; exact q2) hc hz) (hK _ _ ?_)
 clear K hK
 rw [d8_4]
 exact h a4 s4 (by rw [f4, f3, f2, f1, hd]) fun t ht => by rw [p4 t (by omega), p3 t (by omega), p2 t (by omega), p1 t (by omega)]
theorem segT10 {W : World} {a0 : Act} {Q : Exit → Act → World → Prop} {b0 p m c : Nat} {A : Option Addr} {v0 : Value} (s0 : a0.tmps.size = 84) (hd : a0.defers = []) (h11 : a0.tmps.getD 11 undef = .pointer (some ⟨b0, p, none⟩)) (hc : W.cell? ⟨b0, p + 4, none⟩ = some v0) (hz : W.frozen? ⟨b0, p + 4, none⟩ = false) (hv : a0.tmps.getD 14 undef = .slice A m c)
  (h : ∀ a' : Act, a'.tmps.size = 84 → a'.defers = [] → (∀ t, t < 76 → a'.tmps.getD t undef = a0.tmps.getD t undef) → st11.wp Try.prog Q a' (W.setCell ⟨b0, p + 4, none⟩ (.slice A m c))) : st10.wp Try.prog Q a0 W := by
 rw [reg10]
 apply wp_seq
 apply wp_region_list
 rw [list10]
 obtain ⟨g10_0, e10_0, d10_0⟩ := op10_0
 obtain ⟨g10_1, e10_1, d10_1⟩ := op10_1
 obtain ⟨g10_2, e10_2, d10_2⟩ := op10_2
 obtain ⟨g10_3, e10_3, d10_3⟩ := op10_3
 obtain ⟨g10_4, e10_4, d10_4⟩ := op10_4
 generalize opOf ops10 0 = o10_0 at *
 generalize opOf ops10 1 = o10_1 at *
 generalize opOf ops10 2 = o10_2 at *
 generalize opOf ops10 3 = o10_3 at *
 generalize opOf ops10 4 = o10_4 at *
 refine wpList_plain g10_0 fun K hK => wp_value (v := Value.pointer (some ⟨b0, p, none⟩)) (W' := W) (by have := rMove (P := Try.prog) (a := a0) (W := W) e10_0; rwa [h11] at this) (hK _ _ ?_)
 clear K hK
 rw [d10_0]
 obtain ⟨s1, f1, q1, p1⟩ := putT (v := Value.pointer (some ⟨b0, p, none⟩)) s0 (show 76 < 84 by decide)
 generalize a0.put (some 76) (Value.pointer (some ⟨b0, p, none⟩)) = a1 at s1 f1 q1 p1 ⊢
 refine wpList_plain g10_1 fun K hK => wp_value (v := Value.slice A m c) (W' := W) (by have := rMove (P := Try.prog) (a := a1) (W := W) e10_1; rwa [p1 14 (by decide), hv] at this) (hK _ _ ?_)
 clear K hK
 rw [d10_1]
 obtain ⟨s2, f2, q2, p2⟩ := putT (v := Value.slice A m c) s1 (show 77 < 84 by decide)
 generalize a1.put (some 77) (Value.slice A m c) = a2 at s2 f2 q2 p2 ⊢
 refine wpList_plain g10_2 fun K hK => wp_value (v := Value.pointer (some ⟨b0, p, none⟩)) (W' := W) (rNil e10_2 (by rw [p2 76 (by decide)]; exact q1)) (hK _ _ ?_)
 clear K hK
 rw [d10_2]
 obtain ⟨s3, f3, q3, p3⟩ := putT (v := Value.pointer (some ⟨b0, p, none⟩)) s2 (show 78 < 84 by decide)
 generalize a2.put (some 78) (Value.pointer (some ⟨b0, p, none⟩)) = a3 at s3 f3 q3 p3 ⊢
 refine wpList_plain g10_3 fun K hK => wp_value (v := Value.pointer (some ⟨b0, p + 4, none⟩)) (W' := W) (fld38 e10_3 q3) (hK _ _ ?_)
 clear K hK
 rw [d10_3]
 obtain ⟨s4, f4, q4, p4⟩ := putT (v := Value.pointer (some ⟨b0, p + 4, none⟩)) s3 (show 79 < 84 by decide)
 generalize a3.put (some 79) (Value.pointer (some ⟨b0, p + 4, none⟩)) = a4 at s4 f4 q4 p4 ⊢
 refine wpList_plain g10_4 fun K hK => wp_skip' (W' := W.setCell ⟨b0, p + 4, none⟩ (.slice A m c)) (rStore e10_4 T36 q4 (by rw [p4 77 (by decide), p3 77 (by decide)]; exact q2) hc hz) (hK _ _ ?_)
 clear K hK
 rw [d10_4]
 exact h a4 s4 (by rw [f4, f3, f2, f1, hd]) fun t ht => by rw [p4 t (by omega), p3 t (by omega), p2 t (by omega), p1 t (by omega)]
theorem setCell_spec {W : World} {b o : Nat} {u u0 : Value} (h : W.cell? ⟨b, o, none⟩ = some u0) :
  (W.setCell ⟨b, o, none⟩ u).heap.size = W.heap.size ∧ (∀ b', b' ≠ b → (W.setCell ⟨b, o, none⟩ u).heap[b']? = W.heap[b']?) ∧ (W.setCell ⟨b, o, none⟩ u).cell? ⟨b, o, none⟩ = some u ∧ (∀ b' o', ¬ (b' = b ∧ o' = o) → (W.setCell ⟨b, o, none⟩ u).cell? ⟨b', o', none⟩ = W.cell? ⟨b', o', none⟩) ∧
   (∀ o', (W.setCell ⟨b, o, none⟩ u).frozen? ⟨b, o', none⟩ = W.frozen? ⟨b, o', none⟩) ∧ ∀ V : World, V.heap[b]? = (W.setCell ⟨b, o, none⟩ u).heap[b]? → (V.setCell ⟨b, o, none⟩ u0).heap[b]? = W.heap[b]? := by
 have hb : ∃ cs t fr, W.heap[b]? = some (.cells cs t fr) ∧ cs[o]? = some u0 := by
  unfold World.cell? at h
  split at h
  ·rename_i cs t fr hb
   simp only [Option.isSome_none, Bool.false_eq_true, if_false] at h
   exact ⟨cs, t, fr, hb, h⟩
  ·cases h
 obtain ⟨cs, t, fr, hb, ho⟩ := hb
 have hlt : o < cs.size := (Array.getElem?_eq_some_iff.1 ho).1
 have hb' : (W.setCell ⟨b, o, none⟩ u).heap[b]? = some (.cells (cs.setIfInBounds o u) t fr) := by simp [World.setCell, Array.getElem?_modify, hb]
 have hoth : ∀ b', b' ≠ b → (W.setCell ⟨b, o, none⟩ u).heap[b']? = W.heap[b']? := fun b' hne => by simp [World.setCell, Array.getElem?_modify, Ne.symm hne]
 refine ⟨by simp [World.setCell], hoth, ?_, fun b2 o2 hne => ?_, fun o2 => ?_, fun V hV => ?_⟩
 ·rw [cell_of_heap hb']; simp [hlt]
 ·by_cases hbb : b2 = b
  ·subst hbb
   have hoo : ¬ o = o2 := fun e => hne ⟨rfl, e.symm⟩
   rw [cell_of_heap hb', cell_of_heap hb, Array.getElem?_setIfInBounds, if_neg hoo]
  ·exact World.cell?_of_block (hoth b2 hbb)
 ·simp [World.frozen?, hb', hb]
 ·rw [hb'] at hV
  have : (V.setCell ⟨b, o, none⟩ u0).heap[b]? = some (.cells ((cs.setIfInBounds o u).setIfInBounds o u0) t fr) := by simp [World.setCell, Array.getElem?_modify, hV]
  rw [this, hb]
  congr 2
  apply Array.ext_getElem?
  intro i
  simp only [Array.getElem?_setIfInBounds]
  by_cases e : o = i
  ·subst e
   simp [hlt]
   exact (Array.getElem?_eq_some_iff.1 ho).2.symm
  ·simp [e]
end
end Go.Pli
