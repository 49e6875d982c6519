/- SaneTurned by hand: the regions that are walked by hand. -/
import Derived.Test.YtibkgmpfncacpaaPliAt06C
namespace Go.Pli
open Go Go.PM Go.Proofs
theorem putT {a : Act} {d n : Nat} {v : Value} (hs : a.tmps.size = n) (hd : d < n) : (a.put (some d) v).tmps.size = n ∧ (a.put (some d) v).defers = a.defers ∧ (a.put (some d) v).tmps.getD d undef = v ∧ ∀ t, t ≠ d → (a.put (some d) v).tmps.getD t undef = a.tmps.getD t undef :=
 ⟨(Act.put_at (t := 0) hs hd).1, rfl, by rw [(Act.put_at hs hd).2.2, if_pos rfl], fun t ht => by rw [(Act.put_at hs hd).2.2, if_neg ht]⟩
theorem opOf_eq {ops : Array Oper} {i : Nat} {o : Oper} (h : ops[i]? = some o) : opOf ops i = o := by
 unfold opOf
 rw [nth_at]
 have : ops.toList[i]? = some o := by simpa using h
 rw [this]; rfl
def dep (o : Oper) (j : Nat) : Bool := o.after.toList.any fun d => Nat.beq d.on j && Region.binds .any d
theorem dep_spec {o : Oper} {j : Nat} (h : dep o j = true) : ∃ d ∈ o.after, d.on = j ∧ ∀ md, Region.binds md d = true := by
 unfold dep at h
 rw [List.any_eq_true] at h
 obtain ⟨d, h1, h2⟩ := h
 rw [Bool.and_eq_true] at h2
 exact ⟨d, by simpa using h1, Nat.eq_of_beq_eq_true h2.1, fun md => binds_any h2.2⟩
noncomputable section
theorem T28 : TyOk Try.prog 28 tyTIm := (GTok.ty _ _ rfl).1
theorem T25 : TyOk Try.prog 25 tyStyTMt := (GTok.ty _ _ rfl).1
theorem T36 : TyOk Try.prog 36 tyStyTIns := (GTok.ty _ _ rfl).1
theorem T38 : TyOk Try.prog 38 tyTMt := (GTok.ty _ _ rfl).1
theorem T5 : TyOk Try.prog 5 (.int .u8) := (GTok.ty _ _ rfl).1
theorem T3 : TyOk Try.prog 3 (.int .i64) := (GTok.ty _ _ rfl).1
def ops0 : Array Oper := regOps (hd4 st0)
theorem reg0 : st0 = .seq (.region 0 ops0 false) st1 := by kernel_rfl
theorem list0 : ops0.toList = [opOf ops0 0, opOf ops0 1] := by kernel_rfl
theorem op00 : (opOf ops0 0).guard = none ∧ (opOf ops0 0).op = .box 28 (.tmp 0) ∧ (opOf ops0 0).dst = some 5 := ⟨by kernel_rfl, by kernel_rfl, by kernel_rfl⟩
theorem op01 : (opOf ops0 1).guard = none ∧ (opOf ops0 1).op = .assign (.const (.bool false)) ∧ (opOf ops0 1).dst = some 10 := ⟨by kernel_rfl, by kernel_rfl, by kernel_rfl⟩
theorem segT0 {W : World} {a : Act} {Q : Exit → Act → World → Prop} {cs : Array Value} (hs : a.tmps.size = 84) (hd : a.defers = []) (h0 : a.tmps.getD 0 undef = .agg cs)
  (h : ∀ a' : Act, a'.tmps.size = 84 → a'.defers = [] → a'.tmps.getD 5 undef = .pointer (some ⟨W.heap.size, 0, none⟩) → (∀ t, t ≠ 5 → t ≠ 10 → a'.tmps.getD t undef = a.tmps.getD t undef) → st1.wp Try.prog Q a' (W.alloc (.cells cs 28))) : st0.wp Try.prog Q a W := by
 rw [reg0]
 apply wp_seq
 apply wp_region_list
 rw [list0]
 obtain ⟨g0, e0, d0⟩ := op00
 obtain ⟨g1, e1, d1⟩ := op01
 generalize opOf ops0 0 = o0 at *
 generalize opOf ops0 1 = o1 at *
 have hv : a.eval (.tmp 0) = .agg cs := h0
 refine wpList_plain g0 fun K hK => wp_value (v := .pointer (some ⟨W.heap.size, 0, none⟩)) (W' := W.alloc (.cells cs 28)) (by simp [execOp, e0, hv, Value.cells, Instr.box, newVar, newRow]) (hK _ _ ?_)
 rw [d0]
 obtain ⟨s1, f1, q1, p1⟩ := putT (v := .pointer (some ⟨W.heap.size, 0, none⟩)) hs (show 5 < 84 by decide)
 generalize a.put (some 5) (.pointer (some ⟨W.heap.size, 0, none⟩)) = a1 at s1 f1 q1 p1 ⊢
 refine wpList_plain g1 fun K hK => wp_value (v := .bool false) (W' := W.alloc (.cells cs 28)) (by simp [execOp, e1, Act.eval]) (hK _ _ ?_)
 rw [d1]
 obtain ⟨s2, f2, q2, p2⟩ := putT (v := .bool false) s1 (show 10 < 84 by decide)
 generalize a1.put (some 10) (.bool false) = a2 at s2 f2 q2 p2 ⊢
 exact h a2 s2 (by rw [f2, f1, hd]) (by rw [p2 5 (by decide), q1]) fun t h5 h10 => by rw [p2 t h10, p1 t h5]
def ops3 : Array Oper := regOps (hd4 st3)
theorem reg3 : st3 = .seq (.region 3 ops3 true) st4 := by kernel_rfl
theorem size3 : ops3.size = 10 := by kernel_rfl
def D3 (i : Nat) : Nat := [31, 32, 33, 34, 35, 36, 37, 38, 39, 11].getD i 0
theorem dst3 : ((List.range 10).all fun i => (opOf ops3 i).guard.isNone && ((opOf ops3 i).dst == some (D3 i) && (opOf ops3 i).after.toList.all fun d => Nat.blt d.on i)) = true := by kernel_rfl
theorem at3 {i : Nat} {o : Oper} (h : ops3[i]? = some o) : i < 10 ∧ o = opOf ops3 i ∧ o.guard = none ∧ o.dst = some (D3 i) ∧ ∀ d ∈ o.after, d.on < i := by
 have hi : i < 10 := by have := (Array.getElem?_eq_some_iff.1 h).1; rwa [size3] at this
 have := List.all_eq_true.1 dst3 i (List.mem_range.2 hi)
 rw [opOf_eq h] at this
 simp only [Bool.and_eq_true, Option.isNone_iff_eq_none, beq_iff_eq, List.all_eq_true, Nat.blt_eq] at this
 exact ⟨hi, (opOf_eq h).symm, this.1, this.2.1, fun d hd => this.2.2 d (by simpa using hd)⟩
theorem D3_in {i : Nat} (h : i < 10) : D3 i = 11 ∨ (31 ≤ D3 i ∧ D3 i < 40) := by
 match i, h with
 | 0, _ | 1, _ | 2, _ | 3, _ | 4, _ | 5, _ | 6, _ | 7, _ | 8, _ => exact .inr (by decide)
 | 9, _ => exact .inl rfl
theorem D3_inj : ∀ i, i < 10 → ∀ j, j < 10 → D3 i = D3 j → i = j := by decide
def c3 : Call := match (opOf ops3 6).op with
 | .call c => c
 | _ => ⟨.builtin .len, #[], #[]⟩
theorem segT3 {W : World} {a : Act} {Q : Exit → Act → World → Prop} {b5 b0 off mN c q : Nat} {f : Int} (hs : a.tmps.size = 84) (hd : a.defers = []) (h5 : a.tmps.getD 5 undef = .pointer (some ⟨b5, 0, none⟩)) (h1 : a.tmps.getD 1 undef = .int .u8 f)
  (hc : W.cell? ⟨b5, 3, none⟩ = some (.slice (some ⟨b0, off, none⟩) mN c)) (hq : (IntKind.i64.wrap f).tmod (mN : Int) = (q : Int)) (hqn : q < mN)
  (h : ∀ (a' : Act) k, a'.tmps.size = 84 → a'.defers = [] → (∀ t, t < 31 → t ≠ 11 → a'.tmps.getD t undef = a.tmps.getD t undef) → a'.tmps.getD 11 undef = .pointer (some ⟨b0, off + q * 8, none⟩) → st4.wp Try.prog Q a' { W with drawn := k }) : st3.wp Try.prog Q a W := by
 rw [reg3]
 apply wp_seq
 let V : Nat → Value := fun i => [.pointer (some ⟨b5, 0 + 3, none⟩), .slice (some ⟨b0, off, none⟩) mN c, .int .u8 f, .int .i64 (IntKind.i64.wrap f), .pointer (some ⟨b5, 0 + 3, none⟩), .slice (some ⟨b0, off, none⟩) mN c, .int .i64 (mN : Int), .int .i64 (q : Int), .pointer (some ⟨b0, off + q * tyTMt.sz, none⟩), .pointer (some ⟨b0, off + q * tyTMt.sz, none⟩)].getD i undef
 refine pure_region (P := Try.prog) (W := W) (a0 := a) (n := 84) (D := D3) (V := V) (fun i o ho => ⟨(at3 ho).2.2.1, (at3 ho).2.2.2.1⟩) (fun i hi => ?_) (fun i j hi hj => D3_inj i (by rwa [size3] at hi) j (by rwa [size3] at hj)) (fun md i o ho d hdd _ => (at3 ho).2.2.2.2 d hdd) hs (fun md k i o a' ho hafter hoth => ?_) (fun a' k q1 q2 q3 q4 => ?_)
 ·rw [size3] at hi
  rcases D3_in hi with h | h <;> omega
 ·obtain ⟨hi, ho', -, -, -⟩ := at3 ho
  have hfar : ∀ t, t < 31 → t ≠ 11 → a'.tmps.getD t undef = a.tmps.getD t undef := fun t ht ht' => hoth t fun i hi => by
   rw [size3] at hi
   rcases D3_in hi with h | h <;> omega
  have hdep : ∀ j, dep o j = true → a'.tmps.getD (D3 j) undef = V j := fun j hj => by
   obtain ⟨d, e1, e2, e3⟩ := dep_spec hj
   rw [← e2]
   exact hafter d e1 (e3 md)
  have a5 := (hfar 5 (by decide) (by decide)).trans h5
  have a1 := (hfar 1 (by decide) (by decide)).trans h1
  have hmn : ((mN : Int)) ≠ 0 := by omega
  subst ho'
  match i, hi with
  | 0, _ => exact rField (ft := tyStyTMt) (f := 3) (by kernel_rfl) T28 rfl a5
  | 1, _ => exact rLoad (by kernel_rfl) T25 (hdep 0 (by kernel_rfl)) hc
  | 2, _ =>
   have := rMove (P := Try.prog) (a := a') (W := { W with drawn := k }) (o := opOf ops3 2) (t := 1) (by kernel_rfl)
   rw [a1] at this
   exact this
  | 3, _ => exact rConv (by kernel_rfl) T5 T3 (hdep 2 (by kernel_rfl))
  | 4, _ => exact rField (ft := tyStyTMt) (f := 3) (by kernel_rfl) T28 rfl a5
  | 5, _ => exact rLoad (by kernel_rfl) T25 (hdep 4 (by kernel_rfl)) hc
  | 6, _ => exact rLen (c := c3) (by kernel_rfl) (by kernel_rfl) (by kernel_rfl) (by kernel_rfl) T25 (hdep 5 (by kernel_rfl))
  | 7, _ =>
   have := rRem (P := Try.prog) (a := a') (W := { W with drawn := k }) (o := opOf ops3 7) (t := 34) (u := 37) (ty := 3) (ty' := 3) (by kernel_rfl) (hdep 3 (by kernel_rfl)) (hdep 6 (by kernel_rfl)) hmn
   rw [hq] at this
   exact this
  | 8, _ => exact rIndex (by kernel_rfl) T25 (hdep 1 (by kernel_rfl)) (hdep 7 (by kernel_rfl)) hqn
  | 9, _ =>
   have := rAssign (P := Try.prog) (a := a') (W := { W with drawn := k }) (o := opOf ops3 9) (t := 39) (by kernel_rfl)
   have e8 : a'.tmps.getD 39 undef = V 8 := hdep 8 (by kernel_rfl)
   rw [e8] at this
   exact this
 ·refine h a' k q1 (by rw [q2, hd]) (fun t ht ht' => q4 t fun i hi => ?_) (q3 9 (by rw [size3]; decide))
  rw [size3] at hi
  rcases D3_in hi with h | h <;> omega
end
end Go.Pli
