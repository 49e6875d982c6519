/- SaneTurned by hand: from the row's input to the walk, and back. -/
import Derived.Test.YtibkgmpfncacpaaPliAt06H
namespace Go.Pli
open Go Go.PM Go.Proofs Go.RowKit Go.ChangeShapes Go.WideShapes
section
variable {H : Type} {enc : TypeId × Value → H} {P : Program}
theorem arg_read {W : World} {base : Nat} {t : TypeId} {T : Ty} {v : Value} {d : DataW H} {p : List MemPlace} (hty : TyOk P t T) (h : DataW.Trod enc P W 0 (fun _ => true) true t v d p) (hS : ∀ b o, MemPlace.cell b o ∈ p → W.frozen? ⟨b, o, none⟩ = false) (hw : (d.weights P t).all (· ≤ reachBytes) = true) (hv : Value.okWide P W .any base t v) :
  ∃ x : T.D, Value.isAgg v = T.isAgg ∧ Rep (fun b o => b < W.heap.size ∧ W.frozen? ⟨b, o, none⟩ = false) W T x v.cells.toList ∧ Wf P T x := by
 obtain ⟨fuel, h1⟩ := h
 obtain ⟨x, hx, wx⟩ := (readS_both (S := fun b o => W.frozen? ⟨b, o, none⟩ = false) T).1 t fuel _ d p hty h1 hS hw
 exact ⟨x, okWide_agg hty hv, hx, wx⟩
theorem agg_eq {v : Value} (h : Value.isAgg v = true) : ∃ cs, v = .agg cs := by
 cases v <;> first | (cases h; done) | exact ⟨_, rfl⟩
theorem int_of {fix : Nat → Nat → Prop} {W : World} {k : IntKind} {x : Int} {v : Value} (h : Value.isAgg v = false) (hr : Rep fix W (.int k) x v.cells.toList) : v = .int k x := by
 rw [isAgg_false_cells h] at hr
 have hr : [v] = [.int k x] := hr
 injection hr
theorem said_walk {f : FuncId} {fn : Func} {s : ChangeSpec} {tb : TypeId} (hl : laidOutB P = true)
  (hrr : fn.params.toList.all (fun t => P.readableRec t && decide (t < P.types.size)) = true) (hres : fn.resultTypes = #[tb]) (htb : P.underlying tb = some .bool) (hv : s.vars = []) {apart fresh handsOn again : Bool}
  (W : World) (args : Array Value) (ds gs : List (DataW H)) (before : List MemPlace) (hs : s.fn H ds = { results := [.lit (.bool true)], args := ds })
  (hW : DataW.Whole enc P fn.params.toList s.vars apart W args.toList ds gs before)
  (hc : Calls P f args W fun e W' => e = .returned (.bool true) ∧ Elder W W') :
  Calls P f args W fun e W' => ∃ v, e = .returned v ∧ s.post enc P fn apart fresh handsOn again W args v W' := by
 have hW' := hW
 obtain ⟨p, q, hA, hV, hpq, hfz, hnd⟩ := hW
 rw [hv] at hV
 have hgs : gs = [] ∧ q = [] := by
  cases gs with
  | nil => exact ⟨rfl, hV⟩
  | cons => exact hV.elim
 obtain ⟨rfl, rfl⟩ := hgs
 rw [List.append_nil] at hpq
 subst hpq
 refine hc.mono fun e W1 ⟨he, hE⟩ => ⟨_, he, ?_⟩
 have hb : Below W.heap.size W W1 := ⟨hE.os, hE.tape, hE.output, hE.size, fun k hk => hE.old k hk⟩
 refine post_of_below (pa := before) (pv := []) hW' (fun b sp hd => ?_) (fun sp hsp => ?_) (fun sp _ => ?_) (by simp) hb (ok_one hres rfl (okWide_bool_mk htb true))
 ·rw [List.append_nil, hs, hres]
  exact trodAll_mk1 (shut_bool htb true)
 ·rw [List.append_nil, hs]
  exact trodAll_below hl hb _ _ _ _ hrr hA hW'.lt hsp
 ·rw [List.append_nil, hs, hv]
  rfl
end
theorem trodAll_len {H : Type} {enc : TypeId × Value → H} {P : Program} {W : World} {sp : Nat → Bool} {hd : Bool} : ∀ (ts : List TypeId) (vs : List Value) (ds : List (DataW H)) (ps : List MemPlace), DataW.TrodAll enc P W 0 sp hd ts vs ds ps → vs.length = ts.length ∧ ds.length = ts.length
 | [], [], [], _, _ => ⟨rfl, rfl⟩
 | [], [], _ :: _, _, h => h.elim
 | [], _ :: _, _, _, h => h.elim
 | _ :: _, [], _, _, h => h.elim
 | _ :: _, _ :: _, [], _, h => h.elim
 | _ :: ts, _ :: vs, _ :: ds, _, h => by
  obtain ⟨_, q, -, h2, -⟩ := h
  obtain ⟨a, b⟩ := trodAll_len ts vs ds q h2
  simp [a, b]
theorem small_of {P : Program} {u : Int} (h : Wf P (.int .u8) u) : 0 ≤ u ∧ u < 256 := by
 have h : IntKind.u8.min ≤ u ∧ u ≤ IntKind.u8.max := h
 have e1 : IntKind.u8.min = 0 := rfl
 have e2 : IntKind.u8.max = 255 := rfl
 omega
theorem args5 {P : Program} {W : World} {base : Nat} {H : Type} {enc : TypeId × Value → H} {args : Array Value} {ds : List (DataW H)} {before : List MemPlace} {params : Array TypeId} {t0 t1 : TypeId} {T : Ty} (hT : TyOk P t0 T) (hag : T.isAgg = true) (h5 : TyOk P t1 (.int .u8)) (hpar : params.toList = [t0, t1, t1, t1, t1])
  (hval : ∀ (j : Nat) t v, params[j]? = some t → args[j]? = some v → Value.okWide P W .any base t v)
  (hA : DataW.TrodAll enc P W 0 (fun _ => true) true [t0, t1, t1, t1, t1] args.toList ds before) (hz : W.noneFrozen before) (hw : (DataW.weightsEach P [t0, t1, t1, t1, t1] ds).all (· ≤ reachBytes) = true) :
  ∃ (cs : Array Value) (m : T.D) (f pc x y : Int), args = #[.agg cs, .int .u8 f, .int .u8 pc, .int .u8 x, .int .u8 y] ∧ Rep (fun b o => b < W.heap.size ∧ W.frozen? ⟨b, o, none⟩ = false) W T m cs.toList ∧ (0 ≤ f ∧ f < 256) ∧ (0 ≤ pc ∧ pc < 256) := by
 have hall : ∀ (j : Nat) (t : TypeId) (v : Value), ([t0, t1, t1, t1, t1] : List TypeId)[j]? = some t → args[j]? = some v → Value.okWide P W .any base t v := fun j t v ht hv => by
  rw [← hpar] at ht
  exact hval j t v (by simpa using ht) hv
 clear hval
 obtain ⟨l⟩ := args
 obtain ⟨hll, hdl⟩ := trodAll_len _ _ _ _ hA
 match l, hll, ds, hdl with
 | [v0, v1, v2, v3, v4], _, [k0, k1, k2, k3, k4], _ =>
  obtain ⟨p0, q0, a0, ⟨p1, q1, a1, ⟨p2, q2, a2, ⟨p3, q3, a3, ⟨p4, q4, a4, a5, rfl⟩, rfl⟩, rfl⟩, rfl⟩, rfl⟩ := hA
  have a5 : q4 = [] := a5
  subst a5
  simp only [DataW.weightsEach, List.all_append, Bool.and_eq_true] at hw
  obtain ⟨w0, w1, w2, w3, w4, -⟩ := hw
  have hz0 : ∀ b o, MemPlace.cell b o ∈ p0 → W.frozen? ⟨b, o, none⟩ = false := fun b o hb => hz b o (List.mem_append.2 (.inl hb))
  have hz1 : ∀ b o, MemPlace.cell b o ∈ p1 → W.frozen? ⟨b, o, none⟩ = false := fun b o hb => hz b o (List.mem_append.2 (.inr (List.mem_append.2 (.inl hb))))
  have hz2 : ∀ b o, MemPlace.cell b o ∈ p2 → W.frozen? ⟨b, o, none⟩ = false := fun b o hb => hz b o (List.mem_append.2 (.inr (List.mem_append.2 (.inr (List.mem_append.2 (.inl hb))))))
  have hz3 : ∀ b o, MemPlace.cell b o ∈ p3 → W.frozen? ⟨b, o, none⟩ = false := fun b o hb => hz b o (List.mem_append.2 (.inr (List.mem_append.2 (.inr (List.mem_append.2 (.inr (List.mem_append.2 (.inl hb))))))))
  have hz4 : ∀ b o, MemPlace.cell b o ∈ p4 → W.frozen? ⟨b, o, none⟩ = false := fun b o hb => hz b o (List.mem_append.2 (.inr (List.mem_append.2 (.inr (List.mem_append.2 (.inr (List.mem_append.2 (.inr (List.mem_append.2 (.inl hb))))))))))
  obtain ⟨m, g0, r0, -⟩ := arg_read hT a0 hz0 w0 (hall 0 t0 v0 rfl (by simp))
  obtain ⟨f, g1, r1, f1⟩ := arg_read h5 a1 hz1 w1 (hall 1 t1 v1 rfl (by simp))
  obtain ⟨pc, g2, r2, f2⟩ := arg_read h5 a2 hz2 w2 (hall 2 t1 v2 rfl (by simp))
  obtain ⟨x, g3, r3, -⟩ := arg_read h5 a3 hz3 w3 (hall 3 t1 v3 rfl (by simp))
  obtain ⟨y, g4, r4, -⟩ := arg_read h5 a4 hz4 w4 (hall 4 t1 v4 rfl (by simp))
  obtain ⟨cs, rfl⟩ := agg_eq (g0.trans hag)
  have e1 := int_of g1 r1
  have e2 := int_of g2 r2
  have e3 := int_of g3 r3
  have e4 := int_of g4 r4
  subst e1; subst e2; subst e3; subst e4
  have b1 : 0 ≤ f ∧ f < 256 := small_of f1
  have b2 : 0 ≤ pc ∧ pc < 256 := small_of f2
  exact ⟨cs, m, f, pc, x, y, rfl, r0, b1, b2⟩
noncomputable section
theorem walk_calls {W : World} {cs : Array Value} {m : Im} {f pc x y : Int} (hrep : Rep (fun b o => b < W.heap.size ∧ W.frozen? ⟨b, o, none⟩ = false) W tyTIm m cs.toList) (b1 : 0 ≤ f ∧ f < 256) (b2 : 0 ≤ pc ∧ pc < 256) :
  Calls Try.prog 4 #[.agg cs, .int .u8 f, .int .u8 pc, .int .u8 x, .int .u8 y] W fun e W' => e = .returned (.bool true) ∧ Elder W W' := by
 have hN : Try.f4.ntmps = 84 := by kernel_rfl
 refine calls_of_wp Try.func4 (c := st0) (by kernel_rfl) ?_
 rw [hN]
 refine walk06 (cs := cs) (m := m) (f := f) (pc := pc) (x := x) (y := y) (S := fun b o => b < W.heap.size ∧ W.frozen? ⟨b, o, none⟩ = false) (by simp) rfl (by simp) (by simp) (by simp) (by simp) (by simp) (fun b o h => h) hrep b1 b2 fun a' W' q1 q2 q3 => ?_
 have hres : Try.f4.results.toList = [.tmp 10] := by kernel_rfl
 have hone : OnesTo Try.prog W' a'.tmps Try.f4.results.toList [.bool true] := by
  rw [hres]
  exact ⟨q2.symm, trivial⟩
 exact ⟨q1, _, results_run hone, rfl, q3⟩
end
end Go.Pli
