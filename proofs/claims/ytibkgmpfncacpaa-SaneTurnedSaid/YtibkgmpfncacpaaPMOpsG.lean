/- PM: each operation, sound: the seventh part: choices, lengths, append as an operation. -/
import Derived.Test.YtibkgmpfncacpaaPMOpsF
import Derived.Laws.Small
namespace Go.PM
open Go
section
variable {P : Program} {G : Ctx} {w0 : World} {T : Nat → Prop} {f0 : F0} {n : Nat} {e : Env} {a : Act} {W : World} {g : Gh} {o : Oper}
theorem bool_of_vrep {fix : Nat → Nat → Prop} {W : World} {b : Bool} {v : Value} (h : VRep fix W .bool b v) : v = .bool b := by
 have h1 := h.1
 have h2 := h.2
 rw [isAgg_false_cells h1] at h2
 simpa [Rep] using h2
theorem sound_pick {c x y : Operand} (ho : o.op = .pick c x y) : Sound P G w0 T f0 o := by
 intro e e' a W g K Q h hd hr hK
 simp only [opV, ho] at hr
 obtain ⟨b, hr1, hb⟩ := getD_sound h hr
 obtain ⟨p, hr2, hdx, hpx⟩ := getV_sound h hr1
 obtain ⟨q, hr3, hdy, hpy⟩ := getV_sound h hr2
 clear hr hr1 hr2
 have hc := bool_of_vrep hb
 have hex : (execOp a.eval o).run P W = .ok (.value (if b then a.eval x else a.eval y)) W := by
  simp [execOp, ho, hc, asBool]
 split at hr3
 ·rename_i b1 t1 b2 t2 bb
  have hx := bool_of_dat hdx
  have hy := bool_of_dat hdy
  refine value_put h hd hr3 rfl rfl ?_ hex hK
  cases b
  ·simp only [Bool.false_eq_true, if_false, cond_false, hy]; exact bool_dat g W _
  ·simp only [if_true, cond_true, hx]; exact bool_dat g W _
 ·rw [put_run hr3] at hK
  exact wp_value hex (hK _ _ _ (h.putDat hd (by
   simp only [Bool.false_eq_true, if_false]
   unfold Dat at hdy ⊢
   rwa [PV.clear_clear]) (PV.clear_clear _) (clear_ptr hpy)))
 ·rw [put_run hr3] at hK
  exact wp_value hex (hK _ _ _ (h.putDat hd (by
   simp only [if_true]
   unfold Dat at hdx ⊢
   rwa [PV.clear_clear]) (PV.clear_clear _) (clear_ptr hpx)))
 ·simp [Prog.run] at hr3
theorem str_of_vrep {fix : Nat → Nat → Prop} {W : World} {s : ByteArray} {v : Value} (h : VRep fix W .str s v) : v = .string s := by
 have h1 := h.1
 have h2 := h.2
 rw [isAgg_false_cells h1] at h2
 simpa [Rep] using h2
theorem TyOk.str_und {t : TypeId} (h : TyOk P t .str) : P.underlying t = some .string := by
 unfold TyOk at h
 simp only [tyGo, Bool.and_eq_true] at h
 have h2 := h.2
 split at h2
 ·assumption
 ·simp at h2
theorem args_one {A : Array Operand} {x : Operand} (h : A.toList = [x]) : A = #[x] := by
 apply Array.ext'; rw [h]
theorem args_two {A : Array Operand} {x y : Operand} (h : A.toList = [x, y]) : A = #[x, y] := by
 apply Array.ext'; rw [h]
theorem types_one {A : Array TypeId} {x : TypeId} (h : A.toList = [x]) : A = #[x] := by
 apply Array.ext'; rw [h]
theorem types_two {A : Array TypeId} {x y : TypeId} (h : A.toList = [x, y]) : A = #[x, y] := by
 apply Array.ext'; rw [h]
theorem sound_len {c : Call} (hG : CtxTys P G) (ho : o.op = .call c) (hc : c.callee = .builtin .len) : Sound P G w0 T f0 o := by
 intro e e' a W g K Q h hd hr hK
 simp only [opV, ho, hc] at hr
 split at hr
 ·rename_i x t hx ht
  have hargs := args_one hx
  have htys := types_one ht
  split at hr
  ·rename_i el r hty
   have htk := hG _ _ hty
   obtain ⟨xs, hr1, hxs⟩ := getD_sound h hr
   obtain ⟨A, cp, hv, _, _⟩ := sl_of_vrep hxs
   exact value_put h hd hr1 rfl rfl (int_dat g W .i64 xs.length) (by simp [execOp, ho, resolve, hc, hargs, htys, invoke, builtin, hv, Builtin.len_, run_underlying htk.sl_und, goInt]) hK
  ·rename_i hty
   have htk := hG _ _ hty
   obtain ⟨s, hr1, hs⟩ := getD_sound h hr
   have hv := str_of_vrep hs
   exact value_put h hd hr1 rfl rfl (int_dat g W .i64 s.size) (by simp [execOp, ho, resolve, hc, hargs, htys, invoke, builtin, hv, Builtin.len_, run_underlying htk.str_und, goInt]) hK
  ·simp [Prog.run] at hr
 ·simp [Prog.run] at hr
theorem int_max (a b : Int) : max a b = if b > a then b else a := by
 rw [Int.max_def]; split <;> split <;> omega
theorem int_min (a b : Int) : min a b = if b < a then b else a := by
 rw [Int.min_def]; split <;> split <;> omega
theorem sound_max {c : Call} (ho : o.op = .call c) (hc : c.callee = .builtin .max) : Sound P G w0 T f0 o := by
 intro e e' a W g K Q h hd hr hK
 simp only [opV, ho, hc] at hr
 split at hr
 ·rename_i x y hx
  have hargs := args_two hx
  obtain ⟨p, hr1, hdx, -⟩ := getV_sound h hr
  obtain ⟨q, hr2, hdy, -⟩ := getV_sound h hr1
  clear hr hr1
  split at hr2
  ·rename_i k m _ k' m' _
   split at hr2
   ·rename_i hk
    subst hk
    have h1 := int_of_dat hdx
    have h2 := int_of_dat hdy
    have hmx : max m m' = (if m' > m then m' else m) := int_max m m'
    refine value_put h hd hr2 rfl rfl (int_dat g W k (max m m')) ?_ hK
    rw [hmx]
    simp [execOp, ho, resolve, hc, hargs, invoke, builtin, h1, h2, run_max_int2]
   ·simp [Prog.run] at hr2
  ·simp [Prog.run] at hr2
 ·simp [Prog.run] at hr
theorem sound_min {c : Call} (ho : o.op = .call c) (hc : c.callee = .builtin .min) : Sound P G w0 T f0 o := by
 intro e e' a W g K Q h hd hr hK
 simp only [opV, ho, hc] at hr
 split at hr
 ·rename_i x y hx
  have hargs := args_two hx
  obtain ⟨p, hr1, hdx, -⟩ := getV_sound h hr
  obtain ⟨q, hr2, hdy, -⟩ := getV_sound h hr1
  clear hr hr1
  split at hr2
  ·rename_i k m _ k' m' _
   split at hr2
   ·rename_i hk
    subst hk
    have h1 := int_of_dat hdx
    have h2 := int_of_dat hdy
    have hmx : min m m' = (if m' < m then m' else m) := int_min m m'
    refine value_put h hd hr2 rfl rfl (int_dat g W k (min m m')) ?_ hK
    rw [hmx]
    simp [execOp, ho, resolve, hc, hargs, invoke, builtin, h1, h2, run_min_int2]
   ·simp [Prog.run] at hr2
  ·simp [Prog.run] at hr2
 ·simp [Prog.run] at hr
theorem sound_append {c : Call} (hG : CtxTys P G) (ho : o.op = .call c) (hc : c.callee = .builtin .append) : Sound P G w0 T f0 o := by
 intro e e' a W g K Q h hd hr hK
 simp only [opV, ho, hc] at hr
 split at hr
 ·rename_i x y t t' hx ht
  have hargs := args_two hx
  have htys := types_two ht
  split at hr
  ·rename_i htt
   subst htt
   split at hr
   ·rename_i el r hty
    have htk := hG _ _ hty
    have hx2 : c.args.map a.eval = #[a.eval x, a.eval y] := by rw [hargs]; simp
    -- the value handed on, in a state that has lost it
    have fin : ∀ (e1 : Env) (xs : List r.D), St w0 T f0 G.n e1 a W g → Rep g.fix W (.sl el r) xs [a.eval x] → (∃ q, Tip g.fix g.own W q (.sl el r) (a.eval x) ∧ (a.eval x ≠ .slice none 0 0 → Free e1 q)) →
      ((getD (.sl el r) y fun ys => .chk (decide (xs.length + ys.length < rowMax)) (put o.dst (.val ⟨.sl el r, xs ++ ys, true⟩) .done))).run e1 some = some e' → o.wp P a W K Q := by
     intro e1 xs h1 hrep ⟨q, htip, hfree⟩ hr
     obtain ⟨ys, hr1, hys⟩ := getD_sound h1 hr
     obtain ⟨hb, hr2⟩ := chk_run hr1
     obtain ⟨v', W', g', k1, k2, k3, k4, k5⟩ := h1.append (P := P) (t := t) (ty := o.type) htk hrep htip hfree (vrep_one hys rfl) (of_decide_eq_true hb) (.slot (o.dst.getD 0))
     rw [put_run hr2] at hK
     refine wp_value (v := v') (W' := W') (by simp [execOp, ho, resolve, hc, htys, hx2, invoke, builtin, k1]) (hK _ _ _ (k2.putDst hd (fun d hd' => ⟨k3, k4, fun _ => ?_⟩) (not_ptr rfl _)))
     rw [hd'] at k5
     exact k5
    rcases hand_sound h hr with ⟨pv, hr1, hcl, hdat, _⟩ | ⟨s, ty, z, hxs, hes, hr1, h', hdat, htip⟩
    ·rcases typed_cases (some (.sl el r)) pv with he | ⟨he, ⟨el', r', hT, hty'⟩ | hty'⟩
     ·rw [he] at hr1
      split at hr1
      ·rename_i te zs _
       simp [PV.clear, DV.clear] at hcl
      ·simp [Prog.run] at hr1
     ·rw [hty'] at hr1
      subst he
      injection hT with hT
      injection hT with hT1 hT2
      subst hT1; subst hT2
      have hv : a.eval x = .slice none 0 0 := hdat
      split at hr1
      ·rename_i te zs heq
       injection heq with heq
       injection heq with q1 q2 q3
       subst q1
       have q2 := eq_of_heq q2
       subst q2
       split at hr1
       ·rename_i xs hxs
        obtain ⟨tp, hxs⟩ := DV.as_eq hxs
        injection hxs with _ hxs _
        subst hxs
        refine fin e _ h ?_ ⟨.arg 0, .inl ⟨none, 0, hv⟩, fun hn => absurd hv hn⟩ hr1
        rw [hv]
        exact ⟨none, 0, rfl, ⟨Nat.le_refl _, Nat.zero_le _⟩, fun hh => absurd rfl hh⟩
       ·simp [Prog.run] at hr1
      ·(first | (rename_i hne; exact (hne _ _ rfl).elim) | cases hr1)
     ·rw [hty'] at hr1
      cases hr1
    ·simp only [typed] at hr1
     split at hr1
     ·rename_i xs hxs'
      obtain ⟨tp, hxs'⟩ := DV.as_eq hxs'
      injection hxs' with q1 q2 q3
      subst q1
      have q2 := eq_of_heq q2
      subst q2
      exact fin _ _ h' hdat.2.1 ⟨.slot s, htip, fun _ => free_slot rfl⟩ hr1
     ·simp [Prog.run] at hr1
   ·simp [Prog.run] at hr
  ·simp [Prog.run] at hr
 ·simp [Prog.run] at hr
end
end Go.PM
