/- PM: each operation, sound: the sixth part: literals, cuts, lengths. -/
import Derived.Test.YtibkgmpfncacpaaPMOpsE
namespace Go.PM
open Go
section
variable {P : Program} {G : Ctx} {w0 : World} {T : Nat → Prop} {f0 : F0} {n : Nat} {e : Env} {a : Act} {W : World} {g : Gh} {o : Oper}
theorem fold_set (off : Nat) : ∀ (us : List Value) (k : Nat) (A : Array Value), off + k + us.length ≤ A.size →
  ((us.zipIdx k).foldl (fun cs (p : Value × Nat) => cs.setIfInBounds (off + p.2) p.1) A).toList = A.toList.take (off + k) ++ us ++ A.toList.drop (off + k + us.length)
 | [], k, A, _ => by simp
 | u :: us, k, A, h => by
  simp only [List.length_cons] at h
  simp only [List.zipIdx_cons, List.foldl_cons]
  rw [fold_set off us (k + 1) _ (by simp; omega)]
  have hlt : off + k < A.toList.length := by simp; omega
  simp only [Array.toList_setIfInBounds, List.length_cons]
  rw [show off + (k + 1) = off + k + 1 by omega]
  have h1 : (A.toList.set (off + k) u).take (off + k + 1) = A.toList.take (off + k) ++ [u] := by
   rw [List.take_succ_eq_append_getElem (by simpa using hlt)]
   rw [List.take_set_of_le (Nat.le_refl _)]
   simp
  have h2 : (A.toList.set (off + k) u).drop (off + k + 1 + us.length) = A.toList.drop (off + k + (us.length + 1)) := by
   rw [List.drop_set_of_lt (by omega)]
   congr 1; omega
  rw [h1, h2]
  simp
theorem fill_step (place : Nat → Option (Nat × Nat)) (cells : Array Value) (i off size : Nat) (v : Value) (rest : List (Nat × Value)) (hp : place i = some (off, size)) (hs : v.cells.size = size) (hf : off + v.cells.size ≤ cells.size) :
  Instr.fill place cells ((i, v) :: rest) = Instr.fill place (cells.toList.take off ++ v.cells.toList ++ cells.toList.drop (off + v.cells.size)).toArray rest := by
 rw [Instr.fill, hp]
 simp only []
 rw [if_neg (by rw [hs]; rw [hs] at hf; simp; omega)]
 congr 1
 apply Array.ext'
 have := fold_set off v.cells.toList 0 cells (by simpa using hf)
 simp only [Nat.add_zero, Array.length_toList] at this
 rw [List.toList_toArray, ← this, ← Array.foldl_toList, Array.toList_zipIdx]
theorem tyGo_all : ∀ (T : Ty) (fs : List Field) (o : Nat), tyGo P T (.inr (fs, o)) = true → ∀ f ∈ fs, ∃ s, ∀ W, (sizeOf f.type).run P W = .ok s W
 | .unit, fs, o, h, f, hf => by simp only [tyGo, List.isEmpty_iff] at h; subst h; simp at hf
 | .pair p q, fs, o, h, f, hf => by
  cases fs with
  | nil => simp at hf
  | cons fd l =>
   simp only [tyGo, Bool.and_eq_true] at h
   rcases List.mem_cons.1 hf with rfl | hf
   ·exact ⟨p.sz, fun W => TyOk.run_size (T := p) h.1.2 W⟩
   ·exact tyGo_all q l _ h.2 f hf
 | .int _, _, _, h, _, _ => by simp [tyGo] at h
 | .bool, _, _, h, _, _ => by simp [tyGo] at h
 | .str, _, _, h, _, _ => by simp [tyGo] at h
 | .sl _ _, _, _, h, _, _ => by simp [tyGo] at h
 | .any, _, _, h, _, _ => by simp [tyGo] at h
 | .clo _ _, _, _, h, _, _ => by simp [tyGo] at h
theorem NilTips.put {cs ds : List DV} {vs us : List Value} {off : Nat} (h : NilTips cs vs) (hd : ∀ d ∈ ds, d.tip = false) (hl : ds.length = us.length) (ho : off + ds.length ≤ cs.length) (hcv : cs.length = vs.length) :
  NilTips (putCells cs off ds) (vs.take off ++ us ++ vs.drop (off + us.length)) := by
 intro j d hj ht
 have htl : (vs.take off).length = off := by rw [List.length_take]; omega
 have hcl : (cs.take off).length = off := by rw [List.length_take]; omega
 unfold putCells at hj
 rcases Nat.lt_or_ge j off with hlt | hge
 ·rw [List.append_assoc, List.getElem?_append_left (by omega), List.getElem?_take, if_pos hlt] at hj
  obtain ⟨k1, k2⟩ := h j d hj ht
  exact ⟨k1, by rw [List.append_assoc, List.getElem?_append_left (by omega), List.getElem?_take, if_pos hlt]; exact k2⟩
 ·rw [List.append_assoc, List.getElem?_append_right (by omega), hcl] at hj
  rcases Nat.lt_or_ge (j - off) ds.length with hlt | hge2
  ·rw [List.getElem?_append_left hlt] at hj
   rw [hd d (List.mem_of_getElem? hj)] at ht; cases ht
  ·rw [List.getElem?_append_right hge2, List.getElem?_drop] at hj
   rw [show off + ds.length + (j - off - ds.length) = j by omega] at hj
   obtain ⟨k1, k2⟩ := h j d hj ht
   refine ⟨k1, ?_⟩
   rw [List.append_assoc, List.getElem?_append_right (by omega), htl, List.getElem?_append_right (by omega), List.getElem?_drop]
   rw [show off + us.length + (j - off - us.length) = j by omega]
   exact k2
theorem run_mapM_sizes : ∀ (fs : List Field), (∀ f ∈ fs, ∃ s, ∀ W, (sizeOf f.type).run P W = .ok s W) → ∃ ps : List (Nat × Nat), ps.length = fs.length ∧ (∀ (i : Nat) f, fs[i]? = some f → ∃ s, ps[i]? = some (f.offset, s) ∧ ∀ W, (sizeOf f.type).run P W = .ok s W) ∧
  ∀ W, (fs.mapM fun f => (do pure (f.offset, ← sizeOf f.type) : Sem (Nat × Nat))).run P W = .ok ps W
 | [], _ => ⟨[], rfl, fun i f h => by simp at h, fun W => by simp⟩
 | f :: fs, h => by
  obtain ⟨s, hs⟩ := h f (by simp)
  obtain ⟨ps, h1, h2, h3⟩ := run_mapM_sizes fs (fun f hf => h f (by simp [hf]))
  refine ⟨(f.offset, s) :: ps, by simp [h1], fun i f' hf => ?_, fun W => ?_⟩
  ·cases i with
   | zero => simp at hf; subst hf; exact ⟨s, rfl, hs⟩
   | succ i => simpa using h2 i f' (by simpa using hf)
  ·have h3' := h3 W
   simp only [List.mapM_cons, Sem.run_bind, hs W, Result.andThen_ok, Sem.run_pure]
   rw [h3']
   simp
theorem buildParts_sound (h : St w0 T f0 n e a W g) {t : TypeId} {ty : Ty} (ht : TyOk P t ty) {place : Nat → Option (Nat × Nat)} (hpl : ∀ i off ft, ty.fld i = some (off, ft) → place i = some (off, ft.sz)) : ∀ (parts : List (Nat × Operand)) (cs : List DV) (Z : Array Value) {k : List DV → Prog} {e' : Env}, Cells g.fix W cs Z.toList → cs.length = ty.sz → NilTips cs Z.toList →
  (buildParts ty parts cs k).run e some = some e' → ∃ cs' Z', Instr.fill place Z (parts.map fun p => (p.1, a.eval p.2)) = some Z' ∧ Cells g.fix W cs' Z'.toList ∧ NilTips cs' Z'.toList ∧ (k cs').run e some = some e'
 | [], cs, Z, k, e', hc, _, hn, hr => ⟨cs, Z, rfl, hc, hn, hr⟩
 | (i, x) :: l, cs, Z, k, e', hc, hlen, hn, hr => by
  simp only [buildParts] at hr
  split at hr
  ·rename_i off ft hf
   obtain ⟨y, hr1, hy⟩ := getD_sound h hr
   obtain ⟨fs, fd, k1, k2, k3, k4, k5, k6⟩ := ht.field hf
   have hyl := hy.2.len
   have hcl := hc.len
   have hzl : Z.size = ty.sz := by simp at hcl; omega
   have hcells := Cells.split _ _ _ hy.2
   have hsl := hcells.len
   have hstep := fill_step place Z i off ft.sz (a.eval x) (l.map fun p => (p.1, a.eval p.2)) (hpl i off ft hf) (by simpa using hyl) (by simp at hyl; omega)
   obtain ⟨cs', Z', q1, q2, q4, q3⟩ := buildParts_sound h ht hpl l (putCells cs off (ft.split y)) (Z.toList.take off ++ (a.eval x).cells.toList ++ Z.toList.drop (off + (a.eval x).cells.size)).toArray (by
    have hss : (a.eval x).cells.size = (ft.split y).length := by rw [hsl]; simp
    rw [List.toList_toArray, hss]
    exact ((hc.take off).append hcells).append (hc.drop _)) (by
    simp only [putCells, List.length_append, List.length_take, List.length_drop]
    rw [hsl, hyl]; omega) (by
    have hss : (a.eval x).cells.size = (a.eval x).cells.toList.length := by simp
    rw [List.toList_toArray, hss]
    exact hn.put (split_tips ft y) hsl (by rw [hsl, hyl]; omega) hcl) hr1
   exact ⟨cs', Z', by rw [List.map_cons, hstep]; exact q1, q2, q4, q3⟩
  ·simp [Prog.run] at hr
theorem build_core {t : TypeId} {ty : Ty} (htk : TyOk P t ty) (hag : ty.isAgg = true) (W : World) : ∃ (place : Nat → Option (Nat × Nat)) (z : Array Value), (∀ i off ft, ty.fld i = some (off, ft) → place i = some (off, ft.sz)) ∧ z.toList = zeroCells ty ∧
  ∀ (parts : Array (Nat × Operand)) (Z' : Array Value), o.op = .build t parts → Instr.fill place z (parts.toList.map fun p => (p.1, a.eval p.2)) = some Z' → (execOp a.eval o).run P W = .ok (.value (.agg Z')) W := by
 obtain ⟨z, hz1, hz2, hz3⟩ := htk.run_zero
 have hstr : ∃ fs, P.underlying t = some (.struct fs) ∧ tyGo P ty (.inr (fs.toList, 0)) = true := by
  unfold TyOk at htk
  cases ty <;> simp [Ty.isAgg] at hag
  ·simp only [tyGo, Bool.and_eq_true] at htk
   have h2 := htk.2
   split at h2
   ·rename_i fs hfs; exact ⟨fs, hfs, by simpa [tyGo] using h2⟩
   ·simp at h2
  ·simp only [tyGo, Bool.and_eq_true] at htk
   have h2 := htk.2
   split at h2
   ·rename_i fs hfs
    refine ⟨fs, hfs, ?_⟩
    simp only [tyGo]
    split at h2
    ·simpa using h2
    ·simp at h2
   ·simp at h2
 obtain ⟨fs, hfs, hgo⟩ := hstr
 obtain ⟨ps, p1, p2, p3⟩ := run_mapM_sizes (P := P) fs.toList (tyGo_all ty fs.toList 0 hgo)
 refine ⟨fun i => (ps.toArray[i]? : Option (Nat × Nat)), z.cells, ?_, hz2, fun parts Z' ho hq => ?_⟩
 ·intro i off ft hf
  obtain ⟨fd, k1, k2, k3, k4, k5⟩ := fld_go ty fs.toList 0 i off ft hgo hf
  obtain ⟨s, s1, s2⟩ := p2 i fd k1
  have := (s2 W).symm.trans (k3.run_size W)
  injection this with this
  simp only [List.getElem?_toArray, s1, this]
  simp; omega
 have hmap : ∀ W, (fs.mapM fun f => (do pure (f.offset, ← sizeOf f.type) : Sem (Nat × Nat))).run P W = .ok ps.toArray W := fun W => by
  rw [Array.mapM_eq_mapM_toList]
  simp only [Sem.run_map, p3 W, Result.andThen_ok]
 have hmap' : ∀ W, (fs.mapM fun f => Prod.mk f.offset <$> sizeOf f.type).run P W = .ok ps.toArray W := fun W => by
  have := hmap W
  simpa using this
 simp only [List.getElem?_toArray] at hq
 simp [execOp, ho, Instr.build, hz3, run_underlying hfs, hmap', hq]
theorem sound_build {t : TypeId} {parts : Array (Nat × Operand)} (hG : CtxTys P G) (ho : o.op = .build t parts) : Sound P G w0 T f0 o := by
 intro e e' a W g K Q h hd hr hK
 simp only [opV, ho] at hr
 split at hr
 ·rename_i ty hty
  have htk := hG _ _ hty
  obtain ⟨hag, hr⟩ := chk_run hr
  obtain ⟨z, hz1, hz2, hz3⟩ := htk.run_zero
  have hstr : ∃ fs, P.underlying t = some (.struct fs) ∧ tyGo P ty (.inr (fs.toList, 0)) = true := by
   unfold TyOk at htk
   cases ty <;> simp [Ty.isAgg] at hag
   ·simp only [tyGo, Bool.and_eq_true] at htk
    have h2 := htk.2
    split at h2
    ·rename_i fs hfs; exact ⟨fs, hfs, by simpa [tyGo] using h2⟩
    ·simp at h2
   ·simp only [tyGo, Bool.and_eq_true] at htk
    have h2 := htk.2
    split at h2
    ·rename_i fs hfs
     refine ⟨fs, hfs, ?_⟩
     simp only [tyGo]
     split at h2
     ·simpa using h2
     ·simp at h2
    ·simp at h2
  obtain ⟨fs, hfs, hgo⟩ := hstr
  obtain ⟨ps, p1, p2, p3⟩ := run_mapM_sizes (P := P) fs.toList (tyGo_all ty fs.toList 0 hgo)
  have hpl : ∀ i off ft, ty.fld i = some (off, ft) → (ps.toArray[i]? : Option (Nat × Nat)) = some (off, ft.sz) := by
   intro i off ft hf
   obtain ⟨fd, k1, k2, k3, k4, k5⟩ := fld_go ty fs.toList 0 i off ft hgo hf
   obtain ⟨s, s1, s2⟩ := p2 i fd k1
   have := (s2 W).symm.trans (k3.run_size W)
   injection this with this
   simp only [List.getElem?_toArray, s1, this]
   simp; omega
  have hzp := htk.plain
  obtain ⟨cs', Z', q1, q2, q4, q3⟩ := buildParts_sound h htk hpl parts.toList (zeros ty) z.cells (by rw [hz2]; exact zeros_cells _ _ _ hzp) (by rw [(zeros_cells g.fix W ty hzp).len, (zero_rep g.fix W ty hzp).len]) (by rw [hz2]; exact zeros_nils _ hzp) hr
  refine value_put h hd q3 rfl rfl (v := .agg Z') ⟨Z', rfl, q2, q4⟩ ?_ hK
  have hmap : ∀ W, (fs.mapM fun f => (do pure (f.offset, ← sizeOf f.type) : Sem (Nat × Nat))).run P W = .ok ps.toArray W := fun W => by
   rw [Array.mapM_eq_mapM_toList]
   simp only [Sem.run_map, p3 W, Result.andThen_ok]
  have hmap' : ∀ W, (fs.mapM fun f => Prod.mk f.offset <$> sizeOf f.type).run P W = .ok ps.toArray W := fun W => by
   have := hmap W
   simpa using this
  have hq : Instr.fill (fun x => (ps.toArray[x]? : Option (Nat × Nat))) z.cells (parts.toList.map fun p => (p.1, a.eval p.2)) = some Z' := q1
  simp only [List.getElem?_toArray] at hq
  simp [execOp, ho, Instr.build, hz3, run_underlying hfs, hmap', hq]
 ·simp [Prog.run] at hr
theorem Rows.set {fix : Nat → Nat → Prop} {W : World} {r : Ty} {xs : List r.D} {cs : List Value} (h : Rows fix W r xs cs) {i : Nat} (hi : i < xs.length) {y : r.D} {us : List Value} (hy : Rep fix W r y us) :
  Rows fix W r (xs.set i y) (cs.take (i * r.sz) ++ us ++ cs.drop (i * r.sz + us.length)) := by
 have hul := hy.len
 have hb : i * r.sz + r.sz ≤ cs.length := by rw [h.1, ← Nat.succ_mul]; exact Nat.mul_le_mul_right _ hi
 refine ⟨by simp only [List.length_append, List.length_take, List.length_drop, List.length_set, hul]; rw [h.1] at *; omega, fun j x hx => ?_⟩
 have htl : (cs.take (i * r.sz)).length = i * r.sz := by rw [List.length_take]; omega
 rcases Nat.lt_trichotomy j i with hlt | rfl | hgt
 ·rw [List.getElem?_set_ne (by omega)] at hx
  have := h.2 j x hx
  have hj : j * r.sz + r.sz ≤ i * r.sz := by rw [← Nat.succ_mul]; exact Nat.mul_le_mul_right _ hlt
  rw [List.append_assoc, List.drop_append_of_le_length (by omega), List.take_append_of_le_length (by rw [List.length_drop]; omega)]
  rw [List.drop_take, List.take_take, Nat.min_eq_left (by omega)]
  exact this
 ·rw [List.getElem?_set_self hi] at hx
  injection hx with hx
  subst hx
  rw [List.append_assoc]
  have e1 : (cs.take (j * r.sz) ++ (us ++ cs.drop (j * r.sz + us.length))).drop (j * r.sz) = us ++ cs.drop (j * r.sz + us.length) := by
   have := List.drop_left (l₁ := cs.take (j * r.sz)) (l₂ := us ++ cs.drop (j * r.sz + us.length))
   rwa [htl] at this
  rw [e1, ← hul, List.take_left]
  exact hy
 ·rw [List.getElem?_set_ne (by omega)] at hx
  have := h.2 j x hx
  have hj : i * r.sz + r.sz ≤ j * r.sz := by rw [← Nat.succ_mul]; exact Nat.mul_le_mul_right _ hgt
  have he : (cs.take (i * r.sz) ++ us ++ cs.drop (i * r.sz + us.length)).drop (j * r.sz) = cs.drop (j * r.sz) := by
   have hpl : (cs.take (i * r.sz) ++ us).length = i * r.sz + r.sz := by rw [List.length_append, htl, hul]
   rw [show j * r.sz = (cs.take (i * r.sz) ++ us).length + (j * r.sz - (i * r.sz + r.sz)) by rw [hpl]; omega, List.drop_length_add_append, List.drop_drop]
   congr 1
   rw [hpl]; omega
  rw [he]
  exact this
theorem buildRow_sound (h : St w0 T f0 n e a W g) {r : Ty} {len : Nat} : ∀ (parts : List (Nat × Operand)) (xs : List r.D) (Z : Array Value) {k : List r.D → Prog} {e' : Env}, Rows g.fix W r xs Z.toList → xs.length = len →
  (buildRow r len parts xs k).run e some = some e' → ∃ xs' Z', Instr.fill (fun i => some (i * r.sz, r.sz)) Z (parts.map fun p => (p.1, a.eval p.2)) = some Z' ∧ Rows g.fix W r xs' Z'.toList ∧ xs'.length = len ∧ (k xs').run e some = some e'
 | [], xs, Z, k, e', hc, hl, hr => ⟨xs, Z, rfl, hc, hl, hr⟩
 | (i, x) :: l, xs, Z, k, e', hc, hl, hr => by
  simp only [buildRow] at hr
  obtain ⟨hi, hr⟩ := chk_run hr
  have hi := Nat.le_of_ble_eq_true hi
  obtain ⟨y, hr1, hy⟩ := getD_sound h hr
  have hyl := hy.2.len
  have hzs : Z.size = len * r.sz := by have := hc.1; rw [hl] at this; simpa using this
  have hb : i * r.sz + r.sz ≤ len * r.sz := by rw [← Nat.succ_mul]; exact Nat.mul_le_mul_right _ hi
  have hcs : (a.eval x).cells.size = r.sz := by simpa using hyl
  have hstep := fill_step (fun i => some (i * r.sz, r.sz)) Z i (i * r.sz) r.sz (a.eval x) (l.map fun p => (p.1, a.eval p.2)) rfl hcs (by omega)
  obtain ⟨xs', Z', q1, q2, q3, q4⟩ := buildRow_sound h l (xs.set i y) (Z.toList.take (i * r.sz) ++ (a.eval x).cells.toList ++ Z.toList.drop (i * r.sz + (a.eval x).cells.size)).toArray (by
   have := hc.set (i := i) (by omega) hy.2
   rw [List.toList_toArray, ← Array.length_toList]
   exact this) (by simp [hl]) hr1
  exact ⟨xs', Z', by rw [List.map_cons, hstep]; exact q1, q2, q3, q4⟩
theorem zero_rows (fix : Nat → Nat → Prop) (W : World) (r : Ty) (hp : r.plain = true) (z : Array Value) (hz : z.toList = zeroCells r) (len : Nat) :
  Rows fix W r (List.replicate len r.zero) ((Array.range (len * r.sz)).map fun k => z[k % z.size]!).toList := by
 have hzl : z.size = r.sz := by have := (zero_rep fix W r hp).len; rw [← hz] at this; simpa using this
 refine ⟨by simp, fun i x hx => ?_⟩
 have hi : i < len := by have := (List.getElem?_eq_some_iff.1 hx).1; simpa using this
 have hx' : x = r.zero := by
  have := (List.getElem?_eq_some_iff.1 hx).2
  simpa using this.symm
 subst hx'
 have hb : i * r.sz + r.sz ≤ len * r.sz := by rw [← Nat.succ_mul]; exact Nat.mul_le_mul_right _ hi
 have : (((Array.range (len * r.sz)).map fun k => z[k % z.size]!).toList.drop (i * r.sz)).take r.sz = zeroCells r := by
  rw [← hz]
  apply List.ext_getElem?
  intro j
  rw [List.getElem?_take]
  by_cases hj : j < r.sz
  ·rw [if_pos hj, List.getElem?_drop]
   have h1 : i * r.sz + j < len * r.sz := by omega
   have h2 : (i * r.sz + j) % z.size = j := by rw [hzl, Nat.add_comm, Nat.add_mul_mod_self_right, Nat.mod_eq_of_lt hj]
   have h3 : j < z.size := by omega
   simp only [Array.toList_map, Array.toList_range, List.getElem?_map, List.getElem?_range h1, Option.map_some, h2]
   rw [getElem!_pos z j h3]
   simp [h3]
  ·rw [if_neg hj, List.getElem?_eq_none (by simp; omega)]
 rw [this]
 exact zero_rep fix W r hp
theorem sound_buildSlice {t : TypeId} {len : Nat} {parts : Array (Nat × Operand)} (hG : CtxTys P G) (ho : o.op = .buildSlice t len parts) : Sound P G w0 T f0 o := by
 intro e e' a W g K Q h hd hr hK
 simp only [opV, ho] at hr
 split at hr
 ·rename_i el r hty
  have htk := hG _ _ hty
  split at hr
  ·rename_i hlen
   have hu := htk.sl_und
   obtain ⟨i, z, hi, hsz, hzz, hzc, hpos, hb1, hb2⟩ := htk.sl_info
   have hrz : ∀ W, (zeroValue el).run P W = .ok z W := fun W => by simp [zeroValue, typeInfo, hi, hzz]
   obtain ⟨xs', Z', q1, q2, q3, q4⟩ := buildRow_sound h (len := len) parts.toList (List.replicate len r.zero) ((Array.range (len * r.sz)).map fun k => z.cells[k % z.cells.size]!) (zero_rows g.fix W r htk.sl_row.plain z.cells hzc len) (by simp) hr
   have hrun : (execOp a.eval o).run P W = .ok (.value (.slice (some ⟨W.heap.size, 0, none⟩) len len)) (W.alloc (.cells Z' el)) := by
    have hl2 : ¬ (len * r.sz > 2 ^ 24) := by omega
    have hmp : (parts.map fun (p : Nat × Operand) => (p.1, a.eval p.2)).toList = parts.toList.map fun p => (p.1, a.eval p.2) := by simp
    have key : (Instr.buildSlice t len (parts.map fun (p : Nat × Operand) => (p.1, a.eval p.2))).run P W = .ok (.slice (some ⟨W.heap.size, 0, none⟩) len len) (W.alloc (.cells Z' el)) := by
     unfold Instr.buildSlice
     rw [hmp]
     simp only [Sem.run_bind, run_underlying hu, Result.andThen_ok, htk.sl_row.run_size]
     rw [if_neg hl2]
     by_cases h0 : len * r.sz = 0
     ·rw [if_pos h0]
      simp only [pure_bind]
      rw [h0] at q1 ⊢
      have e1 : ∀ zz : Array Value, ((Array.range 0).map fun k => zz[k % zz.size]!) = #[] := fun zz => by simp
      rw [e1] at q1
      rw [e1, q1]
      rfl
     ·rw [if_neg h0]
      simp only [Sem.run_bind, Result.andThen_ok, pure_bind, hrz]
      rw [q1]
      rfl
    simp only [execOp, ho, Sem.run_bind, Sem.run_pure]
    rw [key]
    rfl
   obtain ⟨h', hmv, hnew⟩ := h.newRow W rfl rfl rfl rfl Z' el (len * r.sz) (.slot (o.dst.getD 0))
   rw [put_run q4] at hK
   have hrows := q2.mono hmv.fixed
   have hlenle : len ≤ maxLen := by
    have : len ≤ len * r.sz := Nat.le_mul_of_pos_right _ hpos
    simp only [maxLen]; omega
   refine wp_value hrun (hK _ _ _ (h'.putDst hd (fun d hd' => ⟨rfl, ?_, ⟨W.heap.size, len, Z', rfl, hnew, hlenle, ?_, by simp [hd'], fun oo hoo => ?_⟩⟩) (not_ptr rfl e)))
   ·have := Rep.of_rows (e := el) hrows (b := W.heap.size) (off := 0) (c := len) (by rw [q3]; exact ⟨Nat.le_refl _, by have : len ≤ len * r.sz := Nat.le_mul_of_pos_right _ hpos; simp only [lenMax]; omega⟩) (fun j u hj => ?_)
    ·rw [q3] at this; exact this
    ·have hlt : j < Z'.toList.length := (List.getElem?_eq_some_iff.1 hj).1
     rw [q2.1, q3] at hlt
     refine ⟨.inr ⟨rfl, by omega⟩, ?_⟩
     rw [Nat.zero_add, cell_of_heap hnew]
     simpa using hj
   ·have := q2.1; rw [q3] at this; simpa using this
   ·rcases hoo with hoo | ⟨_, hoo⟩
    ·exact absurd (h.fixLt _ _ hoo) (by omega)
    ·exact hoo
  ·simp [Prog.run] at hr
 ·simp [Prog.run] at hr
theorem getOptInt_sound (h : St w0 T f0 n e a W g) {x : Option Operand} {d : Int} {k : Int → Prog} {e' : Env} (hr : (getOptInt x d k).run e some = some e') :
  ∃ i, (k i).run e some = some e' ∧ (x = none ∧ i = d ∨ ∃ y kd, x = some y ∧ a.eval y = .int kd i) := by
 cases x with
 | none => exact ⟨d, hr, .inl ⟨rfl, rfl⟩⟩
 | some y =>
  obtain ⟨kd, i, h1, h2⟩ := getInt_sound h hr
  exact ⟨i, h1, .inr ⟨y, kd, rfl, h2⟩⟩
theorem Rep.cut {fix : Nat → Nat → Prop} {W : World} {el : TypeId} {r : Ty} {xs : List r.D} {A : Option Addr} {c : Nat} (h : Rep fix W (.sl el r) xs [.slice A xs.length c]) (l hh m : Nat) (h1 : l ≤ hh) (h2 : hh ≤ xs.length) (h3 : hh ≤ m) :
  Rep fix W (.sl el r) ((xs.take hh).drop l) [sliced A l hh m r.sz] := by
 obtain ⟨A', c', e1, e2, e3⟩ := h
 have e1' : A = A' ∧ c = c' := by injection e1 with e1; injection e1 with q1 q2 q3; exact ⟨q1, q3⟩
 obtain ⟨rfl, rfl⟩ := e1'
 have hlen : ((xs.take hh).drop l).length = hh - l := by rw [List.length_drop, List.length_take]; omega
 refine ⟨if m = l then A else A.map (·.add (l * r.sz)), m - l, by rw [hlen]; rfl, by rw [hlen]; exact ⟨by omega, by have := e2.2; omega⟩, fun hn => ?_⟩
 have hlt : l < hh := by
  have := List.length_pos_iff.mpr hn
  omega
 have hxn : xs ≠ [] := by intro hx; subst hx; simp at h2; omega
 obtain ⟨ad, rfl, hs, hc⟩ := e3 hxn
 rw [if_neg (by omega)]
 refine ⟨ad.add (l * r.sz), rfl, by rw [add_none hs], fun i x hx => ?_⟩
 rw [List.getElem?_drop, List.getElem?_take] at hx
 split at hx
 ·obtain ⟨ci, hci, hcell⟩ := hc (l + i) x hx
  refine ⟨ci, hci, fun j u hu => ?_⟩
  rw [add_none hs]
  have := hcell j u hu
  rw [Nat.add_mul, ← Nat.add_assoc] at this
  exact this
 ·cases hx
theorem sl_of_vrep {fix : Nat → Nat → Prop} {W : World} {el : TypeId} {r : Ty} {xs : List r.D} {v : Value} (h : VRep fix W (.sl el r) xs v) : ∃ A c, v = .slice A xs.length c ∧ xs.length ≤ c ∧ Rep fix W (.sl el r) xs [.slice A xs.length c] := by
 obtain ⟨hag, hrep⟩ := h
 rw [isAgg_false_cells hag] at hrep
 have hrep' := hrep
 obtain ⟨A, c, e1, e2, e3⟩ := hrep
 have : v = .slice A xs.length c := by injection e1
 subst this
 exact ⟨A, c, rfl, e2.1, hrep'⟩
theorem sound_slice {t : TypeId} {x : Operand} {lo hi mx : Option Operand} (hG : CtxTys P G) (ho : o.op = .slice t x lo hi mx) : Sound P G w0 T f0 o := by
 intro e e' a W g K Q h hd hr hK
 cases mx with
 | none =>
  simp only [opV, ho] at hr
  split at hr
  ·rename_i el r hty
   have htk := hG _ _ hty
   have hu := htk.sl_und
   have hel : P.elem t = el := by simp [Program.elem, hu]
   have hu' : P.underlying t = some (.slice (P.elem t)) := by rw [hel]; exact hu
   obtain ⟨xs, hr1, hx⟩ := getD_sound h hr
   obtain ⟨l, hr2, hl⟩ := getOptInt_sound h hr1
   obtain ⟨hh, hr3, hhh⟩ := getOptInt_sound h hr2
   obtain ⟨hb, hr4⟩ := chk_run hr3
   clear hr hr1 hr2 hr3
   simp only [Bool.and_eq_true, decide_eq_true_eq] at hb
   obtain ⟨⟨b1, b2⟩, b3⟩ := hb
   obtain ⟨A, c, hv, hc, hrep⟩ := sl_of_vrep hx
   obtain ⟨lm, rfl⟩ := Int.eq_ofNat_of_zero_le b1
   obtain ⟨hm, rfl⟩ := Int.eq_ofNat_of_zero_le (Int.le_trans b1 b2)
   have hrun : (Instr.slice t (.slice A xs.length c) (lo.map a.eval) (hi.map a.eval) none).run P W = .ok (sliced A lm hm c r.sz) W := by
    have hszr : (sizeOf (P.elem t)).run P W = .ok r.sz W := by rw [hel]; exact htk.sl_row.run_size W
    rcases hl with ⟨rfl, hl⟩ | ⟨y1, k1, rfl, hl⟩ <;> rcases hhh with ⟨rfl, hhh⟩ | ⟨y2, k2, rfl, hhh⟩
    ·have e1 : lm = 0 := by omega
     have e2 : hm = xs.length := by omega
     subst e1; subst e2
     show (Instr.slice t _ none none none).run P W = _
     rw [run_slice_all W t A xs.length c hu', hszr]; rfl
    ·have e1 : lm = 0 := by omega
     subst e1
     show (Instr.slice t _ none (some (a.eval y2)) none).run P W = _
     rw [hhh, run_slice_h W t A xs.length c hu' k2 hm (by omega) (by omega), hszr]; simp
    ·have e2 : hm = xs.length := by omega
     subst e2
     show (Instr.slice t _ (some (a.eval y1)) none none).run P W = _
     rw [hl, run_slice_l W t A xs.length c hu' k1 lm (by omega) (by omega), hszr]; simp
    ·show (Instr.slice t _ (some (a.eval y1)) (some (a.eval y2)) none).run P W = _
     rw [hl, hhh, run_slice_lh W t A xs.length c hu' k1 k2 lm hm (by omega) (by omega) (by omega), hszr]; simp
   simp only [Int.toNat_natCast] at hr4
   refine value_put h hd hr4 rfl rfl (v := sliced A lm hm c r.sz) (val_dat rfl (hrep.cut lm hm c (by omega) (by omega) (by omega))) ?_ hK
   simp only [execOp, ho, hv, Sem.run_bind, Sem.run_pure]
   rw [run_sliceAt_slice W t _ _ _ _ hu', Option.map_none, hrun]
   rfl
  ·simp [Prog.run] at hr
 | some mx =>
  cases lo with
  | some _ => simp [opV, ho, Prog.run] at hr
  | none =>
   cases hi with
   | none => simp [opV, ho, Prog.run] at hr
   | some hi =>
    simp only [opV, ho] at hr
    split at hr
    ·rename_i el r hty
     have htk := hG _ _ hty
     have hu := htk.sl_und
     have hel : P.elem t = el := by simp [Program.elem, hu]
     have hu' : P.underlying t = some (.slice (P.elem t)) := by rw [hel]; exact hu
     obtain ⟨xs, hr1, hx⟩ := getD_sound h hr
     obtain ⟨k1, hh, hr2, hhh⟩ := getInt_sound h hr1
     obtain ⟨k2, m, hr3, hm⟩ := getInt_sound h hr2
     obtain ⟨hb, hr4⟩ := chk_run hr3
     clear hr hr1 hr2 hr3
     simp only [Bool.and_eq_true, decide_eq_true_eq] at hb
     obtain ⟨rfl, rfl⟩ := hb
     obtain ⟨A, c, hv, hc, hrep⟩ := sl_of_vrep hx
     have hszr : (sizeOf (P.elem t)).run P W = .ok r.sz W := by rw [hel]; exact htk.sl_row.run_size W
     have hrun := run_slice_hm (P := P) W t A xs.length c hu' k1 k2 xs.length xs.length (by omega) (by omega) (by omega)
     have hcut := hrep.cut 0 xs.length xs.length (by omega) (by omega) (by omega)
     rw [List.take_length, List.drop_zero] at hcut
     refine value_put h hd hr4 rfl rfl (v := sliced A 0 xs.length xs.length r.sz) (val_dat rfl hcut) ?_ hK
     simp only [execOp, ho, hv, Sem.run_bind, Sem.run_pure, Option.map_none, Option.map_some, hhh, hm]
     rw [run_sliceAt_slice W t _ _ _ _ hu', hrun, hszr]
     simp
    ·simp [Prog.run] at hr
end
end Go.PM
