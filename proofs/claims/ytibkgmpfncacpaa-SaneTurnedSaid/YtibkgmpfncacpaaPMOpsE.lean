/- PM: each operation, sound: the fifth part: boxes, rows that are made, cuts. -/
import Derived.Test.YtibkgmpfncacpaaPMOpsD
namespace Go.PM
open Go
section
variable {P : Program} {G : Ctx} {w0 : World} {T : Nat → Prop} {f0 : F0} {n : Nat} {e : Env} {a : Act} {W : World} {g : Gh} {o : Oper}
structure Covers (p p' : PV) : Prop where
 box : p.isCell = true → p'.isCell = true
 hdr : ∀ b hv v, HOk p b hv v → HOk p' b hv v
 rptr : ∀ b hv i o sz v, RpOk p b hv i o sz v → RpOk p' b hv i o sz v
 shdr : ∀ b hv ver i o v, ShOk p b hv ver i o v → ShOk p' b hv ver i o v
 sptr : ∀ b hv ver i o i2 o2 sz2 v, SpOk p b hv ver i o i2 o2 sz2 v → SpOk p' b hv ver i o i2 o2 sz2 v
def PV.isRow : PV → Bool
 | .row _ _ _ _ _ => true
 | .hole _ _ _ _ _ _ _ _ _ _ => true
 | .gone _ _ => true
 | .lrow _ _ _ _ => true
 | _ => false
structure NoMore (p p' : PV) : Prop where
 lnk : ∀ k, p'.lnkAt k = true → p.lnkAt k = true
 there : p'.there = true → p.there = true
theorem NoMore.out {p p' : PV} (h1 : ∀ k, p'.lnkAt k = false) (h2 : p'.there = false) : NoMore p p' :=
 ⟨fun k h => (by rw [h1 k] at h; cases h), fun h => (by rw [h2] at h; cases h)⟩
theorem NoMore.row {p p' : PV} (h1 : ∀ k, p'.lnkAt k = false) (h2 : p.there = true) : NoMore p p' :=
 ⟨fun k h => (by rw [h1 k] at h; cases h), fun _ => h2⟩
theorem Links.setBox {e : Env} {W : World} {g : Gh} (h : Links e W g) {i : Nat} {pv : PV} (hn : NoMore (e (.box i)) pv) : Links (e.set (.box i) pv) W g :=
 h.of (fun j k hl => by
  simp only [Env.set, Place.box.injEq] at hl
  split at hl
  ·rename_i he; subst he; exact hn.lnk k hl
  ·exact hl) (fun j hl => by
  simp only [Env.set, Place.box.injEq] at hl
  split at hl
  ·rename_i he; subst he; exact hn.there hl
  ·exact hl)
theorem Covers.plain {p p' : PV} (h : p.isCell = true → p'.isCell = true) (hr : p.isRow = false) : Covers p p' := by
 refine ⟨h, fun b hv v hh => ?_, fun b hv i o sz v hh => ?_, fun b hv ver i o v hh => ?_, fun b hv ver i o i2 o2 sz2 v hh => ?_⟩ <;> cases p <;> first | exact hh.elim | (simp [PV.isRow] at hr)
theorem isRow_of_box {p : PV} (h : p.isBox = false) : p.isRow = false := by cases p <;> simp_all [PV.isBox, PV.isRow]
theorem St.setBoxL (h : St w0 T f0 n e a W g) {i : Nat} {pv : PV} (hb : BRep g W i pv) (hp : Covers (e (.box i)) pv) (hl : Links (e.set (.box i) pv) W g) : St w0 T f0 n (e.set (.box i) pv) a W g where
 defers := h.defers
 tmps := h.tmps
 os := h.os
 tape := h.tape
 output := h.output
 size := h.size
 old := h.old
 ownNew := h.ownNew
 fixLt := h.fixLt
 fixOld := h.fixOld
 fixNew := h.fixNew
 nle := h.nle
 bxOld := h.bxOld
 ptr := fun t => by
  have hs : (e.set (.box i) pv) (.slot t) = e (.slot t) := by simp [Env.set]
  rw [hs]
  have := h.ptr t
  generalize e (.slot t) = q at this ⊢
  generalize a.tmps.getD t undef = v at this ⊢
  have key : ∀ j, (e.set (.box i) pv) (.box j) = e (.box j) ∨ (j = i ∧ (e.set (.box i) pv) (.box j) = pv) := fun j => by
   by_cases hj : j = i
   ·subst hj; exact .inr ⟨rfl, by simp [Env.set]⟩
   ·exact .inl (by simp [Env.set, hj])
  cases q <;> simp only [PtrOk] at this ⊢
  ·rename_i j lo
   rcases key j with k | ⟨k1, k2⟩
   ·rw [k]; exact this
   ·rw [k2]; subst k1; exact hp.box this
  ·rename_i j hv
   rcases key j with k | ⟨k1, k2⟩
   ·rw [k]; exact this
   ·rw [k2]; subst k1; exact hp.hdr _ _ _ this
  ·rename_i j hv ii oo sz
   rcases key j with k | ⟨k1, k2⟩
   ·rw [k]; exact this
   ·rw [k2]; subst k1; exact hp.rptr _ _ _ _ _ _ this
  ·rename_i l j0 j hv
   obtain ⟨us, u, q1, q2, q3⟩ := this
   refine ⟨us, u, q1, q2, ?_⟩
   rcases key j with k | ⟨k1, k2⟩
   ·rw [k]; exact q3
   ·rw [k2]; subst k1; exact hp.hdr _ _ _ q3
  ·rename_i j
   rcases key j with k | ⟨k1, k2⟩
   ·rw [k]; exact this
   ·rw [k2]; subst k1; exact hp.box this
  ·rename_i j
   rcases key j with k | ⟨k1, k2⟩
   ·rw [k]; exact this
   ·rw [k2]; subst k1; exact hp.box this
  ·rename_i j _ _ _ _
   rcases key j with k | ⟨k1, k2⟩
   ·rw [k]; exact this
   ·rw [k2]; subst k1; exact hp.shdr _ _ _ _ _ _ this
  ·rename_i j _ _ _ _ _ _ _
   rcases key j with k | ⟨k1, k2⟩
   ·rw [k]; exact this
   ·rw [k2]; subst k1; exact hp.sptr _ _ _ _ _ _ _ _ _ this
  ·obtain ⟨us, q0, q1⟩ := this
   refine ⟨us, q0, fun x hx => ?_⟩
   obtain ⟨u, q2, q3⟩ := q1 x hx
   refine ⟨u, q2, ?_⟩
   rcases key x.2.1 with k | ⟨k1, k2⟩
   ·rw [k]; exact q3
   ·rw [k2]; rw [k1] at q3 ⊢; exact hp.hdr _ _ _ q3
 slots := fun t => by simpa [Env.set] using h.slots t
 boxes := fun j => by
  simp only [Env.set, Place.box.injEq]
  split
  ·rename_i he; subst he; exact hb
  ·exact h.boxes j
 lnks := hl
theorem St.setBox' (h : St w0 T f0 n e a W g) {i : Nat} {pv : PV} (hb : BRep g W i pv) (hp : Covers (e (.box i)) pv) (hn : NoMore (e (.box i)) pv) : St w0 T f0 n (e.set (.box i) pv) a W g :=
 h.setBoxL hb hp (h.lnks.setBox hn)
theorem St.setBox (h : St w0 T f0 n e a W g) {i : Nat} {pv : PV} (hb : BRep g W i pv) (hp : (e (.box i)).isCell = true → pv.isCell = true) (hr : (e (.box i)).isRow = false) (hn : NoMore (e (.box i)) pv) : St w0 T f0 n (e.set (.box i) pv) a W g :=
 h.setBox' hb (.plain hp hr) hn
theorem Links.newBoxG {e : Env} {W : World} {g : Gh} (h : Links e W g) {d : Nat} {B : TypeId} {cs : List DV} {ver : Nat} (hf : ∀ k, k < 1000 → cellLnk cs k = true → (e (.box (lk d k))).there = true → W.cell? ⟨(g.bx d).b, k, none⟩ = some (g.bx (lk d k)).h) : Links (e.set (.box d) (.box B cs ver)) W g := fun i k h1 h2 => by
 have hr : (e (.box (lk i k))).there = true := by
  simp only [Env.set, Place.box.injEq] at h2
  split at h2
  ·simp [PV.there] at h2
  ·exact h2
 simp only [Env.set, Place.box.injEq] at h1
 split at h1
 ·rename_i he
  subst he
  simp only [PV.lnkAt, Bool.and_eq_true, Nat.blt_eq] at h1
  exact hf k h1.1 h1.2 hr
 ·exact h i k h1 hr
theorem Links.newBox {e : Env} {W : World} {g : Gh} (h : Links e W g) {d : Nat} {B : TypeId} {cs : List DV} {ver : Nat} (hf : ∀ k, cellLnk cs k = true → (e (.box (lk d k))).there = false) : Links (e.set (.box d) (.box B cs ver)) W g :=
 h.newBoxG fun k _ h1 h2 => by rw [hf k h1] at h2; cases h2
theorem freeK_run {d : Nat} {p : Prog} {e e' : Env} : ∀ (cs : List DV) (k : Nat), (freeK d cs k p).run e some = some e' → p.run e some = some e' ∧ ∀ j, cellLnk cs j = true → (e (.box (lk d (k + j)))).there = false
 | [], k, h => ⟨h, fun j hj => by simp [cellLnk] at hj⟩
 | c :: l, k, h => by
  simp only [freeK] at h
  cases hc : c.isLnk <;> simp only [hc, cond_true, cond_false] at h
  ·obtain ⟨h1, h2⟩ := freeK_run l (k + 1) h
   refine ⟨h1, fun j hj => ?_⟩
   cases j with
   | zero => simp [cellLnk, hc] at hj
   | succ j => have := h2 j (by simpa [cellLnk] using hj); rwa [show k + 1 + j = k + (j + 1) by omega] at this
  ·simp only [Prog.run] at h
   cases ht : (e (.box (lk d k))).there <;> simp only [ht, cond_true, cond_false] at h
   ·obtain ⟨h1, h2⟩ := freeK_run l (k + 1) h
    refine ⟨h1, fun j hj => ?_⟩
    cases j with
    | zero => exact ht
    | succ j => have := h2 j (by simpa [cellLnk] using hj); rwa [show k + 1 + j = k + (j + 1) by omega] at this
   ·simp [Prog.run] at h
theorem St.newBox (h : St w0 T f0 n e a W g) {d : Nat} (hdn : d < n) (hu : (e (.box d)).isBox = false) {cs : List DV} {vs : Array Value} (hc : Cells g.fix W cs vs.toList) (ht : NilTips cs vs.toList) (hfr : ∀ k, k < 1000 → cellLnk cs k = true → (e (.box (lk d k))).there = true → vs[k]? = some (g.bx (lk d k)).h) (B : TypeId) (ver : Nat) :
  ∃ g', (g'.bx d).b = W.heap.size ∧ St w0 T f0 n (e.set (.box d) (.box B cs ver)) a (W.alloc (.cells vs B)) g' := by
 let g' : Gh := { g with own := fun b => if b = W.heap.size then some (.box d) else g.own b, bx := fun i => if i = d then ⟨W.heap.size, undef, fun _ => undef⟩ else g.bx i }
 have hold : ∀ k, k < W.heap.size → (W.alloc (.cells vs B)).heap[k]? = W.heap[k]? := fun k hk => heap_alloc_old W _ k hk
 have hm : Move (fun _ => False) W (W.alloc (.cells vs B)) g g' := by
  refine ⟨fun b o hf => ⟨hf, fun u hu => ?_⟩, fun b q hb _ => ?_⟩
  ·rw [World.cell?_of_block (w := W) (hold b (h.fixLt b o hf))]; exact hu
  ·have hlt := (h.ownNew b q hb).1
   have : ¬ b = W.heap.size := by omega
   exact ⟨by simp [g', this, hb], hold b hlt, fun o ho => ho⟩
 have h' : St w0 T f0 n e a (W.alloc (.cells vs B)) g' := by
  refine h.move hm (fun _ hx => hx.elim) (fun i hi => ?_) rfl rfl rfl (by simp) (fun b hb _ => hold b (Nat.lt_of_lt_of_le hb h.size)) (fun b q hb => ?_) (fun b o hf => ?_) (fun b o _ _ hf => hf)
  ·have : ¬ i = d := fun he => by
    subst he
    rcases hi with hi | hi
    ·rw [hu] at hi; cases hi
    ·have := h.nle; omega
   simp [g', this]
  ·simp only [g'] at hb
   split at hb
   ·rename_i heq; subst heq
    exact ⟨by simp, fun hlt => by have := h.size; omega⟩
   ·have := h.ownNew b q hb
    exact ⟨by simp; omega, this.2⟩
  ·have := h.fixLt b o hf; simp; omega
 refine ⟨g', by simp [g'], h'.setBoxL ⟨vs, ?_, by simp [g'], fun o ho => ?_, Cells.mono hm.fixed hc, fun j x hx htip => ?_⟩ (.plain (fun hh => by rw [isBox_of_isCell hh] at hu; cases hu) (isRow_of_box hu)) (h'.lnks.newBoxG fun k hk h1 h2 => ?_)⟩
 ·have : (g'.bx d).b = W.heap.size := by simp [g']
  rw [this]
  exact heap_alloc_new W _
 ·have h1 : (g'.bx d).b = W.heap.size := by simp [g']
  rw [h1] at ho
  exact absurd (h.fixLt _ _ ho) (by omega)
 rotate_left
 ·have hb1 : (g'.bx d).b = W.heap.size := by simp [g']
  have hb2 : ¬ lk d k = d := by unfold lk; omega
  have hb3 : g'.bx (lk d k) = g.bx (lk d k) := by simp [g', hb2]
  rw [hb1, hb3, cell_of_heap (heap_alloc_new W _)]
  exact hfr k hk h1 h2
 ·obtain ⟨k1, k2⟩ := ht j x hx htip
  exact ⟨_, by simpa using k2, NilTips.tip k1⟩
theorem split_tips : ∀ (t : Ty) (x : t.D), ∀ d ∈ t.split x, d.tip = false
 | .unit, _ => by simp [Ty.split]
 | .int _, _ => by simp [Ty.split]
 | .bool, _ => by simp [Ty.split]
 | .str, _ => by simp [Ty.split]
 | .sl _ _, _ => by simp [Ty.split]
 | .any, _ => by simp [Ty.split]
 | .clo _ _, _ => by simp [Ty.split]
 | .osl _ _, _ => by simp [Ty.split]
 | .pair a b, x => by
  intro d hd
  rcases List.mem_append.1 hd with hd | hd
  ·exact split_tips a _ d hd
  ·exact split_tips b _ d hd
theorem split_nils (t : Ty) (x : t.D) (vs : List Value) : NilTips (t.split x) vs := NilTips.of_clear (split_tips t x)
theorem zeros_cells (fix : Nat → Nat → Prop) (W : World) (t : Ty) (ht : t.plain = true) : Cells fix W (zeros t) (zeroCells t) := by
 have h := Cells.split t t.zero _ (zero_rep fix W t ht)
 unfold zeros
 generalize t.split t.zero = ds at h
 generalize zeroCells t = vs at h
 induction ds generalizing vs with
 | nil => exact h
 | cons d ds ih => cases vs with
  | nil => exact h.elim
  | cons v vs => exact ⟨h.1, ih vs h.2⟩
theorem zero_nils : ∀ (t : Ty), t.plain = true → ∀ (j : Nat) d, (t.split t.zero)[j]? = some d → d.t.isSl = true → (zeroCells t)[j]? = some (.slice none 0 0)
 | .unit, _, j, d, h, _ => by simp [Ty.split] at h
 | .int _, _, j, d, h, hs => by
  cases j with
  | zero => simp [Ty.split] at h; subst h; simp [Ty.isSl] at hs
  | succ j => simp [Ty.split] at h
 | .bool, _, j, d, h, hs => by
  cases j with
  | zero => simp [Ty.split] at h; subst h; simp [Ty.isSl] at hs
  | succ j => simp [Ty.split] at h
 | .str, _, j, d, h, hs => by
  cases j with
  | zero => simp [Ty.split] at h; subst h; simp [Ty.isSl] at hs
  | succ j => simp [Ty.split] at h
 | .any, _, j, d, h, hs => by
  cases j with
  | zero => simp [Ty.split] at h; subst h; simp [Ty.isSl] at hs
  | succ j => simp [Ty.split] at h
 | .clo _ _, hp, _, _, _, _ => by simp [Ty.plain] at hp
 | .osl _ _, hp, _, _, _, _ => by simp [Ty.plain] at hp
 | .sl _ _, _, j, d, h, hs => by
  cases j with
  | zero => rfl
  | succ j => simp [Ty.split] at h
 | .pair a b, hp, j, d, h, hs => by
  simp only [Ty.plain, Bool.and_eq_true] at hp
  have hl : (a.split a.zero).length = (zeroCells a).length := (Cells.split a a.zero _ (zero_rep (fun _ _ => False) default a hp.1)).len
  simp only [Ty.split, Ty.zero, zeroCells] at h ⊢
  rcases Nat.lt_or_ge j (a.split a.zero).length with hlt | hge
  ·rw [List.getElem?_append_left hlt] at h
   rw [List.getElem?_append_left (by omega)]
   exact zero_nils a hp.1 j d h hs
  ·rw [List.getElem?_append_right hge] at h
   rw [List.getElem?_append_right (by omega), ← hl]
   exact zero_nils b hp.2 _ d h hs
theorem zeros_nils (t : Ty) (ht : t.plain = true) : NilTips (zeros t) (zeroCells t) := by
 intro j d hj htip
 unfold zeros at hj
 rw [List.getElem?_map] at hj
 cases hd : (t.split t.zero)[j]? with
 | none => rw [hd] at hj; cases hj
 | some d' =>
  rw [hd] at hj
  simp only [Option.map_some, Option.some.injEq] at hj
  subst hj
  exact ⟨htip, zero_nils t ht j d' hd htip⟩
theorem box_fin (h : St w0 T f0 G.n e a W g) {K : Act → World → Prop} {Q : Exit → Act → World → Prop} {e' : Env} (hd : dstOk G.n o.dst = true) {d : Nat} (hdst : o.dst = some d) {t : TypeId} {cs : List DV} {vs : Array Value}
  (hr : (freeK d cs 0 <| Prog.get (.box d) fun b => match b with
   | .unk => .set (.box d) (.box t cs 0) (put o.dst (.bptr d 0) .done)
   | _ => .fail).run e some = some e') (hc : Cells g.fix W cs vs.toList) (ht : NilTips cs vs.toList)
  (he : (execOp a.eval o).run P W = .ok (.value (.pointer (some ⟨W.heap.size, 0, none⟩))) (W.alloc (.cells vs t))) (hK : ∀ a' W' g', St w0 T f0 G.n e' a' W' g' → K a' W') : o.wp P a W K Q := by
 obtain ⟨hr, hfr⟩ := freeK_run cs 0 hr
 simp only [Prog.run] at hr
 split at hr
 ·rename_i hu
  simp only [Prog.run] at hr
  rw [put_run hr] at hK
  obtain ⟨g', hb, h'⟩ := h.newBox (d := d) (dst_lt hd d hdst) (by rw [hu]; rfl) hc ht (fun k _ hk hh => by have := hfr k hk; rw [Nat.zero_add, hh] at this; cases this) t 0
  refine wp_value he (hK _ _ _ (h'.putDst hd (fun d' hd' => ?_) ?_))
  ·show _ = _
   rw [hb]
  ·simp [PtrOk, Env.set, PV.isCell]
 ·simp [Prog.run] at hr
theorem sound_alloc {t : TypeId} (hG : CtxTys P G) (ho : o.op = .alloc t) : Sound P G w0 T f0 o := by
 intro e e' a W g K Q h hd hr hK
 simp only [opV, ho] at hr
 split at hr
 ·rename_i d ty hdst hty
  have htk := hG _ _ hty
  obtain ⟨z, hz1, hz2, hz3⟩ := htk.run_zero
  refine box_fin (vs := z.cells) h hd hdst hr (by rw [hz2]; exact zeros_cells _ _ _ htk.plain) (by rw [hz2]; exact zeros_nils _ htk.plain) ?_ hK
  simp [execOp, ho, Instr.alloc, hz3, newVar, newRow]
 ·simp [Prog.run] at hr
theorem sound_box {t : TypeId} {x : Operand} (ho : o.op = .box t x) : Sound P G w0 T f0 o := by
 intro e e' a W g K Q h hd hr hK
 simp only [opV, ho] at hr
 split at hr
 ·rename_i d ty hdst hty
  obtain ⟨y, hr1, hy⟩ := getD_sound h hr
  refine box_fin (vs := (a.eval x).cells) h hd hdst hr1 (Cells.split _ _ _ hy.2) (split_nils ty _ _) ?_ hK
  simp [execOp, ho, Instr.box, newVar, newRow]
 ·simp [Prog.run] at hr
theorem cellLnk_get {cs : List DV} {k : Nat} : cellLnk cs k = true ↔ ∃ d, cs[k]? = some d ∧ d.isLnk = true := by
 induction cs generalizing k with
 | nil => simp [cellLnk]
 | cons c l ih => cases k with
  | zero => simp [cellLnk]
  | succ k => simp [cellLnk, ih]
theorem cellLnk_lt {cs : List DV} {k : Nat} (h : cellLnk cs k = true) : k < cs.length := by
 obtain ⟨d, h1, -⟩ := cellLnk_get.1 h
 exact (List.getElem?_eq_some_iff.1 h1).1
theorem noLnk_get {cs : List DV} (h : noLnk cs = true) (k : Nat) : cellLnk cs k = false := by
 cases hc : cellLnk cs k with
 | false => rfl
 | true =>
  obtain ⟨d, h1, h2⟩ := cellLnk_get.1 hc
  have := List.all_eq_true.1 h d (List.mem_of_getElem? h1)
  rw [h2] at this; cases this
theorem putCells_len {cs ds : List DV} {lo : Nat} (h : lo + ds.length ≤ cs.length) : (putCells cs lo ds).length = cs.length := by
 simp only [putCells, List.length_append, List.length_take, List.length_drop]; omega
theorem putCells_lnk {cs ds : List DV} {lo k : Nat} (h : lo + ds.length ≤ cs.length) (hc : cellLnk (putCells cs lo ds) k = true) : (cellLnk cs k = true ∧ (k < lo ∨ lo + ds.length ≤ k)) ∨ (lo ≤ k ∧ cellLnk ds (k - lo) = true) := by
 obtain ⟨d, h1, h2⟩ := cellLnk_get.1 hc
 have hcl : (cs.take lo).length = lo := by rw [List.length_take]; omega
 simp only [putCells] at h1
 rcases Nat.lt_or_ge k lo with hlt | hge
 ·rw [List.append_assoc, List.getElem?_append_left (by omega), List.getElem?_take, if_pos hlt] at h1
  exact .inl ⟨cellLnk_get.2 ⟨d, h1, h2⟩, .inl hlt⟩
 ·rw [List.append_assoc, List.getElem?_append_right (by omega), hcl] at h1
  rcases Nat.lt_or_ge (k - lo) ds.length with hlt | hge2
  ·rw [List.getElem?_append_left hlt] at h1
   exact .inr ⟨hge, cellLnk_get.2 ⟨d, h1, h2⟩⟩
  ·rw [List.getElem?_append_right hge2, List.getElem?_drop, show lo + ds.length + (k - lo - ds.length) = k by omega] at h1
   exact .inl ⟨cellLnk_get.2 ⟨d, h1, h2⟩, .inr (by omega)⟩
theorem St.write (h : St w0 T f0 n e a W g) {i : Nat} {B : TypeId} {cs : List DV} {ver : Nat} (hb : e (.box i) = .box B cs ver) {lo : Nat} {ds : List DV} {us : List Value} (hc : Cells g.fix W ds us) (hl : lo + ds.length ≤ cs.length)
  (ht : ∀ (j : Nat) d, ds[j]? = some d → d.tip = true → ∃ u, us[j]? = some u ∧ Tip g.fix g.own W (.cell i (lo + j)) d.t u) (h1 : ∀ u ∈ us, u.oneCell' = true) (hnl : ∀ k, cellLnk ds k = true → (e (.box (lk i (lo + k)))).there = false) :
  ∃ W', (storeCells ⟨(g.bx i).b, lo, none⟩ us).run P W = .ok () W' ∧ St w0 T f0 n (e.set (.box i) (.box B (putCells cs lo ds) (ver + 1))) a W' g := by
 have hbr := h.boxes i
 rw [hb] at hbr
 obtain ⟨vs, k1, k2, k3, k4, k5⟩ := hbr
 have hul := hc.len
 have hvl := k4.len
 have hrun := run_storeCells_at P (g.bx i).b lo B us 0 vs W k1 (by simp only [Nat.add_zero]; simp at hvl; omega) h1
 simp only [Nat.add_zero] at hrun
 generalize hnc : (vs.toList.take lo ++ us ++ vs.toList.drop (lo + us.length)).toArray = nc at hrun
 have hheap := setRow_heap W (g.bx i).b vs nc B (0, 0) k1
 have hoth : ∀ k, k ≠ (g.bx i).b → (W.setRow (g.bx i).b nc).heap[k]? = W.heap[k]? := fun k hk => setRow_other W (g.bx i).b k nc hk
 have hmv : Move (fun x => x = .box i) W (W.setRow (g.bx i).b nc) g g := by
  refine ⟨fun b o hf => ⟨hf, fun u hu => ?_⟩, fun b q hq hne => ?_⟩
  ·have hbg : b ≠ (g.bx i).b := fun heq => by subst heq; exact k3 o hf
   rw [World.cell?_of_block (w := W) (hoth b hbg)]; exact hu
  ·have hbg : b ≠ (g.bx i).b := fun heq => by subst heq; rw [k2] at hq; injection hq with hq; exact hne hq.symm
   exact ⟨hq, hoth b hbg, fun o ho => ho⟩
 have hsizeEq : (W.setRow (g.bx i).b nc).heap.size = W.heap.size := by simp [World.setRow]
 have hl' : St w0 T f0 n (e.set (.box i) (.lent B ver)) a W g := h.setBox (pv := .lent B ver) trivial (fun _ => rfl) (by rw [hb]; rfl) (.out (fun _ => rfl) rfl)
 have h' : St w0 T f0 n (e.set (.box i) (.lent B ver)) a (W.setRow (g.bx i).b nc) g := by
  refine hl'.move hmv (fun q hq => ?_) (fun _ _ => rfl) rfl rfl rfl (by omega) (fun b hb ht => hoth b (fun heq => ?_)) (fun b q hq => ?_) (fun b o hf => ?_) (fun b o _ _ hf => hf)
  ·subst hq
   refine ⟨fun t ht => by simp at ht, fun i' T' cs' v' hbx => ⟨fun heq => ?_, fun j d hj => by simp at hj⟩, fun i' hbx => ⟨fun heq => ?_, fun k => by simp⟩⟩ <;>
   ·injection heq with heq
    subst heq
    simp [Env.set, PV.isR] at hbx
  ·subst heq; exact ht ((h.ownNew _ _ k2).2 hb)
  ·have := h.ownNew b q hq; exact ⟨by omega, this.2⟩
  ·have := h.fixLt b o hf; omega
 have hlinks : Links ((e.set (.box i) (.lent B ver)).set (.box i) (.box B (putCells cs lo ds) (ver + 1))) (W.setRow (g.bx i).b nc) g := fun i' k q1 q2 => by
  have hE : ∀ j, j ≠ i → ((e.set (.box i) (.lent B ver)).set (.box i) (.box B (putCells cs lo ds) (ver + 1))) (.box j) = e (.box j) := fun j hj => by simp [Env.set, hj]
  have hki : lk i' k ≠ i := fun he => by rw [he] at q2; simp [Env.set, PV.there] at q2
  rw [hE _ hki] at q2
  by_cases hi : i' = i
  ·subst hi
   simp only [Env.set, if_true, PV.lnkAt, Bool.and_eq_true] at q1
   obtain ⟨q0, q1⟩ := q1
   have hk : k < cs.length := by
    have := cellLnk_lt q1
    rw [putCells_len hl] at this; exact this
   have hold : cellLnk cs k = true → W.cell? ⟨(g.bx i').b, k, none⟩ = some (g.bx (lk i' k)).h := fun hc => h.lnks i' k (by rw [hb]; simp only [PV.lnkAt, Bool.and_eq_true]; exact ⟨q0, hc⟩) q2
   rcases putCells_lnk hl q1 with ⟨hc, hout⟩ | ⟨hge, hc⟩
   ·rw [← hold hc]
    have hnc' : nc[k]? = vs[k]? := by
     rw [← hnc]
     rcases hout with hlt | hge
     ·simp only [List.getElem?_toArray]
      rw [List.append_assoc, List.getElem?_append_left (by rw [List.length_take]; simp at hvl ⊢; omega), List.getElem?_take, if_pos hlt]
      simp
     ·simp only [List.getElem?_toArray]
      have htl : (vs.toList.take lo).length = lo := by rw [List.length_take]; omega
      rw [List.append_assoc, List.getElem?_append_right (by omega), htl, List.getElem?_append_right (by omega), List.getElem?_drop]
      rw [show lo + us.length + (k - lo - us.length) = k by omega]
      simp
    rw [cell_of_heap hheap, cell_of_heap k1]
    exact hnc'
   ·have := hnl (k - lo) hc
    rw [show lo + (k - lo) = k by omega, q2] at this; cases this
  ·rw [hE _ hi] at q1
   rw [← h.lnks i' k q1 q2]
   have hbi' := h.boxes i'
   cases he : e (.box i') with
   | box T' cs' ver' =>
    rw [he] at hbi'
    obtain ⟨vs', p1, p2, -⟩ := hbi'
    refine World.cell?_of_block (w := W) (hoth _ fun heq => ?_)
    have heq : (g.bx i').b = (g.bx i).b := heq
    rw [heq, k2] at p2
    injection p2 with p2
    injection p2 with p2
    exact hi p2.symm
   | _ => rw [he] at q1; simp [PV.lnkAt] at q1
 have h'' := h'.setBoxL (i := i) (pv := .box B (putCells cs lo ds) (ver + 1)) ⟨nc, hheap, k2, k3, ?_, fun j d hj htip => ?_⟩ (.plain (fun _ => rfl) (by simp [Env.set, PV.isRow])) hlinks
 ·refine ⟨_, hrun, ?_⟩
  have : (e.set (.box i) (.lent B ver)).set (.box i) (.box B (putCells cs lo ds) (ver + 1)) = e.set (.box i) (.box B (putCells cs lo ds) (ver + 1)) := by
   funext p; simp only [Env.set]; split <;> rfl
  rw [this] at h''
  exact h''
 ·have hnl : nc.toList = vs.toList.take lo ++ us ++ vs.toList.drop (lo + us.length) := by rw [← hnc]
  rw [hnl]
  simp only [putCells, hul]
  exact Cells.mono hmv.fixed (((k4.take lo).append hc).append (k4.drop (lo + us.length)))
 ·have hnj : ∀ u, (vs.toList.take lo ++ us ++ vs.toList.drop (lo + us.length))[j]? = some u → nc[j]? = some u := fun u hu => by rw [← hnc]; simpa using hu
  have htl : (vs.toList.take lo).length = lo := by rw [List.length_take]; omega
  have hcl : (cs.take lo).length = lo := by rw [List.length_take]; omega
  simp only [putCells] at hj
  rcases Nat.lt_or_ge j lo with hlt | hge
  ·rw [List.append_assoc, List.getElem?_append_left (by omega), List.getElem?_take, if_pos hlt] at hj
   obtain ⟨u, hu, hut⟩ := k5 j d hj htip
   refine ⟨u, hnj u ?_, hut.move hmv (by simp)⟩
   rw [List.append_assoc, List.getElem?_append_left (by omega), List.getElem?_take, if_pos hlt]
   simpa using hu
  ·rw [List.append_assoc, List.getElem?_append_right (by omega), hcl] at hj
   rcases Nat.lt_or_ge (j - lo) ds.length with hlt | hge2
   ·rw [List.getElem?_append_left hlt] at hj
    obtain ⟨u, hu, hut⟩ := ht _ d hj htip
    rw [show lo + (j - lo) = j by omega] at hut
    refine ⟨u, hnj u ?_, hut.move hmv (by simp)⟩
    rw [List.append_assoc, List.getElem?_append_right (by omega), htl, List.getElem?_append_left (by omega)]
    exact hu
   ·rw [List.getElem?_append_right hge2, List.getElem?_drop] at hj
    rw [show lo + ds.length + (j - lo - ds.length) = j by omega] at hj
    obtain ⟨u, hu, hut⟩ := k5 j d hj htip
    refine ⟨u, hnj u ?_, hut.move hmv (by simp)⟩
    rw [List.append_assoc, List.getElem?_append_right (by omega), htl, List.getElem?_append_right (by omega), List.getElem?_drop]
    rw [show lo + us.length + (j - lo - us.length) = j by omega]
    simpa using hu
theorem typed_cases (T : Option Ty) (pv : PV) : typed T pv = pv ∨ (pv = .nil ∧ ((∃ e r, T = some (.sl e r) ∧ typed T pv = .val ⟨.sl e r, [], true⟩) ∨ typed T pv = .unk)) := by
 cases pv <;> try exact .inl rfl
 refine .inr ⟨rfl, ?_⟩
 simp only [typed]
 split
 ·exact .inl ⟨_, _, rfl, rfl⟩
 ·exact .inr rfl
theorem sound_store {t : TypeId} {x y : Operand} (hG : CtxTys P G) (ho : o.op = .store t x y) : Sound P G w0 T f0 o := by
 intro e e' a W g K Q h hd hr hK
 simp only [opV, ho] at hr
 split at hr
 ·rename_i ty hty
  have htk := hG _ _ hty
  obtain ⟨hdn, hr⟩ := chk_run hr
  have hdst : o.dst = none := by cases hh : o.dst with
   | none => rfl
   | some d => rw [hh] at hdn; simp at hdn
  obtain ⟨pv, hr1, hdat, hp⟩ := getV_sound h hr
  clear hr
  split at hr1
  ·rename_i i lo
   have hv : a.eval x = .pointer (some ⟨(g.bx i).b, lo, none⟩) := hdat
   split at hr1
   ·simp [Prog.run] at hr1
   -- what remains when the value is at hand
   have fin : ∀ (e1 : Env) (u : PV), St w0 T f0 G.n e1 a W g → Dat g W u (a.eval y) → (∀ ty' y', u = .val ⟨ty', y', true⟩ → ∃ q, Free e1 q ∧ Tip g.fix g.own W q ty' (a.eval y)) →
     (Prog.get (.box i) fun b => match b with
      | .box B cs ver => match (typed (some ty) u) with
       | .val d => if ((d.t = ty ∨ ty = .any) ∧ d.isLnk = false) ∧ lo < cs.length then .set (.box i) (.box B (putCells cs lo [d]) (ver + 1)) .done else .fail
       | .full d _ => if (d.t = ty ∧ d.isLnk = false) ∧ lo < cs.length then .set (.box i) (.box B (putCells cs lo [d.clear]) (ver + 1)) .done else .fail
       | .fn f => if ty = .any ∧ lo < cs.length then .set (.box i) (.box B (putCells cs lo [⟨.clo f .unit, (), false⟩]) (ver + 1)) .done else .fail
       | .agg ds => match ty.build ds with
        | some (_, []) => if noLnk ds = true ∧ lo + ty.sz ≤ cs.length then .set (.box i) (.box B (putCells cs lo ds) (ver + 1)) .done else .fail
        | _ => .fail
       | _ => .fail
      | _ => .fail).run e1 some = some e' → o.wp P a W K Q := by
    intro e1 u h1 hdu htipu hr
    simp only [Prog.run] at hr
    split at hr
    ·rename_i B cs ver hb
     -- the value, its cells, and whether the right goes with it
     have key : ∀ (d : DV), (d.t = ty ∨ ty = .any) → d.isLnk = false → lo < cs.length → e1.set (.box i) (.box B (putCells cs lo [d]) (ver + 1)) = e' → ∀ g1 : Gh, St w0 T f0 G.n e1 a W g1 → g1.bx = g.bx → g1.fix = g.fix → Rep g.fix W d.t d.x [a.eval y] → Value.isAgg (a.eval y) = false → (d.tip = true → Tip g1.fix g1.own W (.cell i lo) d.t (a.eval y)) → o.wp P a W K Q := by
        intro d hdt hdl hlo hr g1 hs hbx hfix hrep hag htip
        have hcell : (a.eval y).cells.size = ty.sz := by
         have h1 : (a.eval y).cells.size = 1 := by have := congrArg List.length (isAgg_false_cells hag); simpa using this
         rw [h1]
         rcases hdt with rfl | rfl
         ·exact hrep.len
         ·rfl
        obtain ⟨W', hrun, hs'⟩ := hs.write (P := P) hb (lo := lo) (ds := [d]) (us := [a.eval y]) ⟨by rw [hfix]; exact hrep, trivial⟩ (by simp; omega) (fun j d' hj ht => by
         cases j with
         | zero => simp at hj; subst hj; exact ⟨_, rfl, by simpa using htip ht⟩
         | succ j => simp at hj) (fun v hv => by simp at hv; subst hv; exact hrep.one _ _ _ _ (by simp)) (fun k hk => by cases k <;> simp [cellLnk, hdl] at hk)
        rw [hbx] at hrun
        rw [← hr] at hK
        refine wp_skip' (W' := W') ?_ ?_
        ·have hcl := isAgg_false_cells hag
         simp [execOp, ho, hv, Instr.storeAt, Instr.sureAddr, storeVar, htk.run_size, hcell, hcl, hrun]
        ·rw [hdst]; exact hK _ _ _ hs'
     split at hr
     ·rename_i d hd1
      split at hr
      ·rename_i hcond
       obtain ⟨⟨hdt, hdl⟩, hlo⟩ := hcond
       simp only [Prog.run, Option.some.injEq] at hr
       have key := key d hdt hdl hlo hr
       rcases typed_cases (some ty) u with he | ⟨he, ⟨el, r, hT, hty'⟩ | hty'⟩
       ·rw [he] at hd1
        subst hd1
        cases htp : d.tip with
        | false => exact key g h1 rfl rfl hdu.2.1 hdu.1 (fun hh => by rw [htp] at hh; cases hh)
        | true =>
         obtain ⟨ty', y', tip⟩ := d
         simp only at htp
         subst htp
         obtain ⟨q, hf, htip⟩ := htipu ty' y' rfl
         obtain ⟨g1, k1, k2, k3, k4⟩ := h1.retip (.cell i lo) hf htip
         exact key g1 k3 k2 k1 hdu.2.1 hdu.1 (fun _ => k4)
       ·rw [hty'] at hd1
        cases hd1
        subst he
        have hn : a.eval y = .slice none 0 0 := hdu
        refine key g h1 rfl rfl ?_ (by rw [hn]; rfl) (fun _ => .inl ⟨none, 0, hn⟩)
        rw [hn]
        exact ⟨none, 0, rfl, ⟨Nat.le_refl _, Nat.zero_le _⟩, fun hh => absurd rfl hh⟩
       ·rw [hty'] at hd1; cases hd1
      ·simp [Prog.run] at hr
     ·rename_i d b hd1
      split at hr
      ·rename_i hcond
       obtain ⟨⟨hdt, hdl⟩, hlo⟩ := hcond
       simp only [Prog.run, Option.some.injEq] at hr
       rcases typed_cases (some ty) u with he | ⟨he, ⟨el, r, hT, hty'⟩ | hty'⟩
       ·rw [he] at hd1
        subst hd1
        exact key d.clear (.inl hdt) hdl hlo hr g h1 rfl rfl hdu.2.1 hdu.1 (fun hh => by simp [DV.clear] at hh)
       ·rw [hty'] at hd1; cases hd1
       ·rw [hty'] at hd1; cases hd1
      ·simp [Prog.run] at hr
     ·rename_i q hd1
      split at hr
      ·rename_i hcond
       obtain ⟨hdt, hlo⟩ := hcond
       simp only [Prog.run, Option.some.injEq] at hr
       rcases typed_cases (some ty) u with he | ⟨he, ⟨el, r, hT, hty'⟩ | hty'⟩
       ·rw [he] at hd1
        subst hd1
        have hf : a.eval y = .func (.func q) #[] #[] := hdu
        exact key ⟨.clo q .unit, (), false⟩ (.inr hdt) rfl hlo hr g h1 rfl rfl (by rw [hf]; exact ⟨[], rfl, rfl⟩) (by rw [hf]; rfl) (fun hh => by cases hh)
       ·rw [hty'] at hd1; cases hd1
       ·rw [hty'] at hd1; cases hd1
      ·simp [Prog.run] at hr
     ·rename_i ds hd1
      split at hr
      ·rename_i z hz
       split at hr
       ·rename_i hlo
        obtain ⟨hnl, hlo⟩ := hlo
        simp only [Prog.run, Option.some.injEq] at hr
        rcases typed_cases (some ty) u with he | ⟨he, ⟨el, r, hT, hty'⟩ | hty'⟩
        ·rw [he] at hd1
         subst hd1
         obtain ⟨vs, hvy, hcv, hnt⟩ := hdu
         have hrep := Ty.build_all hz hcv
         have hlen := hrep.len
         obtain ⟨W', hrun, hs'⟩ := h1.write (P := P) hb (lo := lo) hcv (by rw [hcv.len, hlen]; exact hlo) (fun j d' hj ht => by
          obtain ⟨k1, k2⟩ := hnt j d' hj ht
          exact ⟨_, k2, NilTips.tip k1⟩) (hrep.one _ _ _) (fun k hk => by rw [noLnk_get hnl k] at hk; cases hk)
         rw [← hr] at hK
         refine wp_skip' (W' := W') ?_ ?_
         ·have : vs.size = ty.sz := by rw [← hlen]; simp
          simp [execOp, ho, hv, hvy, Instr.storeAt, Instr.sureAddr, storeVar, htk.run_size, this, Value.cells, hrun]
         ·rw [hdst]; exact hK _ _ _ hs'
        ·rw [hty'] at hd1; cases hd1
        ·rw [hty'] at hd1; cases hd1
       ·simp [Prog.run] at hr
      ·simp [Prog.run] at hr
     ·simp [Prog.run] at hr
    ·simp [Prog.run] at hr
   rcases hand_sound h hr1 with ⟨u, hr2, hcl, hdu, _⟩ | ⟨s, ty', y', hx, hes, hr2, h', hdu, htip⟩
   ·refine fin e u h hdu (fun ty' y' he => ?_) hr2
    subst he
    simp [PV.clear, DV.clear] at hcl
   ·refine fin _ _ h' hdu (fun ty2 y2 he => ?_) hr2
    cases he
    exact ⟨.slot s, free_slot rfl, htip⟩
  ·simp [Prog.run] at hr1
 ·simp [Prog.run] at hr
theorem putCells_one {cs : List DV} {lo : Nat} (h : lo < cs.length) (d : DV) : putCells cs lo [d] = cs.set lo d := by
 unfold putCells
 rw [List.set_eq_take_append_cons_drop, if_pos h]
 simp
theorem eqTy_iff {a b : Ty} : eqTy a b = true ↔ a = b := by
 unfold eqTy; split <;> simp_all
theorem sound_load {t : TypeId} {x : Operand} (hG : CtxTys P G) (ho : o.op = .load t x) : Sound P G w0 T f0 o := by
 intro e e' a W g K Q h hd hr hK
 simp only [opV, ho] at hr
 split at hr
 ·rename_i ty hty
  have htk := hG _ _ hty
  obtain ⟨hz, hr⟩ := chk_run hr
  have hz : 0 < ty.sz := Nat.le_of_ble_eq_true hz
  obtain ⟨pv, hr1, hdat, hp⟩ := getV_sound h hr
  clear hr
  split at hr1
  ·rename_i i lo
   simp only [Prog.run] at hr1
   have hv : a.eval x = .pointer (some ⟨(g.bx i).b, lo, none⟩) := hdat
   split at hr1
   ·rename_i B cs ver hb
    have hbr := h.boxes i
    rw [hb] at hbr
    obtain ⟨vs, k1, k2, k3, k4, k5⟩ := hbr
    cases htp : isTip G o.dst <;> simp only [htp, cond_true, cond_false] at hr1
    ·split at hr1
     ·rename_i hl
      obtain ⟨v, hload, hdv⟩ := load_cells (P := P) htk (ad := ⟨(g.bx i).b, lo, none⟩) (lo := lo) rfl k4 (fun j u hu _ => by
       show W.cell? ⟨(g.bx i).b, lo + j, none⟩ = some u
       rw [cell_of_heap k1]; simpa using hu) hl hz
      rw [put_run hr1] at hK
      exact wp_value (v := v) (by simp [execOp, ho, hv, hload]) (hK _ _ _ (h.putDat hd (hdv g rfl) loadAs_clear (loadAs_ptr e)))
     ·simp [Prog.run] at hr1
    ·split at hr1
     ·rename_i el r xs tl hdrop
      cases hc : (G.bxs.contains i && eqTy ty (.sl el r)) <;> simp only [hc, cond_true, cond_false] at hr1
      ·simp [Prog.run] at hr1
      simp only [Bool.and_eq_true] at hc
      have hty2 := eqTy_iff.1 hc.2
      subst hty2
      simp only [Prog.run] at hr1
      have hlo : lo < cs.length := by
       rcases Nat.lt_or_ge lo cs.length with hh | hh
       ·exact hh
       ·rw [List.drop_eq_nil_of_le hh] at hdrop; cases hdrop
      have hget : cs[lo]? = some ⟨.sl el r, xs, true⟩ := by have := congrArg (fun l => l[0]?) hdrop; simpa using this
      obtain ⟨v, hload, hdv⟩ := load_cells (P := P) htk (ad := ⟨(g.bx i).b, lo, none⟩) (lo := lo) rfl k4 (fun j u hu _ => by
       show W.cell? ⟨(g.bx i).b, lo + j, none⟩ = some u
       rw [cell_of_heap k1]; simpa using hu) (show lo + 1 ≤ cs.length from hlo) hz
      obtain ⟨u, hu, htip⟩ := k5 lo _ hget rfl
      have hdat2 := hdv g rfl
      obtain ⟨u', hu', hrep⟩ := k4.get lo _ hget
      have hu2 : vs.toList[lo]? = some u := by simpa using hu
      rw [hu2] at hu'
      injection hu' with hu'
      subst hu'
      have hvu : v = u := by
       have hh : W.cell? ⟨(g.bx i).b, lo, none⟩ = some u := by rw [cell_of_heap k1]; exact hu
       have hrun : (Instr.loadAt t (.pointer (some ⟨(g.bx i).b, lo, none⟩))).run P W = .ok u W := by
        have hag : (Ty.sl el r).isAgg = false := rfl
        simp only [Instr.loadAt, Instr.sureAddr, Sem.run_bind, Sem.run_pure, Result.andThen_ok, loadVar, htk.run_isAgg, hag, Bool.false_eq_true, if_false, run_load]
        rw [hh]
       rw [hrun] at hload
       injection hload with hload _
       exact hload.symm
      subst hvu
      rw [put_run hr1] at hK
      -- the box without the right
      have h1 : St w0 T f0 G.n (e.set (.box i) (.box B (putCells cs lo [⟨.sl el r, xs, false⟩]) (ver + 1))) a W g := by
       refine h.setBox (pv := .box B (putCells cs lo [⟨.sl el r, xs, false⟩]) (ver + 1)) ⟨vs, k1, k2, k3, ?_, fun j d hj ht => ?_⟩ (fun _ => rfl) (by rw [hb]; rfl) ?_
       ·refine Cells.of_get (by rw [putCells_one hlo, List.length_set]; exact k4.len) fun j d w hj hw => ?_
        rw [putCells_one hlo, List.getElem?_set] at hj
        split at hj
        ·rename_i he
         subst he
         injection hj with hj
         subst hj
         rw [hu2] at hw
         injection hw with hw
         subst hw
         exact hrep
        ·obtain ⟨w', hw', hr'⟩ := k4.get j d hj
         rw [hw'] at hw
         injection hw with hw
         subst hw
         exact hr'
       ·rw [putCells_one hlo, List.getElem?_set] at hj
        split at hj
        ·injection hj with hj
         subst hj
         cases ht
        ·exact k5 j d hj ht
       refine ⟨fun k hk => ?_, fun hh => by simp [PV.there] at hh⟩
       rw [hb]
       simp only [PV.lnkAt, Bool.and_eq_true] at hk ⊢
       refine ⟨hk.1, ?_⟩
       rcases putCells_lnk (ds := [⟨.sl el r, xs, false⟩]) (by simp; omega) hk.2 with ⟨hh, -⟩ | ⟨-, hh⟩
       ·exact hh
       ·cases hq : k - lo <;> rw [hq] at hh <;> simp [cellLnk, DV.isLnk] at hh
      have hfree : Free (e.set (.box i) (.box B (putCells cs lo [⟨.sl el r, xs, false⟩]) (ver + 1))) (.cell i lo) := by
       refine ⟨fun t ht => by simp at ht, fun i' T' cs' v' hbx => ⟨by simp, fun j d hj hcs => ?_⟩, fun i' hx => ⟨by simp, fun k hk => by injection hk with hk _; subst hk; simp [Env.set, PV.isR] at hx⟩⟩
       injection hj with hj1 hj2
       subst hj1; subst hj2
       simp only [Env.set, if_true, PV.box.injEq] at hbx
       obtain ⟨-, hbx, -⟩ := hbx
       subst hbx
       rw [putCells_one hlo, List.getElem?_set_self hlo] at hcs
       injection hcs with hcs
       rw [← hcs]
      refine wp_value (v := v) (W' := W) (by simp [execOp, ho, hv, hload]) ?_
      cases hdst : o.dst with
      | none =>
       rw [hdst] at hK
       exact hK _ _ _ h1
      | some d =>
       obtain ⟨g', e1, e2, h'', htip'⟩ := h1.retip (.slot d) hfree htip
       have hfin := h''.put (d := d) (dst_lt hd d hdst) (pv := .val ⟨.sl el r, xs, true⟩) (v := v) ⟨one_not_agg (hrep.one _ _ _ v (by simp)), by rw [e1]; exact hrep, fun _ => htip'⟩ (not_ptr rfl _)
       rw [hdst] at hK
       exact hK _ _ _ hfin
     ·simp [Prog.run] at hr1
   ·rename_i B cs ver hb
    have hbr := h.boxes i
    rw [hb] at hbr
    obtain ⟨vs, k1, k2⟩ := hbr
    split at hr1
    ·rename_i hl
     obtain ⟨v, hload, hdv⟩ := load_cells (P := P) htk (ad := ⟨(g.bx i).b, lo, none⟩) (lo := lo) rfl k1 (fun j u hu _ => (k2 _ u hu).2) hl hz
     rw [put_run hr1] at hK
     exact wp_value (v := v) (by simp [execOp, ho, hv, hload]) (hK _ _ _ (h.putDat hd (hdv g rfl) loadAs_clear (loadAs_ptr e)))
    ·simp [Prog.run] at hr1
   ·simp [Prog.run] at hr1
  ·rename_i cs
   obtain ⟨ad, hv, hs, hc⟩ := hdat
   split at hr1
   ·rename_i hl
    have hex : ∃ vs : List Value, Cells g.fix W cs vs ∧ ∀ (j : Nat) u, vs[j]? = some u → W.cell? ⟨ad.block, ad.off + j, none⟩ = some u := by
     have hch : ∀ j : Nat, ∃ u, ∀ d, cs[j]? = some d → Rep g.fix W d.t d.x [u] ∧ W.cell? ⟨ad.block, ad.off + j, none⟩ = some u := fun j => by
      cases hj : cs[j]? with
      | none => exact ⟨undef, fun d hd => by cases hd⟩
      | some d => obtain ⟨u, h1, h2, h3⟩ := hc j d hj; exact ⟨u, fun d' hd' => by cases hd'; exact ⟨h1, h3⟩⟩
     obtain ⟨fu, hch'⟩ := Classical.axiomOfChoice hch
     refine ⟨(List.range cs.length).map fu, Cells.of_get (by simp) (fun j d v hd hv => ?_), fun j u hu => ?_⟩
     ·have hj : j < cs.length := (List.getElem?_eq_some_iff.1 hd).1
      simp [hj] at hv
      rw [← hv]
      exact (hch' j d hd).1
     ·have hj : j < cs.length := by
       have := (List.getElem?_eq_some_iff.1 hu).1
       simpa using this
      simp [hj] at hu
      rw [← hu]
      exact (hch' j _ (List.getElem?_eq_getElem hj)).2
    obtain ⟨vs, hcs, hcell⟩ := hex
    obtain ⟨v, hload, hdv⟩ := load_cells (P := P) htk (ad := ad) (lo := 0) hs hcs (fun j u hu _ => by rw [Nat.zero_add] at hu; exact hcell j u hu) (by omega) hz
    rw [put_run hr1] at hK
    exact wp_value (v := v) (by simp [execOp, ho, hv, hload]) (hK _ _ _ (h.putDat hd (hdv g rfl) loadAs_clear (loadAs_ptr e)))
   ·simp [Prog.run] at hr1
  ·simp [Prog.run] at hr1
 ·simp [Prog.run] at hr
end
end Go.PM
