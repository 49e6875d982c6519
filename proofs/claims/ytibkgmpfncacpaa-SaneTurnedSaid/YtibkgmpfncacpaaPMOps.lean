/- PM: what operations read, and how results are put. -/
import Derived.Test.YtibkgmpfncacpaaPMSem
namespace Go.PM
open Go
theorem Prog.run_eq {R : Type} : ∀ (p : Prog) (e : Env) (c : Env → Option R), p.run e c = (p.run e some).bind c
 | .done, _, _ => rfl
 | .fail, _, _ => rfl
 | .get p k, e, c => Prog.run_eq (k (e p)) e c
 | .getH i k, e, c => Prog.run_eq (k (rowHead (e (.box i)))) e c
 | .set p v k, e, c => Prog.run_eq k (e.set p v) c
 | .chk b k, e, c => by cases b <;> simp only [Prog.run, cond_true, cond_false, Option.bind_none]; exact Prog.run_eq k e c
 | .bind m k, e, c => by
  cases m with
  | none => rfl
  | some x => exact Prog.run_eq (k x) e c
theorem wp_value {P : Program} {o : Oper} {a : Act} {W W' : World} {v : Value} {K : Act → World → Prop} {Q : Exit → Act → World → Prop} (h : (execOp a.eval o).run P W = .ok (.value v) W') (hk : K (a.put o.dst v) W') : o.wp P a W K Q := by
 unfold Oper.wp; rw [h]; exact hk
theorem wp_skip' {P : Program} {o : Oper} {a : Act} {W W' : World} {K : Act → World → Prop} {Q : Exit → Act → World → Prop} (h : (execOp a.eval o).run P W = .ok .skip W') (hk : K (a.put o.dst undef) W') : o.wp P a W K Q := by
 unfold Oper.wp; rw [h]; exact hk
def Dat (g : Gh) (W : World) (pv : PV) (v : Value) : Prop := SRep g W 0 pv.clear v
@[simp] theorem PV.clear_clear (pv : PV) : pv.clear.clear = pv.clear := by cases pv <;> rfl
theorem SRep.dat {g : Gh} {W : World} {t : Nat} {pv : PV} {v : Value} (h : SRep g W t pv v) : Dat g W pv v := by
 cases pv <;> first | exact ⟨h.1, h.2.1, fun ht => by simp [DV.clear] at ht⟩ | exact h
theorem Dat.slot {g : Gh} {W : World} {pv : PV} {v : Value} (h : Dat g W pv v) (t : Nat) : SRep g W t pv.clear v := by
 cases pv <;> first | exact ⟨h.1, h.2.1, fun ht => by simp [DV.clear] at ht⟩ | exact h
section
variable {w0 : World} {T : Nat → Prop} {f0 : F0} {n : Nat} {e : Env} {a : Act} {W : World} {g : Gh}
theorem constPV_dat (g : Gh) (W : World) (v : Value) : Dat g W (constPV v) v := by
 unfold constPV
 split
 ·exact ⟨rfl, rfl, fun h => by simp [DV.clear] at h⟩
 ·exact ⟨rfl, rfl, fun h => by simp [DV.clear] at h⟩
 ·exact ⟨rfl, rfl, fun h => by simp [DV.clear] at h⟩
 ·exact rfl
 ·exact rfl
 ·trivial
theorem constPV_ptr (e : Env) (g : Gh) (v w : Value) : PtrOk e g (constPV v) w := by
 unfold constPV
 split <;> trivial
theorem getV_sound (h : St w0 T f0 n e a W g) {x : Operand} {k : PV → Prog} {e' : Env} (hr : (getV x k).run e some = some e') :
  ∃ pv, (k pv).run e some = some e' ∧ Dat g W pv (a.eval x) ∧ PtrOk e g pv (a.eval x) := by
 cases x with
 | tmp t => exact ⟨e (.slot t), hr, (h.slots t).dat, h.ptr t⟩
 | const v => exact ⟨constPV v, hr, constPV_dat g W v, constPV_ptr e g v _⟩
 | global i => simp [getV, Prog.run] at hr
 | func f => exact ⟨.fn f, hr, rfl, trivial⟩
theorem isAgg_false_cells {v : Value} (h : Value.isAgg v = false) : v.cells.toList = [v] := by
 cases v <;> first | rfl | (simp [Value.isAgg] at h)
theorem PV.as_sound {t : Ty} {pv : PV} {y : t.D} {v : Value} (h : Dat g W pv v) (ha : pv.as t = some y) : VRep g.fix W t y v := by
 cases pv <;> simp only [PV.as] at ha <;> try (simp at ha; done)
 ·-- nil
  cases t <;> simp at ha
  subst ha
  have h' : v = .slice none 0 0 := h
  subst h'
  exact ⟨rfl, none, 0, rfl, ⟨Nat.le_refl _, Nat.zero_le _⟩, fun hn => absurd rfl hn⟩
 ·rename_i d
  cases hag : t.isAgg <;> simp only [hag, cond_true, cond_false] at ha
  ·obtain ⟨tip, e⟩ := DV.as_eq ha
   subst e
   refine ⟨h.1.trans hag.symm, ?_⟩
   rw [isAgg_false_cells h.1]
   exact h.2.1
  ·simp at ha
 ·rename_i cs
  cases hag : t.isAgg <;> simp only [hag, cond_true, cond_false] at ha
  ·simp at ha
  ·split at ha
   ·rename_i x hx
    injection ha with ha
    subst ha
    obtain ⟨vs, e, hc, -⟩ := h
    subst e
    exact ⟨by rw [hag]; rfl, Ty.build_all hx hc⟩
   ·simp at ha
 ·-- a function
  rename_i f
  cases t <;> try (simp at ha; done)
  rename_i q c
  cases c <;> try (simp at ha; done)
  have h' : v = .func (.func f) #[] #[] := h
  subst h'
  cases hq : Nat.beq f q <;> simp only [hq, cond_true, cond_false] at ha
  ·cases ha
  ·have hq := Nat.eq_of_beq_eq_true hq
   subst hq
   exact ⟨rfl, [], rfl, rfl⟩
 ·-- a slice that is not nil
  rename_i d b
  cases hag : t.isAgg <;> simp only [hag, cond_true, cond_false] at ha
  ·obtain ⟨tip, e⟩ := DV.as_eq ha
   subst e
   refine ⟨h.1.trans hag.symm, ?_⟩
   rw [isAgg_false_cells h.1]
   exact h.2.1
  ·simp at ha
 ·-- one that was just made
  rename_i d
  cases hag : t.isAgg <;> simp only [hag, cond_true, cond_false] at ha
  ·obtain ⟨tip, e⟩ := DV.as_eq ha
   subst e
   refine ⟨h.1.trans hag.symm, ?_⟩
   rw [isAgg_false_cells h.1]
   exact h.2.1
  ·simp at ha
theorem getD_sound (h : St w0 T f0 n e a W g) {t : Ty} {x : Operand} {k : t.D → Prog} {e' : Env} (hr : (getD t x k).run e some = some e') :
  ∃ y, (k y).run e some = some e' ∧ VRep g.fix W t y (a.eval x) := by
 obtain ⟨pv, hr, hd, _⟩ := getV_sound h hr
 split at hr
 ·rename_i y hy
  exact ⟨y, hr, PV.as_sound hd hy⟩
 ·simp [Prog.run] at hr
theorem getInt_sound (h : St w0 T f0 n e a W g) {x : Operand} {k : Int → Prog} {e' : Env} (hr : (getInt x k).run e some = some e') :
  ∃ kd i, (k i).run e some = some e' ∧ a.eval x = .int kd i := by
 obtain ⟨pv, hr, hd, _⟩ := getV_sound h hr
 split at hr
 ·rename_i kd i tip _
  exact ⟨kd, i, hr, by have := hd.2.1; simpa [Rep, DV.clear] using this⟩
 ·simp [Prog.run] at hr
theorem PtrOk.set_slot {e : Env} {g : Gh} {pv : PV} {v : Value} {t : Nat} {qv : PV} (h : PtrOk e g pv v) : PtrOk (e.set (.slot t) qv) g pv v := by
 have hb : ∀ i, (e.set (.slot t) qv) (.box i) = e (.box i) := fun i => by simp [Env.set]
 cases pv <;> simp only [PtrOk, hb] <;> first | exact h | trivial
theorem St.setSlot (h : St w0 T f0 n e a W g) {t : Nat} {pv : PV} (hs : SRep g W t pv (a.tmps.getD t undef)) (hp : PtrOk e g pv (a.tmps.getD t undef)) : St w0 T f0 n (e.set (.slot t) pv) a W g where
 defers := h.defers
 tmps := h.tmps
 os := h.os
 tape := h.tape
 output := h.output
 size := h.size
 old := h.old
 ownNew := h.ownNew
 fixLt := h.fixLt
 fixOld := h.fixOld
 fixNew := h.fixNew
 nle := h.nle
 bxOld := h.bxOld
 ptr := fun t' => PtrOk.set_slot (by
  simp only [Env.set, Place.slot.injEq]
  split
  ·rename_i ht; subst ht; exact hp
  ·exact h.ptr t')
 slots := fun t' => by
  simp only [Env.set, Place.slot.injEq]
  split
  ·rename_i ht; subst ht; exact hs
  ·exact h.slots t'
 boxes := fun i => by simpa [Env.set] using h.boxes i
 lnks := fun i k => by simpa [Env.set] using h.lnks i k
theorem getD_setIfInBounds (A : Array Value) (d t : Nat) (v : Value) (hd : d < A.size) : (A.setIfInBounds d v).getD t undef = if t = d then v else A.getD t undef := by
 simp only [Array.getD_eq_getD_getElem?, Array.getElem?_setIfInBounds]
 by_cases e : d = t
 ·subst e; simp [hd]
 ·have e' : ¬ t = d := fun h => e h.symm
  simp [e, e']
theorem St.put (h : St w0 T f0 n e a W g) {d : Nat} (hd : d < n) {pv : PV} {v : Value} (hs : SRep g W d pv v) (hp : PtrOk e g pv v) : St w0 T f0 n (e.set (.slot d) pv) (a.put (some d) v) W g where
 defers := h.defers
 tmps := by simp [Act.put, h.tmps]
 os := h.os
 tape := h.tape
 output := h.output
 size := h.size
 old := h.old
 ownNew := h.ownNew
 fixLt := h.fixLt
 fixOld := h.fixOld
 fixNew := h.fixNew
 nle := h.nle
 bxOld := h.bxOld
 ptr := fun t' => PtrOk.set_slot (by
  have ht := getD_setIfInBounds a.tmps d t' v (by rw [h.tmps]; exact hd)
  simp only [Env.set, Place.slot.injEq, Act.put]
  rw [ht]
  split
  ·rename_i ht; subst ht; exact hp
  ·exact h.ptr t')
 slots := fun t' => by
  have ht := getD_setIfInBounds a.tmps d t' v (by rw [h.tmps]; exact hd)
  simp only [Env.set, Place.slot.injEq, Act.put]
  rw [ht]
  split
  ·rename_i ht; subst ht; exact hs
  ·exact h.slots t'
 boxes := fun i => by simpa [Env.set] using h.boxes i
 lnks := fun i k => by simpa [Env.set] using h.lnks i k
def putE (dst : Option Nat) (pv : PV) (e : Env) : Env := match dst with | some d => e.set (.slot d) pv | none => e
theorem dst_lt {n : Nat} {dst : Option Nat} (h : dstOk n dst = true) : ∀ d, dst = some d → d < n := by
 intro d hd; subst hd; exact Nat.le_of_ble_eq_true h
theorem St.putDst (h : St w0 T f0 n e a W g) {dst : Option Nat} (hd : dstOk n dst = true) {pv : PV} {v : Value} (hs : ∀ d, dst = some d → SRep g W d pv v) (hp : PtrOk e g pv v) : St w0 T f0 n (putE dst pv e) (a.put dst v) W g := by
 cases dst with
 | none => exact h
 | some d => exact h.put (dst_lt hd d rfl) (hs d rfl) hp
theorem put_run {dst : Option Nat} {pv : PV} {e e' : Env} (hr : (put dst pv .done).run e some = some e') : e' = putE dst pv e := by
 cases dst <;> (simp only [PM.put, Prog.run, Option.some.injEq] at hr; exact hr.symm)
theorem St.putDat (h : St w0 T f0 n e a W g) {dst : Option Nat} (hd : dstOk n dst = true) {pv : PV} {v : Value} (hs : Dat g W pv v) (hc : pv.clear = pv) (hp : PtrOk e g pv v) : St w0 T f0 n (putE dst pv e) (a.put dst v) W g :=
 h.putDst hd (fun d _ => by have := hs.slot d; rwa [hc] at this) hp
theorem not_ptr {pv : PV} (h : pv.at? = none) (e : Env) {g : Gh} {v : Value} : PtrOk e g pv v := by
 cases pv <;> first | trivial | (simp [PV.at?] at h)
theorem PtrOk.cell {e : Env} {g : Gh} {pv : PV} {v : Value} (h : PtrOk e g pv v) {i : Nat} (hp : pv.cellAt = some i) : (e (.box i)).isCell = true := by
 cases pv <;> simp [PV.cellAt] at hp <;> subst hp <;> exact h
theorem isBox_of_isCell {pv : PV} (h : pv.isCell = true) : pv.isBox = true := by cases pv <;> first | rfl | (simp [PV.isCell] at h)
theorem HOk.isBox {pv : PV} {b : Bx} {hv : Nat} {v : Value} (h : HOk pv b hv v) : pv.isBox = true := by cases pv <;> first | rfl | exact h.elim
theorem RpOk.isBox {pv : PV} {b : Bx} {hv i o sz : Nat} {v : Value} (h : RpOk pv b hv i o sz v) : pv.isBox = true := by cases pv <;> first | rfl | exact h.elim
theorem ShOk.isBox {pv : PV} {b : Bx} {hv ver i o : Nat} {v : Value} (h : ShOk pv b hv ver i o v) : pv.isBox = true := by cases pv <;> first | rfl | exact h.elim
theorem SpOk.isBox {pv : PV} {b : Bx} {hv ver i o i2 o2 sz2 : Nat} {v : Value} (h : SpOk pv b hv ver i o i2 o2 sz2 v) : pv.isBox = true := by cases pv <;> first | rfl | exact h.elim
theorem PtrOk.isBox {e : Env} {g : Gh} {pv : PV} {v : Value} (h : PtrOk e g pv v) {i : Nat} (hp : i ∈ pv.ats) : (e (.box i)).isBox = true := by
 cases pv
 case aggh cs hs =>
  obtain ⟨us, -, h⟩ := h
  simp only [PV.ats, List.mem_map] at hp
  obtain ⟨x, hx, rfl⟩ := hp
  obtain ⟨u, -, h⟩ := h x hx
  exact HOk.isBox h
 all_goals simp [PV.ats, PV.at?] at hp
 all_goals subst hp
 ·exact isBox_of_isCell h
 ·exact HOk.isBox h
 ·exact RpOk.isBox h
 ·obtain ⟨_, _, _, _, h⟩ := h; exact HOk.isBox h
 ·exact isBox_of_isCell h
 ·exact isBox_of_isCell h
 ·exact ShOk.isBox h
 ·exact SpOk.isBox h
theorem PtrOk.of {e e' : Env} {g g' : Gh} {pv : PV} {v : Value} (h : PtrOk e g pv v) (hk : ∀ i, i ∈ pv.ats → e' (.box i) = e (.box i) ∧ g'.bx i = g.bx i) : PtrOk e' g' pv v := by
 cases pv
 case aggh cs hs =>
  obtain ⟨us, h0, h⟩ := h
  refine ⟨us, h0, fun x hx => ?_⟩
  obtain ⟨u, h1, h2⟩ := h x hx
  obtain ⟨k1, k2⟩ := hk x.2.1 (by simp only [PV.ats, List.mem_map]; exact ⟨x, hx, rfl⟩)
  exact ⟨u, h1, by rw [k1, k2]; exact h2⟩
 all_goals try trivial
 all_goals have hk := fun i hi => hk i (by simp only [PV.ats, PV.at?]; exact hi)
 all_goals have hk := hk _ (List.Mem.head _)
 all_goals obtain ⟨h1, h2⟩ := hk
 all_goals simp only [PtrOk] at h ⊢
 all_goals first | (rw [h1]; exact h) | (rw [h1, h2]; exact h)
def PV.isR : PV → Bool
 | .row _ _ _ _ _ => true
 | .hole _ _ _ _ _ _ _ _ _ _ => true
 | .set _ l _ => l
 | .iter _ _ _ => true
 | _ => false
def Free (e : Env) (q : Lab) : Prop :=
 (∀ t, q = (.slot t) → (e (.slot t)).owns = false) ∧
 (∀ i T cs v, e (.box i) = .box T cs v → q ≠ .box i ∧ ∀ (j : Nat) d, q = (.cell i j) → cs[j]? = some d → d.tip = false) ∧
 (∀ i, (e (.box i)).isR = true → q ≠ .box i ∧ ∀ k, q ≠ .cell i k)
theorem SRep.move' {X : Lab → Prop} {W' : World} {g' : Gh} (m : Move X W W' g g') {t : Nat} {pv : PV} (hq : pv.owns = true → ¬ X (.slot t)) {v : Value} (hb : ∀ i, pv.cellAt = some i → g'.bx i = g.bx i) (h : SRep g W t pv v) : SRep g' W' t pv v := by
 by_cases hx : X (.slot t)
 ·have hc : pv.clear = pv := by
   cases pv <;> try rfl
   ·rename_i d
    have : d.tip ≠ true := fun ht => hq ht hx
    obtain ⟨a, b, c⟩ := d
    cases c
    ·rfl
    ·exact absurd rfl this
   ·exact absurd hx (hq rfl)
  have hm : Move (fun _ => True) W W' g g' := ⟨m.fixed, fun b q hb hn => absurd trivial hn⟩
  have h1 := h.dat
  have h2 : SRep g W t pv v := by have := h1.slot t; rwa [hc] at this
  rw [← hc]
  refine Dat.slot ?_ t
  unfold Dat
  cases pv with
  | val d => exact ⟨h2.1, Rep.mono m.fixed _ _ _ h2.2.1, fun ht => by simp [DV.clear] at ht⟩
  | unk => trivial
  | undef => exact h2
  | nil => exact h2
  | nilp => exact h2
  | agg cs => obtain ⟨vs, e, hc, hn⟩ := h2; exact ⟨vs, e, Cells.mono m.fixed hc, hn⟩
  | aggh cs _ => obtain ⟨vs, e, hc, hn⟩ := h2; exact ⟨vs, e, Cells.mono m.fixed hc, hn⟩
  | hole _ _ _ _ _ _ _ _ _ _ => trivial
  | full d b => exact ⟨h2.1, Rep.mono m.fixed _ _ _ h2.2.1, h2.2.2⟩
  | exact d => exact absurd hx (hq rfl)
  | frz _ _ _ => trivial
  | tup l =>
   obtain ⟨us, e, hl, hc⟩ := h2
   refine ⟨us, e, hl, fun j p hp => ?_⟩
   obtain ⟨u, h1, h2, h3⟩ := hc j p hp
   exact ⟨u, h1, h2, Cells.mono m.fixed h3⟩
  | bptr i lo => simp only [PV.clear, SRep] at h2 ⊢; rw [hb i rfl]; exact h2
  | mptr i => simp only [PV.clear, SRep] at h2 ⊢; rw [hb i rfl]; exact h2
  | itr i => simp only [PV.clear, SRep] at h2 ⊢; rw [hb i rfl]; exact h2
  | set _ _ _ => trivial
  | iter _ _ _ => trivial
  | eptr cs =>
   obtain ⟨ad, e, hs, hc⟩ := h2
   refine ⟨ad, e, hs, fun j d hd => ?_⟩
   obtain ⟨u, h1, h2, h3⟩ := hc j d hd
   exact ⟨u, Rep.mono m.fixed _ _ _ h1, (m.fixed _ _ h2).1, (m.fixed _ _ h2).2 _ h3⟩
  | fn f => exact h2
  | box _ _ _ => trivial
  | lent _ _ => trivial
  | row _ _ _ _ _ => trivial
  | gone _ _ => trivial
  | hdr _ _ => trivial
  | rptr _ _ _ _ _ => trivial
  | lrow _ _ _ _ => trivial
  | shdr _ _ _ _ _ => trivial
  | sptr _ _ _ _ _ _ _ _ => trivial
  | tupr l _ _ _ =>
   obtain ⟨us, e, hl, hc⟩ := h2
   refine ⟨us, e, hl, fun j p hp => ?_⟩
   obtain ⟨u, h1, h2, h3⟩ := hc j p hp
   exact ⟨u, h1, h2, Cells.mono m.fixed h3⟩
 ·exact h.move m hx hb
theorem BRep.move' {X : Lab → Prop} {W' : World} {g' : Gh} (m : Move X W W' g g') {i : Nat} {pv : PV} (h1 : ∀ T cs v, pv = .box T cs v → ¬ X (.box i) ∧ ∀ (j : Nat) d, X (.cell i j) → cs[j]? = some d → d.tip = false)
  (h2 : pv.isR = true → ¬ X (.box i) ∧ ∀ k, ¬ X (.cell i k)) (hb : g'.bx i = g.bx i) (h : BRep g W i pv) : BRep g' W' i pv := by
 cases pv <;> try trivial
 ·rename_i T cs ver
  obtain ⟨x1, x2⟩ := h1 T cs ver rfl
  obtain ⟨vs, k1, k2, k3, k4, k5⟩ := h
  obtain ⟨o1, o2, o3⟩ := m.own _ _ k2 x1
  simp only [BRep]
  rw [hb]
  refine ⟨vs, o2.trans k1, o1, fun o ho => k3 o (o3 o ho), Cells.mono m.fixed k4, fun j d hd ht => ?_⟩
  obtain ⟨u, hu, htip⟩ := k5 j d hd ht
  exact ⟨u, hu, htip.move m (fun hx => by rw [x2 j d hx hd] at ht; cases ht)⟩
 ·obtain ⟨vs, k1, k2⟩ := h
  simp only [BRep]
  rw [hb]
  exact ⟨vs, Cells.mono m.fixed k1, fun j u hu => ⟨(m.fixed _ _ (k2 j u hu).1).1, (m.fixed _ _ (k2 j u hu).1).2 _ (k2 j u hu).2⟩⟩
 ·simp only [BRep] at h ⊢
  rw [hb]
  exact ⟨h.1.move m (h2 rfl).1, h.2.move m (h2 rfl).1 (h2 rfl).2⟩
 ·rename_i ks live ver
  cases live
  ·trivial
  ·simp only [BRep] at h ⊢
   rw [hb]
   exact h.move m (h2 rfl).1
 ·simp only [BRep] at h ⊢
  rw [hb]
  exact h.move m (h2 rfl).1
 ·simp only [BRep] at h ⊢
  rw [hb]
  exact h.move m (h2 rfl).1 (h2 rfl).2
theorem St.move (h : St w0 T f0 n e a W g) {X : Lab → Prop} {W' : World} {g' : Gh} (m : Move X W W' g g') (hX : ∀ q, X q → Free e q)
  (hb : ∀ i, ((e (.box i)).isBox = true ∨ 1000000 ≤ i) → g'.bx i = g.bx i)
  (os : W'.os = W.os) (tape : W'.tape = W.tape) (output : W'.output = W.output) (size : W.heap.size ≤ W'.heap.size)
  (old : ∀ b, b < w0.heap.size → ¬ T b → W'.heap[b]? = W.heap[b]?)
  (ownNew : ∀ b q, g'.own b = some q → b < W'.heap.size ∧ (b < w0.heap.size → T b))
  (fixLt : ∀ b o, g'.fix b o → b < W'.heap.size)
  (fixNew : ∀ b o, b < w0.heap.size → ¬ T b → g'.fix b o → g.fix b o) : St w0 T f0 n e a W' g' where
 defers := h.defers
 tmps := h.tmps
 os := os.trans h.os
 tape := tape.trans h.tape
 output := output.trans h.output
 size := Nat.le_trans h.size size
 old := fun b hb ht => (old b hb ht).trans (h.old b hb ht)
 ownNew := ownNew
 fixLt := fixLt
 fixOld := fun b o hf => ⟨(m.fixed b o (h.fixOld b o hf).1).1, fun u hu => (m.fixed b o (h.fixOld b o hf).1).2 u ((h.fixOld b o hf).2 u hu)⟩
 fixNew := fun b o hb ht hf => h.fixNew b o hb ht (fixNew b o hb ht hf)
 nle := h.nle
 bxOld := fun i hi hi2 => (hb i (.inr hi)).trans (h.bxOld i hi hi2)
 ptr := fun t => (h.ptr t).of fun i hi => ⟨rfl, hb i (.inl ((h.ptr t).isBox hi))⟩
 slots := fun t => (h.slots t).move' m (fun ht hx => by rw [(hX _ hx).1 t rfl] at ht; cases ht) (fun i hp => hb i (.inl (isBox_of_isCell ((h.ptr t).cell hp))))
 boxes := fun i => by
  have hbi := h.boxes i
  cases hq : (e (.box i)).isBox with
  | false => generalize e (.box i) = pv at hq ⊢; cases pv <;> first | trivial | (simp [PV.isBox] at hq)
  | true => exact hbi.move' m (fun T' cs' v' he => ⟨fun hx => ((hX _ hx).2.1 i T' cs' v' he).1 rfl, fun j d hx hd => ((hX _ hx).2.1 i T' cs' v' he).2 j d rfl hd⟩) (fun hr => ⟨fun hx => ((hX _ hx).2.2 i hr).1 rfl, fun k hx => ((hX _ hx).2.2 i hr).2 k rfl⟩) (hb i (.inl hq))
 lnks := fun i k h1 h2 => by
  have hc := h.lnks i k h1 h2
  have hbi := h.boxes i
  have hib : (e (.box i)).isBox = true := by revert h1; generalize e (.box i) = p; cases p <;> first | (intro _; rfl) | (intro h1; simp [PV.lnkAt] at h1)
  have hkb : (e (.box (lk i k))).isBox = true := by revert h2; generalize e (.box (lk i k)) = p; cases p <;> first | (intro _; rfl) | (intro h2; simp [PV.there] at h2)
  rw [hb i (.inl hib), hb _ (.inl hkb), ← hc]
  cases he : e (.box i) with
  | box T' cs ver =>
   rw [he] at hbi
   obtain ⟨vs, k1, k2, -⟩ := hbi
   exact World.cell?_of_block (w := W) (m.own _ _ k2 (fun hx => ((hX _ hx).2.1 i T' cs ver he).1 rfl)).2.1
  | _ => rw [he] at h1; simp [PV.lnkAt] at h1
theorem St.relabel (h : St w0 T f0 n e a W g) {q q' : Lab} (hf : Free e q) {b : Nat} (hb : g.own b = some q) :
  St w0 T f0 n e a W { g with own := fun c => if c = b then some q' else g.own c } := by
 refine h.move (X := fun x => x = q) ⟨fun b o hf => ⟨hf, fun _ h => h⟩, fun c x hc hx => ⟨?_, rfl, fun _ h => h⟩⟩ (fun x hx => by rw [hx]; exact hf) (fun _ _ => rfl) rfl rfl rfl (Nat.le_refl _) (fun _ _ _ => rfl) (fun c x hc => ?_) (fun c o hf => h.fixLt c o hf) (fun _ _ _ _ h => h)
 ·have : ¬ c = b := fun e => by subst e; rw [hb] at hc; injection hc with hc; exact hx hc.symm
  simp [this, hc]
 ·simp only at hc
  split at hc
  ·rename_i e; subst e; exact h.ownNew _ _ hb
  ·exact h.ownNew c x hc
end
end Go.PM
