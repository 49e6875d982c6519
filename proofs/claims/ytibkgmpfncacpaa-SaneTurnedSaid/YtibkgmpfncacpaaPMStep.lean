/- PM: each operation, sound, all together; what an operation leaves as it was. -/
import Derived.Test.YtibkgmpfncacpaaPMClo
namespace Go.PM
open Go
structure CtxOk (P : Program) (G : Ctx) : Prop where
 ty : ∀ t T, look t G.ty = some T → TyOk P t T ∧ T.ht < 10000
 fns : ∀ f S, look f G.fns = some S → FOk P (f % 1000000) S
 ptrs : ∀ t, t ∈ G.ptrs → P.underlying t = some (.pointer (P.pointee t))
 sets : ∀ t, t ∈ G.sets → ∃ k e i, P.underlying t = some (.map k e) ∧ P.underlying k = some (.int .i64) ∧ P.info? e = some i ∧ i.zero = some (.agg #[])
section
variable {P : Program} {G : Ctx} {w0 : World} {T : Nat → Prop} {f0 : F0}
theorem bool_und {t : TypeId} (h : TyOk P t .bool) : P.underlying t = some .bool := by
 unfold TyOk at h
 simp only [tyGo, Bool.and_eq_true] at h
 have h2 := h.2
 split at h2
 ·assumption
 ·simp at h2
theorem op_soundV (hG : CtxOk P G) (o : Oper) : Sound P G w0 T f0 o := by
 have hT : CtxTys P G := fun t T h => (hG.ty t T h).1
 intro e e' a W g K Q h hd hr hK
 have fails : (opV G o).run e some = none → o.wp P a W K Q := fun h => by rw [h] at hr; cases hr
 cases ho : o.op with
 | move x => exact sound_move ho h hd hr hK
 | assign x => exact sound_assign ho h hd hr hK
 | pick c x y => exact sound_pick ho h hd hr hK
 | alloc t => exact sound_alloc hT ho h hd hr hK
 | box t x => exact sound_box ho h hd hr hK
 | build t parts => exact sound_build hT ho h hd hr hK
 | buildSlice t n parts => exact sound_buildSlice hT ho h hd hr hK
 | load t x => exact sound_load hT ho h hd hr hK
 | store t x y => exact sound_store hT ho h hd hr hK
 | nilCheck x => exact sound_nilCheck ho h hd hr hK
 | binOp op t x y u => exact sound_binOp hT hG.ptrs (fun h => bool_und (hG.ty _ _ h).1) (fun T h => eqOk (hG.ty _ _ h).1 (hG.ty _ _ h).2) ho h hd hr hK
 | unOp op t x => exact sound_unOp ho h hd hr hK
 | convert s d x => exact sound_convert hT ho h hd hr hK
 | slice t x lo hi mx => exact sound_slice hT ho h hd hr hK
 | fieldAddr t x f => exact sound_fieldAddr hT ho h hd hr hK
 | field t x f => exact sound_field hT ho h hd hr hK
 | indexAddr t x i => exact sound_indexAddr hT ho h hd hr hK
 | extract x i => exact sound_extract ho h hd hr hK
 | makeFunc fn first captured => exact sound_makeFunc ho h hd hr hK
 | call c =>
  cases hc : c.callee with
  | value x => exact sound_call hG.fns ho hc h hd hr hK
  | invoke r m => exact fails <| by simp [opV, ho, hc, Prog.run]
  | builtin b =>
   cases b
   case len => exact sound_len hT ho hc h hd hr hK
   case max => exact sound_max ho hc h hd hr hK
   case min => exact sound_min ho hc h hd hr hK
   case append => exact sound_append hT ho hc h hd hr hK
   all_goals exact fails <| by simp [opV, ho, hc, Prog.run]
 | _ => exact fails <| by simp [opV, ho, Prog.run]
end
def KeepS (Ws : List Nat) (V : Nat → Prop) (p p' : PV) : Prop := p'.clear = p.clear ∨ (∃ i, p.at? = some i ∧ (i ∈ Ws ∨ p.isSub = true ∨ (2000000 ≤ i ∧ V i)) ∧ (p' = .unk ∨ (p'.at? = some i ∧ p'.isSub = p.isSub)))
theorem clear_at {p : PV} : p.clear.at? = p.at? := by cases p <;> rfl
theorem clear_of_at {p : PV} {i : Nat} (h : p.at? = some i) : p.clear = p := by cases p <;> first | rfl | (simp [PV.at?] at h)
theorem at_eq {p q : PV} {i : Nat} (h : p.clear = q.clear) (hq : q.at? = some i) : p = q := by
 have hp : p.at? = some i := by rw [← clear_at, h, clear_at, hq]
 rw [← clear_of_at hp, h, clear_of_at hq]
theorem clear_unk {p : PV} (h : p.clear = .unk) : p = .unk := by cases p <;> simp_all [PV.clear]
theorem KeepS.trans {Ws : List Nat} {V : Nat → Prop} {p q r : PV} (h : KeepS Ws V p q) (k : KeepS Ws V q r) : KeepS Ws V p r := by
 rcases h with h | ⟨i, hp, hi, hq⟩
 ·rcases k with k | ⟨i, hq, hi, hr⟩
  ·exact .inl (k.trans h)
  ·have he := at_eq h.symm hq
   rw [← he] at hr
   exact .inr ⟨i, by rw [he]; exact hq, by rw [he]; exact hi, hr⟩
 ·rcases hq with rfl | ⟨hq, hs⟩
  ·rcases k with k | ⟨_, hq, _⟩
   ·exact .inr ⟨i, hp, hi, .inl (clear_unk k)⟩
   ·cases hq
  ·rcases k with k | ⟨i', hq', hi', hr⟩
   ·have he := at_eq k hq
    subst he
    exact .inr ⟨i, hp, hi, .inr ⟨hq, hs⟩⟩
   ·rw [hq] at hq'
    injection hq' with hq'
    subst hq'
    exact .inr ⟨i, hp, hi, hr.imp id fun ⟨h1, h2⟩ => ⟨h1, h2.trans hs⟩⟩
theorem KeepS.up {Ws : List Nat} {V V' : Nat → Prop} {p q : PV} (h : KeepS Ws V p q) (hv : ∀ i, i ∉ Ws → V i → V' i) : KeepS Ws V' p q := by
 rcases h with h | ⟨i, h1, h2, h3⟩
 ·exact .inl h
 ·refine .inr ⟨i, h1, ?_, h3⟩
  by_cases hi : i ∈ Ws
  ·exact .inl hi
  ·exact h2.imp id fun h => h.imp id fun ⟨k1, k2⟩ => ⟨k1, hv i hi k2⟩
structure Pres (Ws bxs : List Nat) (e e' : Env) : Prop where
 slot : ∀ t, t ∉ Ws → KeepS Ws (fun i => verOf (e (.box i)) < verOf (e' (.box i))) (e (.slot t)) (e' (.slot t))
 box : ∀ i, i ∉ Ws → e' (.box i) = e (.box i) ∨ (i ∈ bxs ∧ verOf (e (.box i)) < verOf (e' (.box i)) ∧ (i < 2000000 → (e (.box i)).isVar = true ∧ (e' (.box i)).isBox = true ∧ hvOf (e' (.box i)) = hvOf (e (.box i))))
theorem Pres.refl (Ws bxs : List Nat) (e : Env) : Pres Ws bxs e e := ⟨fun _ _ => .inl rfl, fun _ _ => .inl rfl⟩
theorem Pres.ver {Ws bxs : List Nat} {e e' : Env} (h : Pres Ws bxs e e') {i : Nat} (hi : i ∉ Ws) : verOf (e (.box i)) ≤ verOf (e' (.box i)) := by
 rcases h.box i hi with h1 | ⟨_, h2, _⟩
 ·rw [h1]; exact Nat.le_refl _
 ·exact Nat.le_of_lt h2
theorem Pres.trans {Ws bxs : List Nat} {e e1 e2 : Env} (h : Pres Ws bxs e e1) (k : Pres Ws bxs e1 e2) : Pres Ws bxs e e2 := by
 refine ⟨fun t ht => ?_, fun i hi => ?_⟩
 ·refine KeepS.trans ((h.slot t ht).up fun i hi h1 => ?_) ((k.slot t ht).up fun i hi h1 => ?_)
  ·exact Nat.lt_of_lt_of_le h1 (k.ver hi)
  ·exact Nat.lt_of_le_of_lt (h.ver hi) h1
 ·rcases h.box i hi with h1 | ⟨h1, h4, h5⟩ <;> rcases k.box i hi with k1 | ⟨k1, k4, k5⟩
  ·exact .inl (k1.trans h1)
  ·rw [h1] at k4 k5; exact .inr ⟨k1, k4, k5⟩
  ·rw [← k1] at h4 h5; exact .inr ⟨h1, h4, h5⟩
  ·exact .inr ⟨h1, by omega, fun hlt => ⟨(h5 hlt).1, (k5 hlt).2.1, (k5 hlt).2.2.trans (h5 hlt).2.2⟩⟩
theorem Pres.mono {Ws Ws' bxs : List Nat} {e e' : Env} (h : Pres Ws bxs e e') (hs : ∀ t, t ∈ Ws → t ∈ Ws') : Pres Ws' bxs e e' :=
 ⟨fun t ht => (h.slot t (fun hh => ht (hs t hh))).imp id (fun ⟨i, h2, h3, h4⟩ => ⟨i, h2, h3.imp (hs i) id, h4⟩), fun i hi => h.box i (fun hh => hi (hs i hh))⟩
theorem Pres.setSlot {Ws bxs : List Nat} {e : Env} {t : Nat} (ht : t ∈ Ws) (v : PV) : Pres Ws bxs e (e.set (.slot t) v) := by
 refine ⟨fun t' ht' => .inl ?_, fun i _ => .inl (by simp [Env.set])⟩
 have : ¬ t' = t := fun h => by subst h; exact ht' ht
 simp [Env.set, this]
theorem mset {Ws bxs : List Nat} {i : Nat} {p v : PV} (h1 : i ∈ bxs) (h2 : p.isVar = true) (h3 : v.isBox = true) (h : verOf p < verOf v ∧ hvOf v = hvOf p) :
  i ∈ Ws ∨ (i ∈ bxs ∧ verOf p < verOf v ∧ (i < 2000000 → p.isVar = true ∧ v.isBox = true ∧ hvOf v = hvOf p)) := .inr ⟨h1, h.1, fun _ => ⟨h2, h3, h.2⟩⟩
theorem mset' {Ws bxs : List Nat} {i : Nat} {p v : PV} (h1 : i ∈ bxs) (h2 : p.isVar = true) (h3 : v.isBox = true) (h4 : verOf p < verOf v) (h5 : hvOf v = hvOf p) :
  i ∈ Ws ∨ (i ∈ bxs ∧ verOf p < verOf v ∧ (i < 2000000 → p.isVar = true ∧ v.isBox = true ∧ hvOf v = hvOf p)) := mset h1 h2 h3 ⟨h4, h5⟩
def Mono (Ws bxs : List Nat) : Prog → Env → Prop
 | .done, _ => True
 | .fail, _ => True
 | .get p k, e => Mono Ws bxs (k (e p)) e
 | .getH i k, e => Mono Ws bxs (k (rowHead (e (.box i)))) e
 | .set (.slot t) v k, e => t ∈ Ws ∧ Mono Ws bxs k (e.set (.slot t) v)
 | .set (.box i) v k, e => (i ∈ Ws ∨ (i ∈ bxs ∧ verOf (e (.box i)) < verOf v ∧ (i < 2000000 → (e (.box i)).isVar = true ∧ v.isBox = true ∧ hvOf v = hvOf (e (.box i))))) ∧ Mono Ws bxs k (e.set (.box i) v)
 | .chk b k, e => b = true → Mono Ws bxs k e
 | .bind m k, e => ∀ x, m = some x → Mono Ws bxs (k x) e
theorem Mono.pres {Ws bxs : List Nat} : ∀ (p : Prog) (e e' : Env), Mono Ws bxs p e → p.run e some = some e' → Pres Ws bxs e e'
 | .done, e, e', _, hr => by injection hr with hr; subst hr; exact .refl _ _ _
 | .fail, _, _, _, hr => by cases hr
 | .get p k, e, e', h, hr => Mono.pres (k (e p)) e e' h hr
 | .getH i k, e, e', h, hr => Mono.pres (k (rowHead (e (.box i)))) e e' h hr
 | .set (.slot t) v k, e, e', h, hr => (Pres.setSlot h.1 v).trans (Mono.pres k _ e' h.2 hr)
 | .set (.box i) v k, e, e', h, hr => by
  refine Pres.trans ?_ (Mono.pres k _ e' h.2 hr)
  refine ⟨fun t _ => .inl (by simp [Env.set]), fun j hj => ?_⟩
  by_cases hji : j = i
  ·subst hji
   rcases h.1 with h1 | ⟨h1, h4, h5⟩
   ·exact absurd h1 hj
   ·exact .inr ⟨h1, by simpa [Env.set] using h4, fun hlt => by simpa [Env.set] using h5 hlt⟩
  ·exact .inl (by simp [Env.set, hji])
 | .chk b k, e, e', h, hr => by
  obtain ⟨hb, hr⟩ := chk_run hr
  exact Mono.pres k e e' (h hb) hr
 | .bind m k, e, e', h, hr => by
  cases hm : m with
  | none => simp [Prog.run, hm] at hr
  | some x =>
   simp only [Prog.run, hm, Option.bind_some] at hr
   exact Mono.pres (k x) e e' (h x hm) hr
section
variable {Ws bxs : List Nat} {e : Env}
theorem mono_getV {x : Operand} {k : PV → Prog} (h : ∀ v, Mono Ws bxs (k v) e) : Mono Ws bxs (getV x k) e := by
 cases x <;> first | exact h _ | trivial
theorem mono_getD {t : Ty} {x : Operand} {k : t.D → Prog} (h : ∀ v, Mono Ws bxs (k v) e) : Mono Ws bxs (getD t x k) e := by
 refine mono_getV fun v => ?_
 split
 ·exact h _
 ·trivial
theorem mono_getInt {x : Operand} {k : Int → Prog} (h : ∀ v, Mono Ws bxs (k v) e) : Mono Ws bxs (getInt x k) e := by
 refine mono_getV fun v => ?_
 split
 ·exact h _
 ·trivial
theorem mono_getOptInt {x : Option Operand} {d : Int} {k : Int → Prog} (h : ∀ v, Mono Ws bxs (k v) e) : Mono Ws bxs (getOptInt x d k) e := by
 cases x
 ·exact h _
 ·exact mono_getInt h
theorem mono_put {dst : Option Nat} {v : PV} {k : Prog} (hd : ∀ d, dst = some d → d ∈ Ws) (h : ∀ e', Mono Ws bxs k e') : Mono Ws bxs (put dst v k) e := by
 cases dst with
 | none => exact h _
 | some d => exact ⟨hd d rfl, h _⟩
theorem mono_done (e : Env) : Mono Ws bxs .done e := trivial
theorem mono_hand {x : Operand} {k : PV → Prog} (hx : ∀ t, x = .tmp t → t ∈ Ws) (h : ∀ v e', (∀ i, e' (.box i) = e (.box i)) → Mono Ws bxs (k v) e') : Mono Ws bxs (hand x k) e := by
 cases x with
 | tmp t =>
  simp only [hand, Mono]
  split
  ·exact ⟨hx t rfl, h _ _ (fun i => by simp [Env.set])⟩
  ·exact ⟨hx t rfl, h _ _ (fun i => by simp [Env.set])⟩
  ·exact h _ _ (fun _ => rfl)
 | const v => exact h _ e (fun _ => rfl)
 | func f => exact h _ e (fun _ => rfl)
 | global g => trivial
theorem mono_buildParts {T : Ty} : ∀ (l : List (Nat × Operand)) (cs : List DV) {k : List DV → Prog}, (∀ v, Mono Ws bxs (k v) e) → Mono Ws bxs (buildParts T l cs k) e
 | [], _, _, h => h _
 | (i, x) :: l, cs, k, h => by
  simp only [buildParts]
  split
  ·exact mono_getD fun v => mono_buildParts l _ h
  ·trivial
theorem mono_buildRow {r : Ty} {len : Nat} : ∀ (l : List (Nat × Operand)) (xs : List r.D) {k : List r.D → Prog}, (∀ v, Mono Ws bxs (k v) e) → Mono Ws bxs (buildRow r len l xs k) e
 | [], _, _, h => h _
 | (i, x) :: l, xs, k, h => by
  simp only [buildRow]
  intro _
  exact mono_getD fun v => mono_buildRow l _ h
theorem mono_binP {dst : Option Nat} {op : BinOp} {T : Option Ty} {x y : PV} (hd : ∀ d, dst = some d → d ∈ Ws) : Mono Ws bxs (binP dst op T x y) e := by
 have hp : ∀ v, Mono Ws bxs (put dst v .done) e := fun v => mono_put hd mono_done
 unfold binP
 repeat' (first | split | trivial | exact hp _ | (intro _; exact hp _) | (rw [Bool.cond_eq_ite]))
theorem mono_freeK {d : Nat} {p : Prog} (h : Mono Ws bxs p e) : ∀ (cs : List DV) (k : Nat), Mono Ws bxs (freeK d cs k p) e
 | [], _ => h
 | c :: l, k => by
  simp only [freeK]
  cases c.isLnk <;> simp only [cond_true, cond_false]
  ·exact mono_freeK h l (k + 1)
  ·simp only [Mono]
   cases (e (.box (lk d k))).there <;> simp only [cond_true, cond_false]
   ·exact mono_freeK h l (k + 1)
   ·trivial
theorem mono_newBox {d : Nat} {dst : Option Nat} (hd : ∀ d, dst = some d → d ∈ Ws) (hdd : dst = some d) {pv : PV} {v : PV} : Mono Ws bxs (Prog.get (.box d) fun b => match b with
  | .unk => .set (.box d) pv (put dst v .done)
  | _ => .fail) e := by
 simp only [Mono]
 split
 ·exact ⟨.inl (hd d hdd), mono_put hd mono_done⟩
 ·trivial
theorem mem_tmpsOf : ∀ {l : List Operand} {t : Nat}, Operand.tmp t ∈ l → t ∈ tmpsOf l
 | .tmp s :: l, t, h => by
  rcases List.mem_cons.1 h with h | h
  ·injection h with h; subst h; exact List.mem_cons_self
  ·exact List.mem_cons_of_mem _ (mem_tmpsOf h)
 | .const _ :: l, t, h => by
  rcases List.mem_cons.1 h with h | h
  ·cases h
  ·simp only [tmpsOf]; exact mem_tmpsOf h
 | .global _ :: l, t, h => by
  rcases List.mem_cons.1 h with h | h
  ·cases h
  ·simp only [tmpsOf]; exact mem_tmpsOf h
 | .func _ :: l, t, h => by
  rcases List.mem_cons.1 h with h | h
  ·cases h
  ·simp only [tmpsOf]; exact mem_tmpsOf h
theorem mono_collectC : ∀ (ps : List Md) (c : Ty) (cy : c.D) {k : (tupTy ps).D → Prog}, (∀ z, Mono Ws bxs (k z) e) → Mono Ws bxs (collectC ps c cy k) e
 | [], c, cy, k, h => by cases c <;> first | exact h _ | trivial
 | .cap t :: ps, c, cy, k, h => by
  cases c <;> try trivial
  simp only [collectC]
  split
  ·exact mono_collectC ps _ _ fun z => h _
  ·trivial
 | .val _ :: _, c, _, _, _ => by cases c <;> trivial
 | .tip _ :: _, c, _, _, _ => by cases c <;> trivial
 | .box _ _ :: _, c, _, _, _ => by cases c <;> trivial
 | .nilp s :: _, c, _, _, _ => by cases c <;> trivial
 | .full _ _ :: _, c, _, _, _ => by cases c <;> trivial
 | .own _ _ :: _, c, _, _, _ => by cases c <;> trivial
 | .take _ _ :: _, c, _, _, _ => by cases c <;> trivial
 | .str _ :: _, c, _, _, _ => by cases c <;> trivial
theorem mono_lendK {i : Nat} : ∀ (t : Ty) (k : Nat) (cs : List DV) {e : Env} {c : t.D → List DV → Prog}, (∀ y l e', (∀ j, j < 2000000 → e' (.box j) = e (.box j)) → (∀ B cs' ver, e (.box i) = .box B cs' ver → e' (.box i) = .box B cs' ver) → Mono Ws bxs (c y l) e') → Mono Ws bxs (lendK bxs i t k cs c) e
 | .pair a b, k, cs, e, c, h => by
  simp only [lendK]
  refine mono_lendK a k cs fun x l e1 h1 h2 => mono_lendK b (k + a.sz) l fun y l2 e2 k1 k2 => h _ _ _ (fun j hj => (k1 j hj).trans (h1 j hj)) (fun B cs' ver he => k2 _ _ _ (h2 _ _ _ he))
 | .osl el r, k, cs, e, c, h => by
  simp only [lendK]
  split
  ·trivial
  ·intro hchk
   simp only [Bool.and_eq_true] at hchk
   simp only [Mono]
   split
   ·rename_i el' r' xs hv ver hb
    split
    ·refine ⟨.inr ⟨by simpa using hchk.2.2.2, by rw [hb]; simp only [verOf]; omega, fun hlt => by have := lk_ge i k; omega⟩, h _ _ _ (fun j hj => ?_) (fun B cs' ver' he => ?_)⟩
     ·have : ¬ j = lk i k := fun hh => by have := lk_ge i k; omega
      simp [Env.set, this]
     ·have : ¬ i = lk i k := fun hh => lk_ne i k hh.symm
      simp [Env.set, this, he]
    ·trivial
   ·trivial
 | .unit, k, cs, e, c, h => by simp only [lendK]; split <;> first | exact h _ _ _ (fun _ _ => rfl) (fun _ _ _ h => h) | trivial
 | .int _, k, cs, e, c, h => by simp only [lendK]; split <;> first | exact h _ _ _ (fun _ _ => rfl) (fun _ _ _ h => h) | trivial
 | .bool, k, cs, e, c, h => by simp only [lendK]; split <;> first | exact h _ _ _ (fun _ _ => rfl) (fun _ _ _ h => h) | trivial
 | .str, k, cs, e, c, h => by simp only [lendK]; split <;> first | exact h _ _ _ (fun _ _ => rfl) (fun _ _ _ h => h) | trivial
 | .sl _ _, k, cs, e, c, h => by simp only [lendK]; split <;> first | exact h _ _ _ (fun _ _ => rfl) (fun _ _ _ h => h) | trivial
 | .any, k, cs, e, c, h => by simp only [lendK]; split <;> first | exact h _ _ _ (fun _ _ => rfl) (fun _ _ _ h => h) | trivial
 | .clo _ _, k, cs, e, c, h => by simp only [lendK]; split <;> first | exact h _ _ _ (fun _ _ => rfl) (fun _ _ _ h => h) | trivial
theorem mono_backK {i : Nat} : ∀ (ds : List DV) (k : Nat) {e : Env} {p : Prog}, (∀ e', (∀ j, (∀ m, j ≠ lk i m) → e' (.box j) = e (.box j)) → Mono Ws bxs p e') → Mono Ws bxs (backK bxs i ds k p) e
 | [], _, _, _, h => h _ fun _ _ => rfl
 | ⟨t, x, tip⟩ :: l, k, e, p, h => by
  cases t
  case osl el r =>
   simp only [backK, Mono]
   split
   ·rename_i hv ver hb
    intro hchk
    simp only [Bool.and_eq_true] at hchk
    refine ⟨.inr ⟨by simpa using hchk.2.2, by rw [hb]; simp only [verOf]; omega, fun hlt => by have := lk_ge i k; omega⟩, mono_backK l (k + 1) fun e' he => h e' fun j hj => ?_⟩
    rw [he j hj]
    simp [Env.set, hj k]
   ·trivial
  case any =>
   simp only [backK, Mono]
   cases (e (.box (lk i k))).there <;> simp only [cond_true, cond_false]
   ·exact mono_backK l (k + 1) h
   ·trivial
  all_goals exact mono_backK l (k + 1) h
theorem mono_collect {c : Ty} {cy : c.D} : ∀ (ps : List Md) (xs : List Operand) {e : Env} {k : (tupTy ps).D → Prog}, (∀ t, Operand.tmp t ∈ xs → t ∈ Ws) → (∀ z e', Mono Ws bxs (k z) e') → Mono Ws bxs (collect bxs c cy ps xs k) e
 | ps, [], e, k, _, h => by unfold collect; exact mono_collectC ps c cy fun z => h z e
 | [], _ :: _, _, _, _, _ => trivial
 | .cap _ :: _, _ :: _, _, _, _, _ => trivial
 | .full _ _ :: _, _ :: _, _, _, _, _ => trivial
 | .str _ :: _, _ :: _, _, _, _, _ => trivial
 | .nilp s :: ps, x :: xs, e, k, hx, h => by
  simp only [collect]
  refine mono_getV fun v => ?_
  split
  ·exact mono_collect ps xs (fun t ht => hx t (List.mem_cons_of_mem _ ht)) fun z e' => h _ _
  ·exact mono_collect ps xs (fun t ht => hx t (List.mem_cons_of_mem _ ht)) fun z e' => h _ _
  ·trivial
 | .val t :: ps, x :: xs, e, k, hx, h => by
  simp only [collect]
  exact mono_getD fun v => mono_collect ps xs (fun t ht => hx t (List.mem_cons_of_mem _ ht)) fun z e' => h _ _
 | .tip t :: ps, x :: xs, e, k, hx, h => by
  simp only [collect]
  refine mono_hand (fun t ht => hx t (by rw [ht]; exact List.mem_cons_self)) fun v e' _ => ?_
  split
  ·split
   ·exact mono_collect ps xs (fun t ht => hx t (List.mem_cons_of_mem _ ht)) fun z e' => h _ _
   ·trivial
  ·trivial
 | .take el r :: ps, x :: xs, e, k, hx, h => by
  simp only [collect]
  refine mono_getV fun v => ?_
  split
  ·rename_i i hv
   simp only [Mono]
   split
   ·rename_i e' r' ys hv' ver hb
    split
    ·intro hveq
     split
     ·trivial
     ·rename_i hc
      refine ⟨mset (by simpa using hc) (by rw [hb]; rfl) rfl ?_, mono_collect ps xs (fun t ht => hx t (List.mem_cons_of_mem _ ht)) fun z e' => h _ _⟩
      rw [hb]; exact ⟨by simp only [verOf]; omega, by simp only [hvOf]; have := Nat.eq_of_beq_eq_true hveq; omega⟩
    ·trivial
   ·trivial
  ·trivial
 | .own el r :: ps, x :: xs, e, k, hx, h => by
  simp only [collect]
  refine mono_getV fun v => ?_
  split
  ·rename_i i hv
   simp only [Mono]
   split
   ·rename_i e' r' ys hv' ver hb
    split
    ·intro hveq
     split
     ·trivial
     ·rename_i hc
      refine ⟨mset (by simpa using hc) (by rw [hb]; rfl) rfl ?_, mono_collect ps xs (fun t ht => hx t (List.mem_cons_of_mem _ ht)) fun z e' => h _ _⟩
      rw [hb]; exact ⟨by simp [verOf], by simp only [hvOf]; have := Nat.eq_of_beq_eq_true hveq; omega⟩
    ·trivial
   ·trivial
  ·trivial
 | .box B t :: ps, x :: xs, e, k, hx, h => by
  simp only [collect]
  refine mono_getV fun v => ?_
  split
  ·rename_i i
   simp only [Mono]
   split
   ·rename_i B' cs ver hb
    split
    ·refine mono_lendK t 0 cs fun y l e' _ he => ?_
     split
     ·split
      ·trivial
      ·rename_i hc
       have hb' := he _ _ _ hb
       refine ⟨mset (by simpa using hc) (by rw [hb']; rfl) rfl ?_, mono_collect ps xs (fun t ht => hx t (List.mem_cons_of_mem _ ht)) fun z e' => h _ _⟩
       rw [hb']; exact ⟨by simp [verOf], rfl⟩
     ·trivial
    ·trivial
   ·trivial
  ·trivial
theorem mono_backBoxes : ∀ (ps : List Md) (xs : List Operand) (z : (tupTy (ps.filter Md.isBox)).D) {e : Env} {k : Prog}, (∀ e', Mono Ws bxs k e') → Mono Ws bxs (backBoxes bxs ps xs z k) e
 | [], xs, z, e, k, h => by cases xs <;> exact h _
 | .val _ :: ps, [], _, _, _, _ => trivial
 | .tip _ :: ps, [], _, _, _, _ => trivial
 | .box _ _ :: ps, [], _, _, _, _ => trivial
 | .nilp s :: ps, [], _, _, _, _ => trivial
 | .full _ _ :: ps, [], _, _, _, _ => trivial
 | .own _ _ :: ps, [], _, _, _, _ => trivial
 | .take _ _ :: ps, [], _, _, _, _ => trivial
 | .str _ :: ps, [], _, _, _, _ => trivial
 | .str _ :: ps, _ :: _, _, _, _, _ => trivial
 | .take _ _ :: ps, x :: xs, z, e, k, h => by
  simp only [backBoxes]
  exact mono_backBoxes ps xs z h
 | .full _ _ :: ps, _ :: _, _, _, _, _ => trivial
 | .cap _ :: ps, _ :: _, _, _, _, _ => trivial
 | .cap t :: ps, [], z, e, k, h => by
  simp only [backBoxes]
  exact mono_backBoxes ps [] z h
 | .nilp s :: ps, x :: xs, z, e, k, h => by
  simp only [backBoxes]
  exact mono_backBoxes ps xs z h
 | .val t :: ps, x :: xs, z, e, k, h => by
  simp only [backBoxes]
  exact mono_backBoxes ps xs z h
 | .tip t :: ps, x :: xs, z, e, k, h => by
  simp only [backBoxes]
  exact mono_backBoxes ps xs z h
 | .own el r :: ps, x :: xs, z, e, k, h => by
  simp only [backBoxes]
  refine mono_getV fun v => ?_
  split
  ·rename_i i hv
   simp only [Mono]
   split
   ·rename_i r' m hv' ver hb
    intro hveq _
    split
    ·rename_i hc
     refine ⟨mset (by simpa using hc) (by rw [hb]; rfl) rfl ?_, mono_backBoxes ps xs z.2 h⟩
     rw [hb]; exact ⟨by simp only [verOf]; omega, by simp only [hvOf]; have := Nat.eq_of_beq_eq_true hveq; omega⟩
    ·trivial
   ·trivial
  ·trivial
 | .box B t :: ps, x :: xs, z, e, k, h => by
  simp only [backBoxes]
  refine mono_getV fun v => ?_
  split
  ·rename_i i
   simp only [Mono]
   split
   ·rename_i B' ver hb
    split
    ·rename_i hc
     refine mono_backK _ _ fun e' he => ?_
     have hb' := (he i (fun m hh => lk_ne i m hh.symm)).trans hb
     refine ⟨mset (by simpa using hc) (by rw [hb']; rfl) rfl ?_, mono_backBoxes ps xs z.2 h⟩
     rw [hb']; exact ⟨by simp only [verOf]; omega, rfl⟩
    ·trivial
   ·trivial
  ·trivial
theorem mono_argKey {xs : List Operand} {f : Nat} {k : Nat → Prog} (h : ∀ key, Mono Ws bxs (k key) e) : Mono Ws bxs (argKey xs f k) e := by
 induction xs with
 | nil => exact h _
 | cons x xs ih =>
  refine mono_getV fun v => ?_
  split
  ·exact h _
  ·exact h _
  ·exact h _
  ·exact h _
  ·exact ih
theorem mono_captP {G : Ctx} : ∀ (xs : List Operand) {e : Env} {k : (c : Ty) → c.D → Prog}, (∀ c cy e', Mono Ws G.bxs (k c cy) e') → Mono Ws G.bxs (captP G xs k) e
 | [], _, _, h => h _ _ _
 | x :: xs, e, k, h => by
  simp only [captP]
  refine mono_getV fun v => ?_
  split
  ·rename_i i
   simp only [Mono]
   split
   ·rename_i B cs ver hb
    split
    ·cases hc : G.bxs.contains i <;> simp only [cond_true, cond_false]
     ·trivial
     ·exact ⟨mset' (by simpa using hc) (by rw [hb]; rfl) rfl (by rw [hb]; simp [verOf]) (by rw [hb]; rfl), mono_captP xs fun c cy e' => h _ _ _⟩
    ·trivial
   ·split
    ·exact mono_captP xs fun c cy e' => h _ _ _
    ·trivial
   ·trivial
  ·trivial
theorem mono_placeRow {d : Nat} (hd : d ∈ Ws) {el : TypeId} {r : Ty} {xs : List r.D} {k : Nat → Prog} (h : ∀ hv e', Mono Ws bxs (k hv) e') : Mono Ws bxs (placeRow d el r xs k) e := by
 simp only [placeRow, placeRow0, Mono]
 intro _
 split <;> first | exact ⟨.inl hd, h _ _⟩ | trivial
theorem mono_putRow {d : Nat} (hd : d ∈ Ws) {el : TypeId} {r : Ty} {xs : List r.D} : Mono Ws bxs (putRow d el r xs) e :=
 mono_placeRow hd fun _ _ => ⟨hd, trivial⟩
theorem mono_oneRes {dst : Option Nat} (hd : ∀ d, dst = some d → d ∈ Ws) (rs : List Md) (x : (tupTy rs).D) : Mono Ws bxs (oneRes dst rs x) e := by
 have hp : ∀ v, Mono Ws bxs (put dst v .done) e := fun v => mono_put hd mono_done
 unfold oneRes
 split
 ·exact hp _
 ·exact hp _
 ·cases dst with
  | none => trivial
  | some d => exact mono_putRow (hd d rfl)
 ·split
  ·intro _
   exact mono_placeRow (hd _ rfl) fun _ _ => ⟨hd _ rfl, trivial⟩
  ·trivial
 ·cases dst with
  | none => trivial
  | some d =>
   refine mono_freeK ?_ _ _
   simp only [Mono]
   split
   ·exact ⟨.inl (hd d rfl), hd d rfl, trivial⟩
   ·trivial
 ·unfold tupPut
  split
  ·split
   ·exact hp _
   ·intro _
    cases dst with
    | none => trivial
    | some d => exact mono_placeRow (hd d rfl) fun _ _ => ⟨hd d rfl, trivial⟩
  ·trivial
end
theorem op_monoV (G : Ctx) (o : Oper) (e : Env) : Mono (opWrites G o) G.bxs (opV G o) e := by
 have hd : ∀ d, o.dst = some d → d ∈ opWrites G o := fun d h => by simp [opWrites, h]
 have hp : ∀ v e, Mono (opWrites G o) G.bxs (put o.dst v .done) e := fun v e => mono_put hd mono_done
 cases ho : o.op with
 | move x =>
  simp only [opV, ho]
  cases ht : isTip G o.dst
  ·exact mono_getV fun v => hp _ _
  ·exact mono_hand (fun t h => by subst h; simp [opWrites, ho, ht, tmpsOf]) fun v e' _ => hp _ _
 | assign x =>
  simp only [opV, ho]
  exact mono_hand (fun t h => by subst h; simp [opWrites, ho, tmpsOf]) fun v e' _ => hp _ _
 | pick c x y =>
  simp only [opV, ho]
  refine mono_getD fun b => mono_getV fun u => mono_getV fun v => ?_
  repeat' (first | split | exact hp _ _ | trivial)
 | alloc t =>
  simp only [opV, ho]
  split
  ·rename_i d ty hdst _
   exact mono_freeK (mono_newBox hd hdst) _ _
  ·trivial
 | box t x =>
  simp only [opV, ho]
  split
  ·rename_i d ty hdst _
   exact mono_getD fun y => mono_freeK (mono_newBox hd hdst) _ _
  ·trivial
 | build t parts =>
  simp only [opV, ho]
  split
  ·intro _; exact mono_buildParts _ _ fun v => hp _ _
  ·trivial
 | buildSlice t n parts =>
  simp only [opV, ho]
  split
  ·split
   ·exact mono_buildRow _ _ fun v => hp _ _
   ·trivial
  ·trivial
 | load t x =>
  simp only [opV, ho]
  split
  ·intro _
   refine mono_getV fun v => ?_
   split
   ·rename_i i lo
    simp only [Mono]
    split
    ·rename_i B cs ver hb
     cases isTip G o.dst <;> simp only [cond_true, cond_false]
     ·split
      ·exact hp _ _
      ·trivial
     ·split
      ·rename_i el r xs tl _
       cases hc : (G.bxs.contains i && eqTy _ (.sl el r)) <;> simp only [cond_true, cond_false]
       ·trivial
       ·simp only [Bool.and_eq_true] at hc
        exact ⟨mset' (by simpa using hc.1) (by rw [hb]; rfl) rfl (by rw [hb]; simp [verOf]) (by rw [hb]; rfl), hp _ _⟩
      ·trivial
    ·split
     ·exact hp _ _
     ·trivial
    ·trivial
   ·split
    ·exact hp _ _
    ·trivial
   ·trivial
  ·trivial
 | store t x y =>
  simp only [opV, ho]
  split
  ·intro _
   refine mono_getV fun v => ?_
   split
   ·rename_i i lo
    split
    ·trivial
    ·rename_i hc
     refine mono_hand (fun t h => by subst h; simp [opWrites, ho, tmpsOf]) fun u e' he' => ?_
     simp only [Mono]
     split
     ·rename_i B cs ver hb
      have hv : ∀ cs', (i ∈ opWrites G o ∨ (i ∈ G.bxs ∧ verOf (e' (.box i)) < verOf (PV.box B cs' (ver + 1)) ∧ (i < 2000000 → (e' (.box i)).isVar = true ∧ (PV.box B cs' (ver + 1)).isBox = true ∧ hvOf (PV.box B cs' (ver + 1)) = hvOf (e' (.box i))))) := fun cs' =>
       mset' (by simpa using hc) (by rw [hb]; rfl) rfl (by rw [hb]; simp [verOf]) (by rw [hb]; rfl)
      repeat' (first | split | exact ⟨hv _, trivial⟩ | trivial)
     ·trivial
   ·trivial
  ·trivial
 | nilCheck x =>
  simp only [opV, ho]
  refine mono_getV fun v => ?_
  repeat' (first | split | exact hp _ _ | trivial)
 | binOp op t x y u =>
  simp only [opV, ho]
  refine mono_getV fun p => mono_getV fun q => ?_
  have hn : ∀ b, Mono (opWrites G o) G.bxs (ptrNil G o.dst op t b) e := fun b => by
   unfold ptrNil
   cases G.ptrs.contains t <;> simp only [cond_true, cond_false]
   ·trivial
   ·split <;> first | exact hp _ _ | trivial
  split
  ·unfold slNil
   split
   ·split <;> first | exact hp _ _ | trivial
   ·trivial
  ·exact hn _
  ·exact hn _
  ·exact hn _
  ·exact mono_binP hd
 | unOp op t x =>
  simp only [opV, ho]
  refine mono_getV fun v => ?_
  repeat' (first | split | exact hp _ _ | trivial)
 | convert s d x =>
  simp only [opV, ho]
  split
  ·exact mono_getD fun v => hp _ _
  ·intro hsd
   split
   ·rename_i t
    simp only [Mono]
    split
    ·intro _
     exact ⟨by simp [opWrites, ho, hsd, tmpsOf], hp _ _⟩
    ·trivial
   ·trivial
  ·refine mono_getV fun v => ?_
   repeat' (first | split | exact hp _ _ | trivial)
  ·exact mono_getD fun v => hp _ _
  ·trivial
 | slice t x lo hi mx =>
  cases mx with
  | none =>
   simp only [opV, ho]
   split
   ·exact mono_getD fun xs => mono_getOptInt fun l => mono_getOptInt fun h => fun _ => hp _ _
   ·trivial
  | some mx =>
   cases lo with
   | some _ => simp only [opV, ho]; trivial
   | none =>
    cases hi with
    | none => simp only [opV, ho]; trivial
    | some hi =>
     simp only [opV, ho]
     split
     ·exact mono_getD fun xs => mono_getInt fun l => mono_getInt fun h => fun _ => hp _ _
     ·trivial
 | fieldAddr t x f =>
  simp only [opV, ho]
  split
  ·split
   ·refine mono_getV fun v => ?_
    repeat' (first | split | exact hp _ _ | trivial)
   ·trivial
  ·trivial
 | field t x f =>
  simp only [opV, ho]
  split
  ·split
   ·refine mono_getV fun v => ?_
    repeat' (first | split | exact hp _ _ | trivial)
   ·trivial
  ·trivial
 | indexAddr t x i =>
  simp only [opV, ho]
  split
  ·exact mono_getD fun xs => mono_getInt fun l => fun _ => hp _ _
  ·trivial
 | extract x i =>
  simp only [opV, ho]
  refine mono_getV fun v => ?_
  repeat' (first | split | exact hp _ _ | trivial)
 | makeFunc fn first captured =>
  cases fn with
  | func f =>
   simp only [opV, ho]
   split
   ·exact mono_captP _ fun c cy e' => hp _ _
   ·trivial
  | _ => simp only [opV, ho]; trivial
 | call c =>
  have hargs : ∀ t, Operand.tmp t ∈ c.args.toList → t ∈ opWrites G o := fun t ht => by
   simp only [opWrites, ho, List.mem_append]
   exact .inr (.inr (mem_tmpsOf ht))
  cases hc : c.callee with
  | value x =>
   simp only [opV, ho, hc]
   have hcall : ∀ (f : FuncId) (ct : Ty) (cy : ct.D), Mono (opWrites G o) G.bxs (callP G o.dst c.args.toList f ct cy) e := fun f ct cy => by
    unfold callP
    intro _
    refine mono_argKey fun key => ?_
    split
    ·intro _
     refine mono_collect _ _ hargs fun z e' => ?_
     intro r _
     exact mono_backBoxes _ _ _ fun e'' => mono_oneRes hd _ _
    ·trivial
   refine mono_getV fun v => ?_
   split
   ·exact hcall _ _ _
   ·exact hcall _ _ _
   ·trivial
  | invoke r m => simp only [opV, ho, hc]; trivial
  | builtin b =>
   cases b
   case len =>
    simp only [opV, ho, hc]
    split
    ·split
     ·exact mono_getD fun v => hp _ _
     ·exact mono_getD fun v => hp _ _
     ·trivial
    ·trivial
   case max =>
    simp only [opV, ho, hc]
    split
    ·refine mono_getV fun u => mono_getV fun v => ?_
     repeat' (first | split | exact hp _ _ | trivial)
    ·trivial
   case min =>
    simp only [opV, ho, hc]
    split
    ·refine mono_getV fun u => mono_getV fun v => ?_
     repeat' (first | split | exact hp _ _ | trivial)
    ·trivial
   case append =>
    simp only [opV, ho, hc]
    split
    ·rename_i x y t t' hx _
     split
     ·split
      ·refine mono_hand (fun t h => hargs t (by rw [hx, h]; exact List.mem_cons_self)) fun v e' _ => ?_
       split
       ·split
        ·exact mono_getD fun ys => fun _ => hp _ _
        ·trivial
       ·trivial
      ·trivial
     ·trivial
    ·trivial
   all_goals (simp only [opV, ho, hc]; trivial)
 | _ => simp only [opV, ho]; trivial
end Go.PM
