/- PM: regions whose order is drawn. -/
import Derived.Test.YtibkgmpfncacpaaPMExec
import Derived.Orders
namespace Go.PM
open Go
abbrev Log := List LP × List LP
theorem Place.eqB_iff : ∀ {p q : Place}, p.eqB q = true ↔ p = q := by
 intro p q
 cases p <;> cases q <;> simp [Place.eqB]
theorem LP.eqB_self (p : LP) : p.eqB p = true := by
 cases p <;> simp [LP.eqB, Place.eqB_iff.2]
def LP.of (e : Env) : LP → PV
 | .p q => e q
 | .h i => rowHead (e (.box i))
theorem sameHead_head {a b : PV} (h : sameHead a b = true) : rowHead a = rowHead b := by
 cases a <;> cases b <;> simp only [sameHead, Bool.false_eq_true] at h
 simp only [Bool.and_eq_true] at h
 obtain ⟨h1, h2, h3⟩ := h
 have h1 := Nat.eq_of_beq_eq_true h1
 have h2 := eqTy_iff.1 h2
 have h3 := Nat.eq_of_beq_eq_true h3
 subst h1; subst h2; subst h3
 rfl
theorem sameHead_of {a a' b : PV} (h : rowHead a = rowHead a') : sameHead a b = sameHead a' b := by
 cases a <;> cases a' <;> simp only [rowHead, reduceCtorEq] at h <;> try rfl
 injection h with h1 h2 h3 h4 _
 subst h1; subst h2; subst h4
 cases b <;> rfl
theorem apartB_spec {l m : List LP} (h : apartB l m = true) : ∀ p, p ∈ l → p ∉ m := by
 intro p hp hq
 simp only [apartB, List.all_eq_true] at h
 have := h p hp p hq
 rw [LP.eqB_self] at this
 cases this
structure Apart (x y : Log) : Prop where
 rw : ∀ p, p ∈ x.1 → p ∉ y.2
 wr : ∀ p, p ∈ x.2 → p ∉ y.1
 ww : ∀ p, p ∈ x.2 → p ∉ y.2
theorem logApart_spec {x y : Log} (h : logApart x y = true) : Apart x y := by
 simp only [logApart, Bool.and_eq_true] at h
 exact ⟨apartB_spec h.1, apartB_spec h.2.1, apartB_spec h.2.2⟩
def Prog.log : Prog → Env → Option (Log × Env)
 | .done, e => some (([], []), e)
 | .fail, _ => none
 | .get p k, e => ((k (e p)).log e).map fun x => ((.p p :: x.1.1, x.1.2), x.2)
 | .getH i k, e => ((k (rowHead (e (.box i)))).log e).map fun x => ((.h i :: x.1.1, x.1.2), x.2)
 | .set p v k, e => (k.log (e.set p v)).map fun x => (((setLog e p v).1 ++ x.1.1, (setLog e p v).2 ++ x.1.2), x.2)
 | .chk b k, e => bif b then k.log e else none
 | .bind m k, e => m.bind fun x => (k x).log e
def Same (l m : List LP) : Prop := ∀ p, p ∈ l ↔ p ∈ m
theorem Prog.runG_log {R : Type} : ∀ (p : Prog) (e : Env) (rs ws : List LP) (c : List LP → List LP → Env → Option R) (r : R), p.runG e rs ws c = some r →
  ∃ L e' rs' ws', p.log e = some (L, e') ∧ c rs' ws' e' = some r ∧ (∀ q, q ∈ rs' ↔ q ∈ rs ∨ q ∈ L.1) ∧ (∀ q, q ∈ ws' ↔ q ∈ ws ∨ q ∈ L.2)
 | .done, e, rs, ws, c, r, h => ⟨([], []), e, rs, ws, rfl, h, by simp, by simp⟩
 | .fail, _, _, _, _, _, h => by cases h
 | .get p k, e, rs, ws, c, r, h => by
  obtain ⟨L, e', rs', ws', h1, h2, h3, h4⟩ := Prog.runG_log (k (e p)) e (.p p :: rs) ws c r h
  refine ⟨(.p p :: L.1, L.2), e', rs', ws', by simp [Prog.log, h1], h2, fun q => ?_, h4⟩
  rw [h3 q]; simp only [List.mem_cons]
  exact ⟨fun hh => by rcases hh with (h | h) | h <;> simp [h], fun hh => by rcases hh with h | h | h <;> simp [h]⟩
 | .getH i k, e, rs, ws, c, r, h => by
  obtain ⟨L, e', rs', ws', h1, h2, h3, h4⟩ := Prog.runG_log (k (rowHead (e (.box i)))) e (.h i :: rs) ws c r h
  refine ⟨(.h i :: L.1, L.2), e', rs', ws', by simp [Prog.log, h1], h2, fun q => ?_, h4⟩
  rw [h3 q]; simp only [List.mem_cons]
  exact ⟨fun hh => by rcases hh with (h | h) | h <;> simp [h], fun hh => by rcases hh with h | h | h <;> simp [h]⟩
 | .set p v k, e, rs, ws, c, r, h => by
  obtain ⟨L, e', rs', ws', h1, h2, h3, h4⟩ := Prog.runG_log k (e.set p v) ((setLog e p v).1 ++ rs) ((setLog e p v).2 ++ ws) c r h
  refine ⟨((setLog e p v).1 ++ L.1, (setLog e p v).2 ++ L.2), e', rs', ws', by simp [Prog.log, h1], h2, fun q => ?_, fun q => ?_⟩
  ·rw [h3 q]; simp only [List.mem_append]
   exact ⟨fun hh => by rcases hh with (h | h) | h <;> simp [h], fun hh => by rcases hh with h | h | h <;> simp [h]⟩
  ·rw [h4 q]; simp only [List.mem_append]
   exact ⟨fun hh => by rcases hh with (h | h) | h <;> simp [h], fun hh => by rcases hh with h | h | h <;> simp [h]⟩
 | .chk b k, e, rs, ws, c, r, h => by
  cases b
  ·cases h
  ·obtain ⟨L, e', rs', ws', h1, h2, h3, h4⟩ := Prog.runG_log k e rs ws c r h
   exact ⟨L, e', rs', ws', h1, h2, h3, h4⟩
 | .bind m k, e, rs, ws, c, r, h => by
  cases m with
  | none => cases h
  | some x =>
   obtain ⟨L, e', rs', ws', h1, h2, h3, h4⟩ := Prog.runG_log (k x) e rs ws c r h
   exact ⟨L, e', rs', ws', h1, h2, h3, h4⟩
theorem Prog.log_run : ∀ (p : Prog) (e : Env) (L : Log) (e' : Env), p.log e = some (L, e') → p.run e some = some e'
 | .done, e, L, e', h => by simp only [Prog.log, Option.some.injEq, Prod.mk.injEq] at h; rw [← h.2]; rfl
 | .fail, _, _, _, h => by cases h
 | .get p k, e, L, e', h => by
  simp only [Prog.log, Option.map_eq_some_iff] at h
  obtain ⟨⟨L', e1⟩, h1, h2⟩ := h
  injection h2 with _ h2
  subst h2
  exact Prog.log_run (k (e p)) e L' e1 h1
 | .getH i k, e, L, e', h => by
  simp only [Prog.log, Option.map_eq_some_iff] at h
  obtain ⟨⟨L', e1⟩, h1, h2⟩ := h
  injection h2 with _ h2
  subst h2
  exact Prog.log_run (k (rowHead (e (.box i)))) e L' e1 h1
 | .set p v k, e, L, e', h => by
  simp only [Prog.log, Option.map_eq_some_iff] at h
  obtain ⟨⟨L', e1⟩, h1, h2⟩ := h
  injection h2 with _ h2
  subst h2
  exact Prog.log_run k (e.set p v) L' e1 h1
 | .chk b k, e, L, e', h => by
  cases b
  ·cases h
  ·exact Prog.log_run k e L e' h
 | .bind m k, e, L, e', h => by
  cases m with
  | none => cases h
  | some x => exact Prog.log_run (k x) e L e' h
theorem set_slot_ne {e : Env} {t : Nat} {v : PV} {i : Nat} : (e.set (.slot t) v) (.box i) = e (.box i) := by simp [Env.set]
theorem set_box_ne {e : Env} {j : Nat} {v : PV} {i : Nat} (h : ¬ i = j) : (e.set (.box j) v) (.box i) = e (.box i) := by simp [Env.set, h]
theorem setLog_frame {e : Env} {p : Place} {v : PV} {q : LP} (h : q ∉ (setLog e p v).2) : q.of (e.set p v) = q.of e := by
 cases p with
 | slot t =>
  cases q with
  | p q =>
   have hq : ¬ q = .slot t := fun he => h (by subst he; exact List.mem_singleton.2 rfl)
   simp [LP.of, Env.set, hq]
  | h i => simp only [LP.of, set_slot_ne]
 | box j =>
  cases q with
  | p q =>
   have hq : ¬ q = .box j := fun he => h (by subst he; simp only [setLog]; cases sameHead (e (.box j)) v <;> simp)
   simp [LP.of, Env.set, hq]
  | h i =>
   by_cases hij : i = j
   ·subst hij
    cases hs : sameHead (e (.box i)) v with
    | true => simp only [LP.of, Env.set, if_true]; exact (sameHead_head hs).symm
    | false => exact absurd (by simp only [setLog, hs, cond_false]; exact List.mem_cons_self) h
   ·simp only [LP.of, set_box_ne hij]
theorem setLog_eq {e e2 : Env} {p : Place} {v : PV} (h : ∀ q, q ∈ (setLog e p v).1 → q.of e2 = q.of e) : setLog e2 p v = setLog e p v := by
 cases p with
 | slot t => rfl
 | box j =>
  have := h (.h j) List.mem_cons_self
  simp only [setLog, sameHead_of (show rowHead (e2 (.box j)) = rowHead (e (.box j)) from this)]
theorem setLog_alike {e e2 : Env} {p : Place} {v : PV} {q : LP} (h : q.of e2 = q.of e) : q.of (e2.set p v) = q.of (e.set p v) := by
 cases q with
 | p q =>
  simp only [LP.of, Env.set] at h ⊢
  split
  ·rfl
  ·exact h
 | h i =>
  simp only [LP.of, Env.set] at h ⊢
  split
  ·rfl
  ·exact h
theorem setLog_same {e e2 : Env} {p : Place} {v : PV} {q : LP} (h : q ∈ (setLog e p v).2) : q.of (e2.set p v) = q.of (e.set p v) := by
 cases p with
 | slot t =>
  have := List.mem_singleton.1 h
  subst this
  simp [LP.of, Env.set]
 | box j =>
  have hq : q = .h j ∨ q = .p (.box j) := by
   simp only [setLog] at h
   cases hs : sameHead (e (.box j)) v <;> simp only [hs, cond_true, cond_false, List.mem_cons, List.not_mem_nil, or_false] at h
   ·exact h
   ·exact .inr h
  rcases hq with rfl | rfl <;> simp [LP.of, Env.set]
theorem Prog.log_frame : ∀ (p : Prog) (e : Env) (L : Log) (e' : Env), p.log e = some (L, e') →
  (∀ q, q ∉ L.2 → q.of e' = q.of e) ∧ ∀ e2 : Env, (∀ q, q ∈ L.1 → q.of e2 = q.of e) → ∃ e2', p.log e2 = some (L, e2') ∧ ∀ q, (q ∈ L.2 → q.of e2' = q.of e') ∧ (q ∉ L.2 → q.of e2' = q.of e2)
 | .done, e, L, e', h => by
  simp only [Prog.log, Option.some.injEq, Prod.mk.injEq] at h
  obtain ⟨rfl, rfl⟩ := h
  exact ⟨fun _ _ => rfl, fun e2 _ => ⟨e2, rfl, fun q => ⟨fun h => by simp at h, fun _ => rfl⟩⟩⟩
 | .fail, _, _, _, h => by cases h
 | .get p k, e, L, e', h => by
  simp only [Prog.log, Option.map_eq_some_iff] at h
  obtain ⟨⟨L', e1⟩, h1, h2⟩ := h
  injection h2 with h3 h2
  subst h2; subst h3
  obtain ⟨f1, f2⟩ := Prog.log_frame (k (e p)) e L' e1 h1
  refine ⟨f1, fun e2 he => ?_⟩
  obtain ⟨e2', k1, k2⟩ := f2 e2 fun q hq => he q (by simp [hq])
  refine ⟨e2', ?_, k2⟩
  simp only [Prog.log]
  have hp : e2 p = e p := he (.p p) (by simp)
  rw [hp, k1]
  rfl
 | .getH i k, e, L, e', h => by
  simp only [Prog.log, Option.map_eq_some_iff] at h
  obtain ⟨⟨L', e1⟩, h1, h2⟩ := h
  injection h2 with h3 h2
  subst h2; subst h3
  obtain ⟨f1, f2⟩ := Prog.log_frame (k (rowHead (e (.box i)))) e L' e1 h1
  refine ⟨f1, fun e2 he => ?_⟩
  obtain ⟨e2', k1, k2⟩ := f2 e2 fun q hq => he q (by simp [hq])
  refine ⟨e2', ?_, k2⟩
  simp only [Prog.log]
  have hp : rowHead (e2 (.box i)) = rowHead (e (.box i)) := he (.h i) (by simp)
  rw [hp, k1]
  rfl
 | .set p v k, e, L, e', h => by
  simp only [Prog.log, Option.map_eq_some_iff] at h
  obtain ⟨⟨L', e1⟩, h1, h2⟩ := h
  injection h2 with h3 h2
  subst h2; subst h3
  obtain ⟨f1, f2⟩ := Prog.log_frame k (e.set p v) L' e1 h1
  refine ⟨fun q hq => ?_, fun e2 he => ?_⟩
  ·simp only [List.mem_append, not_or] at hq
   show q.of e1 = q.of e
   rw [f1 q hq.2]
   exact setLog_frame hq.1
  ·have hlog : setLog e2 p v = setLog e p v := setLog_eq fun q hq => he q (by simp [hq])
   obtain ⟨e2', k1, k2⟩ := f2 (e2.set p v) fun q hq => setLog_alike (he q (by simp [hq]))
   refine ⟨e2', by simp only [Prog.log]; rw [hlog, k1]; rfl, fun q => ⟨fun hq => ?_, fun hq => ?_⟩⟩
   ·show q.of e2' = q.of e1
    by_cases hl : q ∈ L'.2
    ·exact (k2 q).1 hl
    ·rw [(k2 q).2 hl, f1 q hl]
     rcases List.mem_append.1 hq with hq | hq
     ·exact setLog_same hq
     ·exact absurd hq hl
   ·simp only [List.mem_append, not_or] at hq
    rw [(k2 q).2 hq.2]
    exact setLog_frame (by rw [hlog]; exact hq.1)
 | .chk b k, e, L, e', h => by
  cases b
  ·cases h
  ·exact Prog.log_frame k e L e' h
 | .bind m k, e, L, e', h => by
  cases m with
  | none => cases h
  | some x => exact Prog.log_frame (k x) e L e' h
def stepL (G : Ctx) (ops : Array Oper) (o : Oper) (e : Env) : Option (Log × Env) :=
 bif !dstOk G.n o.dst then none else
 match o.guard with
 | none => (opQ G o).log e
 | some (j, want) => match (ops[j]?).bind (·.dst) with
  | none => none
  | some d => match e (.slot d) with
   | .undef => ((put o.dst .undef .done).log e).map fun x => ((.p (.slot d) :: x.1.1, x.1.2), x.2)
   | .val ⟨.bool, b, tip⟩ => bif tip then none else
    (if b = want then (opP G o).log e else (put o.dst .undef .done).log e).map fun x => ((.p (.slot d) :: x.1.1, x.1.2), x.2)
   | _ => none
theorem set_same {e : Env} {p : Place} {v : PV} (h : e p = v) : e.set p v = e := by
 funext q
 simp only [Env.set]
 split
 ·rename_i hq; rw [hq, h]
 ·rfl
theorem stepOpG_log {R : Type} {G : Ctx} {ops : Array Oper} {o : Oper} {e : Env} {c : List LP → List LP → Env → Option R} {r : R} (h : stepOpG G ops o e c = some r) :
  ∃ L e' rs ws, stepL G ops o e = some (L, e') ∧ c rs ws e' = some r ∧ Same rs L.1 ∧ Same ws L.2 := by
 unfold stepOpG at h
 unfold stepL
 cases hd : dstOk G.n o.dst <;> simp only [hd, Bool.not_true, Bool.not_false, cond_true, cond_false] at h ⊢
 ·cases h
 have fin0 : ∀ (p : Prog), p.runG e [] [] c = some r → ∃ L e' rs ws, p.log e = some (L, e') ∧ c rs ws e' = some r ∧ Same rs L.1 ∧ Same ws L.2 := fun p hp => by
  obtain ⟨L, e', rs', ws', h1, h2, h3, h4⟩ := Prog.runG_log p e [] [] c r hp
  exact ⟨L, e', rs', ws', h1, h2, fun q => by rw [h3 q]; simp, fun q => by rw [h4 q]; simp⟩
 have fin1 : ∀ (d : Nat) (p : Prog), p.runG e [.p (.slot d)] [] c = some r → ∃ L e' rs ws, (p.log e).map (fun x => ((LP.p (.slot d) :: x.1.1, x.1.2), x.2)) = some (L, e') ∧ c rs ws e' = some r ∧ Same rs L.1 ∧ Same ws L.2 := fun d p hp => by
  obtain ⟨L, e', rs', ws', h1, h2, h3, h4⟩ := Prog.runG_log p e [.p (.slot d)] [] c r hp
  exact ⟨(.p (.slot d) :: L.1, L.2), e', rs', ws', by rw [h1]; rfl, h2, fun q => by rw [h3 q]; simp, fun q => by rw [h4 q]; simp⟩
 cases hg : o.guard with
 | none =>
  simp only [hg] at h ⊢
  exact fin0 _ h
 | some jw =>
  obtain ⟨j, want⟩ := jw
  simp only [hg] at h ⊢
  cases hdj : (ops[j]?).bind (·.dst) with
  | none => simp only [hdj] at h; cases h
  | some d =>
   simp only [hdj] at h ⊢
   split at h
   ·rename_i he
    simp only [he]
    exact fin1 d _ h
   ·rename_i b tip he
    simp only [he]
    cases tip
    ·simp only [cond_false] at h ⊢
     cases b <;> cases want <;> simp only [cond_true, cond_false, set_same he] at h
     ·exact fin1 d _ h
     ·simp only [Bool.false_eq_true, if_false]; exact fin1 d _ h
     ·simp only [Bool.true_eq_false, if_false]; exact fin1 d _ h
     ·exact fin1 d _ h
    ·cases h
   ·cases h
theorem stepL_stepOp {G : Ctx} {ops : Array Oper} {o : Oper} {e : Env} {L : Log} {e' : Env} (h : stepL G ops o e = some (L, e')) : stepOp G ops o e some = some e' := by
 unfold stepL at h
 unfold stepOp
 cases hd : dstOk G.n o.dst <;> simp only [hd, Bool.not_true, Bool.not_false, cond_true, cond_false] at h ⊢
 ·cases h
 have fin1 : ∀ (d : Nat) (p : Prog), (p.log e).map (fun x => ((LP.p (.slot d) :: x.1.1, x.1.2), x.2)) = some (L, e') → p.run e some = some e' := fun d p hp => by
  simp only [Option.map_eq_some_iff] at hp
  obtain ⟨⟨L', e1⟩, h1, h2⟩ := hp
  injection h2 with _ h2
  subst h2
  exact Prog.log_run p e _ _ h1
 cases hg : o.guard with
 | none =>
  simp only [hg] at h ⊢
  unfold opQ at h
  split at h
  ·simp [Prog.log] at h
  ·exact Prog.log_run _ _ _ _ h
 | some jw =>
  obtain ⟨j, want⟩ := jw
  simp only [hg] at h ⊢
  cases hdj : (ops[j]?).bind (·.dst) with
  | none => simp only [hdj] at h; cases h
  | some d =>
   simp only [hdj] at h ⊢
   split at h
   ·rename_i he
    simp only [he]
    exact fin1 d _ h
   ·rename_i b tip he
    simp only [he]
    cases tip
    ·simp only [cond_false] at h
     cases b <;> cases want <;> simp only [cond_true, cond_false, set_same he] <;> simp only [if_true, if_false, Bool.false_eq_true, Bool.true_eq_false] at h <;> exact fin1 d _ h
    ·cases h
   ·cases h
theorem stepL_frame {G : Ctx} {ops : Array Oper} {o : Oper} {e : Env} {L : Log} {e' : Env} (h : stepL G ops o e = some (L, e')) :
  (∀ q, q ∉ L.2 → q.of e' = q.of e) ∧ ∀ e2 : Env, (∀ q, q ∈ L.1 → q.of e2 = q.of e) → ∃ e2', stepL G ops o e2 = some (L, e2') ∧ ∀ q, (q ∈ L.2 → q.of e2' = q.of e') ∧ (q ∉ L.2 → q.of e2' = q.of e2) := by
 unfold stepL at h
 unfold stepL
 cases hd : dstOk G.n o.dst <;> simp only [hd, Bool.not_true, Bool.not_false, cond_true, cond_false] at h ⊢
 ·cases h
 cases hg : o.guard with
 | none =>
  simp only [hg] at h ⊢
  exact Prog.log_frame _ _ _ _ h
 | some jw =>
  obtain ⟨j, want⟩ := jw
  simp only [hg] at h ⊢
  cases hdj : (ops[j]?).bind (·.dst) with
  | none => simp only [hdj] at h; cases h
  | some d =>
   simp only [hdj] at h ⊢
   have fin1 : ∀ (p : Prog), (p.log e).map (fun x => ((LP.p (.slot d) :: x.1.1, x.1.2), x.2)) = some (L, e') → (∀ q, q ∉ L.2 → q.of e' = q.of e) ∧ LP.p (.slot d) ∈ L.1 ∧ ∀ e2 : Env, (∀ q, q ∈ L.1 → q.of e2 = q.of e) →
     ∃ e2', (p.log e2).map (fun x => ((LP.p (.slot d) :: x.1.1, x.1.2), x.2)) = some (L, e2') ∧ ∀ q, (q ∈ L.2 → q.of e2' = q.of e') ∧ (q ∉ L.2 → q.of e2' = q.of e2) := fun p hp => by
    simp only [Option.map_eq_some_iff] at hp
    obtain ⟨⟨L', e1⟩, h1, h2⟩ := hp
    injection h2 with h3 h2
    subst h2; subst h3
    obtain ⟨f1, f2⟩ := Prog.log_frame p e L' e1 h1
    refine ⟨f1, by simp, fun e2 he => ?_⟩
    obtain ⟨e2', k1, k2⟩ := f2 e2 fun q hq => he q (by simp [hq])
    exact ⟨e2', by rw [k1]; rfl, k2⟩
   split at h
   ·rename_i he
    obtain ⟨f1, f0, f2⟩ := fin1 _ h
    refine ⟨f1, fun e2 he2 => ?_⟩
    rw [show e2 (.slot d) = e (.slot d) from he2 _ f0, he]
    exact f2 e2 he2
   ·rename_i b tip he
    cases tip
    ·simp only [cond_false] at h
     obtain ⟨f1, f0, f2⟩ := fin1 (if b = want then opP G o else put o.dst .undef .done) (by split <;> rename_i hb <;> simpa [hb] using h)
     refine ⟨f1, fun e2 he2 => ?_⟩
     obtain ⟨e2', k1, k2⟩ := f2 e2 he2
     refine ⟨e2', ?_, k2⟩
     rw [show e2 (.slot d) = e (.slot d) from he2 _ f0, he]
     simp only [cond_false]
     rw [← k1]
     split <;> rfl
    ·cases h
   ·cases h
theorem stepL_swap {G : Ctx} {ops : Array Oper} {oa oi : Oper} {e e1 e2 : Env} {La Li : Log} (ha : stepL G ops oa e = some (La, e1)) (hi : stepL G ops oi e1 = some (Li, e2)) (hap : Apart La Li) :
  ∃ g, stepL G ops oi e = some (Li, g) ∧ stepL G ops oa g = some (La, e2) := by
 obtain ⟨a1, a2⟩ := stepL_frame ha
 obtain ⟨i1, i2⟩ := stepL_frame hi
 obtain ⟨g, g1, g2⟩ := i2 e fun q hq => (a1 q fun hw => hap.wr q hw hq).symm
 obtain ⟨f, f1, f2⟩ := a2 g fun q hq => (g2 q).2 fun hw => hap.rw q hq hw
 refine ⟨g, g1, ?_⟩
 have key : ∀ q : LP, q.of f = q.of e2 := fun q => by
  by_cases hq : q ∈ La.2
  ·rw [(f2 q).1 hq, i1 q (hap.ww q hq)]
  ·rw [(f2 q).2 hq]
   by_cases hq2 : q ∈ Li.2
   ·exact (g2 q).1 hq2
   ·rw [(g2 q).2 hq2, i1 q hq2, a1 q hq]
 rw [f1]
 congr 2
 funext q
 exact key (.p q)
def RunsTo (G : Ctx) (ops : Array Oper) (L : Nat → Log) : List Nat → Env → Env → Prop
 | [], e, e' => e = e'
 | i :: S, e, e' => ∃ o g, ops[i]? = some o ∧ stepL G ops o e = some (L i, g) ∧ RunsTo G ops L S g e'
theorem RunsTo.pull {G : Ctx} {ops : Array Oper} {L : Nat → Log} {i : Nat} : ∀ {S : List Nat} {e e' : Env}, RunsTo G ops L S e e' → i ∈ S → (∀ a ∈ S.takeWhile (· != i), Apart (L a) (L i)) →
  ∃ o g, ops[i]? = some o ∧ stepL G ops o e = some (L i, g) ∧ RunsTo G ops L (S.erase i) g e'
 | [], _, _, _, hi, _ => by simp at hi
 | a :: S, e, e', h, hi, hap => by
  obtain ⟨o, g, h1, h2, h3⟩ := h
  by_cases hai : a = i
  ·subst hai
   exact ⟨o, g, h1, h2, by simpa using h3⟩
  ·have hi' : i ∈ S := by
    rcases List.mem_cons.1 hi with hh | hh
    ·exact absurd hh.symm hai
    ·exact hh
   have htw : (a :: S).takeWhile (· != i) = a :: S.takeWhile (· != i) := by
    rw [List.takeWhile_cons]; simp [hai]
   rw [htw] at hap
   obtain ⟨oi, g2, k1, k2, k3⟩ := RunsTo.pull h3 hi' fun b hb => hap b (List.mem_cons_of_mem _ hb)
   obtain ⟨g3, m1, m2⟩ := stepL_swap h2 k2 (hap a List.mem_cons_self)
   refine ⟨oi, g3, k1, m1, ?_⟩
   rw [List.erase_cons, if_neg (by simpa using hai)]
   exact ⟨o, g2, h1, m2, k3⟩
end Go.PM
