/- PM: a function's contract by a plain law on what it comes to. -/
import Derived.Test.YtibkgmpfncacpaaPMFn
namespace Go.PM
open Go
def tabB (P : Program) (l : List (TypeId × Ty)) : Bool := l.all fun x => tyGo P x.2 (.inl x.1) && Nat.blt x.2.ht 10000
def ptrB (P : Program) (t : TypeId) : Bool := match P.underlying t with
 | some (.pointer _) => true
 | _ => false
def setB (P : Program) (t : TypeId) : Bool := match P.underlying t with
 | some (.map k e) => (match P.underlying k with
  | some (.int .i64) => true
  | _ => false) && (match P.info? e with
  | some i => (match i.zero with
   | some (.agg cs) => Nat.beq cs.size 0
   | _ => false)
  | none => false)
 | _ => false
def FnsOk (P : Program) : List (FuncId × FSpec) → Prop
 | [] => True
 | x :: l => FOk P (x.1 % 1000000) x.2 ∧ FnsOk P l
theorem look_mem {α : Type} {n : Nat} {a : α} : ∀ {l : List (Nat × α)}, look n l = some a → (n, a) ∈ l
 | [], h => by cases h
 | (m, b) :: l, h => by
  simp only [look] at h
  split at h
  ·rename_i hm; injection h with h; subst hm; subst h; exact List.mem_cons_self
  ·exact List.mem_cons_of_mem _ (look_mem h)
theorem FnsOk.look {P : Program} {f : FuncId} {S : FSpec} : ∀ {l : List (FuncId × FSpec)}, FnsOk P l → PM.look f l = some S → FOk P (f % 1000000) S
 | [], _, h => by cases h
 | (m, b) :: l, hk, h => by
  simp only [PM.look] at h
  split at h
  ·rename_i hm; injection h with h; subst hm; subst h; exact hk.1
  ·exact FnsOk.look hk.2 h
theorem ctxOk {P : Program} {G : Ctx} (h1 : tabB P G.ty = true) (h2 : G.ptrs.all (ptrB P) = true) (h3 : FnsOk P G.fns) (h4 : G.sets.all (setB P) = true := by rfl) : CtxOk P G where
 sets := fun t ht => by
  simp only [List.all_eq_true] at h4
  have := h4 t ht
  unfold setB at this
  split at this
  ·rename_i k e hu
   simp only [Bool.and_eq_true] at this
   obtain ⟨q1, q2⟩ := this
   split at q1
   ·rename_i hk
    split at q2
    ·rename_i i hi
     split at q2
     ·rename_i cs hz
      have : cs = #[] := Array.eq_empty_of_size_eq_zero (Nat.eq_of_beq_eq_true q2)
      exact ⟨k, e, i, hu, hk, hi, by rw [hz, this]⟩
     ·cases q2
    ·cases q2
   ·cases q1
  ·cases this
 ty := fun t T h => by
  simp only [tabB, List.all_eq_true, Bool.and_eq_true] at h1
  have := h1 _ (look_mem h)
  exact ⟨this.1, by simpa using this.2⟩
 fns := fun f S h => h3.look h
 ptrs := fun t ht => by
  simp only [List.all_eq_true] at h2
  have := h2 t ht
  unfold ptrB at this
  split at this
  ·rename_i e he; rw [he]; simp [Program.pointee, he]
  ·cases this
def Ty.Len : (t : Ty) → t.D → Prop
 | .unit, _ => True
 | .int _, _ => True
 | .bool, _ => True
 | .str, _ => True
 | .any, _ => True
 | .sl _ r, xs => xs.length ≤ lenMax ∧ ∀ x ∈ xs, r.Len x
 | .pair a b, x => a.Len x.1 ∧ b.Len x.2
 | .clo _ c, x => c.Len x
 | .osl _ _, _ => True
mutual
theorem Rep.lens {fix : Nat → Nat → Prop} {W : World} : ∀ (t : Ty) (x : t.D) (cs : List Value), Rep fix W t x cs → t.Len x
 | .unit, _, _, _ => trivial
 | .int _, _, _, _ => trivial
 | .bool, _, _, _ => trivial
 | .str, _, _, _ => trivial
 | .any, _, _, _ => trivial
 | .sl _ r, xs, cs, h => by
  obtain ⟨A, c, h1, h2, h3⟩ := h
  refine ⟨h2.2, fun x hx => ?_⟩
  obtain ⟨ad, -, -, hc⟩ := h3 (List.ne_nil_of_mem hx)
  obtain ⟨i, hi⟩ := List.getElem?_of_mem hx
  obtain ⟨ci, hci, -⟩ := hc i x hi
  exact Rep.lens r x ci hci
 | .pair a b, x, cs, h => by
  obtain ⟨c1, c2, h1, h2, h3⟩ := h
  exact ⟨Rep.lens a _ _ h2, Rep.lens b _ _ h3⟩
 | .clo _ c, x, cs, h => by
  obtain ⟨ps, h1, h2⟩ := h
  exact RepC.lens c x ps h2
 | .osl _ _, _, _, _ => trivial
theorem RepC.lens {fix : Nat → Nat → Prop} {W : World} : ∀ (t : Ty) (x : t.D) (ps : List Value), RepC fix W t x ps → t.Len x
 | .unit, _, _, _ => trivial
 | .pair a b, x, ps, h => by
  obtain ⟨ad, ps', h1, h2, h3, ci, h4, h5⟩ := h
  exact ⟨Rep.lens a _ _ h4, RepC.lens b _ _ h3⟩
 | .int _, _, _, h => h.elim
 | .bool, _, _, h => h.elim
 | .str, _, _, h => h.elim
 | .sl _ _, _, _, h => h.elim
 | .any, _, _, h => h.elim
 | .clo _ _, _, _, h => h.elim
 | .osl _ _, _, _, h => h.elim
end
def LenAll : (ps : List Md) → (tupTy ps).D → Prop
 | [], _ => True
 | m :: ps, z => m.ty.Len z.1 ∧ LenAll ps z.2
theorem ArgsRep.lens {fix : Nat → Nat → Prop} {own : Nat → Option Lab} {W : World} : ∀ (i : Nat) (ps : List Md) (z : (tupTy ps).D) (vs : List Value), ArgsRep fix own W i ps z vs → LenAll ps z
 | _, [], _, _, _ => trivial
 | i, .val t :: ps, z, v :: vs, h => ⟨Rep.lens t _ _ h.1.2, ArgsRep.lens (i + 1) ps z.2 vs h.2⟩
 | i, .tip t :: ps, z, v :: vs, h => ⟨Rep.lens t _ _ h.1.2.1, ArgsRep.lens (i + 1) ps z.2 vs h.2⟩
 | i, .box T t :: ps, z, v :: vs, h => by
  obtain ⟨⟨B, us, h1, h2, h3, h4, h5, -⟩, h6⟩ := h
  exact ⟨Rep.lens t _ _ h5, ArgsRep.lens (i + 1) ps z.2 vs h6⟩
 | i, .nilp s :: ps, z, v :: vs, h => ⟨trivial, ArgsRep.lens (i + 1) ps z.2 vs h.2⟩
 | i, .cap t :: ps, z, v :: vs, h => by
  obtain ⟨⟨ad, h1, h2, ci, h3, h4⟩, h6⟩ := h
  exact ⟨Rep.lens t _ _ h3, ArgsRep.lens (i + 1) ps z.2 vs h6⟩
 | i, .full t b :: ps, z, v :: vs, h => ⟨Rep.lens t _ _ h.1.2.1, ArgsRep.lens (i + 1) ps z.2 vs h.2⟩
 | _, .val _ :: _, _, [], h => h.elim
 | _, .tip _ :: _, _, [], h => h.elim
 | _, .box _ _ :: _, _, [], h => h.elim
 | _, .nilp s :: _, _, [], h => h.elim
 | _, .cap _ :: _, _, [], h => h.elim
 | _, .full _ _ :: _, _, [], h => h.elim
 | _, .own _ _ :: _, _, [], h => h.elim
 | _, .take _ _ :: _, _, [], h => h.elim
 | _, .str _ :: _, _, [], h => h.elim
 | _, .str _ :: _, _, _ :: _, h => h.elim
 | i, .take el r :: ps, z, v :: vs, h => by
  refine ⟨?_, ArgsRep.lens (i + 1) ps z.2 vs h.2⟩
  obtain ⟨A, c, h1, h2, h3⟩ := h.1
  refine ⟨h2.2, fun x hx => ?_⟩
  rcases h3 with ⟨rfl, rfl⟩ | ⟨b, off, cur, cs, k1, k2, k3, k4, k5, k6, k7, k8, k9⟩
  ·have : z.1 = [] := List.eq_nil_of_length_eq_zero (by have := h2.1; omega)
   rw [this] at hx; simp at hx
  ·obtain ⟨i, hi⟩ := List.getElem?_of_mem hx
   exact Rep.lens r x _ (k8.2 i x hi)
 | i, .own el r :: ps, z, v :: vs, h => by
  refine ⟨?_, ArgsRep.lens (i + 1) ps z.2 vs h.2⟩
  obtain ⟨A, c, h1, h2, h3⟩ := h.1
  refine ⟨h2.2, fun x hx => ?_⟩
  rcases h3 with ⟨rfl, rfl⟩ | ⟨b, off, cur, cs, k1, k2, k3, k4, k5, k6, k7, k8, k9⟩
  ·have : z.1 = [] := List.eq_nil_of_length_eq_zero (by have := h2.1; omega)
   rw [this] at hx; simp at hx
  ·obtain ⟨i, hi⟩ := List.getElem?_of_mem hx
   exact Rep.lens r x _ (k8.2 i x hi)
theorem fok {P : Program} {G : Ctx} {f : FuncId} {fn : Func} {A : Ann} {S : FSpec} (hG : CtxOk P G) (hf : P.funcs[f]? = some fn) (hb : fn.body.isSome = true) (hn : (fn.name == "runtime.NumGoroutine") = false)
  (h : ∀ z r, LenAll S.ps z → S.run z = some r → ∃ k, fnRun G A k fn S.ps S.rs z = some r) : FOk P f S := by
 refine ⟨⟨fn, hf, hb, hn⟩, fun z r W fix own vs hz hfix hown hargs => ?_⟩
 obtain ⟨k, hk⟩ := h z r (ArgsRep.lens 0 S.ps z vs hargs) hz
 exact (fn_sound (A := A) (fuel := k) (ps := S.ps) (rs := S.rs) hG hf hb hn).run z r W fix own vs hk hfix hown hargs
theorem FOk.split {P : Program} {f : FuncId} {el : TypeId} {r : Ty} {rs : List Md} {run : (tupTy [Md.val (.sl el r)]).D → Option (tupTy (rs ++ [])).D} (run0 : (tupTy [Md.full (.sl el r) false]).D → Option (tupTy (rs ++ [])).D)
  (h1 : FOk P f ⟨[.full (.sl el r) true], rs, run⟩) (h0 : FOk P f ⟨[.full (.sl el r) false], rs, run0⟩) (h : ∀ x, run ([], ()) = some x → run0 ([], ()) = some x) : FOk P f ⟨[.val (.sl el r)], rs, run⟩ := by
 refine ⟨h1.fn, fun z res W fix own vs hz hfix hown hargs => ?_⟩
 match vs, hargs with
 | [v], hargs =>
  obtain ⟨⟨hag, hrep⟩, -⟩ := hargs
  have hag' : Value.isAgg v = false := hag
  rw [isAgg_false_cells hag'] at hrep
  have hrep' := hrep
  obtain ⟨A, c, e1, e2, e3⟩ := hrep
  have hv : v = .slice A z.1.length c := by injection e1
  cases A with
  | some ad => exact h1.run z res W fix own [v] hz hfix hown ⟨⟨hag', hrep', some ad, _, c, hv, rfl⟩, trivial⟩
  | none =>
   have hz1 : z.1 = [] := by
    cases hzz : z.1 with
    | nil => rfl
    | cons x xs =>
     obtain ⟨ad, ha, -⟩ := e3 (by rw [hzz]; simp)
     cases ha
   have hz2 : z = ([], ()) := by obtain ⟨a, b⟩ := z; simp only at hz1; subst hz1; rfl
   exact h0.run z res W fix own [v] (by rw [hz2]; exact h res (by rw [← hz2]; exact hz)) hfix hown ⟨⟨hag', hrep', none, _, c, hv, rfl⟩, trivial⟩
end Go.PM
