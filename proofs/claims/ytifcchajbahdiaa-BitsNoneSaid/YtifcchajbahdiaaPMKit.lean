/- PM: a function's contract by a plain law on what it comes to. -/
import Derived.Test.YtifcchajbahdiaaPMFn
namespace Go.PM
open Go

def tabB (P : Program) (l : List (TypeId × Ty)) : Bool := l.all fun x => tyGo P x.2 (.inl x.1) && Nat.blt x.2.ht 10000

def ptrB (P : Program) (t : TypeId) : Bool := match P.underlying t with
  | some (.pointer _) => true
  | _ => false

def FnsOk (P : Program) : List (FuncId × FSpec) → Prop
  | [] => True
  | x :: l => FOk P (x.1 % 1000000) x.2 ∧ FnsOk P l

theorem look_mem {α : Type} {n : Nat} {a : α} : ∀ {l : List (Nat × α)}, look n l = some a → (n, a) ∈ l
  | [], h => by cases h
  | (m, b) :: l, h => by
    simp only [look] at h
    split at h
    · rename_i hm; injection h with h; subst hm; subst h; exact List.mem_cons_self
    · exact List.mem_cons_of_mem _ (look_mem h)

theorem FnsOk.look {P : Program} {f : FuncId} {S : FSpec} : ∀ {l : List (FuncId × FSpec)}, FnsOk P l → PM.look f l = some S → FOk P (f % 1000000) S
  | [], _, h => by cases h
  | (m, b) :: l, hk, h => by
    simp only [PM.look] at h
    split at h
    · rename_i hm; injection h with h; subst hm; subst h; exact hk.1
    · exact FnsOk.look hk.2 h

theorem ctxOk {P : Program} {G : Ctx} (h1 : tabB P G.ty = true) (h2 : G.ptrs.all (ptrB P) = true) (h3 : FnsOk P G.fns) : CtxOk P G where
  ty := fun t T h => by
    simp only [tabB, List.all_eq_true, Bool.and_eq_true] at h1
    have := h1 _ (look_mem h)
    exact ⟨this.1, by simpa using this.2⟩
  fns := fun f S h => h3.look h
  ptrs := fun t ht => by
    simp only [List.all_eq_true] at h2
    have := h2 t ht
    unfold ptrB at this
    split at this
    · rename_i e he; rw [he]; simp [Program.pointee, he]
    · cases this

/-- A function's contract: what the plain function says is what the machine comes to, with some fuel. -/
theorem fok {P : Program} {G : Ctx} {f : FuncId} {fn : Func} {A : Ann} {S : FSpec} (hG : CtxOk P G) (hf : P.funcs[f]? = some fn) (hb : fn.body.isSome = true) (hn : (fn.name == "runtime.NumGoroutine") = false)
    (h : ∀ z r, S.run z = some r → ∃ k, fnRun G A k fn S.ps S.rs z = some r) : FOk P f S := by
  refine ⟨⟨fn, hf, hb, hn⟩, fun z r W fix own vs hz hfix hown hargs => ?_⟩
  obtain ⟨k, hk⟩ := h z r hz
  exact (fn_sound (A := A) (fuel := k) (ps := S.ps) (rs := S.rs) hG hf hb hn).run z r W fix own vs hk hfix hown hargs

end Go.PM
