/- PM: from a row's input to typed values. -/
import Derived.Test.YtibkgmpfncacpaaPMFn
import Derived.ProofKit
import Derived.SizedLaws
namespace Go.PM
open Go
def Wf (P : Program) : (t : Ty) → t.D → Prop
 | .unit, _ => True
 | .int k, x => k.min ≤ x ∧ x ≤ k.max
 | .bool, _ => True
 | .str, s => s.size ≤ reachBytes
 | .sl e r, xs => xs.length * P.bytesOf e ≤ reachBytes ∧ ∀ (i : Nat) x, xs[i]? = some x → Wf P r x
 | .pair a b, x => Wf P a x.1 ∧ Wf P b x.2
 | .any, _ => True
 | .clo _ _, _ => True
 | .osl _ _, _ => True
theorem pickList {α : Type} {Q : Nat → α → Prop} : ∀ (n : Nat), (∀ i, i < n → ∃ x, Q i x) → ∃ xs : List α, xs.length = n ∧ ∀ (i : Nat) x, xs[i]? = some x → Q i x := by
 intro n
 induction n with
 | zero => intro _; exact ⟨[], rfl, fun i x h => by simp at h⟩
 | succ n ih =>
  intro h
  obtain ⟨xs, h1, h2⟩ := ih fun i hi => h i (by omega)
  obtain ⟨x, hx⟩ := h n (by omega)
  refine ⟨xs ++ [x], by simp [h1], fun i y hy => ?_⟩
  rw [List.getElem?_append] at hy
  split at hy
  ·exact h2 i y hy
  ·rename_i hi
   have : i = n := by
    have := (List.getElem?_eq_some_iff.1 hy).1
    simp at this
    omega
   subst this
   rw [h1, Nat.sub_self] at hy
   simp at hy
   subst hy
   exact hx
section
variable {H : Type} {enc : TypeId × Value → H} {P : Program} {W : World} {sp : Nat → Bool} {hd : Bool}
theorem cells?_spec {a : Addr} {n : Nat} {cs : List Value} (h : W.cells? 0 a n = some cs) : cs.length = n ∧ ∀ (j : Nat) u, cs[j]? = some u → W.cell? (a.add j) = some u := by
 simp only [World.cells?, Nat.zero_le, if_true] at h
 have hl := mapM_some_length h
 rw [List.length_range] at hl
 refine ⟨hl, fun j u hu => ?_⟩
 have hj : j < n := by have := (List.getElem?_eq_some_iff.1 hu).1; omega
 have := mapM_some_get h j j (by simp [hj])
 rw [this, hu]
theorem cell?_lt {a : Addr} {u : Value} (h : W.cell? a = some u) : a.block < W.heap.size ∧ a.spot = none := by
 unfold World.cell? at h
 split at h
 ·rename_i c t fr hb
  split at h
  ·cases h
  ·rename_i hs
   refine ⟨(Array.getElem?_eq_some_iff.1 hb).1, ?_⟩
   cases hsp : a.spot with
   | none => rfl
   | some _ => rw [hsp] at hs; simp at hs
 ·cases h
theorem addr_add {a : Addr} (h : a.spot = none) (n : Nat) : a.add n = ⟨a.block, a.off + n, none⟩ := by
 unfold Addr.add
 split
 ·rename_i hn; subst hn; rw [← h, Nat.add_zero]
 ·rfl
theorem weightsAll_mem {e : TypeId} : ∀ {l : List (DataW H)} {i : Nat} {d : DataW H}, (DataW.weightsAll P e l).all (· ≤ reachBytes) = true → l[i]? = some d → (d.weights P e).all (· ≤ reachBytes) = true
 | [], _, _, _, h => by simp at h
 | x :: l, 0, d, h, hd => by
  simp only [DataW.weightsAll, List.all_append, Bool.and_eq_true] at h
  simp at hd; subst hd; exact h.1
 | x :: l, i + 1, d, h, hd => by
  simp only [DataW.weightsAll, List.all_append, Bool.and_eq_true] at h
  exact weightsAll_mem h.2 (by simpa using hd)
theorem TyOk.cellsOf {t : TypeId} {T : Ty} (h : TyOk P t T) : P.cellsOf t = T.sz := by
 obtain ⟨i, z, h1, h2, -⟩ := h.sized
 simp [Program.cellsOf, h1, h2]
end
end Go.PM
