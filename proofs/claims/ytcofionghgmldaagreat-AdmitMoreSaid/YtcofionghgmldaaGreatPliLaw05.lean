/- The laws on bits, plain: there and back. -/
import Derived.Test.YtcofionghgmldaaGreatPliInst
import Derived.Test.YtcofionghgmldaaGreatPMLaw
import Derived.Test.YtcofionghgmldaaGreatPliL5E
import Derived.KernelRfl
namespace Go.Pli
open Go Go.PM
end Go.Pli

namespace Go.Pli
open Go Go.PM
end Go.Pli

namespace Go.Pli
open Go Go.PM
theorem read_both {l : List Int} {n : Int} (hb : bytesB l = true) (h0 : 0 ≤ n) (h1 : n < 9223372036854775808) :
    (∃ v m : Nat, rnext l = some ((v : Int), (m : Int), ()) ∧ 1 ≤ m ∧ m ≤ l.length ∧ l.take m = enc v ∧ v < 128 ^ 5 ∧ (v : Int) ≤ n ∧ getN (l, false, ()) n = some ((v : Int), (l.drop m, false, ()), ())) ∨
    (∃ (x y : Int) (l' : List Int), rnext l = some (x, y, ()) ∧ ¬ (y > 0 ∧ x ≤ n) ∧ getN (l, false, ()) n = some (0, (l', true, ()), ())) := by
  have hbs : bytesB (l.take 5) = true := bytesB_take 5 hb
  unfold getN next rnext
  simp only [hbs, cond_true, cond_false]
  have hw : IntKind.u64.wrap n = n := by rw [IntKind.wrap_u64]; omega
  have hn0 : decide (n < 0) = false := decide_eq_false (by omega)
  cases hd : decF 5 0 0 l with
  | none => exact .inr ⟨0, 0, l, rfl, by omega, rfl⟩
  | some x =>
    obtain ⟨y, m, ok⟩ := x
    cases ok with
    | false => exact .inr ⟨0, 0, l.drop m, rfl, by omega, rfl⟩
    | true =>
      obtain ⟨v, m', e1, e2, e3, e4, e5, e6, e7⟩ := decF_inv 5 0 0 l y m hbs hd
      have hy : y = v := by omega
      have hm : m = m' := by omega
      subst hy; subst hm
      simp only [Option.bind_some, Bool.not_true, cond_false, hn0, hw]
      by_cases hgt : (y : Int) > n
      · rw [decide_eq_true hgt]
        exact .inr ⟨_, _, l.drop m, rfl, by omega, rfl⟩
      · rw [decide_eq_false hgt]
        have hw2 : IntKind.i64.wrap (y : Int) = y := w64 (by omega) (by omega)
        refine .inl ⟨y, m, rfl, e3, e4, ?_, by omega, by omega, by simp only [cond_false, hw2]⟩
        rw [e5]
        exact (encF_le e6 (by omega)).symm
structure GInv (s : List Int) (at_ : Nat) (bad : Bool) (r : Rd) : Prop where
  le : at_ ≤ s.length
  rd : r = (if bad then r.1 else s.drop at_, bad, ())
end Go.Pli

namespace Go.Pli
open Go Go.PM
end Go.Pli

namespace Go.Pli
open Go Go.PM
structure Got {α : Type} (o : Option (α × Rd × Unit)) (l : List Int) (b : Bool) (C : α → List Int → Prop) : Prop where
  ex : ∃ x l' bad, o = some (x, (l', bad, ()), ()) ∧ bytesB l' = true ∧ (bad = true ∨ (b = false ∧ bad = false ∧ C x l'))
end Go.Pli
