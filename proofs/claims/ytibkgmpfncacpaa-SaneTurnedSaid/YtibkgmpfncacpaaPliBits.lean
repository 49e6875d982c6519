/- Bits: what the loops come to. -/
import Derived.Test.YtibkgmpfncacpaaPliSp
import Derived.KernelRfl
namespace Go.Pli
open Go Go.PM
end Go.Pli

namespace Go.Pli
open Go Go.PM
theorem w64 {n : Int} (h0 : -9223372036854775808 ≤ n) (h1 : n < 9223372036854775808) : IntKind.i64.wrap n = n := by
 rw [IntKind.wrap_i64, Int.emod_eq_of_lt (by omega) (by omega)]; omega
end Go.Pli

namespace Go.Pli
open Go Go.PM
theorem rin_loop (l : List Int) (x : Int) (hlen : l.length < 9223372036854775807) : ∀ (m : List Int) (pre : List Int), l = pre ++ m → loopF (rinL1 l x) (m.length + 1) ((pre.length : Int), ()) = some (m.contains x, ())
 | [], pre, hl => by
  rw [loopF, rinL1]
  have : ¬ ((pre.length : Int) < (l.length : Int)) := by rw [hl]; simp
  simp [this]
 | c :: m, pre, hl => by
  have ih := rin_loop l x hlen m (pre ++ [c]) (by rw [hl]; simp)
  rw [List.length_cons, loopF, rinL1]
  have h1 : (pre.length : Int) < (l.length : Int) := by rw [hl]; simp; omega
  have hget : l.getD pre.length 0 = c := by rw [hl, List.getD_eq_getElem?_getD, List.getElem?_append_right (by omega)]; simp
  have hi1 : IntKind.i64.wrap ((pre.length : Int) + 1) = (((pre ++ [c]).length : Nat) : Int) := by rw [w64 (by omega) (by omega)]; simp
  simp only [Int.toNat_natCast, hget, hi1]
  rw [show decide ((pre.length : Int) < (l.length : Int)) = true from decide_eq_true h1, show decide ((0 : Int) ≤ (pre.length : Int)) = true from decide_eq_true (by omega)]
  simp only [Bool.and_self, cond_true]
  rw [ih]
  by_cases hc : c = x
  ·subst hc; simp
  ·have h' : (c == x) = false := by simpa using hc
   have h'' : (x == c) = false := by simpa using fun h => hc h.symm
   rw [List.contains_cons, h', h'']
   simp
theorem rin_ok (l : List Int) (x : Int) (r) (h : rin l x = some r) : ∃ k, rinN k l x = some r := by
 unfold rin at h
 cases hr : decide (l.length < 9223372036854775807) <;> simp only [hr, cond_true, cond_false] at h
 ·cases h
 refine ⟨l.length + 1, ?_⟩
 rw [← h]
 exact rin_loop l x (of_decide_eq_true hr) l [] rfl
end Go.Pli

namespace Go.Pli
open Go Go.PM
end Go.Pli
