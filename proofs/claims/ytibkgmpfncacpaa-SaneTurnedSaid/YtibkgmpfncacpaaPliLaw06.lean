/- The laws on whether all is there, plain. -/
import Derived.Test.YtibkgmpfncacpaaPliL5E
import Derived.KernelRfl
namespace Go.Pli
open Go Go.PM
theorem awake6_eq : awake6N = some (true, ()) := by kernel_rfl
theorem scheck_zero (m : Im) : (scheck m == 0) = (ifits m && saneB m) := by
 unfold scheck
 cases ifits m <;> cases saneB m <;> rfl
structure Grow (m n : Im) : Prop where
 cls : ∃ e, n.1 = m.1 ++ e
 statics : m.2.1.length ≤ n.2.1.length
 ints : m.2.2.1.length ≤ n.2.2.1.length
 mts : n.2.2.2.1 = m.2.2.2.1
end Go.Pli
