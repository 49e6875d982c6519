/- The laws on bits, plain: no reader. -/
import Derived.Test.YtifcchajbahdiaaPliLaw02D
namespace Go.Pli
open Go Go.PM

theorem bitsNone_law (n : Int) : bitsNoneN n = some (true, ()) := by
  have h1 : getN (newN ([200] : List Int)) n = some (0, ([200], true, ()), ()) := rfl
  unfold bitsNoneN
  rw [h1, awake2_eq]
  simp only [Option.bind_some, glong_bad]
  rfl

end Go.Pli
