/- What well-formed rows are. -/
import Derived.Test.YtifcchajbahdiaaPliSpec
import Derived.Test.YtifcchajbahdiaaPMLaw
namespace Go.Pli
open Go Go.PM

theorem bytes_of_wf {P : Program} {e : TypeId} {l : List Int} (h : Wf P (.sl e (.int .u8)) l) : bytesB l = true := by
  simp only [bytesB, List.all_eq_true]
  intro x hx
  obtain ⟨i, hi⟩ := List.mem_iff_getElem?.1 hx
  have := h.2 i x hi
  have h1 : IntKind.u8.min = 0 := by decide
  have h2 : IntKind.u8.max = 255 := by decide
  have h3 : IntKind.u8.min ≤ x ∧ x ≤ IntKind.u8.max := this
  rw [h1, h2] at h3
  have : x < 256 := by omega
  simp [h3.1, this]

end Go.Pli
