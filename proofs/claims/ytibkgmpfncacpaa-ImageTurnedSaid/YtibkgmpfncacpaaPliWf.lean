/- What well-formed rows are. -/
import Derived.Test.YtibkgmpfncacpaaPliLaw02B
import Derived.Test.YtibkgmpfncacpaaPMLaw
namespace Go.Pli
open Go Go.PM

theorem bytes_of_wf {P : Program} {e : TypeId} {l : List Int} (h : Wf P (.sl e (.int .u8)) l) : bytesB l = true := by
  simp only [bytesB, List.all_eq_true]
  intro x hx
  obtain ⟨i, hi⟩ := List.mem_iff_getElem?.1 hx
  have := h.2 i x hi
  have h1 : IntKind.u8.min = 0 := by decide
  have h2 : IntKind.u8.max = 255 := by decide
  have h3 : IntKind.u8.min ≤ x ∧ x ≤ IntKind.u8.max := this
  rw [h1, h2] at h3
  have : x < 256 := by omega
  simp [h3.1, this]

theorem ints_of_wf {P : Program} {e : TypeId} {k : IntKind} {l : List Int} (h : Wf P (.sl e (.int k)) l) : ∀ u ∈ l, k.min ≤ u ∧ u ≤ k.max := by
  intro x hx
  obtain ⟨i, hi⟩ := List.mem_iff_getElem?.1 hx
  exact h.2 i x hi

theorem u16s_of_wf {P : Program} {e : TypeId} {l : List Int} (h : Wf P (.sl e (.int .u16)) l) : u16s l := fun u hu => by
  have := ints_of_wf h u hu
  rw [show IntKind.u16.min = 0 by decide, show IntKind.u16.max = 65535 by decide] at this
  omega

theorem u32s_of_wf {P : Program} {e : TypeId} {l : List Int} (h : Wf P (.sl e (.int .u32)) l) : u32s l := fun u hu => by
  have := ints_of_wf h u hu
  rw [show IntKind.u32.min = 0 by decide, show IntKind.u32.max = 4294967295 by decide] at this
  omega

theorem i32s_of_wf {P : Program} {e : TypeId} {l : List Int} (h : Wf P (.sl e (.int .i32)) l) : i32s l := fun u hu => by
  have := ints_of_wf h u hu
  rw [show IntKind.i32.min = -2147483648 by decide, show IntKind.i32.max = 2147483647 by decide] at this
  omega

theorem u32_of_wf {P : Program} {u : Int} (h : Wf P (.int .u32) u) : 0 ≤ u ∧ u < 4294967296 := by
  have h' : IntKind.u32.min ≤ u ∧ u ≤ IntKind.u32.max := h
  rw [show IntKind.u32.min = 0 by decide, show IntKind.u32.max = 4294967295 by decide] at h'
  omega

end Go.Pli
