/- ImageEncodes: the statement 'ImageEncodes' of the seat, for every input that it tells of. -/
import Derived.Test.YtibkgmpfncacpaaRows
import Derived.Test.YtibkgmpfncacpaaPliEq5
import Derived.Test.YtibkgmpfncacpaaPliLaw05
namespace Go.Proofs.Ytibkgmpfncacpaa
open Go Go.PM Go.Pli Go.ChangeShapes Go.WideShapes Go.ChangeAt Go.RowKit

theorem ImageEncodes_own : ownKnob Try.prog.godebug = none := by kernel_rfl
theorem ImageEncodes_laid : laidOutB Try.prog = true := by kernel_rfl
theorem ImageEncodes_fok : FOk Try.prog 6 imageEncodesS := imageEncodesC (fun z hz => imageEncodes_law z.1 (ints32_of_wf hz.1.2.2.1))

set_option maxRecDepth 100000 in
theorem ImageEncodes_lifted (os : Os) (started : os.Started) (H : Type) (enc : TypeId × Value → H) :
    ReturnsInHanded {} Try.checked os 6 .any (Rows.imageEncodesSpec.pre6 enc Try.prog Try.f6 Rows.imageEncodesRow.domain false) (Rows.imageEncodesSpec.post enc Try.prog Try.f6 false true false false) := by
  refine returnsInHanded_of_change_sized (C := Try.checked) ImageEncodes_own started (by kernel_rfl) Try.func6
    (ChangeSpec.witness6 (enc := enc) (C := Try.checked) false ⟨#[], #[.agg #[.slice none 0 0, .slice none 0 0, .slice none 0 0, .slice none 0 0, .slice none 0 0, .int .i64 0, .int .i64 0]], []⟩ 8 (by kernel_rfl) (by kernel_rfl) (by kernel_rfl) (by kernel_rfl)) ?_
  intro W base args ds gs before hval hW _ hw _
  exact said_calls (tb := 4) (Ts := imageEncodesT) ImageEncodes_fok (by refine ⟨?_, trivial⟩ <;> (unfold TyOk; kernel_rfl)) ImageEncodes_laid (by kernel_rfl) (by kernel_rfl) (by kernel_rfl) rfl
    (fun ds hl => by match ds, hl with | [d1], _ => rfl)
    (fun _ hz => ⟨_, if_pos hz, rfl⟩) W base args ds gs before hval hW hw

theorem ImageEncodes_holds : Rows.ImageEncodesSaid :=
  OpenClaim.holds_of_wide 6 Try.f6 rfl rfl rfl rfl rfl rfl rfl ⟨rfl, rfl, rfl, rfl, rfl⟩ rfl rfl rfl rfl rfl (by kernel_rfl) Try.func6 (by kernel_rfl)
    (of_decide_eq_true (by kernel_rfl)) (by unfold Func.isWrapper; rw [if_neg (by decide +kernel)]; exact ⟨rfl, rfl⟩)
    (fun os started H enc _ => ImageEncodes_lifted os started H enc)

end Go.Proofs.Ytibkgmpfncacpaa
