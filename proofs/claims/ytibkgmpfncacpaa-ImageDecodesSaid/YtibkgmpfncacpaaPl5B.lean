/- ImageDecodes: the statement 'ImageDecodes' of the seat, for every input that it tells of. -/
import Derived.Test.YtibkgmpfncacpaaRows
import Derived.Test.YtibkgmpfncacpaaPliEq5
import Derived.Test.YtibkgmpfncacpaaPliLaw05
namespace Go.Proofs.Ytibkgmpfncacpaa
open Go Go.PM Go.Pli Go.ChangeShapes Go.WideShapes Go.ChangeAt Go.RowKit

theorem ImageDecodes_own : ownKnob Try.prog.godebug = none := by kernel_rfl
theorem ImageDecodes_laid : laidOutB Try.prog = true := by kernel_rfl
theorem ImageDecodes_fok : FOk Try.prog 7 imageDecodesS := imageDecodesC (fun z hz => imageDecodes_law z.1 (bytes_of_wf hz.1))

set_option maxRecDepth 100000 in
theorem ImageDecodes_lifted (os : Os) (started : os.Started) (H : Type) (enc : TypeId × Value → H) :
    ReturnsInHanded {} Try.checked os 7 .any (Rows.imageDecodesSpec.pre6 enc Try.prog Try.f7 Rows.imageDecodesRow.domain false) (Rows.imageDecodesSpec.post enc Try.prog Try.f7 false true false false) := by
  refine returnsInHanded_of_change_sized (C := Try.checked) ImageDecodes_own started (by kernel_rfl) Try.func7
    (ChangeSpec.witness6 (enc := enc) (C := Try.checked) false ⟨#[], #[.slice none 0 0], []⟩ 8 (by kernel_rfl) (by kernel_rfl) (by kernel_rfl) (by kernel_rfl)) ?_
  intro W base args ds gs before hval hW _ hw _
  exact said_calls (tb := 4) (Ts := imageDecodesT) ImageDecodes_fok (by refine ⟨?_, trivial⟩ <;> (unfold TyOk; kernel_rfl)) ImageDecodes_laid (by kernel_rfl) (by kernel_rfl) (by kernel_rfl) rfl
    (fun ds hl => by match ds, hl with | [d1], _ => rfl)
    (fun _ hz => ⟨_, if_pos hz, rfl⟩) W base args ds gs before hval hW hw

theorem ImageDecodes_holds : Rows.ImageDecodesSaid :=
  OpenClaim.holds_of_wide 7 Try.f7 rfl rfl rfl rfl rfl rfl rfl ⟨rfl, rfl, rfl, rfl, rfl⟩ rfl rfl rfl rfl rfl (by kernel_rfl) Try.func7 (by kernel_rfl)
    (of_decide_eq_true (by kernel_rfl)) (by unfold Func.isWrapper; rw [if_neg (by decide +kernel)]; exact ⟨rfl, rfl⟩)
    (fun os started H enc _ => ImageDecodes_lifted os started H enc)

end Go.Proofs.Ytibkgmpfncacpaa
