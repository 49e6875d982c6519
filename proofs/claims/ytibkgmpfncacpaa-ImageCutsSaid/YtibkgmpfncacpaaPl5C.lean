/- ImageCuts: the statement 'ImageCuts' of the seat, for every input that it tells of. -/
import Derived.Test.YtibkgmpfncacpaaRows
import Derived.Test.YtibkgmpfncacpaaPliEq5
import Derived.Test.YtibkgmpfncacpaaPliLaw05
namespace Go.Proofs.Ytibkgmpfncacpaa
open Go Go.PM Go.Pli Go.ChangeShapes Go.WideShapes Go.ChangeAt Go.RowKit

theorem ImageCuts_own : ownKnob Try.prog.godebug = none := by kernel_rfl
theorem ImageCuts_laid : laidOutB Try.prog = true := by kernel_rfl
theorem ImageCuts_fok : FOk Try.prog 10 imageCutsS := imageCutsC (fun z hz => imageCuts_law z.1 z.2.1 z.2.2.1 (ints32_of_wf hz.1.2.2.1) (u16_of_wf hz.2.1) (bytes_of_wf hz.2.2.1))

set_option maxRecDepth 100000 in
theorem ImageCuts_lifted (os : Os) (started : os.Started) (H : Type) (enc : TypeId × Value → H) :
    ReturnsInHanded {} Try.checked os 10 .any (Rows.imageCutsSpec.pre6 enc Try.prog Try.f10 Rows.imageCutsRow.domain false) (Rows.imageCutsSpec.post enc Try.prog Try.f10 false true false false) := by
  refine returnsInHanded_of_change_sized (C := Try.checked) ImageCuts_own started (by kernel_rfl) Try.func10
    (ChangeSpec.witness6 (enc := enc) (C := Try.checked) false ⟨#[], #[.agg #[.slice none 0 0, .slice none 0 0, .slice none 0 0, .slice none 0 0, .slice none 0 0, .int .i64 0, .int .i64 0], .int .u16 0, .slice none 0 0], []⟩ 8 (by kernel_rfl) (by kernel_rfl) (by kernel_rfl) (by kernel_rfl)) ?_
  intro W base args ds gs before hval hW _ hw _
  exact said_calls (tb := 4) (Ts := imageCutsT) ImageCuts_fok (by refine ⟨?_, ?_, ?_, trivial⟩ <;> (unfold TyOk; kernel_rfl)) ImageCuts_laid (by kernel_rfl) (by kernel_rfl) (by kernel_rfl) rfl
    (fun ds hl => by match ds, hl with | [d1, d2, d3], _ => rfl)
    (fun _ hz => ⟨_, if_pos hz, rfl⟩) W base args ds gs before hval hW hw

theorem ImageCuts_holds : Rows.ImageCutsSaid :=
  OpenClaim.holds_of_wide 10 Try.f10 rfl rfl rfl rfl rfl rfl rfl ⟨rfl, rfl, rfl, rfl, rfl⟩ rfl rfl rfl rfl rfl (by kernel_rfl) Try.func10 (by kernel_rfl)
    (of_decide_eq_true (by kernel_rfl)) (by unfold Func.isWrapper; rw [if_neg (by decide +kernel)]; exact ⟨rfl, rfl⟩)
    (fun os started H enc _ => ImageCuts_lifted os started H enc)

end Go.Proofs.Ytibkgmpfncacpaa
