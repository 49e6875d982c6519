/- ImageTurned: the statement 'ImageTurned' of the seat, for every input that it tells of. -/
import Derived.Test.YtibkgmpfncacpaaRows
import Derived.Test.YtibkgmpfncacpaaPliEq5O
import Derived.Test.YtibkgmpfncacpaaPliLaw05T
namespace Go.Proofs.Ytibkgmpfncacpaa
open Go Go.PM Go.Pli Go.ChangeShapes Go.WideShapes Go.ChangeAt Go.RowKit

theorem ImageTurned_own : ownKnob Try.prog.godebug = none := by kernel_rfl
theorem ImageTurned_laid : laidOutB Try.prog = true := by kernel_rfl
theorem ImageTurned_fok : FOk Try.prog 9 imageTurnedS := imageTurnedC (fun z hz => imageTurned_law z.1 z.2.1 z.2.2.1 (ints32_of_wf hz.1.2.2.1) (u16_of_wf hz.2.1) (u8_of_wf hz.2.2.1))

set_option maxRecDepth 100000 in
theorem ImageTurned_lifted (os : Os) (started : os.Started) (H : Type) (enc : TypeId × Value → H) :
    ReturnsInHanded {} Try.checked os 9 .any (Rows.imageTurnedSpec.pre6 enc Try.prog Try.f9 Rows.imageTurnedRow.domain false) (Rows.imageTurnedSpec.post enc Try.prog Try.f9 false true false false) := by
  refine returnsInHanded_of_change_sized (C := Try.checked) ImageTurned_own started (by kernel_rfl) Try.func9
    (ChangeSpec.witness6 (enc := enc) (C := Try.checked) false ⟨#[], #[.agg #[.slice none 0 0, .slice none 0 0, .slice none 0 0, .slice none 0 0, .slice none 0 0, .int .i64 0, .int .i64 0], .int .u16 0, .int .u8 0], []⟩ 8 (by kernel_rfl) (by kernel_rfl) (by kernel_rfl) (by kernel_rfl)) ?_
  intro W base args ds gs before hval hW _ hw _
  exact said_calls (tb := 4) (Ts := imageTurnedT) ImageTurned_fok (by refine ⟨?_, ?_, ?_, trivial⟩ <;> (unfold TyOk; kernel_rfl)) ImageTurned_laid (by kernel_rfl) (by kernel_rfl) (by kernel_rfl) rfl
    (fun ds hl => by match ds, hl with | [d1, d2, d3], _ => rfl)
    (fun _ hz => ⟨_, if_pos hz, rfl⟩) W base args ds gs before hval hW hw

theorem ImageTurned_holds : Rows.ImageTurnedSaid :=
  OpenClaim.holds_of_wide 9 Try.f9 rfl rfl rfl rfl rfl rfl rfl ⟨rfl, rfl, rfl, rfl, rfl⟩ rfl rfl rfl rfl rfl (by kernel_rfl) Try.func9 (by kernel_rfl)
    (of_decide_eq_true (by kernel_rfl)) (by unfold Func.isWrapper; rw [if_neg (by decide +kernel)]; exact ⟨rfl, rfl⟩)
    (fun os started H enc _ => ImageTurned_lifted os started H enc)

end Go.Proofs.Ytibkgmpfncacpaa
