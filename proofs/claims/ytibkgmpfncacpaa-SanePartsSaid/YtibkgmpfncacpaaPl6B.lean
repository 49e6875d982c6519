/- SaneParts: the statement 'SaneParts' of the seat, for every input that it tells of. -/
import Derived.Test.YtibkgmpfncacpaaRows
import Derived.Test.YtibkgmpfncacpaaPliEq5
import Derived.Test.YtibkgmpfncacpaaPliLaw06
namespace Go.Proofs.Ytibkgmpfncacpaa
open Go Go.PM Go.Pli Go.ChangeShapes Go.WideShapes Go.ChangeAt Go.RowKit

theorem SaneParts_own : ownKnob Try.prog.godebug = none := by kernel_rfl
theorem SaneParts_laid : laidOutB Try.prog = true := by kernel_rfl
theorem SaneParts_fok : FOk Try.prog 5 sanePartsS := sanePartsC (fun z _ => saneParts_law z.1 z.2.1)

set_option maxRecDepth 100000 in
theorem SaneParts_lifted (os : Os) (started : os.Started) (H : Type) (enc : TypeId × Value → H) :
    ReturnsInHanded {} Try.checked os 5 .any (Rows.sanePartsSpec.pre6 enc Try.prog Try.f5 Rows.sanePartsRow.domain false) (Rows.sanePartsSpec.post enc Try.prog Try.f5 false true false false) := by
  refine returnsInHanded_of_change_sized (C := Try.checked) SaneParts_own started (by kernel_rfl) Try.func5
    (ChangeSpec.witness6 (enc := enc) (C := Try.checked) false ⟨#[], #[.agg #[.slice none 0 0, .slice none 0 0, .slice none 0 0, .slice none 0 0, .slice none 0 0, .int .i64 0, .int .i64 0], .int .i32 0], []⟩ 8 (by kernel_rfl) (by kernel_rfl) (by kernel_rfl) (by kernel_rfl)) ?_
  intro W base args ds gs before hval hW _ hw _
  exact said_calls (tb := 4) (Ts := sanePartsT) SaneParts_fok (by refine ⟨?_, ?_, trivial⟩ <;> (unfold TyOk; kernel_rfl)) SaneParts_laid (by kernel_rfl) (by kernel_rfl) (by kernel_rfl) rfl
    (fun ds hl => by match ds, hl with | [d1, d2], _ => rfl)
    (fun _ hz => ⟨_, if_pos hz, rfl⟩) W base args ds gs before hval hW hw

theorem SaneParts_holds : Rows.SanePartsSaid :=
  OpenClaim.holds_of_wide 5 Try.f5 rfl rfl rfl rfl rfl rfl rfl ⟨rfl, rfl, rfl, rfl, rfl⟩ rfl rfl rfl rfl rfl (by kernel_rfl) Try.func5 (by kernel_rfl)
    (of_decide_eq_true (by kernel_rfl)) (by unfold Func.isWrapper; rw [if_neg (by decide +kernel)]; exact ⟨rfl, rfl⟩)
    (fun os started H enc _ => SaneParts_lifted os started H enc)

end Go.Proofs.Ytibkgmpfncacpaa
