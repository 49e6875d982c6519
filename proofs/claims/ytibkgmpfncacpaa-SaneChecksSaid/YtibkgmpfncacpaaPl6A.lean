/- SaneChecks: the statement 'SaneChecks' of the seat, for every input that it tells of. -/
import Derived.Test.YtibkgmpfncacpaaRows
import Derived.Test.YtibkgmpfncacpaaPliEq5
import Derived.Test.YtibkgmpfncacpaaPliLaw06
namespace Go.Proofs.Ytibkgmpfncacpaa
open Go Go.PM Go.Pli Go.ChangeShapes Go.WideShapes Go.ChangeAt Go.RowKit

theorem SaneChecks_own : ownKnob Try.prog.godebug = none := by kernel_rfl
theorem SaneChecks_laid : laidOutB Try.prog = true := by kernel_rfl
theorem SaneChecks_fok : FOk Try.prog 3 saneChecksS := saneChecksC (fun z _ => saneChecks_law z.1)

set_option maxRecDepth 100000 in
theorem SaneChecks_lifted (os : Os) (started : os.Started) (H : Type) (enc : TypeId × Value → H) :
    ReturnsInHanded {} Try.checked os 3 .any (Rows.saneChecksSpec.pre6 enc Try.prog Try.f3 Rows.saneChecksRow.domain false) (Rows.saneChecksSpec.post enc Try.prog Try.f3 false true false false) := by
  refine returnsInHanded_of_change_sized (C := Try.checked) SaneChecks_own started (by kernel_rfl) Try.func3
    (ChangeSpec.witness6 (enc := enc) (C := Try.checked) false ⟨#[], #[.agg #[.slice none 0 0, .slice none 0 0, .slice none 0 0, .slice none 0 0, .slice none 0 0, .int .i64 0, .int .i64 0]], []⟩ 8 (by kernel_rfl) (by kernel_rfl) (by kernel_rfl) (by kernel_rfl)) ?_
  intro W base args ds gs before hval hW _ hw _
  exact said_calls (tb := 4) (Ts := saneChecksT) SaneChecks_fok (by refine ⟨?_, trivial⟩ <;> (unfold TyOk; kernel_rfl)) SaneChecks_laid (by kernel_rfl) (by kernel_rfl) (by kernel_rfl) rfl
    (fun ds hl => by match ds, hl with | [d1], _ => rfl)
    (fun _ hz => ⟨_, if_pos hz, rfl⟩) W base args ds gs before hval hW hw

theorem SaneChecks_holds : Rows.SaneChecksSaid :=
  OpenClaim.holds_of_wide 3 Try.f3 rfl rfl rfl rfl rfl rfl rfl ⟨rfl, rfl, rfl, rfl, rfl⟩ rfl rfl rfl rfl rfl (by kernel_rfl) Try.func3 (by kernel_rfl)
    (of_decide_eq_true (by kernel_rfl)) (by unfold Func.isWrapper; rw [if_neg (by decide +kernel)]; exact ⟨rfl, rfl⟩)
    (fun os started H enc _ => SaneChecks_lifted os started H enc)

end Go.Proofs.Ytibkgmpfncacpaa
