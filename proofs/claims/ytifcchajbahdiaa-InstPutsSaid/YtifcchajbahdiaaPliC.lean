/- InstPuts: the statement 'InstPuts' of the seat, for every input that it tells of. -/
import Derived.Test.YtifcchajbahdiaaRows
import Derived.Test.YtifcchajbahdiaaPliEqBits
import Derived.Test.YtifcchajbahdiaaPliLaw04
namespace Go.Proofs.Ytifcchajbahdiaa
open Go Go.PM Go.Pli Go.ChangeShapes Go.WideShapes Go.ChangeAt Go.RowKit

theorem InstPuts_own : ownKnob Try.prog.godebug = none := by kernel_rfl
theorem InstPuts_laid : laidOutB Try.prog = true := by kernel_rfl
theorem InstPuts_fok : FOk Try.prog 9 instPutsS := instPutsC (fun z _ => instPuts_law z.1 z.2.1)

set_option maxRecDepth 100000 in
theorem InstPuts_lifted (os : Os) (started : os.Started) (H : Type) (enc : TypeId × Value → H) :
    ReturnsInHanded {} Try.checked os 9 .any (Rows.instPutsSpec.pre6 enc Try.prog Try.f9 Rows.instPutsRow.domain false) (Rows.instPutsSpec.post enc Try.prog Try.f9 false true false false) := by
  refine returnsInHanded_of_change_sized (C := Try.checked) InstPuts_own started (by kernel_rfl) Try.func9
    (ChangeSpec.witness6 (enc := enc) (C := Try.checked) false ⟨#[], #[.slice none 0 0, .agg #[.int .i64 0, .int .i64 0, .int .i64 0]], []⟩ 8 (by kernel_rfl) (by kernel_rfl) (by kernel_rfl) (by kernel_rfl)) ?_
  intro W base args ds gs before hval hW _ hw _
  exact said_calls (tb := 4) (Ts := instPutsT) InstPuts_fok (by refine ⟨?_, ?_, trivial⟩ <;> (unfold TyOk; kernel_rfl)) InstPuts_laid (by kernel_rfl) (by kernel_rfl) (by kernel_rfl) rfl
    (fun ds hl => by match ds, hl with | [d1, d2], _ => rfl)
    (fun _ hz => ⟨_, if_pos hz, rfl⟩) W base args ds gs before hval hW hw

theorem InstPuts_holds : Rows.InstPutsSaid :=
  OpenClaim.holds_of_wide 9 Try.f9 rfl rfl rfl rfl rfl rfl rfl ⟨rfl, rfl, rfl, rfl, rfl⟩ rfl rfl rfl rfl rfl (by kernel_rfl) Try.func9 (by kernel_rfl)
    (of_decide_eq_true (by kernel_rfl)) (by unfold Func.isWrapper; rw [if_neg (by decide +kernel)]; exact ⟨rfl, rfl⟩)
    (fun os started H enc _ => InstPuts_lifted os started H enc)

end Go.Proofs.Ytifcchajbahdiaa
