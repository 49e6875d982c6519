/- InstRow: the statement 'InstRow' of the seat, for every input that it tells of. -/
import Derived.Test.YtifcchajbahdiaaRows
import Derived.Test.YtifcchajbahdiaaPliEqBits
import Derived.Test.YtifcchajbahdiaaPliLaw04C
namespace Go.Proofs.Ytifcchajbahdiaa
open Go Go.PM Go.Pli Go.ChangeShapes Go.WideShapes Go.ChangeAt Go.RowKit

theorem InstRow_own : ownKnob Try.prog.godebug = none := by kernel_rfl
theorem InstRow_laid : laidOutB Try.prog = true := by kernel_rfl
theorem InstRow_fok : FOk Try.prog 10 instRowS := instRowC (fun z _ => instRow_law z.1)

set_option maxRecDepth 100000 in
theorem InstRow_lifted (os : Os) (started : os.Started) (H : Type) (enc : TypeId × Value → H) :
    ReturnsInHanded {} Try.checked os 10 .any (Rows.instRowSpec.pre6 enc Try.prog Try.f10 Rows.instRowRow.domain false) (Rows.instRowSpec.post enc Try.prog Try.f10 false true false false) := by
  refine returnsInHanded_of_change_sized (C := Try.checked) InstRow_own started (by kernel_rfl) Try.func10
    (ChangeSpec.witness6 (enc := enc) (C := Try.checked) false ⟨#[], #[.slice none 0 0], []⟩ 8 (by kernel_rfl) (by kernel_rfl) (by kernel_rfl) (by kernel_rfl)) ?_
  intro W base args ds gs before hval hW _ hw _
  exact said_calls (tb := 4) (Ts := instRowT) InstRow_fok (by refine ⟨?_, trivial⟩ <;> (unfold TyOk; kernel_rfl)) InstRow_laid (by kernel_rfl) (by kernel_rfl) (by kernel_rfl) rfl
    (fun ds hl => by match ds, hl with | [d1], _ => rfl)
    (fun _ hz => ⟨_, if_pos hz, rfl⟩) W base args ds gs before hval hW hw

theorem InstRow_holds : Rows.InstRowSaid :=
  OpenClaim.holds_of_wide 10 Try.f10 rfl rfl rfl rfl rfl rfl rfl ⟨rfl, rfl, rfl, rfl, rfl⟩ rfl rfl rfl rfl rfl (by kernel_rfl) Try.func10 (by kernel_rfl)
    (of_decide_eq_true (by kernel_rfl)) (by unfold Func.isWrapper; rw [if_neg (by decide +kernel)]; exact ⟨rfl, rfl⟩)
    (fun os started H enc _ => InstRow_lifted os started H enc)

end Go.Proofs.Ytifcchajbahdiaa
