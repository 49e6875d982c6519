/- BitsPuts. -/
import Derived.Test.YtifcchajbahdiaaRows
import Derived.Test.YtifcchajbahdiaaPliEqBits
import Derived.Test.YtifcchajbahdiaaPliLaw02
import Derived.Test.YtifcchajbahdiaaPMSaid
namespace Go.Proofs.Ytifcchajbahdiaa
open Go Go.PM Go.Pli Go.ChangeShapes Go.WideShapes Go.ChangeAt Go.RowKit

theorem Try.own : ownKnob Try.prog.godebug = none := by kernel_rfl
theorem Try.laidOut : laidOutB Try.prog = true := by kernel_rfl

set_option maxRecDepth 100000 in
theorem bitsPuts_lifted (os : Os) (started : os.Started) (H : Type) (enc : TypeId × Value → H) :
    ReturnsInHanded {} Try.checked os 3 .any (Rows.bitsPutsSpec.pre6 enc Try.prog Try.f3 Rows.bitsPutsRow.domain false) (Rows.bitsPutsSpec.post enc Try.prog Try.f3 false true false false) := by
  refine returnsInHanded_of_change_sized (C := Try.checked) Try.own started (by kernel_rfl) Try.func3
    (ChangeSpec.witness6 (enc := enc) (C := Try.checked) false ⟨#[], #[.slice none 0 0, .int .i64 0, .int .i32 0], []⟩ 8 (by kernel_rfl) (by kernel_rfl) (by kernel_rfl) (by kernel_rfl)) ?_
  intro W base args ds gs before hval hW _ hw _
  exact said_calls (tb := 4) (Ts := [.sl 5 (.int .u8), .int .i64, .int .i32]) bitsPutsO (by refine ⟨?_, ?_, ?_, trivial⟩ <;> (unfold TyOk; kernel_rfl)) Try.laidOut (by kernel_rfl) (by kernel_rfl) (by kernel_rfl) rfl
    (fun ds hl => by match ds, hl with | [d1, d2, d3], _ => rfl)
    (fun z hz => ⟨_, bitsPuts_law z.1 z.2.1 z.2.2.1 hz.2.2.1.1 hz.2.2.1.2, rfl⟩) W base args ds gs before hval hW hw

theorem BitsPuts_holds : Rows.BitsPutsSaid :=
  OpenClaim.holds_of_wide 3 Try.f3 rfl rfl rfl rfl rfl rfl rfl ⟨rfl, rfl, rfl, rfl, rfl⟩ rfl rfl rfl rfl rfl (by kernel_rfl) Try.func3 (by kernel_rfl)
    (of_decide_eq_true (by kernel_rfl)) (by unfold Func.isWrapper; rw [if_neg (by decide +kernel)]; exact ⟨rfl, rfl⟩)
    (fun os started H enc _ => bitsPuts_lifted os started H enc)

end Go.Proofs.Ytifcchajbahdiaa
