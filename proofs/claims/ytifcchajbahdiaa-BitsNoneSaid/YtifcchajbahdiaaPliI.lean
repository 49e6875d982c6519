/- BitsNone: the statement 'BitsNone' of the seat, for every input that it tells of. -/
import Derived.Test.YtifcchajbahdiaaRows
import Derived.Test.YtifcchajbahdiaaPliEqBits
import Derived.Test.YtifcchajbahdiaaPliLaw02E
namespace Go.Proofs.Ytifcchajbahdiaa
open Go Go.PM Go.Pli Go.ChangeShapes Go.WideShapes Go.ChangeAt Go.RowKit

theorem BitsNone_own : ownKnob Try.prog.godebug = none := by kernel_rfl
theorem BitsNone_laid : laidOutB Try.prog = true := by kernel_rfl
theorem BitsNone_fok : FOk Try.prog 6 bitsNoneS := bitsNoneC (fun z _ => bitsNone_law z.1)

set_option maxRecDepth 100000 in
theorem BitsNone_lifted (os : Os) (started : os.Started) (H : Type) (enc : TypeId × Value → H) :
    ReturnsInHanded {} Try.checked os 6 .any (Rows.bitsNoneSpec.pre6 enc Try.prog Try.f6 Rows.bitsNoneRow.domain false) (Rows.bitsNoneSpec.post enc Try.prog Try.f6 false true false false) := by
  refine returnsInHanded_of_change_sized (C := Try.checked) BitsNone_own started (by kernel_rfl) Try.func6
    (ChangeSpec.witness6 (enc := enc) (C := Try.checked) false ⟨#[], #[.int .i64 0], []⟩ 8 (by kernel_rfl) (by kernel_rfl) (by kernel_rfl) (by kernel_rfl)) ?_
  intro W base args ds gs before hval hW _ hw _
  exact said_calls (tb := 4) (Ts := bitsNoneT) BitsNone_fok (by refine ⟨?_, trivial⟩ <;> (unfold TyOk; kernel_rfl)) BitsNone_laid (by kernel_rfl) (by kernel_rfl) (by kernel_rfl) rfl
    (fun ds hl => by match ds, hl with | [d1], _ => rfl)
    (fun _ hz => ⟨_, if_pos hz, rfl⟩) W base args ds gs before hval hW hw

theorem BitsNone_holds : Rows.BitsNoneSaid :=
  OpenClaim.holds_of_wide 6 Try.f6 rfl rfl rfl rfl rfl rfl rfl ⟨rfl, rfl, rfl, rfl, rfl⟩ rfl rfl rfl rfl rfl (by kernel_rfl) Try.func6 (by kernel_rfl)
    (of_decide_eq_true (by kernel_rfl)) (by unfold Func.isWrapper; rw [if_neg (by decide +kernel)]; exact ⟨rfl, rfl⟩)
    (fun os started H enc _ => BitsNone_lifted os started H enc)

end Go.Proofs.Ytifcchajbahdiaa
