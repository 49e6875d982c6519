/- BitsShort: the statement 'BitsShort' of the seat, for every input that it tells of. -/
import Derived.Test.YtifcchajbahdiaaRows
import Derived.Test.YtifcchajbahdiaaPliEqBits
import Derived.Test.YtifcchajbahdiaaPliWf
namespace Go.Proofs.Ytifcchajbahdiaa
open Go Go.PM Go.Pli Go.ChangeShapes Go.WideShapes Go.ChangeAt Go.RowKit

theorem BitsShort_own : ownKnob Try.prog.godebug = none := by kernel_rfl
theorem BitsShort_laid : laidOutB Try.prog = true := by kernel_rfl
theorem BitsShort_fok : FOk Try.prog 7 bitsShortS := bitsShortC (fun z hz => bitsShort_law z.1 z.2.1 (u32_of_wf hz.1) (u32_of_wf hz.2.1))

set_option maxRecDepth 100000 in
theorem BitsShort_lifted (os : Os) (started : os.Started) (H : Type) (enc : TypeId × Value → H) :
    ReturnsInHanded {} Try.checked os 7 .any (Rows.bitsShortSpec.pre6 enc Try.prog Try.f7 Rows.bitsShortRow.domain false) (Rows.bitsShortSpec.post enc Try.prog Try.f7 false true false false) := by
  refine returnsInHanded_of_change_sized (C := Try.checked) BitsShort_own started (by kernel_rfl) Try.func7
    (ChangeSpec.witness6 (enc := enc) (C := Try.checked) false ⟨#[], #[.int .u32 0, .int .u32 0], []⟩ 8 (by kernel_rfl) (by kernel_rfl) (by kernel_rfl) (by kernel_rfl)) ?_
  intro W base args ds gs before hval hW _ hw _
  exact said_calls (tb := 4) (Ts := bitsShortT) BitsShort_fok (by refine ⟨?_, ?_, trivial⟩ <;> (unfold TyOk; kernel_rfl)) BitsShort_laid (by kernel_rfl) (by kernel_rfl) (by kernel_rfl) rfl
    (fun ds hl => by match ds, hl with | [d1, d2], _ => rfl)
    (fun _ hz => ⟨_, if_pos hz, rfl⟩) W base args ds gs before hval hW hw

theorem BitsShort_holds : Rows.BitsShortSaid :=
  OpenClaim.holds_of_wide 7 Try.f7 rfl rfl rfl rfl rfl rfl rfl ⟨rfl, rfl, rfl, rfl, rfl⟩ rfl rfl rfl rfl rfl (by kernel_rfl) Try.func7 (by kernel_rfl)
    (of_decide_eq_true (by kernel_rfl)) (by unfold Func.isWrapper; rw [if_neg (by decide +kernel)]; exact ⟨rfl, rfl⟩)
    (fun os started H enc _ => BitsShort_lifted os started H enc)

end Go.Proofs.Ytifcchajbahdiaa
