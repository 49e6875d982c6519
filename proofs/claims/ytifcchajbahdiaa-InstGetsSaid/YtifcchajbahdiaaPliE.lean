/- InstGets: the statement 'InstGets' of the seat, for every input that it tells of. -/
import Derived.Test.YtifcchajbahdiaaRows
import Derived.Test.YtifcchajbahdiaaPliEqBits
import Derived.Test.YtifcchajbahdiaaPliLaw04C
import Derived.Test.YtifcchajbahdiaaPliWf
namespace Go.Proofs.Ytifcchajbahdiaa
open Go Go.PM Go.Pli Go.ChangeShapes Go.WideShapes Go.ChangeAt Go.RowKit

theorem InstGets_own : ownKnob Try.prog.godebug = none := by kernel_rfl
theorem InstGets_laid : laidOutB Try.prog = true := by kernel_rfl
theorem InstGets_fok : FOk Try.prog 11 instGetsS := instGetsC (fun z hz => instGets_law z.1 (bytes_of_wf hz.1))

set_option maxRecDepth 100000 in
theorem InstGets_lifted (os : Os) (started : os.Started) (H : Type) (enc : TypeId × Value → H) :
    ReturnsInHanded {} Try.checked os 11 .any (Rows.instGetsSpec.pre6 enc Try.prog Try.f11 Rows.instGetsRow.domain false) (Rows.instGetsSpec.post enc Try.prog Try.f11 false true false false) := by
  refine returnsInHanded_of_change_sized (C := Try.checked) InstGets_own started (by kernel_rfl) Try.func11
    (ChangeSpec.witness6 (enc := enc) (C := Try.checked) false ⟨#[], #[.slice none 0 0], []⟩ 8 (by kernel_rfl) (by kernel_rfl) (by kernel_rfl) (by kernel_rfl)) ?_
  intro W base args ds gs before hval hW _ hw _
  exact said_calls (tb := 4) (Ts := instGetsT) InstGets_fok (by refine ⟨?_, trivial⟩ <;> (unfold TyOk; kernel_rfl)) InstGets_laid (by kernel_rfl) (by kernel_rfl) (by kernel_rfl) rfl
    (fun ds hl => by match ds, hl with | [d1], _ => rfl)
    (fun _ hz => ⟨_, if_pos hz, rfl⟩) W base args ds gs before hval hW hw

theorem InstGets_holds : Rows.InstGetsSaid :=
  OpenClaim.holds_of_wide 11 Try.f11 rfl rfl rfl rfl rfl rfl rfl ⟨rfl, rfl, rfl, rfl, rfl⟩ rfl rfl rfl rfl rfl (by kernel_rfl) Try.func11 (by kernel_rfl)
    (of_decide_eq_true (by kernel_rfl)) (by unfold Func.isWrapper; rw [if_neg (by decide +kernel)]; exact ⟨rfl, rfl⟩)
    (fun os started H enc _ => InstGets_lifted os started H enc)

end Go.Proofs.Ytifcchajbahdiaa
