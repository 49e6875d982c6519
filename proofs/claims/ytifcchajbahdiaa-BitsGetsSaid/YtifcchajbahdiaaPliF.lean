/- BitsGets: the statement 'BitsGets' of the seat, for every input that it tells of. -/
import Derived.Test.YtifcchajbahdiaaRows
import Derived.Test.YtifcchajbahdiaaPliEqBits
import Derived.Test.YtifcchajbahdiaaPliWf
namespace Go.Proofs.Ytifcchajbahdiaa
open Go Go.PM Go.Pli Go.ChangeShapes Go.WideShapes Go.ChangeAt Go.RowKit

theorem BitsGets_own : ownKnob Try.prog.godebug = none := by kernel_rfl
theorem BitsGets_laid : laidOutB Try.prog = true := by kernel_rfl
theorem BitsGets_fok : FOk Try.prog 4 bitsGetsS := bitsGetsC (fun z hz => bitsGets_law z.1 z.2.1 (bytes_of_wf hz.1) (u16s_of_wf hz.2.1))

set_option maxRecDepth 100000 in
theorem BitsGets_lifted (os : Os) (started : os.Started) (H : Type) (enc : TypeId × Value → H) :
    ReturnsInHanded {} Try.checked os 4 .any (Rows.bitsGetsSpec.pre6 enc Try.prog Try.f4 Rows.bitsGetsRow.domain false) (Rows.bitsGetsSpec.post enc Try.prog Try.f4 false true false false) := by
  refine returnsInHanded_of_change_sized (C := Try.checked) BitsGets_own started (by kernel_rfl) Try.func4
    (ChangeSpec.witness6 (enc := enc) (C := Try.checked) false ⟨#[], #[.slice none 0 0, .slice none 0 0], []⟩ 8 (by kernel_rfl) (by kernel_rfl) (by kernel_rfl) (by kernel_rfl)) ?_
  intro W base args ds gs before hval hW _ hw _
  exact said_calls (tb := 4) (Ts := bitsGetsT) BitsGets_fok (by refine ⟨?_, ?_, trivial⟩ <;> (unfold TyOk; kernel_rfl)) BitsGets_laid (by kernel_rfl) (by kernel_rfl) (by kernel_rfl) rfl
    (fun ds hl => by match ds, hl with | [d1, d2], _ => rfl)
    (fun _ hz => ⟨_, if_pos hz, rfl⟩) W base args ds gs before hval hW hw

theorem BitsGets_holds : Rows.BitsGetsSaid :=
  OpenClaim.holds_of_wide 4 Try.f4 rfl rfl rfl rfl rfl rfl rfl ⟨rfl, rfl, rfl, rfl, rfl⟩ rfl rfl rfl rfl rfl (by kernel_rfl) Try.func4 (by kernel_rfl)
    (of_decide_eq_true (by kernel_rfl)) (by unfold Func.isWrapper; rw [if_neg (by decide +kernel)]; exact ⟨rfl, rfl⟩)
    (fun os started H enc _ => BitsGets_lifted os started H enc)

end Go.Proofs.Ytifcchajbahdiaa
