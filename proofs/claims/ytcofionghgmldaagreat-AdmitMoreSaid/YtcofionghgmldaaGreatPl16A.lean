/- AdmitMore: the statement 'AdmitMore' of the seat, for every input that it tells of. -/
import Derived.Test.YtcofionghgmldaaGreatRows
import Derived.Test.YtcofionghgmldaaGreatPliEq13
import Derived.Test.YtcofionghgmldaaGreatPliLaw16D
namespace Go.Proofs.YtcofionghgmldaaGreat
open Go Go.PM Go.Pli Go.ChangeShapes Go.WideShapes Go.ChangeAt Go.RowKit
theorem AdmitMore_own : ownKnob Tryz.prog.godebug = none := by kernel_rfl
theorem AdmitMore_laid : laidOutB Tryz.prog = true := by kernel_rfl
theorem AdmitMore_fok : FOk Tryz.prog 11 admitMoreS := admitMoreC (fun z hz => admitMore_law z.1 z.2.1 z.2.2.1 (u8_of_wf hz.2.1) (u8_of_wf hz.2.2.1))
set_option maxRecDepth 100000 in
theorem AdmitMore_lifted (os : Os) (started : os.Started) (H : Type) (enc : TypeId × Value → H) :
    ReturnsInHanded {} Tryz.checked os 11 .any (Rows.admitMoreSpec.pre6 enc Tryz.prog Tryz.f11 Rows.admitMoreRow.domain false) (Rows.admitMoreSpec.post enc Tryz.prog Tryz.f11 false true false false) := by
  refine returnsInHanded_of_change_sized (C := Tryz.checked) AdmitMore_own started (by kernel_rfl) Tryz.func11
    (ChangeSpec.witness6 (enc := enc) (C := Tryz.checked) false ⟨#[], #[.agg #[.slice none 0 0, .slice none 0 0, .slice none 0 0, .slice none 0 0, .slice none 0 0, .int .i64 0, .int .i64 0], .int .u8 0, .int .u8 0], []⟩ 8 (by kernel_rfl) (by kernel_rfl) (by kernel_rfl) (by kernel_rfl)) ?_
  intro W base args ds gs before hval hW _ hw _
  exact said_calls (tb := 4) (Ts := admitMoreT) AdmitMore_fok (by refine ⟨?_, ?_, ?_, trivial⟩ <;> (unfold TyOk; kernel_rfl)) AdmitMore_laid (by kernel_rfl) (by kernel_rfl) (by kernel_rfl) rfl
    (fun ds hl => by match ds, hl with | [d1, d2, d3], _ => rfl)
    (fun _ hz => ⟨_, if_pos hz, rfl⟩) W base args ds gs before hval hW hw
theorem AdmitMore_holds : Rows.AdmitMoreSaid :=
  OpenClaim.holds_of_wide 11 Tryz.f11 rfl rfl rfl rfl rfl rfl rfl ⟨rfl, rfl, rfl, rfl, rfl⟩ rfl rfl rfl rfl rfl (by kernel_rfl) Tryz.func11 (by kernel_rfl)
    (of_decide_eq_true (by kernel_rfl)) (by unfold Func.isWrapper; rw [if_neg (by decide +kernel)]; exact ⟨rfl, rfl⟩)
    (fun os started H enc _ => AdmitMore_lifted os started H enc)
end Go.Proofs.YtcofionghgmldaaGreat
