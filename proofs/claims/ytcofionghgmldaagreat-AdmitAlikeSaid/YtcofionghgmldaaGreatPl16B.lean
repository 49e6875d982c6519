/- AdmitAlike: the statement 'AdmitAlike' of the seat, for every input that it tells of. -/
import Derived.Test.YtcofionghgmldaaGreatRows
import Derived.Test.YtcofionghgmldaaGreatPliEq13
import Derived.Test.YtcofionghgmldaaGreatPliLaw16D
namespace Go.Proofs.YtcofionghgmldaaGreat
open Go Go.PM Go.Pli Go.ChangeShapes Go.WideShapes Go.ChangeAt Go.RowKit
theorem AdmitAlike_own : ownKnob Tryz.prog.godebug = none := by kernel_rfl
theorem AdmitAlike_laid : laidOutB Tryz.prog = true := by kernel_rfl
theorem AdmitAlike_fok : FOk Tryz.prog 12 admitAlikeS := admitAlikeC (fun z hz => admitAlike_law z.1 (ints32_of_wf hz.1.2.2.1))
set_option maxRecDepth 100000 in
theorem AdmitAlike_lifted (os : Os) (started : os.Started) (H : Type) (enc : TypeId × Value → H) :
  ReturnsInHanded {} Tryz.checked os 12 .any (Rows.admitAlikeSpec.pre6 enc Tryz.prog Tryz.f12 Rows.admitAlikeRow.domain false) (Rows.admitAlikeSpec.post enc Tryz.prog Tryz.f12 false true false false) := by
 refine returnsInHanded_of_change_sized (C := Tryz.checked) AdmitAlike_own started (by kernel_rfl) Tryz.func12
  (ChangeSpec.witness6 (enc := enc) (C := Tryz.checked) false ⟨#[], #[.agg #[.slice none 0 0, .slice none 0 0, .slice none 0 0, .slice none 0 0, .slice none 0 0, .int .i64 0, .int .i64 0]], []⟩ 8 (by kernel_rfl) (by kernel_rfl) (by kernel_rfl) (by kernel_rfl)) ?_
 intro W base args ds gs before hval hW _ hw _
 exact said_calls (tb := 4) (Ts := admitAlikeT) AdmitAlike_fok (by refine ⟨?_, trivial⟩ <;> (unfold TyOk; kernel_rfl)) AdmitAlike_laid (by kernel_rfl) (by kernel_rfl) (by kernel_rfl) rfl
  (fun ds hl => by match ds, hl with | [d1], _ => rfl)
  (fun _ hz => ⟨_, if_pos hz, rfl⟩) W base args ds gs before hval hW hw
theorem AdmitAlike_holds : Rows.AdmitAlikeSaid :=
 OpenClaim.holds_of_wide 12 Tryz.f12 rfl rfl rfl rfl rfl rfl rfl ⟨rfl, rfl, rfl, rfl, rfl⟩ rfl rfl rfl rfl rfl (by kernel_rfl) Tryz.func12 (by kernel_rfl)
  (of_decide_eq_true (by kernel_rfl)) (by unfold Func.isWrapper; rw [if_neg (by decide +kernel)]; exact ⟨rfl, rfl⟩)
  (fun os started H enc _ => AdmitAlike_lifted os started H enc)
end Go.Proofs.YtcofionghgmldaaGreat
