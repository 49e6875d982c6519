/- AdmitChecks: the statement 'AdmitChecks' of the seat, for every input that it tells of. -/
import Derived.Test.YtcofionghgmldaaGreatRows
import Derived.Test.YtcofionghgmldaaGreatPliEq15
import Derived.Test.YtcofionghgmldaaGreatPliLaw16
namespace Go.Proofs.YtcofionghgmldaaGreat
open Go Go.PM Go.Pli Go.ChangeShapes Go.WideShapes Go.ChangeAt Go.RowKit
theorem AdmitChecks_own:ownKnob Tryz.prog.godebug=none:=by kernel_rfl
theorem AdmitChecks_laid:laidOutB Tryz.prog=true:=by kernel_rfl
theorem AdmitChecks_fok:FOk Tryz.prog 8 admitChecksS:=aIZ (fun z _=>aEG z.1)
set_option maxRecDepth 100000 in
theorem AdmitChecks_lifted (os:Os) (started:os.Started) (H:Type) (enc:TypeId×Value→H):
  ReturnsInHanded {} Tryz.checked os 8 .any (Rows.admitChecksSpec.pre6 enc Tryz.prog Tryz.f8 Rows.admitChecksRow.domain false) (Rows.admitChecksSpec.post enc Tryz.prog Tryz.f8 false true false false):=by
 refine returnsInHanded_of_change_sized (C:=Tryz.checked) AdmitChecks_own started (by kernel_rfl) Tryz.func8
  (ChangeSpec.witness6 (enc:=enc) (C:=Tryz.checked) false ⟨#[],#[.agg #[.slice none 0 0,.slice none 0 0,.slice none 0 0,.slice none 0 0,.slice none 0 0,.int .i64 0,.int .i64 0]],[]⟩ 8 (by kernel_rfl) (by kernel_rfl) (by kernel_rfl) (by kernel_rfl)) ?_
 intro W base args ds gs before hval hW _ hw _
 exact aM9 (tb:=4) (Ts:=pA) AdmitChecks_fok (by refine⟨?_,trivial⟩ <;> (unfold TyOk;kernel_rfl)) AdmitChecks_laid (by kernel_rfl) (by kernel_rfl) (by kernel_rfl) rfl
  (fun ds hl=>by match ds,hl with | [d1],_=>rfl)
  (fun _ hz=>⟨_,if_pos hz,rfl⟩) W base args ds gs before hval hW hw
theorem AdmitChecks_holds:Rows.AdmitChecksSaid:=
 OpenClaim.holds_of_wide 8 Tryz.f8 rfl rfl rfl rfl rfl rfl rfl ⟨rfl,rfl,rfl,rfl,rfl⟩ rfl rfl rfl rfl rfl (by kernel_rfl) Tryz.func8 (by kernel_rfl)
  (of_decide_eq_true (by kernel_rfl)) (by unfold Func.isWrapper;rw[if_neg (by decide+kernel)];exact⟨rfl,rfl⟩)
  (fun os started H enc _=>AdmitChecks_lifted os started H enc)
end Go.Proofs.YtcofionghgmldaaGreat
