/- AdmitQuotas: the statement 'AdmitQuotas' of the seat, for every input that it tells of. -/
import Derived.Test.YtcofionghgmldaaGreatRows
import Derived.Test.YtcofionghgmldaaGreatPliEq15
import Derived.Test.YtcofionghgmldaaGreatPliLaw16
namespace Go.Proofs.YtcofionghgmldaaGreat
open Go Go.PM Go.Pli Go.ChangeShapes Go.WideShapes Go.ChangeAt Go.RowKit
theorem AdmitQuotas_own:ownKnob Tryz.prog.godebug=none:=by kernel_rfl
theorem AdmitQuotas_laid:laidOutB Tryz.prog=true:=by kernel_rfl
theorem AdmitQuotas_fok:FOk Tryz.prog 10 admitQuotasS:=aIr (fun z _=>aEz z.1)
set_option maxRecDepth 100000 in
theorem AdmitQuotas_lifted (os:Os) (started:os.Started) (H:Type) (enc:TypeId×Value→H):
  ReturnsInHanded {} Tryz.checked os 10 .any (Rows.admitQuotasSpec.pre6 enc Tryz.prog Tryz.f10 Rows.admitQuotasRow.domain false) (Rows.admitQuotasSpec.post enc Tryz.prog Tryz.f10 false true false false):=by
 refine returnsInHanded_of_change_sized (C:=Tryz.checked) AdmitQuotas_own started (by kernel_rfl) Tryz.func10
  (ChangeSpec.witness6 (enc:=enc) (C:=Tryz.checked) false ⟨#[],#[.agg #[.slice none 0 0,.slice none 0 0,.slice none 0 0,.slice none 0 0,.slice none 0 0,.int .i64 0,.int .i64 0]],[]⟩ 8 (by kernel_rfl) (by kernel_rfl) (by kernel_rfl) (by kernel_rfl)) ?_
 intro W base args ds gs before hval hW _ hw _
 exact aNq (tb:=4) (Ts:=oU) AdmitQuotas_fok (by refine⟨?_,trivial⟩ <;> (unfold TyOk;kernel_rfl)) AdmitQuotas_laid (by kernel_rfl) (by kernel_rfl) (by kernel_rfl) rfl
  (fun ds hl=>by match ds,hl with | [d1],_=>rfl)
  (fun _ hz=>⟨_,if_pos hz,rfl⟩) W base args ds gs before hval hW hw
theorem AdmitQuotas_holds:Rows.AdmitQuotasSaid:=
 OpenClaim.holds_of_wide 10 Tryz.f10 rfl rfl rfl rfl rfl rfl rfl ⟨rfl,rfl,rfl,rfl,rfl⟩ rfl rfl rfl rfl rfl (by kernel_rfl) Tryz.func10 (by kernel_rfl)
  (of_decide_eq_true (by kernel_rfl)) (by unfold Func.isWrapper;rw[if_neg (by decide+kernel)];exact⟨rfl,rfl⟩)
  (fun os started H enc _=>AdmitQuotas_lifted os started H enc)
end Go.Proofs.YtcofionghgmldaaGreat
