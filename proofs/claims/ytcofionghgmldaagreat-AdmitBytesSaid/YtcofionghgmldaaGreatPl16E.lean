/- AdmitBytes: the statement 'AdmitBytes' of the seat, for every input that it tells of. -/
import Derived.Test.YtcofionghgmldaaGreatRows
import Derived.Test.YtcofionghgmldaaGreatPliEq16
import Derived.Test.YtcofionghgmldaaGreatPliLaw16
namespace Go.Proofs.YtcofionghgmldaaGreat
open Go Go.PM Go.Pli Go.ChangeShapes Go.WideShapes Go.ChangeAt Go.RowKit
theorem AdmitBytes_own:ownKnob Tryz.prog.godebug=none:=by kernel_rfl
theorem AdmitBytes_laid:laidOutB Tryz.prog=true:=by kernel_rfl
theorem AdmitBytes_fok:FOk Tryz.prog 9 admitBytesS:=bAA (fun z hz=>bAz z.1 z.2.1 z.2.2.1 (aZ3 hz.1) (aV1 hz.2.1.2.2.1) (aPH hz.2.2.1))
set_option maxRecDepth 100000 in
theorem AdmitBytes_lifted (os:Os) (started:os.Started) (H:Type) (enc:TypeId×Value→H):
  ReturnsInHanded {} Tryz.checked os 9 .any (Rows.admitBytesSpec.pre6 enc Tryz.prog Tryz.f9 Rows.admitBytesRow.domain false) (Rows.admitBytesSpec.post enc Tryz.prog Tryz.f9 false true false false):=by
 refine returnsInHanded_of_change_sized (C:=Tryz.checked) AdmitBytes_own started (by kernel_rfl) Tryz.func9
  (ChangeSpec.witness6 (enc:=enc) (C:=Tryz.checked) false ⟨#[],#[.slice none 0 0,.agg #[.slice none 0 0,.slice none 0 0,.slice none 0 0,.slice none 0 0,.slice none 0 0,.int .i64 0,.int .i64 0],.int .u16 0],[]⟩ 8 (by kernel_rfl) (by kernel_rfl) (by kernel_rfl) (by kernel_rfl)) ?_
 intro W base args ds gs before hval hW _ hw _;exact aRN (tb:=4) (Ts:=aEW) AdmitBytes_fok (by refine⟨?_,?_,?_,trivial⟩ <;> (unfold TyOk;kernel_rfl)) AdmitBytes_laid (by kernel_rfl) (by kernel_rfl) (by kernel_rfl) rfl
  (fun ds hl=>by match ds,hl with | [d1,d2,d3],_=>rfl)
  (fun _ hz=>⟨_,if_pos hz,rfl⟩) W base args ds gs before hval hW hw
theorem AdmitBytes_holds:Rows.AdmitBytesSaid:=
 OpenClaim.holds_of_wide 9 Tryz.f9 rfl rfl rfl rfl rfl rfl rfl ⟨rfl,rfl,rfl,rfl,rfl⟩ rfl rfl rfl rfl rfl (by kernel_rfl) Tryz.func9 (by kernel_rfl)
  (zJ (by kernel_rfl)) (by unfold Func.isWrapper;rw[if_neg (by decide+kernel)];exact⟨rfl,rfl⟩)
  (fun os started H enc _=>AdmitBytes_lifted os started H enc)
end Go.Proofs.YtcofionghgmldaaGreat
