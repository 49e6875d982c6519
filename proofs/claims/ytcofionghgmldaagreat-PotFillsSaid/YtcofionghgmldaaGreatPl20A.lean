/- PotFills: the statement 'PotFills' of the seat, for every input that it tells of. -/
import Derived.Test.YtcofionghgmldaaGreatRows
import Derived.Test.YtcofionghgmldaaGreatPliEq20
import Derived.Test.YtcofionghgmldaaGreatPliLaw
namespace Go.Proofs.YtcofionghgmldaaGreat
open Go Go.PM Go.Pli Go.ChangeShapes Go.WideShapes Go.ChangeAt Go.RowKit
theorem PotFills_own:ownKnob Tryz.prog.godebug=none:=by kernel_rfl
theorem PotFills_laid:laidOutB Tryz.prog=true:=by kernel_rfl
theorem PotFills_fok:FOk Tryz.prog 6 potFillsS:=aOH (fun z hz=>aOG z.1 z.2.1 z.2.2.1 (aFd hz.2.1) (aFd hz.2.2.1))
set_option maxRecDepth 100000 in
theorem PotFills_lifted (os:Os) (started:os.Started) (H:Type) (enc:TypeId×Value→H):
  ReturnsInHanded {} Tryz.checked os 6 .any (Rows.potFillsSpec.pre6 enc Tryz.prog Tryz.f6 Rows.potFillsRow.domain false) (Rows.potFillsSpec.post enc Tryz.prog Tryz.f6 false true false false):=by
 refine returnsInHanded_of_change_sized (C:=Tryz.checked) PotFills_own started (by kernel_rfl) Tryz.func6
  (ChangeSpec.witness6 (enc:=enc) (C:=Tryz.checked) false ⟨#[],#[.agg #[.slice none 0 0,.slice none 0 0,.slice none 0 0,.slice none 0 0,.slice none 0 0,.int .i64 0,.int .i64 0],.int .u8 0,.int .u8 0],[]⟩ 8 (by kernel_rfl) (by kernel_rfl) (by kernel_rfl) (by kernel_rfl)) ?_
 intro W base args ds gs before hval hW _ hw _
 exact aMX (tb:=4) (Ts:=aBj) PotFills_fok (by refine⟨?_,?_,?_,trivial⟩ <;> (unfold TyOk;kernel_rfl)) PotFills_laid (by kernel_rfl) (by kernel_rfl) (by kernel_rfl) rfl
  (fun ds hl=>by match ds,hl with | [d1,d2,d3],_=>rfl)
  (fun _ hz=>⟨_,if_pos hz,rfl⟩) W base args ds gs before hval hW hw
theorem PotFills_holds:Rows.PotFillsSaid:=
 OpenClaim.holds_of_wide 6 Tryz.f6 rfl rfl rfl rfl rfl rfl rfl ⟨rfl,rfl,rfl,rfl,rfl⟩ rfl rfl rfl rfl rfl (by kernel_rfl) Tryz.func6 (by kernel_rfl)
  (qX (by kernel_rfl)) (by unfold Func.isWrapper;rw[if_neg (by decide+kernel)];exact⟨rfl,rfl⟩)
  (fun os started H enc _=>PotFills_lifted os started H enc)
end Go.Proofs.YtcofionghgmldaaGreat
