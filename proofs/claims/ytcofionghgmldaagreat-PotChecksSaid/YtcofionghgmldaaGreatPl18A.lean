/- PotChecks: the statement 'PotChecks' of the seat, for every input that it tells of. -/
import Derived.Test.YtcofionghgmldaaGreatRows
import Derived.Test.YtcofionghgmldaaGreatPliEq18
import Derived.Test.YtcofionghgmldaaGreatPliLaw
namespace Go.Proofs.YtcofionghgmldaaGreat
open Go Go.PM Go.Pli Go.ChangeShapes Go.WideShapes Go.ChangeAt Go.RowKit
theorem PotChecks_own:ownKnob Tryz.prog.godebug=none:=by kernel_rfl
theorem PotChecks_laid:laidOutB Tryz.prog=true:=by kernel_rfl
theorem PotChecks_fok:FOk Tryz.prog 3 potChecksS:=aNl (fun z _=>aNk z.1)
set_option maxRecDepth 100000 in
theorem PotChecks_lifted (os:Os) (started:os.Started) (H:Type) (enc:TypeId×Value→H):
  ReturnsInHanded {} Tryz.checked os 3 .any (Rows.potChecksSpec.pre6 enc Tryz.prog Tryz.f3 Rows.potChecksRow.domain false) (Rows.potChecksSpec.post enc Tryz.prog Tryz.f3 false true false false):=by
 refine returnsInHanded_of_change_sized (C:=Tryz.checked) PotChecks_own started (by kernel_rfl) Tryz.func3
  (ChangeSpec.witness6 (enc:=enc) (C:=Tryz.checked) false ⟨#[],#[.agg #[.slice none 0 0,.slice none 0 0,.slice none 0 0,.slice none 0 0,.slice none 0 0,.int .i64 0,.int .i64 0]],[]⟩ 8 (by kernel_rfl) (by kernel_rfl) (by kernel_rfl) (by kernel_rfl)) ?_
 intro W base args ds gs before hval hW _ hw _
 exact aLI (tb:=4) (Ts:=aAM) PotChecks_fok (by refine⟨?_,trivial⟩ <;> (unfold TyOk;kernel_rfl)) PotChecks_laid (by kernel_rfl) (by kernel_rfl) (by kernel_rfl) rfl
  (fun ds hl=>by match ds,hl with | [d1],_=>rfl)
  (fun _ hz=>⟨_,if_pos hz,rfl⟩) W base args ds gs before hval hW hw
theorem PotChecks_holds:Rows.PotChecksSaid:=
 OpenClaim.holds_of_wide 3 Tryz.f3 rfl rfl rfl rfl rfl rfl rfl ⟨rfl,rfl,rfl,rfl,rfl⟩ rfl rfl rfl rfl rfl (by kernel_rfl) Tryz.func3 (by kernel_rfl)
  (sF (by kernel_rfl)) (by unfold Func.isWrapper;rw[if_neg (by decide+kernel)];exact⟨rfl,rfl⟩)
  (fun os started H enc _=>PotChecks_lifted os started H enc)
end Go.Proofs.YtcofionghgmldaaGreat
