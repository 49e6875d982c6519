/- PotCosts: the statement 'PotCosts' of the seat, for every input that it tells of. -/
import Derived.Test.YtcofionghgmldaaGreatRows
import Derived.Test.YtcofionghgmldaaGreatPliEq18
import Derived.Test.YtcofionghgmldaaGreatPliLaw
namespace Go.Proofs.YtcofionghgmldaaGreat
open Go Go.PM Go.Pli Go.ChangeShapes Go.WideShapes Go.ChangeAt Go.RowKit
theorem PotCosts_own:ownKnob Tryz.prog.godebug=none:=by kernel_rfl
theorem PotCosts_laid:laidOutB Tryz.prog=true:=by kernel_rfl
theorem PotCosts_fok:FOk Tryz.prog 4 potCostsS:=aMR (fun z _=>aMQ z.1)
set_option maxRecDepth 100000 in
theorem PotCosts_lifted (os:Os) (started:os.Started) (H:Type) (enc:TypeId×Value→H):
  ReturnsInHanded {} Tryz.checked os 4 .any (Rows.potCostsSpec.pre6 enc Tryz.prog Tryz.f4 Rows.potCostsRow.domain false) (Rows.potCostsSpec.post enc Tryz.prog Tryz.f4 false true false false):=by
 refine returnsInHanded_of_change_sized (C:=Tryz.checked) PotCosts_own started (by kernel_rfl) Tryz.func4
  (ChangeSpec.witness6 (enc:=enc) (C:=Tryz.checked) false ⟨#[],#[.agg #[.slice none 0 0,.slice none 0 0,.slice none 0 0,.slice none 0 0,.slice none 0 0,.int .i64 0,.int .i64 0]],[]⟩ 8 (by kernel_rfl) (by kernel_rfl) (by kernel_rfl) (by kernel_rfl)) ?_
 intro W base args ds gs before hval hW _ hw _
 exact aLi (tb:=4) (Ts:=aAs) PotCosts_fok (by refine⟨?_,trivial⟩ <;> (unfold TyOk;kernel_rfl)) PotCosts_laid (by kernel_rfl) (by kernel_rfl) (by kernel_rfl) rfl
  (fun ds hl=>by match ds,hl with | [d1],_=>rfl)
  (fun _ hz=>⟨_,if_pos hz,rfl⟩) W base args ds gs before hval hW hw
theorem PotCosts_holds:Rows.PotCostsSaid:=
 OpenClaim.holds_of_wide 4 Tryz.f4 rfl rfl rfl rfl rfl rfl rfl ⟨rfl,rfl,rfl,rfl,rfl⟩ rfl rfl rfl rfl rfl (by kernel_rfl) Tryz.func4 (by kernel_rfl)
  (rS (by kernel_rfl)) (by unfold Func.isWrapper;rw[if_neg (by decide+kernel)];exact⟨rfl,rfl⟩)
  (fun os started H enc _=>PotCosts_lifted os started H enc)
end Go.Proofs.YtcofionghgmldaaGreat
