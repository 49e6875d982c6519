/- PotRules: the statement 'PotRules' of the seat, for every input that it tells of. -/
import Derived.Test.YtcofionghgmldaaGreatRows
import Derived.Test.YtcofionghgmldaaGreatPliEq18
import Derived.Test.YtcofionghgmldaaGreatPliLaw
namespace Go.Proofs.YtcofionghgmldaaGreat
open Go Go.PM Go.Pli Go.ChangeShapes Go.WideShapes Go.ChangeAt Go.RowKit
theorem PotRules_own:ownKnob Tryz.prog.godebug=none:=by kernel_rfl
theorem PotRules_laid:laidOutB Tryz.prog=true:=by kernel_rfl
theorem PotRules_fok:FOk Tryz.prog 5 potRulesS:=aNh (fun z _=>aNg z.1 z.2.1)
set_option maxRecDepth 100000 in
theorem PotRules_lifted (os:Os) (started:os.Started) (H:Type) (enc:TypeId×Value→H):
  ReturnsInHanded {} Tryz.checked os 5 .any (Rows.potRulesSpec.pre6 enc Tryz.prog Tryz.f5 Rows.potRulesRow.domain false) (Rows.potRulesSpec.post enc Tryz.prog Tryz.f5 false true false false):=by
 refine returnsInHanded_of_change_sized (C:=Tryz.checked) PotRules_own started (by kernel_rfl) Tryz.func5
  (ChangeSpec.witness6 (enc:=enc) (C:=Tryz.checked) false ⟨#[],#[.agg #[.slice none 0 0,.slice none 0 0,.slice none 0 0,.slice none 0 0,.slice none 0 0,.int .i64 0,.int .i64 0],.int .i64 0],[]⟩ 8 (by kernel_rfl) (by kernel_rfl) (by kernel_rfl) (by kernel_rfl)) ?_
 intro W base args ds gs before hval hW _ hw _
 exact aLy (tb:=4) (Ts:=aAA) PotRules_fok (by refine⟨?_,?_,trivial⟩ <;> (unfold TyOk;kernel_rfl)) PotRules_laid (by kernel_rfl) (by kernel_rfl) (by kernel_rfl) rfl
  (fun ds hl=>by match ds,hl with | [d1,d2],_=>rfl)
  (fun _ hz=>⟨_,if_pos hz,rfl⟩) W base args ds gs before hval hW hw
theorem PotRules_holds:Rows.PotRulesSaid:=
 OpenClaim.holds_of_wide 5 Tryz.f5 rfl rfl rfl rfl rfl rfl rfl ⟨rfl,rfl,rfl,rfl,rfl⟩ rfl rfl rfl rfl rfl (by kernel_rfl) Tryz.func5 (by kernel_rfl)
  (rW (by kernel_rfl)) (by unfold Func.isWrapper;rw[if_neg (by decide+kernel)];exact⟨rfl,rfl⟩)
  (fun os started H enc _=>PotRules_lifted os started H enc)
end Go.Proofs.YtcofionghgmldaaGreat
