/- PotRings: the statement 'PotRings' of the seat, for every input that it tells of. -/
import Derived.Test.YtcofionghgmldaaGreatRows
import Derived.Test.YtcofionghgmldaaGreatPliEq19
import Derived.Test.YtcofionghgmldaaGreatPliLaw
namespace Go.Proofs.YtcofionghgmldaaGreat
open Go Go.PM Go.Pli Go.ChangeShapes Go.WideShapes Go.ChangeAt Go.RowKit
theorem PotRings_own:ownKnob Tryz.prog.godebug=none:=by kernel_rfl
theorem PotRings_laid:laidOutB Tryz.prog=true:=by kernel_rfl
theorem PotRings_fok:FOk Tryz.prog 7 potRingsS:=aOm (fun z _=>aOl z.1)
set_option maxRecDepth 100000 in
theorem PotRings_lifted (os:Os) (started:os.Started) (H:Type) (enc:TypeId×Value→H):
  ReturnsInHanded {} Tryz.checked os 7 .any (Rows.potRingsSpec.pre6 enc Tryz.prog Tryz.f7 Rows.potRingsRow.domain false) (Rows.potRingsSpec.post enc Tryz.prog Tryz.f7 false true false false):=by
 refine returnsInHanded_of_change_sized (C:=Tryz.checked) PotRings_own started (by kernel_rfl) Tryz.func7
  (ChangeSpec.witness6 (enc:=enc) (C:=Tryz.checked) false ⟨#[],#[.agg #[.slice none 0 0,.slice none 0 0,.slice none 0 0,.slice none 0 0,.slice none 0 0,.int .i64 0,.int .i64 0]],[]⟩ 8 (by kernel_rfl) (by kernel_rfl) (by kernel_rfl) (by kernel_rfl)) ?_
 intro W base args ds gs before hval hW _ hw _
 exact aMI (tb:=4) (Ts:=aA7) PotRings_fok (by refine⟨?_,trivial⟩ <;> (unfold TyOk;kernel_rfl)) PotRings_laid (by kernel_rfl) (by kernel_rfl) (by kernel_rfl) rfl
  (fun ds hl=>by match ds,hl with | [d1],_=>rfl)
  (fun _ hz=>⟨_,if_pos hz,rfl⟩) W base args ds gs before hval hW hw
theorem PotRings_holds:Rows.PotRingsSaid:=
 OpenClaim.holds_of_wide 7 Tryz.f7 rfl rfl rfl rfl rfl rfl rfl ⟨rfl,rfl,rfl,rfl,rfl⟩ rfl rfl rfl rfl rfl (by kernel_rfl) Tryz.func7 (by kernel_rfl)
  (qT (by kernel_rfl)) (by unfold Func.isWrapper;rw[if_neg (by decide+kernel)];exact⟨rfl,rfl⟩)
  (fun os started H enc _=>PotRings_lifted os started H enc)
end Go.Proofs.YtcofionghgmldaaGreat
