/- DepthRing: the statement 'DepthRing' of the seat, for every input that it tells of. -/
import Derived.Test.YtjgocfgkmcopgaaRows
import Derived.Test.YtjgocfgkmcopgaaPliEq17L
import Derived.Test.YtjgocfgkmcopgaaPliLaw
namespace Go.Proofs.Ytjgocfgkmcopgaa
open Go Go.PM Go.Pli Go.ChangeShapes Go.WideShapes Go.ChangeAt Go.RowKit
theorem DepthRing_own : ownKnob Try.prog.godebug = none := by kernel_rfl
theorem DepthRing_laid : laidOutB Try.prog = true := by kernel_rfl
theorem DepthRing_fok : FOk Try.prog 8 depthRingS := depthRingC (fun z _ => depthRing_law z.1)
set_option maxRecDepth 100000 in
theorem DepthRing_lifted (os : Os) (started : os.Started) (H : Type) (enc : TypeId × Value → H) :
  ReturnsInHanded {} Try.checked os 8 .any (Rows.depthRingSpec.pre6 enc Try.prog Try.f8 Rows.depthRingRow.domain false) (Rows.depthRingSpec.post enc Try.prog Try.f8 false true false false) := by
 refine returnsInHanded_of_change_sized (C := Try.checked) DepthRing_own started (by kernel_rfl) Try.func8
  (ChangeSpec.witness6 (enc := enc) (C := Try.checked) false ⟨#[], #[.agg #[.slice none 0 0, .slice none 0 0, .slice none 0 0, .slice none 0 0, .slice none 0 0, .int .i64 0, .int .i64 0]], []⟩ 8 (by kernel_rfl) (by kernel_rfl) (by kernel_rfl) (by kernel_rfl)) ?_
 intro W base args ds gs before hval hW _ hw _
 exact said_calls (tb := 4) (Ts := depthRingT) DepthRing_fok (by refine ⟨?_, trivial⟩ <;> (unfold TyOk; kernel_rfl)) DepthRing_laid (by kernel_rfl) (by kernel_rfl) (by kernel_rfl) rfl
  (fun ds hl => by match ds, hl with | [d1], _ => rfl)
  (fun _ hz => ⟨_, if_pos hz, rfl⟩) W base args ds gs before hval hW hw
theorem DepthRing_holds : Rows.DepthRingSaid :=
 OpenClaim.holds_of_wide 8 Try.f8 rfl rfl rfl rfl rfl rfl rfl ⟨rfl, rfl, rfl, rfl, rfl⟩ rfl rfl rfl rfl rfl (by kernel_rfl) Try.func8 (by kernel_rfl)
  (of_decide_eq_true (by kernel_rfl)) (by unfold Func.isWrapper; rw [if_neg (by decide +kernel)]; exact ⟨rfl, rfl⟩)
  (fun os started H enc _ => DepthRing_lifted os started H enc)
end Go.Proofs.Ytjgocfgkmcopgaa
