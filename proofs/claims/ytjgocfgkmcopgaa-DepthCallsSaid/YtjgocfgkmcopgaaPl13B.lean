/- DepthCalls: the statement 'DepthCalls' of the seat, for every input that it tells of. -/
import Derived.Test.YtjgocfgkmcopgaaRows
import Derived.Test.YtjgocfgkmcopgaaPliEq17L
import Derived.Test.YtjgocfgkmcopgaaPliLaw
namespace Go.Proofs.Ytjgocfgkmcopgaa
open Go Go.PM Go.Pli Go.ChangeShapes Go.WideShapes Go.ChangeAt Go.RowKit
theorem DepthCalls_own : ownKnob Try.prog.godebug = none := by kernel_rfl
theorem DepthCalls_laid : laidOutB Try.prog = true := by kernel_rfl
theorem DepthCalls_fok : FOk Try.prog 7 depthCallsS := depthCallsC (fun z _ => depthCalls_law z.1)
set_option maxRecDepth 100000 in
theorem DepthCalls_lifted (os : Os) (started : os.Started) (H : Type) (enc : TypeId × Value → H) :
  ReturnsInHanded {} Try.checked os 7 .any (Rows.depthCallsSpec.pre6 enc Try.prog Try.f7 Rows.depthCallsRow.domain false) (Rows.depthCallsSpec.post enc Try.prog Try.f7 false true false false) := by
 refine returnsInHanded_of_change_sized (C := Try.checked) DepthCalls_own started (by kernel_rfl) Try.func7
  (ChangeSpec.witness6 (enc := enc) (C := Try.checked) false ⟨#[], #[.agg #[.slice none 0 0, .slice none 0 0, .slice none 0 0, .slice none 0 0, .slice none 0 0, .int .i64 0, .int .i64 0]], []⟩ 8 (by kernel_rfl) (by kernel_rfl) (by kernel_rfl) (by kernel_rfl)) ?_
 intro W base args ds gs before hval hW _ hw _
 exact said_calls (tb := 4) (Ts := depthCallsT) DepthCalls_fok (by refine ⟨?_, trivial⟩ <;> (unfold TyOk; kernel_rfl)) DepthCalls_laid (by kernel_rfl) (by kernel_rfl) (by kernel_rfl) rfl
  (fun ds hl => by match ds, hl with | [d1], _ => rfl)
  (fun _ hz => ⟨_, if_pos hz, rfl⟩) W base args ds gs before hval hW hw
theorem DepthCalls_holds : Rows.DepthCallsSaid :=
 OpenClaim.holds_of_wide 7 Try.f7 rfl rfl rfl rfl rfl rfl rfl ⟨rfl, rfl, rfl, rfl, rfl⟩ rfl rfl rfl rfl rfl (by kernel_rfl) Try.func7 (by kernel_rfl)
  (of_decide_eq_true (by kernel_rfl)) (by unfold Func.isWrapper; rw [if_neg (by decide +kernel)]; exact ⟨rfl, rfl⟩)
  (fun os started H enc _ => DepthCalls_lifted os started H enc)
end Go.Proofs.Ytjgocfgkmcopgaa
