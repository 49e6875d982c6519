/- CallsReach: the statement 'CallsReach' of the seat, for every input that it tells of. -/
import Derived.Test.YtjgocfgkmcopgaaRows
import Derived.Test.YtjgocfgkmcopgaaPliEq11
import Derived.Test.YtjgocfgkmcopgaaPliLaw06
namespace Go.Proofs.Ytjgocfgkmcopgaa
open Go Go.PM Go.Pli Go.ChangeShapes Go.WideShapes Go.ChangeAt Go.RowKit

theorem CallsReach_own : ownKnob Try.prog.godebug = none := by kernel_rfl
theorem CallsReach_laid : laidOutB Try.prog = true := by kernel_rfl
theorem CallsReach_fok : FOk Try.prog 4 callsReachS := callsReachC (fun z _ => callsReach_law z.1)

set_option maxRecDepth 100000 in
theorem CallsReach_lifted (os : Os) (started : os.Started) (H : Type) (enc : TypeId × Value → H) :
    ReturnsInHanded {} Try.checked os 4 .any (Rows.callsReachSpec.pre6 enc Try.prog Try.f4 Rows.callsReachRow.domain false) (Rows.callsReachSpec.post enc Try.prog Try.f4 false true false false) := by
  refine returnsInHanded_of_change_sized (C := Try.checked) CallsReach_own started (by kernel_rfl) Try.func4
    (ChangeSpec.witness6 (enc := enc) (C := Try.checked) false ⟨#[], #[.agg #[.slice none 0 0, .slice none 0 0, .slice none 0 0, .slice none 0 0, .slice none 0 0, .int .i64 0, .int .i64 0]], []⟩ 8 (by kernel_rfl) (by kernel_rfl) (by kernel_rfl) (by kernel_rfl)) ?_
  intro W base args ds gs before hval hW _ hw _
  exact said_calls (tb := 4) (Ts := callsReachT) CallsReach_fok (by refine ⟨?_, trivial⟩ <;> (unfold TyOk; kernel_rfl)) CallsReach_laid (by kernel_rfl) (by kernel_rfl) (by kernel_rfl) rfl
    (fun ds hl => by match ds, hl with | [d1], _ => rfl)
    (fun _ hz => ⟨_, if_pos hz, rfl⟩) W base args ds gs before hval hW hw

theorem CallsReach_holds : Rows.CallsReachSaid :=
  OpenClaim.holds_of_wide 4 Try.f4 rfl rfl rfl rfl rfl rfl rfl ⟨rfl, rfl, rfl, rfl, rfl⟩ rfl rfl rfl rfl rfl (by kernel_rfl) Try.func4 (by kernel_rfl)
    (of_decide_eq_true (by kernel_rfl)) (by unfold Func.isWrapper; rw [if_neg (by decide +kernel)]; exact ⟨rfl, rfl⟩)
    (fun os started H enc _ => CallsReach_lifted os started H enc)

end Go.Proofs.Ytjgocfgkmcopgaa
