/- CallsClosed: the statement 'CallsClosed' of the seat, for every input that it tells of. -/
import Derived.Test.YtjgocfgkmcopgaaRows
import Derived.Test.YtjgocfgkmcopgaaPliEq11
import Derived.Test.YtjgocfgkmcopgaaPliLaw06
namespace Go.Proofs.Ytjgocfgkmcopgaa
open Go Go.PM Go.Pli Go.ChangeShapes Go.WideShapes Go.ChangeAt Go.RowKit

theorem CallsClosed_own : ownKnob Try.prog.godebug = none := by kernel_rfl
theorem CallsClosed_laid : laidOutB Try.prog = true := by kernel_rfl
theorem CallsClosed_fok : FOk Try.prog 5 callsClosedS := callsClosedC (fun z _ => callsClosed_law z.1)

set_option maxRecDepth 100000 in
theorem CallsClosed_lifted (os : Os) (started : os.Started) (H : Type) (enc : TypeId × Value → H) :
    ReturnsInHanded {} Try.checked os 5 .any (Rows.callsClosedSpec.pre6 enc Try.prog Try.f5 Rows.callsClosedRow.domain false) (Rows.callsClosedSpec.post enc Try.prog Try.f5 false true false false) := by
  refine returnsInHanded_of_change_sized (C := Try.checked) CallsClosed_own started (by kernel_rfl) Try.func5
    (ChangeSpec.witness6 (enc := enc) (C := Try.checked) false ⟨#[], #[.agg #[.slice none 0 0, .slice none 0 0, .slice none 0 0, .slice none 0 0, .slice none 0 0, .int .i64 0, .int .i64 0]], []⟩ 8 (by kernel_rfl) (by kernel_rfl) (by kernel_rfl) (by kernel_rfl)) ?_
  intro W base args ds gs before hval hW _ hw _
  exact said_calls (tb := 4) (Ts := callsClosedT) CallsClosed_fok (by refine ⟨?_, trivial⟩ <;> (unfold TyOk; kernel_rfl)) CallsClosed_laid (by kernel_rfl) (by kernel_rfl) (by kernel_rfl) rfl
    (fun ds hl => by match ds, hl with | [d1], _ => rfl)
    (fun _ hz => ⟨_, if_pos hz, rfl⟩) W base args ds gs before hval hW hw

theorem CallsClosed_holds : Rows.CallsClosedSaid :=
  OpenClaim.holds_of_wide 5 Try.f5 rfl rfl rfl rfl rfl rfl rfl ⟨rfl, rfl, rfl, rfl, rfl⟩ rfl rfl rfl rfl rfl (by kernel_rfl) Try.func5 (by kernel_rfl)
    (of_decide_eq_true (by kernel_rfl)) (by unfold Func.isWrapper; rw [if_neg (by decide +kernel)]; exact ⟨rfl, rfl⟩)
    (fun os started H enc _ => CallsClosed_lifted os started H enc)

end Go.Proofs.Ytjgocfgkmcopgaa
