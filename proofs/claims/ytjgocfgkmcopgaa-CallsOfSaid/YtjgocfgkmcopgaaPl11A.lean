/- CallsOf: the statement 'CallsOf' of the seat, for every input that it tells of. -/
import Derived.Test.YtjgocfgkmcopgaaRows
import Derived.Test.YtjgocfgkmcopgaaPliEq11
import Derived.Test.YtjgocfgkmcopgaaPliLaw06
namespace Go.Proofs.Ytjgocfgkmcopgaa
open Go Go.PM Go.Pli Go.ChangeShapes Go.WideShapes Go.ChangeAt Go.RowKit

theorem CallsOf_own : ownKnob Try.prog.godebug = none := by kernel_rfl
theorem CallsOf_laid : laidOutB Try.prog = true := by kernel_rfl
theorem CallsOf_fok : FOk Try.prog 3 callsOfS := callsOfC (fun z _ => callsOf_law z.1 z.2.1)

set_option maxRecDepth 100000 in
theorem CallsOf_lifted (os : Os) (started : os.Started) (H : Type) (enc : TypeId × Value → H) :
    ReturnsInHanded {} Try.checked os 3 .any (Rows.callsOfSpec.pre6 enc Try.prog Try.f3 Rows.callsOfRow.domain false) (Rows.callsOfSpec.post enc Try.prog Try.f3 false true false false) := by
  refine returnsInHanded_of_change_sized (C := Try.checked) CallsOf_own started (by kernel_rfl) Try.func3
    (ChangeSpec.witness6 (enc := enc) (C := Try.checked) false ⟨#[], #[.agg #[.slice none 0 0, .slice none 0 0, .slice none 0 0, .slice none 0 0, .slice none 0 0, .int .i64 0, .int .i64 0], .int .i64 0], []⟩ 8 (by kernel_rfl) (by kernel_rfl) (by kernel_rfl) (by kernel_rfl)) ?_
  intro W base args ds gs before hval hW _ hw _
  exact said_calls (tb := 4) (Ts := callsOfT) CallsOf_fok (by refine ⟨?_, ?_, trivial⟩ <;> (unfold TyOk; kernel_rfl)) CallsOf_laid (by kernel_rfl) (by kernel_rfl) (by kernel_rfl) rfl
    (fun ds hl => by match ds, hl with | [d1, d2], _ => rfl)
    (fun _ hz => ⟨_, if_pos hz, rfl⟩) W base args ds gs before hval hW hw

theorem CallsOf_holds : Rows.CallsOfSaid :=
  OpenClaim.holds_of_wide 3 Try.f3 rfl rfl rfl rfl rfl rfl rfl ⟨rfl, rfl, rfl, rfl, rfl⟩ rfl rfl rfl rfl rfl (by kernel_rfl) Try.func3 (by kernel_rfl)
    (of_decide_eq_true (by kernel_rfl)) (by unfold Func.isWrapper; rw [if_neg (by decide +kernel)]; exact ⟨rfl, rfl⟩)
    (fun os started H enc _ => CallsOf_lifted os started H enc)

end Go.Proofs.Ytjgocfgkmcopgaa
