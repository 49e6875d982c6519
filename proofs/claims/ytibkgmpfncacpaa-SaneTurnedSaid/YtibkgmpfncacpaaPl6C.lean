/- SaneTurned: the statement 'SaneTurned' of the seat, for every input that it tells of. -/
import Derived.Test.YtibkgmpfncacpaaRows
import Derived.Test.YtibkgmpfncacpaaPliAt06I
namespace Go.Proofs.Ytibkgmpfncacpaa
open Go Go.PM Go.Pli Go.ChangeShapes Go.WideShapes Go.ChangeAt Go.RowKit
theorem SaneTurned_own : ownKnob Try.prog.godebug = none := by kernel_rfl
theorem SaneTurned_laid : laidOutB Try.prog = true := by kernel_rfl
set_option maxRecDepth 100000 in
theorem SaneTurned_lifted (os : Os) (started : os.Started) (H : Type) (enc : TypeId × Value → H) :
  ReturnsInHanded {} Try.checked os 4 .any (Rows.saneTurnedSpec.pre6 enc Try.prog Try.f4 Rows.saneTurnedRow.domain false) (Rows.saneTurnedSpec.post enc Try.prog Try.f4 false true false false) := by
 refine returnsInHanded_of_change_sized (C := Try.checked) SaneTurned_own started (by kernel_rfl) Try.func4
  (ChangeSpec.witness6 (enc := enc) (C := Try.checked) false ⟨#[], #[.agg #[.slice none 0 0, .slice none 0 0, .slice none 0 0, .slice none 0 0, .slice none 0 0, .int .i64 0, .int .i64 0], .int .u8 0, .int .u8 0, .int .u8 0, .int .u8 0], []⟩ 8 (by kernel_rfl) (by kernel_rfl) (by kernel_rfl) (by kernel_rfl)) ?_
 intro W base args ds gs before hval hW _ hw _
 have hpar : Try.f4.params.toList = [28, 5, 5, 5, 5] := by kernel_rfl
 have hW2 := hW
 obtain ⟨p, q, hA, hV, hpq, hfz, -⟩ := hW2
 have hgs : gs = [] ∧ q = [] := by
  cases gs with
  | nil => exact ⟨rfl, hV⟩
  | cons => exact hV.elim
 obtain ⟨rfl, rfl⟩ := hgs
 rw [List.append_nil] at hpq
 subst hpq
 rw [hpar] at hA
 have hlen : ds.length = 5 := (trodAll_len _ _ _ _ hA).2
 have hvt : DataSpec.varTypes Try.checked.prog Rows.saneTurnedSpec.plain = [] := rfl
 rw [hvt, List.append_nil, List.append_nil, hpar] at hw
 obtain ⟨cs, m, f, pc, x, y, rfl, hrep, b1, b2⟩ := args5 (P := Try.prog) T28 rfl T5 hpar hval hA hfz hw
 exact said_walk (tb := 4) SaneTurned_laid (by kernel_rfl) (by kernel_rfl) (by kernel_rfl) rfl W _ ds [] _
  (by match ds, hlen with | [d1, d2, d3, d4, d5], _ => rfl) hW (walk_calls hrep b1 b2)
theorem SaneTurned_holds : Rows.SaneTurnedSaid :=
 OpenClaim.holds_of_wide 4 Try.f4 rfl rfl rfl rfl rfl rfl rfl ⟨rfl, rfl, rfl, rfl, rfl⟩ rfl rfl rfl rfl rfl (by kernel_rfl) Try.func4 (by kernel_rfl)
  (of_decide_eq_true (by kernel_rfl)) (by unfold Func.isWrapper; rw [if_neg (by decide +kernel)]; exact ⟨rfl, rfl⟩)
  (fun os started H enc _ => SaneTurned_lifted os started H enc)
end Go.Proofs.Ytibkgmpfncacpaa
