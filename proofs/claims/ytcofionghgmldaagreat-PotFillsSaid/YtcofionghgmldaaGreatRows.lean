/-
  No cell of these rows narrows 'for every input' (looked for: loops, veiled, ifaces, maps, wideKeys, modest, calm, conditions, laid).
  DERIVED. THE GIVEN ROWS OF THIS SEAT. 10 by the template 'for every input the law returns true; each argument reads behind the call as it read before'; 0 by the template 'total and deterministic' (their statements: YtcofionghgmldaaGreatTotals.lean).
  GIVEN WITH THE SEED: the statements are not yours to turn. If you find one false, say at which input.
  Laid BY PROGRAM, IN A SANDBOX (cutbox-rows.mjs): the forced cells as the released guide's own fill.sh prints them over the translation 5689e9c03f198aa8… (all of the seat's roots in one cut). By AI agents, Wed Nov 11 2026. No macro, syntax, notation, axiom, sorry.
-/
import Derived.Test.YtcofionghgmldaaGreatChecked
import GoSem.Claim
import GoSem.ClaimJoined
import GoSem.ClaimMapViews
import Derived.JoinedTies
import Derived.KernelRfl
namespace Go.Proofs.YtcofionghgmldaaGreat
/- THE CELL 'sum', in the pinned program and in every row, IS THE sha256 OF THE DUMP (.gsa) THAT YtcofionghgmldaaGreatProg.lean LOADS. Nothing in Lean hashes anything: it is a label: what it is worth is what the hold of that sum in a sandbox is worth. -/
noncomputable def Tryz.pinned : Pinned := { name := "ytcofionghgmldaagreat", sum := "5689e9c03f198aa804b530c120e1303fa0c21004821eefd62ebc7e6d6b9a2508", checked := Tryz.checked }
namespace Rows
def none {H : Type} : Left H := { results := [], args := [] }

/-- 'plimsolllaw15.PotChecks': WHATEVER THE INPUT: true; the input reads as it did. -/
def potChecksSpec : ChangeSpec := { name := "potChecks", fn := fun _ => fun
  | [d] => { results := [.lit (.bool true)], args := [d] }
  | _ => none }
def potChecksRow : OpenClaim := { program := "ytcofionghgmldaagreat", sum := "5689e9c03f198aa804b530c120e1303fa0c21004821eefd62ebc7e6d6b9a2508", func := "plimsoll/plimsolllaw15.PotChecks", spec := "potChecks", unfollowed := true, recurses := true, apart := false }
def PotChecksSaid : Prop := potChecksRow.holds Tryz.pinned (OpenSpec.ofChange potChecksSpec)

/-- ITS FALSE NEIGHBOUR: 'it returns false'. Refute it at one input. -/
def potChecksWrong : ChangeSpec := { name := "potChecks", fn := fun _ => fun
  | [d] => { results := [.lit (.bool false)], args := [d] }
  | _ => none }
def PotChecksWrongFalsely : Prop := potChecksRow.holds Tryz.pinned (OpenSpec.ofChange potChecksWrong)

/-- 'plimsolllaw15.PotCosts': WHATEVER THE INPUT: true; the input reads as it did. -/
def potCostsSpec : ChangeSpec := { name := "potCosts", fn := fun _ => fun
  | [d] => { results := [.lit (.bool true)], args := [d] }
  | _ => none }
def potCostsRow : OpenClaim := { program := "ytcofionghgmldaagreat", sum := "5689e9c03f198aa804b530c120e1303fa0c21004821eefd62ebc7e6d6b9a2508", func := "plimsoll/plimsolllaw15.PotCosts", spec := "potCosts", unfollowed := true, recurses := true, apart := false }
def PotCostsSaid : Prop := potCostsRow.holds Tryz.pinned (OpenSpec.ofChange potCostsSpec)

/-- ITS FALSE NEIGHBOUR: 'it returns false'. Refute it at one input. -/
def potCostsWrong : ChangeSpec := { name := "potCosts", fn := fun _ => fun
  | [d] => { results := [.lit (.bool false)], args := [d] }
  | _ => none }
def PotCostsWrongFalsely : Prop := potCostsRow.holds Tryz.pinned (OpenSpec.ofChange potCostsWrong)

/-- 'plimsolllaw15.PotRules': WHATEVER THE INPUT: true; the input reads as it did. -/
def potRulesSpec : ChangeSpec := { name := "potRules", fn := fun _ => fun
  | [d1, d2] => { results := [.lit (.bool true)], args := [d1, d2] }
  | _ => none }
def potRulesRow : OpenClaim := { program := "ytcofionghgmldaagreat", sum := "5689e9c03f198aa804b530c120e1303fa0c21004821eefd62ebc7e6d6b9a2508", func := "plimsoll/plimsolllaw15.PotRules", spec := "potRules", unfollowed := true, recurses := true, apart := false }
def PotRulesSaid : Prop := potRulesRow.holds Tryz.pinned (OpenSpec.ofChange potRulesSpec)

/-- ITS FALSE NEIGHBOUR: 'it returns false'. Refute it at one input. -/
def potRulesWrong : ChangeSpec := { name := "potRules", fn := fun _ => fun
  | [d1, d2] => { results := [.lit (.bool false)], args := [d1, d2] }
  | _ => none }
def PotRulesWrongFalsely : Prop := potRulesRow.holds Tryz.pinned (OpenSpec.ofChange potRulesWrong)

/-- 'plimsolllaw15.PotFills': WHATEVER THE INPUT: true; the input reads as it did. -/
def potFillsSpec : ChangeSpec := { name := "potFills", fn := fun _ => fun
  | [d1, d2, d3] => { results := [.lit (.bool true)], args := [d1, d2, d3] }
  | _ => none }
def potFillsRow : OpenClaim := { program := "ytcofionghgmldaagreat", sum := "5689e9c03f198aa804b530c120e1303fa0c21004821eefd62ebc7e6d6b9a2508", func := "plimsoll/plimsolllaw15.PotFills", spec := "potFills", unfollowed := true, recurses := true, apart := false }
def PotFillsSaid : Prop := potFillsRow.holds Tryz.pinned (OpenSpec.ofChange potFillsSpec)

/-- ITS FALSE NEIGHBOUR: 'it returns false'. Refute it at one input. -/
def potFillsWrong : ChangeSpec := { name := "potFills", fn := fun _ => fun
  | [d1, d2, d3] => { results := [.lit (.bool false)], args := [d1, d2, d3] }
  | _ => none }
def PotFillsWrongFalsely : Prop := potFillsRow.holds Tryz.pinned (OpenSpec.ofChange potFillsWrong)

/-- 'plimsolllaw15.PotRings': WHATEVER THE INPUT: true; the input reads as it did. -/
def potRingsSpec : ChangeSpec := { name := "potRings", fn := fun _ => fun
  | [d] => { results := [.lit (.bool true)], args := [d] }
  | _ => none }
def potRingsRow : OpenClaim := { program := "ytcofionghgmldaagreat", sum := "5689e9c03f198aa804b530c120e1303fa0c21004821eefd62ebc7e6d6b9a2508", func := "plimsoll/plimsolllaw15.PotRings", spec := "potRings", unfollowed := true, recurses := true, apart := false }
def PotRingsSaid : Prop := potRingsRow.holds Tryz.pinned (OpenSpec.ofChange potRingsSpec)

/-- ITS FALSE NEIGHBOUR: 'it returns false'. Refute it at one input. -/
def potRingsWrong : ChangeSpec := { name := "potRings", fn := fun _ => fun
  | [d] => { results := [.lit (.bool false)], args := [d] }
  | _ => none }
def PotRingsWrongFalsely : Prop := potRingsRow.holds Tryz.pinned (OpenSpec.ofChange potRingsWrong)

/-- 'plimsolllaw16.AdmitChecks': WHATEVER THE INPUT: true; the input reads as it did. -/
def admitChecksSpec : ChangeSpec := { name := "admitChecks", fn := fun _ => fun
  | [d] => { results := [.lit (.bool true)], args := [d] }
  | _ => none }
def admitChecksRow : OpenClaim := { program := "ytcofionghgmldaagreat", sum := "5689e9c03f198aa804b530c120e1303fa0c21004821eefd62ebc7e6d6b9a2508", func := "plimsoll/plimsolllaw16.AdmitChecks", spec := "admitChecks", unfollowed := true, recurses := true, apart := false }
def AdmitChecksSaid : Prop := admitChecksRow.holds Tryz.pinned (OpenSpec.ofChange admitChecksSpec)

/-- ITS FALSE NEIGHBOUR: 'it returns false'. Refute it at one input. -/
def admitChecksWrong : ChangeSpec := { name := "admitChecks", fn := fun _ => fun
  | [d] => { results := [.lit (.bool false)], args := [d] }
  | _ => none }
def AdmitChecksWrongFalsely : Prop := admitChecksRow.holds Tryz.pinned (OpenSpec.ofChange admitChecksWrong)

/-- 'plimsolllaw16.AdmitBytes': WHATEVER THE INPUT: true; the input reads as it did. -/
def admitBytesSpec : ChangeSpec := { name := "admitBytes", fn := fun _ => fun
  | [d1, d2, d3] => { results := [.lit (.bool true)], args := [d1, d2, d3] }
  | _ => none }
def admitBytesRow : OpenClaim := { program := "ytcofionghgmldaagreat", sum := "5689e9c03f198aa804b530c120e1303fa0c21004821eefd62ebc7e6d6b9a2508", func := "plimsoll/plimsolllaw16.AdmitBytes", spec := "admitBytes", unfollowed := true, recurses := true, apart := false }
def AdmitBytesSaid : Prop := admitBytesRow.holds Tryz.pinned (OpenSpec.ofChange admitBytesSpec)

/-- ITS FALSE NEIGHBOUR: 'it returns false'. Refute it at one input. -/
def admitBytesWrong : ChangeSpec := { name := "admitBytes", fn := fun _ => fun
  | [d1, d2, d3] => { results := [.lit (.bool false)], args := [d1, d2, d3] }
  | _ => none }
def AdmitBytesWrongFalsely : Prop := admitBytesRow.holds Tryz.pinned (OpenSpec.ofChange admitBytesWrong)

/-- 'plimsolllaw16.AdmitQuotas': WHATEVER THE INPUT: true; the input reads as it did. -/
def admitQuotasSpec : ChangeSpec := { name := "admitQuotas", fn := fun _ => fun
  | [d] => { results := [.lit (.bool true)], args := [d] }
  | _ => none }
def admitQuotasRow : OpenClaim := { program := "ytcofionghgmldaagreat", sum := "5689e9c03f198aa804b530c120e1303fa0c21004821eefd62ebc7e6d6b9a2508", func := "plimsoll/plimsolllaw16.AdmitQuotas", spec := "admitQuotas", unfollowed := true, recurses := true, apart := false }
def AdmitQuotasSaid : Prop := admitQuotasRow.holds Tryz.pinned (OpenSpec.ofChange admitQuotasSpec)

/-- ITS FALSE NEIGHBOUR: 'it returns false'. Refute it at one input. -/
def admitQuotasWrong : ChangeSpec := { name := "admitQuotas", fn := fun _ => fun
  | [d] => { results := [.lit (.bool false)], args := [d] }
  | _ => none }
def AdmitQuotasWrongFalsely : Prop := admitQuotasRow.holds Tryz.pinned (OpenSpec.ofChange admitQuotasWrong)

/-- 'plimsolllaw16.AdmitMore': WHATEVER THE INPUT: true; the input reads as it did. -/
def admitMoreSpec : ChangeSpec := { name := "admitMore", fn := fun _ => fun
  | [d1, d2, d3] => { results := [.lit (.bool true)], args := [d1, d2, d3] }
  | _ => none }
def admitMoreRow : OpenClaim := { program := "ytcofionghgmldaagreat", sum := "5689e9c03f198aa804b530c120e1303fa0c21004821eefd62ebc7e6d6b9a2508", func := "plimsoll/plimsolllaw16.AdmitMore", spec := "admitMore", unfollowed := true, recurses := true, apart := false }
def AdmitMoreSaid : Prop := admitMoreRow.holds Tryz.pinned (OpenSpec.ofChange admitMoreSpec)

/-- ITS FALSE NEIGHBOUR: 'it returns false'. Refute it at one input. -/
def admitMoreWrong : ChangeSpec := { name := "admitMore", fn := fun _ => fun
  | [d1, d2, d3] => { results := [.lit (.bool false)], args := [d1, d2, d3] }
  | _ => none }
def AdmitMoreWrongFalsely : Prop := admitMoreRow.holds Tryz.pinned (OpenSpec.ofChange admitMoreWrong)

/-- 'plimsolllaw16.AdmitAlike': WHATEVER THE INPUT: true; the input reads as it did. -/
def admitAlikeSpec : ChangeSpec := { name := "admitAlike", fn := fun _ => fun
  | [d] => { results := [.lit (.bool true)], args := [d] }
  | _ => none }
def admitAlikeRow : OpenClaim := { program := "ytcofionghgmldaagreat", sum := "5689e9c03f198aa804b530c120e1303fa0c21004821eefd62ebc7e6d6b9a2508", func := "plimsoll/plimsolllaw16.AdmitAlike", spec := "admitAlike", unfollowed := true, recurses := true, apart := false }
def AdmitAlikeSaid : Prop := admitAlikeRow.holds Tryz.pinned (OpenSpec.ofChange admitAlikeSpec)

/-- ITS FALSE NEIGHBOUR: 'it returns false'. Refute it at one input. -/
def admitAlikeWrong : ChangeSpec := { name := "admitAlike", fn := fun _ => fun
  | [d] => { results := [.lit (.bool false)], args := [d] }
  | _ => none }
def AdmitAlikeWrongFalsely : Prop := admitAlikeRow.holds Tryz.pinned (OpenSpec.ofChange admitAlikeWrong)

/- THE SECOND FORM. 'bulk': how many values and letters a reading holds, each counted each time it is reached (what is shared counts as often as it is met; a slice's spare places count too). A statement '..UptoSaid' is the law's where the arguments, and the package variables that the reading takes, are together of bulk at most 1048576: NARROWER than '..Said'. Prove '..Said' where nothing that the law and all that it calls make is longer than what came in: it says more and counts as full. Else prove '..UptoSaid'. A law counts once. -/
mutual
def uptoBulk {H : Type} : DataW H → Nat
  | .lit (.string bytes) => bytes.length + 1
  | .lit _ => 1
  | .nil => 1
  | .ptr d => uptoBulk d + 1
  | .slice elems spare => uptoBulkAll elems + uptoBulkAll spare + 1
  | .agg parts => uptoBulkAll parts + 1
  | .iface _ d => uptoBulk d + 1
  | .map entries => uptoBulkEntries entries + 1
  | .held _ => 1
def uptoBulkAll {H : Type} : List (DataW H) → Nat
  | [] => 0
  | d :: r => uptoBulk d + uptoBulkAll r
def uptoBulkEntries {H : Type} : List (Lit × DataW H) → Nat
  | [] => 0
  | x :: r => uptoBulkEntry x + uptoBulkEntries r
def uptoBulkEntry {H : Type} : Lit × DataW H → Nat
  | (.string bytes, d) => bytes.length + uptoBulk d + 1
  | (_, d) => uptoBulk d + 1
 end
def uptoSmall : (H : Type) → List (DataW H) → Bool := fun _ ds => decide (uptoBulkAll ds ≤ 1048576)
def OpenSpec.upto (s : _root_.Go.ChangeSpec) : _root_.Go.OpenSpec := { _root_.Go.OpenSpec.ofChange s with cond := some uptoSmall }

/-- 'plimsolllaw15.PotChecks', WHERE WHAT IT READS IS OF BULK AT MOST 1048576: true; the input reads as it did. -/
def potChecksUptoRow : OpenClaim := { program := "ytcofionghgmldaagreat", sum := "5689e9c03f198aa804b530c120e1303fa0c21004821eefd62ebc7e6d6b9a2508", func := "plimsoll/plimsolllaw15.PotChecks", spec := "potChecks", unfollowed := true, recurses := true, apart := false, narrowed := true }
def PotChecksUptoSaid : Prop := potChecksUptoRow.holds Tryz.pinned (OpenSpec.upto potChecksSpec)

/-- 'plimsolllaw15.PotCosts', WHERE WHAT IT READS IS OF BULK AT MOST 1048576: true; the input reads as it did. -/
def potCostsUptoRow : OpenClaim := { program := "ytcofionghgmldaagreat", sum := "5689e9c03f198aa804b530c120e1303fa0c21004821eefd62ebc7e6d6b9a2508", func := "plimsoll/plimsolllaw15.PotCosts", spec := "potCosts", unfollowed := true, recurses := true, apart := false, narrowed := true }
def PotCostsUptoSaid : Prop := potCostsUptoRow.holds Tryz.pinned (OpenSpec.upto potCostsSpec)

/-- 'plimsolllaw15.PotRules', WHERE WHAT IT READS IS OF BULK AT MOST 1048576: true; the input reads as it did. -/
def potRulesUptoRow : OpenClaim := { program := "ytcofionghgmldaagreat", sum := "5689e9c03f198aa804b530c120e1303fa0c21004821eefd62ebc7e6d6b9a2508", func := "plimsoll/plimsolllaw15.PotRules", spec := "potRules", unfollowed := true, recurses := true, apart := false, narrowed := true }
def PotRulesUptoSaid : Prop := potRulesUptoRow.holds Tryz.pinned (OpenSpec.upto potRulesSpec)

/-- 'plimsolllaw15.PotFills', WHERE WHAT IT READS IS OF BULK AT MOST 1048576: true; the input reads as it did. -/
def potFillsUptoRow : OpenClaim := { program := "ytcofionghgmldaagreat", sum := "5689e9c03f198aa804b530c120e1303fa0c21004821eefd62ebc7e6d6b9a2508", func := "plimsoll/plimsolllaw15.PotFills", spec := "potFills", unfollowed := true, recurses := true, apart := false, narrowed := true }
def PotFillsUptoSaid : Prop := potFillsUptoRow.holds Tryz.pinned (OpenSpec.upto potFillsSpec)

/-- 'plimsolllaw15.PotRings', WHERE WHAT IT READS IS OF BULK AT MOST 1048576: true; the input reads as it did. -/
def potRingsUptoRow : OpenClaim := { program := "ytcofionghgmldaagreat", sum := "5689e9c03f198aa804b530c120e1303fa0c21004821eefd62ebc7e6d6b9a2508", func := "plimsoll/plimsolllaw15.PotRings", spec := "potRings", unfollowed := true, recurses := true, apart := false, narrowed := true }
def PotRingsUptoSaid : Prop := potRingsUptoRow.holds Tryz.pinned (OpenSpec.upto potRingsSpec)

/-- 'plimsolllaw16.AdmitChecks', WHERE WHAT IT READS IS OF BULK AT MOST 1048576: true; the input reads as it did. -/
def admitChecksUptoRow : OpenClaim := { program := "ytcofionghgmldaagreat", sum := "5689e9c03f198aa804b530c120e1303fa0c21004821eefd62ebc7e6d6b9a2508", func := "plimsoll/plimsolllaw16.AdmitChecks", spec := "admitChecks", unfollowed := true, recurses := true, apart := false, narrowed := true }
def AdmitChecksUptoSaid : Prop := admitChecksUptoRow.holds Tryz.pinned (OpenSpec.upto admitChecksSpec)

/-- 'plimsolllaw16.AdmitBytes', WHERE WHAT IT READS IS OF BULK AT MOST 1048576: true; the input reads as it did. -/
def admitBytesUptoRow : OpenClaim := { program := "ytcofionghgmldaagreat", sum := "5689e9c03f198aa804b530c120e1303fa0c21004821eefd62ebc7e6d6b9a2508", func := "plimsoll/plimsolllaw16.AdmitBytes", spec := "admitBytes", unfollowed := true, recurses := true, apart := false, narrowed := true }
def AdmitBytesUptoSaid : Prop := admitBytesUptoRow.holds Tryz.pinned (OpenSpec.upto admitBytesSpec)

/-- 'plimsolllaw16.AdmitQuotas', WHERE WHAT IT READS IS OF BULK AT MOST 1048576: true; the input reads as it did. -/
def admitQuotasUptoRow : OpenClaim := { program := "ytcofionghgmldaagreat", sum := "5689e9c03f198aa804b530c120e1303fa0c21004821eefd62ebc7e6d6b9a2508", func := "plimsoll/plimsolllaw16.AdmitQuotas", spec := "admitQuotas", unfollowed := true, recurses := true, apart := false, narrowed := true }
def AdmitQuotasUptoSaid : Prop := admitQuotasUptoRow.holds Tryz.pinned (OpenSpec.upto admitQuotasSpec)

/-- 'plimsolllaw16.AdmitMore', WHERE WHAT IT READS IS OF BULK AT MOST 1048576: true; the input reads as it did. -/
def admitMoreUptoRow : OpenClaim := { program := "ytcofionghgmldaagreat", sum := "5689e9c03f198aa804b530c120e1303fa0c21004821eefd62ebc7e6d6b9a2508", func := "plimsoll/plimsolllaw16.AdmitMore", spec := "admitMore", unfollowed := true, recurses := true, apart := false, narrowed := true }
def AdmitMoreUptoSaid : Prop := admitMoreUptoRow.holds Tryz.pinned (OpenSpec.upto admitMoreSpec)

/-- 'plimsolllaw16.AdmitAlike', WHERE WHAT IT READS IS OF BULK AT MOST 1048576: true; the input reads as it did. -/
def admitAlikeUptoRow : OpenClaim := { program := "ytcofionghgmldaagreat", sum := "5689e9c03f198aa804b530c120e1303fa0c21004821eefd62ebc7e6d6b9a2508", func := "plimsoll/plimsolllaw16.AdmitAlike", spec := "admitAlike", unfollowed := true, recurses := true, apart := false, narrowed := true }
def AdmitAlikeUptoSaid : Prop := admitAlikeUptoRow.holds Tryz.pinned (OpenSpec.upto admitAlikeSpec)

end Rows
end Go.Proofs.YtcofionghgmldaaGreat
