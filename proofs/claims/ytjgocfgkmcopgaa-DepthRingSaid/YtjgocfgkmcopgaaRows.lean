/-
  No cell of these rows narrows 'for every input' (looked for: loops, veiled, ifaces, maps, wideKeys, modest, calm, conditions, laid).
  DERIVED. THE GIVEN ROWS OF THIS SEAT. 6 by the template 'for every input the law returns true; each argument reads behind the call as it read before'; 0 by the template 'total and deterministic' (their statements: YtjgocfgkmcopgaaTotals.lean).
  GIVEN WITH THE SEED: the statements are not yours to turn. If you find one false, say at which input.
  Laid BY PROGRAM, IN A SANDBOX (cutbox-rows.mjs): the forced cells as the released guide's own fill.sh prints them over the translation 63ba608cb92013d3… (all of the seat's roots in one cut). By AI agents, Wed Nov 11 2026. No macro, syntax, notation, axiom, sorry.
-/
import Derived.Test.YtjgocfgkmcopgaaChecked
import GoSem.Claim
import GoSem.ClaimJoined
import GoSem.ClaimMapViews
import Derived.JoinedTies
import Derived.KernelRfl
namespace Go.Proofs.Ytjgocfgkmcopgaa
/- THE CELL 'sum', in the pinned program and in every row, IS THE sha256 OF THE DUMP (.gsa) THAT YtjgocfgkmcopgaaProg.lean LOADS. Nothing in Lean hashes anything: it is a label: what it is worth is what the hold of that sum in a sandbox is worth. -/
noncomputable def Try.pinned : Pinned := { name := "ytjgocfgkmcopgaa", sum := "63ba608cb92013d36b1ecbef75b95c53140a5c0552a17d1b36120ecef606d0e8", checked := Try.checked }
namespace Rows
def none {H : Type} : Left H := { results := [], args := [] }

/-- 'plimsolllaw11.CallsOf': WHATEVER THE INPUT: true; the input reads as it did. -/
def callsOfSpec : ChangeSpec := { name := "callsOf", fn := fun _ => fun
  | [d1, d2] => { results := [.lit (.bool true)], args := [d1, d2] }
  | _ => none }
def callsOfRow : OpenClaim := { program := "ytjgocfgkmcopgaa", sum := "63ba608cb92013d36b1ecbef75b95c53140a5c0552a17d1b36120ecef606d0e8", func := "plimsoll/plimsolllaw11.CallsOf", spec := "callsOf", recurses := true, apart := false }
def CallsOfSaid : Prop := callsOfRow.holds Try.pinned (OpenSpec.ofChange callsOfSpec)

/-- ITS FALSE NEIGHBOUR: 'it returns false'. Refute it at one input. -/
def callsOfWrong : ChangeSpec := { name := "callsOf", fn := fun _ => fun
  | [d1, d2] => { results := [.lit (.bool false)], args := [d1, d2] }
  | _ => none }
def CallsOfWrongFalsely : Prop := callsOfRow.holds Try.pinned (OpenSpec.ofChange callsOfWrong)

/-- 'plimsolllaw11.CallsReach': WHATEVER THE INPUT: true; the input reads as it did. -/
def callsReachSpec : ChangeSpec := { name := "callsReach", fn := fun _ => fun
  | [d] => { results := [.lit (.bool true)], args := [d] }
  | _ => none }
def callsReachRow : OpenClaim := { program := "ytjgocfgkmcopgaa", sum := "63ba608cb92013d36b1ecbef75b95c53140a5c0552a17d1b36120ecef606d0e8", func := "plimsoll/plimsolllaw11.CallsReach", spec := "callsReach", recurses := true, apart := false }
def CallsReachSaid : Prop := callsReachRow.holds Try.pinned (OpenSpec.ofChange callsReachSpec)

/-- ITS FALSE NEIGHBOUR: 'it returns false'. Refute it at one input. -/
def callsReachWrong : ChangeSpec := { name := "callsReach", fn := fun _ => fun
  | [d] => { results := [.lit (.bool false)], args := [d] }
  | _ => none }
def CallsReachWrongFalsely : Prop := callsReachRow.holds Try.pinned (OpenSpec.ofChange callsReachWrong)

/-- 'plimsolllaw11.CallsClosed': WHATEVER THE INPUT: true; the input reads as it did. -/
def callsClosedSpec : ChangeSpec := { name := "callsClosed", fn := fun _ => fun
  | [d] => { results := [.lit (.bool true)], args := [d] }
  | _ => none }
def callsClosedRow : OpenClaim := { program := "ytjgocfgkmcopgaa", sum := "63ba608cb92013d36b1ecbef75b95c53140a5c0552a17d1b36120ecef606d0e8", func := "plimsoll/plimsolllaw11.CallsClosed", spec := "callsClosed", recurses := true, apart := false }
def CallsClosedSaid : Prop := callsClosedRow.holds Try.pinned (OpenSpec.ofChange callsClosedSpec)

/-- ITS FALSE NEIGHBOUR: 'it returns false'. Refute it at one input. -/
def callsClosedWrong : ChangeSpec := { name := "callsClosed", fn := fun _ => fun
  | [d] => { results := [.lit (.bool false)], args := [d] }
  | _ => none }
def CallsClosedWrongFalsely : Prop := callsClosedRow.holds Try.pinned (OpenSpec.ofChange callsClosedWrong)

/-- 'plimsolllaw13.DepthBounds': WHATEVER THE INPUT: true; the input reads as it did. -/
def depthBoundsSpec : ChangeSpec := { name := "depthBounds", fn := fun _ => fun
  | [d] => { results := [.lit (.bool true)], args := [d] }
  | _ => none }
def depthBoundsRow : OpenClaim := { program := "ytjgocfgkmcopgaa", sum := "63ba608cb92013d36b1ecbef75b95c53140a5c0552a17d1b36120ecef606d0e8", func := "plimsoll/plimsolllaw13.DepthBounds", spec := "depthBounds", unfollowed := true, recurses := true, apart := false }
def DepthBoundsSaid : Prop := depthBoundsRow.holds Try.pinned (OpenSpec.ofChange depthBoundsSpec)

/-- ITS FALSE NEIGHBOUR: 'it returns false'. Refute it at one input. -/
def depthBoundsWrong : ChangeSpec := { name := "depthBounds", fn := fun _ => fun
  | [d] => { results := [.lit (.bool false)], args := [d] }
  | _ => none }
def DepthBoundsWrongFalsely : Prop := depthBoundsRow.holds Try.pinned (OpenSpec.ofChange depthBoundsWrong)

/-- 'plimsolllaw13.DepthCalls': WHATEVER THE INPUT: true; the input reads as it did. -/
def depthCallsSpec : ChangeSpec := { name := "depthCalls", fn := fun _ => fun
  | [d] => { results := [.lit (.bool true)], args := [d] }
  | _ => none }
def depthCallsRow : OpenClaim := { program := "ytjgocfgkmcopgaa", sum := "63ba608cb92013d36b1ecbef75b95c53140a5c0552a17d1b36120ecef606d0e8", func := "plimsoll/plimsolllaw13.DepthCalls", spec := "depthCalls", unfollowed := true, recurses := true, apart := false }
def DepthCallsSaid : Prop := depthCallsRow.holds Try.pinned (OpenSpec.ofChange depthCallsSpec)

/-- ITS FALSE NEIGHBOUR: 'it returns false'. Refute it at one input. -/
def depthCallsWrong : ChangeSpec := { name := "depthCalls", fn := fun _ => fun
  | [d] => { results := [.lit (.bool false)], args := [d] }
  | _ => none }
def DepthCallsWrongFalsely : Prop := depthCallsRow.holds Try.pinned (OpenSpec.ofChange depthCallsWrong)

/-- 'plimsolllaw13.DepthRing': WHATEVER THE INPUT: true; the input reads as it did. -/
def depthRingSpec : ChangeSpec := { name := "depthRing", fn := fun _ => fun
  | [d] => { results := [.lit (.bool true)], args := [d] }
  | _ => none }
def depthRingRow : OpenClaim := { program := "ytjgocfgkmcopgaa", sum := "63ba608cb92013d36b1ecbef75b95c53140a5c0552a17d1b36120ecef606d0e8", func := "plimsoll/plimsolllaw13.DepthRing", spec := "depthRing", unfollowed := true, recurses := true, apart := false }
def DepthRingSaid : Prop := depthRingRow.holds Try.pinned (OpenSpec.ofChange depthRingSpec)

/-- ITS FALSE NEIGHBOUR: 'it returns false'. Refute it at one input. -/
def depthRingWrong : ChangeSpec := { name := "depthRing", fn := fun _ => fun
  | [d] => { results := [.lit (.bool false)], args := [d] }
  | _ => none }
def DepthRingWrongFalsely : Prop := depthRingRow.holds Try.pinned (OpenSpec.ofChange depthRingWrong)

/- THE SECOND FORM. 'bulk': how many values and letters a reading holds, each counted each time it is reached (what is shared counts as often as it is met; a slice's spare places count too). A statement '..UptoSaid' is the law's where the arguments, and the package variables that the reading takes, are together of bulk at most 1048576: NARROWER than '..Said'. Prove '..Said' where nothing that the law and all that it calls make is longer than what came in: it says more and counts as full. Else prove '..UptoSaid'. A law counts once. -/
mutual
def uptoBulk {H : Type} : DataW H → Nat
  | .lit (.string bytes) => bytes.length + 1
  | .lit _ => 1
  | .nil => 1
  | .ptr d => uptoBulk d + 1
  | .slice elems spare => uptoBulkAll elems + uptoBulkAll spare + 1
  | .agg parts => uptoBulkAll parts + 1
  | .iface _ d => uptoBulk d + 1
  | .map entries => uptoBulkEntries entries + 1
  | .held _ => 1
def uptoBulkAll {H : Type} : List (DataW H) → Nat
  | [] => 0
  | d :: r => uptoBulk d + uptoBulkAll r
def uptoBulkEntries {H : Type} : List (Lit × DataW H) → Nat
  | [] => 0
  | x :: r => uptoBulkEntry x + uptoBulkEntries r
def uptoBulkEntry {H : Type} : Lit × DataW H → Nat
  | (.string bytes, d) => bytes.length + uptoBulk d + 1
  | (_, d) => uptoBulk d + 1
 end
def uptoSmall : (H : Type) → List (DataW H) → Bool := fun _ ds => decide (uptoBulkAll ds ≤ 1048576)
def OpenSpec.upto (s : _root_.Go.ChangeSpec) : _root_.Go.OpenSpec := { _root_.Go.OpenSpec.ofChange s with cond := some uptoSmall }

/-- 'plimsolllaw11.CallsOf', WHERE WHAT IT READS IS OF BULK AT MOST 1048576: true; the input reads as it did. -/
def callsOfUptoRow : OpenClaim := { program := "ytjgocfgkmcopgaa", sum := "63ba608cb92013d36b1ecbef75b95c53140a5c0552a17d1b36120ecef606d0e8", func := "plimsoll/plimsolllaw11.CallsOf", spec := "callsOf", recurses := true, apart := false, narrowed := true }
def CallsOfUptoSaid : Prop := callsOfUptoRow.holds Try.pinned (OpenSpec.upto callsOfSpec)

/-- 'plimsolllaw11.CallsReach', WHERE WHAT IT READS IS OF BULK AT MOST 1048576: true; the input reads as it did. -/
def callsReachUptoRow : OpenClaim := { program := "ytjgocfgkmcopgaa", sum := "63ba608cb92013d36b1ecbef75b95c53140a5c0552a17d1b36120ecef606d0e8", func := "plimsoll/plimsolllaw11.CallsReach", spec := "callsReach", recurses := true, apart := false, narrowed := true }
def CallsReachUptoSaid : Prop := callsReachUptoRow.holds Try.pinned (OpenSpec.upto callsReachSpec)

/-- 'plimsolllaw11.CallsClosed', WHERE WHAT IT READS IS OF BULK AT MOST 1048576: true; the input reads as it did. -/
def callsClosedUptoRow : OpenClaim := { program := "ytjgocfgkmcopgaa", sum := "63ba608cb92013d36b1ecbef75b95c53140a5c0552a17d1b36120ecef606d0e8", func := "plimsoll/plimsolllaw11.CallsClosed", spec := "callsClosed", recurses := true, apart := false, narrowed := true }
def CallsClosedUptoSaid : Prop := callsClosedUptoRow.holds Try.pinned (OpenSpec.upto callsClosedSpec)

/-- 'plimsolllaw13.DepthBounds', WHERE WHAT IT READS IS OF BULK AT MOST 1048576: true; the input reads as it did. -/
def depthBoundsUptoRow : OpenClaim := { program := "ytjgocfgkmcopgaa", sum := "63ba608cb92013d36b1ecbef75b95c53140a5c0552a17d1b36120ecef606d0e8", func := "plimsoll/plimsolllaw13.DepthBounds", spec := "depthBounds", unfollowed := true, recurses := true, apart := false, narrowed := true }
def DepthBoundsUptoSaid : Prop := depthBoundsUptoRow.holds Try.pinned (OpenSpec.upto depthBoundsSpec)

/-- 'plimsolllaw13.DepthCalls', WHERE WHAT IT READS IS OF BULK AT MOST 1048576: true; the input reads as it did. -/
def depthCallsUptoRow : OpenClaim := { program := "ytjgocfgkmcopgaa", sum := "63ba608cb92013d36b1ecbef75b95c53140a5c0552a17d1b36120ecef606d0e8", func := "plimsoll/plimsolllaw13.DepthCalls", spec := "depthCalls", unfollowed := true, recurses := true, apart := false, narrowed := true }
def DepthCallsUptoSaid : Prop := depthCallsUptoRow.holds Try.pinned (OpenSpec.upto depthCallsSpec)

/-- 'plimsolllaw13.DepthRing', WHERE WHAT IT READS IS OF BULK AT MOST 1048576: true; the input reads as it did. -/
def depthRingUptoRow : OpenClaim := { program := "ytjgocfgkmcopgaa", sum := "63ba608cb92013d36b1ecbef75b95c53140a5c0552a17d1b36120ecef606d0e8", func := "plimsoll/plimsolllaw13.DepthRing", spec := "depthRing", unfollowed := true, recurses := true, apart := false, narrowed := true }
def DepthRingUptoSaid : Prop := depthRingUptoRow.holds Try.pinned (OpenSpec.upto depthRingSpec)

end Rows
end Go.Proofs.Ytjgocfgkmcopgaa
