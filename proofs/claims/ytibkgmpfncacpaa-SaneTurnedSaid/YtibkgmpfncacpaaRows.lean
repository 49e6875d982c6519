/-
  No cell of these rows narrows 'for every input' (looked for: loops, veiled, ifaces, maps, wideKeys, modest, calm, conditions, laid).
  DERIVED. THE GIVEN ROWS OF THIS SEAT. 8 by the template 'for every input the law returns true; each argument reads behind the call as it read before'; 0 by the template 'total and deterministic' (their statements: YtibkgmpfncacpaaTotals.lean).
  GIVEN WITH THE SEED: the statements are not yours to turn. If you find one false, say at which input.
  Laid BY PROGRAM, IN A SANDBOX (cutbox-rows.mjs): the forced cells as the released guide's own fill.sh prints them over the translation d1eee5fba35d2a50… (all of the seat's roots in one cut). By AI agents, Wed Nov 11 2026. No macro, syntax, notation, axiom, sorry.
-/
import Derived.Test.YtibkgmpfncacpaaChecked
import GoSem.Claim
import GoSem.ClaimJoined
import GoSem.ClaimMapViews
import Derived.JoinedTies
import Derived.KernelRfl
namespace Go.Proofs.Ytibkgmpfncacpaa
/- THE CELL 'sum', in the pinned program and in every row, IS THE sha256 OF THE DUMP (.gsa) THAT YtibkgmpfncacpaaProg.lean LOADS. Nothing in Lean hashes anything: it is a label: what it is worth is what the hold of that sum in a sandbox is worth. -/
noncomputable def Try.pinned : Pinned := { name := "ytibkgmpfncacpaa", sum := "d1eee5fba35d2a50ee2eb303d02d2520682a47e39dbe22d12a00b48a57e13e6e", checked := Try.checked }
namespace Rows
def none {H : Type} : Left H := { results := [], args := [] }

/-- 'plimsolllaw06.SaneChecks': WHATEVER THE INPUT: true; the input reads as it did. -/
def saneChecksSpec : ChangeSpec := { name := "saneChecks", fn := fun _ => fun
  | [d] => { results := [.lit (.bool true)], args := [d] }
  | _ => none }
def saneChecksRow : OpenClaim := { program := "ytibkgmpfncacpaa", sum := "d1eee5fba35d2a50ee2eb303d02d2520682a47e39dbe22d12a00b48a57e13e6e", func := "plimsoll/plimsolllaw06.SaneChecks", spec := "saneChecks", unfollowed := true, recurses := true, apart := false }
def SaneChecksSaid : Prop := saneChecksRow.holds Try.pinned (OpenSpec.ofChange saneChecksSpec)

/-- ITS FALSE NEIGHBOUR: 'it returns false'. Refute it at one input. -/
def saneChecksWrong : ChangeSpec := { name := "saneChecks", fn := fun _ => fun
  | [d] => { results := [.lit (.bool false)], args := [d] }
  | _ => none }
def SaneChecksWrongFalsely : Prop := saneChecksRow.holds Try.pinned (OpenSpec.ofChange saneChecksWrong)

/-- 'plimsolllaw06.SaneTurned': WHATEVER THE INPUT: true; the input reads as it did. -/
def saneTurnedSpec : ChangeSpec := { name := "saneTurned", fn := fun _ => fun
  | [d1, d2, d3, d4, d5] => { results := [.lit (.bool true)], args := [d1, d2, d3, d4, d5] }
  | _ => none }
def saneTurnedRow : OpenClaim := { program := "ytibkgmpfncacpaa", sum := "d1eee5fba35d2a50ee2eb303d02d2520682a47e39dbe22d12a00b48a57e13e6e", func := "plimsoll/plimsolllaw06.SaneTurned", spec := "saneTurned", unfollowed := true, recurses := true, apart := false }
def SaneTurnedSaid : Prop := saneTurnedRow.holds Try.pinned (OpenSpec.ofChange saneTurnedSpec)

/-- ITS FALSE NEIGHBOUR: 'it returns false'. Refute it at one input. -/
def saneTurnedWrong : ChangeSpec := { name := "saneTurned", fn := fun _ => fun
  | [d1, d2, d3, d4, d5] => { results := [.lit (.bool false)], args := [d1, d2, d3, d4, d5] }
  | _ => none }
def SaneTurnedWrongFalsely : Prop := saneTurnedRow.holds Try.pinned (OpenSpec.ofChange saneTurnedWrong)

/-- 'plimsolllaw06.SaneParts': WHATEVER THE INPUT: true; the input reads as it did. -/
def sanePartsSpec : ChangeSpec := { name := "saneParts", fn := fun _ => fun
  | [d1, d2] => { results := [.lit (.bool true)], args := [d1, d2] }
  | _ => none }
def sanePartsRow : OpenClaim := { program := "ytibkgmpfncacpaa", sum := "d1eee5fba35d2a50ee2eb303d02d2520682a47e39dbe22d12a00b48a57e13e6e", func := "plimsoll/plimsolllaw06.SaneParts", spec := "saneParts", unfollowed := true, recurses := true, apart := false }
def SanePartsSaid : Prop := sanePartsRow.holds Try.pinned (OpenSpec.ofChange sanePartsSpec)

/-- ITS FALSE NEIGHBOUR: 'it returns false'. Refute it at one input. -/
def sanePartsWrong : ChangeSpec := { name := "saneParts", fn := fun _ => fun
  | [d1, d2] => { results := [.lit (.bool false)], args := [d1, d2] }
  | _ => none }
def SanePartsWrongFalsely : Prop := sanePartsRow.holds Try.pinned (OpenSpec.ofChange sanePartsWrong)

/-- 'plimsolllaw05.ImageEncodes': WHATEVER THE INPUT: true; the input reads as it did. -/
def imageEncodesSpec : ChangeSpec := { name := "imageEncodes", fn := fun _ => fun
  | [d] => { results := [.lit (.bool true)], args := [d] }
  | _ => none }
def imageEncodesRow : OpenClaim := { program := "ytibkgmpfncacpaa", sum := "d1eee5fba35d2a50ee2eb303d02d2520682a47e39dbe22d12a00b48a57e13e6e", func := "plimsoll/plimsolllaw05.ImageEncodes", spec := "imageEncodes", unfollowed := true, recurses := true, apart := false }
def ImageEncodesSaid : Prop := imageEncodesRow.holds Try.pinned (OpenSpec.ofChange imageEncodesSpec)

/-- ITS FALSE NEIGHBOUR: 'it returns false'. Refute it at one input. -/
def imageEncodesWrong : ChangeSpec := { name := "imageEncodes", fn := fun _ => fun
  | [d] => { results := [.lit (.bool false)], args := [d] }
  | _ => none }
def ImageEncodesWrongFalsely : Prop := imageEncodesRow.holds Try.pinned (OpenSpec.ofChange imageEncodesWrong)

/-- 'plimsolllaw05.ImageDecodes': WHATEVER THE INPUT: true; the input reads as it did. -/
def imageDecodesSpec : ChangeSpec := { name := "imageDecodes", fn := fun _ => fun
  | [d] => { results := [.lit (.bool true)], args := [d] }
  | _ => none }
def imageDecodesRow : OpenClaim := { program := "ytibkgmpfncacpaa", sum := "d1eee5fba35d2a50ee2eb303d02d2520682a47e39dbe22d12a00b48a57e13e6e", func := "plimsoll/plimsolllaw05.ImageDecodes", spec := "imageDecodes", unfollowed := true, recurses := true, apart := false }
def ImageDecodesSaid : Prop := imageDecodesRow.holds Try.pinned (OpenSpec.ofChange imageDecodesSpec)

/-- ITS FALSE NEIGHBOUR: 'it returns false'. Refute it at one input. -/
def imageDecodesWrong : ChangeSpec := { name := "imageDecodes", fn := fun _ => fun
  | [d] => { results := [.lit (.bool false)], args := [d] }
  | _ => none }
def ImageDecodesWrongFalsely : Prop := imageDecodesRow.holds Try.pinned (OpenSpec.ofChange imageDecodesWrong)

/-- 'plimsolllaw05.ImageSames': WHATEVER THE INPUT: true; the input reads as it did. -/
def imageSamesSpec : ChangeSpec := { name := "imageSames", fn := fun _ => fun
  | [d1, d2] => { results := [.lit (.bool true)], args := [d1, d2] }
  | _ => none }
def imageSamesRow : OpenClaim := { program := "ytibkgmpfncacpaa", sum := "d1eee5fba35d2a50ee2eb303d02d2520682a47e39dbe22d12a00b48a57e13e6e", func := "plimsoll/plimsolllaw05.ImageSames", spec := "imageSames", unfollowed := true, recurses := true, apart := false }
def ImageSamesSaid : Prop := imageSamesRow.holds Try.pinned (OpenSpec.ofChange imageSamesSpec)

/-- ITS FALSE NEIGHBOUR: 'it returns false'. Refute it at one input. -/
def imageSamesWrong : ChangeSpec := { name := "imageSames", fn := fun _ => fun
  | [d1, d2] => { results := [.lit (.bool false)], args := [d1, d2] }
  | _ => none }
def ImageSamesWrongFalsely : Prop := imageSamesRow.holds Try.pinned (OpenSpec.ofChange imageSamesWrong)

/-- 'plimsolllaw05.ImageTurned': WHATEVER THE INPUT: true; the input reads as it did. -/
def imageTurnedSpec : ChangeSpec := { name := "imageTurned", fn := fun _ => fun
  | [d1, d2, d3] => { results := [.lit (.bool true)], args := [d1, d2, d3] }
  | _ => none }
def imageTurnedRow : OpenClaim := { program := "ytibkgmpfncacpaa", sum := "d1eee5fba35d2a50ee2eb303d02d2520682a47e39dbe22d12a00b48a57e13e6e", func := "plimsoll/plimsolllaw05.ImageTurned", spec := "imageTurned", unfollowed := true, recurses := true, apart := false }
def ImageTurnedSaid : Prop := imageTurnedRow.holds Try.pinned (OpenSpec.ofChange imageTurnedSpec)

/-- ITS FALSE NEIGHBOUR: 'it returns false'. Refute it at one input. -/
def imageTurnedWrong : ChangeSpec := { name := "imageTurned", fn := fun _ => fun
  | [d1, d2, d3] => { results := [.lit (.bool false)], args := [d1, d2, d3] }
  | _ => none }
def ImageTurnedWrongFalsely : Prop := imageTurnedRow.holds Try.pinned (OpenSpec.ofChange imageTurnedWrong)

/-- 'plimsolllaw05.ImageCuts': WHATEVER THE INPUT: true; the input reads as it did. -/
def imageCutsSpec : ChangeSpec := { name := "imageCuts", fn := fun _ => fun
  | [d1, d2, d3] => { results := [.lit (.bool true)], args := [d1, d2, d3] }
  | _ => none }
def imageCutsRow : OpenClaim := { program := "ytibkgmpfncacpaa", sum := "d1eee5fba35d2a50ee2eb303d02d2520682a47e39dbe22d12a00b48a57e13e6e", func := "plimsoll/plimsolllaw05.ImageCuts", spec := "imageCuts", unfollowed := true, recurses := true, apart := false }
def ImageCutsSaid : Prop := imageCutsRow.holds Try.pinned (OpenSpec.ofChange imageCutsSpec)

/-- ITS FALSE NEIGHBOUR: 'it returns false'. Refute it at one input. -/
def imageCutsWrong : ChangeSpec := { name := "imageCuts", fn := fun _ => fun
  | [d1, d2, d3] => { results := [.lit (.bool false)], args := [d1, d2, d3] }
  | _ => none }
def ImageCutsWrongFalsely : Prop := imageCutsRow.holds Try.pinned (OpenSpec.ofChange imageCutsWrong)

/- THE SECOND FORM. 'bulk': how many values and letters a reading holds, each counted each time it is reached (what is shared counts as often as it is met; a slice's spare places count too). A statement '..UptoSaid' is the law's where the arguments, and the package variables that the reading takes, are together of bulk at most 1048576: NARROWER than '..Said'. Prove '..Said' where nothing that the law and all that it calls make is longer than what came in: it says more and counts as full. Else prove '..UptoSaid'. A law counts once. -/
mutual
def uptoBulk {H : Type} : DataW H → Nat
  | .lit (.string bytes) => bytes.length + 1
  | .lit _ => 1
  | .nil => 1
  | .ptr d => uptoBulk d + 1
  | .slice elems spare => uptoBulkAll elems + uptoBulkAll spare + 1
  | .agg parts => uptoBulkAll parts + 1
  | .iface _ d => uptoBulk d + 1
  | .map entries => uptoBulkEntries entries + 1
  | .held _ => 1
def uptoBulkAll {H : Type} : List (DataW H) → Nat
  | [] => 0
  | d :: r => uptoBulk d + uptoBulkAll r
def uptoBulkEntries {H : Type} : List (Lit × DataW H) → Nat
  | [] => 0
  | x :: r => uptoBulkEntry x + uptoBulkEntries r
def uptoBulkEntry {H : Type} : Lit × DataW H → Nat
  | (.string bytes, d) => bytes.length + uptoBulk d + 1
  | (_, d) => uptoBulk d + 1
 end
def uptoSmall : (H : Type) → List (DataW H) → Bool := fun _ ds => decide (uptoBulkAll ds ≤ 1048576)
def OpenSpec.upto (s : _root_.Go.ChangeSpec) : _root_.Go.OpenSpec := { _root_.Go.OpenSpec.ofChange s with cond := some uptoSmall }

/-- 'plimsolllaw06.SaneChecks', WHERE WHAT IT READS IS OF BULK AT MOST 1048576: true; the input reads as it did. -/
def saneChecksUptoRow : OpenClaim := { program := "ytibkgmpfncacpaa", sum := "d1eee5fba35d2a50ee2eb303d02d2520682a47e39dbe22d12a00b48a57e13e6e", func := "plimsoll/plimsolllaw06.SaneChecks", spec := "saneChecks", unfollowed := true, recurses := true, apart := false, narrowed := true }
def SaneChecksUptoSaid : Prop := saneChecksUptoRow.holds Try.pinned (OpenSpec.upto saneChecksSpec)

/-- 'plimsolllaw06.SaneTurned', WHERE WHAT IT READS IS OF BULK AT MOST 1048576: true; the input reads as it did. -/
def saneTurnedUptoRow : OpenClaim := { program := "ytibkgmpfncacpaa", sum := "d1eee5fba35d2a50ee2eb303d02d2520682a47e39dbe22d12a00b48a57e13e6e", func := "plimsoll/plimsolllaw06.SaneTurned", spec := "saneTurned", unfollowed := true, recurses := true, apart := false, narrowed := true }
def SaneTurnedUptoSaid : Prop := saneTurnedUptoRow.holds Try.pinned (OpenSpec.upto saneTurnedSpec)

/-- 'plimsolllaw06.SaneParts', WHERE WHAT IT READS IS OF BULK AT MOST 1048576: true; the input reads as it did. -/
def sanePartsUptoRow : OpenClaim := { program := "ytibkgmpfncacpaa", sum := "d1eee5fba35d2a50ee2eb303d02d2520682a47e39dbe22d12a00b48a57e13e6e", func := "plimsoll/plimsolllaw06.SaneParts", spec := "saneParts", unfollowed := true, recurses := true, apart := false, narrowed := true }
def SanePartsUptoSaid : Prop := sanePartsUptoRow.holds Try.pinned (OpenSpec.upto sanePartsSpec)

/-- 'plimsolllaw05.ImageEncodes', WHERE WHAT IT READS IS OF BULK AT MOST 1048576: true; the input reads as it did. -/
def imageEncodesUptoRow : OpenClaim := { program := "ytibkgmpfncacpaa", sum := "d1eee5fba35d2a50ee2eb303d02d2520682a47e39dbe22d12a00b48a57e13e6e", func := "plimsoll/plimsolllaw05.ImageEncodes", spec := "imageEncodes", unfollowed := true, recurses := true, apart := false, narrowed := true }
def ImageEncodesUptoSaid : Prop := imageEncodesUptoRow.holds Try.pinned (OpenSpec.upto imageEncodesSpec)

/-- 'plimsolllaw05.ImageDecodes', WHERE WHAT IT READS IS OF BULK AT MOST 1048576: true; the input reads as it did. -/
def imageDecodesUptoRow : OpenClaim := { program := "ytibkgmpfncacpaa", sum := "d1eee5fba35d2a50ee2eb303d02d2520682a47e39dbe22d12a00b48a57e13e6e", func := "plimsoll/plimsolllaw05.ImageDecodes", spec := "imageDecodes", unfollowed := true, recurses := true, apart := false, narrowed := true }
def ImageDecodesUptoSaid : Prop := imageDecodesUptoRow.holds Try.pinned (OpenSpec.upto imageDecodesSpec)

/-- 'plimsolllaw05.ImageSames', WHERE WHAT IT READS IS OF BULK AT MOST 1048576: true; the input reads as it did. -/
def imageSamesUptoRow : OpenClaim := { program := "ytibkgmpfncacpaa", sum := "d1eee5fba35d2a50ee2eb303d02d2520682a47e39dbe22d12a00b48a57e13e6e", func := "plimsoll/plimsolllaw05.ImageSames", spec := "imageSames", unfollowed := true, recurses := true, apart := false, narrowed := true }
def ImageSamesUptoSaid : Prop := imageSamesUptoRow.holds Try.pinned (OpenSpec.upto imageSamesSpec)

/-- 'plimsolllaw05.ImageTurned', WHERE WHAT IT READS IS OF BULK AT MOST 1048576: true; the input reads as it did. -/
def imageTurnedUptoRow : OpenClaim := { program := "ytibkgmpfncacpaa", sum := "d1eee5fba35d2a50ee2eb303d02d2520682a47e39dbe22d12a00b48a57e13e6e", func := "plimsoll/plimsolllaw05.ImageTurned", spec := "imageTurned", unfollowed := true, recurses := true, apart := false, narrowed := true }
def ImageTurnedUptoSaid : Prop := imageTurnedUptoRow.holds Try.pinned (OpenSpec.upto imageTurnedSpec)

/-- 'plimsolllaw05.ImageCuts', WHERE WHAT IT READS IS OF BULK AT MOST 1048576: true; the input reads as it did. -/
def imageCutsUptoRow : OpenClaim := { program := "ytibkgmpfncacpaa", sum := "d1eee5fba35d2a50ee2eb303d02d2520682a47e39dbe22d12a00b48a57e13e6e", func := "plimsoll/plimsolllaw05.ImageCuts", spec := "imageCuts", unfollowed := true, recurses := true, apart := false, narrowed := true }
def ImageCutsUptoSaid : Prop := imageCutsUptoRow.holds Try.pinned (OpenSpec.upto imageCutsSpec)

end Rows
end Go.Proofs.Ytibkgmpfncacpaa
