/-
  No cell of these rows narrows 'for every input' (looked for: loops, veiled, ifaces, maps, wideKeys, modest, calm, conditions, laid).
  DERIVED. THE GIVEN ROWS OF THIS SEAT. 9 by the template 'for every input the law returns true; each argument reads behind the call as it read before'; 0 by the template 'total and deterministic' (their statements: YtifcchajbahdiaaTotals.lean).
  GIVEN WITH THE SEED: the statements are not yours to turn. If you find one false, say at which input.
  Laid BY PROGRAM, IN A SANDBOX (cutbox-rows.mjs): the forced cells as the released guide's own fill.sh prints them over the translation 8013ef35b574c287… (all of the seat's roots in one cut). By AI agents, Wed Nov 11 2026. No macro, syntax, notation, axiom, sorry.
-/
import Derived.Test.YtifcchajbahdiaaChecked
import GoSem.Claim
import GoSem.ClaimJoined
import GoSem.ClaimMapViews
import Derived.JoinedTies
import Derived.KernelRfl
namespace Go.Proofs.Ytifcchajbahdiaa
/- THE CELL 'sum', in the pinned program and in every row, IS THE sha256 OF THE DUMP (.gsa) THAT YtifcchajbahdiaaProg.lean LOADS. Nothing in Lean hashes anything: it is a label: what it is worth is what the hold of that sum in a sandbox is worth. -/
noncomputable def Try.pinned : Pinned := { name := "ytifcchajbahdiaa", sum := "8013ef35b574c2875504acd427f77c3a6540e0780f9718112483ea6c41be0530", checked := Try.checked }
namespace Rows
def none {H : Type} : Left H := { results := [], args := [] }

/-- 'plimsolllaw02.BitsPuts': WHATEVER THE INPUT: true; the input reads as it did. -/
def bitsPutsSpec : ChangeSpec := { name := "bitsPuts", fn := fun _ => fun
  | [d1, d2, d3] => { results := [.lit (.bool true)], args := [d1, d2, d3] }
  | _ => none }
def bitsPutsRow : OpenClaim := { program := "ytifcchajbahdiaa", sum := "8013ef35b574c2875504acd427f77c3a6540e0780f9718112483ea6c41be0530", func := "plimsoll/plimsolllaw02.BitsPuts", spec := "bitsPuts", apart := false }
def BitsPutsSaid : Prop := bitsPutsRow.holds Try.pinned (OpenSpec.ofChange bitsPutsSpec)

/-- ITS FALSE NEIGHBOUR: 'it returns false'. Refute it at one input. -/
def bitsPutsWrong : ChangeSpec := { name := "bitsPuts", fn := fun _ => fun
  | [d1, d2, d3] => { results := [.lit (.bool false)], args := [d1, d2, d3] }
  | _ => none }
def BitsPutsWrongFalsely : Prop := bitsPutsRow.holds Try.pinned (OpenSpec.ofChange bitsPutsWrong)

/-- 'plimsolllaw02.BitsGets': WHATEVER THE INPUT: true; the input reads as it did. -/
def bitsGetsSpec : ChangeSpec := { name := "bitsGets", fn := fun _ => fun
  | [d1, d2] => { results := [.lit (.bool true)], args := [d1, d2] }
  | _ => none }
def bitsGetsRow : OpenClaim := { program := "ytifcchajbahdiaa", sum := "8013ef35b574c2875504acd427f77c3a6540e0780f9718112483ea6c41be0530", func := "plimsoll/plimsolllaw02.BitsGets", spec := "bitsGets", apart := false }
def BitsGetsSaid : Prop := bitsGetsRow.holds Try.pinned (OpenSpec.ofChange bitsGetsSpec)

/-- ITS FALSE NEIGHBOUR: 'it returns false'. Refute it at one input. -/
def bitsGetsWrong : ChangeSpec := { name := "bitsGets", fn := fun _ => fun
  | [d1, d2] => { results := [.lit (.bool false)], args := [d1, d2] }
  | _ => none }
def BitsGetsWrongFalsely : Prop := bitsGetsRow.holds Try.pinned (OpenSpec.ofChange bitsGetsWrong)

/-- 'plimsolllaw02.BitsBack': WHATEVER THE INPUT: true; the input reads as it did. -/
def bitsBackSpec : ChangeSpec := { name := "bitsBack", fn := fun _ => fun
  | [d1, d2] => { results := [.lit (.bool true)], args := [d1, d2] }
  | _ => none }
def bitsBackRow : OpenClaim := { program := "ytifcchajbahdiaa", sum := "8013ef35b574c2875504acd427f77c3a6540e0780f9718112483ea6c41be0530", func := "plimsoll/plimsolllaw02.BitsBack", spec := "bitsBack", apart := false }
def BitsBackSaid : Prop := bitsBackRow.holds Try.pinned (OpenSpec.ofChange bitsBackSpec)

/-- ITS FALSE NEIGHBOUR: 'it returns false'. Refute it at one input. -/
def bitsBackWrong : ChangeSpec := { name := "bitsBack", fn := fun _ => fun
  | [d1, d2] => { results := [.lit (.bool false)], args := [d1, d2] }
  | _ => none }
def BitsBackWrongFalsely : Prop := bitsBackRow.holds Try.pinned (OpenSpec.ofChange bitsBackWrong)

/-- 'plimsolllaw02.BitsNone': WHATEVER THE INPUT: true; the input reads as it did. -/
def bitsNoneSpec : ChangeSpec := { name := "bitsNone", fn := fun _ => fun
  | [d] => { results := [.lit (.bool true)], args := [d] }
  | _ => none }
def bitsNoneRow : OpenClaim := { program := "ytifcchajbahdiaa", sum := "8013ef35b574c2875504acd427f77c3a6540e0780f9718112483ea6c41be0530", func := "plimsoll/plimsolllaw02.BitsNone", spec := "bitsNone", apart := false }
def BitsNoneSaid : Prop := bitsNoneRow.holds Try.pinned (OpenSpec.ofChange bitsNoneSpec)

/-- ITS FALSE NEIGHBOUR: 'it returns false'. Refute it at one input. -/
def bitsNoneWrong : ChangeSpec := { name := "bitsNone", fn := fun _ => fun
  | [d] => { results := [.lit (.bool false)], args := [d] }
  | _ => none }
def BitsNoneWrongFalsely : Prop := bitsNoneRow.holds Try.pinned (OpenSpec.ofChange bitsNoneWrong)

/-- 'plimsolllaw02.BitsShort': WHATEVER THE INPUT: true; the input reads as it did. -/
def bitsShortSpec : ChangeSpec := { name := "bitsShort", fn := fun _ => fun
  | [d1, d2] => { results := [.lit (.bool true)], args := [d1, d2] }
  | _ => none }
def bitsShortRow : OpenClaim := { program := "ytifcchajbahdiaa", sum := "8013ef35b574c2875504acd427f77c3a6540e0780f9718112483ea6c41be0530", func := "plimsoll/plimsolllaw02.BitsShort", spec := "bitsShort", apart := false }
def BitsShortSaid : Prop := bitsShortRow.holds Try.pinned (OpenSpec.ofChange bitsShortSpec)

/-- ITS FALSE NEIGHBOUR: 'it returns false'. Refute it at one input. -/
def bitsShortWrong : ChangeSpec := { name := "bitsShort", fn := fun _ => fun
  | [d1, d2] => { results := [.lit (.bool false)], args := [d1, d2] }
  | _ => none }
def BitsShortWrongFalsely : Prop := bitsShortRow.holds Try.pinned (OpenSpec.ofChange bitsShortWrong)

/-- 'plimsolllaw04.InstKinds': WHATEVER THE INPUT: true; the input reads as it did. -/
def instKindsSpec : ChangeSpec := { name := "instKinds", fn := fun _ => fun
  | [d] => { results := [.lit (.bool true)], args := [d] }
  | _ => none }
def instKindsRow : OpenClaim := { program := "ytifcchajbahdiaa", sum := "8013ef35b574c2875504acd427f77c3a6540e0780f9718112483ea6c41be0530", func := "plimsoll/plimsolllaw04.InstKinds", spec := "instKinds", apart := false }
def InstKindsSaid : Prop := instKindsRow.holds Try.pinned (OpenSpec.ofChange instKindsSpec)

/-- ITS FALSE NEIGHBOUR: 'it returns false'. Refute it at one input. -/
def instKindsWrong : ChangeSpec := { name := "instKinds", fn := fun _ => fun
  | [d] => { results := [.lit (.bool false)], args := [d] }
  | _ => none }
def InstKindsWrongFalsely : Prop := instKindsRow.holds Try.pinned (OpenSpec.ofChange instKindsWrong)

/-- 'plimsolllaw04.InstPuts': WHATEVER THE INPUT: true; the input reads as it did. -/
def instPutsSpec : ChangeSpec := { name := "instPuts", fn := fun _ => fun
  | [d1, d2] => { results := [.lit (.bool true)], args := [d1, d2] }
  | _ => none }
def instPutsRow : OpenClaim := { program := "ytifcchajbahdiaa", sum := "8013ef35b574c2875504acd427f77c3a6540e0780f9718112483ea6c41be0530", func := "plimsoll/plimsolllaw04.InstPuts", spec := "instPuts", apart := false }
def InstPutsSaid : Prop := instPutsRow.holds Try.pinned (OpenSpec.ofChange instPutsSpec)

/-- ITS FALSE NEIGHBOUR: 'it returns false'. Refute it at one input. -/
def instPutsWrong : ChangeSpec := { name := "instPuts", fn := fun _ => fun
  | [d1, d2] => { results := [.lit (.bool false)], args := [d1, d2] }
  | _ => none }
def InstPutsWrongFalsely : Prop := instPutsRow.holds Try.pinned (OpenSpec.ofChange instPutsWrong)

/-- 'plimsolllaw04.InstRow': WHATEVER THE INPUT: true; the input reads as it did. -/
def instRowSpec : ChangeSpec := { name := "instRow", fn := fun _ => fun
  | [d] => { results := [.lit (.bool true)], args := [d] }
  | _ => none }
def instRowRow : OpenClaim := { program := "ytifcchajbahdiaa", sum := "8013ef35b574c2875504acd427f77c3a6540e0780f9718112483ea6c41be0530", func := "plimsoll/plimsolllaw04.InstRow", spec := "instRow", apart := false }
def InstRowSaid : Prop := instRowRow.holds Try.pinned (OpenSpec.ofChange instRowSpec)

/-- ITS FALSE NEIGHBOUR: 'it returns false'. Refute it at one input. -/
def instRowWrong : ChangeSpec := { name := "instRow", fn := fun _ => fun
  | [d] => { results := [.lit (.bool false)], args := [d] }
  | _ => none }
def InstRowWrongFalsely : Prop := instRowRow.holds Try.pinned (OpenSpec.ofChange instRowWrong)

/-- 'plimsolllaw04.InstGets': WHATEVER THE INPUT: true; the input reads as it did. -/
def instGetsSpec : ChangeSpec := { name := "instGets", fn := fun _ => fun
  | [d] => { results := [.lit (.bool true)], args := [d] }
  | _ => none }
def instGetsRow : OpenClaim := { program := "ytifcchajbahdiaa", sum := "8013ef35b574c2875504acd427f77c3a6540e0780f9718112483ea6c41be0530", func := "plimsoll/plimsolllaw04.InstGets", spec := "instGets", apart := false }
def InstGetsSaid : Prop := instGetsRow.holds Try.pinned (OpenSpec.ofChange instGetsSpec)

/-- ITS FALSE NEIGHBOUR: 'it returns false'. Refute it at one input. -/
def instGetsWrong : ChangeSpec := { name := "instGets", fn := fun _ => fun
  | [d] => { results := [.lit (.bool false)], args := [d] }
  | _ => none }
def InstGetsWrongFalsely : Prop := instGetsRow.holds Try.pinned (OpenSpec.ofChange instGetsWrong)

/- THE SECOND FORM. 'bulk': how many values and letters a reading holds, each counted each time it is reached (what is shared counts as often as it is met; a slice's spare places count too). A statement '..UptoSaid' is the law's where the arguments, and the package variables that the reading takes, are together of bulk at most 1048576: NARROWER than '..Said'. Prove '..Said' where nothing that the law and all that it calls make is longer than what came in: it says more and counts as full. Else prove '..UptoSaid'. A law counts once. -/
mutual
def uptoBulk {H : Type} : DataW H → Nat
  | .lit (.string bytes) => bytes.length + 1
  | .lit _ => 1
  | .nil => 1
  | .ptr d => uptoBulk d + 1
  | .slice elems spare => uptoBulkAll elems + uptoBulkAll spare + 1
  | .agg parts => uptoBulkAll parts + 1
  | .iface _ d => uptoBulk d + 1
  | .map entries => uptoBulkEntries entries + 1
  | .held _ => 1
def uptoBulkAll {H : Type} : List (DataW H) → Nat
  | [] => 0
  | d :: r => uptoBulk d + uptoBulkAll r
def uptoBulkEntries {H : Type} : List (Lit × DataW H) → Nat
  | [] => 0
  | x :: r => uptoBulkEntry x + uptoBulkEntries r
def uptoBulkEntry {H : Type} : Lit × DataW H → Nat
  | (.string bytes, d) => bytes.length + uptoBulk d + 1
  | (_, d) => uptoBulk d + 1
 end
def uptoSmall : (H : Type) → List (DataW H) → Bool := fun _ ds => decide (uptoBulkAll ds ≤ 1048576)
def OpenSpec.upto (s : _root_.Go.ChangeSpec) : _root_.Go.OpenSpec := { _root_.Go.OpenSpec.ofChange s with cond := some uptoSmall }

/-- 'plimsolllaw02.BitsPuts', WHERE WHAT IT READS IS OF BULK AT MOST 1048576: true; the input reads as it did. -/
def bitsPutsUptoRow : OpenClaim := { program := "ytifcchajbahdiaa", sum := "8013ef35b574c2875504acd427f77c3a6540e0780f9718112483ea6c41be0530", func := "plimsoll/plimsolllaw02.BitsPuts", spec := "bitsPuts", apart := false, narrowed := true }
def BitsPutsUptoSaid : Prop := bitsPutsUptoRow.holds Try.pinned (OpenSpec.upto bitsPutsSpec)

/-- 'plimsolllaw02.BitsGets', WHERE WHAT IT READS IS OF BULK AT MOST 1048576: true; the input reads as it did. -/
def bitsGetsUptoRow : OpenClaim := { program := "ytifcchajbahdiaa", sum := "8013ef35b574c2875504acd427f77c3a6540e0780f9718112483ea6c41be0530", func := "plimsoll/plimsolllaw02.BitsGets", spec := "bitsGets", apart := false, narrowed := true }
def BitsGetsUptoSaid : Prop := bitsGetsUptoRow.holds Try.pinned (OpenSpec.upto bitsGetsSpec)

/-- 'plimsolllaw02.BitsBack', WHERE WHAT IT READS IS OF BULK AT MOST 1048576: true; the input reads as it did. -/
def bitsBackUptoRow : OpenClaim := { program := "ytifcchajbahdiaa", sum := "8013ef35b574c2875504acd427f77c3a6540e0780f9718112483ea6c41be0530", func := "plimsoll/plimsolllaw02.BitsBack", spec := "bitsBack", apart := false, narrowed := true }
def BitsBackUptoSaid : Prop := bitsBackUptoRow.holds Try.pinned (OpenSpec.upto bitsBackSpec)

/-- 'plimsolllaw02.BitsNone', WHERE WHAT IT READS IS OF BULK AT MOST 1048576: true; the input reads as it did. -/
def bitsNoneUptoRow : OpenClaim := { program := "ytifcchajbahdiaa", sum := "8013ef35b574c2875504acd427f77c3a6540e0780f9718112483ea6c41be0530", func := "plimsoll/plimsolllaw02.BitsNone", spec := "bitsNone", apart := false, narrowed := true }
def BitsNoneUptoSaid : Prop := bitsNoneUptoRow.holds Try.pinned (OpenSpec.upto bitsNoneSpec)

/-- 'plimsolllaw02.BitsShort', WHERE WHAT IT READS IS OF BULK AT MOST 1048576: true; the input reads as it did. -/
def bitsShortUptoRow : OpenClaim := { program := "ytifcchajbahdiaa", sum := "8013ef35b574c2875504acd427f77c3a6540e0780f9718112483ea6c41be0530", func := "plimsoll/plimsolllaw02.BitsShort", spec := "bitsShort", apart := false, narrowed := true }
def BitsShortUptoSaid : Prop := bitsShortUptoRow.holds Try.pinned (OpenSpec.upto bitsShortSpec)

/-- 'plimsolllaw04.InstKinds', WHERE WHAT IT READS IS OF BULK AT MOST 1048576: true; the input reads as it did. -/
def instKindsUptoRow : OpenClaim := { program := "ytifcchajbahdiaa", sum := "8013ef35b574c2875504acd427f77c3a6540e0780f9718112483ea6c41be0530", func := "plimsoll/plimsolllaw04.InstKinds", spec := "instKinds", apart := false, narrowed := true }
def InstKindsUptoSaid : Prop := instKindsUptoRow.holds Try.pinned (OpenSpec.upto instKindsSpec)

/-- 'plimsolllaw04.InstPuts', WHERE WHAT IT READS IS OF BULK AT MOST 1048576: true; the input reads as it did. -/
def instPutsUptoRow : OpenClaim := { program := "ytifcchajbahdiaa", sum := "8013ef35b574c2875504acd427f77c3a6540e0780f9718112483ea6c41be0530", func := "plimsoll/plimsolllaw04.InstPuts", spec := "instPuts", apart := false, narrowed := true }
def InstPutsUptoSaid : Prop := instPutsUptoRow.holds Try.pinned (OpenSpec.upto instPutsSpec)

/-- 'plimsolllaw04.InstRow', WHERE WHAT IT READS IS OF BULK AT MOST 1048576: true; the input reads as it did. -/
def instRowUptoRow : OpenClaim := { program := "ytifcchajbahdiaa", sum := "8013ef35b574c2875504acd427f77c3a6540e0780f9718112483ea6c41be0530", func := "plimsoll/plimsolllaw04.InstRow", spec := "instRow", apart := false, narrowed := true }
def InstRowUptoSaid : Prop := instRowUptoRow.holds Try.pinned (OpenSpec.upto instRowSpec)

/-- 'plimsolllaw04.InstGets', WHERE WHAT IT READS IS OF BULK AT MOST 1048576: true; the input reads as it did. -/
def instGetsUptoRow : OpenClaim := { program := "ytifcchajbahdiaa", sum := "8013ef35b574c2875504acd427f77c3a6540e0780f9718112483ea6c41be0530", func := "plimsoll/plimsolllaw04.InstGets", spec := "instGets", apart := false, narrowed := true }
def InstGetsUptoSaid : Prop := instGetsUptoRow.holds Try.pinned (OpenSpec.upto instGetsSpec)

end Rows
end Go.Proofs.Ytifcchajbahdiaa
