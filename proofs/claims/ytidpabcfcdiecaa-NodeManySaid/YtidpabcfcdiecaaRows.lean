/-
  No cell of these rows narrows 'for every input' (looked for: loops, veiled, ifaces, maps, wideKeys, modest, calm, conditions, laid).
  DERIVED. THE GIVEN ROWS OF THIS SEAT. 6 by the template 'for every input the law returns true; each argument reads behind the call as it read before'; 0 by the template 'total and deterministic' (their statements: YtidpabcfcdiecaaTotals.lean).
  GIVEN WITH THE SEED: the statements are not yours to turn. If you find one false, say at which input.
  Laid BY PROGRAM, IN A SANDBOX (cutbox-rows.mjs): the forced cells as the released guide's own fill.sh prints them over the translation 2e3de6b356856963… (all of the seat's roots in one cut). By AI agents, Wed Nov 11 2026. No macro, syntax, notation, axiom, sorry.
-/
import Derived.Test.YtidpabcfcdiecaaChecked
import GoSem.Claim
import GoSem.ClaimJoined
import GoSem.ClaimMapViews
import Derived.JoinedTies
import Derived.KernelRfl
namespace Go.Proofs.Ytidpabcfcdiecaa
/- THE CELL 'sum', in the pinned program and in every row, IS THE sha256 OF THE DUMP (.gsa) THAT YtidpabcfcdiecaaProg.lean LOADS. Nothing in Lean hashes anything: it is a label: what it is worth is what the hold of that sum in a sandbox is worth. -/
noncomputable def Try.pinned : Pinned := { name := "ytidpabcfcdiecaa", sum := "2e3de6b3568569632960ec0a225c999788a8f53e3ae837ebac52b3ff8e228507", checked := Try.checked }
namespace Rows
def none {H : Type} : Left H := { results := [], args := [] }

/-- 'concertinalaw13.NodeEncodes': WHATEVER THE INPUT: true; the input reads as it did. -/
def nodeEncodesSpec : ChangeSpec := { name := "nodeEncodes", fn := fun _ => fun
  | [d] => { results := [.lit (.bool true)], args := [d] }
  | _ => none }
def nodeEncodesRow : OpenClaim := { program := "ytidpabcfcdiecaa", sum := "2e3de6b3568569632960ec0a225c999788a8f53e3ae837ebac52b3ff8e228507", func := "concertina/concertinalaw13.NodeEncodes", spec := "nodeEncodes", unfollowed := true, recurses := true, apart := false }
def NodeEncodesSaid : Prop := nodeEncodesRow.holds Try.pinned (OpenSpec.ofChange nodeEncodesSpec)

/-- ITS FALSE NEIGHBOUR: 'it returns false'. Refute it at one input. -/
def nodeEncodesWrong : ChangeSpec := { name := "nodeEncodes", fn := fun _ => fun
  | [d] => { results := [.lit (.bool false)], args := [d] }
  | _ => none }
def NodeEncodesWrongFalsely : Prop := nodeEncodesRow.holds Try.pinned (OpenSpec.ofChange nodeEncodesWrong)

/-- 'concertinalaw13.NodeDecodes': WHATEVER THE INPUT: true; the input reads as it did. -/
def nodeDecodesSpec : ChangeSpec := { name := "nodeDecodes", fn := fun _ => fun
  | [d] => { results := [.lit (.bool true)], args := [d] }
  | _ => none }
def nodeDecodesRow : OpenClaim := { program := "ytidpabcfcdiecaa", sum := "2e3de6b3568569632960ec0a225c999788a8f53e3ae837ebac52b3ff8e228507", func := "concertina/concertinalaw13.NodeDecodes", spec := "nodeDecodes", unfollowed := true, recurses := true, apart := false }
def NodeDecodesSaid : Prop := nodeDecodesRow.holds Try.pinned (OpenSpec.ofChange nodeDecodesSpec)

/-- ITS FALSE NEIGHBOUR: 'it returns false'. Refute it at one input. -/
def nodeDecodesWrong : ChangeSpec := { name := "nodeDecodes", fn := fun _ => fun
  | [d] => { results := [.lit (.bool false)], args := [d] }
  | _ => none }
def NodeDecodesWrongFalsely : Prop := nodeDecodesRow.holds Try.pinned (OpenSpec.ofChange nodeDecodesWrong)

/-- 'concertinalaw13.NodeFinds': WHATEVER THE INPUT: true; the input reads as it did. -/
def nodeFindsSpec : ChangeSpec := { name := "nodeFinds", fn := fun _ => fun
  | [d1, d2] => { results := [.lit (.bool true)], args := [d1, d2] }
  | _ => none }
def nodeFindsRow : OpenClaim := { program := "ytidpabcfcdiecaa", sum := "2e3de6b3568569632960ec0a225c999788a8f53e3ae837ebac52b3ff8e228507", func := "concertina/concertinalaw13.NodeFinds", spec := "nodeFinds", unfollowed := true, recurses := true, apart := false }
def NodeFindsSaid : Prop := nodeFindsRow.holds Try.pinned (OpenSpec.ofChange nodeFindsSpec)

/-- ITS FALSE NEIGHBOUR: 'it returns false'. Refute it at one input. -/
def nodeFindsWrong : ChangeSpec := { name := "nodeFinds", fn := fun _ => fun
  | [d1, d2] => { results := [.lit (.bool false)], args := [d1, d2] }
  | _ => none }
def NodeFindsWrongFalsely : Prop := nodeFindsRow.holds Try.pinned (OpenSpec.ofChange nodeFindsWrong)

/-- 'concertinalaw13.NodeCuts': WHATEVER THE INPUT: true; the input reads as it did. -/
def nodeCutsSpec : ChangeSpec := { name := "nodeCuts", fn := fun _ => fun
  | [d1, d2] => { results := [.lit (.bool true)], args := [d1, d2] }
  | _ => none }
def nodeCutsRow : OpenClaim := { program := "ytidpabcfcdiecaa", sum := "2e3de6b3568569632960ec0a225c999788a8f53e3ae837ebac52b3ff8e228507", func := "concertina/concertinalaw13.NodeCuts", spec := "nodeCuts", unfollowed := true, recurses := true, apart := false }
def NodeCutsSaid : Prop := nodeCutsRow.holds Try.pinned (OpenSpec.ofChange nodeCutsSpec)

/-- ITS FALSE NEIGHBOUR: 'it returns false'. Refute it at one input. -/
def nodeCutsWrong : ChangeSpec := { name := "nodeCuts", fn := fun _ => fun
  | [d1, d2] => { results := [.lit (.bool false)], args := [d1, d2] }
  | _ => none }
def NodeCutsWrongFalsely : Prop := nodeCutsRow.holds Try.pinned (OpenSpec.ofChange nodeCutsWrong)

/-- 'concertinalaw13.NodeMany': WHATEVER THE INPUT: true; the input reads as it did. -/
def nodeManySpec : ChangeSpec := { name := "nodeMany", fn := fun _ => fun
  | [d1, d2, d3] => { results := [.lit (.bool true)], args := [d1, d2, d3] }
  | _ => none }
def nodeManyRow : OpenClaim := { program := "ytidpabcfcdiecaa", sum := "2e3de6b3568569632960ec0a225c999788a8f53e3ae837ebac52b3ff8e228507", func := "concertina/concertinalaw13.NodeMany", spec := "nodeMany", unfollowed := true, recurses := true, apart := false }
def NodeManySaid : Prop := nodeManyRow.holds Try.pinned (OpenSpec.ofChange nodeManySpec)

/-- ITS FALSE NEIGHBOUR: 'it returns false'. Refute it at one input. -/
def nodeManyWrong : ChangeSpec := { name := "nodeMany", fn := fun _ => fun
  | [d1, d2, d3] => { results := [.lit (.bool false)], args := [d1, d2, d3] }
  | _ => none }
def NodeManyWrongFalsely : Prop := nodeManyRow.holds Try.pinned (OpenSpec.ofChange nodeManyWrong)

/-- 'concertinalaw13.NodeKnown': WHATEVER THE INPUT: true; the input reads as it did. -/
def nodeKnownSpec : ChangeSpec := { name := "nodeKnown", fn := fun _ => fun
  | [] => { results := [.lit (.bool true)], args := [] }
  | _ => none }
def nodeKnownRow : OpenClaim := { program := "ytidpabcfcdiecaa", sum := "2e3de6b3568569632960ec0a225c999788a8f53e3ae837ebac52b3ff8e228507", func := "concertina/concertinalaw13.NodeKnown", spec := "nodeKnown", unfollowed := true, recurses := true, apart := false }
def NodeKnownSaid : Prop := nodeKnownRow.holds Try.pinned (OpenSpec.ofChange nodeKnownSpec)

/-- ITS FALSE NEIGHBOUR: 'it returns false'. Refute it at one input. -/
def nodeKnownWrong : ChangeSpec := { name := "nodeKnown", fn := fun _ => fun
  | [] => { results := [.lit (.bool false)], args := [] }
  | _ => none }
def NodeKnownWrongFalsely : Prop := nodeKnownRow.holds Try.pinned (OpenSpec.ofChange nodeKnownWrong)

/- THE SECOND FORM. 'bulk': how many values and letters a reading holds, each counted each time it is reached (what is shared counts as often as it is met; a slice's spare places count too). A statement '..UptoSaid' is the law's where the arguments, and the package variables that the reading takes, are together of bulk at most 1048576: NARROWER than '..Said'. Prove '..Said' where nothing that the law and all that it calls make is longer than what came in: it says more and counts as full. Else prove '..UptoSaid'. A law counts once. -/
mutual
def uptoBulk {H : Type} : DataW H → Nat
  | .lit (.string bytes) => bytes.length + 1
  | .lit _ => 1
  | .nil => 1
  | .ptr d => uptoBulk d + 1
  | .slice elems spare => uptoBulkAll elems + uptoBulkAll spare + 1
  | .agg parts => uptoBulkAll parts + 1
  | .iface _ d => uptoBulk d + 1
  | .map entries => uptoBulkEntries entries + 1
  | .held _ => 1
def uptoBulkAll {H : Type} : List (DataW H) → Nat
  | [] => 0
  | d :: r => uptoBulk d + uptoBulkAll r
def uptoBulkEntries {H : Type} : List (Lit × DataW H) → Nat
  | [] => 0
  | x :: r => uptoBulkEntry x + uptoBulkEntries r
def uptoBulkEntry {H : Type} : Lit × DataW H → Nat
  | (.string bytes, d) => bytes.length + uptoBulk d + 1
  | (_, d) => uptoBulk d + 1
 end
def uptoSmall : (H : Type) → List (DataW H) → Bool := fun _ ds => decide (uptoBulkAll ds ≤ 1048576)
def OpenSpec.upto (s : _root_.Go.ChangeSpec) : _root_.Go.OpenSpec := { _root_.Go.OpenSpec.ofChange s with cond := some uptoSmall }

/-- 'concertinalaw13.NodeEncodes', WHERE WHAT IT READS IS OF BULK AT MOST 1048576: true; the input reads as it did. -/
def nodeEncodesUptoRow : OpenClaim := { program := "ytidpabcfcdiecaa", sum := "2e3de6b3568569632960ec0a225c999788a8f53e3ae837ebac52b3ff8e228507", func := "concertina/concertinalaw13.NodeEncodes", spec := "nodeEncodes", unfollowed := true, recurses := true, apart := false, narrowed := true }
def NodeEncodesUptoSaid : Prop := nodeEncodesUptoRow.holds Try.pinned (OpenSpec.upto nodeEncodesSpec)

/-- 'concertinalaw13.NodeDecodes', WHERE WHAT IT READS IS OF BULK AT MOST 1048576: true; the input reads as it did. -/
def nodeDecodesUptoRow : OpenClaim := { program := "ytidpabcfcdiecaa", sum := "2e3de6b3568569632960ec0a225c999788a8f53e3ae837ebac52b3ff8e228507", func := "concertina/concertinalaw13.NodeDecodes", spec := "nodeDecodes", unfollowed := true, recurses := true, apart := false, narrowed := true }
def NodeDecodesUptoSaid : Prop := nodeDecodesUptoRow.holds Try.pinned (OpenSpec.upto nodeDecodesSpec)

/-- 'concertinalaw13.NodeFinds', WHERE WHAT IT READS IS OF BULK AT MOST 1048576: true; the input reads as it did. -/
def nodeFindsUptoRow : OpenClaim := { program := "ytidpabcfcdiecaa", sum := "2e3de6b3568569632960ec0a225c999788a8f53e3ae837ebac52b3ff8e228507", func := "concertina/concertinalaw13.NodeFinds", spec := "nodeFinds", unfollowed := true, recurses := true, apart := false, narrowed := true }
def NodeFindsUptoSaid : Prop := nodeFindsUptoRow.holds Try.pinned (OpenSpec.upto nodeFindsSpec)

/-- 'concertinalaw13.NodeCuts', WHERE WHAT IT READS IS OF BULK AT MOST 1048576: true; the input reads as it did. -/
def nodeCutsUptoRow : OpenClaim := { program := "ytidpabcfcdiecaa", sum := "2e3de6b3568569632960ec0a225c999788a8f53e3ae837ebac52b3ff8e228507", func := "concertina/concertinalaw13.NodeCuts", spec := "nodeCuts", unfollowed := true, recurses := true, apart := false, narrowed := true }
def NodeCutsUptoSaid : Prop := nodeCutsUptoRow.holds Try.pinned (OpenSpec.upto nodeCutsSpec)

/-- 'concertinalaw13.NodeMany', WHERE WHAT IT READS IS OF BULK AT MOST 1048576: true; the input reads as it did. -/
def nodeManyUptoRow : OpenClaim := { program := "ytidpabcfcdiecaa", sum := "2e3de6b3568569632960ec0a225c999788a8f53e3ae837ebac52b3ff8e228507", func := "concertina/concertinalaw13.NodeMany", spec := "nodeMany", unfollowed := true, recurses := true, apart := false, narrowed := true }
def NodeManyUptoSaid : Prop := nodeManyUptoRow.holds Try.pinned (OpenSpec.upto nodeManySpec)

/-- 'concertinalaw13.NodeKnown', WHERE WHAT IT READS IS OF BULK AT MOST 1048576: true; the input reads as it did. -/
def nodeKnownUptoRow : OpenClaim := { program := "ytidpabcfcdiecaa", sum := "2e3de6b3568569632960ec0a225c999788a8f53e3ae837ebac52b3ff8e228507", func := "concertina/concertinalaw13.NodeKnown", spec := "nodeKnown", unfollowed := true, recurses := true, apart := false, narrowed := true }
def NodeKnownUptoSaid : Prop := nodeKnownUptoRow.holds Try.pinned (OpenSpec.upto nodeKnownSpec)

end Rows
end Go.Proofs.Ytidpabcfcdiecaa
