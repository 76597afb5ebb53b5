/-
  No cell of these rows narrows 'for every input' (looked for: loops, veiled, ifaces, maps, wideKeys, modest, calm, conditions, laid).
  DERIVED. THE GIVEN ROWS OF THIS SEAT. 6 by the template 'for every input the law returns true; each argument reads behind the call as it read before'; 0 by the template 'total and deterministic' (their statements: YtknkilobdeeiaaaTotals.lean).
  GIVEN WITH THE SEED: the statements are not yours to turn. If you find one false, say at which input.
  Laid BY PROGRAM, IN A SANDBOX (cutbox-rows.mjs): the forced cells as the released guide's own fill.sh prints them over the translation 0ce7de0fa9e5c650… (all of the seat's roots in one cut). By AI agents, Wed Nov 11 2026. No macro, syntax, notation, axiom, sorry.
-/
import Derived.Test.YtknkilobdeeiaaaChecked
import GoSem.Claim
import GoSem.ClaimJoined
import GoSem.ClaimMapViews
import Derived.JoinedTies
import Derived.KernelRfl
namespace Go.Proofs.Ytknkilobdeeiaaa
/- THE CELL 'sum', in the pinned program and in every row, IS THE sha256 OF THE DUMP (.gsa) THAT YtknkilobdeeiaaaProg.lean LOADS. Nothing in Lean hashes anything: it is a label: what it is worth is what the hold of that sum in a sandbox is worth. -/
noncomputable def Try.pinned : Pinned := { name := "ytknkilobdeeiaaa", sum := "0ce7de0fa9e5c650c982271f19d6478e4d4b71c254409e74c3bd3337efb5ac5d", checked := Try.checked }
namespace Rows
def none {H : Type} : Left H := { results := [], args := [] }

/-- 'concertinalaw4.CellWrites': WHATEVER THE INPUT: true; the input reads as it did. -/
def cellWritesSpec : ChangeSpec := { name := "cellWrites", fn := fun _ => fun
  | [d] => { results := [.lit (.bool true)], args := [d] }
  | _ => none }
def cellWritesRow : OpenClaim := { program := "ytknkilobdeeiaaa", sum := "0ce7de0fa9e5c650c982271f19d6478e4d4b71c254409e74c3bd3337efb5ac5d", func := "concertina/concertinalaw4.CellWrites", spec := "cellWrites", unfollowed := true, recurses := true, apart := false }
def CellWritesSaid : Prop := cellWritesRow.holds Try.pinned (OpenSpec.ofChange cellWritesSpec)

/-- ITS FALSE NEIGHBOUR: 'it returns false'. Refute it at one input. -/
def cellWritesWrong : ChangeSpec := { name := "cellWrites", fn := fun _ => fun
  | [d] => { results := [.lit (.bool false)], args := [d] }
  | _ => none }
def CellWritesWrongFalsely : Prop := cellWritesRow.holds Try.pinned (OpenSpec.ofChange cellWritesWrong)

/-- 'concertinalaw4.CellBack': WHATEVER THE INPUT: true; the input reads as it did. -/
def cellBackSpec : ChangeSpec := { name := "cellBack", fn := fun _ => fun
  | [d1, d2] => { results := [.lit (.bool true)], args := [d1, d2] }
  | _ => none }
def cellBackRow : OpenClaim := { program := "ytknkilobdeeiaaa", sum := "0ce7de0fa9e5c650c982271f19d6478e4d4b71c254409e74c3bd3337efb5ac5d", func := "concertina/concertinalaw4.CellBack", spec := "cellBack", unfollowed := true, recurses := true, apart := false }
def CellBackSaid : Prop := cellBackRow.holds Try.pinned (OpenSpec.ofChange cellBackSpec)

/-- ITS FALSE NEIGHBOUR: 'it returns false'. Refute it at one input. -/
def cellBackWrong : ChangeSpec := { name := "cellBack", fn := fun _ => fun
  | [d1, d2] => { results := [.lit (.bool false)], args := [d1, d2] }
  | _ => none }
def CellBackWrongFalsely : Prop := cellBackRow.holds Try.pinned (OpenSpec.ofChange cellBackWrong)

/-- 'concertinalaw4.CellPanics': WHATEVER THE INPUT: true; the input reads as it did. -/
def cellPanicsSpec : ChangeSpec := { name := "cellPanics", fn := fun _ => fun
  | [d1, d2] => { results := [.lit (.bool true)], args := [d1, d2] }
  | _ => none }
def cellPanicsRow : OpenClaim := { program := "ytknkilobdeeiaaa", sum := "0ce7de0fa9e5c650c982271f19d6478e4d4b71c254409e74c3bd3337efb5ac5d", func := "concertina/concertinalaw4.CellPanics", spec := "cellPanics", unfollowed := true, recurses := true, apart := false }
def CellPanicsSaid : Prop := cellPanicsRow.holds Try.pinned (OpenSpec.ofChange cellPanicsSpec)

/-- ITS FALSE NEIGHBOUR: 'it returns false'. Refute it at one input. -/
def cellPanicsWrong : ChangeSpec := { name := "cellPanics", fn := fun _ => fun
  | [d1, d2] => { results := [.lit (.bool false)], args := [d1, d2] }
  | _ => none }
def CellPanicsWrongFalsely : Prop := cellPanicsRow.holds Try.pinned (OpenSpec.ofChange cellPanicsWrong)

/-- 'concertinalaw4.CellKnown': WHATEVER THE INPUT: true; the input reads as it did. -/
def cellKnownSpec : ChangeSpec := { name := "cellKnown", fn := fun _ => fun
  | [] => { results := [.lit (.bool true)], args := [] }
  | _ => none }
def cellKnownRow : OpenClaim := { program := "ytknkilobdeeiaaa", sum := "0ce7de0fa9e5c650c982271f19d6478e4d4b71c254409e74c3bd3337efb5ac5d", func := "concertina/concertinalaw4.CellKnown", spec := "cellKnown", unfollowed := true, recurses := true, apart := false }
def CellKnownSaid : Prop := cellKnownRow.holds Try.pinned (OpenSpec.ofChange cellKnownSpec)

/-- ITS FALSE NEIGHBOUR: 'it returns false'. Refute it at one input. -/
def cellKnownWrong : ChangeSpec := { name := "cellKnown", fn := fun _ => fun
  | [] => { results := [.lit (.bool false)], args := [] }
  | _ => none }
def CellKnownWrongFalsely : Prop := cellKnownRow.holds Try.pinned (OpenSpec.ofChange cellKnownWrong)

/-- 'concertinalaw4.CellReads': WHATEVER THE INPUT: true; the input reads as it did. -/
def cellReadsSpec : ChangeSpec := { name := "cellReads", fn := fun _ => fun
  | [d1, d2] => { results := [.lit (.bool true)], args := [d1, d2] }
  | _ => none }
def cellReadsRow : OpenClaim := { program := "ytknkilobdeeiaaa", sum := "0ce7de0fa9e5c650c982271f19d6478e4d4b71c254409e74c3bd3337efb5ac5d", func := "concertina/concertinalaw4.CellReads", spec := "cellReads", unfollowed := true, recurses := true, apart := false }
def CellReadsSaid : Prop := cellReadsRow.holds Try.pinned (OpenSpec.ofChange cellReadsSpec)

/-- ITS FALSE NEIGHBOUR: 'it returns false'. Refute it at one input. -/
def cellReadsWrong : ChangeSpec := { name := "cellReads", fn := fun _ => fun
  | [d1, d2] => { results := [.lit (.bool false)], args := [d1, d2] }
  | _ => none }
def CellReadsWrongFalsely : Prop := cellReadsRow.holds Try.pinned (OpenSpec.ofChange cellReadsWrong)

/-- 'concertinalaw4.CellMany': WHATEVER THE INPUT: true; the input reads as it did. -/
def cellManySpec : ChangeSpec := { name := "cellMany", fn := fun _ => fun
  | [d] => { results := [.lit (.bool true)], args := [d] }
  | _ => none }
def cellManyRow : OpenClaim := { program := "ytknkilobdeeiaaa", sum := "0ce7de0fa9e5c650c982271f19d6478e4d4b71c254409e74c3bd3337efb5ac5d", func := "concertina/concertinalaw4.CellMany", spec := "cellMany", unfollowed := true, recurses := true, apart := false }
def CellManySaid : Prop := cellManyRow.holds Try.pinned (OpenSpec.ofChange cellManySpec)

/-- ITS FALSE NEIGHBOUR: 'it returns false'. Refute it at one input. -/
def cellManyWrong : ChangeSpec := { name := "cellMany", fn := fun _ => fun
  | [d] => { results := [.lit (.bool false)], args := [d] }
  | _ => none }
def CellManyWrongFalsely : Prop := cellManyRow.holds Try.pinned (OpenSpec.ofChange cellManyWrong)

/- THE SECOND FORM. 'bulk': how many values and letters a reading holds, each counted each time it is reached (what is shared counts as often as it is met; a slice's spare places count too). A statement '..UptoSaid' is the law's where the arguments, and the package variables that the reading takes, are together of bulk at most 1048576: NARROWER than '..Said'. Prove '..Said' where nothing that the law and all that it calls make is longer than what came in: it says more and counts as full. Else prove '..UptoSaid'. A law counts once. -/
mutual
def uptoBulk {H : Type} : DataW H → Nat
  | .lit (.string bytes) => bytes.length + 1
  | .lit _ => 1
  | .nil => 1
  | .ptr d => uptoBulk d + 1
  | .slice elems spare => uptoBulkAll elems + uptoBulkAll spare + 1
  | .agg parts => uptoBulkAll parts + 1
  | .iface _ d => uptoBulk d + 1
  | .map entries => uptoBulkEntries entries + 1
  | .held _ => 1
def uptoBulkAll {H : Type} : List (DataW H) → Nat
  | [] => 0
  | d :: r => uptoBulk d + uptoBulkAll r
def uptoBulkEntries {H : Type} : List (Lit × DataW H) → Nat
  | [] => 0
  | x :: r => uptoBulkEntry x + uptoBulkEntries r
def uptoBulkEntry {H : Type} : Lit × DataW H → Nat
  | (.string bytes, d) => bytes.length + uptoBulk d + 1
  | (_, d) => uptoBulk d + 1
 end
def uptoSmall : (H : Type) → List (DataW H) → Bool := fun _ ds => decide (uptoBulkAll ds ≤ 1048576)
def OpenSpec.upto (s : _root_.Go.ChangeSpec) : _root_.Go.OpenSpec := { _root_.Go.OpenSpec.ofChange s with cond := some uptoSmall }

/-- 'concertinalaw4.CellWrites', WHERE WHAT IT READS IS OF BULK AT MOST 1048576: true; the input reads as it did. -/
def cellWritesUptoRow : OpenClaim := { program := "ytknkilobdeeiaaa", sum := "0ce7de0fa9e5c650c982271f19d6478e4d4b71c254409e74c3bd3337efb5ac5d", func := "concertina/concertinalaw4.CellWrites", spec := "cellWrites", unfollowed := true, recurses := true, apart := false, narrowed := true }
def CellWritesUptoSaid : Prop := cellWritesUptoRow.holds Try.pinned (OpenSpec.upto cellWritesSpec)

/-- 'concertinalaw4.CellBack', WHERE WHAT IT READS IS OF BULK AT MOST 1048576: true; the input reads as it did. -/
def cellBackUptoRow : OpenClaim := { program := "ytknkilobdeeiaaa", sum := "0ce7de0fa9e5c650c982271f19d6478e4d4b71c254409e74c3bd3337efb5ac5d", func := "concertina/concertinalaw4.CellBack", spec := "cellBack", unfollowed := true, recurses := true, apart := false, narrowed := true }
def CellBackUptoSaid : Prop := cellBackUptoRow.holds Try.pinned (OpenSpec.upto cellBackSpec)

/-- 'concertinalaw4.CellPanics', WHERE WHAT IT READS IS OF BULK AT MOST 1048576: true; the input reads as it did. -/
def cellPanicsUptoRow : OpenClaim := { program := "ytknkilobdeeiaaa", sum := "0ce7de0fa9e5c650c982271f19d6478e4d4b71c254409e74c3bd3337efb5ac5d", func := "concertina/concertinalaw4.CellPanics", spec := "cellPanics", unfollowed := true, recurses := true, apart := false, narrowed := true }
def CellPanicsUptoSaid : Prop := cellPanicsUptoRow.holds Try.pinned (OpenSpec.upto cellPanicsSpec)

/-- 'concertinalaw4.CellKnown', WHERE WHAT IT READS IS OF BULK AT MOST 1048576: true; the input reads as it did. -/
def cellKnownUptoRow : OpenClaim := { program := "ytknkilobdeeiaaa", sum := "0ce7de0fa9e5c650c982271f19d6478e4d4b71c254409e74c3bd3337efb5ac5d", func := "concertina/concertinalaw4.CellKnown", spec := "cellKnown", unfollowed := true, recurses := true, apart := false, narrowed := true }
def CellKnownUptoSaid : Prop := cellKnownUptoRow.holds Try.pinned (OpenSpec.upto cellKnownSpec)

/-- 'concertinalaw4.CellReads', WHERE WHAT IT READS IS OF BULK AT MOST 1048576: true; the input reads as it did. -/
def cellReadsUptoRow : OpenClaim := { program := "ytknkilobdeeiaaa", sum := "0ce7de0fa9e5c650c982271f19d6478e4d4b71c254409e74c3bd3337efb5ac5d", func := "concertina/concertinalaw4.CellReads", spec := "cellReads", unfollowed := true, recurses := true, apart := false, narrowed := true }
def CellReadsUptoSaid : Prop := cellReadsUptoRow.holds Try.pinned (OpenSpec.upto cellReadsSpec)

/-- 'concertinalaw4.CellMany', WHERE WHAT IT READS IS OF BULK AT MOST 1048576: true; the input reads as it did. -/
def cellManyUptoRow : OpenClaim := { program := "ytknkilobdeeiaaa", sum := "0ce7de0fa9e5c650c982271f19d6478e4d4b71c254409e74c3bd3337efb5ac5d", func := "concertina/concertinalaw4.CellMany", spec := "cellMany", unfollowed := true, recurses := true, apart := false, narrowed := true }
def CellManyUptoSaid : Prop := cellManyUptoRow.holds Try.pinned (OpenSpec.upto cellManySpec)

end Rows
end Go.Proofs.Ytknkilobdeeiaaa
