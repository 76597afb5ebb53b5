/-
  No cell of these rows narrows 'for every input' (looked for: loops, veiled, ifaces, maps, wideKeys, modest, calm, conditions, laid).
  DERIVED. THE GIVEN ROWS OF THIS SEAT. 3 by the template 'for every input the law returns true; each argument reads behind the call as it read before'; 0 by the template 'total and deterministic' (their statements: YtahedenbchgglaaTotals.lean).
  GIVEN WITH THE SEED: the statements are not yours to turn. If you find one false, say at which input.
  Laid BY PROGRAM, IN A SANDBOX (cutbox-rows.mjs): the forced cells as the released guide's own fill.sh prints them over the translation ee77502f44784621… (all of the seat's roots in one cut). By AI agents, Wed Nov 11 2026. No macro, syntax, notation, axiom, sorry.
-/
import Derived.Test.YtahedenbchgglaaChecked
import GoSem.Claim
import GoSem.ClaimJoined
import GoSem.ClaimMapViews
import Derived.JoinedTies
import Derived.KernelRfl
namespace Go.Proofs.Ytahedenbchgglaa
/- THE CELL 'sum', in the pinned program and in every row, IS THE sha256 OF THE DUMP (.gsa) THAT YtahedenbchgglaaProg.lean LOADS. Nothing in Lean hashes anything: it is a label: what it is worth is what the hold of that sum in a sandbox is worth. -/
noncomputable def Try.pinned : Pinned := { name := "ytahedenbchgglaa", sum := "ee77502f4478462140932ab3991adf3f210f87c1cad06463df25199a496128ba", checked := Try.checked }
namespace Rows
def none {H : Type} : Left H := { results := [], args := [] }

/-- 'concertinalaw19.BufferFits': WHATEVER THE INPUT: true; the input reads as it did. -/
def bufferFitsSpec : ChangeSpec := { name := "bufferFits", fn := fun _ => fun
  | [d1, d2, d3] => { results := [.lit (.bool true)], args := [d1, d2, d3] }
  | _ => none }
def bufferFitsRow : OpenClaim := { program := "ytahedenbchgglaa", sum := "ee77502f4478462140932ab3991adf3f210f87c1cad06463df25199a496128ba", func := "concertina/concertinalaw19.BufferFits", spec := "bufferFits", apart := false }
def BufferFitsSaid : Prop := bufferFitsRow.holds Try.pinned (OpenSpec.ofChange bufferFitsSpec)

/-- ITS FALSE NEIGHBOUR: 'it returns false'. Refute it at one input. -/
def bufferFitsWrong : ChangeSpec := { name := "bufferFits", fn := fun _ => fun
  | [d1, d2, d3] => { results := [.lit (.bool false)], args := [d1, d2, d3] }
  | _ => none }
def BufferFitsWrongFalsely : Prop := bufferFitsRow.holds Try.pinned (OpenSpec.ofChange bufferFitsWrong)

/-- 'concertinalaw19.BufferKnown': WHATEVER THE INPUT: true; the input reads as it did. -/
def bufferKnownSpec : ChangeSpec := { name := "bufferKnown", fn := fun _ => fun
  | [] => { results := [.lit (.bool true)], args := [] }
  | _ => none }
def bufferKnownRow : OpenClaim := { program := "ytahedenbchgglaa", sum := "ee77502f4478462140932ab3991adf3f210f87c1cad06463df25199a496128ba", func := "concertina/concertinalaw19.BufferKnown", spec := "bufferKnown", apart := false }
def BufferKnownSaid : Prop := bufferKnownRow.holds Try.pinned (OpenSpec.ofChange bufferKnownSpec)

/-- ITS FALSE NEIGHBOUR: 'it returns false'. Refute it at one input. -/
def bufferKnownWrong : ChangeSpec := { name := "bufferKnown", fn := fun _ => fun
  | [] => { results := [.lit (.bool false)], args := [] }
  | _ => none }
def BufferKnownWrongFalsely : Prop := bufferKnownRow.holds Try.pinned (OpenSpec.ofChange bufferKnownWrong)

/-- 'concertinalaw19.BufferLast': WHATEVER THE INPUT: true; the input reads as it did. -/
def bufferLastSpec : ChangeSpec := { name := "bufferLast", fn := fun _ => fun
  | [d] => { results := [.lit (.bool true)], args := [d] }
  | _ => none }
def bufferLastRow : OpenClaim := { program := "ytahedenbchgglaa", sum := "ee77502f4478462140932ab3991adf3f210f87c1cad06463df25199a496128ba", func := "concertina/concertinalaw19.BufferLast", spec := "bufferLast", unfollowed := true, recurses := true, apart := false }
def BufferLastSaid : Prop := bufferLastRow.holds Try.pinned (OpenSpec.ofChange bufferLastSpec)

/-- ITS FALSE NEIGHBOUR: 'it returns false'. Refute it at one input. -/
def bufferLastWrong : ChangeSpec := { name := "bufferLast", fn := fun _ => fun
  | [d] => { results := [.lit (.bool false)], args := [d] }
  | _ => none }
def BufferLastWrongFalsely : Prop := bufferLastRow.holds Try.pinned (OpenSpec.ofChange bufferLastWrong)

/- THE SECOND FORM. 'bulk': how many values and letters a reading holds, each counted each time it is reached (what is shared counts as often as it is met; a slice's spare places count too). A statement '..UptoSaid' is the law's where the arguments, and the package variables that the reading takes, are together of bulk at most 1048576: NARROWER than '..Said'. Prove '..Said' where nothing that the law and all that it calls make is longer than what came in: it says more and counts as full. Else prove '..UptoSaid'. A law counts once. -/
mutual
def uptoBulk {H : Type} : DataW H → Nat
  | .lit (.string bytes) => bytes.length + 1
  | .lit _ => 1
  | .nil => 1
  | .ptr d => uptoBulk d + 1
  | .slice elems spare => uptoBulkAll elems + uptoBulkAll spare + 1
  | .agg parts => uptoBulkAll parts + 1
  | .iface _ d => uptoBulk d + 1
  | .map entries => uptoBulkEntries entries + 1
  | .held _ => 1
def uptoBulkAll {H : Type} : List (DataW H) → Nat
  | [] => 0
  | d :: r => uptoBulk d + uptoBulkAll r
def uptoBulkEntries {H : Type} : List (Lit × DataW H) → Nat
  | [] => 0
  | x :: r => uptoBulkEntry x + uptoBulkEntries r
def uptoBulkEntry {H : Type} : Lit × DataW H → Nat
  | (.string bytes, d) => bytes.length + uptoBulk d + 1
  | (_, d) => uptoBulk d + 1
 end
def uptoSmall : (H : Type) → List (DataW H) → Bool := fun _ ds => decide (uptoBulkAll ds ≤ 1048576)
def OpenSpec.upto (s : _root_.Go.ChangeSpec) : _root_.Go.OpenSpec := { _root_.Go.OpenSpec.ofChange s with cond := some uptoSmall }

/-- 'concertinalaw19.BufferFits', WHERE WHAT IT READS IS OF BULK AT MOST 1048576: true; the input reads as it did. -/
def bufferFitsUptoRow : OpenClaim := { program := "ytahedenbchgglaa", sum := "ee77502f4478462140932ab3991adf3f210f87c1cad06463df25199a496128ba", func := "concertina/concertinalaw19.BufferFits", spec := "bufferFits", apart := false, narrowed := true }
def BufferFitsUptoSaid : Prop := bufferFitsUptoRow.holds Try.pinned (OpenSpec.upto bufferFitsSpec)

/-- 'concertinalaw19.BufferKnown', WHERE WHAT IT READS IS OF BULK AT MOST 1048576: true; the input reads as it did. -/
def bufferKnownUptoRow : OpenClaim := { program := "ytahedenbchgglaa", sum := "ee77502f4478462140932ab3991adf3f210f87c1cad06463df25199a496128ba", func := "concertina/concertinalaw19.BufferKnown", spec := "bufferKnown", apart := false, narrowed := true }
def BufferKnownUptoSaid : Prop := bufferKnownUptoRow.holds Try.pinned (OpenSpec.upto bufferKnownSpec)

/-- 'concertinalaw19.BufferLast', WHERE WHAT IT READS IS OF BULK AT MOST 1048576: true; the input reads as it did. -/
def bufferLastUptoRow : OpenClaim := { program := "ytahedenbchgglaa", sum := "ee77502f4478462140932ab3991adf3f210f87c1cad06463df25199a496128ba", func := "concertina/concertinalaw19.BufferLast", spec := "bufferLast", unfollowed := true, recurses := true, apart := false, narrowed := true }
def BufferLastUptoSaid : Prop := bufferLastUptoRow.holds Try.pinned (OpenSpec.upto bufferLastSpec)

end Rows
end Go.Proofs.Ytahedenbchgglaa
