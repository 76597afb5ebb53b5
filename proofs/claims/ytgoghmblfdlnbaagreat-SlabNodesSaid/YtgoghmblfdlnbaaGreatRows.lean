/-
  No cell of these rows narrows 'for every input' (looked for: loops, veiled, ifaces, maps, wideKeys, modest, calm, conditions, laid).
  DERIVED. THE GIVEN ROWS OF THIS SEAT. 2 by the template 'for every input the law returns true; each argument reads behind the call as it read before'; 0 by the template 'total and deterministic' (their statements: YtgoghmblfdlnbaaGreatTotals.lean).
  GIVEN WITH THE SEED: the statements are not yours to turn. If you find one false, say at which input.
  Laid BY PROGRAM, IN A SANDBOX (cutbox-rows.mjs): the forced cells as the released guide's own fill.sh prints them over the translation affeaec84d371dbf… (all of the seat's roots in one cut). By AI agents, Wed Nov 11 2026. No macro, syntax, notation, axiom, sorry.
-/
import Derived.Test.YtgoghmblfdlnbaaGreatChecked
import GoSem.Claim
import GoSem.ClaimJoined
import GoSem.ClaimMapViews
import Derived.JoinedTies
import Derived.KernelRfl
namespace Go.Proofs.YtgoghmblfdlnbaaGreat
/- THE CELL 'sum', in the pinned program and in every row, IS THE sha256 OF THE DUMP (.gsa) THAT YtgoghmblfdlnbaaGreatProg.lean LOADS. Nothing in Lean hashes anything: it is a label: what it is worth is what the hold of that sum in a sandbox is worth. -/
noncomputable def Tryz.pinned : Pinned := { name := "ytgoghmblfdlnbaagreat", sum := "affeaec84d371dbfeaa420d89267a054d6fed0271b1102167671b833ea5c3b6f", checked := Tryz.checked }
namespace Rows
def none {H : Type} : Left H := { results := [], args := [] }

/-- 'concertinalaw15.SlabNodes': WHATEVER THE INPUT: true; the input reads as it did. -/
def slabNodesSpec : ChangeSpec := { name := "slabNodes", fn := fun _ => fun
  | [d1, d2, d3] => { results := [.lit (.bool true)], args := [d1, d2, d3] }
  | _ => none }
def slabNodesRow : OpenClaim := { program := "ytgoghmblfdlnbaagreat", sum := "affeaec84d371dbfeaa420d89267a054d6fed0271b1102167671b833ea5c3b6f", func := "concertina/concertinalaw15.SlabNodes", spec := "slabNodes", inPlace := ["slices.overlaps[concertina/api.Run]"], unfollowed := true, recurses := true, apart := false }
def SlabNodesSaid : Prop := slabNodesRow.holds Tryz.pinned (OpenSpec.ofChange slabNodesSpec)

/-- ITS FALSE NEIGHBOUR: 'it returns false'. Refute it at one input. -/
def slabNodesWrong : ChangeSpec := { name := "slabNodes", fn := fun _ => fun
  | [d1, d2, d3] => { results := [.lit (.bool false)], args := [d1, d2, d3] }
  | _ => none }
def SlabNodesWrongFalsely : Prop := slabNodesRow.holds Tryz.pinned (OpenSpec.ofChange slabNodesWrong)

/-- 'concertinalaw15.SlabReuses': WHATEVER THE INPUT: true; the input reads as it did. -/
def slabReusesSpec : ChangeSpec := { name := "slabReuses", fn := fun _ => fun
  | [d1, d2] => { results := [.lit (.bool true)], args := [d1, d2] }
  | _ => none }
def slabReusesRow : OpenClaim := { program := "ytgoghmblfdlnbaagreat", sum := "affeaec84d371dbfeaa420d89267a054d6fed0271b1102167671b833ea5c3b6f", func := "concertina/concertinalaw15.SlabReuses", spec := "slabReuses", inPlace := ["slices.overlaps[concertina/api.Run]", "maps.clone"], unfollowed := true, recurses := true, apart := false }
def SlabReusesSaid : Prop := slabReusesRow.holds Tryz.pinned (OpenSpec.ofChange slabReusesSpec)

/-- ITS FALSE NEIGHBOUR: 'it returns false'. Refute it at one input. -/
def slabReusesWrong : ChangeSpec := { name := "slabReuses", fn := fun _ => fun
  | [d1, d2] => { results := [.lit (.bool false)], args := [d1, d2] }
  | _ => none }
def SlabReusesWrongFalsely : Prop := slabReusesRow.holds Tryz.pinned (OpenSpec.ofChange slabReusesWrong)

/- THE SECOND FORM. 'bulk': how many values and letters a reading holds, each counted each time it is reached (what is shared counts as often as it is met; a slice's spare places count too). A statement '..UptoSaid' is the law's where the arguments, and the package variables that the reading takes, are together of bulk at most 1048576: NARROWER than '..Said'. Prove '..Said' where nothing that the law and all that it calls make is longer than what came in: it says more and counts as full. Else prove '..UptoSaid'. A law counts once. -/
mutual
def uptoBulk {H : Type} : DataW H → Nat
  | .lit (.string bytes) => bytes.length + 1
  | .lit _ => 1
  | .nil => 1
  | .ptr d => uptoBulk d + 1
  | .slice elems spare => uptoBulkAll elems + uptoBulkAll spare + 1
  | .agg parts => uptoBulkAll parts + 1
  | .iface _ d => uptoBulk d + 1
  | .map entries => uptoBulkEntries entries + 1
  | .held _ => 1
def uptoBulkAll {H : Type} : List (DataW H) → Nat
  | [] => 0
  | d :: r => uptoBulk d + uptoBulkAll r
def uptoBulkEntries {H : Type} : List (Lit × DataW H) → Nat
  | [] => 0
  | x :: r => uptoBulkEntry x + uptoBulkEntries r
def uptoBulkEntry {H : Type} : Lit × DataW H → Nat
  | (.string bytes, d) => bytes.length + uptoBulk d + 1
  | (_, d) => uptoBulk d + 1
 end
def uptoSmall : (H : Type) → List (DataW H) → Bool := fun _ ds => decide (uptoBulkAll ds ≤ 1048576)
def OpenSpec.upto (s : _root_.Go.ChangeSpec) : _root_.Go.OpenSpec := { _root_.Go.OpenSpec.ofChange s with cond := some uptoSmall }

/-- 'concertinalaw15.SlabNodes', WHERE WHAT IT READS IS OF BULK AT MOST 1048576: true; the input reads as it did. -/
def slabNodesUptoRow : OpenClaim := { program := "ytgoghmblfdlnbaagreat", sum := "affeaec84d371dbfeaa420d89267a054d6fed0271b1102167671b833ea5c3b6f", func := "concertina/concertinalaw15.SlabNodes", spec := "slabNodes", inPlace := ["slices.overlaps[concertina/api.Run]"], unfollowed := true, recurses := true, apart := false, narrowed := true }
def SlabNodesUptoSaid : Prop := slabNodesUptoRow.holds Tryz.pinned (OpenSpec.upto slabNodesSpec)

/-- 'concertinalaw15.SlabReuses', WHERE WHAT IT READS IS OF BULK AT MOST 1048576: true; the input reads as it did. -/
def slabReusesUptoRow : OpenClaim := { program := "ytgoghmblfdlnbaagreat", sum := "affeaec84d371dbfeaa420d89267a054d6fed0271b1102167671b833ea5c3b6f", func := "concertina/concertinalaw15.SlabReuses", spec := "slabReuses", inPlace := ["slices.overlaps[concertina/api.Run]", "maps.clone"], unfollowed := true, recurses := true, apart := false, narrowed := true }
def SlabReusesUptoSaid : Prop := slabReusesUptoRow.holds Tryz.pinned (OpenSpec.upto slabReusesSpec)

end Rows
end Go.Proofs.YtgoghmblfdlnbaaGreat
