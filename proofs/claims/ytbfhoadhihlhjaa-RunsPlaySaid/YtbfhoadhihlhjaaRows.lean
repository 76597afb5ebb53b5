/-
  No cell of these rows narrows 'for every input' (looked for: loops, veiled, ifaces, maps, wideKeys, modest, calm, conditions, laid).
  DERIVED. THE GIVEN ROWS OF THIS SEAT. 5 by the template 'for every input the law returns true; each argument reads behind the call as it read before'; 0 by the template 'total and deterministic' (their statements: YtbfhoadhihlhjaaTotals.lean).
  GIVEN WITH THE SEED: the statements are not yours to turn. If you find one false, say at which input.
  Laid BY PROGRAM, IN A SANDBOX (cutbox-rows.mjs): the forced cells as the released guide's own fill.sh prints them over the translation 14035257468c2448… (all of the seat's roots in one cut). By AI agents, Wed Nov 11 2026. No macro, syntax, notation, axiom, sorry.
-/
import Derived.Test.YtbfhoadhihlhjaaChecked
import GoSem.Claim
import GoSem.ClaimJoined
import GoSem.ClaimMapViews
import Derived.JoinedTies
import Derived.KernelRfl
namespace Go.Proofs.Ytbfhoadhihlhjaa
/- THE CELL 'sum', in the pinned program and in every row, IS THE sha256 OF THE DUMP (.gsa) THAT YtbfhoadhihlhjaaProg.lean LOADS. Nothing in Lean hashes anything: it is a label: what it is worth is what the hold of that sum in a sandbox is worth. -/
noncomputable def Try.pinned : Pinned := { name := "ytbfhoadhihlhjaa", sum := "14035257468c24487a8ed5a37f6be3f633f9662d002900f32ea0a0e14e069acd", checked := Try.checked }
namespace Rows
def none {H : Type} : Left H := { results := [], args := [] }

/-- 'concertinalaw11.RunsGrow': WHATEVER THE INPUT: true; the input reads as it did. -/
def runsGrowSpec : ChangeSpec := { name := "runsGrow", fn := fun _ => fun
  | [d1, d2] => { results := [.lit (.bool true)], args := [d1, d2] }
  | _ => none }
def runsGrowRow : OpenClaim := { program := "ytbfhoadhihlhjaa", sum := "14035257468c24487a8ed5a37f6be3f633f9662d002900f32ea0a0e14e069acd", func := "concertina/concertinalaw11.RunsGrow", spec := "runsGrow", inPlace := ["slices.overlaps[concertina/api.Run]"], unfollowed := true, recurses := true, apart := false }
def RunsGrowSaid : Prop := runsGrowRow.holds Try.pinned (OpenSpec.ofChange runsGrowSpec)

/-- ITS FALSE NEIGHBOUR: 'it returns false'. Refute it at one input. -/
def runsGrowWrong : ChangeSpec := { name := "runsGrow", fn := fun _ => fun
  | [d1, d2] => { results := [.lit (.bool false)], args := [d1, d2] }
  | _ => none }
def RunsGrowWrongFalsely : Prop := runsGrowRow.holds Try.pinned (OpenSpec.ofChange runsGrowWrong)

/-- 'concertinalaw11.RunsKnown': WHATEVER THE INPUT: true; the input reads as it did. -/
def runsKnownSpec : ChangeSpec := { name := "runsKnown", fn := fun _ => fun
  | [] => { results := [.lit (.bool true)], args := [] }
  | _ => none }
def runsKnownRow : OpenClaim := { program := "ytbfhoadhihlhjaa", sum := "14035257468c24487a8ed5a37f6be3f633f9662d002900f32ea0a0e14e069acd", func := "concertina/concertinalaw11.RunsKnown", spec := "runsKnown", inPlace := ["slices.overlaps[concertina/api.Run]"], unfollowed := true, recurses := true, apart := false }
def RunsKnownSaid : Prop := runsKnownRow.holds Try.pinned (OpenSpec.ofChange runsKnownSpec)

/-- ITS FALSE NEIGHBOUR: 'it returns false'. Refute it at one input. -/
def runsKnownWrong : ChangeSpec := { name := "runsKnown", fn := fun _ => fun
  | [] => { results := [.lit (.bool false)], args := [] }
  | _ => none }
def RunsKnownWrongFalsely : Prop := runsKnownRow.holds Try.pinned (OpenSpec.ofChange runsKnownWrong)

/-- 'concertinalaw11.RunsFirst': WHATEVER THE INPUT: true; the input reads as it did. -/
def runsFirstSpec : ChangeSpec := { name := "runsFirst", fn := fun _ => fun
  | [d1, d2] => { results := [.lit (.bool true)], args := [d1, d2] }
  | _ => none }
def runsFirstRow : OpenClaim := { program := "ytbfhoadhihlhjaa", sum := "14035257468c24487a8ed5a37f6be3f633f9662d002900f32ea0a0e14e069acd", func := "concertina/concertinalaw11.RunsFirst", spec := "runsFirst", inPlace := ["slices.overlaps[concertina/api.Run]"], unfollowed := true, recurses := true, apart := false }
def RunsFirstSaid : Prop := runsFirstRow.holds Try.pinned (OpenSpec.ofChange runsFirstSpec)

/-- ITS FALSE NEIGHBOUR: 'it returns false'. Refute it at one input. -/
def runsFirstWrong : ChangeSpec := { name := "runsFirst", fn := fun _ => fun
  | [d1, d2] => { results := [.lit (.bool false)], args := [d1, d2] }
  | _ => none }
def RunsFirstWrongFalsely : Prop := runsFirstRow.holds Try.pinned (OpenSpec.ofChange runsFirstWrong)

/-- 'concertinalaw11.RunsPlay': WHATEVER THE INPUT: true; the input reads as it did. -/
def runsPlaySpec : ChangeSpec := { name := "runsPlay", fn := fun _ => fun
  | [d1, d2] => { results := [.lit (.bool true)], args := [d1, d2] }
  | _ => none }
def runsPlayRow : OpenClaim := { program := "ytbfhoadhihlhjaa", sum := "14035257468c24487a8ed5a37f6be3f633f9662d002900f32ea0a0e14e069acd", func := "concertina/concertinalaw11.RunsPlay", spec := "runsPlay", inPlace := ["slices.overlaps[concertina/api.Run]"], unfollowed := true, recurses := true, apart := false }
def RunsPlaySaid : Prop := runsPlayRow.holds Try.pinned (OpenSpec.ofChange runsPlaySpec)

/-- ITS FALSE NEIGHBOUR: 'it returns false'. Refute it at one input. -/
def runsPlayWrong : ChangeSpec := { name := "runsPlay", fn := fun _ => fun
  | [d1, d2] => { results := [.lit (.bool false)], args := [d1, d2] }
  | _ => none }
def RunsPlayWrongFalsely : Prop := runsPlayRow.holds Try.pinned (OpenSpec.ofChange runsPlayWrong)

/-- 'concertinalaw11.RunsCopies': WHATEVER THE INPUT: true; the input reads as it did. -/
def runsCopiesSpec : ChangeSpec := { name := "runsCopies", fn := fun _ => fun
  | [d1, d2] => { results := [.lit (.bool true)], args := [d1, d2] }
  | _ => none }
def runsCopiesRow : OpenClaim := { program := "ytbfhoadhihlhjaa", sum := "14035257468c24487a8ed5a37f6be3f633f9662d002900f32ea0a0e14e069acd", func := "concertina/concertinalaw11.RunsCopies", spec := "runsCopies", inPlace := ["slices.overlaps[concertina/api.Run]"], unfollowed := true, recurses := true, apart := false }
def RunsCopiesSaid : Prop := runsCopiesRow.holds Try.pinned (OpenSpec.ofChange runsCopiesSpec)

/-- ITS FALSE NEIGHBOUR: 'it returns false'. Refute it at one input. -/
def runsCopiesWrong : ChangeSpec := { name := "runsCopies", fn := fun _ => fun
  | [d1, d2] => { results := [.lit (.bool false)], args := [d1, d2] }
  | _ => none }
def RunsCopiesWrongFalsely : Prop := runsCopiesRow.holds Try.pinned (OpenSpec.ofChange runsCopiesWrong)

/- THE SECOND FORM. 'bulk': how many values and letters a reading holds, each counted each time it is reached (what is shared counts as often as it is met; a slice's spare places count too). A statement '..UptoSaid' is the law's where the arguments, and the package variables that the reading takes, are together of bulk at most 1048576: NARROWER than '..Said'. Prove '..Said' where nothing that the law and all that it calls make is longer than what came in: it says more and counts as full. Else prove '..UptoSaid'. A law counts once. -/
mutual
def uptoBulk {H : Type} : DataW H → Nat
  | .lit (.string bytes) => bytes.length + 1
  | .lit _ => 1
  | .nil => 1
  | .ptr d => uptoBulk d + 1
  | .slice elems spare => uptoBulkAll elems + uptoBulkAll spare + 1
  | .agg parts => uptoBulkAll parts + 1
  | .iface _ d => uptoBulk d + 1
  | .map entries => uptoBulkEntries entries + 1
  | .held _ => 1
def uptoBulkAll {H : Type} : List (DataW H) → Nat
  | [] => 0
  | d :: r => uptoBulk d + uptoBulkAll r
def uptoBulkEntries {H : Type} : List (Lit × DataW H) → Nat
  | [] => 0
  | x :: r => uptoBulkEntry x + uptoBulkEntries r
def uptoBulkEntry {H : Type} : Lit × DataW H → Nat
  | (.string bytes, d) => bytes.length + uptoBulk d + 1
  | (_, d) => uptoBulk d + 1
 end
def uptoSmall : (H : Type) → List (DataW H) → Bool := fun _ ds => decide (uptoBulkAll ds ≤ 1048576)
def OpenSpec.upto (s : _root_.Go.ChangeSpec) : _root_.Go.OpenSpec := { _root_.Go.OpenSpec.ofChange s with cond := some uptoSmall }

/-- 'concertinalaw11.RunsGrow', WHERE WHAT IT READS IS OF BULK AT MOST 1048576: true; the input reads as it did. -/
def runsGrowUptoRow : OpenClaim := { program := "ytbfhoadhihlhjaa", sum := "14035257468c24487a8ed5a37f6be3f633f9662d002900f32ea0a0e14e069acd", func := "concertina/concertinalaw11.RunsGrow", spec := "runsGrow", inPlace := ["slices.overlaps[concertina/api.Run]"], unfollowed := true, recurses := true, apart := false, narrowed := true }
def RunsGrowUptoSaid : Prop := runsGrowUptoRow.holds Try.pinned (OpenSpec.upto runsGrowSpec)

/-- 'concertinalaw11.RunsKnown', WHERE WHAT IT READS IS OF BULK AT MOST 1048576: true; the input reads as it did. -/
def runsKnownUptoRow : OpenClaim := { program := "ytbfhoadhihlhjaa", sum := "14035257468c24487a8ed5a37f6be3f633f9662d002900f32ea0a0e14e069acd", func := "concertina/concertinalaw11.RunsKnown", spec := "runsKnown", inPlace := ["slices.overlaps[concertina/api.Run]"], unfollowed := true, recurses := true, apart := false, narrowed := true }
def RunsKnownUptoSaid : Prop := runsKnownUptoRow.holds Try.pinned (OpenSpec.upto runsKnownSpec)

/-- 'concertinalaw11.RunsFirst', WHERE WHAT IT READS IS OF BULK AT MOST 1048576: true; the input reads as it did. -/
def runsFirstUptoRow : OpenClaim := { program := "ytbfhoadhihlhjaa", sum := "14035257468c24487a8ed5a37f6be3f633f9662d002900f32ea0a0e14e069acd", func := "concertina/concertinalaw11.RunsFirst", spec := "runsFirst", inPlace := ["slices.overlaps[concertina/api.Run]"], unfollowed := true, recurses := true, apart := false, narrowed := true }
def RunsFirstUptoSaid : Prop := runsFirstUptoRow.holds Try.pinned (OpenSpec.upto runsFirstSpec)

/-- 'concertinalaw11.RunsPlay', WHERE WHAT IT READS IS OF BULK AT MOST 1048576: true; the input reads as it did. -/
def runsPlayUptoRow : OpenClaim := { program := "ytbfhoadhihlhjaa", sum := "14035257468c24487a8ed5a37f6be3f633f9662d002900f32ea0a0e14e069acd", func := "concertina/concertinalaw11.RunsPlay", spec := "runsPlay", inPlace := ["slices.overlaps[concertina/api.Run]"], unfollowed := true, recurses := true, apart := false, narrowed := true }
def RunsPlayUptoSaid : Prop := runsPlayUptoRow.holds Try.pinned (OpenSpec.upto runsPlaySpec)

/-- 'concertinalaw11.RunsCopies', WHERE WHAT IT READS IS OF BULK AT MOST 1048576: true; the input reads as it did. -/
def runsCopiesUptoRow : OpenClaim := { program := "ytbfhoadhihlhjaa", sum := "14035257468c24487a8ed5a37f6be3f633f9662d002900f32ea0a0e14e069acd", func := "concertina/concertinalaw11.RunsCopies", spec := "runsCopies", inPlace := ["slices.overlaps[concertina/api.Run]"], unfollowed := true, recurses := true, apart := false, narrowed := true }
def RunsCopiesUptoSaid : Prop := runsCopiesUptoRow.holds Try.pinned (OpenSpec.upto runsCopiesSpec)

end Rows
end Go.Proofs.Ytbfhoadhihlhjaa
