/-
  No cell of these rows narrows 'for every input' (looked for: loops, veiled, ifaces, maps, wideKeys, modest, calm, conditions, laid).
  DERIVED. THE GIVEN ROWS OF THIS SEAT. 6 by the template 'for every input the law returns true; each argument reads behind the call as it read before'; 0 by the template 'total and deterministic' (their statements: YtidjmjfoheagmaaTotals.lean).
  GIVEN WITH THE SEED: the statements are not yours to turn. If you find one false, say at which input.
  Laid BY PROGRAM, IN A SANDBOX (cutbox-rows.mjs): the forced cells as the released guide's own fill.sh prints them over the translation 03491f6275c98e86… (all of the seat's roots in one cut). By AI agents, Wed Nov 11 2026. No macro, syntax, notation, axiom, sorry.
-/
import Derived.Test.YtidjmjfoheagmaaChecked
import GoSem.Claim
import GoSem.ClaimJoined
import GoSem.ClaimMapViews
import Derived.JoinedTies
import Derived.KernelRfl
namespace Go.Proofs.Ytidjmjfoheagmaa
/- THE CELL 'sum', in the pinned program and in every row, IS THE sha256 OF THE DUMP (.gsa) THAT YtidjmjfoheagmaaProg.lean LOADS. Nothing in Lean hashes anything: it is a label: what it is worth is what the hold of that sum in a sandbox is worth. -/
noncomputable def Try.pinned : Pinned := { name := "ytidjmjfoheagmaa", sum := "03491f6275c98e86c308f38fb2607719d4bd9052385c4dad4d4b8b4832b99f90", checked := Try.checked }
namespace Rows
def none {H : Type} : Left H := { results := [], args := [] }

/-- 'concertinalaw2.PlatterKeeps': WHATEVER THE INPUT: true; the input reads as it did. -/
def platterKeepsSpec : ChangeSpec := { name := "platterKeeps", fn := fun _ => fun
  | [d1, d2] => { results := [.lit (.bool true)], args := [d1, d2] }
  | _ => none }
def platterKeepsRow : OpenClaim := { program := "ytidjmjfoheagmaa", sum := "03491f6275c98e86c308f38fb2607719d4bd9052385c4dad4d4b8b4832b99f90", func := "concertina/concertinalaw2.PlatterKeeps", spec := "platterKeeps", unfollowed := true, recurses := true, apart := false }
def PlatterKeepsSaid : Prop := platterKeepsRow.holds Try.pinned (OpenSpec.ofChange platterKeepsSpec)

/-- ITS FALSE NEIGHBOUR: 'it returns false'. Refute it at one input. -/
def platterKeepsWrong : ChangeSpec := { name := "platterKeeps", fn := fun _ => fun
  | [d1, d2] => { results := [.lit (.bool false)], args := [d1, d2] }
  | _ => none }
def PlatterKeepsWrongFalsely : Prop := platterKeepsRow.holds Try.pinned (OpenSpec.ofChange platterKeepsWrong)

/-- 'concertinalaw2.PlatterRots': WHATEVER THE INPUT: true; the input reads as it did. -/
def platterRotsSpec : ChangeSpec := { name := "platterRots", fn := fun _ => fun
  | [d1, d2, d3] => { results := [.lit (.bool true)], args := [d1, d2, d3] }
  | _ => none }
def platterRotsRow : OpenClaim := { program := "ytidjmjfoheagmaa", sum := "03491f6275c98e86c308f38fb2607719d4bd9052385c4dad4d4b8b4832b99f90", func := "concertina/concertinalaw2.PlatterRots", spec := "platterRots", unfollowed := true, recurses := true, apart := false }
def PlatterRotsSaid : Prop := platterRotsRow.holds Try.pinned (OpenSpec.ofChange platterRotsSpec)

/-- ITS FALSE NEIGHBOUR: 'it returns false'. Refute it at one input. -/
def platterRotsWrong : ChangeSpec := { name := "platterRots", fn := fun _ => fun
  | [d1, d2, d3] => { results := [.lit (.bool false)], args := [d1, d2, d3] }
  | _ => none }
def PlatterRotsWrongFalsely : Prop := platterRotsRow.holds Try.pinned (OpenSpec.ofChange platterRotsWrong)

/-- 'concertinalaw2.PlatterKnown': WHATEVER THE INPUT: true; the input reads as it did. -/
def platterKnownSpec : ChangeSpec := { name := "platterKnown", fn := fun _ => fun
  | [] => { results := [.lit (.bool true)], args := [] }
  | _ => none }
def platterKnownRow : OpenClaim := { program := "ytidjmjfoheagmaa", sum := "03491f6275c98e86c308f38fb2607719d4bd9052385c4dad4d4b8b4832b99f90", func := "concertina/concertinalaw2.PlatterKnown", spec := "platterKnown", unfollowed := true, recurses := true, apart := false }
def PlatterKnownSaid : Prop := platterKnownRow.holds Try.pinned (OpenSpec.ofChange platterKnownSpec)

/-- ITS FALSE NEIGHBOUR: 'it returns false'. Refute it at one input. -/
def platterKnownWrong : ChangeSpec := { name := "platterKnown", fn := fun _ => fun
  | [] => { results := [.lit (.bool false)], args := [] }
  | _ => none }
def PlatterKnownWrongFalsely : Prop := platterKnownRow.holds Try.pinned (OpenSpec.ofChange platterKnownWrong)

/-- 'concertinalaw2.PlatterFails': WHATEVER THE INPUT: true; the input reads as it did. -/
def platterFailsSpec : ChangeSpec := { name := "platterFails", fn := fun _ => fun
  | [d1, d2] => { results := [.lit (.bool true)], args := [d1, d2] }
  | _ => none }
def platterFailsRow : OpenClaim := { program := "ytidjmjfoheagmaa", sum := "03491f6275c98e86c308f38fb2607719d4bd9052385c4dad4d4b8b4832b99f90", func := "concertina/concertinalaw2.PlatterFails", spec := "platterFails", unfollowed := true, recurses := true, apart := false }
def PlatterFailsSaid : Prop := platterFailsRow.holds Try.pinned (OpenSpec.ofChange platterFailsSpec)

/-- ITS FALSE NEIGHBOUR: 'it returns false'. Refute it at one input. -/
def platterFailsWrong : ChangeSpec := { name := "platterFails", fn := fun _ => fun
  | [d1, d2] => { results := [.lit (.bool false)], args := [d1, d2] }
  | _ => none }
def PlatterFailsWrongFalsely : Prop := platterFailsRow.holds Try.pinned (OpenSpec.ofChange platterFailsWrong)

/-- 'concertinalaw2.PlatterPlays': WHATEVER THE INPUT: true; the input reads as it did. -/
def platterPlaysSpec : ChangeSpec := { name := "platterPlays", fn := fun _ => fun
  | [d1, d2] => { results := [.lit (.bool true)], args := [d1, d2] }
  | _ => none }
def platterPlaysRow : OpenClaim := { program := "ytidjmjfoheagmaa", sum := "03491f6275c98e86c308f38fb2607719d4bd9052385c4dad4d4b8b4832b99f90", func := "concertina/concertinalaw2.PlatterPlays", spec := "platterPlays", unfollowed := true, recurses := true, apart := false }
def PlatterPlaysSaid : Prop := platterPlaysRow.holds Try.pinned (OpenSpec.ofChange platterPlaysSpec)

/-- ITS FALSE NEIGHBOUR: 'it returns false'. Refute it at one input. -/
def platterPlaysWrong : ChangeSpec := { name := "platterPlays", fn := fun _ => fun
  | [d1, d2] => { results := [.lit (.bool false)], args := [d1, d2] }
  | _ => none }
def PlatterPlaysWrongFalsely : Prop := platterPlaysRow.holds Try.pinned (OpenSpec.ofChange platterPlaysWrong)

/-- 'concertinalaw2.PlatterCopies': WHATEVER THE INPUT: true; the input reads as it did. -/
def platterCopiesSpec : ChangeSpec := { name := "platterCopies", fn := fun _ => fun
  | [d1, d2, d3] => { results := [.lit (.bool true)], args := [d1, d2, d3] }
  | _ => none }
def platterCopiesRow : OpenClaim := { program := "ytidjmjfoheagmaa", sum := "03491f6275c98e86c308f38fb2607719d4bd9052385c4dad4d4b8b4832b99f90", func := "concertina/concertinalaw2.PlatterCopies", spec := "platterCopies", unfollowed := true, recurses := true, apart := false }
def PlatterCopiesSaid : Prop := platterCopiesRow.holds Try.pinned (OpenSpec.ofChange platterCopiesSpec)

/-- ITS FALSE NEIGHBOUR: 'it returns false'. Refute it at one input. -/
def platterCopiesWrong : ChangeSpec := { name := "platterCopies", fn := fun _ => fun
  | [d1, d2, d3] => { results := [.lit (.bool false)], args := [d1, d2, d3] }
  | _ => none }
def PlatterCopiesWrongFalsely : Prop := platterCopiesRow.holds Try.pinned (OpenSpec.ofChange platterCopiesWrong)

/- THE SECOND FORM. 'bulk': how many values and letters a reading holds, each counted each time it is reached (what is shared counts as often as it is met; a slice's spare places count too). A statement '..UptoSaid' is the law's where the arguments, and the package variables that the reading takes, are together of bulk at most 1048576: NARROWER than '..Said'. Prove '..Said' where nothing that the law and all that it calls make is longer than what came in: it says more and counts as full. Else prove '..UptoSaid'. A law counts once. -/
mutual
def uptoBulk {H : Type} : DataW H → Nat
  | .lit (.string bytes) => bytes.length + 1
  | .lit _ => 1
  | .nil => 1
  | .ptr d => uptoBulk d + 1
  | .slice elems spare => uptoBulkAll elems + uptoBulkAll spare + 1
  | .agg parts => uptoBulkAll parts + 1
  | .iface _ d => uptoBulk d + 1
  | .map entries => uptoBulkEntries entries + 1
  | .held _ => 1
def uptoBulkAll {H : Type} : List (DataW H) → Nat
  | [] => 0
  | d :: r => uptoBulk d + uptoBulkAll r
def uptoBulkEntries {H : Type} : List (Lit × DataW H) → Nat
  | [] => 0
  | x :: r => uptoBulkEntry x + uptoBulkEntries r
def uptoBulkEntry {H : Type} : Lit × DataW H → Nat
  | (.string bytes, d) => bytes.length + uptoBulk d + 1
  | (_, d) => uptoBulk d + 1
 end
def uptoSmall : (H : Type) → List (DataW H) → Bool := fun _ ds => decide (uptoBulkAll ds ≤ 1048576)
def OpenSpec.upto (s : _root_.Go.ChangeSpec) : _root_.Go.OpenSpec := { _root_.Go.OpenSpec.ofChange s with cond := some uptoSmall }

/-- 'concertinalaw2.PlatterKeeps', WHERE WHAT IT READS IS OF BULK AT MOST 1048576: true; the input reads as it did. -/
def platterKeepsUptoRow : OpenClaim := { program := "ytidjmjfoheagmaa", sum := "03491f6275c98e86c308f38fb2607719d4bd9052385c4dad4d4b8b4832b99f90", func := "concertina/concertinalaw2.PlatterKeeps", spec := "platterKeeps", unfollowed := true, recurses := true, apart := false, narrowed := true }
def PlatterKeepsUptoSaid : Prop := platterKeepsUptoRow.holds Try.pinned (OpenSpec.upto platterKeepsSpec)

/-- 'concertinalaw2.PlatterRots', WHERE WHAT IT READS IS OF BULK AT MOST 1048576: true; the input reads as it did. -/
def platterRotsUptoRow : OpenClaim := { program := "ytidjmjfoheagmaa", sum := "03491f6275c98e86c308f38fb2607719d4bd9052385c4dad4d4b8b4832b99f90", func := "concertina/concertinalaw2.PlatterRots", spec := "platterRots", unfollowed := true, recurses := true, apart := false, narrowed := true }
def PlatterRotsUptoSaid : Prop := platterRotsUptoRow.holds Try.pinned (OpenSpec.upto platterRotsSpec)

/-- 'concertinalaw2.PlatterKnown', WHERE WHAT IT READS IS OF BULK AT MOST 1048576: true; the input reads as it did. -/
def platterKnownUptoRow : OpenClaim := { program := "ytidjmjfoheagmaa", sum := "03491f6275c98e86c308f38fb2607719d4bd9052385c4dad4d4b8b4832b99f90", func := "concertina/concertinalaw2.PlatterKnown", spec := "platterKnown", unfollowed := true, recurses := true, apart := false, narrowed := true }
def PlatterKnownUptoSaid : Prop := platterKnownUptoRow.holds Try.pinned (OpenSpec.upto platterKnownSpec)

/-- 'concertinalaw2.PlatterFails', WHERE WHAT IT READS IS OF BULK AT MOST 1048576: true; the input reads as it did. -/
def platterFailsUptoRow : OpenClaim := { program := "ytidjmjfoheagmaa", sum := "03491f6275c98e86c308f38fb2607719d4bd9052385c4dad4d4b8b4832b99f90", func := "concertina/concertinalaw2.PlatterFails", spec := "platterFails", unfollowed := true, recurses := true, apart := false, narrowed := true }
def PlatterFailsUptoSaid : Prop := platterFailsUptoRow.holds Try.pinned (OpenSpec.upto platterFailsSpec)

/-- 'concertinalaw2.PlatterPlays', WHERE WHAT IT READS IS OF BULK AT MOST 1048576: true; the input reads as it did. -/
def platterPlaysUptoRow : OpenClaim := { program := "ytidjmjfoheagmaa", sum := "03491f6275c98e86c308f38fb2607719d4bd9052385c4dad4d4b8b4832b99f90", func := "concertina/concertinalaw2.PlatterPlays", spec := "platterPlays", unfollowed := true, recurses := true, apart := false, narrowed := true }
def PlatterPlaysUptoSaid : Prop := platterPlaysUptoRow.holds Try.pinned (OpenSpec.upto platterPlaysSpec)

/-- 'concertinalaw2.PlatterCopies', WHERE WHAT IT READS IS OF BULK AT MOST 1048576: true; the input reads as it did. -/
def platterCopiesUptoRow : OpenClaim := { program := "ytidjmjfoheagmaa", sum := "03491f6275c98e86c308f38fb2607719d4bd9052385c4dad4d4b8b4832b99f90", func := "concertina/concertinalaw2.PlatterCopies", spec := "platterCopies", unfollowed := true, recurses := true, apart := false, narrowed := true }
def PlatterCopiesUptoSaid : Prop := platterCopiesUptoRow.holds Try.pinned (OpenSpec.upto platterCopiesSpec)

end Rows
end Go.Proofs.Ytidjmjfoheagmaa
