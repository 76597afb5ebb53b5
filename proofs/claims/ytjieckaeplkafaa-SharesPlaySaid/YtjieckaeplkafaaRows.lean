/-
  No cell of these rows narrows 'for every input' (looked for: loops, veiled, ifaces, maps, wideKeys, modest, calm, conditions, laid).
  DERIVED. THE GIVEN ROWS OF THIS SEAT. 4 by the template 'for every input the law returns true; each argument reads behind the call as it read before'; 0 by the template 'total and deterministic' (their statements: YtjieckaeplkafaaTotals.lean).
  GIVEN WITH THE SEED: the statements are not yours to turn. If you find one false, say at which input.
  Laid BY PROGRAM, IN A SANDBOX (cutbox-rows.mjs): the forced cells as the released guide's own fill.sh prints them over the translation 2add8c879eec52df… (all of the seat's roots in one cut). By AI agents, Wed Nov 11 2026. No macro, syntax, notation, axiom, sorry.
-/
import Derived.Test.YtjieckaeplkafaaChecked
import GoSem.Claim
import GoSem.ClaimJoined
import GoSem.ClaimMapViews
import Derived.JoinedTies
import Derived.KernelRfl
namespace Go.Proofs.Ytjieckaeplkafaa
/- THE CELL 'sum', in the pinned program and in every row, IS THE sha256 OF THE DUMP (.gsa) THAT YtjieckaeplkafaaProg.lean LOADS. Nothing in Lean hashes anything: it is a label: what it is worth is what the hold of that sum in a sandbox is worth. -/
noncomputable def Try.pinned : Pinned := { name := "ytjieckaeplkafaa", sum := "2add8c879eec52df8853beaaaf113bfcaf0deaa3d1f7543e662aec923a73f369", checked := Try.checked }
namespace Rows
def none {H : Type} : Left H := { results := [], args := [] }

/-- 'concertinalaw12.SharesLate': WHATEVER THE INPUT: true; the input reads as it did. -/
def sharesLateSpec : ChangeSpec := { name := "sharesLate", fn := fun _ => fun
  | [d1, d2] => { results := [.lit (.bool true)], args := [d1, d2] }
  | _ => none }
def sharesLateRow : OpenClaim := { program := "ytjieckaeplkafaa", sum := "2add8c879eec52df8853beaaaf113bfcaf0deaa3d1f7543e662aec923a73f369", func := "concertina/concertinalaw12.SharesLate", spec := "sharesLate", inPlace := ["slices.overlaps[concertina/api.Run]", "maps.clone"], unfollowed := true, recurses := true, apart := false }
def SharesLateSaid : Prop := sharesLateRow.holds Try.pinned (OpenSpec.ofChange sharesLateSpec)

/-- ITS FALSE NEIGHBOUR: 'it returns false'. Refute it at one input. -/
def sharesLateWrong : ChangeSpec := { name := "sharesLate", fn := fun _ => fun
  | [d1, d2] => { results := [.lit (.bool false)], args := [d1, d2] }
  | _ => none }
def SharesLateWrongFalsely : Prop := sharesLateRow.holds Try.pinned (OpenSpec.ofChange sharesLateWrong)

/-- 'concertinalaw12.SharesAdds': WHATEVER THE INPUT: true; the input reads as it did. -/
def sharesAddsSpec : ChangeSpec := { name := "sharesAdds", fn := fun _ => fun
  | [d1, d2, d3] => { results := [.lit (.bool true)], args := [d1, d2, d3] }
  | _ => none }
def sharesAddsRow : OpenClaim := { program := "ytjieckaeplkafaa", sum := "2add8c879eec52df8853beaaaf113bfcaf0deaa3d1f7543e662aec923a73f369", func := "concertina/concertinalaw12.SharesAdds", spec := "sharesAdds", inPlace := ["slices.overlaps[concertina/api.Run]", "maps.clone"], unfollowed := true, recurses := true, apart := false }
def SharesAddsSaid : Prop := sharesAddsRow.holds Try.pinned (OpenSpec.ofChange sharesAddsSpec)

/-- ITS FALSE NEIGHBOUR: 'it returns false'. Refute it at one input. -/
def sharesAddsWrong : ChangeSpec := { name := "sharesAdds", fn := fun _ => fun
  | [d1, d2, d3] => { results := [.lit (.bool false)], args := [d1, d2, d3] }
  | _ => none }
def SharesAddsWrongFalsely : Prop := sharesAddsRow.holds Try.pinned (OpenSpec.ofChange sharesAddsWrong)

/-- 'concertinalaw12.SharesBack': WHATEVER THE INPUT: true; the input reads as it did. -/
def sharesBackSpec : ChangeSpec := { name := "sharesBack", fn := fun _ => fun
  | [d1, d2] => { results := [.lit (.bool true)], args := [d1, d2] }
  | _ => none }
def sharesBackRow : OpenClaim := { program := "ytjieckaeplkafaa", sum := "2add8c879eec52df8853beaaaf113bfcaf0deaa3d1f7543e662aec923a73f369", func := "concertina/concertinalaw12.SharesBack", spec := "sharesBack", inPlace := ["slices.overlaps[concertina/api.Run]", "maps.clone"], unfollowed := true, recurses := true, apart := false }
def SharesBackSaid : Prop := sharesBackRow.holds Try.pinned (OpenSpec.ofChange sharesBackSpec)

/-- ITS FALSE NEIGHBOUR: 'it returns false'. Refute it at one input. -/
def sharesBackWrong : ChangeSpec := { name := "sharesBack", fn := fun _ => fun
  | [d1, d2] => { results := [.lit (.bool false)], args := [d1, d2] }
  | _ => none }
def SharesBackWrongFalsely : Prop := sharesBackRow.holds Try.pinned (OpenSpec.ofChange sharesBackWrong)

/-- 'concertinalaw12.SharesPlay': WHATEVER THE INPUT: true; the input reads as it did. -/
def sharesPlaySpec : ChangeSpec := { name := "sharesPlay", fn := fun _ => fun
  | [d] => { results := [.lit (.bool true)], args := [d] }
  | _ => none }
def sharesPlayRow : OpenClaim := { program := "ytjieckaeplkafaa", sum := "2add8c879eec52df8853beaaaf113bfcaf0deaa3d1f7543e662aec923a73f369", func := "concertina/concertinalaw12.SharesPlay", spec := "sharesPlay", inPlace := ["slices.overlaps[concertina/api.Run]", "maps.clone"], unfollowed := true, recurses := true, apart := false }
def SharesPlaySaid : Prop := sharesPlayRow.holds Try.pinned (OpenSpec.ofChange sharesPlaySpec)

/-- ITS FALSE NEIGHBOUR: 'it returns false'. Refute it at one input. -/
def sharesPlayWrong : ChangeSpec := { name := "sharesPlay", fn := fun _ => fun
  | [d] => { results := [.lit (.bool false)], args := [d] }
  | _ => none }
def SharesPlayWrongFalsely : Prop := sharesPlayRow.holds Try.pinned (OpenSpec.ofChange sharesPlayWrong)

/- THE SECOND FORM. 'bulk': how many values and letters a reading holds, each counted each time it is reached (what is shared counts as often as it is met; a slice's spare places count too). A statement '..UptoSaid' is the law's where the arguments, and the package variables that the reading takes, are together of bulk at most 1048576: NARROWER than '..Said'. Prove '..Said' where nothing that the law and all that it calls make is longer than what came in: it says more and counts as full. Else prove '..UptoSaid'. A law counts once. -/
mutual
def uptoBulk {H : Type} : DataW H → Nat
  | .lit (.string bytes) => bytes.length + 1
  | .lit _ => 1
  | .nil => 1
  | .ptr d => uptoBulk d + 1
  | .slice elems spare => uptoBulkAll elems + uptoBulkAll spare + 1
  | .agg parts => uptoBulkAll parts + 1
  | .iface _ d => uptoBulk d + 1
  | .map entries => uptoBulkEntries entries + 1
  | .held _ => 1
def uptoBulkAll {H : Type} : List (DataW H) → Nat
  | [] => 0
  | d :: r => uptoBulk d + uptoBulkAll r
def uptoBulkEntries {H : Type} : List (Lit × DataW H) → Nat
  | [] => 0
  | x :: r => uptoBulkEntry x + uptoBulkEntries r
def uptoBulkEntry {H : Type} : Lit × DataW H → Nat
  | (.string bytes, d) => bytes.length + uptoBulk d + 1
  | (_, d) => uptoBulk d + 1
 end
def uptoSmall : (H : Type) → List (DataW H) → Bool := fun _ ds => decide (uptoBulkAll ds ≤ 1048576)
def OpenSpec.upto (s : _root_.Go.ChangeSpec) : _root_.Go.OpenSpec := { _root_.Go.OpenSpec.ofChange s with cond := some uptoSmall }

/-- 'concertinalaw12.SharesLate', WHERE WHAT IT READS IS OF BULK AT MOST 1048576: true; the input reads as it did. -/
def sharesLateUptoRow : OpenClaim := { program := "ytjieckaeplkafaa", sum := "2add8c879eec52df8853beaaaf113bfcaf0deaa3d1f7543e662aec923a73f369", func := "concertina/concertinalaw12.SharesLate", spec := "sharesLate", inPlace := ["slices.overlaps[concertina/api.Run]", "maps.clone"], unfollowed := true, recurses := true, apart := false, narrowed := true }
def SharesLateUptoSaid : Prop := sharesLateUptoRow.holds Try.pinned (OpenSpec.upto sharesLateSpec)

/-- 'concertinalaw12.SharesAdds', WHERE WHAT IT READS IS OF BULK AT MOST 1048576: true; the input reads as it did. -/
def sharesAddsUptoRow : OpenClaim := { program := "ytjieckaeplkafaa", sum := "2add8c879eec52df8853beaaaf113bfcaf0deaa3d1f7543e662aec923a73f369", func := "concertina/concertinalaw12.SharesAdds", spec := "sharesAdds", inPlace := ["slices.overlaps[concertina/api.Run]", "maps.clone"], unfollowed := true, recurses := true, apart := false, narrowed := true }
def SharesAddsUptoSaid : Prop := sharesAddsUptoRow.holds Try.pinned (OpenSpec.upto sharesAddsSpec)

/-- 'concertinalaw12.SharesBack', WHERE WHAT IT READS IS OF BULK AT MOST 1048576: true; the input reads as it did. -/
def sharesBackUptoRow : OpenClaim := { program := "ytjieckaeplkafaa", sum := "2add8c879eec52df8853beaaaf113bfcaf0deaa3d1f7543e662aec923a73f369", func := "concertina/concertinalaw12.SharesBack", spec := "sharesBack", inPlace := ["slices.overlaps[concertina/api.Run]", "maps.clone"], unfollowed := true, recurses := true, apart := false, narrowed := true }
def SharesBackUptoSaid : Prop := sharesBackUptoRow.holds Try.pinned (OpenSpec.upto sharesBackSpec)

/-- 'concertinalaw12.SharesPlay', WHERE WHAT IT READS IS OF BULK AT MOST 1048576: true; the input reads as it did. -/
def sharesPlayUptoRow : OpenClaim := { program := "ytjieckaeplkafaa", sum := "2add8c879eec52df8853beaaaf113bfcaf0deaa3d1f7543e662aec923a73f369", func := "concertina/concertinalaw12.SharesPlay", spec := "sharesPlay", inPlace := ["slices.overlaps[concertina/api.Run]", "maps.clone"], unfollowed := true, recurses := true, apart := false, narrowed := true }
def SharesPlayUptoSaid : Prop := sharesPlayUptoRow.holds Try.pinned (OpenSpec.upto sharesPlaySpec)

end Rows
end Go.Proofs.Ytjieckaeplkafaa
