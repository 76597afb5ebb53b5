/- make([]byte, n). Conditions: none; plain lemmas. -/
import Derived.Test.YtahedenbchgglaaProg
import Derived.Test.YtahedenbchgglaaBase
import Derived.Deep.OwnRows
set_option linter.unusedSimpArgs false
set_option linter.unusedVariables false
namespace Go.Proofs.Ytahedenbchgglaa
open Go.RowKit

theorem info_u8m : (Try.prog.info? 5).map (fun i => (i.zero, i.size, i.bytes)) = some (some (.int .u8 0), 1, 1) := by kernel_rfl
theorem mk_u8 (n : Nat) (hn : n ≤ 1000000) (w : World) : (Instr.makeSlice 25 (.int .i64 (n : Int)) (.int .i64 (n : Int))).run Try.prog w = .ok (.slice (some ⟨w.heap.size, 0, none⟩) n n) (w.alloc (.cells (madeCells #[.int .u8 0] n) 5)) :=
  run_make_row' 25 5 (.int .u8 0) 1 Try.underlying25 info_u8m rfl .i64 .i64 n (by omega) (by omega) w
theorem zeros_row (n : Nat) (hn : n ≤ 1000000) (w : World) : Row (w.alloc (.cells (madeCells #[.int .u8 0] n) 5)) (New w) 5 1 (.slice (some ⟨w.heap.size, 0, none⟩) n n) n (bys (List.replicate n 0)) := by
  have hl : (madeCells #[Value.int .u8 0] n).toList = List.replicate n (.int .u8 0) := by
    simp only [madeCells, Array.toList_map, Array.toList_range]
    refine List.ext_getElem? fun i => ?_
    by_cases hi : i < n <;> simp [hi, Nat.mod_one, List.getElem?_replicate]
  have hs : (madeCells #[Value.int .u8 0] n).size = n := by rw [← Array.length_toList, hl, List.length_replicate]
  have h := Row.made w (madeCells #[Value.int .u8 0] n) 5 1 n n (by rw [hs, Nat.mul_one]) (Nat.le_refl _) (by omega)
  rw [hl] at h
  simpa [bys] using h
end Go.Proofs.Ytahedenbchgglaa
