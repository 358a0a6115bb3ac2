import Derived.Test.YtlmkcdebchahpaaDoorB0
import Derived.Laws.OwnMore
set_option linter.unusedVariables false
set_option linter.unusedSimpArgs false
namespace Go.Proofs.YtlmkcdebchahpaaDoor
open Go.RowKit

/-- So many bytes nought. -/
def zerosB (n : Nat) : ByteArray := strN (List.replicate n 0)
theorem zerosB_size (n : Nat) : (zerosB n).size = n := by unfold zerosB; rw [strN_size, List.length_replicate]
theorem bys_zerosB (n : Nat) : bys (zerosB n) = List.replicate n 0 := bys_strN (fun x hx => by rw [List.eq_of_mem_replicate hx]; omega)
theorem mk_run (n : Nat) (hn : n ≤ 1000000) (W : World) : (Instr.makeSlice 22 (.int .i64 (n : Int)) (.int .i64 (n : Int))).run Tryd.prog W = .ok (.slice (some ⟨W.heap.size, 0, none⟩) n n) (W.alloc (.cells (madeCells #[.int .u8 0] n) 5)) := by
  obtain ⟨i0, hi, hz0, hz1, hz2⟩ := info_parts Tryd.info5
  have h := run_make (P := Tryd.prog) W 22 5 i0 (.int .u8 0) Tryd.underlying22 hi hz0 .i64 .i64 (n : Int) (n : Int) (by omega) (Int.le_refl _) (by rw [hz2]; omega) (by omega)
  rw [hz1, Int.toNat_natCast, Nat.mul_one] at h
  exact h
theorem mk_conv (n : Nat) (W : World) : (convert 22 9 (.slice (some ⟨W.heap.size, 0, none⟩) n n)).run Tryd.prog (W.alloc (.cells (madeCells #[.int .u8 0] n) 5)) = .ok (.string (zerosB n)) (W.alloc (.cells (madeCells #[.int .u8 0] n) 5)) := by
  unfold zerosB strN
  refine run_convert_bytes_arg _ 22 5 Tryd.underlying22 Tryd.underlying5 W.heap.size 0 n n ((List.replicate n 0).map fun (x : Nat) => (x : Int)) (by simp) (fun i hi => ?_) 9 Tryd.underlying9
  rw [Nat.zero_add, new_cell, ← Array.getElem?_toList, toList_madeCells_one]
  simp [hi, List.getD_eq_getElem?_getD]
end Go.Proofs.YtlmkcdebchahpaaDoor
