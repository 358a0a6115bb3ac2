import Derived.Test.YtjincmagbbpooaaGreatDoorQ1
set_option linter.unusedVariables false
set_option linter.unusedSimpArgs false
namespace Go.Proofs.YtjincmagbbpooaaGreatDoor
open Go.RowKit

def sumL (n : Nat) : List Nat := [n % 256, n / 256 % 256, n / 65536 % 256, n / 16777216 % 256]
def sumB (s : ByteArray) : ByteArray := strN (sumL (sumS s))
theorem conv4 (n : Nat) (hn : n < 4294967296) (w : World) : (convert 79 9 (.slice (some ⟨w.heap.size, 0, none⟩) 4 4)).run Tryz.prog
    (w.alloc (.cells #[.int .u8 ((n : Int) % 256), .int .u8 ((n : Int) / 256 % 256), .int .u8 ((n : Int) / 65536 % 256), .int .u8 ((n : Int) / 16777216)] 5)) =
    .ok (.string (strN (sumL n))) (w.alloc (.cells #[.int .u8 ((n : Int) % 256), .int .u8 ((n : Int) / 256 % 256), .int .u8 ((n : Int) / 65536 % 256), .int .u8 ((n : Int) / 16777216)] 5)) := by
  unfold strN
  refine run_convert_bytes_arg _ 79 5 Tryz.underlying79 Tryz.underlying5 w.heap.size 0 4 4 ((sumL n).map fun (x : Nat) => (x : Int)) rfl (fun i hi => ?_) 9 Tryz.underlying9
  rw [Nat.zero_add, new_cell]
  have : i = 0 ∨ i = 1 ∨ i = 2 ∨ i = 3 := by omega
  rcases this with rfl | rfl | rfl | rfl
  · simp [sumL]
  · simp [sumL]
  · simp [sumL]
  · simp [sumL]; omega
theorem Tryz.make4 (w : World) : (Instr.makeSlice 79 (.int .i64 4) (.int .i64 4)).run Tryz.prog w = .ok (.slice (some ⟨w.heap.size, 0, none⟩) 4 4) (w.alloc (.cells #[.int .u8 0, .int .u8 0, .int .u8 0, .int .u8 0] 5)) := by kernel_rfl
set_option maxHeartbeats 8000000 in
set_option maxRecDepth 100000 in
theorem sum_any (s : ByteArray) (hs : s.size ≤ 9223372036854775807) (w : World) : Calls Tryz.prog 76 #[.string s] w fun e w' => e = .returned (.string (sumB s)) ∧ Below w.heap.size w w' := by
  have cs := Lib.hid (Sum_any s hs w)
  have hlt := sumS_lt s
  have hmk := Tryz.make4
  have hcv := conv4 (sumS s) (sumS_lt s) w
  unfold sumB
  generalize sumS s = n at cs hlt hcv ⊢
  go_enter Tryz.func76, Tryz.ntmps76
  go_wp2_with ((go_at_call 98; with_reducible refine cs.out.mono ?_; rintro e w1 ⟨rfl, rfl⟩))
  refine wp_loop_rounds 5 ?_
  rw [rounds_succ]
  go_wp2
  rw [rounds_succ]
  go_wp2
  rw [rounds_succ]
  go_wp2
  rw [rounds_succ]
  go_wp2
  rw [rounds_succ]
  go_wp2
  go_ret
  exact ⟨rfl, (Below.refl _ _).alloc (Nat.le_refl _) _⟩
end Go.Proofs.YtjincmagbbpooaaGreatDoor
