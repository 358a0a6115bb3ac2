import Derived.Test.YtlmkcdebchahpaaDoorLX6
import Derived.Test.YtlmkcdebchahpaaDoorMK
set_option linter.unusedVariables false
set_option linter.unusedSimpArgs false
namespace Go.Proofs.YtlmkcdebchahpaaDoor
open Go.RowKit

theorem bytesR (b : Nat) (hb : b < 256) (c : Int) (hc : c = if goodB b = true then 0 else 10) : ∃ l, wordsR (⟨#[97, 32]⟩ ++ strN [b] ++ ⟨#[32, 98]⟩) = (l, c) := by
  have e : bys (⟨#[97, 32]⟩ ++ strN [b] ++ ⟨#[32, 98]⟩) = [97, 32, b, 32, 98] := by
    rw [bys_append, bys_append, bys_strN (fun z hz => by rw [List.mem_singleton.1 hz]; exact hb), show bys ⟨#[97, 32]⟩ = [97, 32] from rfl, show bys ⟨#[32, 98]⟩ = [32, 98] from rfl]
    rfl
  have hs : (⟨#[97, 32]⟩ ++ strN [b] ++ ⟨#[32, 98]⟩ : ByteArray).size = 5 := by rw [← bys_length, e]; rfl
  have h := bytes_at b hb
  unfold wordsR
  rw [if_neg (by omega), hs, e]
  cases hw : wordsG 6 [97, 32, b, 32, 98] with
  | none =>
    rw [hw] at h
    have h' : goodB b = false := h.symm
    rw [h'] at hc
    exact ⟨[], by rw [hc]; rfl⟩
  | some ws =>
    rw [hw] at h
    have h' : goodB b = true := h.symm
    rw [h'] at hc
    exact ⟨_, by rw [hc]; rfl⟩
theorem next0 (r : List Nat) : nextG (0 :: r) = 0 := by cases r <;> rfl
theorem zerosR (n : Nat) (h0 : 0 < n) : wordsR (zerosB n) = ([], if 2000 < n then 13 else 10) := by
  unfold wordsR
  rw [zerosB_size, bys_zerosB]
  by_cases h : 2000 < n
  · rw [if_pos h, if_pos h]
  · rw [if_neg h, if_neg h]
    obtain ⟨m, rfl⟩ : ∃ m, n = m + 1 := ⟨n - 1, by omega⟩
    rw [List.replicate_succ, wordsG_none rfl (next0 _)]
    rfl
theorem is2 (c : Int) (B : Bool) (hc : c ≠ 0) (h : (c == 13) = B) (w : World) : Calls Tryd.prog 10 #[.iface 35 (.int .i64 c), .iface 35 (.int .i64 13)] w fun e w' => e = .returned (.bool B) ∧ w = w' := by
  have := is_any c 13 (by omega) w
  rw [errV_ne hc, h] at this
  exact this
theorem Tryd.ix0 (w : World) : (Instr.index 9 (.string ⟨#[40, 41, 123, 125, 58, 44, 59, 46]⟩) (.int .i64 0)).run Tryd.prog w = .ok (.int .u8 40) w := by kernel_rfl
theorem Tryd.ix1 (w : World) : (Instr.index 9 (.string ⟨#[40, 41, 123, 125, 58, 44, 59, 46]⟩) (.int .i64 1)).run Tryd.prog w = .ok (.int .u8 41) w := by kernel_rfl
theorem Tryd.ix2 (w : World) : (Instr.index 9 (.string ⟨#[40, 41, 123, 125, 58, 44, 59, 46]⟩) (.int .i64 2)).run Tryd.prog w = .ok (.int .u8 123) w := by kernel_rfl
theorem Tryd.ix3 (w : World) : (Instr.index 9 (.string ⟨#[40, 41, 123, 125, 58, 44, 59, 46]⟩) (.int .i64 3)).run Tryd.prog w = .ok (.int .u8 125) w := by kernel_rfl
theorem Tryd.ix4 (w : World) : (Instr.index 9 (.string ⟨#[40, 41, 123, 125, 58, 44, 59, 46]⟩) (.int .i64 4)).run Tryd.prog w = .ok (.int .u8 58) w := by kernel_rfl
theorem Tryd.ix5 (w : World) : (Instr.index 9 (.string ⟨#[40, 41, 123, 125, 58, 44, 59, 46]⟩) (.int .i64 5)).run Tryd.prog w = .ok (.int .u8 44) w := by kernel_rfl
theorem Tryd.ix6 (w : World) : (Instr.index 9 (.string ⟨#[40, 41, 123, 125, 58, 44, 59, 46]⟩) (.int .i64 6)).run Tryd.prog w = .ok (.int .u8 59) w := by kernel_rfl
theorem Tryd.ix7 (w : World) : (Instr.index 9 (.string ⟨#[40, 41, 123, 125, 58, 44, 59, 46]⟩) (.int .i64 7)).run Tryd.prog w = .ok (.int .u8 46) w := by kernel_rfl

set_option maxHeartbeats 8000000 in
set_option maxRecDepth 100000 in
theorem bytes_lower (b n : Nat) (hb : b < 256) (h1 : 97 ≤ b) (h2 : b ≤ 122) (w : World) :
    Calls Tryd.prog 5 #[.int .u8 (b : Int), .int .u8 (n : Int)] w fun e w' => e = .returned (.bool true) ∧ Below w.heap.size w w' := by
  have ck := Lib.hid (known9_any w)
  have hgood : (0 : Int) = if goodB b = true then 0 else 10 := by
    have hg : goodB b = true := by unfold goodB runB blankB symB; simp; omega
    rw [hg]; rfl
  obtain ⟨l, hl⟩ := bytesR b hb 0 hgood
  have c1 := Lib.hid (Words_is _ _ 0 .nilIface hl rfl)
  obtain ⟨N, hN⟩ : ∃ N : Nat, (1998 : Int) + (n : Int) % 5 = (N : Int) := ⟨1998 + n % 5, by omega⟩
  obtain ⟨c, hc⟩ : ∃ c : Int, c = if 2000 < N then 13 else 10 := ⟨_, rfl⟩
  have hz := zerosR N (by omega)
  rw [← hc] at hz
  obtain ⟨B, k1, k2⟩ : ∃ B : Bool, (c == 13) = B ∧ decide (2 < (n : Int) % 5) = B := by
    by_cases h : 2000 < N
    · rw [if_pos h] at hc
      exact ⟨true, by rw [hc]; rfl, decide_eq_true (by omega)⟩
    · rw [if_neg h] at hc
      exact ⟨false, by rw [hc]; rfl, decide_eq_false (by omega)⟩
  have hc0 : c ≠ 0 := by rw [hc]; split <;> omega
  have c2 := Lib.hid (Words_is _ _ c (.iface 35 (.int .i64 c)) hz (errV_ne hc0))
  have ci := Lib.hid (is2 c B hc0 k1)
  have mr := mk_run N (by omega)
  have mc := mk_conv N
  have cv := conv1 b w
  have sz : (strN [b]).size ≤ 1 := by rw [strN_size]; exact Nat.le_refl _
  have cvx : ∀ W : World, (convert 22 9 (.slice (some ⟨W.heap.size, 0, none⟩) 1 1)).run Tryd.prog (W.alloc (.cells #[.int .u8 (b : Int)] 5)) = .ok (.string (strN [b])) (W.alloc (.cells #[.int .u8 (b : Int)] 5)) := fun W => conv1 b W
  generalize strN [b] = sb at *
  clear cv hl hgood hc hc0 k1 hz
  have x0 := Tryd.ix0
  have x1 := Tryd.ix1
  have x2 := Tryd.ix2
  have x3 := Tryd.ix3
  have x4 := Tryd.ix4
  have x5 := Tryd.ix5
  have x6 := Tryd.ix6
  have x7 := Tryd.ix7
  go_enter Tryd.func5, Tryd.ntmps5
  go_wp2_with (first
    | (go_at_call 7; (with_reducible refine ck.out.mono ?_); rintro e w1 ⟨rfl, hb⟩; have HB := Lib.hid hb; clear hb)
    | (go_at_call 8; (with_reducible refine (c1.out _).mono ?_); rintro e w2 ⟨v1, rfl, ht, hb⟩; replace HB := Lib.hid (below_step (below_alloc' HB.out _) hb); clear ht hb))
  refine wp_loop_rounds 9 ?_
  rw [rounds_succ]
  go_wp2
  rw [rounds_succ]
  go_wp2
  rw [rounds_succ]
  go_wp2
  rw [rounds_succ]
  go_wp2
  rw [rounds_succ]
  go_wp2
  rw [rounds_succ]
  go_wp2
  rw [rounds_succ]
  go_wp2
  rw [rounds_succ]
  go_wp2
  rw [rounds_succ]
  go_wp2_with (first
    | (go_at_call 8; (with_reducible refine (c2.out _).mono ?_); rintro e w3 ⟨v2, rfl, ht, hb⟩; replace HB := Lib.hid (below_step (below_alloc' HB.out _) hb); clear ht hb)
    | (go_at_call 10; (with_reducible refine (ci.out _).mono ?_); rintro e w4 ⟨rfl, rfl⟩)
    | (go_at_call 10; (with_reducible refine (is_yes 10 _).mono ?_); rintro e w4 ⟨rfl, rfl⟩))
  go_ret
  exact ⟨rfl, HB.out⟩

set_option maxHeartbeats 8000000 in
set_option maxRecDepth 100000 in
theorem bytes_upper (b n : Nat) (hb : b < 256) (h1 : 65 ≤ b) (h2 : b ≤ 90) (w : World) :
    Calls Tryd.prog 5 #[.int .u8 (b : Int), .int .u8 (n : Int)] w fun e w' => e = .returned (.bool true) ∧ Below w.heap.size w w' := by
  have ck := Lib.hid (known9_any w)
  have hgood : (0 : Int) = if goodB b = true then 0 else 10 := by
    have hg : goodB b = true := by unfold goodB runB blankB symB; simp; omega
    rw [hg]; rfl
  obtain ⟨l, hl⟩ := bytesR b hb 0 hgood
  have c1 := Lib.hid (Words_is _ _ 0 .nilIface hl rfl)
  obtain ⟨N, hN⟩ : ∃ N : Nat, (1998 : Int) + (n : Int) % 5 = (N : Int) := ⟨1998 + n % 5, by omega⟩
  obtain ⟨c, hc⟩ : ∃ c : Int, c = if 2000 < N then 13 else 10 := ⟨_, rfl⟩
  have hz := zerosR N (by omega)
  rw [← hc] at hz
  obtain ⟨B, k1, k2⟩ : ∃ B : Bool, (c == 13) = B ∧ decide (2 < (n : Int) % 5) = B := by
    by_cases h : 2000 < N
    · rw [if_pos h] at hc
      exact ⟨true, by rw [hc]; rfl, decide_eq_true (by omega)⟩
    · rw [if_neg h] at hc
      exact ⟨false, by rw [hc]; rfl, decide_eq_false (by omega)⟩
  have hc0 : c ≠ 0 := by rw [hc]; split <;> omega
  have c2 := Lib.hid (Words_is _ _ c (.iface 35 (.int .i64 c)) hz (errV_ne hc0))
  have ci := Lib.hid (is2 c B hc0 k1)
  have mr := mk_run N (by omega)
  have mc := mk_conv N
  have cv := conv1 b w
  have sz : (strN [b]).size ≤ 1 := by rw [strN_size]; exact Nat.le_refl _
  have cvx : ∀ W : World, (convert 22 9 (.slice (some ⟨W.heap.size, 0, none⟩) 1 1)).run Tryd.prog (W.alloc (.cells #[.int .u8 (b : Int)] 5)) = .ok (.string (strN [b])) (W.alloc (.cells #[.int .u8 (b : Int)] 5)) := fun W => conv1 b W
  generalize strN [b] = sb at *
  clear cv hl hgood hc hc0 k1 hz
  have x0 := Tryd.ix0
  have x1 := Tryd.ix1
  have x2 := Tryd.ix2
  have x3 := Tryd.ix3
  have x4 := Tryd.ix4
  have x5 := Tryd.ix5
  have x6 := Tryd.ix6
  have x7 := Tryd.ix7
  go_enter Tryd.func5, Tryd.ntmps5
  go_wp2_with (first
    | (go_at_call 7; (with_reducible refine ck.out.mono ?_); rintro e w1 ⟨rfl, hb⟩; have HB := Lib.hid hb; clear hb)
    | (go_at_call 8; (with_reducible refine (c1.out _).mono ?_); rintro e w2 ⟨v1, rfl, ht, hb⟩; replace HB := Lib.hid (below_step (below_alloc' HB.out _) hb); clear ht hb))
  refine wp_loop_rounds 9 ?_
  rw [rounds_succ]
  go_wp2
  rw [rounds_succ]
  go_wp2
  rw [rounds_succ]
  go_wp2
  rw [rounds_succ]
  go_wp2
  rw [rounds_succ]
  go_wp2
  rw [rounds_succ]
  go_wp2
  rw [rounds_succ]
  go_wp2
  rw [rounds_succ]
  go_wp2
  rw [rounds_succ]
  go_wp2_with (first
    | (go_at_call 8; (with_reducible refine (c2.out _).mono ?_); rintro e w3 ⟨v2, rfl, ht, hb⟩; replace HB := Lib.hid (below_step (below_alloc' HB.out _) hb); clear ht hb)
    | (go_at_call 10; (with_reducible refine (ci.out _).mono ?_); rintro e w4 ⟨rfl, rfl⟩)
    | (go_at_call 10; (with_reducible refine (is_yes 10 _).mono ?_); rintro e w4 ⟨rfl, rfl⟩))
  go_ret
  exact ⟨rfl, HB.out⟩

set_option maxHeartbeats 8000000 in
set_option maxRecDepth 100000 in
theorem bytes_digit (b n : Nat) (hb : b < 256) (h1 : 48 ≤ b) (h2 : b ≤ 57) (w : World) :
    Calls Tryd.prog 5 #[.int .u8 (b : Int), .int .u8 (n : Int)] w fun e w' => e = .returned (.bool true) ∧ Below w.heap.size w w' := by
  have ck := Lib.hid (known9_any w)
  have hgood : (0 : Int) = if goodB b = true then 0 else 10 := by
    have hg : goodB b = true := by unfold goodB runB blankB symB; simp; omega
    rw [hg]; rfl
  obtain ⟨l, hl⟩ := bytesR b hb 0 hgood
  have c1 := Lib.hid (Words_is _ _ 0 .nilIface hl rfl)
  obtain ⟨N, hN⟩ : ∃ N : Nat, (1998 : Int) + (n : Int) % 5 = (N : Int) := ⟨1998 + n % 5, by omega⟩
  obtain ⟨c, hc⟩ : ∃ c : Int, c = if 2000 < N then 13 else 10 := ⟨_, rfl⟩
  have hz := zerosR N (by omega)
  rw [← hc] at hz
  obtain ⟨B, k1, k2⟩ : ∃ B : Bool, (c == 13) = B ∧ decide (2 < (n : Int) % 5) = B := by
    by_cases h : 2000 < N
    · rw [if_pos h] at hc
      exact ⟨true, by rw [hc]; rfl, decide_eq_true (by omega)⟩
    · rw [if_neg h] at hc
      exact ⟨false, by rw [hc]; rfl, decide_eq_false (by omega)⟩
  have hc0 : c ≠ 0 := by rw [hc]; split <;> omega
  have c2 := Lib.hid (Words_is _ _ c (.iface 35 (.int .i64 c)) hz (errV_ne hc0))
  have ci := Lib.hid (is2 c B hc0 k1)
  have mr := mk_run N (by omega)
  have mc := mk_conv N
  have cv := conv1 b w
  have sz : (strN [b]).size ≤ 1 := by rw [strN_size]; exact Nat.le_refl _
  have cvx : ∀ W : World, (convert 22 9 (.slice (some ⟨W.heap.size, 0, none⟩) 1 1)).run Tryd.prog (W.alloc (.cells #[.int .u8 (b : Int)] 5)) = .ok (.string (strN [b])) (W.alloc (.cells #[.int .u8 (b : Int)] 5)) := fun W => conv1 b W
  generalize strN [b] = sb at *
  clear cv hl hgood hc hc0 k1 hz
  have x0 := Tryd.ix0
  have x1 := Tryd.ix1
  have x2 := Tryd.ix2
  have x3 := Tryd.ix3
  have x4 := Tryd.ix4
  have x5 := Tryd.ix5
  have x6 := Tryd.ix6
  have x7 := Tryd.ix7
  go_enter Tryd.func5, Tryd.ntmps5
  go_wp2_with (first
    | (go_at_call 7; (with_reducible refine ck.out.mono ?_); rintro e w1 ⟨rfl, hb⟩; have HB := Lib.hid hb; clear hb)
    | (go_at_call 8; (with_reducible refine (c1.out _).mono ?_); rintro e w2 ⟨v1, rfl, ht, hb⟩; replace HB := Lib.hid (below_step (below_alloc' HB.out _) hb); clear ht hb))
  refine wp_loop_rounds 9 ?_
  rw [rounds_succ]
  go_wp2
  rw [rounds_succ]
  go_wp2
  rw [rounds_succ]
  go_wp2
  rw [rounds_succ]
  go_wp2
  rw [rounds_succ]
  go_wp2
  rw [rounds_succ]
  go_wp2
  rw [rounds_succ]
  go_wp2
  rw [rounds_succ]
  go_wp2
  rw [rounds_succ]
  go_wp2_with (first
    | (go_at_call 8; (with_reducible refine (c2.out _).mono ?_); rintro e w3 ⟨v2, rfl, ht, hb⟩; replace HB := Lib.hid (below_step (below_alloc' HB.out _) hb); clear ht hb)
    | (go_at_call 10; (with_reducible refine (ci.out _).mono ?_); rintro e w4 ⟨rfl, rfl⟩)
    | (go_at_call 10; (with_reducible refine (is_yes 10 _).mono ?_); rintro e w4 ⟨rfl, rfl⟩))
  go_ret
  exact ⟨rfl, HB.out⟩
end Go.Proofs.YtlmkcdebchahpaaDoor
