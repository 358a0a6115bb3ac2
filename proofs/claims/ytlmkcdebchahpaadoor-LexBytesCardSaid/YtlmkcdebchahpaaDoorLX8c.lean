import Derived.Test.YtlmkcdebchahpaaDoorLX8
set_option linter.unusedVariables false
set_option linter.unusedSimpArgs false
namespace Go.Proofs.YtlmkcdebchahpaaDoor
open Go.RowKit

set_option maxHeartbeats 8000000 in
set_option maxRecDepth 100000 in
theorem bytes_is95 (n : Nat)  (w : World) :
    Calls Tryd.prog 5 #[.int .u8 95, .int .u8 (n : Int)] w fun e w' => e = .returned (.bool true) ∧ Below w.heap.size w w' := by
  have ck := Lib.hid (known9_any w)
  have hgood : (0 : Int) = if goodB 95 = true then 0 else 10 := by
    have hg : goodB 95 = true := rfl
    rw [hg]; rfl
  obtain ⟨l, hl⟩ := bytesR 95 (by omega) 0 hgood
  have c1 := Lib.hid (Words_is _ _ 0 .nilIface hl rfl)
  obtain ⟨N, hN⟩ : ∃ N : Nat, (1998 : Int) + (n : Int) % 5 = (N : Int) := ⟨1998 + n % 5, by omega⟩
  obtain ⟨c, hc⟩ : ∃ c : Int, c = if 2000 < N then 13 else 10 := ⟨_, rfl⟩
  have hz := zerosR N (by omega)
  rw [← hc] at hz
  obtain ⟨B, k1, k2⟩ : ∃ B : Bool, (c == 13) = B ∧ decide (2 < (n : Int) % 5) = B := by
    by_cases h : 2000 < N
    · rw [if_pos h] at hc
      exact ⟨true, by rw [hc]; rfl, decide_eq_true (by omega)⟩
    · rw [if_neg h] at hc
      exact ⟨false, by rw [hc]; rfl, decide_eq_false (by omega)⟩
  have hc0 : c ≠ 0 := by rw [hc]; split <;> omega
  have c2 := Lib.hid (Words_is _ _ c (.iface 35 (.int .i64 c)) hz (errV_ne hc0))
  have ci := Lib.hid (is2 c B hc0 k1)
  have mr := mk_run N (by omega)
  have mc := mk_conv N
  have cv := conv1 95 w
  have sz : (strN [95]).size ≤ 1 := by rw [strN_size]; exact Nat.le_refl _
  have cvx : ∀ W : World, (convert 22 9 (.slice (some ⟨W.heap.size, 0, none⟩) 1 1)).run Tryd.prog (W.alloc (.cells #[.int .u8 95] 5)) = .ok (.string (strN [95])) (W.alloc (.cells #[.int .u8 95] 5)) := fun W => conv1 95 W
  generalize strN [95] = sb at *
  clear cv hl hgood hc hc0 k1 hz
  have x0 := Tryd.ix0
  have x1 := Tryd.ix1
  have x2 := Tryd.ix2
  have x3 := Tryd.ix3
  have x4 := Tryd.ix4
  have x5 := Tryd.ix5
  have x6 := Tryd.ix6
  have x7 := Tryd.ix7
  go_enter Tryd.func5, Tryd.ntmps5
  go_wp2_with (first
    | (go_at_call 7; (with_reducible refine ck.out.mono ?_); rintro e w1 ⟨rfl, hb⟩; have HB := Lib.hid hb; clear hb)
    | (go_at_call 8; (with_reducible refine (c1.out _).mono ?_); rintro e w2 ⟨v1, rfl, ht, hb⟩; replace HB := Lib.hid (below_step (below_alloc' HB.out _) hb); clear ht hb))
  refine wp_loop_rounds 9 ?_
  rw [rounds_succ]
  go_wp2
  rw [rounds_succ]
  go_wp2
  rw [rounds_succ]
  go_wp2
  rw [rounds_succ]
  go_wp2
  rw [rounds_succ]
  go_wp2
  rw [rounds_succ]
  go_wp2
  rw [rounds_succ]
  go_wp2
  rw [rounds_succ]
  go_wp2
  rw [rounds_succ]
  go_wp2_with (first
    | (go_at_call 8; (with_reducible refine (c2.out _).mono ?_); rintro e w3 ⟨v2, rfl, ht, hb⟩; replace HB := Lib.hid (below_step (below_alloc' HB.out _) hb); clear ht hb)
    | (go_at_call 10; (with_reducible refine (ci.out _).mono ?_); rintro e w4 ⟨rfl, rfl⟩)
    | (go_at_call 10; (with_reducible refine (is_yes 10 _).mono ?_); rintro e w4 ⟨rfl, rfl⟩))
  go_ret
  exact ⟨rfl, HB.out⟩

set_option maxHeartbeats 8000000 in
set_option maxRecDepth 100000 in
theorem bytes_is64 (n : Nat)  (w : World) :
    Calls Tryd.prog 5 #[.int .u8 64, .int .u8 (n : Int)] w fun e w' => e = .returned (.bool true) ∧ Below w.heap.size w w' := by
  have ck := Lib.hid (known9_any w)
  have hgood : (0 : Int) = if goodB 64 = true then 0 else 10 := by
    have hg : goodB 64 = true := rfl
    rw [hg]; rfl
  obtain ⟨l, hl⟩ := bytesR 64 (by omega) 0 hgood
  have c1 := Lib.hid (Words_is _ _ 0 .nilIface hl rfl)
  obtain ⟨N, hN⟩ : ∃ N : Nat, (1998 : Int) + (n : Int) % 5 = (N : Int) := ⟨1998 + n % 5, by omega⟩
  obtain ⟨c, hc⟩ : ∃ c : Int, c = if 2000 < N then 13 else 10 := ⟨_, rfl⟩
  have hz := zerosR N (by omega)
  rw [← hc] at hz
  obtain ⟨B, k1, k2⟩ : ∃ B : Bool, (c == 13) = B ∧ decide (2 < (n : Int) % 5) = B := by
    by_cases h : 2000 < N
    · rw [if_pos h] at hc
      exact ⟨true, by rw [hc]; rfl, decide_eq_true (by omega)⟩
    · rw [if_neg h] at hc
      exact ⟨false, by rw [hc]; rfl, decide_eq_false (by omega)⟩
  have hc0 : c ≠ 0 := by rw [hc]; split <;> omega
  have c2 := Lib.hid (Words_is _ _ c (.iface 35 (.int .i64 c)) hz (errV_ne hc0))
  have ci := Lib.hid (is2 c B hc0 k1)
  have mr := mk_run N (by omega)
  have mc := mk_conv N
  have cv := conv1 64 w
  have sz : (strN [64]).size ≤ 1 := by rw [strN_size]; exact Nat.le_refl _
  have cvx : ∀ W : World, (convert 22 9 (.slice (some ⟨W.heap.size, 0, none⟩) 1 1)).run Tryd.prog (W.alloc (.cells #[.int .u8 64] 5)) = .ok (.string (strN [64])) (W.alloc (.cells #[.int .u8 64] 5)) := fun W => conv1 64 W
  generalize strN [64] = sb at *
  clear cv hl hgood hc hc0 k1 hz
  have x0 := Tryd.ix0
  have x1 := Tryd.ix1
  have x2 := Tryd.ix2
  have x3 := Tryd.ix3
  have x4 := Tryd.ix4
  have x5 := Tryd.ix5
  have x6 := Tryd.ix6
  have x7 := Tryd.ix7
  go_enter Tryd.func5, Tryd.ntmps5
  go_wp2_with (first
    | (go_at_call 7; (with_reducible refine ck.out.mono ?_); rintro e w1 ⟨rfl, hb⟩; have HB := Lib.hid hb; clear hb)
    | (go_at_call 8; (with_reducible refine (c1.out _).mono ?_); rintro e w2 ⟨v1, rfl, ht, hb⟩; replace HB := Lib.hid (below_step (below_alloc' HB.out _) hb); clear ht hb))
  refine wp_loop_rounds 9 ?_
  rw [rounds_succ]
  go_wp2
  rw [rounds_succ]
  go_wp2
  rw [rounds_succ]
  go_wp2
  rw [rounds_succ]
  go_wp2
  rw [rounds_succ]
  go_wp2
  rw [rounds_succ]
  go_wp2
  rw [rounds_succ]
  go_wp2
  rw [rounds_succ]
  go_wp2
  rw [rounds_succ]
  go_wp2_with (first
    | (go_at_call 8; (with_reducible refine (c2.out _).mono ?_); rintro e w3 ⟨v2, rfl, ht, hb⟩; replace HB := Lib.hid (below_step (below_alloc' HB.out _) hb); clear ht hb)
    | (go_at_call 10; (with_reducible refine (ci.out _).mono ?_); rintro e w4 ⟨rfl, rfl⟩)
    | (go_at_call 10; (with_reducible refine (is_yes 10 _).mono ?_); rintro e w4 ⟨rfl, rfl⟩))
  go_ret
  exact ⟨rfl, HB.out⟩

set_option maxHeartbeats 8000000 in
set_option maxRecDepth 100000 in
theorem bytes_is32 (n : Nat)  (w : World) :
    Calls Tryd.prog 5 #[.int .u8 32, .int .u8 (n : Int)] w fun e w' => e = .returned (.bool true) ∧ Below w.heap.size w w' := by
  have ck := Lib.hid (known9_any w)
  have hgood : (0 : Int) = if goodB 32 = true then 0 else 10 := by
    have hg : goodB 32 = true := rfl
    rw [hg]; rfl
  obtain ⟨l, hl⟩ := bytesR 32 (by omega) 0 hgood
  have c1 := Lib.hid (Words_is _ _ 0 .nilIface hl rfl)
  obtain ⟨N, hN⟩ : ∃ N : Nat, (1998 : Int) + (n : Int) % 5 = (N : Int) := ⟨1998 + n % 5, by omega⟩
  obtain ⟨c, hc⟩ : ∃ c : Int, c = if 2000 < N then 13 else 10 := ⟨_, rfl⟩
  have hz := zerosR N (by omega)
  rw [← hc] at hz
  obtain ⟨B, k1, k2⟩ : ∃ B : Bool, (c == 13) = B ∧ decide (2 < (n : Int) % 5) = B := by
    by_cases h : 2000 < N
    · rw [if_pos h] at hc
      exact ⟨true, by rw [hc]; rfl, decide_eq_true (by omega)⟩
    · rw [if_neg h] at hc
      exact ⟨false, by rw [hc]; rfl, decide_eq_false (by omega)⟩
  have hc0 : c ≠ 0 := by rw [hc]; split <;> omega
  have c2 := Lib.hid (Words_is _ _ c (.iface 35 (.int .i64 c)) hz (errV_ne hc0))
  have ci := Lib.hid (is2 c B hc0 k1)
  have mr := mk_run N (by omega)
  have mc := mk_conv N
  have cv := conv1 32 w
  have sz : (strN [32]).size ≤ 1 := by rw [strN_size]; exact Nat.le_refl _
  have cvx : ∀ W : World, (convert 22 9 (.slice (some ⟨W.heap.size, 0, none⟩) 1 1)).run Tryd.prog (W.alloc (.cells #[.int .u8 32] 5)) = .ok (.string (strN [32])) (W.alloc (.cells #[.int .u8 32] 5)) := fun W => conv1 32 W
  generalize strN [32] = sb at *
  clear cv hl hgood hc hc0 k1 hz
  have x0 := Tryd.ix0
  have x1 := Tryd.ix1
  have x2 := Tryd.ix2
  have x3 := Tryd.ix3
  have x4 := Tryd.ix4
  have x5 := Tryd.ix5
  have x6 := Tryd.ix6
  have x7 := Tryd.ix7
  go_enter Tryd.func5, Tryd.ntmps5
  go_wp2_with (first
    | (go_at_call 7; (with_reducible refine ck.out.mono ?_); rintro e w1 ⟨rfl, hb⟩; have HB := Lib.hid hb; clear hb)
    | (go_at_call 8; (with_reducible refine (c1.out _).mono ?_); rintro e w2 ⟨v1, rfl, ht, hb⟩; replace HB := Lib.hid (below_step (below_alloc' HB.out _) hb); clear ht hb))
  refine wp_loop_rounds 9 ?_
  rw [rounds_succ]
  go_wp2
  rw [rounds_succ]
  go_wp2
  rw [rounds_succ]
  go_wp2
  rw [rounds_succ]
  go_wp2
  rw [rounds_succ]
  go_wp2
  rw [rounds_succ]
  go_wp2
  rw [rounds_succ]
  go_wp2
  rw [rounds_succ]
  go_wp2
  rw [rounds_succ]
  go_wp2_with (first
    | (go_at_call 8; (with_reducible refine (c2.out _).mono ?_); rintro e w3 ⟨v2, rfl, ht, hb⟩; replace HB := Lib.hid (below_step (below_alloc' HB.out _) hb); clear ht hb)
    | (go_at_call 10; (with_reducible refine (ci.out _).mono ?_); rintro e w4 ⟨rfl, rfl⟩)
    | (go_at_call 10; (with_reducible refine (is_yes 10 _).mono ?_); rintro e w4 ⟨rfl, rfl⟩))
  go_ret
  exact ⟨rfl, HB.out⟩

set_option maxHeartbeats 8000000 in
set_option maxRecDepth 100000 in
theorem bytes_is9 (n : Nat)  (w : World) :
    Calls Tryd.prog 5 #[.int .u8 9, .int .u8 (n : Int)] w fun e w' => e = .returned (.bool true) ∧ Below w.heap.size w w' := by
  have ck := Lib.hid (known9_any w)
  have hgood : (0 : Int) = if goodB 9 = true then 0 else 10 := by
    have hg : goodB 9 = true := rfl
    rw [hg]; rfl
  obtain ⟨l, hl⟩ := bytesR 9 (by omega) 0 hgood
  have c1 := Lib.hid (Words_is _ _ 0 .nilIface hl rfl)
  obtain ⟨N, hN⟩ : ∃ N : Nat, (1998 : Int) + (n : Int) % 5 = (N : Int) := ⟨1998 + n % 5, by omega⟩
  obtain ⟨c, hc⟩ : ∃ c : Int, c = if 2000 < N then 13 else 10 := ⟨_, rfl⟩
  have hz := zerosR N (by omega)
  rw [← hc] at hz
  obtain ⟨B, k1, k2⟩ : ∃ B : Bool, (c == 13) = B ∧ decide (2 < (n : Int) % 5) = B := by
    by_cases h : 2000 < N
    · rw [if_pos h] at hc
      exact ⟨true, by rw [hc]; rfl, decide_eq_true (by omega)⟩
    · rw [if_neg h] at hc
      exact ⟨false, by rw [hc]; rfl, decide_eq_false (by omega)⟩
  have hc0 : c ≠ 0 := by rw [hc]; split <;> omega
  have c2 := Lib.hid (Words_is _ _ c (.iface 35 (.int .i64 c)) hz (errV_ne hc0))
  have ci := Lib.hid (is2 c B hc0 k1)
  have mr := mk_run N (by omega)
  have mc := mk_conv N
  have cv := conv1 9 w
  have sz : (strN [9]).size ≤ 1 := by rw [strN_size]; exact Nat.le_refl _
  have cvx : ∀ W : World, (convert 22 9 (.slice (some ⟨W.heap.size, 0, none⟩) 1 1)).run Tryd.prog (W.alloc (.cells #[.int .u8 9] 5)) = .ok (.string (strN [9])) (W.alloc (.cells #[.int .u8 9] 5)) := fun W => conv1 9 W
  generalize strN [9] = sb at *
  clear cv hl hgood hc hc0 k1 hz
  have x0 := Tryd.ix0
  have x1 := Tryd.ix1
  have x2 := Tryd.ix2
  have x3 := Tryd.ix3
  have x4 := Tryd.ix4
  have x5 := Tryd.ix5
  have x6 := Tryd.ix6
  have x7 := Tryd.ix7
  go_enter Tryd.func5, Tryd.ntmps5
  go_wp2_with (first
    | (go_at_call 7; (with_reducible refine ck.out.mono ?_); rintro e w1 ⟨rfl, hb⟩; have HB := Lib.hid hb; clear hb)
    | (go_at_call 8; (with_reducible refine (c1.out _).mono ?_); rintro e w2 ⟨v1, rfl, ht, hb⟩; replace HB := Lib.hid (below_step (below_alloc' HB.out _) hb); clear ht hb))
  refine wp_loop_rounds 9 ?_
  rw [rounds_succ]
  go_wp2
  rw [rounds_succ]
  go_wp2
  rw [rounds_succ]
  go_wp2
  rw [rounds_succ]
  go_wp2
  rw [rounds_succ]
  go_wp2
  rw [rounds_succ]
  go_wp2
  rw [rounds_succ]
  go_wp2
  rw [rounds_succ]
  go_wp2
  rw [rounds_succ]
  go_wp2_with (first
    | (go_at_call 8; (with_reducible refine (c2.out _).mono ?_); rintro e w3 ⟨v2, rfl, ht, hb⟩; replace HB := Lib.hid (below_step (below_alloc' HB.out _) hb); clear ht hb)
    | (go_at_call 10; (with_reducible refine (ci.out _).mono ?_); rintro e w4 ⟨rfl, rfl⟩)
    | (go_at_call 10; (with_reducible refine (is_yes 10 _).mono ?_); rintro e w4 ⟨rfl, rfl⟩))
  go_ret
  exact ⟨rfl, HB.out⟩

set_option maxHeartbeats 8000000 in
set_option maxRecDepth 100000 in
theorem bytes_is10 (n : Nat)  (w : World) :
    Calls Tryd.prog 5 #[.int .u8 10, .int .u8 (n : Int)] w fun e w' => e = .returned (.bool true) ∧ Below w.heap.size w w' := by
  have ck := Lib.hid (known9_any w)
  have hgood : (0 : Int) = if goodB 10 = true then 0 else 10 := by
    have hg : goodB 10 = true := rfl
    rw [hg]; rfl
  obtain ⟨l, hl⟩ := bytesR 10 (by omega) 0 hgood
  have c1 := Lib.hid (Words_is _ _ 0 .nilIface hl rfl)
  obtain ⟨N, hN⟩ : ∃ N : Nat, (1998 : Int) + (n : Int) % 5 = (N : Int) := ⟨1998 + n % 5, by omega⟩
  obtain ⟨c, hc⟩ : ∃ c : Int, c = if 2000 < N then 13 else 10 := ⟨_, rfl⟩
  have hz := zerosR N (by omega)
  rw [← hc] at hz
  obtain ⟨B, k1, k2⟩ : ∃ B : Bool, (c == 13) = B ∧ decide (2 < (n : Int) % 5) = B := by
    by_cases h : 2000 < N
    · rw [if_pos h] at hc
      exact ⟨true, by rw [hc]; rfl, decide_eq_true (by omega)⟩
    · rw [if_neg h] at hc
      exact ⟨false, by rw [hc]; rfl, decide_eq_false (by omega)⟩
  have hc0 : c ≠ 0 := by rw [hc]; split <;> omega
  have c2 := Lib.hid (Words_is _ _ c (.iface 35 (.int .i64 c)) hz (errV_ne hc0))
  have ci := Lib.hid (is2 c B hc0 k1)
  have mr := mk_run N (by omega)
  have mc := mk_conv N
  have cv := conv1 10 w
  have sz : (strN [10]).size ≤ 1 := by rw [strN_size]; exact Nat.le_refl _
  have cvx : ∀ W : World, (convert 22 9 (.slice (some ⟨W.heap.size, 0, none⟩) 1 1)).run Tryd.prog (W.alloc (.cells #[.int .u8 10] 5)) = .ok (.string (strN [10])) (W.alloc (.cells #[.int .u8 10] 5)) := fun W => conv1 10 W
  generalize strN [10] = sb at *
  clear cv hl hgood hc hc0 k1 hz
  have x0 := Tryd.ix0
  have x1 := Tryd.ix1
  have x2 := Tryd.ix2
  have x3 := Tryd.ix3
  have x4 := Tryd.ix4
  have x5 := Tryd.ix5
  have x6 := Tryd.ix6
  have x7 := Tryd.ix7
  go_enter Tryd.func5, Tryd.ntmps5
  go_wp2_with (first
    | (go_at_call 7; (with_reducible refine ck.out.mono ?_); rintro e w1 ⟨rfl, hb⟩; have HB := Lib.hid hb; clear hb)
    | (go_at_call 8; (with_reducible refine (c1.out _).mono ?_); rintro e w2 ⟨v1, rfl, ht, hb⟩; replace HB := Lib.hid (below_step (below_alloc' HB.out _) hb); clear ht hb))
  refine wp_loop_rounds 9 ?_
  rw [rounds_succ]
  go_wp2
  rw [rounds_succ]
  go_wp2
  rw [rounds_succ]
  go_wp2
  rw [rounds_succ]
  go_wp2
  rw [rounds_succ]
  go_wp2
  rw [rounds_succ]
  go_wp2
  rw [rounds_succ]
  go_wp2
  rw [rounds_succ]
  go_wp2
  rw [rounds_succ]
  go_wp2_with (first
    | (go_at_call 8; (with_reducible refine (c2.out _).mono ?_); rintro e w3 ⟨v2, rfl, ht, hb⟩; replace HB := Lib.hid (below_step (below_alloc' HB.out _) hb); clear ht hb)
    | (go_at_call 10; (with_reducible refine (ci.out _).mono ?_); rintro e w4 ⟨rfl, rfl⟩)
    | (go_at_call 10; (with_reducible refine (is_yes 10 _).mono ?_); rintro e w4 ⟨rfl, rfl⟩))
  go_ret
  exact ⟨rfl, HB.out⟩

set_option maxHeartbeats 8000000 in
set_option maxRecDepth 100000 in
theorem bytes_is13 (n : Nat)  (w : World) :
    Calls Tryd.prog 5 #[.int .u8 13, .int .u8 (n : Int)] w fun e w' => e = .returned (.bool true) ∧ Below w.heap.size w w' := by
  have ck := Lib.hid (known9_any w)
  have hgood : (0 : Int) = if goodB 13 = true then 0 else 10 := by
    have hg : goodB 13 = true := rfl
    rw [hg]; rfl
  obtain ⟨l, hl⟩ := bytesR 13 (by omega) 0 hgood
  have c1 := Lib.hid (Words_is _ _ 0 .nilIface hl rfl)
  obtain ⟨N, hN⟩ : ∃ N : Nat, (1998 : Int) + (n : Int) % 5 = (N : Int) := ⟨1998 + n % 5, by omega⟩
  obtain ⟨c, hc⟩ : ∃ c : Int, c = if 2000 < N then 13 else 10 := ⟨_, rfl⟩
  have hz := zerosR N (by omega)
  rw [← hc] at hz
  obtain ⟨B, k1, k2⟩ : ∃ B : Bool, (c == 13) = B ∧ decide (2 < (n : Int) % 5) = B := by
    by_cases h : 2000 < N
    · rw [if_pos h] at hc
      exact ⟨true, by rw [hc]; rfl, decide_eq_true (by omega)⟩
    · rw [if_neg h] at hc
      exact ⟨false, by rw [hc]; rfl, decide_eq_false (by omega)⟩
  have hc0 : c ≠ 0 := by rw [hc]; split <;> omega
  have c2 := Lib.hid (Words_is _ _ c (.iface 35 (.int .i64 c)) hz (errV_ne hc0))
  have ci := Lib.hid (is2 c B hc0 k1)
  have mr := mk_run N (by omega)
  have mc := mk_conv N
  have cv := conv1 13 w
  have sz : (strN [13]).size ≤ 1 := by rw [strN_size]; exact Nat.le_refl _
  have cvx : ∀ W : World, (convert 22 9 (.slice (some ⟨W.heap.size, 0, none⟩) 1 1)).run Tryd.prog (W.alloc (.cells #[.int .u8 13] 5)) = .ok (.string (strN [13])) (W.alloc (.cells #[.int .u8 13] 5)) := fun W => conv1 13 W
  generalize strN [13] = sb at *
  clear cv hl hgood hc hc0 k1 hz
  have x0 := Tryd.ix0
  have x1 := Tryd.ix1
  have x2 := Tryd.ix2
  have x3 := Tryd.ix3
  have x4 := Tryd.ix4
  have x5 := Tryd.ix5
  have x6 := Tryd.ix6
  have x7 := Tryd.ix7
  go_enter Tryd.func5, Tryd.ntmps5
  go_wp2_with (first
    | (go_at_call 7; (with_reducible refine ck.out.mono ?_); rintro e w1 ⟨rfl, hb⟩; have HB := Lib.hid hb; clear hb)
    | (go_at_call 8; (with_reducible refine (c1.out _).mono ?_); rintro e w2 ⟨v1, rfl, ht, hb⟩; replace HB := Lib.hid (below_step (below_alloc' HB.out _) hb); clear ht hb))
  refine wp_loop_rounds 9 ?_
  rw [rounds_succ]
  go_wp2
  rw [rounds_succ]
  go_wp2
  rw [rounds_succ]
  go_wp2
  rw [rounds_succ]
  go_wp2
  rw [rounds_succ]
  go_wp2
  rw [rounds_succ]
  go_wp2
  rw [rounds_succ]
  go_wp2
  rw [rounds_succ]
  go_wp2
  rw [rounds_succ]
  go_wp2_with (first
    | (go_at_call 8; (with_reducible refine (c2.out _).mono ?_); rintro e w3 ⟨v2, rfl, ht, hb⟩; replace HB := Lib.hid (below_step (below_alloc' HB.out _) hb); clear ht hb)
    | (go_at_call 10; (with_reducible refine (ci.out _).mono ?_); rintro e w4 ⟨rfl, rfl⟩)
    | (go_at_call 10; (with_reducible refine (is_yes 10 _).mono ?_); rintro e w4 ⟨rfl, rfl⟩))
  go_ret
  exact ⟨rfl, HB.out⟩

set_option maxHeartbeats 8000000 in
set_option maxRecDepth 100000 in
theorem bytes_is40 (n : Nat)  (w : World) :
    Calls Tryd.prog 5 #[.int .u8 40, .int .u8 (n : Int)] w fun e w' => e = .returned (.bool true) ∧ Below w.heap.size w w' := by
  have ck := Lib.hid (known9_any w)
  have hgood : (0 : Int) = if goodB 40 = true then 0 else 10 := by
    have hg : goodB 40 = true := rfl
    rw [hg]; rfl
  obtain ⟨l, hl⟩ := bytesR 40 (by omega) 0 hgood
  have c1 := Lib.hid (Words_is _ _ 0 .nilIface hl rfl)
  obtain ⟨N, hN⟩ : ∃ N : Nat, (1998 : Int) + (n : Int) % 5 = (N : Int) := ⟨1998 + n % 5, by omega⟩
  obtain ⟨c, hc⟩ : ∃ c : Int, c = if 2000 < N then 13 else 10 := ⟨_, rfl⟩
  have hz := zerosR N (by omega)
  rw [← hc] at hz
  obtain ⟨B, k1, k2⟩ : ∃ B : Bool, (c == 13) = B ∧ decide (2 < (n : Int) % 5) = B := by
    by_cases h : 2000 < N
    · rw [if_pos h] at hc
      exact ⟨true, by rw [hc]; rfl, decide_eq_true (by omega)⟩
    · rw [if_neg h] at hc
      exact ⟨false, by rw [hc]; rfl, decide_eq_false (by omega)⟩
  have hc0 : c ≠ 0 := by rw [hc]; split <;> omega
  have c2 := Lib.hid (Words_is _ _ c (.iface 35 (.int .i64 c)) hz (errV_ne hc0))
  have ci := Lib.hid (is2 c B hc0 k1)
  have mr := mk_run N (by omega)
  have mc := mk_conv N
  have cv := conv1 40 w
  have sz : (strN [40]).size ≤ 1 := by rw [strN_size]; exact Nat.le_refl _
  have cvx : ∀ W : World, (convert 22 9 (.slice (some ⟨W.heap.size, 0, none⟩) 1 1)).run Tryd.prog (W.alloc (.cells #[.int .u8 40] 5)) = .ok (.string (strN [40])) (W.alloc (.cells #[.int .u8 40] 5)) := fun W => conv1 40 W
  generalize strN [40] = sb at *
  clear cv hl hgood hc hc0 k1 hz
  have x0 := Tryd.ix0
  have x1 := Tryd.ix1
  have x2 := Tryd.ix2
  have x3 := Tryd.ix3
  have x4 := Tryd.ix4
  have x5 := Tryd.ix5
  have x6 := Tryd.ix6
  have x7 := Tryd.ix7
  go_enter Tryd.func5, Tryd.ntmps5
  go_wp2_with (first
    | (go_at_call 7; (with_reducible refine ck.out.mono ?_); rintro e w1 ⟨rfl, hb⟩; have HB := Lib.hid hb; clear hb)
    | (go_at_call 8; (with_reducible refine (c1.out _).mono ?_); rintro e w2 ⟨v1, rfl, ht, hb⟩; replace HB := Lib.hid (below_step (below_alloc' HB.out _) hb); clear ht hb))
  refine wp_loop_rounds 9 ?_
  rw [rounds_succ]
  go_wp2
  rw [rounds_succ]
  go_wp2
  rw [rounds_succ]
  go_wp2
  rw [rounds_succ]
  go_wp2
  rw [rounds_succ]
  go_wp2
  rw [rounds_succ]
  go_wp2
  rw [rounds_succ]
  go_wp2
  rw [rounds_succ]
  go_wp2
  rw [rounds_succ]
  go_wp2_with (first
    | (go_at_call 8; (with_reducible refine (c2.out _).mono ?_); rintro e w3 ⟨v2, rfl, ht, hb⟩; replace HB := Lib.hid (below_step (below_alloc' HB.out _) hb); clear ht hb)
    | (go_at_call 10; (with_reducible refine (ci.out _).mono ?_); rintro e w4 ⟨rfl, rfl⟩)
    | (go_at_call 10; (with_reducible refine (is_yes 10 _).mono ?_); rintro e w4 ⟨rfl, rfl⟩))
  go_ret
  exact ⟨rfl, HB.out⟩

set_option maxHeartbeats 8000000 in
set_option maxRecDepth 100000 in
theorem bytes_is41 (n : Nat)  (w : World) :
    Calls Tryd.prog 5 #[.int .u8 41, .int .u8 (n : Int)] w fun e w' => e = .returned (.bool true) ∧ Below w.heap.size w w' := by
  have ck := Lib.hid (known9_any w)
  have hgood : (0 : Int) = if goodB 41 = true then 0 else 10 := by
    have hg : goodB 41 = true := rfl
    rw [hg]; rfl
  obtain ⟨l, hl⟩ := bytesR 41 (by omega) 0 hgood
  have c1 := Lib.hid (Words_is _ _ 0 .nilIface hl rfl)
  obtain ⟨N, hN⟩ : ∃ N : Nat, (1998 : Int) + (n : Int) % 5 = (N : Int) := ⟨1998 + n % 5, by omega⟩
  obtain ⟨c, hc⟩ : ∃ c : Int, c = if 2000 < N then 13 else 10 := ⟨_, rfl⟩
  have hz := zerosR N (by omega)
  rw [← hc] at hz
  obtain ⟨B, k1, k2⟩ : ∃ B : Bool, (c == 13) = B ∧ decide (2 < (n : Int) % 5) = B := by
    by_cases h : 2000 < N
    · rw [if_pos h] at hc
      exact ⟨true, by rw [hc]; rfl, decide_eq_true (by omega)⟩
    · rw [if_neg h] at hc
      exact ⟨false, by rw [hc]; rfl, decide_eq_false (by omega)⟩
  have hc0 : c ≠ 0 := by rw [hc]; split <;> omega
  have c2 := Lib.hid (Words_is _ _ c (.iface 35 (.int .i64 c)) hz (errV_ne hc0))
  have ci := Lib.hid (is2 c B hc0 k1)
  have mr := mk_run N (by omega)
  have mc := mk_conv N
  have cv := conv1 41 w
  have sz : (strN [41]).size ≤ 1 := by rw [strN_size]; exact Nat.le_refl _
  have cvx : ∀ W : World, (convert 22 9 (.slice (some ⟨W.heap.size, 0, none⟩) 1 1)).run Tryd.prog (W.alloc (.cells #[.int .u8 41] 5)) = .ok (.string (strN [41])) (W.alloc (.cells #[.int .u8 41] 5)) := fun W => conv1 41 W
  generalize strN [41] = sb at *
  clear cv hl hgood hc hc0 k1 hz
  have x0 := Tryd.ix0
  have x1 := Tryd.ix1
  have x2 := Tryd.ix2
  have x3 := Tryd.ix3
  have x4 := Tryd.ix4
  have x5 := Tryd.ix5
  have x6 := Tryd.ix6
  have x7 := Tryd.ix7
  go_enter Tryd.func5, Tryd.ntmps5
  go_wp2_with (first
    | (go_at_call 7; (with_reducible refine ck.out.mono ?_); rintro e w1 ⟨rfl, hb⟩; have HB := Lib.hid hb; clear hb)
    | (go_at_call 8; (with_reducible refine (c1.out _).mono ?_); rintro e w2 ⟨v1, rfl, ht, hb⟩; replace HB := Lib.hid (below_step (below_alloc' HB.out _) hb); clear ht hb))
  refine wp_loop_rounds 9 ?_
  rw [rounds_succ]
  go_wp2
  rw [rounds_succ]
  go_wp2
  rw [rounds_succ]
  go_wp2
  rw [rounds_succ]
  go_wp2
  rw [rounds_succ]
  go_wp2
  rw [rounds_succ]
  go_wp2
  rw [rounds_succ]
  go_wp2
  rw [rounds_succ]
  go_wp2
  rw [rounds_succ]
  go_wp2_with (first
    | (go_at_call 8; (with_reducible refine (c2.out _).mono ?_); rintro e w3 ⟨v2, rfl, ht, hb⟩; replace HB := Lib.hid (below_step (below_alloc' HB.out _) hb); clear ht hb)
    | (go_at_call 10; (with_reducible refine (ci.out _).mono ?_); rintro e w4 ⟨rfl, rfl⟩)
    | (go_at_call 10; (with_reducible refine (is_yes 10 _).mono ?_); rintro e w4 ⟨rfl, rfl⟩))
  go_ret
  exact ⟨rfl, HB.out⟩

set_option maxHeartbeats 8000000 in
set_option maxRecDepth 100000 in
theorem bytes_is123 (n : Nat)  (w : World) :
    Calls Tryd.prog 5 #[.int .u8 123, .int .u8 (n : Int)] w fun e w' => e = .returned (.bool true) ∧ Below w.heap.size w w' := by
  have ck := Lib.hid (known9_any w)
  have hgood : (0 : Int) = if goodB 123 = true then 0 else 10 := by
    have hg : goodB 123 = true := rfl
    rw [hg]; rfl
  obtain ⟨l, hl⟩ := bytesR 123 (by omega) 0 hgood
  have c1 := Lib.hid (Words_is _ _ 0 .nilIface hl rfl)
  obtain ⟨N, hN⟩ : ∃ N : Nat, (1998 : Int) + (n : Int) % 5 = (N : Int) := ⟨1998 + n % 5, by omega⟩
  obtain ⟨c, hc⟩ : ∃ c : Int, c = if 2000 < N then 13 else 10 := ⟨_, rfl⟩
  have hz := zerosR N (by omega)
  rw [← hc] at hz
  obtain ⟨B, k1, k2⟩ : ∃ B : Bool, (c == 13) = B ∧ decide (2 < (n : Int) % 5) = B := by
    by_cases h : 2000 < N
    · rw [if_pos h] at hc
      exact ⟨true, by rw [hc]; rfl, decide_eq_true (by omega)⟩
    · rw [if_neg h] at hc
      exact ⟨false, by rw [hc]; rfl, decide_eq_false (by omega)⟩
  have hc0 : c ≠ 0 := by rw [hc]; split <;> omega
  have c2 := Lib.hid (Words_is _ _ c (.iface 35 (.int .i64 c)) hz (errV_ne hc0))
  have ci := Lib.hid (is2 c B hc0 k1)
  have mr := mk_run N (by omega)
  have mc := mk_conv N
  have cv := conv1 123 w
  have sz : (strN [123]).size ≤ 1 := by rw [strN_size]; exact Nat.le_refl _
  have cvx : ∀ W : World, (convert 22 9 (.slice (some ⟨W.heap.size, 0, none⟩) 1 1)).run Tryd.prog (W.alloc (.cells #[.int .u8 123] 5)) = .ok (.string (strN [123])) (W.alloc (.cells #[.int .u8 123] 5)) := fun W => conv1 123 W
  generalize strN [123] = sb at *
  clear cv hl hgood hc hc0 k1 hz
  have x0 := Tryd.ix0
  have x1 := Tryd.ix1
  have x2 := Tryd.ix2
  have x3 := Tryd.ix3
  have x4 := Tryd.ix4
  have x5 := Tryd.ix5
  have x6 := Tryd.ix6
  have x7 := Tryd.ix7
  go_enter Tryd.func5, Tryd.ntmps5
  go_wp2_with (first
    | (go_at_call 7; (with_reducible refine ck.out.mono ?_); rintro e w1 ⟨rfl, hb⟩; have HB := Lib.hid hb; clear hb)
    | (go_at_call 8; (with_reducible refine (c1.out _).mono ?_); rintro e w2 ⟨v1, rfl, ht, hb⟩; replace HB := Lib.hid (below_step (below_alloc' HB.out _) hb); clear ht hb))
  refine wp_loop_rounds 9 ?_
  rw [rounds_succ]
  go_wp2
  rw [rounds_succ]
  go_wp2
  rw [rounds_succ]
  go_wp2
  rw [rounds_succ]
  go_wp2
  rw [rounds_succ]
  go_wp2
  rw [rounds_succ]
  go_wp2
  rw [rounds_succ]
  go_wp2
  rw [rounds_succ]
  go_wp2
  rw [rounds_succ]
  go_wp2_with (first
    | (go_at_call 8; (with_reducible refine (c2.out _).mono ?_); rintro e w3 ⟨v2, rfl, ht, hb⟩; replace HB := Lib.hid (below_step (below_alloc' HB.out _) hb); clear ht hb)
    | (go_at_call 10; (with_reducible refine (ci.out _).mono ?_); rintro e w4 ⟨rfl, rfl⟩)
    | (go_at_call 10; (with_reducible refine (is_yes 10 _).mono ?_); rintro e w4 ⟨rfl, rfl⟩))
  go_ret
  exact ⟨rfl, HB.out⟩

set_option maxHeartbeats 8000000 in
set_option maxRecDepth 100000 in
theorem bytes_is125 (n : Nat)  (w : World) :
    Calls Tryd.prog 5 #[.int .u8 125, .int .u8 (n : Int)] w fun e w' => e = .returned (.bool true) ∧ Below w.heap.size w w' := by
  have ck := Lib.hid (known9_any w)
  have hgood : (0 : Int) = if goodB 125 = true then 0 else 10 := by
    have hg : goodB 125 = true := rfl
    rw [hg]; rfl
  obtain ⟨l, hl⟩ := bytesR 125 (by omega) 0 hgood
  have c1 := Lib.hid (Words_is _ _ 0 .nilIface hl rfl)
  obtain ⟨N, hN⟩ : ∃ N : Nat, (1998 : Int) + (n : Int) % 5 = (N : Int) := ⟨1998 + n % 5, by omega⟩
  obtain ⟨c, hc⟩ : ∃ c : Int, c = if 2000 < N then 13 else 10 := ⟨_, rfl⟩
  have hz := zerosR N (by omega)
  rw [← hc] at hz
  obtain ⟨B, k1, k2⟩ : ∃ B : Bool, (c == 13) = B ∧ decide (2 < (n : Int) % 5) = B := by
    by_cases h : 2000 < N
    · rw [if_pos h] at hc
      exact ⟨true, by rw [hc]; rfl, decide_eq_true (by omega)⟩
    · rw [if_neg h] at hc
      exact ⟨false, by rw [hc]; rfl, decide_eq_false (by omega)⟩
  have hc0 : c ≠ 0 := by rw [hc]; split <;> omega
  have c2 := Lib.hid (Words_is _ _ c (.iface 35 (.int .i64 c)) hz (errV_ne hc0))
  have ci := Lib.hid (is2 c B hc0 k1)
  have mr := mk_run N (by omega)
  have mc := mk_conv N
  have cv := conv1 125 w
  have sz : (strN [125]).size ≤ 1 := by rw [strN_size]; exact Nat.le_refl _
  have cvx : ∀ W : World, (convert 22 9 (.slice (some ⟨W.heap.size, 0, none⟩) 1 1)).run Tryd.prog (W.alloc (.cells #[.int .u8 125] 5)) = .ok (.string (strN [125])) (W.alloc (.cells #[.int .u8 125] 5)) := fun W => conv1 125 W
  generalize strN [125] = sb at *
  clear cv hl hgood hc hc0 k1 hz
  have x0 := Tryd.ix0
  have x1 := Tryd.ix1
  have x2 := Tryd.ix2
  have x3 := Tryd.ix3
  have x4 := Tryd.ix4
  have x5 := Tryd.ix5
  have x6 := Tryd.ix6
  have x7 := Tryd.ix7
  go_enter Tryd.func5, Tryd.ntmps5
  go_wp2_with (first
    | (go_at_call 7; (with_reducible refine ck.out.mono ?_); rintro e w1 ⟨rfl, hb⟩; have HB := Lib.hid hb; clear hb)
    | (go_at_call 8; (with_reducible refine (c1.out _).mono ?_); rintro e w2 ⟨v1, rfl, ht, hb⟩; replace HB := Lib.hid (below_step (below_alloc' HB.out _) hb); clear ht hb))
  refine wp_loop_rounds 9 ?_
  rw [rounds_succ]
  go_wp2
  rw [rounds_succ]
  go_wp2
  rw [rounds_succ]
  go_wp2
  rw [rounds_succ]
  go_wp2
  rw [rounds_succ]
  go_wp2
  rw [rounds_succ]
  go_wp2
  rw [rounds_succ]
  go_wp2
  rw [rounds_succ]
  go_wp2
  rw [rounds_succ]
  go_wp2_with (first
    | (go_at_call 8; (with_reducible refine (c2.out _).mono ?_); rintro e w3 ⟨v2, rfl, ht, hb⟩; replace HB := Lib.hid (below_step (below_alloc' HB.out _) hb); clear ht hb)
    | (go_at_call 10; (with_reducible refine (ci.out _).mono ?_); rintro e w4 ⟨rfl, rfl⟩)
    | (go_at_call 10; (with_reducible refine (is_yes 10 _).mono ?_); rintro e w4 ⟨rfl, rfl⟩))
  go_ret
  exact ⟨rfl, HB.out⟩

set_option maxHeartbeats 8000000 in
set_option maxRecDepth 100000 in
theorem bytes_is58 (n : Nat)  (w : World) :
    Calls Tryd.prog 5 #[.int .u8 58, .int .u8 (n : Int)] w fun e w' => e = .returned (.bool true) ∧ Below w.heap.size w w' := by
  have ck := Lib.hid (known9_any w)
  have hgood : (0 : Int) = if goodB 58 = true then 0 else 10 := by
    have hg : goodB 58 = true := rfl
    rw [hg]; rfl
  obtain ⟨l, hl⟩ := bytesR 58 (by omega) 0 hgood
  have c1 := Lib.hid (Words_is _ _ 0 .nilIface hl rfl)
  obtain ⟨N, hN⟩ : ∃ N : Nat, (1998 : Int) + (n : Int) % 5 = (N : Int) := ⟨1998 + n % 5, by omega⟩
  obtain ⟨c, hc⟩ : ∃ c : Int, c = if 2000 < N then 13 else 10 := ⟨_, rfl⟩
  have hz := zerosR N (by omega)
  rw [← hc] at hz
  obtain ⟨B, k1, k2⟩ : ∃ B : Bool, (c == 13) = B ∧ decide (2 < (n : Int) % 5) = B := by
    by_cases h : 2000 < N
    · rw [if_pos h] at hc
      exact ⟨true, by rw [hc]; rfl, decide_eq_true (by omega)⟩
    · rw [if_neg h] at hc
      exact ⟨false, by rw [hc]; rfl, decide_eq_false (by omega)⟩
  have hc0 : c ≠ 0 := by rw [hc]; split <;> omega
  have c2 := Lib.hid (Words_is _ _ c (.iface 35 (.int .i64 c)) hz (errV_ne hc0))
  have ci := Lib.hid (is2 c B hc0 k1)
  have mr := mk_run N (by omega)
  have mc := mk_conv N
  have cv := conv1 58 w
  have sz : (strN [58]).size ≤ 1 := by rw [strN_size]; exact Nat.le_refl _
  have cvx : ∀ W : World, (convert 22 9 (.slice (some ⟨W.heap.size, 0, none⟩) 1 1)).run Tryd.prog (W.alloc (.cells #[.int .u8 58] 5)) = .ok (.string (strN [58])) (W.alloc (.cells #[.int .u8 58] 5)) := fun W => conv1 58 W
  generalize strN [58] = sb at *
  clear cv hl hgood hc hc0 k1 hz
  have x0 := Tryd.ix0
  have x1 := Tryd.ix1
  have x2 := Tryd.ix2
  have x3 := Tryd.ix3
  have x4 := Tryd.ix4
  have x5 := Tryd.ix5
  have x6 := Tryd.ix6
  have x7 := Tryd.ix7
  go_enter Tryd.func5, Tryd.ntmps5
  go_wp2_with (first
    | (go_at_call 7; (with_reducible refine ck.out.mono ?_); rintro e w1 ⟨rfl, hb⟩; have HB := Lib.hid hb; clear hb)
    | (go_at_call 8; (with_reducible refine (c1.out _).mono ?_); rintro e w2 ⟨v1, rfl, ht, hb⟩; replace HB := Lib.hid (below_step (below_alloc' HB.out _) hb); clear ht hb))
  refine wp_loop_rounds 9 ?_
  rw [rounds_succ]
  go_wp2
  rw [rounds_succ]
  go_wp2
  rw [rounds_succ]
  go_wp2
  rw [rounds_succ]
  go_wp2
  rw [rounds_succ]
  go_wp2
  rw [rounds_succ]
  go_wp2
  rw [rounds_succ]
  go_wp2
  rw [rounds_succ]
  go_wp2
  rw [rounds_succ]
  go_wp2_with (first
    | (go_at_call 8; (with_reducible refine (c2.out _).mono ?_); rintro e w3 ⟨v2, rfl, ht, hb⟩; replace HB := Lib.hid (below_step (below_alloc' HB.out _) hb); clear ht hb)
    | (go_at_call 10; (with_reducible refine (ci.out _).mono ?_); rintro e w4 ⟨rfl, rfl⟩)
    | (go_at_call 10; (with_reducible refine (is_yes 10 _).mono ?_); rintro e w4 ⟨rfl, rfl⟩))
  go_ret
  exact ⟨rfl, HB.out⟩

set_option maxHeartbeats 8000000 in
set_option maxRecDepth 100000 in
theorem bytes_is44 (n : Nat)  (w : World) :
    Calls Tryd.prog 5 #[.int .u8 44, .int .u8 (n : Int)] w fun e w' => e = .returned (.bool true) ∧ Below w.heap.size w w' := by
  have ck := Lib.hid (known9_any w)
  have hgood : (0 : Int) = if goodB 44 = true then 0 else 10 := by
    have hg : goodB 44 = true := rfl
    rw [hg]; rfl
  obtain ⟨l, hl⟩ := bytesR 44 (by omega) 0 hgood
  have c1 := Lib.hid (Words_is _ _ 0 .nilIface hl rfl)
  obtain ⟨N, hN⟩ : ∃ N : Nat, (1998 : Int) + (n : Int) % 5 = (N : Int) := ⟨1998 + n % 5, by omega⟩
  obtain ⟨c, hc⟩ : ∃ c : Int, c = if 2000 < N then 13 else 10 := ⟨_, rfl⟩
  have hz := zerosR N (by omega)
  rw [← hc] at hz
  obtain ⟨B, k1, k2⟩ : ∃ B : Bool, (c == 13) = B ∧ decide (2 < (n : Int) % 5) = B := by
    by_cases h : 2000 < N
    · rw [if_pos h] at hc
      exact ⟨true, by rw [hc]; rfl, decide_eq_true (by omega)⟩
    · rw [if_neg h] at hc
      exact ⟨false, by rw [hc]; rfl, decide_eq_false (by omega)⟩
  have hc0 : c ≠ 0 := by rw [hc]; split <;> omega
  have c2 := Lib.hid (Words_is _ _ c (.iface 35 (.int .i64 c)) hz (errV_ne hc0))
  have ci := Lib.hid (is2 c B hc0 k1)
  have mr := mk_run N (by omega)
  have mc := mk_conv N
  have cv := conv1 44 w
  have sz : (strN [44]).size ≤ 1 := by rw [strN_size]; exact Nat.le_refl _
  have cvx : ∀ W : World, (convert 22 9 (.slice (some ⟨W.heap.size, 0, none⟩) 1 1)).run Tryd.prog (W.alloc (.cells #[.int .u8 44] 5)) = .ok (.string (strN [44])) (W.alloc (.cells #[.int .u8 44] 5)) := fun W => conv1 44 W
  generalize strN [44] = sb at *
  clear cv hl hgood hc hc0 k1 hz
  have x0 := Tryd.ix0
  have x1 := Tryd.ix1
  have x2 := Tryd.ix2
  have x3 := Tryd.ix3
  have x4 := Tryd.ix4
  have x5 := Tryd.ix5
  have x6 := Tryd.ix6
  have x7 := Tryd.ix7
  go_enter Tryd.func5, Tryd.ntmps5
  go_wp2_with (first
    | (go_at_call 7; (with_reducible refine ck.out.mono ?_); rintro e w1 ⟨rfl, hb⟩; have HB := Lib.hid hb; clear hb)
    | (go_at_call 8; (with_reducible refine (c1.out _).mono ?_); rintro e w2 ⟨v1, rfl, ht, hb⟩; replace HB := Lib.hid (below_step (below_alloc' HB.out _) hb); clear ht hb))
  refine wp_loop_rounds 9 ?_
  rw [rounds_succ]
  go_wp2
  rw [rounds_succ]
  go_wp2
  rw [rounds_succ]
  go_wp2
  rw [rounds_succ]
  go_wp2
  rw [rounds_succ]
  go_wp2
  rw [rounds_succ]
  go_wp2
  rw [rounds_succ]
  go_wp2
  rw [rounds_succ]
  go_wp2
  rw [rounds_succ]
  go_wp2_with (first
    | (go_at_call 8; (with_reducible refine (c2.out _).mono ?_); rintro e w3 ⟨v2, rfl, ht, hb⟩; replace HB := Lib.hid (below_step (below_alloc' HB.out _) hb); clear ht hb)
    | (go_at_call 10; (with_reducible refine (ci.out _).mono ?_); rintro e w4 ⟨rfl, rfl⟩)
    | (go_at_call 10; (with_reducible refine (is_yes 10 _).mono ?_); rintro e w4 ⟨rfl, rfl⟩))
  go_ret
  exact ⟨rfl, HB.out⟩

set_option maxHeartbeats 8000000 in
set_option maxRecDepth 100000 in
theorem bytes_is59 (n : Nat)  (w : World) :
    Calls Tryd.prog 5 #[.int .u8 59, .int .u8 (n : Int)] w fun e w' => e = .returned (.bool true) ∧ Below w.heap.size w w' := by
  have ck := Lib.hid (known9_any w)
  have hgood : (0 : Int) = if goodB 59 = true then 0 else 10 := by
    have hg : goodB 59 = true := rfl
    rw [hg]; rfl
  obtain ⟨l, hl⟩ := bytesR 59 (by omega) 0 hgood
  have c1 := Lib.hid (Words_is _ _ 0 .nilIface hl rfl)
  obtain ⟨N, hN⟩ : ∃ N : Nat, (1998 : Int) + (n : Int) % 5 = (N : Int) := ⟨1998 + n % 5, by omega⟩
  obtain ⟨c, hc⟩ : ∃ c : Int, c = if 2000 < N then 13 else 10 := ⟨_, rfl⟩
  have hz := zerosR N (by omega)
  rw [← hc] at hz
  obtain ⟨B, k1, k2⟩ : ∃ B : Bool, (c == 13) = B ∧ decide (2 < (n : Int) % 5) = B := by
    by_cases h : 2000 < N
    · rw [if_pos h] at hc
      exact ⟨true, by rw [hc]; rfl, decide_eq_true (by omega)⟩
    · rw [if_neg h] at hc
      exact ⟨false, by rw [hc]; rfl, decide_eq_false (by omega)⟩
  have hc0 : c ≠ 0 := by rw [hc]; split <;> omega
  have c2 := Lib.hid (Words_is _ _ c (.iface 35 (.int .i64 c)) hz (errV_ne hc0))
  have ci := Lib.hid (is2 c B hc0 k1)
  have mr := mk_run N (by omega)
  have mc := mk_conv N
  have cv := conv1 59 w
  have sz : (strN [59]).size ≤ 1 := by rw [strN_size]; exact Nat.le_refl _
  have cvx : ∀ W : World, (convert 22 9 (.slice (some ⟨W.heap.size, 0, none⟩) 1 1)).run Tryd.prog (W.alloc (.cells #[.int .u8 59] 5)) = .ok (.string (strN [59])) (W.alloc (.cells #[.int .u8 59] 5)) := fun W => conv1 59 W
  generalize strN [59] = sb at *
  clear cv hl hgood hc hc0 k1 hz
  have x0 := Tryd.ix0
  have x1 := Tryd.ix1
  have x2 := Tryd.ix2
  have x3 := Tryd.ix3
  have x4 := Tryd.ix4
  have x5 := Tryd.ix5
  have x6 := Tryd.ix6
  have x7 := Tryd.ix7
  go_enter Tryd.func5, Tryd.ntmps5
  go_wp2_with (first
    | (go_at_call 7; (with_reducible refine ck.out.mono ?_); rintro e w1 ⟨rfl, hb⟩; have HB := Lib.hid hb; clear hb)
    | (go_at_call 8; (with_reducible refine (c1.out _).mono ?_); rintro e w2 ⟨v1, rfl, ht, hb⟩; replace HB := Lib.hid (below_step (below_alloc' HB.out _) hb); clear ht hb))
  refine wp_loop_rounds 9 ?_
  rw [rounds_succ]
  go_wp2
  rw [rounds_succ]
  go_wp2
  rw [rounds_succ]
  go_wp2
  rw [rounds_succ]
  go_wp2
  rw [rounds_succ]
  go_wp2
  rw [rounds_succ]
  go_wp2
  rw [rounds_succ]
  go_wp2
  rw [rounds_succ]
  go_wp2
  rw [rounds_succ]
  go_wp2_with (first
    | (go_at_call 8; (with_reducible refine (c2.out _).mono ?_); rintro e w3 ⟨v2, rfl, ht, hb⟩; replace HB := Lib.hid (below_step (below_alloc' HB.out _) hb); clear ht hb)
    | (go_at_call 10; (with_reducible refine (ci.out _).mono ?_); rintro e w4 ⟨rfl, rfl⟩)
    | (go_at_call 10; (with_reducible refine (is_yes 10 _).mono ?_); rintro e w4 ⟨rfl, rfl⟩))
  go_ret
  exact ⟨rfl, HB.out⟩

set_option maxHeartbeats 8000000 in
set_option maxRecDepth 100000 in
theorem bytes_is46 (n : Nat)  (w : World) :
    Calls Tryd.prog 5 #[.int .u8 46, .int .u8 (n : Int)] w fun e w' => e = .returned (.bool true) ∧ Below w.heap.size w w' := by
  have ck := Lib.hid (known9_any w)
  have hgood : (0 : Int) = if goodB 46 = true then 0 else 10 := by
    have hg : goodB 46 = true := rfl
    rw [hg]; rfl
  obtain ⟨l, hl⟩ := bytesR 46 (by omega) 0 hgood
  have c1 := Lib.hid (Words_is _ _ 0 .nilIface hl rfl)
  obtain ⟨N, hN⟩ : ∃ N : Nat, (1998 : Int) + (n : Int) % 5 = (N : Int) := ⟨1998 + n % 5, by omega⟩
  obtain ⟨c, hc⟩ : ∃ c : Int, c = if 2000 < N then 13 else 10 := ⟨_, rfl⟩
  have hz := zerosR N (by omega)
  rw [← hc] at hz
  obtain ⟨B, k1, k2⟩ : ∃ B : Bool, (c == 13) = B ∧ decide (2 < (n : Int) % 5) = B := by
    by_cases h : 2000 < N
    · rw [if_pos h] at hc
      exact ⟨true, by rw [hc]; rfl, decide_eq_true (by omega)⟩
    · rw [if_neg h] at hc
      exact ⟨false, by rw [hc]; rfl, decide_eq_false (by omega)⟩
  have hc0 : c ≠ 0 := by rw [hc]; split <;> omega
  have c2 := Lib.hid (Words_is _ _ c (.iface 35 (.int .i64 c)) hz (errV_ne hc0))
  have ci := Lib.hid (is2 c B hc0 k1)
  have mr := mk_run N (by omega)
  have mc := mk_conv N
  have cv := conv1 46 w
  have sz : (strN [46]).size ≤ 1 := by rw [strN_size]; exact Nat.le_refl _
  have cvx : ∀ W : World, (convert 22 9 (.slice (some ⟨W.heap.size, 0, none⟩) 1 1)).run Tryd.prog (W.alloc (.cells #[.int .u8 46] 5)) = .ok (.string (strN [46])) (W.alloc (.cells #[.int .u8 46] 5)) := fun W => conv1 46 W
  generalize strN [46] = sb at *
  clear cv hl hgood hc hc0 k1 hz
  have x0 := Tryd.ix0
  have x1 := Tryd.ix1
  have x2 := Tryd.ix2
  have x3 := Tryd.ix3
  have x4 := Tryd.ix4
  have x5 := Tryd.ix5
  have x6 := Tryd.ix6
  have x7 := Tryd.ix7
  go_enter Tryd.func5, Tryd.ntmps5
  go_wp2_with (first
    | (go_at_call 7; (with_reducible refine ck.out.mono ?_); rintro e w1 ⟨rfl, hb⟩; have HB := Lib.hid hb; clear hb)
    | (go_at_call 8; (with_reducible refine (c1.out _).mono ?_); rintro e w2 ⟨v1, rfl, ht, hb⟩; replace HB := Lib.hid (below_step (below_alloc' HB.out _) hb); clear ht hb))
  refine wp_loop_rounds 9 ?_
  rw [rounds_succ]
  go_wp2
  rw [rounds_succ]
  go_wp2
  rw [rounds_succ]
  go_wp2
  rw [rounds_succ]
  go_wp2
  rw [rounds_succ]
  go_wp2
  rw [rounds_succ]
  go_wp2
  rw [rounds_succ]
  go_wp2
  rw [rounds_succ]
  go_wp2
  rw [rounds_succ]
  go_wp2_with (first
    | (go_at_call 8; (with_reducible refine (c2.out _).mono ?_); rintro e w3 ⟨v2, rfl, ht, hb⟩; replace HB := Lib.hid (below_step (below_alloc' HB.out _) hb); clear ht hb)
    | (go_at_call 10; (with_reducible refine (ci.out _).mono ?_); rintro e w4 ⟨rfl, rfl⟩)
    | (go_at_call 10; (with_reducible refine (is_yes 10 _).mono ?_); rintro e w4 ⟨rfl, rfl⟩))
  go_ret
  exact ⟨rfl, HB.out⟩
end Go.Proofs.YtlmkcdebchahpaaDoor
