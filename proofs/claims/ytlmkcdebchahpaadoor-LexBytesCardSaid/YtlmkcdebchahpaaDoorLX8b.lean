import Derived.Test.YtlmkcdebchahpaaDoorLX8
set_option linter.unusedVariables false
set_option linter.unusedSimpArgs false
namespace Go.Proofs.YtlmkcdebchahpaaDoor
open Go.RowKit

set_option maxHeartbeats 8000000 in
set_option maxRecDepth 100000 in
theorem bytes_o1 (b n : Nat) (hb : b < 256) (h1 : b < 48) (n95 : b ≠ 95) (n64 : b ≠ 64) (n32 : b ≠ 32) (n9 : b ≠ 9) (n10 : b ≠ 10) (n13 : b ≠ 13) (n40 : b ≠ 40) (n41 : b ≠ 41) (n123 : b ≠ 123) (n125 : b ≠ 125) (n58 : b ≠ 58) (n44 : b ≠ 44) (n59 : b ≠ 59) (n46 : b ≠ 46) (w : World) :
    Calls Tryd.prog 5 #[.int .u8 (b : Int), .int .u8 (n : Int)] w fun e w' => e = .returned (.bool true) ∧ Below w.heap.size w w' := by
  have ck := Lib.hid (known9_any w)
  have hgood : (10 : Int) = if goodB b = true then 0 else 10 := by
    have hg : goodB b = false := by unfold goodB runB blankB symB; simp; omega
    rw [hg]; rfl
  obtain ⟨l, hl⟩ := bytesR b hb 10 hgood
  have c1 := Lib.hid (Words_is _ _ 10 (.iface 35 (.int .i64 10)) hl rfl)
  obtain ⟨N, hN⟩ : ∃ N : Nat, (1998 : Int) + (n : Int) % 5 = (N : Int) := ⟨1998 + n % 5, by omega⟩
  obtain ⟨c, hc⟩ : ∃ c : Int, c = if 2000 < N then 13 else 10 := ⟨_, rfl⟩
  have hz := zerosR N (by omega)
  rw [← hc] at hz
  obtain ⟨B, k1, k2⟩ : ∃ B : Bool, (c == 13) = B ∧ decide (2 < (n : Int) % 5) = B := by
    by_cases h : 2000 < N
    · rw [if_pos h] at hc
      exact ⟨true, by rw [hc]; rfl, decide_eq_true (by omega)⟩
    · rw [if_neg h] at hc
      exact ⟨false, by rw [hc]; rfl, decide_eq_false (by omega)⟩
  have hc0 : c ≠ 0 := by rw [hc]; split <;> omega
  have c2 := Lib.hid (Words_is _ _ c (.iface 35 (.int .i64 c)) hz (errV_ne hc0))
  have ci := Lib.hid (is2 c B hc0 k1)
  have mr := mk_run N (by omega)
  have mc := mk_conv N
  have cv := conv1 b w
  have sz : (strN [b]).size ≤ 1 := by rw [strN_size]; exact Nat.le_refl _
  have cvx : ∀ W : World, (convert 22 9 (.slice (some ⟨W.heap.size, 0, none⟩) 1 1)).run Tryd.prog (W.alloc (.cells #[.int .u8 (b : Int)] 5)) = .ok (.string (strN [b])) (W.alloc (.cells #[.int .u8 (b : Int)] 5)) := fun W => conv1 b W
  generalize strN [b] = sb at *
  clear cv hl hgood hc hc0 k1 hz
  have g0 : decide ((97 : Int) ≤ (b : Int)) = false := decide_eq_false (by omega)
  have g0' : decide (97 ≤ b) = false := decide_eq_false (by omega)
  have g1 : decide ((b : Int) ≤ 122) = true := decide_eq_true (by omega)
  have g1' : decide (b ≤ 122) = true := decide_eq_true (by omega)
  have g2 : decide ((65 : Int) ≤ (b : Int)) = false := decide_eq_false (by omega)
  have g2' : decide (65 ≤ b) = false := decide_eq_false (by omega)
  have g3 : decide ((b : Int) ≤ 90) = true := decide_eq_true (by omega)
  have g3' : decide (b ≤ 90) = true := decide_eq_true (by omega)
  have g4 : decide ((48 : Int) ≤ (b : Int)) = false := decide_eq_false (by omega)
  have g4' : decide (48 ≤ b) = false := decide_eq_false (by omega)
  have g5 : decide ((b : Int) ≤ 57) = true := decide_eq_true (by omega)
  have g5' : decide (b ≤ 57) = true := decide_eq_true (by omega)
  have f95 : ((b : Int) == 95) = false := by rw [beq_eq_false_iff_ne]; omega
  have f64 : ((b : Int) == 64) = false := by rw [beq_eq_false_iff_ne]; omega
  have f32 : ((b : Int) == 32) = false := by rw [beq_eq_false_iff_ne]; omega
  have f9 : ((b : Int) == 9) = false := by rw [beq_eq_false_iff_ne]; omega
  have f10 : ((b : Int) == 10) = false := by rw [beq_eq_false_iff_ne]; omega
  have f13 : ((b : Int) == 13) = false := by rw [beq_eq_false_iff_ne]; omega
  have f40 : ((b : Int) == 40) = false := by rw [beq_eq_false_iff_ne]; omega
  have f41 : ((b : Int) == 41) = false := by rw [beq_eq_false_iff_ne]; omega
  have f123 : ((b : Int) == 123) = false := by rw [beq_eq_false_iff_ne]; omega
  have f125 : ((b : Int) == 125) = false := by rw [beq_eq_false_iff_ne]; omega
  have f58 : ((b : Int) == 58) = false := by rw [beq_eq_false_iff_ne]; omega
  have f44 : ((b : Int) == 44) = false := by rw [beq_eq_false_iff_ne]; omega
  have f59 : ((b : Int) == 59) = false := by rw [beq_eq_false_iff_ne]; omega
  have f46 : ((b : Int) == 46) = false := by rw [beq_eq_false_iff_ne]; omega
  clear n95 n64 n32 n9 n10 n13 n40 n41 n123 n125 n58 n44 n59 n46
  have x0 := Tryd.ix0
  have x1 := Tryd.ix1
  have x2 := Tryd.ix2
  have x3 := Tryd.ix3
  have x4 := Tryd.ix4
  have x5 := Tryd.ix5
  have x6 := Tryd.ix6
  have x7 := Tryd.ix7
  go_enter Tryd.func5, Tryd.ntmps5
  go_wp2_with (first
    | (go_at_call 7; (with_reducible refine ck.out.mono ?_); rintro e w1 ⟨rfl, hb⟩; have HB := Lib.hid hb; clear hb)
    | (go_at_call 8; (with_reducible refine (c1.out _).mono ?_); rintro e w2 ⟨v1, rfl, ht, hb⟩; replace HB := Lib.hid (below_step (below_alloc' HB.out _) hb); clear ht hb))
  refine wp_loop_rounds 9 ?_
  rw [rounds_succ]
  go_wp2
  rw [rounds_succ]
  go_wp2
  rw [rounds_succ]
  go_wp2
  rw [rounds_succ]
  go_wp2
  rw [rounds_succ]
  go_wp2
  rw [rounds_succ]
  go_wp2
  rw [rounds_succ]
  go_wp2
  rw [rounds_succ]
  go_wp2
  rw [rounds_succ]
  go_wp2_with (first
    | (go_at_call 8; (with_reducible refine (c2.out _).mono ?_); rintro e w3 ⟨v2, rfl, ht, hb⟩; replace HB := Lib.hid (below_step (below_alloc' HB.out _) hb); clear ht hb)
    | (go_at_call 10; (with_reducible refine (ci.out _).mono ?_); rintro e w4 ⟨rfl, rfl⟩)
    | (go_at_call 10; (with_reducible refine (is_yes 10 _).mono ?_); rintro e w4 ⟨rfl, rfl⟩))
  go_ret
  exact ⟨rfl, HB.out⟩

set_option maxHeartbeats 8000000 in
set_option maxRecDepth 100000 in
theorem bytes_o2 (b n : Nat) (hb : b < 256) (h0 : 57 < b) (h1 : b < 65) (n95 : b ≠ 95) (n64 : b ≠ 64) (n32 : b ≠ 32) (n9 : b ≠ 9) (n10 : b ≠ 10) (n13 : b ≠ 13) (n40 : b ≠ 40) (n41 : b ≠ 41) (n123 : b ≠ 123) (n125 : b ≠ 125) (n58 : b ≠ 58) (n44 : b ≠ 44) (n59 : b ≠ 59) (n46 : b ≠ 46) (w : World) :
    Calls Tryd.prog 5 #[.int .u8 (b : Int), .int .u8 (n : Int)] w fun e w' => e = .returned (.bool true) ∧ Below w.heap.size w w' := by
  have ck := Lib.hid (known9_any w)
  have hgood : (10 : Int) = if goodB b = true then 0 else 10 := by
    have hg : goodB b = false := by unfold goodB runB blankB symB; simp; omega
    rw [hg]; rfl
  obtain ⟨l, hl⟩ := bytesR b hb 10 hgood
  have c1 := Lib.hid (Words_is _ _ 10 (.iface 35 (.int .i64 10)) hl rfl)
  obtain ⟨N, hN⟩ : ∃ N : Nat, (1998 : Int) + (n : Int) % 5 = (N : Int) := ⟨1998 + n % 5, by omega⟩
  obtain ⟨c, hc⟩ : ∃ c : Int, c = if 2000 < N then 13 else 10 := ⟨_, rfl⟩
  have hz := zerosR N (by omega)
  rw [← hc] at hz
  obtain ⟨B, k1, k2⟩ : ∃ B : Bool, (c == 13) = B ∧ decide (2 < (n : Int) % 5) = B := by
    by_cases h : 2000 < N
    · rw [if_pos h] at hc
      exact ⟨true, by rw [hc]; rfl, decide_eq_true (by omega)⟩
    · rw [if_neg h] at hc
      exact ⟨false, by rw [hc]; rfl, decide_eq_false (by omega)⟩
  have hc0 : c ≠ 0 := by rw [hc]; split <;> omega
  have c2 := Lib.hid (Words_is _ _ c (.iface 35 (.int .i64 c)) hz (errV_ne hc0))
  have ci := Lib.hid (is2 c B hc0 k1)
  have mr := mk_run N (by omega)
  have mc := mk_conv N
  have cv := conv1 b w
  have sz : (strN [b]).size ≤ 1 := by rw [strN_size]; exact Nat.le_refl _
  have cvx : ∀ W : World, (convert 22 9 (.slice (some ⟨W.heap.size, 0, none⟩) 1 1)).run Tryd.prog (W.alloc (.cells #[.int .u8 (b : Int)] 5)) = .ok (.string (strN [b])) (W.alloc (.cells #[.int .u8 (b : Int)] 5)) := fun W => conv1 b W
  generalize strN [b] = sb at *
  clear cv hl hgood hc hc0 k1 hz
  have g0 : decide ((97 : Int) ≤ (b : Int)) = false := decide_eq_false (by omega)
  have g0' : decide (97 ≤ b) = false := decide_eq_false (by omega)
  have g1 : decide ((b : Int) ≤ 122) = true := decide_eq_true (by omega)
  have g1' : decide (b ≤ 122) = true := decide_eq_true (by omega)
  have g2 : decide ((65 : Int) ≤ (b : Int)) = false := decide_eq_false (by omega)
  have g2' : decide (65 ≤ b) = false := decide_eq_false (by omega)
  have g3 : decide ((b : Int) ≤ 90) = true := decide_eq_true (by omega)
  have g3' : decide (b ≤ 90) = true := decide_eq_true (by omega)
  have g4 : decide ((48 : Int) ≤ (b : Int)) = true := decide_eq_true (by omega)
  have g4' : decide (48 ≤ b) = true := decide_eq_true (by omega)
  have g5 : decide ((b : Int) ≤ 57) = false := decide_eq_false (by omega)
  have g5' : decide (b ≤ 57) = false := decide_eq_false (by omega)
  have f95 : ((b : Int) == 95) = false := by rw [beq_eq_false_iff_ne]; omega
  have f64 : ((b : Int) == 64) = false := by rw [beq_eq_false_iff_ne]; omega
  have f32 : ((b : Int) == 32) = false := by rw [beq_eq_false_iff_ne]; omega
  have f9 : ((b : Int) == 9) = false := by rw [beq_eq_false_iff_ne]; omega
  have f10 : ((b : Int) == 10) = false := by rw [beq_eq_false_iff_ne]; omega
  have f13 : ((b : Int) == 13) = false := by rw [beq_eq_false_iff_ne]; omega
  have f40 : ((b : Int) == 40) = false := by rw [beq_eq_false_iff_ne]; omega
  have f41 : ((b : Int) == 41) = false := by rw [beq_eq_false_iff_ne]; omega
  have f123 : ((b : Int) == 123) = false := by rw [beq_eq_false_iff_ne]; omega
  have f125 : ((b : Int) == 125) = false := by rw [beq_eq_false_iff_ne]; omega
  have f58 : ((b : Int) == 58) = false := by rw [beq_eq_false_iff_ne]; omega
  have f44 : ((b : Int) == 44) = false := by rw [beq_eq_false_iff_ne]; omega
  have f59 : ((b : Int) == 59) = false := by rw [beq_eq_false_iff_ne]; omega
  have f46 : ((b : Int) == 46) = false := by rw [beq_eq_false_iff_ne]; omega
  clear n95 n64 n32 n9 n10 n13 n40 n41 n123 n125 n58 n44 n59 n46
  have x0 := Tryd.ix0
  have x1 := Tryd.ix1
  have x2 := Tryd.ix2
  have x3 := Tryd.ix3
  have x4 := Tryd.ix4
  have x5 := Tryd.ix5
  have x6 := Tryd.ix6
  have x7 := Tryd.ix7
  go_enter Tryd.func5, Tryd.ntmps5
  go_wp2_with (first
    | (go_at_call 7; (with_reducible refine ck.out.mono ?_); rintro e w1 ⟨rfl, hb⟩; have HB := Lib.hid hb; clear hb)
    | (go_at_call 8; (with_reducible refine (c1.out _).mono ?_); rintro e w2 ⟨v1, rfl, ht, hb⟩; replace HB := Lib.hid (below_step (below_alloc' HB.out _) hb); clear ht hb))
  refine wp_loop_rounds 9 ?_
  rw [rounds_succ]
  go_wp2
  rw [rounds_succ]
  go_wp2
  rw [rounds_succ]
  go_wp2
  rw [rounds_succ]
  go_wp2
  rw [rounds_succ]
  go_wp2
  rw [rounds_succ]
  go_wp2
  rw [rounds_succ]
  go_wp2
  rw [rounds_succ]
  go_wp2
  rw [rounds_succ]
  go_wp2_with (first
    | (go_at_call 8; (with_reducible refine (c2.out _).mono ?_); rintro e w3 ⟨v2, rfl, ht, hb⟩; replace HB := Lib.hid (below_step (below_alloc' HB.out _) hb); clear ht hb)
    | (go_at_call 10; (with_reducible refine (ci.out _).mono ?_); rintro e w4 ⟨rfl, rfl⟩)
    | (go_at_call 10; (with_reducible refine (is_yes 10 _).mono ?_); rintro e w4 ⟨rfl, rfl⟩))
  go_ret
  exact ⟨rfl, HB.out⟩

set_option maxHeartbeats 8000000 in
set_option maxRecDepth 100000 in
theorem bytes_o3 (b n : Nat) (hb : b < 256) (h0 : 90 < b) (h1 : b < 97) (n95 : b ≠ 95) (n64 : b ≠ 64) (n32 : b ≠ 32) (n9 : b ≠ 9) (n10 : b ≠ 10) (n13 : b ≠ 13) (n40 : b ≠ 40) (n41 : b ≠ 41) (n123 : b ≠ 123) (n125 : b ≠ 125) (n58 : b ≠ 58) (n44 : b ≠ 44) (n59 : b ≠ 59) (n46 : b ≠ 46) (w : World) :
    Calls Tryd.prog 5 #[.int .u8 (b : Int), .int .u8 (n : Int)] w fun e w' => e = .returned (.bool true) ∧ Below w.heap.size w w' := by
  have ck := Lib.hid (known9_any w)
  have hgood : (10 : Int) = if goodB b = true then 0 else 10 := by
    have hg : goodB b = false := by unfold goodB runB blankB symB; simp; omega
    rw [hg]; rfl
  obtain ⟨l, hl⟩ := bytesR b hb 10 hgood
  have c1 := Lib.hid (Words_is _ _ 10 (.iface 35 (.int .i64 10)) hl rfl)
  obtain ⟨N, hN⟩ : ∃ N : Nat, (1998 : Int) + (n : Int) % 5 = (N : Int) := ⟨1998 + n % 5, by omega⟩
  obtain ⟨c, hc⟩ : ∃ c : Int, c = if 2000 < N then 13 else 10 := ⟨_, rfl⟩
  have hz := zerosR N (by omega)
  rw [← hc] at hz
  obtain ⟨B, k1, k2⟩ : ∃ B : Bool, (c == 13) = B ∧ decide (2 < (n : Int) % 5) = B := by
    by_cases h : 2000 < N
    · rw [if_pos h] at hc
      exact ⟨true, by rw [hc]; rfl, decide_eq_true (by omega)⟩
    · rw [if_neg h] at hc
      exact ⟨false, by rw [hc]; rfl, decide_eq_false (by omega)⟩
  have hc0 : c ≠ 0 := by rw [hc]; split <;> omega
  have c2 := Lib.hid (Words_is _ _ c (.iface 35 (.int .i64 c)) hz (errV_ne hc0))
  have ci := Lib.hid (is2 c B hc0 k1)
  have mr := mk_run N (by omega)
  have mc := mk_conv N
  have cv := conv1 b w
  have sz : (strN [b]).size ≤ 1 := by rw [strN_size]; exact Nat.le_refl _
  have cvx : ∀ W : World, (convert 22 9 (.slice (some ⟨W.heap.size, 0, none⟩) 1 1)).run Tryd.prog (W.alloc (.cells #[.int .u8 (b : Int)] 5)) = .ok (.string (strN [b])) (W.alloc (.cells #[.int .u8 (b : Int)] 5)) := fun W => conv1 b W
  generalize strN [b] = sb at *
  clear cv hl hgood hc hc0 k1 hz
  have g0 : decide ((97 : Int) ≤ (b : Int)) = false := decide_eq_false (by omega)
  have g0' : decide (97 ≤ b) = false := decide_eq_false (by omega)
  have g1 : decide ((b : Int) ≤ 122) = true := decide_eq_true (by omega)
  have g1' : decide (b ≤ 122) = true := decide_eq_true (by omega)
  have g2 : decide ((65 : Int) ≤ (b : Int)) = true := decide_eq_true (by omega)
  have g2' : decide (65 ≤ b) = true := decide_eq_true (by omega)
  have g3 : decide ((b : Int) ≤ 90) = false := decide_eq_false (by omega)
  have g3' : decide (b ≤ 90) = false := decide_eq_false (by omega)
  have g4 : decide ((48 : Int) ≤ (b : Int)) = true := decide_eq_true (by omega)
  have g4' : decide (48 ≤ b) = true := decide_eq_true (by omega)
  have g5 : decide ((b : Int) ≤ 57) = false := decide_eq_false (by omega)
  have g5' : decide (b ≤ 57) = false := decide_eq_false (by omega)
  have f95 : ((b : Int) == 95) = false := by rw [beq_eq_false_iff_ne]; omega
  have f64 : ((b : Int) == 64) = false := by rw [beq_eq_false_iff_ne]; omega
  have f32 : ((b : Int) == 32) = false := by rw [beq_eq_false_iff_ne]; omega
  have f9 : ((b : Int) == 9) = false := by rw [beq_eq_false_iff_ne]; omega
  have f10 : ((b : Int) == 10) = false := by rw [beq_eq_false_iff_ne]; omega
  have f13 : ((b : Int) == 13) = false := by rw [beq_eq_false_iff_ne]; omega
  have f40 : ((b : Int) == 40) = false := by rw [beq_eq_false_iff_ne]; omega
  have f41 : ((b : Int) == 41) = false := by rw [beq_eq_false_iff_ne]; omega
  have f123 : ((b : Int) == 123) = false := by rw [beq_eq_false_iff_ne]; omega
  have f125 : ((b : Int) == 125) = false := by rw [beq_eq_false_iff_ne]; omega
  have f58 : ((b : Int) == 58) = false := by rw [beq_eq_false_iff_ne]; omega
  have f44 : ((b : Int) == 44) = false := by rw [beq_eq_false_iff_ne]; omega
  have f59 : ((b : Int) == 59) = false := by rw [beq_eq_false_iff_ne]; omega
  have f46 : ((b : Int) == 46) = false := by rw [beq_eq_false_iff_ne]; omega
  clear n95 n64 n32 n9 n10 n13 n40 n41 n123 n125 n58 n44 n59 n46
  have x0 := Tryd.ix0
  have x1 := Tryd.ix1
  have x2 := Tryd.ix2
  have x3 := Tryd.ix3
  have x4 := Tryd.ix4
  have x5 := Tryd.ix5
  have x6 := Tryd.ix6
  have x7 := Tryd.ix7
  go_enter Tryd.func5, Tryd.ntmps5
  go_wp2_with (first
    | (go_at_call 7; (with_reducible refine ck.out.mono ?_); rintro e w1 ⟨rfl, hb⟩; have HB := Lib.hid hb; clear hb)
    | (go_at_call 8; (with_reducible refine (c1.out _).mono ?_); rintro e w2 ⟨v1, rfl, ht, hb⟩; replace HB := Lib.hid (below_step (below_alloc' HB.out _) hb); clear ht hb))
  refine wp_loop_rounds 9 ?_
  rw [rounds_succ]
  go_wp2
  rw [rounds_succ]
  go_wp2
  rw [rounds_succ]
  go_wp2
  rw [rounds_succ]
  go_wp2
  rw [rounds_succ]
  go_wp2
  rw [rounds_succ]
  go_wp2
  rw [rounds_succ]
  go_wp2
  rw [rounds_succ]
  go_wp2
  rw [rounds_succ]
  go_wp2_with (first
    | (go_at_call 8; (with_reducible refine (c2.out _).mono ?_); rintro e w3 ⟨v2, rfl, ht, hb⟩; replace HB := Lib.hid (below_step (below_alloc' HB.out _) hb); clear ht hb)
    | (go_at_call 10; (with_reducible refine (ci.out _).mono ?_); rintro e w4 ⟨rfl, rfl⟩)
    | (go_at_call 10; (with_reducible refine (is_yes 10 _).mono ?_); rintro e w4 ⟨rfl, rfl⟩))
  go_ret
  exact ⟨rfl, HB.out⟩

set_option maxHeartbeats 8000000 in
set_option maxRecDepth 100000 in
theorem bytes_o4 (b n : Nat) (hb : b < 256) (h0 : 122 < b) (n95 : b ≠ 95) (n64 : b ≠ 64) (n32 : b ≠ 32) (n9 : b ≠ 9) (n10 : b ≠ 10) (n13 : b ≠ 13) (n40 : b ≠ 40) (n41 : b ≠ 41) (n123 : b ≠ 123) (n125 : b ≠ 125) (n58 : b ≠ 58) (n44 : b ≠ 44) (n59 : b ≠ 59) (n46 : b ≠ 46) (w : World) :
    Calls Tryd.prog 5 #[.int .u8 (b : Int), .int .u8 (n : Int)] w fun e w' => e = .returned (.bool true) ∧ Below w.heap.size w w' := by
  have ck := Lib.hid (known9_any w)
  have hgood : (10 : Int) = if goodB b = true then 0 else 10 := by
    have hg : goodB b = false := by unfold goodB runB blankB symB; simp; omega
    rw [hg]; rfl
  obtain ⟨l, hl⟩ := bytesR b hb 10 hgood
  have c1 := Lib.hid (Words_is _ _ 10 (.iface 35 (.int .i64 10)) hl rfl)
  obtain ⟨N, hN⟩ : ∃ N : Nat, (1998 : Int) + (n : Int) % 5 = (N : Int) := ⟨1998 + n % 5, by omega⟩
  obtain ⟨c, hc⟩ : ∃ c : Int, c = if 2000 < N then 13 else 10 := ⟨_, rfl⟩
  have hz := zerosR N (by omega)
  rw [← hc] at hz
  obtain ⟨B, k1, k2⟩ : ∃ B : Bool, (c == 13) = B ∧ decide (2 < (n : Int) % 5) = B := by
    by_cases h : 2000 < N
    · rw [if_pos h] at hc
      exact ⟨true, by rw [hc]; rfl, decide_eq_true (by omega)⟩
    · rw [if_neg h] at hc
      exact ⟨false, by rw [hc]; rfl, decide_eq_false (by omega)⟩
  have hc0 : c ≠ 0 := by rw [hc]; split <;> omega
  have c2 := Lib.hid (Words_is _ _ c (.iface 35 (.int .i64 c)) hz (errV_ne hc0))
  have ci := Lib.hid (is2 c B hc0 k1)
  have mr := mk_run N (by omega)
  have mc := mk_conv N
  have cv := conv1 b w
  have sz : (strN [b]).size ≤ 1 := by rw [strN_size]; exact Nat.le_refl _
  have cvx : ∀ W : World, (convert 22 9 (.slice (some ⟨W.heap.size, 0, none⟩) 1 1)).run Tryd.prog (W.alloc (.cells #[.int .u8 (b : Int)] 5)) = .ok (.string (strN [b])) (W.alloc (.cells #[.int .u8 (b : Int)] 5)) := fun W => conv1 b W
  generalize strN [b] = sb at *
  clear cv hl hgood hc hc0 k1 hz
  have g0 : decide ((97 : Int) ≤ (b : Int)) = true := decide_eq_true (by omega)
  have g0' : decide (97 ≤ b) = true := decide_eq_true (by omega)
  have g1 : decide ((b : Int) ≤ 122) = false := decide_eq_false (by omega)
  have g1' : decide (b ≤ 122) = false := decide_eq_false (by omega)
  have g2 : decide ((65 : Int) ≤ (b : Int)) = true := decide_eq_true (by omega)
  have g2' : decide (65 ≤ b) = true := decide_eq_true (by omega)
  have g3 : decide ((b : Int) ≤ 90) = false := decide_eq_false (by omega)
  have g3' : decide (b ≤ 90) = false := decide_eq_false (by omega)
  have g4 : decide ((48 : Int) ≤ (b : Int)) = true := decide_eq_true (by omega)
  have g4' : decide (48 ≤ b) = true := decide_eq_true (by omega)
  have g5 : decide ((b : Int) ≤ 57) = false := decide_eq_false (by omega)
  have g5' : decide (b ≤ 57) = false := decide_eq_false (by omega)
  have f95 : ((b : Int) == 95) = false := by rw [beq_eq_false_iff_ne]; omega
  have f64 : ((b : Int) == 64) = false := by rw [beq_eq_false_iff_ne]; omega
  have f32 : ((b : Int) == 32) = false := by rw [beq_eq_false_iff_ne]; omega
  have f9 : ((b : Int) == 9) = false := by rw [beq_eq_false_iff_ne]; omega
  have f10 : ((b : Int) == 10) = false := by rw [beq_eq_false_iff_ne]; omega
  have f13 : ((b : Int) == 13) = false := by rw [beq_eq_false_iff_ne]; omega
  have f40 : ((b : Int) == 40) = false := by rw [beq_eq_false_iff_ne]; omega
  have f41 : ((b : Int) == 41) = false := by rw [beq_eq_false_iff_ne]; omega
  have f123 : ((b : Int) == 123) = false := by rw [beq_eq_false_iff_ne]; omega
  have f125 : ((b : Int) == 125) = false := by rw [beq_eq_false_iff_ne]; omega
  have f58 : ((b : Int) == 58) = false := by rw [beq_eq_false_iff_ne]; omega
  have f44 : ((b : Int) == 44) = false := by rw [beq_eq_false_iff_ne]; omega
  have f59 : ((b : Int) == 59) = false := by rw [beq_eq_false_iff_ne]; omega
  have f46 : ((b : Int) == 46) = false := by rw [beq_eq_false_iff_ne]; omega
  clear n95 n64 n32 n9 n10 n13 n40 n41 n123 n125 n58 n44 n59 n46
  have x0 := Tryd.ix0
  have x1 := Tryd.ix1
  have x2 := Tryd.ix2
  have x3 := Tryd.ix3
  have x4 := Tryd.ix4
  have x5 := Tryd.ix5
  have x6 := Tryd.ix6
  have x7 := Tryd.ix7
  go_enter Tryd.func5, Tryd.ntmps5
  go_wp2_with (first
    | (go_at_call 7; (with_reducible refine ck.out.mono ?_); rintro e w1 ⟨rfl, hb⟩; have HB := Lib.hid hb; clear hb)
    | (go_at_call 8; (with_reducible refine (c1.out _).mono ?_); rintro e w2 ⟨v1, rfl, ht, hb⟩; replace HB := Lib.hid (below_step (below_alloc' HB.out _) hb); clear ht hb))
  refine wp_loop_rounds 9 ?_
  rw [rounds_succ]
  go_wp2
  rw [rounds_succ]
  go_wp2
  rw [rounds_succ]
  go_wp2
  rw [rounds_succ]
  go_wp2
  rw [rounds_succ]
  go_wp2
  rw [rounds_succ]
  go_wp2
  rw [rounds_succ]
  go_wp2
  rw [rounds_succ]
  go_wp2
  rw [rounds_succ]
  go_wp2_with (first
    | (go_at_call 8; (with_reducible refine (c2.out _).mono ?_); rintro e w3 ⟨v2, rfl, ht, hb⟩; replace HB := Lib.hid (below_step (below_alloc' HB.out _) hb); clear ht hb)
    | (go_at_call 10; (with_reducible refine (ci.out _).mono ?_); rintro e w4 ⟨rfl, rfl⟩)
    | (go_at_call 10; (with_reducible refine (is_yes 10 _).mono ?_); rintro e w4 ⟨rfl, rfl⟩))
  go_ret
  exact ⟨rfl, HB.out⟩
end Go.Proofs.YtlmkcdebchahpaaDoor
