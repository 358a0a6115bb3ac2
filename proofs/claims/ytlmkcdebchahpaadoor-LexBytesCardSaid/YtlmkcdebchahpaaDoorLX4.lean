import Derived.Test.YtlmkcdebchahpaaDoorLX3
import Derived.Test.YtlmkcdebchahpaaDoorShelf
import Derived.Shelf.Strings.SlTrimAscii
set_option linter.unusedVariables false
set_option linter.unusedSimpArgs false
namespace Go.Proofs.YtlmkcdebchahpaaDoor
open Go.RowKit

/-! ### the library's three functions, at what this program asks of them -/
def hp2 (s : ByteArray) (a b : Nat) : Bool := decide (2 ≤ s.size) && (bt s 0 == a && bt s 1 == b)
theorem beq_u8 (p x : UInt8) : (p == x) = (x.toNat == p.toNat) := by
  rw [Bool.eq_iff_iff, beq_iff_eq, beq_iff_eq]
  exact ⟨fun h => by rw [h], fun h => UInt8.toNat.inj h.symm⟩
theorem hp_eq (s : ByteArray) (p q : UInt8) : Lib.hasPrefix s.data.toList [p, q] = hp2 s p.toNat q.toNat := by
  have hsz : s.size = s.data.toList.length := by simp
  unfold hp2 bt Lib.hasPrefix
  rw [hsz]
  match h : s.data.toList with
  | [] => rfl
  | [x] => simp [List.isPrefixOf]
  | x :: y :: t =>
    simp only [List.isPrefixOf, List.getD_cons_zero, List.getD_cons_succ, List.length_cons, Bool.and_true]
    rw [decide_eq_true (by omega), Bool.true_and, beq_u8, beq_u8]
theorem hp_any (s : ByteArray) (p q : UInt8) (B : Bool) (h : hp2 s p.toNat q.toNat = B) (w : World) : Calls Tryd.prog 24 #[.string s, .string ⟨#[p, q]⟩] w fun e w' => e = .returned (.bool B) ∧ w = w' :=
  (Tryd.strings_HasPrefix s ⟨#[p, q]⟩ w).mono fun e w' ⟨h1, h2⟩ => ⟨by rw [h1, ← h, ← hp_eq], h2.symm⟩
theorem sym_all : ∀ b : Nat, b < 256 → decide (0 ≤ Lib.indexByte [40, 41, 123, 125, 58, 44, 59, 46] b.toUInt8) = symB b := by decide +kernel
theorem sb_any (b : Nat) (hb : b < 256) (w : World) : Calls Tryd.prog 25 #[.string ⟨#[40, 41, 123, 125, 58, 44, 59, 46]⟩, .int .u8 (b : Int)] w fun e w' => (∃ r : Int, e = .returned (.int .i64 r) ∧ decide (0 ≤ r) = symB b) ∧ w = w' :=
  (Tryd.strings_IndexByte ⟨#[40, 41, 123, 125, 58, 44, 59, 46]⟩ (b : Int) w).mono fun e w' ⟨h1, h2⟩ => ⟨⟨_, h1, by rw [Int.toNat_natCast]; exact sym_all b hb⟩, h2.symm⟩
theorem skipG_dropWhile : ∀ l : List UInt8, skipG (l.map UInt8.toNat) = (l.dropWhile (([32, 9, 10, 13] : List UInt8).contains ·)).map UInt8.toNat
  | [] => rfl
  | b :: l => by
    have hc : ([32, 9, 10, 13] : List UInt8).contains b = blankB b.toNat := by
      have := beq_u8 b
      simp only [List.contains_cons, List.contains_nil, Bool.or_false, blankB]
      rw [beq_u8 b 32, beq_u8 b 9, beq_u8 b 10, beq_u8 b 13]
      have c : ∀ x : UInt8, (x.toNat == b.toNat) = (b.toNat == x.toNat) := fun x => by rw [Bool.eq_iff_iff, beq_iff_eq, beq_iff_eq]; exact ⟨Eq.symm, Eq.symm⟩
      rw [c, c, c, c, Bool.or_assoc, Bool.or_assoc]
      rfl
    rw [List.map_cons]
    unfold skipG
    by_cases h : blankB b.toNat = true
    · rw [if_pos h, List.dropWhile_cons_of_pos (by rw [hc]; exact h)]
      exact skipG_dropWhile l
    · rw [if_neg h, List.dropWhile_cons_of_neg (by rw [hc]; exact h)]
      rfl
/-- A text without the blanks ahead. -/
def skipB (s : ByteArray) : ByteArray := ⟨(Lib.trimLeftS s.data.toList [32, 9, 10, 13]).toArray⟩
theorem bys_skipB (s : ByteArray) : bys (skipB s) = skipG (bys s) := by
  unfold bys skipB
  rw [skipG_dropWhile]
  rfl
theorem skipB_size (s : ByteArray) : (skipB s).size ≤ s.size := by
  rw [← bys_length, ← bys_length, bys_skipB]; exact skipG_le _
theorem Tryd.info256 : (Tryd.prog.info? 52).map (fun i => (i.zero, i.size)) = some (some (.agg (Array.replicate 256 (.bool false))), 256) := by kernel_rfl
theorem trim_any (s : ByteArray) (w : World) : Calls Tryd.prog 13 #[.string s, .string ⟨#[32, 9, 10, 13]⟩] w fun e w' => e = .returned (.string (skipB s)) ∧ Below w.heap.size w w' :=
  Any.strings_TrimLeft_laid Tryd.lays161 Tryd.info256 s ⟨#[32, 9, 10, 13]⟩ w (by decide) (ascii_of_all (by decide))

/-! ### lex.next -/
theorem twoG_hp (s : ByteArray) (h0 : 0 < s.size) : twoG (bys s) = (hp2 s 58 61 || hp2 s 61 62 || hp2 s 45 62) := by
  have e0 := drop_bt s 0 h0
  rw [List.drop_zero] at e0
  by_cases h2 : 2 ≤ s.size
  · have e1 := drop_bt s (0 + 1) (by omega)
    rw [e0, e1]
    unfold hp2
    rw [decide_eq_true h2, Bool.true_and, Bool.true_and, Bool.true_and]
    rfl
  · have e1 := drop_end s (0 + 1) (by omega)
    rw [e0, e1]
    unfold hp2
    rw [decide_eq_false h2]
    rfl
def NextPost (n : Nat) (w : World) (e : Ending) (w' : World) : Prop := e = .returned (.int .i64 (n : Int)) ∧ ∃ m, w' = w.drewN m
set_option maxHeartbeats 2000000 in
set_option maxRecDepth 100000 in
theorem next_any (s : ByteArray) (h0 : 0 < s.size) (hs : s.size < 9223372036854775807) (w : World) : Calls Tryd.prog 14 #[.string s] w (NextPost (nextG (bys s)) w) := by
  have i0 : ∀ w, (Instr.index 29 (.agg #[.string ⟨#[58, 61]⟩, .string ⟨#[61, 62]⟩, .string ⟨#[45, 62]⟩]) (.int .i64 0)).run Tryd.prog w = .ok (.string ⟨#[58, 61]⟩) w := fun _ => by kernel_rfl
  have i1 : ∀ w, (Instr.index 29 (.agg #[.string ⟨#[58, 61]⟩, .string ⟨#[61, 62]⟩, .string ⟨#[45, 62]⟩]) (.int .i64 1)).run Tryd.prog w = .ok (.string ⟨#[61, 62]⟩) w := fun _ => by kernel_rfl
  have i2 : ∀ w, (Instr.index 29 (.agg #[.string ⟨#[58, 61]⟩, .string ⟨#[61, 62]⟩, .string ⟨#[45, 62]⟩]) (.int .i64 2)).run Tryd.prog w = .ok (.string ⟨#[45, 62]⟩) w := fun _ => by kernel_rfl
  have hb := bt_lt s 0
  have hget : s[0].toNat = bt s 0 := bt_get s 0 h0
  have ht := twoG_hp s h0
  have e0 := drop_bt s 0 h0
  rw [List.drop_zero] at e0
  have hsy : symG (bys s) = if twoG (bys s) = true then 2 else if symB (bt s 0) = true then 1 else 0 := by rw [e0, symG_cons]
  have cs := sb_any (bt s 0) hb
  have cr := run_any s hs
  have q0 : (0 : Int) < (s.size : Int) := by omega
  generalize bt s 0 = b at *
  clear e0
  cases p1 : hp2 s 58 61 with
  | true =>
    have c1 := hp_any s 58 61 true p1
    have hn : nextG (bys s) = 2 := by unfold nextG; rw [hsy, ht, p1]; rfl
    rw [hn]
    replace c1 := Lib.hid c1
    clear cs cr hsy ht p1 hn hget
    go_enter Tryd.func14, Tryd.ntmps14
    go_wp2
    refine wp_loop_rounds 4 ?_
    rw [rounds_succ]
    go_wp2_with ((go_at_call 24; (with_reducible refine (c1.out _).mono ?_); rintro e w1 ⟨rfl, rfl⟩))
    go_ret
    exact ⟨rfl, 0, rfl⟩
  | false =>
    have c1 := hp_any s 58 61 false p1
    cases p2 : hp2 s 61 62 with
    | true =>
      have c2 := hp_any s 61 62 true p2
      have hn : nextG (bys s) = 2 := by unfold nextG; rw [hsy, ht, p1, p2]; rfl
      rw [hn]
      replace c1 := Lib.hid c1
      replace c2 := Lib.hid c2
      clear cs cr hsy ht p1 p2 hn hget
      go_enter Tryd.func14, Tryd.ntmps14
      go_wp2
      refine wp_loop_rounds 4 ?_
      rw [rounds_succ]
      go_wp2_with ((go_at_call 24; (with_reducible refine (c1.out _).mono ?_); rintro e w1 ⟨rfl, rfl⟩))
      rw [rounds_succ]
      go_wp2_with ((go_at_call 24; (with_reducible refine (c2.out _).mono ?_); rintro e w1 ⟨rfl, rfl⟩))
      go_ret
      exact ⟨rfl, 0, rfl⟩
    | false =>
      have c2 := hp_any s 61 62 false p2
      cases p3 : hp2 s 45 62 with
      | true =>
        have c3 := hp_any s 45 62 true p3
        have hn : nextG (bys s) = 2 := by unfold nextG; rw [hsy, ht, p1, p2, p3]; rfl
        rw [hn]
        replace c1 := Lib.hid c1
        replace c2 := Lib.hid c2
        replace c3 := Lib.hid c3
        clear cs cr hsy ht p1 p2 p3 hn hget
        go_enter Tryd.func14, Tryd.ntmps14
        go_wp2
        refine wp_loop_rounds 4 ?_
        rw [rounds_succ]
        go_wp2_with ((go_at_call 24; (with_reducible refine (c1.out _).mono ?_); rintro e w1 ⟨rfl, rfl⟩))
        rw [rounds_succ]
        go_wp2_with ((go_at_call 24; (with_reducible refine (c2.out _).mono ?_); rintro e w1 ⟨rfl, rfl⟩))
        rw [rounds_succ]
        go_wp2_with ((go_at_call 24; (with_reducible refine (c3.out _).mono ?_); rintro e w1 ⟨rfl, rfl⟩))
        go_ret
        exact ⟨rfl, 0, rfl⟩
      | false =>
        have c3 := hp_any s 45 62 false p3
        rw [p1, p2, p3] at ht
        rw [ht] at hsy
        cases hy : symB b with
        | true =>
          rw [hy] at hsy
          have hn : nextG (bys s) = 1 := by unfold nextG; rw [hsy]; rfl
          rw [hn]
          rw [hy] at cs
          replace c1 := Lib.hid c1
          replace c2 := Lib.hid c2
          replace c3 := Lib.hid c3
          replace cs := Lib.hid cs
          clear cr hsy ht p1 p2 p3 hn hy
          go_enter Tryd.func14, Tryd.ntmps14
          go_wp2
          refine wp_loop_rounds 4 ?_
          rw [rounds_succ]
          go_wp2_with ((go_at_call 24; (with_reducible refine (c1.out _).mono ?_); rintro e w1 ⟨rfl, rfl⟩))
          rw [rounds_succ]
          go_wp2_with ((go_at_call 24; (with_reducible refine (c2.out _).mono ?_); rintro e w1 ⟨rfl, rfl⟩))
          rw [rounds_succ]
          go_wp2_with ((go_at_call 24; (with_reducible refine (c3.out _).mono ?_); rintro e w1 ⟨rfl, rfl⟩))
          rw [rounds_succ]
          go_wp2_with ((go_at_call 25; (with_reducible refine (cs.out _).mono ?_); rintro e w1 ⟨⟨r, rfl, hr⟩, rfl⟩))
          go_ret
          exact ⟨rfl, 0, rfl⟩
        | false =>
          rw [hy] at hsy
          have hn : nextG (bys s) = runG false (bys s) := by unfold nextG; rw [hsy]; rfl
          rw [hn]
          rw [hy] at cs
          replace c1 := Lib.hid c1
          replace c2 := Lib.hid c2
          replace c3 := Lib.hid c3
          replace cs := Lib.hid cs
          replace cr := Lib.hid cr
          clear hsy ht p1 p2 p3 hn hy
          go_enter Tryd.func14, Tryd.ntmps14
          go_wp2
          refine wp_loop_rounds 4 ?_
          rw [rounds_succ]
          go_wp2_with ((go_at_call 24; (with_reducible refine (c1.out _).mono ?_); rintro e w1 ⟨rfl, rfl⟩))
          rw [rounds_succ]
          go_wp2_with ((go_at_call 24; (with_reducible refine (c2.out _).mono ?_); rintro e w1 ⟨rfl, rfl⟩))
          rw [rounds_succ]
          go_wp2_with ((go_at_call 24; (with_reducible refine (c3.out _).mono ?_); rintro e w1 ⟨rfl, rfl⟩))
          rw [rounds_succ]
          go_wp2_with (first
            | (go_at_call 25; (with_reducible refine (cs.out _).mono ?_); rintro e w1 ⟨⟨r, rfl, hr⟩, rfl⟩)
            | (go_at_call 26; (with_reducible refine (cr.out _).mono ?_); rintro e w1 ⟨rfl, n, rfl⟩))
          go_ret
          exact ⟨rfl, n, rfl⟩
end Go.Proofs.YtlmkcdebchahpaaDoor
