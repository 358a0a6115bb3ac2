import Derived.Test.YtjincmagbbpooaaGreatDoorM10

section
set_option linter.unusedVariables false
set_option linter.unusedSimpArgs false
namespace Go.Proofs.YtjincmagbbpooaaGreatDoor
open Go.RowKit

def rTakePost (s : ByteArray) (w : World) (e : Ending) (w' : World) : Prop := e = .returned (.tuple #[.int .i64 ((numS s).1 : Int), .string (dropB s (numS s).2.1), .int .i64 (numS s).2.2]) ∧ Below w.heap.size w w'

set_option maxHeartbeats 8000000 in
set_option maxRecDepth 100000 in
theorem rTake_any (s : ByteArray) (hs : s.size ≤ 9223372036854775807) (w : World) : Calls Tryz.prog 89 #[.string s] w (rTakePost s w) := by
  unfold rTakePost
  go_enter Tryz.func89, Tryz.ntmps89
  go_wp2
  go_loopg [5, 6, 7] 8 (fun kq v5 v6 v8 wr => ∃ (i n a : Nat), v5 = .int .i64 n ∧ v6 = .int .i64 a ∧ v8 = .int .i64 i ∧ Hid (i + kq = 8) ∧ i ≤ 7 ∧ Hid (a = 128 ^ i) ∧ Hid (n < a) ∧ Hid (numF s kq i n a = numS s) ∧ w = wr)
  case atStart => exact ⟨0, 0, 1, rfl, rfl, rfl, rfl, by omega, rfl, by show 0 < 1; omega, rfl, rfl⟩
  case round =>
    obtain ⟨i, n, a, rfl, rfl, rfl, hik, hi7, ha, hna, hr, rfl⟩ := hrel
    cases gk with
    | zero => exact absurd hik.out (by omega)
    | succ k =>
      have ha7 : a ≤ 562949953421312 := by rw [ha.out]; exact Nat.le_trans (Nat.pow_le_pow_right (by decide) hi7) (by decide)
      have hn7 : n ≤ 562949953421312 := Nat.le_trans (Nat.le_of_lt hna.out) ha7
      by_cases h1 : s.size ≤ i
      · have q1 : decide ((i : Int) < (s.size : Int)) = false := decide_eq_false (by omega)
        have q2 : decide (i < s.size) = false := decide_eq_false (by omega)
        have hr' := hr.out
        simp only [numF] at hr'
        rw [if_pos h1] at hr'
        replace hr' := Lib.hid hr'
        clear h1
        go_wp2
        go_ret3
        refine ⟨?_, Below.refl _ _⟩
        rw [← hr'.out, dropB_zero]
        rfl
      · have q1 : decide ((i : Int) < (s.size : Int)) = true := decide_eq_true (by omega)
        have q2 : decide (i < s.size) = true := decide_eq_true (by omega)
        have q3 : (i : Int) < (s.size : Int) := by omega
        have q4 : (0 : Int) ≤ (i : Int) := by omega
        have hlt : i < s.size := by omega
        have hget := bt_get s i hlt
        have hr' := hr.out
        simp only [numF] at hr'
        rw [if_neg h1] at hr'
        obtain ⟨b, hb⟩ : ∃ b, bt s i = b := ⟨_, rfl⟩
        have hb256 : b < 256 := by rw [← hb]; exact bt_lt s i
        rw [hb] at hget hr'
        clear h1 hb
        have hbm : (b : Int) % 18446744073709551616 = (b : Int) := by omega
        by_cases c1 : b = 0 ∧ 0 < i
        · rw [if_pos c1] at hr'
          obtain ⟨rfl, c2⟩ := c1
          have t1 : decide (0 < i) = true := decide_eq_true c2
          have t2 : decide ((0 : Int) < (i : Int)) = true := decide_eq_true (by omega)
          replace hr' := Lib.hid hr'
          by_cases c7 : i = 7
          · have t7 : ((i : Int) == 7) = true := beq_iff_eq.2 (by omega)
            have t7' : (i == 7) = true := beq_iff_eq.2 c7
            replace c7 := Lib.hid c7
            go_wp2
            go_ret3
            refine ⟨?_, Below.refl _ _⟩
            rw [← hr'.out, dropB_zero]
            rfl
          · have t7 : ((i : Int) == 7) = false := beq_eq_false_iff_ne.2 (by omega)
            have t7' : (i == 7) = false := beq_eq_false_iff_ne.2 c7
            replace c7 := Lib.hid c7
            go_wp2
            go_ret3
            refine ⟨?_, Below.refl _ _⟩
            rw [← hr'.out, dropB_zero]
            rfl
        · rw [if_neg c1] at hr'
          obtain ⟨p, hp⟩ : ∃ p : Nat, ((b : Int) % 128) * (a : Int) = (p : Int) := ⟨b % 128 * a, by push_cast; rfl⟩
          have hp' : p = b % 128 * a := by
            have : ((b % 128 * a : Nat) : Int) = (p : Int) := by push_cast; exact hp
            omega
          have hp1 : p ≤ 127 * a := by rw [hp']; exact Nat.mul_le_mul_right _ (by omega)
          have hp2 : p ≤ 71494644084506624 := Nat.le_trans hp1 (by omega)
          rw [← hp'] at hr'
          have hand : (decide ((0 : Int) < (i : Int)) && ((b : Int) == 0)) = false := by
            rw [Bool.and_eq_false_iff]
            by_cases h : b = 0
            · exact .inl (decide_eq_false (by omega))
            · exact .inr (beq_eq_false_iff_ne.2 (by omega))
          obtain ⟨T0, hT0⟩ : ∃ t, decide ((0 : Int) < (i : Int)) = t := ⟨_, rfl⟩
          obtain ⟨T1, hT1⟩ : ∃ t, ((b : Int) == 0) = t := ⟨_, rfl⟩
          have hT0' : decide (0 < i) = T0 := by rw [← hT0]; exact decide_eq_decide.2 (by omega)
          have hT1' : (b == 0) = T1 := by rw [← hT1, Bool.eq_iff_iff, beq_iff_eq, beq_iff_eq]; omega
          rw [hT0, hT1] at hand
          obtain ⟨a2, ha2⟩ : ∃ a2 : Nat, (a : Int) * 128 = (a2 : Int) := ⟨a * 128, by push_cast; rfl⟩
          have ha2' : a2 = a * 128 := by omega
          have ha3 : a2 ≤ 9223372036854775807 := by omega
          have HA2 := Lib.hid ha2'
          replace hp' := Lib.hid hp'
          clear ha2' c1
          by_cases c3 : b < 128
          · rw [if_pos c3] at hr'
            have t5 : decide ((127 : Int) < (b : Int)) = false := decide_eq_false (by omega)
            have t5' : decide (127 < b) = false := decide_eq_false (by omega)
            have t6 : decide ((b : Int) < 128) = true := decide_eq_true (by omega)
            have t6' : decide (b < 128) = true := decide_eq_true (by omega)
            obtain ⟨j, hj⟩ : ∃ j, j = i + 1 := ⟨_, rfl⟩
            have hw1 : IntKind.i64.wrap ((i : Int) + 1) = (j : Int) := by rw [IntKind.wrap_i64]; omega
            have r1 : (0 : Int) ≤ (j : Int) := by omega
            have r2 : (j : Int) ≤ (s.size : Int) := by omega
            rw [← hj] at hr'
            replace hr' := Lib.hid hr'
            have HJ := Lib.hid hj
            obtain ⟨T7, hT7⟩ : ∃ t, ((i : Int) == 7) = t := ⟨_, rfl⟩
            have hT7' : (i == 7) = T7 := by rw [← hT7, Bool.eq_iff_iff, beq_iff_eq, beq_iff_eq]; omega
            clear c3 hj
            cases T7 <;> cases T0 <;> cases T1 <;> first
              | exact absurd hand (by decide)
              | (go_wp2
                 go_quiet (fail)
                 go_wp2
                 go_ret3
                 refine ⟨?_, below_drewN _ _⟩
                 rw [← hr'.out]
                 rfl)
          · rw [if_neg c3] at hr'
            have t5 : decide ((127 : Int) < (b : Int)) = true := decide_eq_true (by omega)
            have t5' : decide (127 < b) = true := decide_eq_true (by omega)
            have t6 : decide ((b : Int) < 128) = false := decide_eq_false (by omega)
            have t6' : decide (b < 128) = false := decide_eq_false (by omega)
            by_cases c7 : i = 7
            · have t7 : ((i : Int) == 7) = true := beq_iff_eq.2 (by omega)
              have t7' : (i == 7) = true := beq_iff_eq.2 c7
              have hk0 : k = 0 := by have := hik.out; omega
              subst hk0
              simp only [numF] at hr'
              replace hr' := Lib.hid hr'
              replace c7 := Lib.hid c7
              clear c3
              go_wp2
              go_ret3
              refine ⟨?_, Below.refl _ _⟩
              rw [← hr'.out, dropB_zero]
              rfl
            · have t7 : ((i : Int) == 7) = false := beq_eq_false_iff_ne.2 (by omega)
              have t7' : (i == 7) = false := beq_eq_false_iff_ne.2 c7
              replace hr' := Lib.hid hr'
              have c8 : i ≤ 6 := by omega
              clear c3 c7
              cases T0 <;> cases T1 <;> first
                | exact absurd hand (by decide)
                | (go_wp2
                   go_roundg k
                   case measure => have := hik.out; omega
                   case rel =>
                     refine ⟨i + 1, n + p, a2, by go_num, rfl, by go_num, ?_, by omega, ?_, ?_, ?_, rfl⟩
                     · have := hik.out; show _ = _; omega
                     · show a2 = 128 ^ (i + 1); rw [Nat.pow_succ, ← ha.out]; exact HA2.out
                     · have h1 := hna.out; have h2 := HA2.out; show _ < _; omega
                     · rw [HA2.out]; exact hr'.out)
end Go.Proofs.YtjincmagbbpooaaGreatDoor
end

section
set_option linter.unusedVariables false
set_option linter.unusedSimpArgs false
namespace Go.Proofs.YtjincmagbbpooaaGreatDoor
open Go.RowKit

def rTextPost (r : ByteArray × ByteArray × Int) (w : World) (e : Ending) (w' : World) : Prop := e = .returned (.tuple #[.string r.1, .string r.2.1, .int .i64 r.2.2]) ∧ Below w.heap.size w w'

set_option maxHeartbeats 8000000 in
set_option maxRecDepth 100000 in
theorem rTakeText_any (s : ByteArray) (most : Int) (hs : s.size ≤ 9223372036854775807) (w : World) : Calls Tryz.prog 103 #[.string s, .int .i64 most] w (rTextPost (textR s most) w) := by
  have hc := Lib.hid (rTake_any s hs w)
  have hle := numS_le s
  have hval := numS_val s
  unfold textR
  unfold rTakePost at hc
  generalize hr : numS s = r at hc hle hval ⊢
  obtain ⟨n, k, c⟩ := r
  simp only at hle hval hc ⊢
  clear hr
  obtain ⟨rest, hrest⟩ : ∃ x, x = dropB s k := ⟨_, rfl⟩
  have hrs : rest.size ≤ 9223372036854775807 := by rw [hrest, dropB_size]; omega
  rw [← hrest] at hc ⊢
  clear hrest
  by_cases h0 : c = 0
  · subst h0
    rw [if_neg (by simp)]
    by_cases h1 : most < (n : Int)
    · rw [if_pos h1]
      have t1 : decide (most < (n : Int)) = true := decide_eq_true h1
      clear h1
      go_enter Tryz.func103, Tryz.ntmps103
      go_wp2_with ((go_at_call 89; with_reducible refine hc.out.mono ?_; rintro e w1 ⟨rfl, hb⟩; have HB := Lib.hid hb; clear hb))
      go_ret3
      exact ⟨rfl, HB.out⟩
    · rw [if_neg h1]
      have t1 : decide (most < (n : Int)) = false := decide_eq_false h1
      clear h1
      by_cases h2 : rest.size < n
      · rw [if_pos h2]
        have t2 : decide ((rest.size : Int) < (n : Int)) = true := decide_eq_true (by omega)
        have t3 : decide (rest.size < n) = true := decide_eq_true h2
        clear h2
        go_enter Tryz.func103, Tryz.ntmps103
        go_wp2_with ((go_at_call 89; with_reducible refine hc.out.mono ?_; rintro e w1 ⟨rfl, hb⟩; have HB := Lib.hid hb; clear hb))
        go_ret3
        exact ⟨rfl, HB.out⟩
      · rw [if_neg h2]
        have t2 : decide ((rest.size : Int) < (n : Int)) = false := decide_eq_false (by omega)
        have t3 : decide (rest.size < n) = false := decide_eq_false h2
        have q0 : (0 : Int) ≤ (n : Int) := by omega
        have q1 : (n : Int) ≤ (rest.size : Int) := by omega
        clear h2
        go_enter Tryz.func103, Tryz.ntmps103
        go_wp2_with ((go_at_call 89; with_reducible refine hc.out.mono ?_; rintro e w1 ⟨rfl, hb⟩; have HB := Lib.hid hb; clear hb))
        go_quiet (fail)
        go_wp2
        go_ret3
        exact ⟨rfl, HB.out.trans (below_drewN _ _)⟩
  · rw [if_pos h0]
    have t0 : (c == 0) = false := beq_eq_false_iff_ne.2 h0
    have t0' : (c != 0) = true := by rw [bne, t0]; rfl
    clear h0
    go_enter Tryz.func103, Tryz.ntmps103
    go_wp2_with ((go_at_call 89; with_reducible refine hc.out.mono ?_; rintro e w1 ⟨rfl, hb⟩; have HB := Lib.hid hb; clear hb))
    go_ret3
    exact ⟨rfl, HB.out⟩

theorem numB_len9 (n : Nat) (h : n ≤ 9223372036854775807) : (numB n).length ≤ 9 := numB_len 8 n (by rw [Nat.pow_succ, pow8]; omega)
set_option maxHeartbeats 8000000 in
set_option maxRecDepth 100000 in
theorem Wrap_gen (z : Int) (k : Nat) (s : ByteArray) (hz : mxI z 0 = (k : Int)) (hk : k ≤ 9223372036854775807) (hs : s.size ≤ 1000) (w : World) : Calls Tryz.prog 80 #[.int .i64 z, .string s] w fun e w' => e = .returned (.string (wrapS k s)) ∧ Below w.heap.size w w' := by
  have cn := Num_any z k hz hk
  have zn : (strN (numB k)).size ≤ 9 := by rw [strN_size]; exact numB_len9 k hk
  unfold wrapS
  generalize strN (numB k) = s1 at *
  have ct := Text_any (s1 ++ s) (by rw [ByteArray.size_append]; omega)
  have zt := textS_size2 (s1 ++ s) (by rw [ByteArray.size_append]; omega)
  rw [ByteArray.size_append] at zt
  generalize textS (s1 ++ s) = s2 at *
  have cs := sum_any s2 (by omega)
  have zs := sumB_size s2
  generalize sumB s2 = s3 at *
  have h1 : s1.size + s.size ≤ 9223372036854775807 := by omega
  have h2 : s2.size + s3.size ≤ 9223372036854775807 := by omega
  replace cn := Lib.hid cn
  replace ct := Lib.hid ct
  replace cs := Lib.hid cs
  have HB := Lib.hid (Below.refl w.heap.size w)
  clear hz
  go_enter Tryz.func80, Tryz.ntmps80
  go_wp2_with (first
    | (go_at_call 81; with_reducible refine (cn.out _).mono ?_; rintro e w1 ⟨rfl, hb⟩; replace HB := Lib.hid (below_step HB.out hb); clear hb)
    | (go_at_call 100; with_reducible refine (ct.out _).mono ?_; rintro e w1 ⟨rfl, hb⟩; replace HB := Lib.hid (below_step HB.out hb); clear hb)
    | (go_at_call 76; with_reducible refine (cs.out _).mono ?_; rintro e w1 ⟨rfl, hb⟩; replace HB := Lib.hid (below_step HB.out hb); clear hb))
  go_ret
  exact ⟨rfl, HB.out⟩
set_option maxHeartbeats 8000000 in
set_option maxRecDepth 100000 in
theorem rWrap_gen (z : Int) (k : Nat) (s : ByteArray) (hz : mxI 0 z = (k : Int)) (hk : k ≤ 9223372036854775807) (hs : s.size ≤ 1000) (w : World) : Calls Tryz.prog 67 #[.int .i64 z, .string s] w fun e w' => e = .returned (.string (wrapS k s)) ∧ Below w.heap.size w w' := by
  have cn := rNum_any z k hz hk
  have zn : (strN (numB k)).size ≤ 9 := by rw [strN_size]; exact numB_len9 k hk
  unfold wrapS
  generalize strN (numB k) = s1 at *
  have ct := rText_any (s1 ++ s) (by rw [ByteArray.size_append]; omega)
  have zt := textS_size2 (s1 ++ s) (by rw [ByteArray.size_append]; omega)
  rw [ByteArray.size_append] at zt
  generalize textS (s1 ++ s) = s2 at *
  have cs := rSum_any s2 (by omega)
  have zs := sumB_size s2
  have hcv := conv4 (sumS s2) (sumS_lt s2)
  have hlt := sumS_lt s2
  unfold sumB at zs ⊢
  generalize sumS s2 = n at *
  generalize strN (sumL n) = s3 at *
  have h1 : s1.size + s.size ≤ 9223372036854775807 := by omega
  have h2 : s2.size + s3.size ≤ 9223372036854775807 := by omega
  replace cn := Lib.hid cn
  replace ct := Lib.hid ct
  replace cs := Lib.hid cs
  have HB := Lib.hid (Below.refl w.heap.size w)
  clear hz
  go_enter Tryz.func67, Tryz.ntmps67
  go_wp2_with (first
    | (go_at_call 87; with_reducible refine (cn.out _).mono ?_; rintro e w1 ⟨rfl, hb⟩; replace HB := Lib.hid (below_step HB.out hb); clear hb)
    | (go_at_call 90; with_reducible refine (ct.out _).mono ?_; rintro e w1 ⟨rfl, hb⟩; replace HB := Lib.hid (below_step HB.out hb); clear hb)
    | (go_at_call 91; with_reducible refine (cs.out _).mono ?_; rintro e w1 ⟨rfl, rfl⟩))
  go_ret
  exact ⟨rfl, below_step HB.out ((Below.refl _ _).alloc (Nat.le_refl _) _)⟩
end Go.Proofs.YtjincmagbbpooaaGreatDoor
end
