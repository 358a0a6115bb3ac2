import Derived.Test.YtfmgafpgajlddaaDoorS3
set_option linter.unusedVariables false
set_option linter.unusedSimpArgs false
namespace Go.Proofs.YtfmgafpgajlddaaDoor
open Go.RowKit

def rTextPost (r : ByteArray × ByteArray × Int) (w : World) (e : Ending) (w' : World) : Prop := e = .returned (.tuple #[.string r.1, .string r.2.1, .int .i64 r.2.2]) ∧ Below w.heap.size w w'

set_option maxHeartbeats 8000000 in
set_option maxRecDepth 100000 in
theorem rTakeText_any (s : ByteArray) (most : Int) (hs : s.size ≤ 9223372036854775807) (w : World) : Calls Tryd.prog 60 #[.string s, .int .i64 most] w (rTextPost (textR s most) w) := by
  have hc := Lib.hid (rTake_any s hs w)
  have hle := numS_le s
  have hval := numS_val s
  unfold textR
  unfold rTakePost at hc
  generalize hr : numS s = r at hc hle hval ⊢
  obtain ⟨n, k, c⟩ := r
  simp only at hle hval hc ⊢
  clear hr
  obtain ⟨rest, hrest⟩ : ∃ x, x = dropB s k := ⟨_, rfl⟩
  have hrs : rest.size ≤ 9223372036854775807 := by rw [hrest, dropB_size]; omega
  rw [← hrest] at hc ⊢
  clear hrest
  by_cases h0 : c = 0
  · subst h0
    rw [if_neg (by simp)]
    by_cases h1 : most < (n : Int)
    · rw [if_pos h1]
      have t1 : decide (most < (n : Int)) = true := decide_eq_true h1
      clear h1
      go_enter Tryd.func60, Tryd.ntmps60
      go_wp2_with ((go_at_call 61; with_reducible refine hc.out.mono ?_; rintro e w1 ⟨rfl, hb⟩; have HB := Lib.hid hb; clear hb))
      go_ret3
      exact ⟨rfl, HB.out⟩
    · rw [if_neg h1]
      have t1 : decide (most < (n : Int)) = false := decide_eq_false h1
      clear h1
      by_cases h2 : rest.size < n
      · rw [if_pos h2]
        have t2 : decide ((rest.size : Int) < (n : Int)) = true := decide_eq_true (by omega)
        have t3 : decide (rest.size < n) = true := decide_eq_true h2
        clear h2
        go_enter Tryd.func60, Tryd.ntmps60
        go_wp2_with ((go_at_call 61; with_reducible refine hc.out.mono ?_; rintro e w1 ⟨rfl, hb⟩; have HB := Lib.hid hb; clear hb))
        go_ret3
        exact ⟨rfl, HB.out⟩
      · rw [if_neg h2]
        have t2 : decide ((rest.size : Int) < (n : Int)) = false := decide_eq_false (by omega)
        have t3 : decide (rest.size < n) = false := decide_eq_false h2
        have q0 : (0 : Int) ≤ (n : Int) := by omega
        have q1 : (n : Int) ≤ (rest.size : Int) := by omega
        clear h2
        go_enter Tryd.func60, Tryd.ntmps60
        go_wp2_with ((go_at_call 61; with_reducible refine hc.out.mono ?_; rintro e w1 ⟨rfl, hb⟩; have HB := Lib.hid hb; clear hb))
        go_quiet (fail)
        go_wp2
        go_ret3
        exact ⟨rfl, HB.out.trans (below_drewN _ _)⟩
  · rw [if_pos h0]
    have t0 : (c == 0) = false := beq_eq_false_iff_ne.2 h0
    have t0' : (c != 0) = true := by rw [bne, t0]; rfl
    clear h0
    go_enter Tryd.func60, Tryd.ntmps60
    go_wp2_with ((go_at_call 61; with_reducible refine hc.out.mono ?_; rintro e w1 ⟨rfl, hb⟩; have HB := Lib.hid hb; clear hb))
    go_ret3
    exact ⟨rfl, HB.out⟩

theorem numB_len9 (n : Nat) (h : n ≤ 9223372036854775807) : (numB n).length ≤ 9 := numB_len 8 n (by rw [Nat.pow_succ, pow8]; omega)
set_option maxHeartbeats 8000000 in
set_option maxRecDepth 100000 in
theorem Wrap_gen (z : Int) (k : Nat) (s : ByteArray) (hz : mxI z 0 = (k : Int)) (hk : k ≤ 9223372036854775807) (hs : s.size ≤ 1000) (w : World) : Calls Tryd.prog 22 #[.int .i64 z, .string s] w fun e w' => e = .returned (.string (wrapS k s)) ∧ Below w.heap.size w w' := by
  have cn := Num_any z k hz hk
  have zn : (strN (numB k)).size ≤ 9 := by rw [strN_size]; exact numB_len9 k hk
  unfold wrapS
  generalize strN (numB k) = s1 at *
  have ct := Text_any (s1 ++ s) (by rw [ByteArray.size_append]; omega)
  have zt := textS_size2 (s1 ++ s) (by rw [ByteArray.size_append]; omega)
  rw [ByteArray.size_append] at zt
  generalize textS (s1 ++ s) = s2 at *
  have cs := sum_any s2 (by omega)
  have zs := sumB_size s2
  generalize sumB s2 = s3 at *
  have h1 : s1.size + s.size ≤ 9223372036854775807 := by omega
  have h2 : s2.size + s3.size ≤ 9223372036854775807 := by omega
  replace cn := Lib.hid cn
  replace ct := Lib.hid ct
  replace cs := Lib.hid cs
  have HB := Lib.hid (Below.refl w.heap.size w)
  clear hz
  go_enter Tryd.func22, Tryd.ntmps22
  go_wp2_with (first
    | (go_at_call 12; with_reducible refine (cn.out _).mono ?_; rintro e w1 ⟨rfl, hb⟩; replace HB := Lib.hid (below_step HB.out hb); clear hb)
    | (go_at_call 13; with_reducible refine (ct.out _).mono ?_; rintro e w1 ⟨rfl, hb⟩; replace HB := Lib.hid (below_step HB.out hb); clear hb)
    | (go_at_call 46; with_reducible refine (cs.out _).mono ?_; rintro e w1 ⟨rfl, hb⟩; replace HB := Lib.hid (below_step HB.out hb); clear hb))
  go_ret
  exact ⟨rfl, HB.out⟩
set_option maxHeartbeats 8000000 in
set_option maxRecDepth 100000 in
theorem rWrap_gen (z : Int) (k : Nat) (s : ByteArray) (hz : mxI 0 z = (k : Int)) (hk : k ≤ 9223372036854775807) (hs : s.size ≤ 1000) (w : World) : Calls Tryd.prog 23 #[.int .i64 z, .string s] w fun e w' => e = .returned (.string (wrapS k s)) ∧ Below w.heap.size w w' := by
  have cn := rNum_any z k hz hk
  have zn : (strN (numB k)).size ≤ 9 := by rw [strN_size]; exact numB_len9 k hk
  unfold wrapS
  generalize strN (numB k) = s1 at *
  have ct := rText_any (s1 ++ s) (by rw [ByteArray.size_append]; omega)
  have zt := textS_size2 (s1 ++ s) (by rw [ByteArray.size_append]; omega)
  rw [ByteArray.size_append] at zt
  generalize textS (s1 ++ s) = s2 at *
  have cs := rSum_any s2 (by omega)
  have zs := sumB_size s2
  have hcv := conv4 (sumS s2) (sumS_lt s2)
  have hlt := sumS_lt s2
  unfold sumB at zs ⊢
  generalize sumS s2 = n at *
  generalize strN (sumL n) = s3 at *
  have h1 : s1.size + s.size ≤ 9223372036854775807 := by omega
  have h2 : s2.size + s3.size ≤ 9223372036854775807 := by omega
  replace cn := Lib.hid cn
  replace ct := Lib.hid ct
  replace cs := Lib.hid cs
  have HB := Lib.hid (Below.refl w.heap.size w)
  clear hz
  go_enter Tryd.func23, Tryd.ntmps23
  go_wp2_with (first
    | (go_at_call 49; with_reducible refine (cn.out _).mono ?_; rintro e w1 ⟨rfl, hb⟩; replace HB := Lib.hid (below_step HB.out hb); clear hb)
    | (go_at_call 48; with_reducible refine (ct.out _).mono ?_; rintro e w1 ⟨rfl, hb⟩; replace HB := Lib.hid (below_step HB.out hb); clear hb)
    | (go_at_call 21; with_reducible refine (cs.out _).mono ?_; rintro e w1 ⟨rfl, rfl⟩))
  go_ret
  exact ⟨rfl, below_step HB.out ((Below.refl _ _).alloc (Nat.le_refl _) _)⟩
end Go.Proofs.YtfmgafpgajlddaaDoor
