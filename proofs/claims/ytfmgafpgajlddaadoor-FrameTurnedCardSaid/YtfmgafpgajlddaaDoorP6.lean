import Derived.Test.YtfmgafpgajlddaaDoorP5
set_option linter.unusedVariables false
set_option linter.unusedSimpArgs false
namespace Go.Proofs.YtfmgafpgajlddaaDoor
open Go.RowKit

theorem dropB_zero (s : ByteArray) : dropB s 0 = s := by apply bys_inj; rw [bys_dropB, List.drop_zero]
theorem short_num (m j : Nat) (h : m < 72057594037927936) (hj : j < (strN (numB m)).size) :
    numS (takeB (strN (numB m)) j) = (0, (takeB (strN (numB m)) j).size - (takeB (strN (numB m)) j).size, 11) ∧ dropB (takeB (strN (numB m)) j) ((takeB (strN (numB m)) j).size - (takeB (strN (numB m)) j).size) = takeB (strN (numB m)) j := by
  rw [Nat.sub_self, dropB_zero]
  rw [strN_size] at hj
  exact ⟨numS_short m j h hj, rfl⟩
theorem takeB_size (s : ByteArray) (j : Nat) (h : j ≤ s.size) : (takeB s j).size = j := by unfold takeB; rw [ByteArray.size_extract]; omega
theorem numB_len : ∀ (k m : Nat), m < 128 ^ (k + 1) → (numB m).length ≤ k + 1
  | 0, m, h => by rw [numB_small (by simpa using h)]; simp
  | k + 1, m, h => by
    by_cases h1 : m < 128
    · rw [numB_small h1]; simp
    · rw [numB_great h1]
      have := numB_len k (m / 128) (by rw [Nat.pow_succ] at h; omega)
      simp; omega
theorem beq_list (l : List UInt8) : (l == l) = true := beq_self_eq_true l

set_option maxHeartbeats 8000000 in
set_option maxRecDepth 100000 in
theorem PackBack_any (u : Nat) (s more : ByteArray) (cut : Nat) (hu : u < 18446744073709551616) (hcut : cut < 256) (w : World) (hg : ErrVar w) :
    Calls Tryd.prog 3 #[.int .u64 (u : Int), .string s, .string more, .int .u8 (cut : Int)] w fun e w' => e = .returned (.bool true) ∧ Below w.heap.size w w' := by
  have ck := Lib.hid (known_any w hg)
  by_cases h1 : 300 < s.size
  · have t1 : decide ((300 : Int) < (s.size : Int)) = true := decide_eq_true (by omega)
    have t1' : decide (300 < s.size) = true := decide_eq_true h1
    clear h1
    go_enter Tryd.func3, Tryd.ntmps3
    go_wp2_with ((go_at_call 11; refine ck.out.mono ?_; rintro e w1 ⟨rfl, hb⟩; have HB := Lib.hid hb; clear hb))
    go_ret
    exact ⟨rfl, HB.out⟩
  by_cases h2 : 100 < more.size
  · have t1 : decide ((300 : Int) < (s.size : Int)) = false := decide_eq_false (by omega)
    have t1' : decide (300 < s.size) = false := decide_eq_false h1
    have t2 : decide ((100 : Int) < (more.size : Int)) = true := decide_eq_true (by omega)
    have t2' : decide (100 < more.size) = true := decide_eq_true h2
    clear h1 h2
    go_enter Tryd.func3, Tryd.ntmps3
    go_wp2_with ((go_at_call 11; refine ck.out.mono ?_; rintro e w1 ⟨rfl, hb⟩; have HB := Lib.hid hb; clear hb))
    go_ret
    exact ⟨rfl, HB.out⟩
  have t1 : decide ((300 : Int) < (s.size : Int)) = false := decide_eq_false (by omega)
  have t1' : decide (300 < s.size) = false := decide_eq_false h1
  have t2 : decide ((100 : Int) < (more.size : Int)) = false := decide_eq_false (by omega)
  have t2' : decide (100 < more.size) = false := decide_eq_false h2
  have zs : s.size ≤ 300 := by omega
  have zm : more.size ≤ 100 := by omega
  clear h1 h2
  obtain ⟨n, hn⟩ : ∃ n, n = u / 512 := ⟨_, rfl⟩
  have zn : n < 36028797018963968 := by omega
  have c1 := Num_any (n : Int) n (by unfold mxI; rw [if_neg (by omega)]) (by omega)
  have z1 : (strN (numB n)).size ≤ 10 := by rw [strN_size]; have := numB_len 7 n (by rw [pow8]; omega); omega
  have z1' : 0 < (strN (numB n)).size := by rw [strN_size]; exact List.length_pos_iff.2 (numB_ne n)
  have c2 := Text_any s (by omega)
  have z2 : (textS s).size ≤ 310 := by unfold textS; rw [ByteArray.size_append, strN_size]; have := numB_len 7 s.size (by rw [pow8]; omega); omega
  have z2' : 0 < (textS s).size := by unfold textS; rw [ByteArray.size_append, strN_size]; have := List.length_pos_iff.2 (numB_ne s.size); omega
  have c3 := Take_is (strN (numB n) ++ more) n n more 0 .nilIface rfl rfl (by rw [ByteArray.size_append]; omega) (take_num n more (by omega))
  have c4 := TakeText_is (textS s ++ more) 300 s more 0 .nilIface rfl (by rw [ByteArray.size_append]; omega) (textR_back s more 300 (by omega) (by omega))
  obtain ⟨j1, hj1⟩ : ∃ j, j = cut % (strN (numB n)).size := ⟨_, rfl⟩
  obtain ⟨j2, hj2⟩ : ∃ j, j = cut % (textS s).size := ⟨_, rfl⟩
  have zj1 : j1 < (strN (numB n)).size := by rw [hj1]; exact Nat.mod_lt _ z1'
  have zj2 : j2 < (textS s).size := by rw [hj2]; exact Nat.mod_lt _ z2'
  have c5 := Take_is (takeB (strN (numB n)) j1) 0 0 (takeB (strN (numB n)) j1) 11 (.iface 34 (.int .i64 11)) rfl rfl (by rw [takeB_size _ _ (by omega)]; omega) (short_num n j1 (by omega) zj1)
  have c6 := TakeText_is (takeB (textS s) j2) 300 _ _ 11 (.iface 34 (.int .i64 11)) rfl (by rw [takeB_size _ _ (by omega)]; omega) (by rw [← textR_short s 300 j2 (by omega) (by omega) zj2])
  generalize (textR (takeB (textS s) j2) 300).1 = x1 at c6
  generalize (textR (takeB (textS s) j2) 300).2.1 = x2 at c6
  generalize strN (numB n) = s1 at *
  generalize textS s = s2 at *
  have c7 := Num_any (-(n : Int) - 1) 0 (by unfold mxI; rw [if_pos (by omega)]; rfl) (by omega)
  have c8 := Num_any 0 0 (by decide) (by omega)
  generalize strN (numB 0) = s0 at *
  have t3 : (((s1.size : Nat) : Int) == 0) = false := beq_eq_false_iff_ne.2 (by omega)
  have t4 : (((s2.size : Nat) : Int) == 0) = false := beq_eq_false_iff_ne.2 (by omega)
  have k1 := Lib.hid (beq_list more.toList)
  have k2 := Lib.hid (beq_list s.toList)
  have k3 := Lib.hid (beq_list s0.toList)
  unfold takeB at c5 c6
  have hj1' : (cut : Int) % (s1.size : Int) = (j1 : Int) := by rw [hj1]; simp
  have hj2' : (cut : Int) % (s2.size : Int) = (j2 : Int) := by rw [hj2]; simp
  have hj1'' : Int.tmod (cut : Int) (s1.size : Int) = (j1 : Int) := by rw [hj1]; rfl
  have hj2'' : Int.tmod (cut : Int) (s2.size : Int) = (j2 : Int) := by rw [hj2]; rfl
  have q1 : (0 : Int) ≤ (j1 : Int) := by omega
  have q2 : (j1 : Int) ≤ (s1.size : Int) := by omega
  have q3 : (0 : Int) ≤ (j2 : Int) := by omega
  have q4 : (j2 : Int) ≤ (s2.size : Int) := by omega
  replace c1 := Lib.hid c1
  replace c2 := Lib.hid c2
  replace c3 := Lib.hid c3
  replace c4 := Lib.hid c4
  replace c5 := Lib.hid c5
  replace c6 := Lib.hid c6
  replace c7 := Lib.hid c7
  replace c8 := Lib.hid c8
  have hn' : (u : Int) / 512 = (n : Int) := by omega
  have HG := Lib.hid hg
  have HB := Lib.hid (Below.refl w.heap.size w)
  clear hg hn hj1 hj2
  go_enter Tryd.func3, Tryd.ntmps3
  go_wp2_with (first
    | (go_at_call 11; with_reducible refine (ck.out).mono ?_; rintro e w1 ⟨rfl, hb⟩; replace HG := Lib.hid (HG.out.below hb); replace HB := Lib.hid (below_step HB.out hb); clear hb)
    | (go_at_call 12; with_reducible refine (c1.out _).mono ?_; rintro e w1 ⟨rfl, hb⟩; replace HG := Lib.hid (HG.out.below hb); replace HB := Lib.hid (below_step HB.out hb); clear hb)
    | (go_at_call 12; with_reducible refine (c7.out _).mono ?_; rintro e w1 ⟨rfl, hb⟩; replace HG := Lib.hid (HG.out.below hb); replace HB := Lib.hid (below_step HB.out hb); clear hb)
    | (go_at_call 12; with_reducible refine (c8.out _).mono ?_; rintro e w1 ⟨rfl, hb⟩; replace HG := Lib.hid (HG.out.below hb); replace HB := Lib.hid (below_step HB.out hb); clear hb)
    | (go_at_call 13; with_reducible refine (c2.out _).mono ?_; rintro e w1 ⟨rfl, hb⟩; replace HG := Lib.hid (HG.out.below hb); replace HB := Lib.hid (below_step HB.out hb); clear hb)
    | (go_at_call 14; with_reducible refine (c3.out _).mono ?_; rintro e w1 ⟨rfl, hb⟩; replace HG := Lib.hid (HG.out.below hb); replace HB := Lib.hid (below_step HB.out hb); clear hb)
    | (go_at_call 14; with_reducible refine (c5.out _).mono ?_; rintro e w1 ⟨rfl, hb⟩; replace HG := Lib.hid (HG.out.below hb); replace HB := Lib.hid (below_step HB.out hb); clear hb)
    | (go_at_call 15; with_reducible refine (c4.out _ HG.out).mono ?_; rintro e w1 ⟨rfl, hb⟩; replace HG := Lib.hid (HG.out.below hb); replace HB := Lib.hid (below_step HB.out hb); clear hb)
    | (go_at_call 15; with_reducible refine (c6.out _ HG.out).mono ?_; rintro e w1 ⟨rfl, hb⟩; replace HG := Lib.hid (HG.out.below hb); replace HB := Lib.hid (below_step HB.out hb); clear hb)
    | (go_at_call 16; refine (is_yes _ _).mono ?_; rintro e w1 ⟨rfl, rfl⟩))
  go_ret
  exact ⟨rfl, HB.out⟩
theorem PackBack_walk (u : Int) (s more : ByteArray) (cut : Int) (w0 : (Lit.int .u64 u).wf = true) (w3 : (Lit.int .u8 cut).wf = true) (w : World) (hg : ErrVar w) :
    Calls Tryd.prog 3 #[.int .u64 u, .string s, .string more, .int .u8 cut] w fun e w' => e = .returned (.bool true) ∧ Below w.heap.size w w' := by
  have b0 : 0 ≤ u ∧ u ≤ 18446744073709551615 := by simpa [Lit.wf, IntKind.min, IntKind.max, IntKind.signed, IntKind.bits] using w0
  have b3 : 0 ≤ cut ∧ cut ≤ 255 := by simpa [Lit.wf, IntKind.min, IntKind.max, IntKind.signed, IntKind.bits] using w3
  obtain ⟨u', rfl⟩ : ∃ n : Nat, u = (n : Int) := ⟨u.toNat, by omega⟩
  obtain ⟨c', rfl⟩ : ∃ n : Nat, cut = (n : Int) := ⟨cut.toNat, by omega⟩
  exact PackBack_any u' s more c' (by omega) (by omega) w hg
end Go.Proofs.YtfmgafpgajlddaaDoor
