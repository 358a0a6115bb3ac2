import Derived.Test.YtfmgafpgajlddaaDoorS5
set_option linter.unusedVariables false
set_option linter.unusedSimpArgs false
namespace Go.Proofs.YtfmgafpgajlddaaDoor
open Go.RowKit

theorem openR_unwrap (s : ByteArray) (seq : Int) : openR s seq = if (unwrapR s).2.2.2 ≠ 0 then (ByteArray.empty, s, (unwrapR s).2.2.2) else if ((unwrapR s).2.1 : Int) ≠ seq then (ByteArray.empty, s, 10) else ((unwrapR s).1, (unwrapR s).2.2.1, 0) := by
  unfold openR unwrapR
  by_cases h0 : (textR s 2020).2.2 = 0
  · by_cases h1 : (textR s 2020).2.1.size < 4
    · simp [h0, h1]
    · by_cases h2 : sumB (takeB s (s.size - (textR s 2020).2.1.size)) = takeB (textR s 2020).2.1 4
      · by_cases h3 : (numS (textR s 2020).1).2.2 = 0
        · simp [h0, h1, h2, h3]
        · simp [h0, h1, h2, h3]
      · simp [h0, h1, h2]
  · simp [h0]

set_option maxHeartbeats 8000000 in
set_option maxRecDepth 100000 in
theorem rOpen_any (s : ByteArray) (seq : Int) (hs : s.size ≤ 1000000) (w : World) : Calls Tryd.prog 19 #[.string s, .int .i64 seq] w (rTextPost (openR s seq) w) := by
  have cU := rUnwrap_any s hs w
  rw [openR_unwrap]
  unfold unwrapPost at cU
  generalize unwrapR s = r at *
  obtain ⟨b, n, rest, c⟩ := r
  simp only at cU ⊢
  replace cU := Lib.hid cU
  by_cases h0 : c = 0
  · subst h0
    rw [if_neg (by simp)]
    by_cases h3 : (n : Int) = seq
    · rw [if_neg (by simpa using h3)]
      have t3 : ((n : Int) == seq) = true := beq_iff_eq.2 h3
      have t3' : ((n : Int) != seq) = false := by rw [bne, t3]; rfl
      replace h3 := Lib.hid h3
      go_enter Tryd.func19, Tryd.ntmps19
      go_wp2_with ((go_at_call 47; with_reducible refine cU.out.mono ?_; rintro e w1 ⟨rfl, hb⟩; have HB := Lib.hid hb; clear hb))
      go_ret3
      exact ⟨rfl, HB.out⟩
    · rw [if_pos h3]
      have t3 : ((n : Int) == seq) = false := beq_eq_false_iff_ne.2 h3
      have t3' : ((n : Int) != seq) = true := by rw [bne, t3]; rfl
      replace h3 := Lib.hid h3
      go_enter Tryd.func19, Tryd.ntmps19
      go_wp2_with ((go_at_call 47; with_reducible refine cU.out.mono ?_; rintro e w1 ⟨rfl, hb⟩; have HB := Lib.hid hb; clear hb))
      go_ret3
      exact ⟨rfl, HB.out⟩
  · rw [if_pos h0]
    have t0 : (c == 0) = false := beq_eq_false_iff_ne.2 h0
    have t0' : (c != 0) = true := by rw [bne, t0]; rfl
    clear h0
    go_enter Tryd.func19, Tryd.ntmps19
    go_wp2_with ((go_at_call 47; with_reducible refine cU.out.mono ?_; rintro e w1 ⟨rfl, hb⟩; have HB := Lib.hid hb; clear hb))
    go_ret3
    exact ⟨rfl, HB.out⟩

set_option maxHeartbeats 8000000 in
set_option maxRecDepth 100000 in
theorem FrameTells_any (s t : ByteArray) (seq : Int) (hq : -9223372036854775808 ≤ seq ∧ seq ≤ 9223372036854775807) (w : World) (hg : ErrVar w) :
    Calls Tryd.prog 6 #[.string s, .string t, .int .i64 seq] w fun e w' => e = .returned (.bool true) ∧ Below w.heap.size w w' := by
  have ck := Lib.hid (known3_any w hg)
  by_cases h1 : 300 < s.size
  · have t1 : decide ((300 : Int) < (s.size : Int)) = true := decide_eq_true (by omega)
    have t1' : decide (300 < s.size) = true := decide_eq_true h1
    clear h1
    go_enter Tryd.func6, Tryd.ntmps6
    go_wp2_with ((go_at_call 17; with_reducible refine ck.out.mono ?_; rintro e w1 ⟨rfl, hb⟩; have HB := Lib.hid hb; clear hb))
    go_ret
    exact ⟨rfl, HB.out⟩
  by_cases h2 : 600 < t.size
  · have t1 : decide ((300 : Int) < (s.size : Int)) = false := decide_eq_false (by omega)
    have t1' : decide (300 < s.size) = false := decide_eq_false h1
    have t2 : decide ((600 : Int) < (t.size : Int)) = true := decide_eq_true (by omega)
    have t2' : decide (600 < t.size) = true := decide_eq_true h2
    clear h1 h2
    go_enter Tryd.func6, Tryd.ntmps6
    go_wp2_with ((go_at_call 17; with_reducible refine ck.out.mono ?_; rintro e w1 ⟨rfl, hb⟩; have HB := Lib.hid hb; clear hb))
    go_ret
    exact ⟨rfl, HB.out⟩
  have t1 : decide ((300 : Int) < (s.size : Int)) = false := decide_eq_false (by omega)
  have t1' : decide (300 < s.size) = false := decide_eq_false h1
  have t2 : decide ((600 : Int) < (t.size : Int)) = false := decide_eq_false (by omega)
  have t2' : decide (600 < t.size) = false := decide_eq_false h2
  have co := Open_any t seq (by omega)
  have cr := rOpen_any t seq (by omega)
  unfold OpenPost at co
  unfold rTextPost at cr
  generalize openR t seq = r at *
  obtain ⟨a, x, c⟩ := r
  simp only at co cr
  obtain ⟨n, hn⟩ : ∃ n : Nat, n = seq.toNat := ⟨_, rfl⟩
  have cw := Wrap_gen seq n s (by unfold mxI; split <;> omega) (by omega) (by omega)
  have cv := rWrap_gen seq n s (by unfold mxI; split <;> omega) (by omega) (by omega)
  generalize wrapS n s = s1 at *
  have cs := Sum_any s (by omega)
  have cz := rSum_any s (by omega)
  generalize sumS s = sn at *
  have cc := code3_any c
  generalize errV c = er at *
  have k1 := Lib.hid (beq_list a.toList)
  have k2 := Lib.hid (beq_list x.toList)
  have k3 := Lib.hid (beq_list s1.toList)
  replace co := Lib.hid co
  replace cr := Lib.hid cr
  replace cw := Lib.hid cw
  replace cv := Lib.hid cv
  replace cs := Lib.hid cs
  replace cz := Lib.hid cz
  replace cc := Lib.hid cc
  have HG := Lib.hid hg
  have HB := Lib.hid (Below.refl w.heap.size w)
  clear hg h1 h2 hn hq
  go_enter Tryd.func6, Tryd.ntmps6
  go_wp2_with (first
    | (go_at_call 17; with_reducible refine ck.out.mono ?_; rintro e w1 ⟨rfl, hb⟩; replace HG := Lib.hid (HG.out.below hb); replace HB := Lib.hid (below_step HB.out hb); clear hb)
    | (go_at_call 18; with_reducible refine (co.out _ HG.out).mono ?_; rintro e w1 ⟨rfl, hb⟩; replace HG := Lib.hid (HG.out.below hb); replace HB := Lib.hid (below_step HB.out hb); clear hb)
    | (go_at_call 19; with_reducible refine (cr.out _).mono ?_; rintro e w1 ⟨rfl, hb⟩; replace HG := Lib.hid (HG.out.below hb); replace HB := Lib.hid (below_step HB.out hb); clear hb)
    | (go_at_call 22; with_reducible refine (cw.out _).mono ?_; rintro e w1 ⟨rfl, hb⟩; replace HG := Lib.hid (HG.out.below hb); replace HB := Lib.hid (below_step HB.out hb); clear hb)
    | (go_at_call 23; with_reducible refine (cv.out _).mono ?_; rintro e w1 ⟨rfl, hb⟩; replace HG := Lib.hid (HG.out.below hb); replace HB := Lib.hid (below_step HB.out hb); clear hb)
    | (go_at_call 20; with_reducible refine (cs.out _).mono ?_; rintro e w1 ⟨rfl, rfl⟩)
    | (go_at_call 21; with_reducible refine (cz.out _).mono ?_; rintro e w1 ⟨rfl, rfl⟩)
    | (go_at_call 24; with_reducible refine (cc.out _ HG.out).mono ?_; rintro e w1 ⟨rfl, hb⟩; replace HG := Lib.hid (HG.out.below hb); replace HB := Lib.hid (below_step HB.out hb); clear hb))
  go_ret
  exact ⟨rfl, HB.out⟩
theorem FrameTells_walk (s t : ByteArray) (seq : Int) (w2 : (Lit.int .i64 seq).wf = true) (w : World) (hg : ErrVar w) :
    Calls Tryd.prog 6 #[.string s, .string t, .int .i64 seq] w fun e w' => e = .returned (.bool true) ∧ Below w.heap.size w w' := by
  have b0 : -9223372036854775808 ≤ seq ∧ seq ≤ 9223372036854775807 := by simpa [Lit.wf, IntKind.min, IntKind.max, IntKind.signed, IntKind.bits] using w2
  exact FrameTells_any s t seq b0 w hg
end Go.Proofs.YtfmgafpgajlddaaDoor
