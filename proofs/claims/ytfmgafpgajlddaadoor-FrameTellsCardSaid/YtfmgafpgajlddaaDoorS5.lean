import Derived.Test.YtfmgafpgajlddaaDoorS4
set_option linter.unusedVariables false
set_option linter.unusedSimpArgs false
namespace Go.Proofs.YtfmgafpgajlddaaDoor
open Go.RowKit

theorem below_alloc' {w W : World} (h : Below w.heap.size w W) (o : Obj) : Below w.heap.size w (W.alloc o) := below_step h ((Below.refl _ _).alloc (Nat.le_refl _) _)
theorem results_tmp4 {fn : Func} {t u v x : Tmp} (h : fn.results = #[.tmp t, .tmp u, .tmp v, .tmp x]) (tmps : Array Value) (P : Program) (w : World) :
    (results fn tmps).run P w = .ok (.tuple #[tmps.getD t undef, tmps.getD u undef, tmps.getD v undef, tmps.getD x undef]) w := by
  simp [results, h]
theorem new_cell_drew (w : World) (c : Array Value) (t : TypeId) (i : Nat) : (w.alloc (.cells c t)).drew.cell? ⟨w.heap.size, i, none⟩ = c[i]? := new_cell w c t i
theorem conv4d (n : Nat) (hn : n < 4294967296) (w : World) : (convert 48 9 (.slice (some ⟨w.heap.size, 0, none⟩) 4 4)).run Tryd.prog
    (w.alloc (.cells #[.int .u8 (IntKind.u8.wrap (n : Int)), .int .u8 (IntKind.u8.wrap ((n : Int) / 256)), .int .u8 (IntKind.u8.wrap ((n : Int) / 65536)), .int .u8 (IntKind.u8.wrap ((n : Int) / 16777216))] 5)).drew =
    .ok (.string (strN (sumL n))) (w.alloc (.cells #[.int .u8 (IntKind.u8.wrap (n : Int)), .int .u8 (IntKind.u8.wrap ((n : Int) / 256)), .int .u8 (IntKind.u8.wrap ((n : Int) / 65536)), .int .u8 (IntKind.u8.wrap ((n : Int) / 16777216))] 5)).drew := by
  unfold strN
  refine run_convert_bytes_arg _ 48 5 Tryd.underlying48 Tryd.underlying5 w.heap.size 0 4 4 ((sumL n).map fun (x : Nat) => (x : Int)) rfl (fun i hi => ?_) 9 Tryd.underlying9
  rw [Nat.zero_add, new_cell_drew]
  have : i = 0 ∨ i = 1 ∨ i = 2 ∨ i = 3 := by omega
  have hw : ∀ z : Int, IntKind.u8.wrap z = z % 256 := fun z => IntKind.wrap_u8 z
  rcases this with rfl | rfl | rfl | rfl
  · simp [sumL, hw]
  · simp [sumL, hw]
  · simp [sumL, hw]
  · simp [sumL, hw]
theorem conv4w (n : Nat) (hn : n < 4294967296) (w : World) : (convert 48 9 (.slice (some ⟨w.heap.size, 0, none⟩) 4 4)).run Tryd.prog
    (w.alloc (.cells #[.int .u8 (IntKind.u8.wrap (n : Int)), .int .u8 (IntKind.u8.wrap ((n : Int) / 256)), .int .u8 (IntKind.u8.wrap ((n : Int) / 65536)), .int .u8 (IntKind.u8.wrap ((n : Int) / 16777216))] 5)) =
    .ok (.string (strN (sumL n))) (w.alloc (.cells #[.int .u8 (IntKind.u8.wrap (n : Int)), .int .u8 (IntKind.u8.wrap ((n : Int) / 256)), .int .u8 (IntKind.u8.wrap ((n : Int) / 65536)), .int .u8 (IntKind.u8.wrap ((n : Int) / 16777216))] 5)) := by
  unfold strN
  refine run_convert_bytes_arg _ 48 5 Tryd.underlying48 Tryd.underlying5 w.heap.size 0 4 4 ((sumL n).map fun (x : Nat) => (x : Int)) rfl (fun i hi => ?_) 9 Tryd.underlying9
  rw [Nat.zero_add, new_cell]
  have : i = 0 ∨ i = 1 ∨ i = 2 ∨ i = 3 := by omega
  have hw : ∀ z : Int, IntKind.u8.wrap z = z % 256 := fun z => IntKind.wrap_u8 z
  rcases this with rfl | rfl | rfl | rfl
  · simp [sumL, hw]
  · simp [sumL, hw]
  · simp [sumL, hw]
  · simp [sumL, hw]
def unwrapR (s : ByteArray) : ByteArray × Nat × ByteArray × Int :=
  if (textR s 2020).2.2 ≠ 0 then (ByteArray.empty, 0, s, (textR s 2020).2.2)
  else if (textR s 2020).2.1.size < 4 then (ByteArray.empty, 0, s, 11)
  else if sumB (takeB s (s.size - (textR s 2020).2.1.size)) ≠ takeB (textR s 2020).2.1 4 then (ByteArray.empty, 0, s, 12)
  else if (numS (textR s 2020).1).2.2 ≠ 0 then (ByteArray.empty, 0, s, (numS (textR s 2020).1).2.2)
  else (dropB (textR s 2020).1 (numS (textR s 2020).1).2.1, (numS (textR s 2020).1).1, dropB (textR s 2020).2.1 4, 0)
def unwrapPost (r : ByteArray × Nat × ByteArray × Int) (w : World) (e : Ending) (w' : World) : Prop := e = .returned (.tuple #[.string r.1, .int .i64 (r.2.1 : Int), .string r.2.2.1, .int .i64 r.2.2.2]) ∧ Below w.heap.size w w'

set_option maxHeartbeats 8000000 in
set_option maxRecDepth 100000 in
theorem rUnwrap_any (s : ByteArray) (hs : s.size ≤ 1000000) (w : World) : Calls Tryd.prog 47 #[.string s] w (unwrapPost (unwrapR s) w) := by
  have cT := rTakeText_any s 2020 (by omega) w
  have hz := textR_sizes s 2020
  unfold unwrapR
  unfold rTextPost at cT
  generalize textR s 2020 = r at *
  obtain ⟨t, rest, c⟩ := r
  simp only at cT hz ⊢
  replace cT := Lib.hid cT
  by_cases h0 : c = 0
  · subst h0
    rw [if_neg (by simp)]
    by_cases h1 : rest.size < 4
    · rw [if_pos h1]
      have t1 : decide ((rest.size : Int) < 4) = true := decide_eq_true (by omega)
      have t1' : decide (rest.size < 4) = true := decide_eq_true h1
      clear h1
      go_enter Tryd.func47, Tryd.ntmps47
      go_wp2_with ((go_at_call 60; with_reducible refine cT.out.mono ?_; rintro e w1 ⟨rfl, hb⟩; have HB := Lib.hid hb; clear hb))
      (try simp only [Exit.inBlock, Exit.then]); refine bodyPost_ret (results_tmp4 rfl _ _ _) rfl ?_
      exact ⟨rfl, HB.out⟩
    · rw [if_neg h1]
      have t1 : decide ((rest.size : Int) < 4) = false := decide_eq_false (by omega)
      have t1' : decide (rest.size < 4) = false := decide_eq_false h1
      have q0 : (4 : Int) ≤ (rest.size : Int) := by omega
      obtain ⟨p, hp⟩ : ∃ p, p = s.size - rest.size := ⟨_, rfl⟩
      have hp1 : (s.size : Int) - (rest.size : Int) = (p : Int) := by omega
      have q1 : (0 : Int) ≤ (p : Int) := by omega
      have q2 : (p : Int) ≤ (s.size : Int) := by omega
      rw [← hp]
      have hps : p ≤ s.size := by omega
      clear h1 hp
      have cS := Lib.hid (rSum_any (takeB s p) (by rw [takeB_size _ _ hps]; omega))
      have hcv := conv4d (sumS (takeB s p)) (sumS_lt _)
      have hcw := conv4w (sumS (takeB s p)) (sumS_lt _)
      have hlt := sumS_lt (takeB s p)
      unfold takeB sumB at *
      generalize sumS (s.extract 0 p) = sn at *
      generalize strN (sumL sn) = s3 at *
      have cK := rTake_any t (by omega)
      unfold rTakePost at cK
      have hcodes := numF_codes t 8 0 0 1
      change (numS t).2.2 = 0 ∨ (numS t).2.2 = 10 ∨ (numS t).2.2 = 11 at hcodes
      generalize numS t = r at *
      obtain ⟨n, k, c⟩ := r
      simp only at cK hcodes ⊢
      replace cK := Lib.hid cK
      generalize dropB t k = inner at *
      by_cases h2 : s3 = rest.extract 0 4
      · rw [if_neg (by simpa using h2)]
        have t2 : ((rest.extract 0 4).toList == s3.toList) = true := by rw [h2]; exact beq_self_eq_true _
        have t2' : ((rest.extract 0 4).toList != s3.toList) = false := by rw [bne, t2]; rfl
        replace h2 := Lib.hid h2
        by_cases h3 : c = 0
        · subst h3
          rw [if_neg (by simp)]
          unfold dropB
          go_enter Tryd.func47, Tryd.ntmps47
          go_wp2_with (first
            | (go_at_call 60; with_reducible refine cT.out.mono ?_; rintro e w1 ⟨rfl, hb⟩; have HB := Lib.hid hb; clear hb)
            | (go_at_call 21; with_reducible refine (cS.out _).mono ?_; rintro e w2 ⟨rfl, rfl⟩))
          go_region_held (fun w' => Below w.heap.size w w') (first | go_keep | assumption | exact HB.out | exact HB.out.trans (below_drew _) | exact HB.out.trans (below_drewN _ _) | exact Below.trans (by assumption) (below_drew _) | exact Below.trans (by assumption) (below_drewN _ _) | exact below_alloc' (by assumption) _) (fail)
          all_goals go_wp2_with ((go_at_call 61; with_reducible refine (cK.out _).mono ?_; rintro e w4 ⟨rfl, hb⟩; have HB5 := Lib.hid (below_step (by first | assumption | exact below_alloc' HB.out _ | exact below_alloc' (HB.out.trans (below_drew _)) _ | exact below_alloc' (HB.out.trans (below_drewN _ _)) _ | exact below_alloc' (by assumption) _ | exact (below_alloc' HB.out _).trans (below_drew _) | exact (below_alloc' HB.out _).trans (below_drewN _ _)) hb); clear hb))
          go_quiet (fail)
          go_wp2
          (try simp only [Exit.inBlock, Exit.then]); refine bodyPost_ret (results_tmp4 rfl _ _ _) rfl ?_
          exact ⟨rfl, HB5.out.trans (below_drewN _ _)⟩
        · rw [if_pos h3]
          have t3 : (c == 0) = false := beq_eq_false_iff_ne.2 h3
          have t3' : (c != 0) = true := by rw [bne, t3]; rfl
          clear h3
          go_enter Tryd.func47, Tryd.ntmps47
          go_wp2_with (first
            | (go_at_call 60; with_reducible refine cT.out.mono ?_; rintro e w1 ⟨rfl, hb⟩; have HB := Lib.hid hb; clear hb)
            | (go_at_call 21; with_reducible refine (cS.out _).mono ?_; rintro e w2 ⟨rfl, rfl⟩))
          go_region_held (fun w' => Below w.heap.size w w') (first | go_keep | assumption | exact HB.out | exact HB.out.trans (below_drew _) | exact HB.out.trans (below_drewN _ _) | exact Below.trans (by assumption) (below_drew _) | exact Below.trans (by assumption) (below_drewN _ _) | exact below_alloc' (by assumption) _) (fail)
          all_goals go_wp2_with ((go_at_call 61; with_reducible refine (cK.out _).mono ?_; rintro e w4 ⟨rfl, hb⟩; have HB5 := Lib.hid (below_step (by first | assumption | exact below_alloc' HB.out _ | exact below_alloc' (HB.out.trans (below_drew _)) _ | exact below_alloc' (HB.out.trans (below_drewN _ _)) _ | exact below_alloc' (by assumption) _ | exact (below_alloc' HB.out _).trans (below_drew _) | exact (below_alloc' HB.out _).trans (below_drewN _ _)) hb); clear hb))
          (try simp only [Exit.inBlock, Exit.then]); refine bodyPost_ret (results_tmp4 rfl _ _ _) rfl ?_
          exact ⟨rfl, HB5.out⟩
      · rw [if_pos h2]
        have t2 : ((rest.extract 0 4).toList == s3.toList) = false := beq_list_false (fun e => h2 e.symm)
        have t2' : ((rest.extract 0 4).toList != s3.toList) = true := by rw [bne, t2]; rfl
        replace h2 := Lib.hid h2
        go_enter Tryd.func47, Tryd.ntmps47
        go_wp2_with (first
          | (go_at_call 60; with_reducible refine cT.out.mono ?_; rintro e w1 ⟨rfl, hb⟩; have HB := Lib.hid hb; clear hb)
          | (go_at_call 21; with_reducible refine (cS.out _).mono ?_; rintro e w2 ⟨rfl, rfl⟩))
        go_region_held (fun w' => Below w.heap.size w w') (first | go_keep | assumption | exact HB.out | exact HB.out.trans (below_drew _) | exact HB.out.trans (below_drewN _ _) | exact Below.trans (by assumption) (below_drew _) | exact Below.trans (by assumption) (below_drewN _ _) | exact below_alloc' (by assumption) _) (fail)
        all_goals go_wp2
        (try simp only [Exit.inBlock, Exit.then]); refine bodyPost_ret (results_tmp4 rfl _ _ _) rfl ?_
        exact ⟨rfl, by assumption⟩
  · rw [if_pos h0]
    have t0 : (c == 0) = false := beq_eq_false_iff_ne.2 h0
    have t0' : (c != 0) = true := by rw [bne, t0]; rfl
    clear h0
    go_enter Tryd.func47, Tryd.ntmps47
    go_wp2_with ((go_at_call 60; with_reducible refine cT.out.mono ?_; rintro e w1 ⟨rfl, hb⟩; have HB := Lib.hid hb; clear hb))
    (try simp only [Exit.inBlock, Exit.then]); refine bodyPost_ret (results_tmp4 rfl _ _ _) rfl ?_
    exact ⟨rfl, HB.out⟩
end Go.Proofs.YtfmgafpgajlddaaDoor
