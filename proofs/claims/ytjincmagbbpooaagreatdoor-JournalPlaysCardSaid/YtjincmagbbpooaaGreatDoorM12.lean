import Derived.Test.YtjincmagbbpooaaGreatDoorM11
import Derived.Test.YtjincmagbbpooaaGreatDoorM9
import Derived.Test.YtjincmagbbpooaaGreatDoorM3

section
set_option linter.unusedVariables false
set_option linter.unusedSimpArgs false
namespace Go.Proofs.YtjincmagbbpooaaGreatDoor
open Go.RowKit

theorem below_alloc' {w W : World} (h : Below w.heap.size w W) (o : Obj) : Below w.heap.size w (W.alloc o) := below_step h ((Below.refl _ _).alloc (Nat.le_refl _) _)
theorem results_tmp4 {fn : Func} {t u v x : Tmp} (h : fn.results = #[.tmp t, .tmp u, .tmp v, .tmp x]) (tmps : Array Value) (P : Program) (w : World) :
    (results fn tmps).run P w = .ok (.tuple #[tmps.getD t undef, tmps.getD u undef, tmps.getD v undef, tmps.getD x undef]) w := by
  simp [results, h]
theorem new_cell_drew (w : World) (c : Array Value) (t : TypeId) (i : Nat) : (w.alloc (.cells c t)).drew.cell? ⟨w.heap.size, i, none⟩ = c[i]? := new_cell w c t i
theorem conv4d (n : Nat) (hn : n < 4294967296) (w : World) : (convert 79 9 (.slice (some ⟨w.heap.size, 0, none⟩) 4 4)).run Tryz.prog
    (w.alloc (.cells #[.int .u8 (IntKind.u8.wrap (n : Int)), .int .u8 (IntKind.u8.wrap ((n : Int) / 256)), .int .u8 (IntKind.u8.wrap ((n : Int) / 65536)), .int .u8 (IntKind.u8.wrap ((n : Int) / 16777216))] 5)).drew =
    .ok (.string (strN (sumL n))) (w.alloc (.cells #[.int .u8 (IntKind.u8.wrap (n : Int)), .int .u8 (IntKind.u8.wrap ((n : Int) / 256)), .int .u8 (IntKind.u8.wrap ((n : Int) / 65536)), .int .u8 (IntKind.u8.wrap ((n : Int) / 16777216))] 5)).drew := by
  unfold strN
  refine run_convert_bytes_arg _ 79 5 Tryz.underlying79 Tryz.underlying5 w.heap.size 0 4 4 ((sumL n).map fun (x : Nat) => (x : Int)) rfl (fun i hi => ?_) 9 Tryz.underlying9
  rw [Nat.zero_add, new_cell_drew]
  have : i = 0 ∨ i = 1 ∨ i = 2 ∨ i = 3 := by omega
  have hw : ∀ z : Int, IntKind.u8.wrap z = z % 256 := fun z => IntKind.wrap_u8 z
  rcases this with rfl | rfl | rfl | rfl
  · simp [sumL, hw]
  · simp [sumL, hw]
  · simp [sumL, hw]
  · simp [sumL, hw]
theorem conv4w (n : Nat) (hn : n < 4294967296) (w : World) : (convert 79 9 (.slice (some ⟨w.heap.size, 0, none⟩) 4 4)).run Tryz.prog
    (w.alloc (.cells #[.int .u8 (IntKind.u8.wrap (n : Int)), .int .u8 (IntKind.u8.wrap ((n : Int) / 256)), .int .u8 (IntKind.u8.wrap ((n : Int) / 65536)), .int .u8 (IntKind.u8.wrap ((n : Int) / 16777216))] 5)) =
    .ok (.string (strN (sumL n))) (w.alloc (.cells #[.int .u8 (IntKind.u8.wrap (n : Int)), .int .u8 (IntKind.u8.wrap ((n : Int) / 256)), .int .u8 (IntKind.u8.wrap ((n : Int) / 65536)), .int .u8 (IntKind.u8.wrap ((n : Int) / 16777216))] 5)) := by
  unfold strN
  refine run_convert_bytes_arg _ 79 5 Tryz.underlying79 Tryz.underlying5 w.heap.size 0 4 4 ((sumL n).map fun (x : Nat) => (x : Int)) rfl (fun i hi => ?_) 9 Tryz.underlying9
  rw [Nat.zero_add, new_cell]
  have : i = 0 ∨ i = 1 ∨ i = 2 ∨ i = 3 := by omega
  have hw : ∀ z : Int, IntKind.u8.wrap z = z % 256 := fun z => IntKind.wrap_u8 z
  rcases this with rfl | rfl | rfl | rfl
  · simp [sumL, hw]
  · simp [sumL, hw]
  · simp [sumL, hw]
  · simp [sumL, hw]
def unwrapR (s : ByteArray) : ByteArray × Nat × ByteArray × Int :=
  if (textR s 2020).2.2 ≠ 0 then (ByteArray.empty, 0, s, (textR s 2020).2.2)
  else if (textR s 2020).2.1.size < 4 then (ByteArray.empty, 0, s, 11)
  else if sumB (takeB s (s.size - (textR s 2020).2.1.size)) ≠ takeB (textR s 2020).2.1 4 then (ByteArray.empty, 0, s, 12)
  else if (numS (textR s 2020).1).2.2 ≠ 0 then (ByteArray.empty, 0, s, (numS (textR s 2020).1).2.2)
  else (dropB (textR s 2020).1 (numS (textR s 2020).1).2.1, (numS (textR s 2020).1).1, dropB (textR s 2020).2.1 4, 0)
def unwrapPost (r : ByteArray × Nat × ByteArray × Int) (w : World) (e : Ending) (w' : World) : Prop := e = .returned (.tuple #[.string r.1, .int .i64 (r.2.1 : Int), .string r.2.2.1, .int .i64 r.2.2.2]) ∧ Below w.heap.size w w'

set_option maxHeartbeats 8000000 in
set_option maxRecDepth 100000 in
theorem rUnwrap_any (s : ByteArray) (hs : s.size ≤ 1000000) (w : World) : Calls Tryz.prog 88 #[.string s] w (unwrapPost (unwrapR s) w) := by
  have cT := rTakeText_any s 2020 (by omega) w
  have hz := textR_sizes s 2020
  unfold unwrapR
  unfold rTextPost at cT
  generalize textR s 2020 = r at *
  obtain ⟨t, rest, c⟩ := r
  simp only at cT hz ⊢
  replace cT := Lib.hid cT
  by_cases h0 : c = 0
  · subst h0
    rw [if_neg (by simp)]
    by_cases h1 : rest.size < 4
    · rw [if_pos h1]
      have t1 : decide ((rest.size : Int) < 4) = true := decide_eq_true (by omega)
      have t1' : decide (rest.size < 4) = true := decide_eq_true h1
      clear h1
      go_enter Tryz.func88, Tryz.ntmps88
      go_wp2_with ((go_at_call 103; with_reducible refine cT.out.mono ?_; rintro e w1 ⟨rfl, hb⟩; have HB := Lib.hid hb; clear hb))
      (try simp only [Exit.inBlock, Exit.then]); refine bodyPost_ret (results_tmp4 rfl _ _ _) rfl ?_
      exact ⟨rfl, HB.out⟩
    · rw [if_neg h1]
      have t1 : decide ((rest.size : Int) < 4) = false := decide_eq_false (by omega)
      have t1' : decide (rest.size < 4) = false := decide_eq_false h1
      have q0 : (4 : Int) ≤ (rest.size : Int) := by omega
      obtain ⟨p, hp⟩ : ∃ p, p = s.size - rest.size := ⟨_, rfl⟩
      have hp1 : (s.size : Int) - (rest.size : Int) = (p : Int) := by omega
      have q1 : (0 : Int) ≤ (p : Int) := by omega
      have q2 : (p : Int) ≤ (s.size : Int) := by omega
      rw [← hp]
      have hps : p ≤ s.size := by omega
      clear h1 hp
      have cS := Lib.hid (rSum_any (takeB s p) (by rw [takeB_size _ _ hps]; omega))
      have hcv := conv4d (sumS (takeB s p)) (sumS_lt _)
      have hcw := conv4w (sumS (takeB s p)) (sumS_lt _)
      have hlt := sumS_lt (takeB s p)
      unfold takeB sumB at *
      generalize sumS (s.extract 0 p) = sn at *
      generalize strN (sumL sn) = s3 at *
      have cK := rTake_any t (by omega)
      unfold rTakePost at cK
      have hcodes := numF_codes t 8 0 0 1
      change (numS t).2.2 = 0 ∨ (numS t).2.2 = 10 ∨ (numS t).2.2 = 11 at hcodes
      generalize numS t = r at *
      obtain ⟨n, k, c⟩ := r
      simp only at cK hcodes ⊢
      replace cK := Lib.hid cK
      generalize dropB t k = inner at *
      by_cases h2 : s3 = rest.extract 0 4
      · rw [if_neg (by simpa using h2)]
        have t2 : ((rest.extract 0 4).toList == s3.toList) = true := by rw [h2]; exact beq_self_eq_true _
        have t2' : ((rest.extract 0 4).toList != s3.toList) = false := by rw [bne, t2]; rfl
        replace h2 := Lib.hid h2
        by_cases h3 : c = 0
        · subst h3
          rw [if_neg (by simp)]
          unfold dropB
          go_enter Tryz.func88, Tryz.ntmps88
          go_wp2_with (first
            | (go_at_call 103; with_reducible refine cT.out.mono ?_; rintro e w1 ⟨rfl, hb⟩; have HB := Lib.hid hb; clear hb)
            | (go_at_call 91; with_reducible refine (cS.out _).mono ?_; rintro e w2 ⟨rfl, rfl⟩))
          go_region_held (fun w' => Below w.heap.size w w') (first | go_keep | assumption | exact HB.out | exact HB.out.trans (below_drew _) | exact HB.out.trans (below_drewN _ _) | exact Below.trans (by assumption) (below_drew _) | exact Below.trans (by assumption) (below_drewN _ _) | exact below_alloc' (by assumption) _) (fail)
          all_goals go_wp2_with ((go_at_call 89; with_reducible refine (cK.out _).mono ?_; rintro e w4 ⟨rfl, hb⟩; have HB5 := Lib.hid (below_step (by first | assumption | exact below_alloc' HB.out _ | exact below_alloc' (HB.out.trans (below_drew _)) _ | exact below_alloc' (HB.out.trans (below_drewN _ _)) _ | exact below_alloc' (by assumption) _ | exact (below_alloc' HB.out _).trans (below_drew _) | exact (below_alloc' HB.out _).trans (below_drewN _ _)) hb); clear hb))
          go_quiet (fail)
          go_wp2
          (try simp only [Exit.inBlock, Exit.then]); refine bodyPost_ret (results_tmp4 rfl _ _ _) rfl ?_
          exact ⟨rfl, HB5.out.trans (below_drewN _ _)⟩
        · rw [if_pos h3]
          have t3 : (c == 0) = false := beq_eq_false_iff_ne.2 h3
          have t3' : (c != 0) = true := by rw [bne, t3]; rfl
          clear h3
          go_enter Tryz.func88, Tryz.ntmps88
          go_wp2_with (first
            | (go_at_call 103; with_reducible refine cT.out.mono ?_; rintro e w1 ⟨rfl, hb⟩; have HB := Lib.hid hb; clear hb)
            | (go_at_call 91; with_reducible refine (cS.out _).mono ?_; rintro e w2 ⟨rfl, rfl⟩))
          go_region_held (fun w' => Below w.heap.size w w') (first | go_keep | assumption | exact HB.out | exact HB.out.trans (below_drew _) | exact HB.out.trans (below_drewN _ _) | exact Below.trans (by assumption) (below_drew _) | exact Below.trans (by assumption) (below_drewN _ _) | exact below_alloc' (by assumption) _) (fail)
          all_goals go_wp2_with ((go_at_call 89; with_reducible refine (cK.out _).mono ?_; rintro e w4 ⟨rfl, hb⟩; have HB5 := Lib.hid (below_step (by first | assumption | exact below_alloc' HB.out _ | exact below_alloc' (HB.out.trans (below_drew _)) _ | exact below_alloc' (HB.out.trans (below_drewN _ _)) _ | exact below_alloc' (by assumption) _ | exact (below_alloc' HB.out _).trans (below_drew _) | exact (below_alloc' HB.out _).trans (below_drewN _ _)) hb); clear hb))
          (try simp only [Exit.inBlock, Exit.then]); refine bodyPost_ret (results_tmp4 rfl _ _ _) rfl ?_
          exact ⟨rfl, HB5.out⟩
      · rw [if_pos h2]
        have t2 : ((rest.extract 0 4).toList == s3.toList) = false := beq_list_false (fun e => h2 e.symm)
        have t2' : ((rest.extract 0 4).toList != s3.toList) = true := by rw [bne, t2]; rfl
        replace h2 := Lib.hid h2
        go_enter Tryz.func88, Tryz.ntmps88
        go_wp2_with (first
          | (go_at_call 103; with_reducible refine cT.out.mono ?_; rintro e w1 ⟨rfl, hb⟩; have HB := Lib.hid hb; clear hb)
          | (go_at_call 91; with_reducible refine (cS.out _).mono ?_; rintro e w2 ⟨rfl, rfl⟩))
        go_region_held (fun w' => Below w.heap.size w w') (first | go_keep | assumption | exact HB.out | exact HB.out.trans (below_drew _) | exact HB.out.trans (below_drewN _ _) | exact Below.trans (by assumption) (below_drew _) | exact Below.trans (by assumption) (below_drewN _ _) | exact below_alloc' (by assumption) _) (fail)
        all_goals go_wp2
        (try simp only [Exit.inBlock, Exit.then]); refine bodyPost_ret (results_tmp4 rfl _ _ _) rfl ?_
        exact ⟨rfl, by assumption⟩
  · rw [if_pos h0]
    have t0 : (c == 0) = false := beq_eq_false_iff_ne.2 h0
    have t0' : (c != 0) = true := by rw [bne, t0]; rfl
    clear h0
    go_enter Tryz.func88, Tryz.ntmps88
    go_wp2_with ((go_at_call 103; with_reducible refine cT.out.mono ?_; rintro e w1 ⟨rfl, hb⟩; have HB := Lib.hid hb; clear hb))
    (try simp only [Exit.inBlock, Exit.then]); refine bodyPost_ret (results_tmp4 rfl _ _ _) rfl ?_
    exact ⟨rfl, HB.out⟩
end Go.Proofs.YtjincmagbbpooaaGreatDoor
end

section
set_option linter.unusedVariables false
set_option linter.unusedSimpArgs false
namespace Go.Proofs.YtjincmagbbpooaaGreatDoor
open Go.RowKit

theorem openR_unwrap (s : ByteArray) (seq : Int) : openR s seq = if (unwrapR s).2.2.2 ≠ 0 then (ByteArray.empty, s, (unwrapR s).2.2.2) else if ((unwrapR s).2.1 : Int) ≠ seq then (ByteArray.empty, s, 10) else ((unwrapR s).1, (unwrapR s).2.2.1, 0) := by
  unfold openR unwrapR
  by_cases h0 : (textR s 2020).2.2 = 0
  · by_cases h1 : (textR s 2020).2.1.size < 4
    · simp [h0, h1]
    · by_cases h2 : sumB (takeB s (s.size - (textR s 2020).2.1.size)) = takeB (textR s 2020).2.1 4
      · by_cases h3 : (numS (textR s 2020).1).2.2 = 0
        · simp [h0, h1, h2, h3]
        · simp [h0, h1, h2, h3]
      · simp [h0, h1, h2]
  · simp [h0]

set_option maxHeartbeats 8000000 in
set_option maxRecDepth 100000 in
theorem rOpen_any (s : ByteArray) (seq : Int) (hs : s.size ≤ 1000000) (w : World) : Calls Tryz.prog 64 #[.string s, .int .i64 seq] w (rTextPost (openR s seq) w) := by
  have cU := rUnwrap_any s hs w
  rw [openR_unwrap]
  unfold unwrapPost at cU
  generalize unwrapR s = r at *
  obtain ⟨b, n, rest, c⟩ := r
  simp only at cU ⊢
  replace cU := Lib.hid cU
  by_cases h0 : c = 0
  · subst h0
    rw [if_neg (by simp)]
    by_cases h3 : (n : Int) = seq
    · rw [if_neg (by simpa using h3)]
      have t3 : ((n : Int) == seq) = true := beq_iff_eq.2 h3
      have t3' : ((n : Int) != seq) = false := by rw [bne, t3]; rfl
      replace h3 := Lib.hid h3
      go_enter Tryz.func64, Tryz.ntmps64
      go_wp2_with ((go_at_call 88; with_reducible refine cU.out.mono ?_; rintro e w1 ⟨rfl, hb⟩; have HB := Lib.hid hb; clear hb))
      go_ret3
      exact ⟨rfl, HB.out⟩
    · rw [if_pos h3]
      have t3 : ((n : Int) == seq) = false := beq_eq_false_iff_ne.2 h3
      have t3' : ((n : Int) != seq) = true := by rw [bne, t3]; rfl
      replace h3 := Lib.hid h3
      go_enter Tryz.func64, Tryz.ntmps64
      go_wp2_with ((go_at_call 88; with_reducible refine cU.out.mono ?_; rintro e w1 ⟨rfl, hb⟩; have HB := Lib.hid hb; clear hb))
      go_ret3
      exact ⟨rfl, HB.out⟩
  · rw [if_pos h0]
    have t0 : (c == 0) = false := beq_eq_false_iff_ne.2 h0
    have t0' : (c != 0) = true := by rw [bne, t0]; rfl
    clear h0
    go_enter Tryz.func64, Tryz.ntmps64
    go_wp2_with ((go_at_call 88; with_reducible refine cU.out.mono ?_; rintro e w1 ⟨rfl, hb⟩; have HB := Lib.hid hb; clear hb))
    go_ret3
    exact ⟨rfl, HB.out⟩
end Go.Proofs.YtjincmagbbpooaaGreatDoor
end

section
set_option linter.unusedVariables false
set_option linter.unusedSimpArgs false
namespace Go.Proofs.YtjincmagbbpooaaGreatDoor
open Go.RowKit

/-! ### journals, as they are meant -/
def DS.half (D : DS) : Nat := (D.sure.length - 2) / 2
def DS.sec (D : DS) (which i : Nat) : Nat := 2 + which * D.half + i
/-- So many bytes from one on, as far as there are some. -/
def partB (b : ByteArray) (i n : Nat) : ByteArray := b.extract (min i b.size) (min (min i b.size + n) b.size)
/-- Sectors of a half that are not as they should be, from one on, are written: the disk, how many, the error. -/
def diffF (which : Nat) (b : ByteArray) : Nat → Nat → Nat → DS → DS × Nat × Int
  | 0, _, n, D => (D, n, 0)
  | f + 1, i, n, D =>
    if D.may (D.sec which i) ≠ 0 then (D, n, D.may (D.sec which i))
    else if D.readS (D.sec which i) = fillB (partB b (i * 64) 64) then diffF which b f (i + 1) n D
    else if D.writeC (D.sec which i) (fillB (partB b (i * 64) 64)) ≠ 0 then (D.write (D.sec which i) (fillB (partB b (i * 64) 64)), n, D.writeC (D.sec which i) (fillB (partB b (i * 64) 64)))
    else diffF which b f (i + 1) (n + 1) (D.write (D.sec which i) (fillB (partB b (i * 64) 64)))
def DS.diff (D : DS) (which : Nat) (b : ByteArray) (i : Nat) : DS × Nat × Int := diffF which b (D.half - i) i 0 D
def superB (turn which : Nat) : ByteArray := wrapS turn (strN (numB which))
def DS.super (D : DS) (at_ turn which : Nat) : DS × Int :=
  if D.writeC at_ (superB turn which) ≠ 0 then (D.write at_ (superB turn which), D.writeC at_ (superB turn which))
  else ((D.write at_ (superB turn which)).flush, (D.write at_ (superB turn which)).flushC)
def DS.format (D : DS) : DS × Int :=
  if D.sure.length < 4 then (D, 14)
  else if D.writeC 1 ⟨#[]⟩ ≠ 0 then (D.write 1 ⟨#[]⟩, D.writeC 1 ⟨#[]⟩)
  else if ((D.write 1 ⟨#[]⟩).diff 0 ⟨#[]⟩ 0).2.2 ≠ 0 then (((D.write 1 ⟨#[]⟩).diff 0 ⟨#[]⟩ 0).1, ((D.write 1 ⟨#[]⟩).diff 0 ⟨#[]⟩ 0).2.2)
  else if ((D.write 1 ⟨#[]⟩).diff 0 ⟨#[]⟩ 0).1.flushC ≠ 0 then (((D.write 1 ⟨#[]⟩).diff 0 ⟨#[]⟩ 0).1.flush, ((D.write 1 ⟨#[]⟩).diff 0 ⟨#[]⟩ 0).1.flushC)
  else (((D.write 1 ⟨#[]⟩).diff 0 ⟨#[]⟩ 0).1.flush).super 0 1 0
/-- Are all bytes 0? -/
def zerosB (b : ByteArray) : Bool := b.data.toList.all (· == 0)
/-- A superblock: its turn, its half; a turn of 0: it is none. -/
def readB (b : ByteArray) : Nat × Nat :=
  if (textR b 64).2.2 ≠ 0 ∨ (numS (textR b 64).1).2.2 ≠ 0 then (0, 0)
  else if (openR b (numS (textR b 64).1).1).2.2 ≠ 0 ∨ (numS (openR b (numS (textR b 64).1).1).1).2.2 ≠ 0
    ∨ dropB (openR b (numS (textR b 64).1).1).1 (numS (openR b (numS (textR b 64).1).1).1).2.1 ≠ ⟨#[]⟩
    ∨ 1 < (numS (openR b (numS (textR b 64).1).1).1).1 ∨ zerosB (openR b (numS (textR b 64).1).1).2.1 = false then (0, 0)
  else ((numS (textR b 64).1).1, (numS (openR b (numS (textR b 64).1).1).1).1)
/-- The superblock that counts: turn, half, error. -/
def newer (x y : Nat × Nat) : Nat × Nat := if x.1 < y.1 then y else x
def DS.newest (D : DS) : Nat × Nat × Int :=
  if D.may 0 ≠ 0 then (0, 0, D.may 0)
  else if D.may 1 ≠ 0 then (0, 0, D.may 1)
  else if (newer (newer (0, 0) (readB (D.readS 0))) (readB (D.readS 1))).1 = 0 then (0, 0, 10)
  else ((newer (newer (0, 0) (readB (D.readS 0))) (readB (D.readS 1))).1, (newer (newer (0, 0) (readB (D.readS 0))) (readB (D.readS 1))).2, 0)
/-- All bytes of a half, from one sector on. -/
def joinF (D : DS) (which : Nat) : Nat → Nat → ByteArray
  | 0, _ => ⟨#[]⟩
  | f + 1, i => D.readS (D.sec which i) ++ joinF D which f (i + 1)
/-- Records one behind the other: those that are there, what is behind. -/
def recsF (turn : Nat) : Nat → Nat → ByteArray → List ByteArray × ByteArray
  | 0, _, s => ([], s)
  | f + 1, k, s =>
    if (openR s ((turn * 1000000 + k : Nat) : Int)).2.2 ≠ 0 then ([], s)
    else ((openR s ((turn * 1000000 + k : Nat) : Int)).1 :: (recsF turn f (k + 1) (openR s ((turn * 1000000 + k : Nat) : Int)).2.1).1, (recsF turn f (k + 1) (openR s ((turn * 1000000 + k : Nat) : Int)).2.1).2)
structure JS where
  turn : Nat
  which : Nat
  b : ByteArray
  n : Nat
  dead : Bool
def recsOf (turn : Nat) (s : ByteArray) : List ByteArray × ByteArray := recsF turn (s.size + 1) 0 s

/-! ### what a walk over a disk keeps -/
section
variable {F : Nat → Prop} {p : Nat} {w w1 w2 : World} {D D1 D2 : DS}
theorem DskPost.dsk (h : DskPost F p w D w1) : Dsk w1 (Plus F w w1) p D := h.2
theorem DskPost.start (h : Dsk w F p D) : DskPost F p w D w := ⟨Save.refl _ _, h.mono fun k _ hk => .inl hk⟩
theorem DskPost.then (h : DskPost F p w D1 w1) (k : DskPost (Plus F w w1) p w1 D2 w2) : DskPost F p w D2 w2 := by
  refine ⟨h.1.trans k.1, k.2.mono fun x hx hp => ?_⟩
  have h1 := h.1.size
  rcases hp with (hp | hp) | hp
  · exact .inl hp
  · exact .inr ⟨hp.1, Nat.lt_of_lt_of_le hp.2 k.1.size⟩
  · exact .inr ⟨by omega, hp.2⟩
theorem DskPost.below (h : DskPost F p w D w1) (hb : Below w1.heap.size w1 w2) : DskPost F p w D w2 :=
  ⟨h.1.belowStep hb, (h.2.below hb).mono fun k hk hp => hp.elim .inl (fun h => .inr ⟨h.1, hk⟩)⟩
theorem DskPost.quiet (h : DskPost F p w D w1) (n : Nat) : DskPost F p w D (w1.drewN n) := h.below (below_drewN _ _)
end
end Go.Proofs.YtjincmagbbpooaaGreatDoor
end

section
set_option linter.unusedVariables false
set_option linter.unusedSimpArgs false
namespace Go.Proofs.YtjincmagbbpooaaGreatDoor
open Go.RowKit
attribute [local go_sem] max2_int max_two min2_int min_two

theorem half_any (w : World) (F : Nat → Prop) (p : Nat) (D : DS) (h2 : 2 ≤ D.sure.length) (h : Dsk w F p D) :
    Calls Tryz.prog 38 #[.pointer (some ⟨p, 0, none⟩)] w fun e w' => e = .returned (.int .i64 (D.half : Int)) ∧ w = w' := by
  have cl := Lib.hid (Len_any w F p D h)
  have hm := h.ok.most
  unfold DS.half
  generalize D.sure.length = n at cl h2 hm ⊢
  obtain ⟨k, hk⟩ : ∃ k : Nat, (n - 2) / 2 = k := ⟨_, rfl⟩
  have q1 : (n : Int) - 2 = ((n - 2 : Nat) : Int) := by omega
  have q2 : ((n : Int) - 2) / 2 = (k : Int) := by omega
  have q0 : (0 : Int) ≤ (n : Int) - 2 := by omega
  rw [hk]
  clear h hk q1
  go_enter Tryz.func38, Tryz.ntmps38
  go_wp2_with (go_at_call 36; (with_reducible refine cl.out.mono ?_); rintro e w1 ⟨rfl, rfl⟩)
  go_ret
  exact ⟨by show Ending.returned (.int .i64 (((n : Int) - 2) / 2)) = _; rw [q2], rfl⟩
theorem half_le {D : DS} (h : D.ok) : D.half ≤ 999 := by have := h.most; unfold DS.half; omega
theorem sector_any (w : World) (F : Nat → Prop) (p : Nat) (D : DS) (which i : Nat) (hw : which ≤ 1) (hi : i ≤ 100000) (h2 : 2 ≤ D.sure.length) (h : Dsk w F p D) :
    Calls Tryz.prog 39 #[.pointer (some ⟨p, 0, none⟩), .int .i64 (which : Int), .int .i64 (i : Int)] w fun e w' => e = .returned (.int .i64 (D.sec which i : Int)) ∧ w = w' := by
  have ch := Lib.hid (half_any w F p D h2 h)
  have hh := half_le h.ok
  unfold DS.sec
  generalize D.half = k at ch hh ⊢
  obtain ⟨m, hm⟩ : ∃ m : Nat, which * k = m := ⟨_, rfl⟩
  have hm1 : m ≤ 999 := by
    have : which * k ≤ 1 * 999 := Nat.mul_le_mul hw hh
    omega
  have q1 : (which : Int) * (k : Int) = (m : Int) := by rw [← hm]; exact (Int.natCast_mul _ _).symm
  have q2 : (2 : Int) + (m : Int) + (i : Int) = ((2 + which * k + i : Nat) : Int) := by rw [hm]; omega
  rw [← q2]
  clear h hh q2 hm
  go_enter Tryz.func39, Tryz.ntmps39
  go_wp2_with (go_at_call 38; (with_reducible refine ch.out.mono ?_); rintro e w1 ⟨rfl, rfl⟩)
  go_ret
  exact ⟨rfl, rfl⟩
theorem seq_any (turn k : Nat) (ht : turn ≤ 1000000) (hk : k ≤ 1000000) (w : World) :
    Calls Tryz.prog 43 #[.int .i64 (turn : Int), .int .i64 (k : Int)] w fun e w' => e = .returned (.int .i64 ((turn * 1000000 + k : Nat) : Int)) ∧ w = w' := by
  have q : ((turn * 1000000 + k : Nat) : Int) = (turn : Int) * 1000000 + (k : Int) := by omega
  rw [q]
  go_enter Tryz.func43, Tryz.ntmps43
  go_wp2
  go_ret
  exact ⟨rfl, rfl⟩
theorem part_any (b : ByteArray) (i n : Nat) (hb : b.size ≤ 1099511627776) (hi : i ≤ 1099511627776) (hn : n ≤ 1099511627776) (w : World) :
    Calls Tryz.prog 66 #[.string b, .int .i64 (i : Int), .int .i64 (n : Int)] w fun e w' => e = .returned (.string (partB b i n)) ∧ w = w' := by
  obtain ⟨j, hj⟩ : ∃ j : Nat, min i b.size = j := ⟨_, rfl⟩
  obtain ⟨k, hk⟩ : ∃ k : Nat, min (j + n) b.size = k := ⟨_, rfl⟩
  have e1 : Builtin.min_ #[3, 3] 3 #[.int .i64 (i : Int), .int .i64 (b.size : Int)] = (pure (.int .i64 (j : Int)) : Sem Value) := by
    rw [min_two, min2_int, show mnI (i : Int) (b.size : Int) = (j : Int) by unfold mnI; split <;> omega]; rfl
  have e2 : Builtin.min_ #[3, 3] 3 #[.int .i64 ((j : Int) + (n : Int)), .int .i64 (b.size : Int)] = (pure (.int .i64 (k : Int)) : Sem Value) := by
    rw [min_two, min2_int, show mnI ((j : Int) + (n : Int)) (b.size : Int) = (k : Int) by unfold mnI; split <;> omega]; rfl
  have hjk : (j : Int) ≤ (k : Int) := by omega
  have hkb : (k : Int) ≤ (b.size : Int) := by omega
  have hjn : (j : Int) + (n : Int) ≤ 9223372036854775807 := by omega
  have hp : partB b i n = b.extract j k := by unfold partB; rw [hj, hk]
  rw [hp]
  clear hp hj hk
  go_enter Tryz.func66, Tryz.ntmps66
  go_wp2
  go_ret
  exact ⟨rfl, rfl⟩
theorem noughts_any (w : World) : Calls Tryz.prog 78 #[] w fun e w' => e = .returned (.string (zeroB 64)) ∧ Below w.heap.size w w' := by
  have c := Lib.hid (Tryz.strings_Repeat ⟨#[0]⟩ 64 w (by decide) (by decide))
  rw [show (⟨(Lib.repeatL ([0] : List UInt8) 64).toArray⟩ : ByteArray) = zeroB 64 by decide] at c
  go_enter Tryz.func78, Tryz.ntmps78
  go_wp2_with (go_at_call 35; refine c.out.mono ?_; rintro e w1 ⟨rfl, hb⟩; have HB := Lib.hid hb; clear hb)
  go_ret
  exact ⟨rfl, HB.out⟩
end Go.Proofs.YtjincmagbbpooaaGreatDoor
end
