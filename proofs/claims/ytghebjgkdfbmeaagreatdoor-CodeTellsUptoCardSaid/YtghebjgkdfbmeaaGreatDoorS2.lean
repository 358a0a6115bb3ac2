import Derived.Test.YtghebjgkdfbmeaaGreatDoorCU
set_option linter.unusedVariables false
set_option linter.unusedSimpArgs false
namespace Go.Proofs.YtghebjgkdfbmeaaGreatDoor
open Go.RowKit

theorem conv1 (x : Nat) (w : World) : (convert 107 9 (.slice (some ⟨w.heap.size, 0, none⟩) 1 1)).run Tryz.prog
    (w.alloc (.cells #[.int .u8 (x : Int)] 5)) = .ok (.string (strN [x])) (w.alloc (.cells #[.int .u8 (x : Int)] 5)) := by
  unfold strN
  refine run_convert_bytes_arg _ 107 5 Tryz.underlying107 Tryz.underlying5 w.heap.size 0 1 1 ([x].map fun (x : Nat) => (x : Int)) rfl (fun i hi => ?_) 9 Tryz.underlying9
  obtain rfl : i = 0 := by omega
  rw [Nat.zero_add, new_cell]
  simp
theorem strN_append (a b : List Nat) : strN (a ++ b) = strN a ++ strN b := by
  apply ByteArray.ext
  rw [ByteArray.data_append]
  apply Array.toList_inj.1
  rw [Array.toList_append]
  unfold strN
  rw [strOfNums_data, strOfNums_data, strOfNums_data]
  simp
attribute [local go_sem] max2_int max_two
set_option maxHeartbeats 4000000 in
set_option maxRecDepth 100000 in
theorem rNum_any (z : Int) (n : Nat) (hz : mxI 0 z = (n : Int)) (hn : n ≤ 9223372036854775807) (w : World) :
    Calls Tryz.prog 38 #[.int .i64 z] w fun e w' => e = .returned (.string (strN (numB n))) ∧ Below w.heap.size w w' := by
  go_enter Tryz.func38, Tryz.ntmps38
  go_wp2
  clear hz
  go_loopw [3, 4] (fun v3 v0 wr => ∃ (m : Nat) (l : List Nat), v0 = .int .i64 m ∧ v3 = .string (strN l) ∧ m ≤ n ∧ Hid (l ++ numB m = numB n) ∧ Hid (Left7 l.length m) ∧ Hid (Below w.heap.size w wr)) (fun _ v0 _ => (intOf v0).toNat)
  case atStart => exact ⟨n, [], rfl, rfl, Nat.le_refl _, rfl, Left7.start hn, Below.refl _ _⟩
  case round =>
    obtain ⟨m, l, rfl, rfl, hm, hl, hll, hb⟩ := hrel
    have hlm : l.length ≤ 9 := hll.out.1
    obtain ⟨b, hbq⟩ : ∃ b, b = strN l := ⟨_, rfl⟩
    have hbz : b.size = l.length := by rw [hbq, strN_size]
    have one : ∀ x, (strN [x]).size = 1 := fun x => by rw [strN_size]; rfl
    rw [← hbq]
    by_cases hlt : m < 128
    · have q1 : decide ((128 : Int) ≤ (m : Int)) = false := decide_eq_false (by omega)
      have q1' : decide (128 ≤ m) = false := decide_eq_false (by omega)
      have hmod : (m : Int) % 256 = (m : Int) := by omega
      have hcv := conv1 m
      have h1 := one m
      have hfin : b ++ strN [m] = strN (numB n) := by
        have e := hl.out
        rw [numB_small hlt] at e
        rw [← e, hbq, strN_append]
      generalize strN [m] = x at *
      have hsz : b.size + x.size ≤ 9223372036854775807 := by omega
      replace hfin := Lib.hid hfin
      replace hbq := Lib.hid hbq
      clear hlt one
      go_wp2
      go_ret
      refine ⟨by rw [hfin.out]; rfl, ?_⟩
      exact below_step hb.out ((Below.refl _ _).alloc (Nat.le_refl _) _)
    · have q1 : decide ((128 : Int) ≤ (m : Int)) = true := decide_eq_true (by omega)
      have q1' : decide (128 ≤ m) = true := decide_eq_true (by omega)
      obtain ⟨r, hr⟩ : ∃ r : Nat, 128 + (m : Int) % 128 = (r : Int) := ⟨m % 128 + 128, by omega⟩
      have hr' : r = m % 128 + 128 := by omega
      have hmod : (r : Int) % 256 = (r : Int) := by omega
      obtain ⟨q, hq⟩ : ∃ q : Nat, (m : Int) / 128 = (q : Int) := ⟨m / 128, by omega⟩
      have hq' : q = m / 128 := by omega
      have hqm : q < m := by omega
      have hcv := conv1 r
      have h1 := one r
      have hfin : b ++ strN [r] = strN (l ++ [r]) := by rw [hbq, strN_append]
      generalize strN [r] = x at *
      have hsz : b.size + x.size ≤ 9223372036854775807 := by omega
      have HR := Lib.hid hr'
      have HQ := Lib.hid hq'
      have HL := Lib.hid hlt
      replace hfin := Lib.hid hfin
      replace hbq := Lib.hid hbq
      clear hr' hq' hlt one
      go_wp2
      go_roundw
      case rel =>
        refine ⟨q, l ++ [r], rfl, by first | rfl | rw [hfin.out], by omega, Lib.hid ?_, Lib.hid ?_, below_step hb.out ((Below.refl _ _).alloc (Nat.le_refl _) _)⟩
        · have e := hl.out
          rw [numB_great HL.out, ← HQ.out, ← HR.out] at e
          rw [← e]
          simp
        · have := hll.out.step HL.out
          rw [← HQ.out] at this
          rw [List.length_append]
          exact this
      case measure => simp [intOf]; omega
theorem rText_any (s : ByteArray) (hs : s.size ≤ 1000000) (w : World) :
    Calls Tryz.prog 39 #[.string s] w fun e w' => e = .returned (.string (textS s)) ∧ Below w.heap.size w w' := by
  have hc := Lib.hid (rNum_any (s.size : Int) s.size (by unfold mxI; split <;> omega) (by omega) w)
  have hsz : (strN (numB s.size)).size + s.size ≤ 9223372036854775807 := by rw [strN_size]; have := numB_length s.size; omega
  go_enter Tryz.func39, Tryz.ntmps39
  go_wp2_with ((go_at_call 38; refine hc.out.mono ?_; rintro e w1 ⟨rfl, hb⟩; have hb1 := Lib.hid hb; clear hb))
  go_ret
  exact ⟨rfl, hb1.out⟩
end Go.Proofs.YtghebjgkdfbmeaaGreatDoor
