import Derived.Test.YtjincmagbbpooaaGreatDoorM9

section
set_option linter.unusedVariables false
set_option linter.unusedSimpArgs false
namespace Go.Proofs.YtjincmagbbpooaaGreatDoor
open Go.RowKit

/-! ### the document's functions -/
set_option maxHeartbeats 8000000 in
set_option maxRecDepth 100000 in
theorem rSum_any (s : ByteArray) (hs : s.size ≤ 9223372036854775807) (w : World) : Calls Tryz.prog 91 #[.string s] w fun e w' => e = .returned (.int .u32 (sumS s : Int)) ∧ w = w' := by
  go_enter Tryz.func91, Tryz.ntmps91
  go_wp2
  go_loop [3, 4] (fun v3 v7 => ∃ (i n : Nat), v3 = .int .u32 n ∧ v7 = .int .i64 i ∧ i ≤ s.size ∧ n < 4294967296 ∧ Hid (crcL ((bys s).take i) 4294967295 = n)) (fun _ v7 => s.size - (intOf v7).toNat)
  case atStart => exact ⟨0, 4294967295, rfl, rfl, Nat.zero_le _, by omega, by exact rfl⟩
  case round =>
    obtain ⟨i, n, rfl, rfl, hi, hn, HC⟩ := hrel
    by_cases hlt : i < s.size
    · have b1 : (0 : Int) ≤ (i : Int) := by omega
      have b2 : (i : Int) < (s.size : Int) := by omega
      have b3 : s[i].toNat = bt s i := bt_get s i hlt
      have b4 : bt s i < 256 := bt_lt s i
      have b5 : (bt s i : Int) % 4294967296 = (bt s i : Int) := by omega
      obtain ⟨q, hq⟩ : ∃ q, q = n ^^^ bt s i := ⟨_, rfl⟩
      have hq2 : bits .xor .u32 (n : Int) (bt s i : Int) = (q : Int) := by rw [xor32 n _ hn (by omega), hq]
      have hqlt : q < 4294967296 := by rw [hq]; exact xor_lt32 hn (by omega)
      have HQ := Lib.hid hq
      clear hq
      go_wp2
      go_loop [3, 5] (fun v3 v16 => ∃ (j m : Nat), v3 = .int .u32 m ∧ v16 = .int .i64 j ∧ j ≤ 8 ∧ m < 4294967296 ∧ Hid (crcK (8 - j) m = crcB n (bt s i))) (fun _ v16 => 8 - (intOf v16).toNat)
      case atStart => exact ⟨0, q, rfl, rfl, by omega, hqlt, by rw [HQ.out]; exact rfl⟩
      case round =>
        obtain ⟨j, m, rfl, rfl, hj, hm, hk⟩ := hrel
        by_cases hlt2 : j < 8
        · have c1 : decide ((j : Int) < 8) = true := decide_eq_true (by omega)
          obtain ⟨m2, hm2⟩ : ∃ x, x = crc1 m := ⟨_, rfl⟩
          have hlt3 : m2 < 4294967296 := by rw [hm2]; exact crc1_lt hm
          have HK2 : Hid (crcK (8 - (j + 1)) m2 = crcB n (bt s i)) := by
            have := hk.out
            rw [show 8 - j = (8 - (j + 1)) + 1 by omega] at this
            rw [hm2]
            exact this
          have e1 : bits .and .u32 (m : Int) 1 = ((m % 2 : Nat) : Int) := by
            have := and32 m 1 hm (by omega)
            rw [Nat.and_one_is_mod] at this
            exact this
          unfold crc1 at hm2
          by_cases hp : m % 2 = 1
          · rw [hp] at e1
            rw [if_pos hp] at hm2
            have e2 : bits .and .u32 (m : Int) 1 = 1 := e1
            have e3 : bits .xor .u32 ((m : Int) / 2) 3988292384 = (m2 : Int) := by
              have := xor32 (m / 2) 3988292384 (by omega) (by omega)
              rw [← hm2] at this
              exact this
            clear hm2 hk e1 hp
            go_wp2
            go_round
            case rel => exact ⟨j + 1, m2, rfl, by go_num, by omega, hlt3, HK2⟩
            case measure => simp [intOf]; omega
          · rw [show m % 2 = 0 by omega] at e1
            rw [if_neg hp, Nat.xor_zero] at hm2
            have e2 : bits .and .u32 (m : Int) 1 = 0 := e1
            have e3 : (m : Int) / 2 = (m2 : Int) := by omega
            clear hm2 hk e1 hp
            go_wp2
            go_round
            case rel => exact ⟨j + 1, m2, rfl, by go_num, by omega, hlt3, HK2⟩
            case measure => simp [intOf]; omega
        · obtain rfl : j = 8 := by omega
          go_wp2
          go_round
          case rel =>
            refine ⟨i + 1, m, rfl, by go_num, by omega, hm, Lib.hid ?_⟩
            have hb := bt_bys s i hlt
            obtain ⟨hl, he⟩ := List.getElem?_eq_some_iff.1 hb
            rw [List.take_succ_eq_append_getElem hl, he, crcL_append, HC.out]
            exact hk.out.symm
          case measure => simp [intOf]; omega
    · obtain rfl : i = s.size := by omega
      have hfin : bits .xor .u32 IntKind.u32.max (n : Int) = (sumS s : Int) := by
        have := xor32 4294967295 n (by omega) hn
        rw [Nat.xor_comm] at this
        have h2 := HC.out
        rw [List.take_of_length_le (by rw [bys_length]; exact Nat.le_refl _)] at h2
        unfold sumS
        rw [h2]
        exact this
      go_wp2
      go_ret
      exact ⟨rfl, rfl⟩

set_option maxHeartbeats 8000000 in
set_option maxRecDepth 100000 in
theorem code4_any (c : Int) (w : World) (hg : ErrVar w) : Calls Tryz.prog 24 #[errV c] w fun e w' => e = .returned (.int .i64 c) ∧ Below w.heap.size w w' := by
  by_cases h0 : c = 0
  · subst h0
    rw [errV_zero]
    go_enter Tryz.func24, Tryz.ntmps24
    go_wp2
    go_ret
    exact ⟨rfl, (Below.refl _ _).alloc (Nat.le_refl _) _⟩
  · rw [errV_ne h0]
    have hg1 : ErrVar (w.alloc (.cells #[.int .i64 0] 34)) := ErrVar.below (w := w) hg ((Below.refl _ _).alloc (Nat.le_refl _) _)
    replace hg1 := Lib.hid hg1
    clear hg h0
    go_enter Tryz.func24, Tryz.ntmps24
    go_wp2_with ((go_at_call 57; refine (as_hit ⟨w.heap.size, 0, none⟩ c (.int .i64 0) _ hg1.out (new_cell w _ _ 0) (new_frozen w _ _ 0)).mono ?_; rintro e w2 ⟨rfl, w1, hb, rfl, ⟨old, ho⟩, hl⟩; have hcell : (w1.setCell ⟨w.heap.size, 0, none⟩ (.int .i64 c)).cell? ⟨w.heap.size, 0, none⟩ = some (.int .i64 c) := World.cell?_setCell_same' _ _ _ (by rw [ho]; rfl); have hb1 := Lib.hid hb; clear hb ho))
    go_ret
    refine ⟨rfl, ?_⟩
    exact (((Below.refl _ _).alloc (Nat.le_refl _) _).trans (hb1.out.mono (by simp))).setCell (Nat.le_refl _) _
end Go.Proofs.YtjincmagbbpooaaGreatDoor
end

section
set_option linter.unusedVariables false
set_option linter.unusedSimpArgs false
namespace Go.Proofs.YtjincmagbbpooaaGreatDoor
open Go.RowKit

theorem conv1 (x : Nat) (w : World) : (convert 79 9 (.slice (some ⟨w.heap.size, 0, none⟩) 1 1)).run Tryz.prog
    (w.alloc (.cells #[.int .u8 (x : Int)] 5)) = .ok (.string (strN [x])) (w.alloc (.cells #[.int .u8 (x : Int)] 5)) := by
  unfold strN
  refine run_convert_bytes_arg _ 79 5 Tryz.underlying79 Tryz.underlying5 w.heap.size 0 1 1 ([x].map fun (x : Nat) => (x : Int)) rfl (fun i hi => ?_) 9 Tryz.underlying9
  obtain rfl : i = 0 := by omega
  rw [Nat.zero_add, new_cell]
  simp
theorem strN_append (a b : List Nat) : strN (a ++ b) = strN a ++ strN b := by
  apply ByteArray.ext
  rw [ByteArray.data_append]
  apply Array.toList_inj.1
  rw [Array.toList_append]
  unfold strN
  rw [strOfNums_data, strOfNums_data, strOfNums_data]
  simp
attribute [local go_sem] max2_int max_two
set_option maxHeartbeats 4000000 in
set_option maxRecDepth 100000 in
theorem rNum_any (z : Int) (n : Nat) (hz : mxI 0 z = (n : Int)) (hn : n ≤ 9223372036854775807) (w : World) :
    Calls Tryz.prog 87 #[.int .i64 z] w fun e w' => e = .returned (.string (strN (numB n))) ∧ Below w.heap.size w w' := by
  go_enter Tryz.func87, Tryz.ntmps87
  go_wp2
  clear hz
  go_loopw [3, 4] (fun v3 v0 wr => ∃ (m : Nat) (l : List Nat), v0 = .int .i64 m ∧ v3 = .string (strN l) ∧ m ≤ n ∧ Hid (l ++ numB m = numB n) ∧ Hid (Left7 l.length m) ∧ Hid (Below w.heap.size w wr)) (fun _ v0 _ => (intOf v0).toNat)
  case atStart => exact ⟨n, [], rfl, rfl, Nat.le_refl _, rfl, Left7.start hn, Below.refl _ _⟩
  case round =>
    obtain ⟨m, l, rfl, rfl, hm, hl, hll, hb⟩ := hrel
    have hlm : l.length ≤ 9 := hll.out.1
    obtain ⟨b, hbq⟩ : ∃ b, b = strN l := ⟨_, rfl⟩
    have hbz : b.size = l.length := by rw [hbq, strN_size]
    have one : ∀ x, (strN [x]).size = 1 := fun x => by rw [strN_size]; rfl
    rw [← hbq]
    by_cases hlt : m < 128
    · have q1 : decide ((128 : Int) ≤ (m : Int)) = false := decide_eq_false (by omega)
      have q1' : decide (128 ≤ m) = false := decide_eq_false (by omega)
      have hmod : (m : Int) % 256 = (m : Int) := by omega
      have hcv := conv1 m
      have h1 := one m
      have hfin : b ++ strN [m] = strN (numB n) := by
        have e := hl.out
        rw [numB_small hlt] at e
        rw [← e, hbq, strN_append]
      generalize strN [m] = x at *
      have hsz : b.size + x.size ≤ 9223372036854775807 := by omega
      replace hfin := Lib.hid hfin
      replace hbq := Lib.hid hbq
      clear hlt one
      go_wp2
      go_ret
      refine ⟨by rw [hfin.out]; rfl, ?_⟩
      exact below_step hb.out ((Below.refl _ _).alloc (Nat.le_refl _) _)
    · have q1 : decide ((128 : Int) ≤ (m : Int)) = true := decide_eq_true (by omega)
      have q1' : decide (128 ≤ m) = true := decide_eq_true (by omega)
      obtain ⟨r, hr⟩ : ∃ r : Nat, 128 + (m : Int) % 128 = (r : Int) := ⟨m % 128 + 128, by omega⟩
      have hr' : r = m % 128 + 128 := by omega
      have hmod : (r : Int) % 256 = (r : Int) := by omega
      obtain ⟨q, hq⟩ : ∃ q : Nat, (m : Int) / 128 = (q : Int) := ⟨m / 128, by omega⟩
      have hq' : q = m / 128 := by omega
      have hqm : q < m := by omega
      have hcv := conv1 r
      have h1 := one r
      have hfin : b ++ strN [r] = strN (l ++ [r]) := by rw [hbq, strN_append]
      generalize strN [r] = x at *
      have hsz : b.size + x.size ≤ 9223372036854775807 := by omega
      have HR := Lib.hid hr'
      have HQ := Lib.hid hq'
      have HL := Lib.hid hlt
      replace hfin := Lib.hid hfin
      replace hbq := Lib.hid hbq
      clear hr' hq' hlt one
      go_wp2
      go_roundw
      case rel =>
        refine ⟨q, l ++ [r], rfl, by first | rfl | rw [hfin.out], by omega, Lib.hid ?_, Lib.hid ?_, below_step hb.out ((Below.refl _ _).alloc (Nat.le_refl _) _)⟩
        · have e := hl.out
          rw [numB_great HL.out, ← HQ.out, ← HR.out] at e
          rw [← e]
          simp
        · have := hll.out.step HL.out
          rw [← HQ.out] at this
          rw [List.length_append]
          exact this
      case measure => simp [intOf]; omega
theorem rText_any (s : ByteArray) (hs : s.size ≤ 1000000) (w : World) :
    Calls Tryz.prog 90 #[.string s] w fun e w' => e = .returned (.string (textS s)) ∧ Below w.heap.size w w' := by
  have hc := Lib.hid (rNum_any (s.size : Int) s.size (by unfold mxI; split <;> omega) (by omega) w)
  have hsz : (strN (numB s.size)).size + s.size ≤ 9223372036854775807 := by rw [strN_size]; have := numB_length s.size; omega
  go_enter Tryz.func90, Tryz.ntmps90
  go_wp2_with ((go_at_call 87; refine hc.out.mono ?_; rintro e w1 ⟨rfl, hb⟩; have hb1 := Lib.hid hb; clear hb))
  go_ret
  exact ⟨rfl, hb1.out⟩
end Go.Proofs.YtjincmagbbpooaaGreatDoor
end
