import Derived.Test.YtfmgafpgajlddaaDoorQ5
set_option linter.unusedVariables false
set_option linter.unusedSimpArgs false
namespace Go.Proofs.YtfmgafpgajlddaaDoor
open Go.RowKit

/-! ### the document's functions -/
set_option maxHeartbeats 8000000 in
set_option maxRecDepth 100000 in
theorem rSum_any (s : ByteArray) (hs : s.size ≤ 9223372036854775807) (w : World) : Calls Tryd.prog 21 #[.string s] w fun e w' => e = .returned (.int .u32 (sumS s : Int)) ∧ w = w' := by
  go_enter Tryd.func21, Tryd.ntmps21
  go_wp2
  go_loop [3, 4] (fun v3 v7 => ∃ (i n : Nat), v3 = .int .u32 n ∧ v7 = .int .i64 i ∧ i ≤ s.size ∧ n < 4294967296 ∧ Hid (crcL ((bys s).take i) 4294967295 = n)) (fun _ v7 => s.size - (intOf v7).toNat)
  case atStart => exact ⟨0, 4294967295, rfl, rfl, Nat.zero_le _, by omega, by exact rfl⟩
  case round =>
    obtain ⟨i, n, rfl, rfl, hi, hn, HC⟩ := hrel
    by_cases hlt : i < s.size
    · have b1 : (0 : Int) ≤ (i : Int) := by omega
      have b2 : (i : Int) < (s.size : Int) := by omega
      have b3 : s[i].toNat = bt s i := bt_get s i hlt
      have b4 : bt s i < 256 := bt_lt s i
      have b5 : (bt s i : Int) % 4294967296 = (bt s i : Int) := by omega
      obtain ⟨q, hq⟩ : ∃ q, q = n ^^^ bt s i := ⟨_, rfl⟩
      have hq2 : bits .xor .u32 (n : Int) (bt s i : Int) = (q : Int) := by rw [xor32 n _ hn (by omega), hq]
      have hqlt : q < 4294967296 := by rw [hq]; exact xor_lt32 hn (by omega)
      have HQ := Lib.hid hq
      clear hq
      go_wp2
      go_loop [3, 5] (fun v3 v16 => ∃ (j m : Nat), v3 = .int .u32 m ∧ v16 = .int .i64 j ∧ j ≤ 8 ∧ m < 4294967296 ∧ Hid (crcK (8 - j) m = crcB n (bt s i))) (fun _ v16 => 8 - (intOf v16).toNat)
      case atStart => exact ⟨0, q, rfl, rfl, by omega, hqlt, by rw [HQ.out]; exact rfl⟩
      case round =>
        obtain ⟨j, m, rfl, rfl, hj, hm, hk⟩ := hrel
        by_cases hlt2 : j < 8
        · have c1 : decide ((j : Int) < 8) = true := decide_eq_true (by omega)
          obtain ⟨m2, hm2⟩ : ∃ x, x = crc1 m := ⟨_, rfl⟩
          have hlt3 : m2 < 4294967296 := by rw [hm2]; exact crc1_lt hm
          have HK2 : Hid (crcK (8 - (j + 1)) m2 = crcB n (bt s i)) := by
            have := hk.out
            rw [show 8 - j = (8 - (j + 1)) + 1 by omega] at this
            rw [hm2]
            exact this
          have e1 : bits .and .u32 (m : Int) 1 = ((m % 2 : Nat) : Int) := by
            have := and32 m 1 hm (by omega)
            rw [Nat.and_one_is_mod] at this
            exact this
          unfold crc1 at hm2
          by_cases hp : m % 2 = 1
          · rw [hp] at e1
            rw [if_pos hp] at hm2
            have e2 : bits .and .u32 (m : Int) 1 = 1 := e1
            have e3 : bits .xor .u32 ((m : Int) / 2) 3988292384 = (m2 : Int) := by
              have := xor32 (m / 2) 3988292384 (by omega) (by omega)
              rw [← hm2] at this
              exact this
            clear hm2 hk e1 hp
            go_wp2
            go_round
            case rel => exact ⟨j + 1, m2, rfl, by go_num, by omega, hlt3, HK2⟩
            case measure => simp [intOf]; omega
          · rw [show m % 2 = 0 by omega] at e1
            rw [if_neg hp, Nat.xor_zero] at hm2
            have e2 : bits .and .u32 (m : Int) 1 = 0 := e1
            have e3 : (m : Int) / 2 = (m2 : Int) := by omega
            clear hm2 hk e1 hp
            go_wp2
            go_round
            case rel => exact ⟨j + 1, m2, rfl, by go_num, by omega, hlt3, HK2⟩
            case measure => simp [intOf]; omega
        · obtain rfl : j = 8 := by omega
          go_wp2
          go_round
          case rel =>
            refine ⟨i + 1, m, rfl, by go_num, by omega, hm, Lib.hid ?_⟩
            have hb := bt_bys s i hlt
            obtain ⟨hl, he⟩ := List.getElem?_eq_some_iff.1 hb
            rw [List.take_succ_eq_append_getElem hl, he, crcL_append, HC.out]
            exact hk.out.symm
          case measure => simp [intOf]; omega
    · obtain rfl : i = s.size := by omega
      have hfin : bits .xor .u32 IntKind.u32.max (n : Int) = (sumS s : Int) := by
        have := xor32 4294967295 n (by omega) hn
        rw [Nat.xor_comm] at this
        have h2 := HC.out
        rw [List.take_of_length_le (by rw [bys_length]; exact Nat.le_refl _)] at h2
        unfold sumS
        rw [h2]
        exact this
      go_wp2
      go_ret
      exact ⟨rfl, rfl⟩

set_option maxHeartbeats 8000000 in
set_option maxRecDepth 100000 in
theorem code3_any (c : Int) (w : World) (hg : ErrVar w) : Calls Tryd.prog 24 #[errV c] w fun e w' => e = .returned (.int .i64 c) ∧ Below w.heap.size w w' := by
  by_cases h0 : c = 0
  · subst h0
    rw [errV_zero]
    go_enter Tryd.func24, Tryd.ntmps24
    go_wp2
    go_ret
    exact ⟨rfl, (Below.refl _ _).alloc (Nat.le_refl _) _⟩
  · rw [errV_ne h0]
    have hg1 : ErrVar (w.alloc (.cells #[.int .i64 0] 34)) := ErrVar.below (w := w) hg ((Below.refl _ _).alloc (Nat.le_refl _) _)
    replace hg1 := Lib.hid hg1
    clear hg h0
    go_enter Tryd.func24, Tryd.ntmps24
    go_wp2_with ((go_at_call 43; refine (as_hit ⟨w.heap.size, 0, none⟩ c (.int .i64 0) _ hg1.out (new_cell w _ _ 0) (new_frozen w _ _ 0)).mono ?_; rintro e w2 ⟨rfl, w1, hb, rfl, ⟨old, ho⟩, hl⟩; have hcell : (w1.setCell ⟨w.heap.size, 0, none⟩ (.int .i64 c)).cell? ⟨w.heap.size, 0, none⟩ = some (.int .i64 c) := World.cell?_setCell_same' _ _ _ (by rw [ho]; rfl); have hb1 := Lib.hid hb; clear hb ho))
    go_ret
    refine ⟨rfl, ?_⟩
    exact (((Below.refl _ _).alloc (Nat.le_refl _) _).trans (hb1.out.mono (by simp))).setCell (Nat.le_refl _) _
end Go.Proofs.YtfmgafpgajlddaaDoor
