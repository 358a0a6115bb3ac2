import Derived.Test.YtjincmagbbpooaaGreatDoorPL
set_option linter.unusedVariables false
set_option linter.unusedSimpArgs false
namespace Go.Proofs.YtjincmagbbpooaaGreatDoor
open Go.RowKit

/-! ### frame.Sum -/
def crc1 (n : Nat) : Nat := (n / 2) ^^^ (if n % 2 = 1 then 3988292384 else 0)
def crcK : Nat → Nat → Nat
  | 0, n => n
  | k + 1, n => crcK k (crc1 n)
def crcB (n b : Nat) : Nat := crcK 8 (n ^^^ b)
def crcL : List Nat → Nat → Nat
  | [], n => n
  | b :: l, n => crcL l (crcB n b)
def sumS (s : ByteArray) : Nat := crcL (bys s) 4294967295 ^^^ 4294967295
theorem xor32 (a b : Nat) (ha : a < 4294967296) (hb : b < 4294967296) : bits .xor .u32 (a : Int) (b : Int) = ((a ^^^ b : Nat) : Int) := by
  have hx : a ^^^ b < 2 ^ 32 := Nat.xor_lt_two_pow (by omega) (by omega)
  have h1 : (BitVec.ofInt 32 (a : Int)).toNat = a := by
    rw [BitVec.ofInt_natCast, BitVec.toNat_ofNat]; exact Nat.mod_eq_of_lt (by omega)
  have h2 : (BitVec.ofInt 32 (b : Int)).toNat = b := by
    rw [BitVec.ofInt_natCast, BitVec.toNat_ofNat]; exact Nat.mod_eq_of_lt (by omega)
  show IntKind.u32.wrap ((BitVec.ofInt 32 (a : Int) ^^^ BitVec.ofInt 32 (b : Int)).toNat : Int) = _
  rw [BitVec.toNat_xor, h1, h2, IntKind.wrap_u32]
  omega
theorem and32 (a b : Nat) (ha : a < 4294967296) (hb : b < 4294967296) : bits .and .u32 (a : Int) (b : Int) = ((a &&& b : Nat) : Int) := by
  have hx : a &&& b < 2 ^ 32 := Nat.and_lt_two_pow _ (by omega)
  have h1 : (BitVec.ofInt 32 (a : Int)).toNat = a := by
    rw [BitVec.ofInt_natCast, BitVec.toNat_ofNat]; exact Nat.mod_eq_of_lt (by omega)
  have h2 : (BitVec.ofInt 32 (b : Int)).toNat = b := by
    rw [BitVec.ofInt_natCast, BitVec.toNat_ofNat]; exact Nat.mod_eq_of_lt (by omega)
  show IntKind.u32.wrap ((BitVec.ofInt 32 (a : Int) &&& BitVec.ofInt 32 (b : Int)).toNat : Int) = _
  rw [BitVec.toNat_and, h1, h2, IntKind.wrap_u32]
  omega
theorem crc1_lt {n : Nat} (h : n < 4294967296) : crc1 n < 4294967296 := by
  unfold crc1
  exact Nat.xor_lt_two_pow (n := 32) (by omega) (by split <;> omega)
theorem crcK_lt : ∀ (k : Nat) {n : Nat}, n < 4294967296 → crcK k n < 4294967296
  | 0, _, h => h
  | k + 1, _, h => crcK_lt k (crc1_lt h)
theorem xor_lt32 {a b : Nat} (ha : a < 4294967296) (hb : b < 4294967296) : a ^^^ b < 4294967296 := Nat.xor_lt_two_pow (n := 32) ha hb
theorem crcB_lt {n b : Nat} (h : n < 4294967296) (hb : b < 256) : crcB n b < 4294967296 := crcK_lt 8 (xor_lt32 h (by omega))

theorem step32 (m : Nat) (hm : m < 4294967296) : bits .xor .u32 ((m : Int) / 2) (bits .and .u32 3988292384 (-bits .and .u32 (m : Int) 1 % 4294967296)) = (crc1 m : Int) := by
  have e1 : bits .and .u32 (m : Int) 1 = ((m % 2 : Nat) : Int) := by
    have := and32 m 1 hm (by omega)
    rw [Nat.and_one_is_mod] at this
    exact this
  rw [e1]
  have e2 : ((m : Int) / 2) = ((m / 2 : Nat) : Int) := by omega
  rw [e2]
  unfold crc1
  by_cases h : m % 2 = 1
  · rw [h, if_pos rfl]
    have e3 : bits .and .u32 3988292384 (-((1 : Nat) : Int) % 4294967296) = ((3988292384 : Nat) : Int) := by
      have := and32 3988292384 4294967295 (by omega) (by omega)
      rw [show (3988292384 &&& 4294967295 : Nat) = 3988292384 by decide] at this
      exact this
    rw [e3]
    exact xor32 (m / 2) 3988292384 (by omega) (by omega)
  · have h0 : m % 2 = 0 := by omega
    rw [h0, if_neg (by omega)]
    have e3 : bits .and .u32 3988292384 (-((0 : Nat) : Int) % 4294967296) = ((0 : Nat) : Int) := by
      have := and32 3988292384 0 (by omega) (by omega)
      exact this
    rw [e3]
    exact xor32 (m / 2) 0 (by omega) (by omega)
/-- The sum of the first bytes. -/
theorem crcL_append : ∀ (a b : List Nat) (n : Nat), crcL (a ++ b) n = crcL b (crcL a n)
  | [], _, _ => rfl
  | x :: a, b, n => crcL_append a b (crcB n x)
theorem crcL_lt : ∀ (l : List Nat) {n : Nat}, n < 4294967296 → (∀ x ∈ l, x < 256) → crcL l n < 4294967296
  | [], _, h, _ => h
  | x :: l, n, h, hl => crcL_lt l (crcB_lt h (hl x (by simp))) (fun y hy => hl y (by simp [hy]))
theorem sumS_lt (s : ByteArray) : sumS s < 4294967296 := xor_lt32 (crcL_lt _ (by omega) (bys_lt s)) (by omega)

set_option maxHeartbeats 8000000 in
set_option maxRecDepth 100000 in
theorem Sum_any (s : ByteArray) (hs : s.size ≤ 9223372036854775807) (w : World) : Calls Tryz.prog 98 #[.string s] w fun e w' => e = .returned (.int .u32 (sumS s : Int)) ∧ w = w' := by
  go_enter Tryz.func98, Tryz.ntmps98
  go_wp2
  go_loop [3, 4, 7] (fun v3 v4 v7 => ∃ (i n : Nat), v3 = .int .u32 n ∧ v7 = .int .i64 i ∧ i ≤ s.size ∧ n < 4294967296 ∧ Hid (crcL ((bys s).take i) 4294967295 = n)) (fun _ _ v7 => s.size - (intOf v7).toNat)
  case atStart => exact ⟨0, 4294967295, rfl, rfl, Nat.zero_le _, by omega, by exact rfl⟩
  case round =>
    obtain ⟨i, n, rfl, rfl, hi, hn, HC⟩ := hrel
    by_cases hlt : i < s.size
    · have b1 : (0 : Int) ≤ (i : Int) := by omega
      have b2 : (i : Int) < (s.size : Int) := by omega
      have b3 : s[i].toNat = bt s i := bt_get s i hlt
      have b4 : bt s i < 256 := bt_lt s i
      have b5 : (bt s i : Int) % 4294967296 = (bt s i : Int) := by omega
      obtain ⟨q, hq⟩ : ∃ q, q = n ^^^ bt s i := ⟨_, rfl⟩
      have hq2 : bits .xor .u32 (n : Int) (bt s i : Int) = (q : Int) := by rw [xor32 n _ hn (by omega), hq]
      have hqlt : q < 4294967296 := by rw [hq]; exact xor_lt32 hn (by omega)
      have HQ := Lib.hid hq
      clear hq
      go_wp2
      go_loop [3, 16] (fun v3 v16 => ∃ (j m : Nat), v3 = .int .u32 m ∧ v16 = .int .i64 j ∧ j ≤ 8 ∧ m < 4294967296 ∧ Hid (crcK (8 - j) m = crcB n (bt s i))) (fun _ v16 => 8 - (intOf v16).toNat)
      case atStart => exact ⟨0, q, rfl, rfl, by omega, hqlt, by rw [HQ.out]; exact rfl⟩
      case round =>
        obtain ⟨j, m, rfl, rfl, hj, hm, hk⟩ := hrel
        by_cases hlt2 : j < 8
        · have c1 : decide ((j : Int) < 8) = true := decide_eq_true (by omega)
          obtain ⟨m2, hm2⟩ : ∃ x, x = crc1 m := ⟨_, rfl⟩
          have hst := step32 m hm
          have hlt3 : m2 < 4294967296 := by rw [hm2]; exact crc1_lt hm
          rw [← hm2] at hst
          have HK2 : Hid (crcK (8 - (j + 1)) m2 = crcB n (bt s i)) := by
            have := hk.out
            rw [show 8 - j = (8 - (j + 1)) + 1 by omega] at this
            rw [hm2]
            exact this
          clear hm2 hk
          go_wp2
          go_round
          case rel => exact ⟨j + 1, m2, rfl, by go_num, by omega, hlt3, HK2⟩
          case measure => simp [intOf]; omega
        · obtain rfl : j = 8 := by omega
          go_wp2
          go_round
          case rel =>
            refine ⟨i + 1, m, rfl, by go_num, by omega, hm, Lib.hid ?_⟩
            have hb := bt_bys s i hlt
            obtain ⟨hl, he⟩ := List.getElem?_eq_some_iff.1 hb
            rw [List.take_succ_eq_append_getElem hl, he, crcL_append, HC.out]
            exact hk.out.symm
          case measure => simp [intOf]; omega
    · obtain rfl : i = s.size := by omega
      have hfin : bits .xor .u32 IntKind.u32.max (n : Int) = (sumS s : Int) := by
        have := xor32 4294967295 n (by omega) hn
        rw [Nat.xor_comm] at this
        have h2 := HC.out
        rw [List.take_of_length_le (by rw [bys_length]; exact Nat.le_refl _)] at h2
        unfold sumS
        rw [h2]
        exact this
      go_wp2
      go_ret
      exact ⟨rfl, rfl⟩
end Go.Proofs.YtjincmagbbpooaaGreatDoor
