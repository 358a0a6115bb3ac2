import Derived.Test.YtfmgafpgajlddaaDoorQ4
set_option linter.unusedVariables false
set_option linter.unusedSimpArgs false
namespace Go.Proofs.YtfmgafpgajlddaaDoor
open Go.RowKit

/-! ### the sum is linear, and no state is lost -/
theorem xor_div2 (a b : Nat) : (a ^^^ b) / 2 = a / 2 ^^^ b / 2 := by
  have := @Nat.shiftRight_xor_distrib 1 a b
  simpa [Nat.shiftRight_succ] using this
theorem crc1_xor (a b : Nat) : crc1 (a ^^^ b) = crc1 a ^^^ crc1 b := by
  unfold crc1
  have h := @Nat.xor_mod_two_eq_one a b
  rw [xor_div2]
  have comm : ∀ p q r : Nat, (p ^^^ r) ^^^ (q ^^^ r) = p ^^^ q := fun p q r => by
    rw [Nat.xor_assoc, Nat.xor_comm q r, ← Nat.xor_assoc r r q, Nat.xor_self, Nat.zero_xor]
  have right : ∀ p q r : Nat, (p ^^^ q) ^^^ r = p ^^^ (q ^^^ r) := fun p q r => Nat.xor_assoc p q r
  have left : ∀ p q r : Nat, (p ^^^ q) ^^^ r = (p ^^^ r) ^^^ q := fun p q r => by rw [Nat.xor_assoc, Nat.xor_comm q r, ← Nat.xor_assoc]
  by_cases ha : a % 2 = 1 <;> by_cases hb : b % 2 = 1
  · rw [if_neg (by rw [h]; simp [ha, hb]), if_pos ha, if_pos hb, comm, Nat.xor_zero]
  · rw [if_pos (by rw [h]; simp [ha, hb]), if_pos ha, if_neg hb, Nat.xor_zero, left]
  · rw [if_pos (by rw [h]; simp [ha, hb]), if_neg ha, if_pos hb, Nat.xor_zero, right]
  · rw [if_neg (by rw [h]; simp [ha, hb]), if_neg ha, if_neg hb, Nat.xor_zero, Nat.xor_zero, Nat.xor_zero]
theorem crcK_xor : ∀ (k a b : Nat), crcK k (a ^^^ b) = crcK k a ^^^ crcK k b
  | 0, _, _ => rfl
  | k + 1, a, b => by show crcK k (crc1 (a ^^^ b)) = _; rw [crc1_xor]; exact crcK_xor k _ _
theorem xor_zero_eq {a b : Nat} (h : a ^^^ b = 0) : a = b := by
  have : a ^^^ (a ^^^ b) = b := by rw [← Nat.xor_assoc, Nat.xor_self, Nat.zero_xor]
  rw [h, Nat.xor_zero] at this
  exact this
theorem crc1_zero {m : Nat} (hm : m < 4294967296) (h : crc1 m = 0) : m = 0 := by
  unfold crc1 at h
  have h2 := xor_zero_eq h
  by_cases hb : m % 2 = 1
  · rw [if_pos hb] at h2; omega
  · rw [if_neg hb] at h2; omega
theorem crcK_zero : ∀ (k : Nat) {m : Nat}, m < 4294967296 → crcK k m = 0 → m = 0
  | 0, _, _, h => h
  | k + 1, _, hm, h => crc1_zero hm (crcK_zero k (crc1_lt hm) h)
theorem crcK_inj (k : Nat) {a b : Nat} (ha : a < 4294967296) (hb : b < 4294967296) (h : crcK k a = crcK k b) : a = b := by
  refine xor_zero_eq (crcK_zero k (xor_lt32 ha hb) ?_)
  rw [crcK_xor, h, Nat.xor_self]
theorem xor_left_inj {a b c : Nat} (h : a ^^^ b = a ^^^ c) : b = c := by
  have e : ∀ x, a ^^^ (a ^^^ x) = x := fun x => by rw [← Nat.xor_assoc, Nat.xor_self, Nat.zero_xor]
  rw [← e b, h, e c]
theorem xor_right_inj {a b c : Nat} (h : b ^^^ a = c ^^^ a) : b = c := by rw [Nat.xor_comm b, Nat.xor_comm c] at h; exact xor_left_inj h
theorem crcL_inj : ∀ (l : List Nat) {a b : Nat}, (∀ x ∈ l, x < 256) → a < 4294967296 → b < 4294967296 → crcL l a = crcL l b → a = b
  | [], _, _, _, _, _, h => h
  | x :: l, a, b, hl, ha, hb, h => by
    have hx := hl x (by simp)
    have h1 := crcL_inj l (fun y hy => hl y (by simp [hy])) (crcB_lt ha hx) (crcB_lt hb hx) h
    exact xor_right_inj (crcK_inj 8 (xor_lt32 ha (by omega)) (xor_lt32 hb (by omega)) h1)
theorem sumS_eq {s t : ByteArray} (h : sumS s = sumS t) : crcL (bys s) 4294967295 = crcL (bys t) 4294967295 := xor_right_inj h

/-- One byte changed changes the sum. -/
theorem sum_changed {p r : List Nat} {x y n : Nat} (hp : ∀ z ∈ p, z < 256) (hr : ∀ z ∈ r, z < 256) (hx : x < 256) (hy : y < 256) (hn : n < 4294967296)
    (h : crcL (p ++ x :: r) n = crcL (p ++ y :: r) n) : x = y := by
  rw [crcL_append, crcL_append] at h
  have hq := crcL_lt p hn hp
  generalize crcL p n = q at h hq
  have h1 := crcL_inj r hr (crcB_lt hq hx) (crcB_lt hq hy) h
  exact xor_left_inj (crcK_inj 8 (xor_lt32 hq (by omega)) (xor_lt32 hq (by omega)) h1)
theorem no_fixed : ∀ d, d < 256 → crcK 8 d = d → d = 0 := by decide +kernel
/-- Two bytes beside one another swapped, that are unlike, change the sum. -/
theorem sum_swapped {p r : List Nat} {x y n : Nat} (hp : ∀ z ∈ p, z < 256) (hr : ∀ z ∈ r, z < 256) (hx : x < 256) (hy : y < 256) (hn : n < 4294967296)
    (h : crcL (p ++ x :: y :: r) n = crcL (p ++ y :: x :: r) n) : x = y := by
  rw [crcL_append, crcL_append] at h
  have hq := crcL_lt p hn hp
  generalize crcL p n = q at h hq
  have h1 := crcL_inj r hr (crcB_lt (crcB_lt hq hx) hy) (crcB_lt (crcB_lt hq hy) hx) h
  have h2 := crcK_inj 8 (xor_lt32 (crcB_lt hq hx) (by omega)) (xor_lt32 (crcB_lt hq hy) (by omega)) h1
  unfold crcB at h2
  rw [crcK_xor, crcK_xor, Nat.xor_assoc, Nat.xor_assoc] at h2
  have h3 := xor_left_inj h2
  have h4 : crcK 8 (x ^^^ y) = x ^^^ y := by
    rw [crcK_xor]
    have e : crcK 8 x ^^^ (crcK 8 x ^^^ y) = crcK 8 x ^^^ (crcK 8 y ^^^ x) := by rw [h3]
    rw [← Nat.xor_assoc, Nat.xor_self, Nat.zero_xor] at e
    have e2 : (crcK 8 x ^^^ (crcK 8 y ^^^ x)) ^^^ x = crcK 8 x ^^^ crcK 8 y := by rw [Nat.xor_assoc, Nat.xor_assoc, Nat.xor_self, Nat.xor_zero]
    rw [← e2, ← e, Nat.xor_comm]
  have h5 : x ^^^ y < 256 := Nat.xor_lt_two_pow (n := 8) (by omega) (by omega)
  exact xor_zero_eq (no_fixed _ h5 h4)
end Go.Proofs.YtfmgafpgajlddaaDoor
