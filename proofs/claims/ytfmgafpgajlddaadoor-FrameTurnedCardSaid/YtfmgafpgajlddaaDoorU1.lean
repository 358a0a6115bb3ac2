import Derived.Test.YtfmgafpgajlddaaDoorQ5
set_option linter.unusedVariables false
set_option linter.unusedSimpArgs false
namespace Go.Proofs.YtfmgafpgajlddaaDoor
open Go.RowKit

/-! ### bits turned within 32 beside one another change the sum -/
theorem xor_cancel (a b : Nat) : a ^^^ (a ^^^ b) = b := by rw [← Nat.xor_assoc, Nat.xor_self, Nat.zero_xor]
theorem crcK_add : ∀ (j k n : Nat), crcK (k + j) n = crcK j (crcK k n)
  | j, 0, n => by rw [Nat.zero_add]; rfl
  | j, k + 1, n => by rw [Nat.add_right_comm]; exact crcK_add j k (crc1 n)
theorem crc1_even (m : Nat) : crc1 (2 * m) = m := by
  unfold crc1
  rw [if_neg (by omega), Nat.xor_zero]
  omega
theorem crcK_even : ∀ (k m : Nat), crcK k (2 ^ k * m) = m
  | 0, m => by show 2 ^ 0 * m = m; omega
  | k + 1, m => by
    show crcK k (crc1 (2 ^ (k + 1) * m)) = m
    rw [Nat.pow_succ, Nat.mul_comm (2 ^ k) 2, Nat.mul_assoc, crc1_even]
    exact crcK_even k m
theorem xor_low (n : Nat) : n ^^^ n % 256 = 256 * (n / 256) := by
  have h1 : (n ^^^ n % 256) % 256 = 0 := by
    have := @Nat.xor_mod_two_pow n (n % 256) 8
    rw [show (2 : Nat) ^ 8 = 256 by rfl] at this
    rw [this, Nat.mod_mod, Nat.xor_self]
  have h2 : (n ^^^ n % 256) / 256 = n / 256 := by
    have := @Nat.xor_div_two_pow n (n % 256) 8
    rw [show (2 : Nat) ^ 8 = 256 by rfl] at this
    rw [this, Nat.div_eq_of_lt (show n % 256 < 256 by omega), Nat.xor_zero]
  have h3 := Nat.mod_add_div (n ^^^ n % 256) 256
  rw [h1, h2, Nat.zero_add] at h3
  exact h3.symm
theorem crcB_low (x n : Nat) : crcB (x ^^^ n) (n % 256) = crcK 8 x ^^^ n / 256 := by
  unfold crcB
  rw [Nat.xor_assoc, crcK_xor, xor_low]
  have := crcK_even 8 (n / 256)
  rw [show (2 : Nat) ^ 8 = 256 by rfl] at this
  rw [this]
/-- The sum, from nought, of a number's bytes. -/
theorem crc_mask (m : Nat) (hm : m < 4294967296) : crcL [m % 256, m / 256 % 256, m / 65536 % 256, m / 16777216 % 256] 0 = crcK 32 m := by
  have s1 : crcB 0 (m % 256) = crcK 8 m ^^^ m / 256 := by
    have h0 : (0 : Nat) = m ^^^ m := (Nat.xor_self m).symm
    conv => lhs; rw [h0]
    exact crcB_low m m
  have s2 : crcB (crcK 8 m ^^^ m / 256) (m / 256 % 256) = crcK 16 m ^^^ m / 65536 := by
    rw [crcB_low, ← crcK_add 8 8, Nat.div_div_eq_div_mul]
  have s3 : crcB (crcK 16 m ^^^ m / 65536) (m / 65536 % 256) = crcK 24 m ^^^ m / 16777216 := by
    rw [crcB_low, ← crcK_add 8 16, Nat.div_div_eq_div_mul]
  have s4 : crcB (crcK 24 m ^^^ m / 16777216) (m / 16777216 % 256) = crcK 32 m := by
    rw [crcB_low, ← crcK_add 8 24, Nat.div_div_eq_div_mul, Nat.div_eq_of_lt (by omega), Nat.xor_zero]
  show crcB (crcB (crcB (crcB 0 _) _) _) _ = _
  rw [s1, s2, s3, s4]
theorem crcB_xor (n k x y : Nat) : crcB (n ^^^ k) (x ^^^ y) = crcB n x ^^^ crcB k y := by
  unfold crcB
  rw [← crcK_xor]
  congr 1
  rw [Nat.xor_assoc, Nat.xor_assoc, ← Nat.xor_assoc k x y, Nat.xor_comm k x, Nat.xor_assoc x k y]
def xorL : List Nat → List Nat → List Nat
  | x :: l, y :: m => (x ^^^ y) :: xorL l m
  | l, _ => l
theorem crcL_xor : ∀ (l m : List Nat) (n k : Nat), l.length = m.length → crcL (xorL l m) (n ^^^ k) = crcL l n ^^^ crcL m k
  | [], [], _, _, _ => rfl
  | x :: l, y :: m, n, k, h => by
    show crcL (xorL l m) (crcB (n ^^^ k) (x ^^^ y)) = crcL l (crcB n x) ^^^ crcL m (crcB k y)
    rw [crcB_xor]
    exact crcL_xor l m _ _ (by simpa using h)
def maskL (m : Nat) : List Nat := [m % 256, m / 256 % 256, m / 65536 % 256, m / 16777216 % 256]
theorem sum_turned {p r q : List Nat} {m n : Nat} (hr : ∀ z ∈ r, z < 256) (hq : ∀ z ∈ q, z < 256) (hp : ∀ z ∈ p, z < 256) (hl : q.length = 4) (hm : m < 4294967296) (hn : n < 4294967296)
    (h : crcL (p ++ (xorL q (maskL m) ++ r)) n = crcL (p ++ (q ++ r)) n) : m = 0 := by
  rw [crcL_append, crcL_append, crcL_append, crcL_append] at h
  have hs := crcL_lt p hn hp
  generalize crcL p n = t at h hs
  have hx : ∀ z ∈ maskL m, z < 256 := by
    intro z hz
    simp only [maskL, List.mem_cons, List.not_mem_nil, or_false] at hz
    omega
  have e := crcL_xor q (maskL m) t 0 (by rw [hl]; rfl)
  rw [Nat.xor_zero] at e
  have h1 := crcL_inj r hr (by rw [e]; exact xor_lt32 (crcL_lt q hs hq) (crcL_lt _ (by omega) hx)) (crcL_lt q hs hq) h
  rw [e] at h1
  have h2 : crcL (maskL m) 0 = 0 := by
    have := xor_cancel (crcL q t) (crcL (maskL m) 0)
    rw [h1, Nat.xor_self] at this
    exact this.symm
  have h3 := crc_mask m hm
  unfold maskL at h2
  rw [h2] at h3
  exact crcK_zero 32 hm h3.symm

/-! ### a frame of which bits were turned is spoilt; one that is cut off lacks -/
theorem sumB_inj {a b : ByteArray} (h : sumB a = sumB b) : sumS a = sumS b := by
  unfold sumB at h
  have h1 := sumS_lt a
  have h2 := sumS_lt b
  have hb : ∀ n, n < 4294967296 → ∀ x ∈ sumL n, x < 256 := by
    intro n hn z hz
    simp only [sumL, List.mem_cons, List.not_mem_nil, or_false] at hz
    omega
  have h3 : sumL (sumS a) = sumL (sumS b) := by rw [← bys_strN (hb _ h1), h, bys_strN (hb _ h2)]
  generalize sumS a = x at *
  generalize sumS b = y at *
  simp only [sumL, List.cons.injEq, and_true] at h3
  omega
theorem openR_spoilt (p q : ByteArray) (seq : Int) (hp : p.size ≤ 2020) (h : sumB (textS p) ≠ sumB q) :
    openR (textS p ++ sumB q) seq = (ByteArray.empty, textS p ++ sumB q, 12) := by
  have hT := textR_back p (sumB q) 2020 (by omega) (by omega)
  have h1 : takeB (textS p ++ sumB q) ((textS p ++ sumB q).size - (sumB q).size) = textS p := by
    rw [ByteArray.size_append, Nat.add_sub_cancel]
    exact takeB_append _ _
  have hz := sumB_size q
  have h4 : takeB (sumB q) 4 = sumB q := by
    rw [← hz]; apply bys_inj; rw [bys_takeB, ← bys_length, List.take_length]
  unfold openR
  rw [hT]
  simp only
  rw [if_neg (by simp), if_neg (by omega), h1, h4, if_pos h]
theorem openR_cut (k : Nat) (s : ByteArray) (c : Nat) (seq : Int) (hk : k < 4294967296) (hs : s.size ≤ 1000) (hc : c < (wrapS k s).size) : openR (takeB (wrapS k s) c) seq = (ByteArray.empty, takeB (wrapS k s) c, 11) := by
  have hn := num_size k hk
  unfold wrapS at hc ⊢
  generalize hP : strN (numB k) ++ s = P at *
  have hPz : P.size ≤ 1010 := by rw [← hP, ByteArray.size_append]; omega
  have hz := sumB_size (textS P)
  rw [ByteArray.size_append, hz] at hc
  by_cases h1 : c < (textS P).size
  · have e : takeB (textS P ++ sumB (textS P)) c = takeB (textS P) c := by
      apply bys_inj
      rw [bys_takeB, bys_takeB, bys_append, List.take_append_of_le_length (by rw [bys_length]; omega)]
    rw [e]
    have h11 := textR_short P 2020 c (by omega) (by omega) h1
    unfold openR
    rw [h11, if_pos (by omega)]
  · have e : takeB (textS P ++ sumB (textS P)) c = textS P ++ takeB (sumB (textS P)) (c - (textS P).size) := by
      apply bys_inj
      rw [bys_takeB, bys_append, bys_append, bys_takeB, List.take_append, List.take_of_length_le (by rw [bys_length]; omega), bys_length]
    have hsz : (takeB (sumB (textS P)) (c - (textS P).size)).size = c - (textS P).size := by
      unfold takeB; rw [ByteArray.size_extract]; omega
    rw [e]
    have hT := textR_back P (takeB (sumB (textS P)) (c - (textS P).size)) 2020 (by omega) (by omega)
    unfold openR
    rw [hT]
    simp only
    rw [if_neg (by simp), if_pos (by omega)]
/-- Four bytes of what a frame holds, turned. -/
theorem openR_turned (k : Nat) (s : ByteArray) (j m : Nat) (hk : k < 65536) (hs : s.size ≤ 100) (hj : j + 4 ≤ s.size) (hm : m < 4294967296) (h0 : m ≠ 0) (seq : Int) (b : List Nat)
    (hb : b = (bys (wrapS k s)).take ((wrapS k s).size - 4 - s.size + j) ++ (xorL (((bys (wrapS k s)).drop ((wrapS k s).size - 4 - s.size + j)).take 4) (maskL m) ++ (bys (wrapS k s)).drop ((wrapS k s).size - 4 - s.size + j + 4))) :
    openR (strN b) seq = (ByteArray.empty, strN b, 12) := by
  have hk' : k < 4294967296 := by omega
  have hn := num_size k hk'
  have hz := sumB_size (textS (strN (numB k) ++ s))
  have hP : (strN (numB k) ++ s).size < 128 := by
    rw [ByteArray.size_append, strN_size]
    have := numB_len 2 k (by show k < 2097152; omega)
    omega
  obtain ⟨hd, hhd⟩ : ∃ hd, hd = bys (strN (numB (strN (numB k) ++ s).size)) ++ bys (strN (numB k)) := ⟨_, rfl⟩
  have hw : bys (wrapS k s) = hd ++ (bys s ++ bys (sumB (textS (strN (numB k) ++ s)))) := by
    unfold wrapS textS
    rw [hhd]
    simp only [bys_append, List.append_assoc]
  have hwz : (wrapS k s).size = hd.length + s.size + 4 := by
    rw [← bys_length, hw, List.length_append, List.length_append, bys_length, bys_length, hz]; omega
  have hoff : (wrapS k s).size - 4 - s.size + j = hd.length + j := by omega
  rw [hoff] at hb
  obtain ⟨s', hs'⟩ : ∃ s', s' = strN ((bys s).take j ++ (xorL (((bys s).drop j).take 4) (maskL m) ++ (bys s).drop (j + 4))) := ⟨_, rfl⟩
  have hxl : ∀ (q : List Nat), q.length = 4 → (xorL q (maskL m)).length = 4 ∧ ((∀ x ∈ q, x < 256) → ∀ x ∈ xorL q (maskL m), x < 256) := by
    intro q hq
    match q, hq with
    | [a, b, c, d], _ =>
      refine ⟨rfl, fun hlt x hx => ?_⟩
      simp only [xorL, maskL, List.mem_cons, List.not_mem_nil, or_false] at hx
      have h := fun y hy => hlt y hy
      simp only [List.mem_cons, List.not_mem_nil, or_false] at h
      rcases hx with rfl | rfl | rfl | rfl
      · exact Nat.xor_lt_two_pow (n := 8) (h _ (.inl rfl)) (by omega)
      · exact Nat.xor_lt_two_pow (n := 8) (h _ (.inr (.inl rfl))) (by omega)
      · exact Nat.xor_lt_two_pow (n := 8) (h _ (.inr (.inr (.inl rfl)))) (by omega)
      · exact Nat.xor_lt_two_pow (n := 8) (h _ (.inr (.inr (.inr rfl)))) (by omega)
  have hq4 : (((bys s).drop j).take 4).length = 4 := by rw [List.length_take, List.length_drop, bys_length]; omega
  have hql : ∀ x ∈ ((bys s).drop j).take 4, x < 256 := fun x hx => bys_lt s x (List.mem_of_mem_drop (List.mem_of_mem_take hx))
  obtain ⟨hx4, hxlt⟩ := hxl _ hq4
  have hxlt := hxlt hql
  have hlt' : ∀ x ∈ (bys s).take j ++ (xorL (((bys s).drop j).take 4) (maskL m) ++ (bys s).drop (j + 4)), x < 256 := by
    intro x hx
    rcases List.mem_append.1 hx with h | h
    · exact bys_lt s x (List.mem_of_mem_take h)
    · rcases List.mem_append.1 h with h | h
      · exact hxlt x h
      · exact bys_lt s x (List.mem_of_mem_drop h)
  have hbs' : bys s' = (bys s).take j ++ (xorL (((bys s).drop j).take 4) (maskL m) ++ (bys s).drop (j + 4)) := by rw [hs']; exact bys_strN hlt'
  have hsz' : s'.size = s.size := by
    rw [← bys_length, hbs', List.length_append, List.length_append, List.length_take, List.length_drop, hx4, bys_length]; omega
  have hsz2 : (strN (numB k) ++ s').size = (strN (numB k) ++ s).size := by rw [ByteArray.size_append, ByteArray.size_append, hsz']
  have htx : bys (textS (strN (numB k) ++ s')) = (hd ++ (bys s).take j) ++ (xorL (((bys s).drop j).take 4) (maskL m) ++ (bys s).drop (j + 4)) := by
    unfold textS
    rw [hsz2, bys_append, bys_append, hbs', hhd]
    simp only [List.append_assoc]
  have hb2 : b = bys (textS (strN (numB k) ++ s') ++ sumB (textS (strN (numB k) ++ s))) := by
    rw [hb, hw]
    have e1 : (hd ++ (bys s ++ bys (sumB (textS (strN (numB k) ++ s))))).take (hd.length + j) = hd ++ (bys s).take j := by
      rw [List.take_append, List.take_of_length_le (by omega), Nat.add_sub_cancel_left, List.take_append_of_le_length (by rw [bys_length]; omega)]
    have e2 : (hd ++ (bys s ++ bys (sumB (textS (strN (numB k) ++ s))))).drop (hd.length + j) = (bys s).drop j ++ bys (sumB (textS (strN (numB k) ++ s))) := by
      rw [List.drop_append, List.drop_eq_nil_of_le (by omega), List.nil_append, Nat.add_sub_cancel_left, List.drop_append_of_le_length (by rw [bys_length]; omega)]
    have e3 : (hd ++ (bys s ++ bys (sumB (textS (strN (numB k) ++ s))))).drop (hd.length + j + 4) = (bys s).drop (j + 4) ++ bys (sumB (textS (strN (numB k) ++ s))) := by
      rw [Nat.add_assoc, List.drop_append, List.drop_eq_nil_of_le (by omega), List.nil_append, Nat.add_sub_cancel_left, List.drop_append_of_le_length (by rw [bys_length]; omega)]
    rw [e1, e2, e3, List.take_append_of_le_length (by rw [List.length_drop, bys_length]; omega)]
    rw [bys_append (textS (strN (numB k) ++ s')), htx]
    simp only [List.append_assoc]
  rw [hb2, strN_bys]
  refine openR_spoilt _ _ _ (by rw [hsz2]; omega) fun hne => h0 ?_
  have h5 := sumS_eq (sumB_inj hne)
  have f2 : bys (textS (strN (numB k) ++ s)) = (hd ++ (bys s).take j) ++ (((bys s).drop j).take 4 ++ (bys s).drop (j + 4)) := by
    have : ((bys s).drop j).take 4 ++ (bys s).drop (j + 4) = (bys s).drop j := by rw [← List.drop_drop, List.take_append_drop]
    rw [this, List.append_assoc, List.take_append_drop]
    unfold textS
    rw [bys_append, bys_append, hhd]
    simp only [List.append_assoc]
  rw [htx, f2] at h5
  have hhdlt : ∀ z ∈ hd ++ (bys s).take j, z < 256 := by
    intro z hz
    rcases List.mem_append.1 hz with h | h
    · rw [hhd] at h
      rcases List.mem_append.1 h with h | h <;> exact bys_lt _ z h
    · exact bys_lt s z (List.mem_of_mem_take h)
  exact sum_turned (fun z hz => bys_lt s z (List.mem_of_mem_drop hz)) hql hhdlt hq4 hm (by omega) h5
end Go.Proofs.YtfmgafpgajlddaaDoor
