import Derived.Test.YtjincmagbbpooaaGreatDoorP3
set_option linter.unusedVariables false
set_option linter.unusedSimpArgs false
namespace Go.Proofs.YtjincmagbbpooaaGreatDoor
open Go.RowKit

/-- A text's bytes as numbers. -/
def bys (s : ByteArray) : List Nat := s.data.toList.map UInt8.toNat
theorem bys_length (s : ByteArray) : (bys s).length = s.size := by simp [bys]
theorem bys_append (a b : ByteArray) : bys (a ++ b) = bys a ++ bys b := by simp [bys, ByteArray.data_append]
theorem bys_extract (s : ByteArray) (a b : Nat) : bys (s.extract a b) = ((bys s).take b).drop a := by
  unfold bys
  rw [ByteArray.data_extract, Array.toList_extract, List.extract_eq_drop_take', List.map_drop, List.map_take]
theorem bys_inj {a b : ByteArray} (h : bys a = bys b) : a = b := by
  have h' : a.data.toList = b.data.toList := by
    have hinj : Function.Injective UInt8.toNat := fun x y e => UInt8.toNat.inj e
    exact List.map_inj_right (fun x y e => UInt8.toNat.inj e) |>.mp h
  exact ByteArray.ext (Array.toList_inj.mp h')
theorem bys_lt (s : ByteArray) : ∀ x ∈ bys s, x < 256 := by
  intro x hx
  obtain ⟨y, _, rfl⟩ := List.mem_map.1 hx
  exact y.toNat_lt
theorem bys_strN {l : List Nat} (h : ∀ x ∈ l, x < 256) : bys (strN l) = l := by
  unfold bys strN
  rw [strOfNums_data, List.map_map, List.map_map]
  conv => rhs; rw [← List.map_id l]
  refine List.map_congr_left fun x hx => ?_
  have := h x hx
  simp
  omega
theorem strN_bys (s : ByteArray) : strN (bys s) = s := bys_inj (bys_strN (bys_lt s))
theorem bt_bys (s : ByteArray) (i : Nat) (h : i < s.size) : (bys s)[i]? = some (bt s i) := by
  unfold bys bt
  have h' : i < s.data.toList.length := by simpa using h
  rw [List.getElem?_map, List.getElem?_eq_getElem h', List.getD_eq_getElem?_getD, List.getElem?_eq_getElem h']
  rfl
theorem bys_dropB (s : ByteArray) (k : Nat) : bys (dropB s k) = (bys s).drop k := by
  unfold dropB
  rw [bys_extract, List.take_of_length_le (by rw [bys_length]; exact Nat.le_refl _)]
theorem bys_takeB (s : ByteArray) (k : Nat) : bys (takeB s k) = (bys s).take k := by
  unfold takeB
  rw [bys_extract, List.drop_zero]

theorem numB_lt (n : Nat) : ∀ x ∈ numB n, x < 256 := by
  induction n using Nat.strongRecOn with
  | ind n ih =>
    by_cases h : n < 128
    · rw [numB_small h]; intro x hx; obtain rfl := List.mem_singleton.1 hx; omega
    · rw [numB_great h]
      intro x hx
      rcases List.mem_cons.1 hx with rfl | hx
      · omega
      · exact ih (n / 128) (by omega) x hx
theorem numB_ne (n : Nat) : numB n ≠ [] := by
  by_cases h : n < 128
  · rw [numB_small h]; simp
  · rw [numB_great h]; simp

/-- The number at the front of bytes. -/
def numL : List Nat → Nat → Nat → Nat → Nat → Nat × Nat × Int
  | _, 0, _, _, _ => (0, 0, 10)
  | [], _ + 1, _, _, _ => (0, 0, 11)
  | b :: r, f + 1, i, n, a =>
    if b = 0 ∧ 0 < i then (0, 0, 10)
    else if b < 128 then (n + b % 128 * a, i + 1, 0)
    else numL r f (i + 1) (n + b % 128 * a) (a * 128)

theorem numF_L (s : ByteArray) : ∀ (f i n a : Nat), i ≤ s.size → numF s f i n a = numL ((bys s).drop i) f i n a
  | 0, _, _, _, _ => by cases h : List.drop _ _ <;> rfl
  | f + 1, i, n, a, hi => by
    unfold numF
    by_cases h : s.size ≤ i
    · rw [if_pos h, List.drop_eq_nil_of_le (by rw [bys_length]; exact h)]
      rfl
    · rw [if_neg h]
      have hb := bt_bys s i (by omega)
      obtain ⟨hl, he⟩ := List.getElem?_eq_some_iff.1 hb
      rw [List.drop_eq_getElem_cons hl, he]
      show _ = (if bt s i = 0 ∧ 0 < i then _ else if bt s i < 128 then _ else _)
      split
      · rfl
      · split
        · rfl
        · exact numF_L s f (i + 1) _ _ (by omega)
theorem numS_L (s : ByteArray) : numS s = numL (bys s) 8 0 0 1 := by
  have := numF_L s 8 0 0 1 (Nat.zero_le _)
  rw [List.drop_zero] at this
  exact this

theorem numL_back : ∀ (f m i n a : Nat) (r : List Nat), m < 128 ^ (f + 1) → (i = 0 ∨ 0 < m) → numL (numB m ++ r) (f + 1) i n a = (n + m * a, i + (numB m).length, 0)
  | f, m, i, n, a, r, h, h0 => by
    by_cases hm : m < 128
    · rw [numB_small hm]
      show (if m = 0 ∧ 0 < i then _ else if m < 128 then _ else _) = _
      rw [if_neg (by omega), if_pos hm, Nat.mod_eq_of_lt hm]
      rfl
    · match f, h with
      | 0, h => exact absurd h hm
      | f + 1, h =>
        rw [numB_great hm]
        show (if m % 128 + 128 = 0 ∧ 0 < i then _ else if m % 128 + 128 < 128 then _ else numL (numB (m / 128) ++ r) (f + 1) (i + 1) (n + (m % 128 + 128) % 128 * a) (a * 128)) = _
        rw [if_neg (by omega), if_neg (by omega), numL_back f (m / 128) (i + 1) _ _ r (by rw [Nat.pow_succ] at h; omega) (by omega)]
        have e1 : (m % 128 + 128) % 128 = m % 128 := by omega
        have e2 : n + m % 128 * a + m / 128 * (a * 128) = n + m * a := by
          have : m * a = (m % 128 + 128 * (m / 128)) * a := by rw [Nat.mod_add_div]
          rw [this, Nat.add_mul, Nat.add_assoc]
          congr 2
          rw [Nat.mul_comm a 128, ← Nat.mul_assoc, Nat.mul_comm (m / 128) 128]
        rw [e1, e2, List.length_cons]
        congr 2
        omega

theorem numL_short : ∀ (f m j i n a : Nat), m < 128 ^ (f + 1) → j < (numB m).length → numL ((numB m).take j) (f + 1) i n a = (0, 0, 11)
  | f, m, 0, i, n, a, h, hj => rfl
  | f, m, j + 1, i, n, a, h, hj => by
    by_cases hm : m < 128
    · rw [numB_small hm] at hj
      simp at hj
    · match f, h with
      | 0, h => exact absurd h hm
      | f + 1, h =>
        rw [numB_great hm] at hj ⊢
        rw [List.take_succ_cons]
        show (if m % 128 + 128 = 0 ∧ 0 < i then _ else if m % 128 + 128 < 128 then _ else numL ((numB (m / 128)).take j) (f + 1) (i + 1) _ _) = _
        rw [if_neg (by omega), if_neg (by omega)]
        exact numL_short f (m / 128) j (i + 1) _ _ (by rw [Nat.pow_succ] at h; omega) (by simpa using hj)

theorem pow8 : (128 : Nat) ^ (7 + 1) = 72057594037927936 := by decide
theorem numS_back (m : Nat) (r : ByteArray) (h : m < 72057594037927936) : numS (strN (numB m) ++ r) = (m, (numB m).length, 0) := by
  rw [numS_L, bys_append, bys_strN (numB_lt m), numL_back 7 m 0 0 1 (bys r) (by rw [pow8]; exact h) (.inl rfl)]
  simp
theorem numS_short (m j : Nat) (h : m < 72057594037927936) (hj : j < (numB m).length) : numS (takeB (strN (numB m)) j) = (0, 0, 11) := by
  rw [numS_L, bys_takeB, bys_strN (numB_lt m)]
  exact numL_short 7 m j 0 0 1 (by rw [pow8]; exact h) hj

theorem dropB_append (a b : ByteArray) : dropB (a ++ b) a.size = b := by
  apply bys_inj
  rw [bys_dropB, bys_append, ← bys_length, List.drop_left]
theorem takeB_append (a b : ByteArray) : takeB (a ++ b) a.size = a := by
  apply bys_inj
  rw [bys_takeB, bys_append, ← bys_length, List.take_left]
theorem append_assocB (a b c : ByteArray) : a ++ b ++ c = a ++ (b ++ c) := by
  apply bys_inj
  simp [bys_append]

/-- A text's bytes are read as it, whatever is behind. -/
theorem textR_back (s more : ByteArray) (most : Int) (h : (s.size : Int) ≤ most) (hs : s.size < 72057594037927936) : textR (textS s ++ more) most = (s, more, 0) := by
  unfold textR textS
  rw [append_assocB, numS_back s.size (s ++ more) hs]
  have hd : dropB (strN (numB s.size) ++ (s ++ more)) (numB s.size).length = s ++ more := by
    rw [← strN_size (numB s.size)]; exact dropB_append _ _
  rw [if_neg (by simp)]
  simp only [hd]
  rw [if_neg (by omega), if_neg (by rw [ByteArray.size_append]; omega), takeB_append, dropB_append]
theorem textR_short (s : ByteArray) (most : Int) (j : Nat) (h : (s.size : Int) ≤ most) (hs : s.size < 72057594037927936) (hj : j < (textS s).size) : (textR (takeB (textS s) j) most).2.2 = 11 := by
  unfold textR
  by_cases h1 : j < (numB s.size).length
  · have e : takeB (textS s) j = takeB (strN (numB s.size)) j := by
      apply bys_inj
      rw [bys_takeB, bys_takeB]
      unfold textS
      rw [bys_append, List.take_append_of_le_length (by rw [bys_length, strN_size]; omega)]
    rw [e, numS_short s.size j hs h1]
    rfl
  · have e : takeB (textS s) j = strN (numB s.size) ++ takeB s (j - (numB s.size).length) := by
      apply bys_inj
      rw [bys_takeB, bys_append, bys_takeB]
      unfold textS
      rw [bys_append, List.take_append, List.take_of_length_le (by rw [bys_length, strN_size]; omega), bys_length, strN_size]
    rw [e, numS_back s.size _ hs]
    have hd : dropB (strN (numB s.size) ++ takeB s (j - (numB s.size).length)) (numB s.size).length = takeB s (j - (numB s.size).length) := by
      rw [← strN_size (numB s.size)]; exact dropB_append _ _
    rw [if_neg (by simp)]
    simp only [hd]
    rw [if_neg (by omega), if_pos]
    have h2 : (textS s).size = (numB s.size).length + s.size := by unfold textS; rw [ByteArray.size_append, strN_size]
    have h3 : (takeB s (j - (numB s.size).length)).size = j - (numB s.size).length := by
      unfold takeB; rw [ByteArray.size_extract]; omega
    omega
end Go.Proofs.YtjincmagbbpooaaGreatDoor
