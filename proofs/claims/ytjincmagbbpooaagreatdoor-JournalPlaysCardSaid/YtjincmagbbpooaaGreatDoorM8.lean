import Derived.Test.YtjincmagbbpooaaGreatDoorM7

section
set_option linter.unusedVariables false
set_option linter.unusedSimpArgs false
namespace Go.Proofs.YtjincmagbbpooaaGreatDoor
open Go.RowKit

theorem errV_ne {c : Int} (h : c ≠ 0) : errV c = .iface 34 (.int .i64 c) := by unfold errV; rw [if_neg h]
theorem errV_zero : errV 0 = .nilIface := rfl

/-! ### pack.TakeText -/
def textR (s : ByteArray) (most : Int) : ByteArray × ByteArray × Int :=
  if (numS s).2.2 ≠ 0 then (ByteArray.empty, s, (numS s).2.2)
  else if most < ((numS s).1 : Int) then (ByteArray.empty, s, 13)
  else if (dropB s (numS s).2.1).size < (numS s).1 then (ByteArray.empty, s, 11)
  else (takeB (dropB s (numS s).2.1) (numS s).1, dropB (dropB s (numS s).2.1) (numS s).1, 0)

def TextPost (r : ByteArray × ByteArray × Int) (w : World) (e : Ending) (w' : World) : Prop := e = .returned (.tuple #[.string r.1, .string r.2.1, errV r.2.2]) ∧ Below w.heap.size w w'

theorem numF_val (s : ByteArray) : ∀ (f i n a : Nat), n < a → (numF s f i n a).1 < a * 128 ^ f
  | 0, _, _, _, h => by show 0 < _; simp; omega
  | f + 1, i, n, a, h => by
    have hp : 0 < a * 128 ^ (f + 1) := Nat.mul_pos (by omega) (Nat.pow_pos (by decide))
    unfold numF
    split
    · exact hp
    · split
      · exact hp
      · split
        · show n + bt s i % 128 * a < _
          have h1 : bt s i % 128 * a ≤ 127 * a := Nat.mul_le_mul_right _ (by omega)
          have h2 : a * 128 ≤ a * 128 ^ (f + 1) := Nat.mul_le_mul_left _ (by rw [Nat.pow_succ]; exact Nat.le_mul_of_pos_left _ (Nat.pow_pos (by decide)))
          omega
        · have h1 : bt s i % 128 * a ≤ 127 * a := Nat.mul_le_mul_right _ (by omega)
          have := numF_val s f (i + 1) (n + bt s i % 128 * a) (a * 128) (by omega)
          rw [Nat.pow_succ, Nat.mul_comm (128 ^ f) 128, ← Nat.mul_assoc]
          exact this
theorem numS_val (s : ByteArray) : (numS s).1 < 72057594037927936 := by
  have := numF_val s 8 0 0 1 (by omega)
  exact this

theorem extract_size (s : ByteArray) (a b : Nat) (h : b ≤ s.size) (hab : a ≤ b) : (s.extract a b).size = b - a := by
  rw [ByteArray.size_extract]; omega
theorem dropB_size (s : ByteArray) (k : Nat) : (dropB s k).size = s.size - k := by unfold dropB; rw [ByteArray.size_extract]; omega

set_option maxHeartbeats 8000000 in
set_option maxRecDepth 100000 in
theorem TakeText_any (s : ByteArray) (most : Int) (hs : s.size ≤ 9223372036854775807) (w : World) (hg : ErrVar w) : Calls Tryz.prog 75 #[.string s, .int .i64 most] w (TextPost (textR s most) w) := by
  have hc := Lib.hid (Take_any s hs w)
  have hle := numS_le s
  have hval := numS_val s
  unfold textR
  unfold TakePost at hc
  generalize hr : numS s = r at hc hle hval ⊢
  obtain ⟨n, k, c⟩ := r
  simp only at hle hval hc ⊢
  clear hr
  obtain ⟨rest, hrest⟩ : ∃ x, x = dropB s k := ⟨_, rfl⟩
  have hrs : rest.size ≤ 9223372036854775807 := by rw [hrest, dropB_size]; omega
  rw [← hrest] at hc ⊢
  clear hrest
  by_cases h0 : c = 0
  · subst h0
    rw [if_neg (by simp)]
    have e0 := errV_zero
    by_cases h1 : most < (n : Int)
    · rw [if_pos h1]
      have t1 : decide (most < (n : Int)) = true := decide_eq_true h1
      clear h1
      go_enter Tryz.func75, Tryz.ntmps75
      go_wp2_with (first
        | (go_at_call 77; refine hc.out.mono ?_; rintro e w1 ⟨rfl, m, rfl⟩; simp only [errV_zero])
        | (go_at_call 57; refine (as_nil _ _).mono ?_; rintro e w1 ⟨rfl, rfl⟩))
      go_ret3
      exact ⟨rfl, (below_drewN w m).alloc (Nat.le_refl _) _⟩
    · rw [if_neg h1]
      have t1 : decide (most < (n : Int)) = false := decide_eq_false h1
      clear h1
      by_cases h2 : rest.size < n
      · rw [if_pos h2]
        have t2 : decide ((rest.size : Int) < (n : Int)) = true := decide_eq_true (by omega)
        have t3 : decide (rest.size < n) = true := decide_eq_true h2
        clear h2
        go_enter Tryz.func75, Tryz.ntmps75
        go_wp2_with (first
          | (go_at_call 77; refine hc.out.mono ?_; rintro e w1 ⟨rfl, m, rfl⟩; simp only [errV_zero])
          | (go_at_call 57; refine (as_nil _ _).mono ?_; rintro e w1 ⟨rfl, rfl⟩))
        go_ret3
        exact ⟨rfl, (below_drewN w m).alloc (Nat.le_refl _) _⟩
      · rw [if_neg h2]
        have t2 : decide ((rest.size : Int) < (n : Int)) = false := decide_eq_false (by omega)
        have t3 : decide (rest.size < n) = false := decide_eq_false h2
        have q0 : (0 : Int) ≤ (n : Int) := by omega
        have q1 : (n : Int) ≤ (rest.size : Int) := by omega
        clear h2
        go_enter Tryz.func75, Tryz.ntmps75
        go_wp2_with (first
          | (go_at_call 77; refine hc.out.mono ?_; rintro e w1 ⟨rfl, m, rfl⟩; simp only [errV_zero])
          | (go_at_call 57; refine (as_nil _ _).mono ?_; rintro e w1 ⟨rfl, rfl⟩))
        go_quiet (fail)
        go_wp2
        go_ret3
        exact ⟨rfl, ((below_drewN w m).alloc (Nat.le_refl _) _).trans (below_drewN _ _)⟩
  · rw [if_pos h0]
    have he := errV_ne h0
    have hg1 : ∀ m, ErrVar ((w.drewN m).alloc (.cells #[.int .i64 0] 34)) := fun m => ErrVar.below (w := w) hg ((below_drewN w m).alloc (Nat.le_refl _) _)
    replace hg1 := Lib.hid hg1
    rw [he] at hc
    have HE := Lib.hid he
    clear he h0
    go_enter Tryz.func75, Tryz.ntmps75
    go_wp2_with ((go_at_call 77; refine hc.out.mono ?_; rintro e w1 ⟨rfl, m, rfl⟩; simp only))
    go_at_call 57
    refine (as_hit ⟨w.heap.size, 0, none⟩ c (.int .i64 0) _ (hg1.out m) (new_cell (w.drewN m) _ _ 0) (new_frozen (w.drewN m) _ _ 0)).mono ?_
    rintro e w2 ⟨rfl, w1, hb, rfl, ⟨old, ho⟩, hl⟩
    have hcell : (w1.setCell ⟨w.heap.size, 0, none⟩ (.int .i64 c)).cell? ⟨w.heap.size, 0, none⟩ = some (.int .i64 c) := World.cell?_setCell_same' _ _ _ (by rw [ho]; rfl)
    have hb1 := Lib.hid hb
    clear hb ho
    go_wp2
    go_quiet (fail)
    go_wp2
    go_ret3
    refine ⟨by simp only []; rw [HE.out]; rfl, ?_⟩
    exact ((((below_drewN w m).alloc (Nat.le_refl _) _).trans (hb1.out.mono (by simp))).setCell (Nat.le_refl _) _).trans (below_drewN _ _)
end Go.Proofs.YtjincmagbbpooaaGreatDoor
end

section
set_option linter.unusedVariables false
set_option linter.unusedSimpArgs false
namespace Go.Proofs.YtjincmagbbpooaaGreatDoor
open Go.RowKit

/-- A text's bytes as numbers. -/
def bys (s : ByteArray) : List Nat := s.data.toList.map UInt8.toNat
theorem bys_length (s : ByteArray) : (bys s).length = s.size := by simp [bys]
theorem bys_append (a b : ByteArray) : bys (a ++ b) = bys a ++ bys b := by simp [bys, ByteArray.data_append]
theorem bys_extract (s : ByteArray) (a b : Nat) : bys (s.extract a b) = ((bys s).take b).drop a := by
  unfold bys
  rw [ByteArray.data_extract, Array.toList_extract, List.extract_eq_drop_take', List.map_drop, List.map_take]
theorem bys_inj {a b : ByteArray} (h : bys a = bys b) : a = b := by
  have h' : a.data.toList = b.data.toList := by
    have hinj : Function.Injective UInt8.toNat := fun x y e => UInt8.toNat.inj e
    exact List.map_inj_right (fun x y e => UInt8.toNat.inj e) |>.mp h
  exact ByteArray.ext (Array.toList_inj.mp h')
theorem bys_lt (s : ByteArray) : ∀ x ∈ bys s, x < 256 := by
  intro x hx
  obtain ⟨y, _, rfl⟩ := List.mem_map.1 hx
  exact y.toNat_lt
theorem bys_strN {l : List Nat} (h : ∀ x ∈ l, x < 256) : bys (strN l) = l := by
  unfold bys strN
  rw [strOfNums_data, List.map_map, List.map_map]
  conv => rhs; rw [← List.map_id l]
  refine List.map_congr_left fun x hx => ?_
  have := h x hx
  simp
  omega
theorem strN_bys (s : ByteArray) : strN (bys s) = s := bys_inj (bys_strN (bys_lt s))
theorem bt_bys (s : ByteArray) (i : Nat) (h : i < s.size) : (bys s)[i]? = some (bt s i) := by
  unfold bys bt
  have h' : i < s.data.toList.length := by simpa using h
  rw [List.getElem?_map, List.getElem?_eq_getElem h', List.getD_eq_getElem?_getD, List.getElem?_eq_getElem h']
  rfl
theorem bys_dropB (s : ByteArray) (k : Nat) : bys (dropB s k) = (bys s).drop k := by
  unfold dropB
  rw [bys_extract, List.take_of_length_le (by rw [bys_length]; exact Nat.le_refl _)]
theorem bys_takeB (s : ByteArray) (k : Nat) : bys (takeB s k) = (bys s).take k := by
  unfold takeB
  rw [bys_extract, List.drop_zero]

theorem numB_lt (n : Nat) : ∀ x ∈ numB n, x < 256 := by
  induction n using Nat.strongRecOn with
  | ind n ih =>
    by_cases h : n < 128
    · rw [numB_small h]; intro x hx; obtain rfl := List.mem_singleton.1 hx; omega
    · rw [numB_great h]
      intro x hx
      rcases List.mem_cons.1 hx with rfl | hx
      · omega
      · exact ih (n / 128) (by omega) x hx
theorem numB_ne (n : Nat) : numB n ≠ [] := by
  by_cases h : n < 128
  · rw [numB_small h]; simp
  · rw [numB_great h]; simp

/-- The number at the front of bytes. -/
def numL : List Nat → Nat → Nat → Nat → Nat → Nat × Nat × Int
  | _, 0, _, _, _ => (0, 0, 10)
  | [], _ + 1, _, _, _ => (0, 0, 11)
  | b :: r, f + 1, i, n, a =>
    if b = 0 ∧ 0 < i then (0, 0, 10)
    else if b < 128 then (n + b % 128 * a, i + 1, 0)
    else numL r f (i + 1) (n + b % 128 * a) (a * 128)

theorem numF_L (s : ByteArray) : ∀ (f i n a : Nat), i ≤ s.size → numF s f i n a = numL ((bys s).drop i) f i n a
  | 0, _, _, _, _ => by cases h : List.drop _ _ <;> rfl
  | f + 1, i, n, a, hi => by
    unfold numF
    by_cases h : s.size ≤ i
    · rw [if_pos h, List.drop_eq_nil_of_le (by rw [bys_length]; exact h)]
      rfl
    · rw [if_neg h]
      have hb := bt_bys s i (by omega)
      obtain ⟨hl, he⟩ := List.getElem?_eq_some_iff.1 hb
      rw [List.drop_eq_getElem_cons hl, he]
      show _ = (if bt s i = 0 ∧ 0 < i then _ else if bt s i < 128 then _ else _)
      split
      · rfl
      · split
        · rfl
        · exact numF_L s f (i + 1) _ _ (by omega)
theorem numS_L (s : ByteArray) : numS s = numL (bys s) 8 0 0 1 := by
  have := numF_L s 8 0 0 1 (Nat.zero_le _)
  rw [List.drop_zero] at this
  exact this

theorem numL_back : ∀ (f m i n a : Nat) (r : List Nat), m < 128 ^ (f + 1) → (i = 0 ∨ 0 < m) → numL (numB m ++ r) (f + 1) i n a = (n + m * a, i + (numB m).length, 0)
  | f, m, i, n, a, r, h, h0 => by
    by_cases hm : m < 128
    · rw [numB_small hm]
      show (if m = 0 ∧ 0 < i then _ else if m < 128 then _ else _) = _
      rw [if_neg (by omega), if_pos hm, Nat.mod_eq_of_lt hm]
      rfl
    · match f, h with
      | 0, h => exact absurd h hm
      | f + 1, h =>
        rw [numB_great hm]
        show (if m % 128 + 128 = 0 ∧ 0 < i then _ else if m % 128 + 128 < 128 then _ else numL (numB (m / 128) ++ r) (f + 1) (i + 1) (n + (m % 128 + 128) % 128 * a) (a * 128)) = _
        rw [if_neg (by omega), if_neg (by omega), numL_back f (m / 128) (i + 1) _ _ r (by rw [Nat.pow_succ] at h; omega) (by omega)]
        have e1 : (m % 128 + 128) % 128 = m % 128 := by omega
        have e2 : n + m % 128 * a + m / 128 * (a * 128) = n + m * a := by
          have : m * a = (m % 128 + 128 * (m / 128)) * a := by rw [Nat.mod_add_div]
          rw [this, Nat.add_mul, Nat.add_assoc]
          congr 2
          rw [Nat.mul_comm a 128, ← Nat.mul_assoc, Nat.mul_comm (m / 128) 128]
        rw [e1, e2, List.length_cons]
        congr 2
        omega

theorem numL_short : ∀ (f m j i n a : Nat), m < 128 ^ (f + 1) → j < (numB m).length → numL ((numB m).take j) (f + 1) i n a = (0, 0, 11)
  | f, m, 0, i, n, a, h, hj => rfl
  | f, m, j + 1, i, n, a, h, hj => by
    by_cases hm : m < 128
    · rw [numB_small hm] at hj
      simp at hj
    · match f, h with
      | 0, h => exact absurd h hm
      | f + 1, h =>
        rw [numB_great hm] at hj ⊢
        rw [List.take_succ_cons]
        show (if m % 128 + 128 = 0 ∧ 0 < i then _ else if m % 128 + 128 < 128 then _ else numL ((numB (m / 128)).take j) (f + 1) (i + 1) _ _) = _
        rw [if_neg (by omega), if_neg (by omega)]
        exact numL_short f (m / 128) j (i + 1) _ _ (by rw [Nat.pow_succ] at h; omega) (by simpa using hj)

theorem pow8 : (128 : Nat) ^ (7 + 1) = 72057594037927936 := by decide
theorem numS_back (m : Nat) (r : ByteArray) (h : m < 72057594037927936) : numS (strN (numB m) ++ r) = (m, (numB m).length, 0) := by
  rw [numS_L, bys_append, bys_strN (numB_lt m), numL_back 7 m 0 0 1 (bys r) (by rw [pow8]; exact h) (.inl rfl)]
  simp
theorem numS_short (m j : Nat) (h : m < 72057594037927936) (hj : j < (numB m).length) : numS (takeB (strN (numB m)) j) = (0, 0, 11) := by
  rw [numS_L, bys_takeB, bys_strN (numB_lt m)]
  exact numL_short 7 m j 0 0 1 (by rw [pow8]; exact h) hj

theorem dropB_append (a b : ByteArray) : dropB (a ++ b) a.size = b := by
  apply bys_inj
  rw [bys_dropB, bys_append, ← bys_length, List.drop_left]
theorem takeB_append (a b : ByteArray) : takeB (a ++ b) a.size = a := by
  apply bys_inj
  rw [bys_takeB, bys_append, ← bys_length, List.take_left]
theorem append_assocB (a b c : ByteArray) : a ++ b ++ c = a ++ (b ++ c) := by
  apply bys_inj
  simp [bys_append]

/-- A text's bytes are read as it, whatever is behind. -/
theorem textR_back (s more : ByteArray) (most : Int) (h : (s.size : Int) ≤ most) (hs : s.size < 72057594037927936) : textR (textS s ++ more) most = (s, more, 0) := by
  unfold textR textS
  rw [append_assocB, numS_back s.size (s ++ more) hs]
  have hd : dropB (strN (numB s.size) ++ (s ++ more)) (numB s.size).length = s ++ more := by
    rw [← strN_size (numB s.size)]; exact dropB_append _ _
  rw [if_neg (by simp)]
  simp only [hd]
  rw [if_neg (by omega), if_neg (by rw [ByteArray.size_append]; omega), takeB_append, dropB_append]
theorem textR_short (s : ByteArray) (most : Int) (j : Nat) (h : (s.size : Int) ≤ most) (hs : s.size < 72057594037927936) (hj : j < (textS s).size) : (textR (takeB (textS s) j) most).2.2 = 11 := by
  unfold textR
  by_cases h1 : j < (numB s.size).length
  · have e : takeB (textS s) j = takeB (strN (numB s.size)) j := by
      apply bys_inj
      rw [bys_takeB, bys_takeB]
      unfold textS
      rw [bys_append, List.take_append_of_le_length (by rw [bys_length, strN_size]; omega)]
    rw [e, numS_short s.size j hs h1]
    rfl
  · have e : takeB (textS s) j = strN (numB s.size) ++ takeB s (j - (numB s.size).length) := by
      apply bys_inj
      rw [bys_takeB, bys_append, bys_takeB]
      unfold textS
      rw [bys_append, List.take_append, List.take_of_length_le (by rw [bys_length, strN_size]; omega), bys_length, strN_size]
    rw [e, numS_back s.size _ hs]
    have hd : dropB (strN (numB s.size) ++ takeB s (j - (numB s.size).length)) (numB s.size).length = takeB s (j - (numB s.size).length) := by
      rw [← strN_size (numB s.size)]; exact dropB_append _ _
    rw [if_neg (by simp)]
    simp only [hd]
    rw [if_neg (by omega), if_pos]
    have h2 : (textS s).size = (numB s.size).length + s.size := by unfold textS; rw [ByteArray.size_append, strN_size]
    have h3 : (takeB s (j - (numB s.size).length)).size = j - (numB s.size).length := by
      unfold takeB; rw [ByteArray.size_extract]; omega
    omega
end Go.Proofs.YtjincmagbbpooaaGreatDoor
end

section
set_option linter.unusedVariables false
set_option linter.unusedSimpArgs false
namespace Go.Proofs.YtjincmagbbpooaaGreatDoor
open Go.RowKit


/-! ### the contracts at given answers -/
theorem Take_is (s : ByteArray) (z : Int) (n : Nat) (r : ByteArray) (c : Int) (er : Value) (hz : (n : Int) = z) (he : errV c = er) (hs : s.size ≤ 9223372036854775807) (h : numS s = (n, s.size - r.size, c) ∧ dropB s (s.size - r.size) = r) (w : World) :
    Calls Tryz.prog 77 #[.string s] w fun e w' => e = .returned (.tuple #[.int .i64 z, .string r, er]) ∧ Below w.heap.size w w' := by
  refine (Take_any s hs w).mono ?_
  rintro e w' ⟨rfl, m, rfl⟩
  rw [h.1, ← hz, ← he]
  rw [show dropB s (n, s.size - r.size, c).2.1 = r from h.2]
  exact ⟨rfl, below_drewN w m⟩
theorem TakeText_is (s : ByteArray) (most : Int) (a b : ByteArray) (c : Int) (er : Value) (he : errV c = er) (hs : s.size ≤ 9223372036854775807) (h : textR s most = (a, b, c)) (w : World) (hg : ErrVar w) :
    Calls Tryz.prog 75 #[.string s, .int .i64 most] w fun e w' => e = .returned (.tuple #[.string a, .string b, er]) ∧ Below w.heap.size w w' := by
  have := TakeText_any s most hs w hg
  rw [h] at this
  rw [← he]
  exact this
theorem strN_128 : strN (numB 128) = ⟨#[128, 1]⟩ := by
  rw [numB_great (by decide), numB_small (by decide)]
  rfl
theorem take_num (m : Nat) (more : ByteArray) (h : m < 72057594037927936) : numS (strN (numB m) ++ more) = (m, (strN (numB m) ++ more).size - more.size, 0) ∧ dropB (strN (numB m) ++ more) ((strN (numB m) ++ more).size - more.size) = more := by
  have e : (strN (numB m) ++ more).size - more.size = (strN (numB m)).size := by rw [ByteArray.size_append]; omega
  rw [e, numS_back m more h, strN_size]
  exact ⟨rfl, by rw [← strN_size (numB m)]; exact dropB_append _ _⟩

theorem is_same (c : Int) (hc : c ≠ 0) (w : World) : Calls Tryz.prog 12 #[.iface 34 (.int .i64 c), .iface 34 (.int .i64 c)] w fun e w' => e = .returned (.bool true) ∧ w = w' := is_yes c w



theorem dropB_zero (s : ByteArray) : dropB s 0 = s := by apply bys_inj; rw [bys_dropB, List.drop_zero]
theorem short_num (m j : Nat) (h : m < 72057594037927936) (hj : j < (strN (numB m)).size) :
    numS (takeB (strN (numB m)) j) = (0, (takeB (strN (numB m)) j).size - (takeB (strN (numB m)) j).size, 11) ∧ dropB (takeB (strN (numB m)) j) ((takeB (strN (numB m)) j).size - (takeB (strN (numB m)) j).size) = takeB (strN (numB m)) j := by
  rw [Nat.sub_self, dropB_zero]
  rw [strN_size] at hj
  exact ⟨numS_short m j h hj, rfl⟩
theorem takeB_size (s : ByteArray) (j : Nat) (h : j ≤ s.size) : (takeB s j).size = j := by unfold takeB; rw [ByteArray.size_extract]; omega
theorem numB_len : ∀ (k m : Nat), m < 128 ^ (k + 1) → (numB m).length ≤ k + 1
  | 0, m, h => by rw [numB_small (by simpa using h)]; simp
  | k + 1, m, h => by
    by_cases h1 : m < 128
    · rw [numB_small h1]; simp
    · rw [numB_great h1]
      have := numB_len k (m / 128) (by rw [Nat.pow_succ] at h; omega)
      simp; omega
theorem beq_list (l : List UInt8) : (l == l) = true := beq_self_eq_true l



theorem list_inj {a b : ByteArray} (h : a.toList = b.toList) : a = b := by
  rw [ByteArray.toList_eq, ByteArray.toList_eq] at h
  exact ByteArray.ext (Array.toList_inj.mp h)
theorem beq_list_false {a b : ByteArray} (h : ¬ a = b) : (a.toList == b.toList) = false := by
  rw [beq_eq_false_iff_ne]; exact fun e => h (list_inj e)
theorem numB_mono : ∀ (n m : Nat), m ≤ n → (numB m).length ≤ (numB n).length := by
  intro n
  induction n using Nat.strongRecOn with
  | ind n ih =>
    intro m hm
    by_cases h : m < 128
    · rw [numB_small h]
      exact List.length_pos_iff.2 (numB_ne n)
    · rw [numB_great h, numB_great (n := n) (by omega)]
      have := ih (n / 128) (by omega) (m / 128) (by omega)
      simp; exact this
theorem numB_inj {n m : Nat} (hn : n < 72057594037927936) (hm : m < 72057594037927936) (h : strN (numB n) = strN (numB m)) : n = m := by
  have h1 := numS_back n ByteArray.empty hn
  have h2 := numS_back m ByteArray.empty hm
  rw [h, h2] at h1
  exact (Prod.mk.inj h1).1.symm
theorem numB_lengthS {n : Nat} (h : ¬ n < 128) : (numB n).length = (numB (n / 128)).length + 1 := by rw [numB_great h]; rfl
theorem numB_length1 {n : Nat} (h : n < 128) : (numB n).length = 1 := by rw [numB_small h]; rfl



/-- A slice's places: of any kind of thing. -/
def SlOf {α : Type} (mk : α → Value) (W : World) (a : Option Addr) (l : List α) : Prop := ∀ j x, l[j]? = some x → ∃ b off, a = some ⟨b, off, none⟩ ∧ W.cell? ⟨b, off + j, none⟩ = some (mk x)
theorem SlOf.below {α : Type} {mk : α → Value} {W W' : World} {a : Option Addr} {l : List α} (h : SlOf mk W a l) (hb : Below W.heap.size W W') : SlOf mk W' a l := by
  intro j x hj
  obtain ⟨b, off, e, hc⟩ := h j x hj
  exact ⟨b, off, e, cell_keep hb hc⟩
def mkS : ByteArray → Value := .string
def mkU : Nat → Value := fun n => .int .u32 (n : Int)

/-! ### bytes one behind the other -/
def pieces (ns : List Nat) (ss : List ByteArray) : List ByteArray := (List.range ns.length).map fun i => strN (numB (ns.getD i 0)) ++ (if i < ss.length then textS (ss.getD i ByteArray.empty) else ByteArray.empty)
def flatB : List ByteArray → ByteArray
  | [] => ByteArray.empty
  | x :: r => x ++ flatB r
theorem append_empty (a : ByteArray) : a ++ ByteArray.empty = a := by apply bys_inj; rw [bys_append]; show bys a ++ [] = _; simp
theorem empty_append (a : ByteArray) : ByteArray.empty ++ a = a := by apply bys_inj; rw [bys_append]; show [] ++ bys a = _; simp
theorem flatB_append (l r : List ByteArray) : flatB (l ++ r) = flatB l ++ flatB r := by
  induction l with
  | nil => exact (empty_append _).symm
  | cons x l ih => show x ++ flatB (l ++ r) = x ++ flatB l ++ flatB r; rw [ih, append_assocB]
theorem pieces_length (ns ss) : (pieces ns ss).length = ns.length := by simp [pieces]
theorem pieces_get (ns : List Nat) (ss : List ByteArray) (i : Nat) (h : i < ns.length) : (pieces ns ss)[i]? = some (strN (numB (ns.getD i 0)) ++ (if i < ss.length then textS (ss.getD i ByteArray.empty) else ByteArray.empty)) := by
  unfold pieces
  rw [List.getElem?_map, List.getElem?_range h]
  rfl
theorem up_succ (l : List ByteArray) (i : Nat) (p : ByteArray) (h : l[i]? = some p) : flatB (l.take (i + 1)) = flatB (l.take i) ++ p := by
  obtain ⟨hi, he⟩ := List.getElem?_eq_some_iff.1 h
  rw [List.take_succ_eq_append_getElem hi, flatB_append, he]
  show _ ++ (p ++ ByteArray.empty) = _
  rw [append_empty]
theorem down_succ (l : List ByteArray) (i : Nat) (p : ByteArray) (h : l[i]? = some p) : flatB (l.drop i) = p ++ flatB (l.drop (i + 1)) := by
  obtain ⟨hi, he⟩ := List.getElem?_eq_some_iff.1 h
  rw [List.drop_eq_getElem_cons hi, he]
  rfl
theorem flatB_size (l : List ByteArray) (k : Nat) (h : ∀ p ∈ l, p.size ≤ k) : (flatB l).size ≤ l.length * k := by
  induction l with
  | nil => simp [flatB]
  | cons x l ih =>
    have h1 := h x (by simp)
    have h2 := ih (fun p hp => h p (by simp [hp]))
    show (x ++ flatB l).size ≤ _
    rw [ByteArray.size_append, List.length_cons, Nat.succ_mul]
    omega
theorem textS_size (s : ByteArray) (h : s.size ≤ 300) : (textS s).size ≤ 310 := by
  unfold textS; rw [ByteArray.size_append, strN_size]; have := numB_len 7 s.size (by rw [pow8]; omega); omega
theorem num_size (n : Nat) (h : n < 4294967296) : (strN (numB n)).size ≤ 8 := by rw [strN_size]; exact numB_len 7 n (by rw [pow8]; omega)

/-- The first of these texts are not long. -/
def Few (ss : List ByteArray) (k : Nat) : Prop := ∀ j s, j < k → ss[j]? = some s → s.size ≤ 60
theorem Few.step {ss : List ByteArray} {k : Nat} (h : Few ss k) {s : ByteArray} (hs : ss[k]? = some s) (hz : s.size ≤ 60) : Few ss (k + 1) := by
  intro j t hj ht
  by_cases e : j = k
  · subst e; rw [hs] at ht; cases ht; exact hz
  · exact h j t (by omega) ht
theorem Few.past {ss : List ByteArray} {k : Nat} (h : Few ss k) (hk : ss.length ≤ k) : Few ss (k + 1) := by
  intro j t hj ht
  have := (List.getElem?_eq_some_iff.1 ht).1
  exact h j t (by omega) ht

end Go.Proofs.YtjincmagbbpooaaGreatDoor
end

section
set_option linter.unusedVariables false
set_option linter.unusedSimpArgs false
namespace Go.Proofs.YtjincmagbbpooaaGreatDoor
open Go.RowKit

/-! ### frame.Sum -/
def crc1 (n : Nat) : Nat := (n / 2) ^^^ (if n % 2 = 1 then 3988292384 else 0)
def crcK : Nat → Nat → Nat
  | 0, n => n
  | k + 1, n => crcK k (crc1 n)
def crcB (n b : Nat) : Nat := crcK 8 (n ^^^ b)
def crcL : List Nat → Nat → Nat
  | [], n => n
  | b :: l, n => crcL l (crcB n b)
def sumS (s : ByteArray) : Nat := crcL (bys s) 4294967295 ^^^ 4294967295
theorem xor32 (a b : Nat) (ha : a < 4294967296) (hb : b < 4294967296) : bits .xor .u32 (a : Int) (b : Int) = ((a ^^^ b : Nat) : Int) := by
  have hx : a ^^^ b < 2 ^ 32 := Nat.xor_lt_two_pow (by omega) (by omega)
  have h1 : (BitVec.ofInt 32 (a : Int)).toNat = a := by
    rw [BitVec.ofInt_natCast, BitVec.toNat_ofNat]; exact Nat.mod_eq_of_lt (by omega)
  have h2 : (BitVec.ofInt 32 (b : Int)).toNat = b := by
    rw [BitVec.ofInt_natCast, BitVec.toNat_ofNat]; exact Nat.mod_eq_of_lt (by omega)
  show IntKind.u32.wrap ((BitVec.ofInt 32 (a : Int) ^^^ BitVec.ofInt 32 (b : Int)).toNat : Int) = _
  rw [BitVec.toNat_xor, h1, h2, IntKind.wrap_u32]
  omega
theorem and32 (a b : Nat) (ha : a < 4294967296) (hb : b < 4294967296) : bits .and .u32 (a : Int) (b : Int) = ((a &&& b : Nat) : Int) := by
  have hx : a &&& b < 2 ^ 32 := Nat.and_lt_two_pow _ (by omega)
  have h1 : (BitVec.ofInt 32 (a : Int)).toNat = a := by
    rw [BitVec.ofInt_natCast, BitVec.toNat_ofNat]; exact Nat.mod_eq_of_lt (by omega)
  have h2 : (BitVec.ofInt 32 (b : Int)).toNat = b := by
    rw [BitVec.ofInt_natCast, BitVec.toNat_ofNat]; exact Nat.mod_eq_of_lt (by omega)
  show IntKind.u32.wrap ((BitVec.ofInt 32 (a : Int) &&& BitVec.ofInt 32 (b : Int)).toNat : Int) = _
  rw [BitVec.toNat_and, h1, h2, IntKind.wrap_u32]
  omega
theorem crc1_lt {n : Nat} (h : n < 4294967296) : crc1 n < 4294967296 := by
  unfold crc1
  exact Nat.xor_lt_two_pow (n := 32) (by omega) (by split <;> omega)
theorem crcK_lt : ∀ (k : Nat) {n : Nat}, n < 4294967296 → crcK k n < 4294967296
  | 0, _, h => h
  | k + 1, _, h => crcK_lt k (crc1_lt h)
theorem xor_lt32 {a b : Nat} (ha : a < 4294967296) (hb : b < 4294967296) : a ^^^ b < 4294967296 := Nat.xor_lt_two_pow (n := 32) ha hb
theorem crcB_lt {n b : Nat} (h : n < 4294967296) (hb : b < 256) : crcB n b < 4294967296 := crcK_lt 8 (xor_lt32 h (by omega))

theorem step32 (m : Nat) (hm : m < 4294967296) : bits .xor .u32 ((m : Int) / 2) (bits .and .u32 3988292384 (-bits .and .u32 (m : Int) 1 % 4294967296)) = (crc1 m : Int) := by
  have e1 : bits .and .u32 (m : Int) 1 = ((m % 2 : Nat) : Int) := by
    have := and32 m 1 hm (by omega)
    rw [Nat.and_one_is_mod] at this
    exact this
  rw [e1]
  have e2 : ((m : Int) / 2) = ((m / 2 : Nat) : Int) := by omega
  rw [e2]
  unfold crc1
  by_cases h : m % 2 = 1
  · rw [h, if_pos rfl]
    have e3 : bits .and .u32 3988292384 (-((1 : Nat) : Int) % 4294967296) = ((3988292384 : Nat) : Int) := by
      have := and32 3988292384 4294967295 (by omega) (by omega)
      rw [show (3988292384 &&& 4294967295 : Nat) = 3988292384 by decide] at this
      exact this
    rw [e3]
    exact xor32 (m / 2) 3988292384 (by omega) (by omega)
  · have h0 : m % 2 = 0 := by omega
    rw [h0, if_neg (by omega)]
    have e3 : bits .and .u32 3988292384 (-((0 : Nat) : Int) % 4294967296) = ((0 : Nat) : Int) := by
      have := and32 3988292384 0 (by omega) (by omega)
      exact this
    rw [e3]
    exact xor32 (m / 2) 0 (by omega) (by omega)
/-- The sum of the first bytes. -/
theorem crcL_append : ∀ (a b : List Nat) (n : Nat), crcL (a ++ b) n = crcL b (crcL a n)
  | [], _, _ => rfl
  | x :: a, b, n => crcL_append a b (crcB n x)
theorem crcL_lt : ∀ (l : List Nat) {n : Nat}, n < 4294967296 → (∀ x ∈ l, x < 256) → crcL l n < 4294967296
  | [], _, h, _ => h
  | x :: l, n, h, hl => crcL_lt l (crcB_lt h (hl x (by simp))) (fun y hy => hl y (by simp [hy]))
theorem sumS_lt (s : ByteArray) : sumS s < 4294967296 := xor_lt32 (crcL_lt _ (by omega) (bys_lt s)) (by omega)

set_option maxHeartbeats 8000000 in
set_option maxRecDepth 100000 in
theorem Sum_any (s : ByteArray) (hs : s.size ≤ 9223372036854775807) (w : World) : Calls Tryz.prog 98 #[.string s] w fun e w' => e = .returned (.int .u32 (sumS s : Int)) ∧ w = w' := by
  go_enter Tryz.func98, Tryz.ntmps98
  go_wp2
  go_loop [3, 4, 7] (fun v3 v4 v7 => ∃ (i n : Nat), v3 = .int .u32 n ∧ v7 = .int .i64 i ∧ i ≤ s.size ∧ n < 4294967296 ∧ Hid (crcL ((bys s).take i) 4294967295 = n)) (fun _ _ v7 => s.size - (intOf v7).toNat)
  case atStart => exact ⟨0, 4294967295, rfl, rfl, Nat.zero_le _, by omega, by exact rfl⟩
  case round =>
    obtain ⟨i, n, rfl, rfl, hi, hn, HC⟩ := hrel
    by_cases hlt : i < s.size
    · have b1 : (0 : Int) ≤ (i : Int) := by omega
      have b2 : (i : Int) < (s.size : Int) := by omega
      have b3 : s[i].toNat = bt s i := bt_get s i hlt
      have b4 : bt s i < 256 := bt_lt s i
      have b5 : (bt s i : Int) % 4294967296 = (bt s i : Int) := by omega
      obtain ⟨q, hq⟩ : ∃ q, q = n ^^^ bt s i := ⟨_, rfl⟩
      have hq2 : bits .xor .u32 (n : Int) (bt s i : Int) = (q : Int) := by rw [xor32 n _ hn (by omega), hq]
      have hqlt : q < 4294967296 := by rw [hq]; exact xor_lt32 hn (by omega)
      have HQ := Lib.hid hq
      clear hq
      go_wp2
      go_loop [3, 16] (fun v3 v16 => ∃ (j m : Nat), v3 = .int .u32 m ∧ v16 = .int .i64 j ∧ j ≤ 8 ∧ m < 4294967296 ∧ Hid (crcK (8 - j) m = crcB n (bt s i))) (fun _ v16 => 8 - (intOf v16).toNat)
      case atStart => exact ⟨0, q, rfl, rfl, by omega, hqlt, by rw [HQ.out]; exact rfl⟩
      case round =>
        obtain ⟨j, m, rfl, rfl, hj, hm, hk⟩ := hrel
        by_cases hlt2 : j < 8
        · have c1 : decide ((j : Int) < 8) = true := decide_eq_true (by omega)
          obtain ⟨m2, hm2⟩ : ∃ x, x = crc1 m := ⟨_, rfl⟩
          have hst := step32 m hm
          have hlt3 : m2 < 4294967296 := by rw [hm2]; exact crc1_lt hm
          rw [← hm2] at hst
          have HK2 : Hid (crcK (8 - (j + 1)) m2 = crcB n (bt s i)) := by
            have := hk.out
            rw [show 8 - j = (8 - (j + 1)) + 1 by omega] at this
            rw [hm2]
            exact this
          clear hm2 hk
          go_wp2
          go_round
          case rel => exact ⟨j + 1, m2, rfl, by go_num, by omega, hlt3, HK2⟩
          case measure => simp [intOf]; omega
        · obtain rfl : j = 8 := by omega
          go_wp2
          go_round
          case rel =>
            refine ⟨i + 1, m, rfl, by go_num, by omega, hm, Lib.hid ?_⟩
            have hb := bt_bys s i hlt
            obtain ⟨hl, he⟩ := List.getElem?_eq_some_iff.1 hb
            rw [List.take_succ_eq_append_getElem hl, he, crcL_append, HC.out]
            exact hk.out.symm
          case measure => simp [intOf]; omega
    · obtain rfl : i = s.size := by omega
      have hfin : bits .xor .u32 IntKind.u32.max (n : Int) = (sumS s : Int) := by
        have := xor32 4294967295 n (by omega) hn
        rw [Nat.xor_comm] at this
        have h2 := HC.out
        rw [List.take_of_length_le (by rw [bys_length]; exact Nat.le_refl _)] at h2
        unfold sumS
        rw [h2]
        exact this
      go_wp2
      go_ret
      exact ⟨rfl, rfl⟩
end Go.Proofs.YtjincmagbbpooaaGreatDoor
end

section
set_option linter.unusedVariables false
set_option linter.unusedSimpArgs false
namespace Go.Proofs.YtjincmagbbpooaaGreatDoor
open Go.RowKit

def sumL (n : Nat) : List Nat := [n % 256, n / 256 % 256, n / 65536 % 256, n / 16777216 % 256]
def sumB (s : ByteArray) : ByteArray := strN (sumL (sumS s))
theorem conv4 (n : Nat) (hn : n < 4294967296) (w : World) : (convert 79 9 (.slice (some ⟨w.heap.size, 0, none⟩) 4 4)).run Tryz.prog
    (w.alloc (.cells #[.int .u8 ((n : Int) % 256), .int .u8 ((n : Int) / 256 % 256), .int .u8 ((n : Int) / 65536 % 256), .int .u8 ((n : Int) / 16777216)] 5)) =
    .ok (.string (strN (sumL n))) (w.alloc (.cells #[.int .u8 ((n : Int) % 256), .int .u8 ((n : Int) / 256 % 256), .int .u8 ((n : Int) / 65536 % 256), .int .u8 ((n : Int) / 16777216)] 5)) := by
  unfold strN
  refine run_convert_bytes_arg _ 79 5 Tryz.underlying79 Tryz.underlying5 w.heap.size 0 4 4 ((sumL n).map fun (x : Nat) => (x : Int)) rfl (fun i hi => ?_) 9 Tryz.underlying9
  rw [Nat.zero_add, new_cell]
  have : i = 0 ∨ i = 1 ∨ i = 2 ∨ i = 3 := by omega
  rcases this with rfl | rfl | rfl | rfl
  · simp [sumL]
  · simp [sumL]
  · simp [sumL]
  · simp [sumL]; omega
theorem Tryz.make4 (w : World) : (Instr.makeSlice 79 (.int .i64 4) (.int .i64 4)).run Tryz.prog w = .ok (.slice (some ⟨w.heap.size, 0, none⟩) 4 4) (w.alloc (.cells #[.int .u8 0, .int .u8 0, .int .u8 0, .int .u8 0] 5)) := by kernel_rfl
set_option maxHeartbeats 8000000 in
set_option maxRecDepth 100000 in
theorem sum_any (s : ByteArray) (hs : s.size ≤ 9223372036854775807) (w : World) : Calls Tryz.prog 76 #[.string s] w fun e w' => e = .returned (.string (sumB s)) ∧ Below w.heap.size w w' := by
  have cs := Lib.hid (Sum_any s hs w)
  have hlt := sumS_lt s
  have hmk := Tryz.make4
  have hcv := conv4 (sumS s) (sumS_lt s) w
  unfold sumB
  generalize sumS s = n at cs hlt hcv ⊢
  go_enter Tryz.func76, Tryz.ntmps76
  go_wp2_with ((go_at_call 98; with_reducible refine cs.out.mono ?_; rintro e w1 ⟨rfl, rfl⟩))
  refine wp_loop_rounds 5 ?_
  rw [rounds_succ]
  go_wp2
  rw [rounds_succ]
  go_wp2
  rw [rounds_succ]
  go_wp2
  rw [rounds_succ]
  go_wp2
  rw [rounds_succ]
  go_wp2
  go_ret
  exact ⟨rfl, (Below.refl _ _).alloc (Nat.le_refl _) _⟩
end Go.Proofs.YtjincmagbbpooaaGreatDoor
end
