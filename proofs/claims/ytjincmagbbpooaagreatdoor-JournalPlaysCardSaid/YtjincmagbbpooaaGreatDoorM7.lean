import Derived.Test.YtjincmagbbpooaaGreatDoorV5
import Derived.Test.YtjincmagbbpooaaGreatDoorM2

section
set_option linter.unusedVariables false
set_option linter.unusedSimpArgs false
namespace Go.Proofs.YtjincmagbbpooaaGreatDoor
open Go.RowKit

set_option maxHeartbeats 8000000 in
set_option maxRecDepth 100000 in
theorem rWrite_no (w : World) (F : Nat → Prop) (p : Nat) (D : DS) (i : Int) (b : ByteArray) (h : Ref w F p D) (h0 : D.writeC i b ≠ 0) :
    Calls Tryz.prog 58 #[.pointer (some ⟨p, 0, none⟩), .int .i64 i, .string b] w fun e w' => e = .returned (.int .i64 (D.writeC i b)) ∧ RefPost F p w (D.write i b) w' := by
  have hw : D.write i b = if D.may i = 0 ∧ b.size ≤ 64 then { D with dead := true } else D := by unfold DS.write; rw [if_neg h0]
  rw [hw]
  have HH := Lib.hid h
  obtain ⟨sv, av, bv, hd, hf⟩ := h
  obtain ⟨c0, -, -, -, c4, c5, fr⟩ := hd.cells
  have fr5 := fr 5
  obtain ⟨a, c, es⟩ := own_len hd.s
  rw [es] at c0
  have HD := Lib.hid hd
  have HF := Lib.hid hf
  have HES := Lib.hid es
  clear hw hd hf fr es
  by_cases h1 : D.may i = 0
  · obtain ⟨h4, h5, h6⟩ := DS.may_zero.1 h1
    obtain ⟨n, hn⟩ : ∃ n, n = D.sure.length := ⟨_, rfl⟩
    rw [← hn] at c0 h6
    rw [h4] at c5
    have t1 : decide (i < 0) = false := decide_eq_false (by omega)
    have t2 : decide ((n : Int) ≤ i) = false := decide_eq_false (by omega)
    unfold DS.writeC at h0 ⊢
    rw [if_neg (by simpa using h1)] at h0 ⊢
    by_cases h2 : 64 < b.size
    · rw [if_pos h2, if_neg (by omega)]
      have t3 : decide ((64 : Int) < (b.size : Int)) = true := decide_eq_true (by omega)
      have t3' : decide (64 < b.size) = true := decide_eq_true h2
      clear h0 h1 h2 h4 h5 h6 hn
      go_enter Tryz.func58, Tryz.ntmps58
      go_wp2
      go_ret
      exact ⟨rfl, Save.refl _ _, HH.out.mono fun _ _ => .inl⟩
    · rw [if_neg h2] at h0 ⊢
      have hc : D.may i = 0 ∧ b.size ≤ 64 := ⟨h1, by omega⟩
      rw [if_pos hc]
      have h3 : D.left = 0 := by
        by_cases h3 : D.left = 0
        · exact h3
        · rw [if_neg h3] at h0; exact absurd rfl h0
      rw [if_pos h3]
      rw [h3] at c4
      have t3 : decide ((64 : Int) < (b.size : Int)) = false := decide_eq_false (by omega)
      have t3' : decide (64 < b.size) = false := decide_eq_false h2
      clear h0 h1 h2 h3 h4 h5 h6 hn hc
      go_enter Tryz.func58, Tryz.ntmps58
      go_wp2
      go_ret
      have hn := HD.out.ne
      have hk : ∀ v : Value, some p ≠ v.ownBlock → ∀ q, v.ownBlock = some q → q ≠ p := fun v h q hq e => h (by rw [hq, e])
      refine ⟨rfl, (Save.refl _ _).setCell (.inl HF.out.1) _, sv, av, bv, ⟨HD.out.own.set_ 5 _, own_same HD.out.s fun q hq => Below.heap_setCell _ _ _ _ (hk _ hn.1 q hq), own_same HD.out.a fun q hq => Below.heap_setCell _ _ _ _ (hk _ hn.2.1 q hq), own_same HD.out.b fun q hq => Below.heap_setCell _ _ _ _ (hk _ hn.2.2 q hq), ⟨HD.out.ok.one, HD.out.ok.most, HD.out.ok.size, HD.out.ok.lies, HD.out.ok.few, HD.out.ok.done, HD.out.ok.left⟩⟩, ?_⟩
      exact ⟨.inl HF.out.1, fun q hq => .inl (HF.out.2.1 q hq), fun q hq => .inl (HF.out.2.2.1 q hq), fun q hq => .inl (HF.out.2.2.2 q hq)⟩
  · have hcc : D.writeC i b = D.may i := by unfold DS.writeC; rw [if_pos h1]
    rw [hcc, if_neg (fun h => h1 h.1)]
    clear h0 hcc
    unfold DS.may at h1 ⊢
    obtain ⟨n, hn⟩ : ∃ n, n = D.sure.length := ⟨_, rfl⟩
    obtain ⟨z, hz⟩ : ∃ z, z = D.dead := ⟨_, rfl⟩
    rw [← hn] at c0 h1 ⊢
    rw [← hz] at c5 h1 ⊢
    clear hn hz
    cases z
    · rw [if_neg (by decide)] at h1 ⊢
      by_cases h2 : i < 0
      · rw [if_pos (.inl h2)]
        have t1 : decide (i < 0) = true := decide_eq_true h2
        clear h1
        go_enter Tryz.func58, Tryz.ntmps58
        go_wp2
        go_ret
        exact ⟨rfl, Save.refl _ _, HH.out.mono fun _ _ => .inl⟩
      · have t1 : decide (i < 0) = false := decide_eq_false h2
        by_cases h3 : (n : Int) ≤ i
        · rw [if_pos (.inr h3)]
          have t2 : decide ((n : Int) ≤ i) = true := decide_eq_true h3
          clear h1
          go_enter Tryz.func58, Tryz.ntmps58
          go_wp2
          go_ret
          exact ⟨rfl, Save.refl _ _, HH.out.mono fun _ _ => .inl⟩
        · rw [if_neg (by omega)] at h1
          exact absurd rfl h1
    · rw [if_pos rfl]
      clear h1
      go_enter Tryz.func58, Tryz.ntmps58
      go_wp2
      go_ret
      exact ⟨rfl, Save.refl _ _, HH.out.mono fun _ _ => .inl⟩

theorem rWrite_any (w : World) (F : Nat → Prop) (p : Nat) (D : DS) (i : Int) (b : ByteArray) (hdone : D.done < 1099511627776) (h : Ref w F p D) :
    Calls Tryz.prog 58 #[.pointer (some ⟨p, 0, none⟩), .int .i64 i, .string b] w fun e w' => e = .returned (.int .i64 (D.writeC i b)) ∧ RefPost F p w (D.write i b) w' := by
  by_cases h0 : D.writeC i b = 0
  · have h1 := DS.may_zero.1 (DS.writeC_zero.1 h0).1
    obtain ⟨k, rfl⟩ : ∃ k : Nat, i = (k : Int) := ⟨i.toNat, by omega⟩
    have := rWrite_yes w F p D k b h h0 hdone
    unfold DS.write
    rw [if_pos h0, h0]
    exact this
  · exact rWrite_no w F p D i b h h0

end Go.Proofs.YtjincmagbbpooaaGreatDoor
end

section
set_option linter.unusedVariables false
set_option linter.unusedSimpArgs false
namespace Go.Proofs.YtjincmagbbpooaaGreatDoor
open Go.RowKit

theorem numB_length (n : Nat) : (numB n).length ≤ n + 1 := by
  induction n using Nat.strongRecOn with
  | ind n ih =>
    by_cases h : n < 128
    · rw [numB_small h]; simp
    · rw [numB_great h, List.length_cons]
      have := ih (n / 128) (by omega)
      omega
theorem strN_size (l : List Nat) : (strN l).size = l.length := by unfold strN; rw [strOfNums_size, List.length_map]

/-! ### pack.Text -/
def textS (s : ByteArray) : ByteArray := strN (numB s.size) ++ s

set_option maxHeartbeats 4000000 in
set_option maxRecDepth 100000 in
theorem Text_any (s : ByteArray) (hs : s.size ≤ 1000000) (w : World) :
    Calls Tryz.prog 100 #[.string s] w fun e w' => e = .returned (.string (textS s)) ∧ Below w.heap.size w w' := by
  have hc := Lib.hid (Num_any (s.size : Int) s.size (by unfold mxI; rw [if_neg (by omega)]) (by omega) w)
  have hsz : (strN (numB s.size)).size + s.size ≤ 9223372036854775807 := by rw [strN_size]; have := numB_length s.size; omega
  go_enter Tryz.func100, Tryz.ntmps100
  go_wp2_with ((go_at_call 81; refine hc.out.mono ?_; rintro e w1 ⟨rfl, hb⟩; have hb1 := Lib.hid hb; clear hb))
  go_ret
  exact ⟨rfl, hb1.out⟩

/-! ### pack.number -/
/-- A byte of a text. -/
def bt (s : ByteArray) (i : Nat) : Nat := (s.data.toList.getD i 0).toNat
theorem bt_get (s : ByteArray) (i : Nat) (h : i < s.size) : s[i].toNat = bt s i := by
  show (s.data[i]).toNat = (s.data.toList.getD i 0).toNat
  have h' : i < s.data.toList.length := by simpa using h
  rw [List.getD_eq_getElem?_getD, List.getElem?_eq_getElem h']
  simp
theorem bt_lt (s : ByteArray) (i : Nat) : bt s i < 256 := (s.data.toList.getD i 0).toNat_lt

/-- The number at the front, how many bytes it has, what is wrong: from a byte on. -/
def numF (s : ByteArray) : Nat → Nat → Nat → Nat → Nat × Nat × Int
  | 0, _, _, _ => (0, 0, 10)
  | f + 1, i, n, at_ =>
    if s.size ≤ i then (0, 0, 11)
    else if bt s i = 0 ∧ 0 < i then (0, 0, 10)
    else if bt s i < 128 then (n + bt s i % 128 * at_, i + 1, 0)
    else numF s f (i + 1) (n + bt s i % 128 * at_) (at_ * 128)
def numS (s : ByteArray) : Nat × Nat × Int := numF s 8 0 0 1

def NumPost (r : Nat × Nat × Int) (w : World) (e : Ending) (w' : World) : Prop := e = .returned (.tuple #[.int .i64 (r.1 : Int), .int .i64 (r.2.1 : Int), errV r.2.2]) ∧ w = w'

set_option maxHeartbeats 8000000 in
set_option maxRecDepth 100000 in
theorem number_any (s : ByteArray) (hs : s.size ≤ 9223372036854775807) (w : World) : Calls Tryz.prog 99 #[.string s] w (NumPost (numS s) w) := by
  go_enter Tryz.func99, Tryz.ntmps99
  go_wp2
  go_loopg [5, 6, 8] 8 (fun kq v5 v6 v8 wr => ∃ (i n a : Nat), v5 = .int .i64 n ∧ v6 = .int .i64 a ∧ v8 = .int .i64 i ∧ Hid (i + kq = 8) ∧ i ≤ 8 ∧ Hid (a = 128 ^ i) ∧ Hid (n < a) ∧ Hid (numF s kq i n a = numS s) ∧ w = wr)
  case atStart => exact ⟨0, 0, 1, rfl, rfl, rfl, rfl, by omega, rfl, by show 0 < 1; omega, rfl, rfl⟩
  case round =>
    obtain ⟨i, n, a, rfl, rfl, rfl, hik, hi, ha, hna, hr, rfl⟩ := hrel
    have ha1 : a ≤ 72057594037927936 := by rw [ha.out]; exact Nat.le_trans (Nat.pow_le_pow_right (by decide) hi) (by decide)
    have hn1 : n ≤ 72057594037927936 := Nat.le_trans (Nat.le_of_lt hna.out) ha1
    cases gk with
    | zero =>
      have e : i = 8 := by have := hik.out; omega
      subst e
      have hr' := hr.out
      simp only [numF] at hr'
      go_wp2
      go_ret3
      refine ⟨?_, rfl⟩
      rw [← hr']
      rfl
    | succ k =>
      have hi7 : i ≤ 7 := by have := hik.out; omega
      have ha7 : a ≤ 562949953421312 := by rw [ha.out]; exact Nat.le_trans (Nat.pow_le_pow_right (by decide) hi7) (by decide)
      have hn7 : n ≤ 562949953421312 := Nat.le_trans (Nat.le_of_lt hna.out) ha7
      clear ha1 hn1
      have q0 : (i : Int) < 8 := by omega
      by_cases h1 : s.size ≤ i
      · have q1 : decide ((s.size : Int) ≤ (i : Int)) = true := decide_eq_true (by omega)
        have q2 : decide (s.size ≤ i) = true := decide_eq_true h1
        have hr' := hr.out
        simp only [numF] at hr'
        rw [if_pos h1] at hr'
        replace hr' := Lib.hid hr'
        go_wp2
        go_ret3
        refine ⟨?_, rfl⟩
        rw [← hr'.out]
        rfl
      · have q1 : decide ((s.size : Int) ≤ (i : Int)) = false := decide_eq_false (by omega)
        have q2 : decide (s.size ≤ i) = false := decide_eq_false h1
        have q3 : (i : Int) < (s.size : Int) := by omega
        have q4 : (0 : Int) ≤ (i : Int) := by omega
        have hlt : i < s.size := by omega
        have hget := bt_get s i hlt
        have hr' := hr.out
        simp only [numF] at hr'
        rw [if_neg h1] at hr'
        obtain ⟨b, hb⟩ : ∃ b, bt s i = b := ⟨_, rfl⟩
        have hb256 : b < 256 := by rw [← hb]; exact bt_lt s i
        rw [hb] at hget hr'
        clear h1 hb
        by_cases c1 : b = 0 ∧ 0 < i
        · rw [if_pos c1] at hr'
          obtain ⟨rfl, c2⟩ := c1
          have t1 : decide (0 < i) = true := decide_eq_true c2
          have t2 : decide ((0 : Int) < (i : Int)) = true := decide_eq_true (by omega)
          replace hr' := Lib.hid hr'
          go_wp2
          go_ret3
          refine ⟨?_, rfl⟩
          rw [← hr'.out]
          rfl
        · rw [if_neg c1] at hr'
          obtain ⟨p, hp⟩ : ∃ p : Nat, ((b : Int) % 128) * (a : Int) = (p : Int) := ⟨b % 128 * a, by push_cast; rfl⟩
          have hp' : p = b % 128 * a := by
            have : ((b % 128 * a : Nat) : Int) = (p : Int) := by push_cast; exact hp
            omega
          have hp1 : p ≤ 127 * a := by rw [hp']; exact Nat.mul_le_mul_right _ (by omega)
          have hp2 : p ≤ 71494644084506624 := Nat.le_trans hp1 (by omega)
          rw [← hp'] at hr'
          by_cases c3 : b < 128
          · rw [if_pos c3] at hr'
            have c4 : (b : Int) < 128 := by omega
            replace hr' := Lib.hid hr'
            by_cases c2 : b = 0
            · have z1 : ((b : Int) == 0) = true := by rw [c2]; rfl
              have z2 : (b == 0) = true := by rw [c2]; rfl
              have hi0 : i = 0 := by omega
              have t1 : decide (0 < i) = false := decide_eq_false (by omega)
              have t2 : decide ((0 : Int) < (i : Int)) = false := decide_eq_false (by omega)
              replace hi0 := Lib.hid hi0
              replace hp' := Lib.hid hp'
              replace c2 := Lib.hid c2
              clear c1
              go_wp2
              go_ret3
              refine ⟨?_, rfl⟩
              rw [← hr'.out]
              rfl
            · replace hp' := Lib.hid hp'
              clear c1
              go_wp2
              go_ret3
              refine ⟨?_, rfl⟩
              rw [← hr'.out]
              rfl
          · rw [if_neg c3] at hr'
            have c4 : (128 : Int) ≤ (b : Int) := by omega
            have c2 : ¬ b = 0 := by omega
            replace hr' := Lib.hid hr'
            replace hp' := Lib.hid hp'
            obtain ⟨a2, ha2⟩ : ∃ a2 : Nat, (a : Int) * 128 = (a2 : Int) := ⟨a * 128, by push_cast; rfl⟩
            have ha2' : a2 = a * 128 := by omega
            have ha3 : a2 ≤ 9223372036854775807 := by omega
            have HA2 := Lib.hid ha2'
            clear ha2' c1 c3
            go_wp2
            go_roundg k
            case measure => have := hik.out; omega
            case rel =>
              refine ⟨i + 1, n + p, a2, by go_num, rfl, by go_num, ?_, by omega, ?_, ?_, ?_, rfl⟩
              · have := hik.out; show _ = _; omega
              · show a2 = 128 ^ (i + 1); rw [Nat.pow_succ, ← ha.out]; exact HA2.out
              · have h1 := hna.out; have h2 := HA2.out; show _ < _; omega
              · rw [HA2.out]; exact hr'.out

theorem numF_le (s : ByteArray) : ∀ (f i n a : Nat), (numF s f i n a).2.1 ≤ s.size
  | 0, _, _, _ => Nat.zero_le _
  | f + 1, i, n, a => by
    unfold numF
    split
    · exact Nat.zero_le _
    · split
      · exact Nat.zero_le _
      · split
        · show i + 1 ≤ s.size; omega
        · exact numF_le s f _ _ _
theorem numS_le (s : ByteArray) : (numS s).2.1 ≤ s.size := numF_le s _ _ _ _

/-! ### pack.Take -/
/-- What is behind so many bytes. -/
def dropB (s : ByteArray) (k : Nat) : ByteArray := s.extract k s.size
def takeB (s : ByteArray) (k : Nat) : ByteArray := s.extract 0 k
def TakePost (s : ByteArray) (w : World) (e : Ending) (w' : World) : Prop := e = .returned (.tuple #[.int .i64 ((numS s).1 : Int), .string (dropB s (numS s).2.1), errV (numS s).2.2]) ∧ ∃ m, w' = w.drewN m

set_option maxHeartbeats 8000000 in
set_option maxRecDepth 100000 in
theorem Take_any (s : ByteArray) (hs : s.size ≤ 9223372036854775807) (w : World) : Calls Tryz.prog 77 #[.string s] w (TakePost s w) := by
  have hc := Lib.hid (number_any s hs w)
  have hle := numS_le s
  unfold TakePost
  generalize hr : numS s = r at hc hle
  obtain ⟨n, k, c⟩ := r
  simp only at hle
  have q0 : (0 : Int) ≤ (k : Int) := by omega
  have q1 : (k : Int) ≤ (s.size : Int) := by omega
  clear hr
  go_enter Tryz.func77, Tryz.ntmps77
  go_wp2_with ((go_at_call 99; refine hc.out.mono ?_; rintro e w1 ⟨rfl, rfl⟩; simp only))
  go_quiet (fail)
  go_wp2
  go_ret3
  exact ⟨rfl, _, rfl⟩
end Go.Proofs.YtjincmagbbpooaaGreatDoor
end
