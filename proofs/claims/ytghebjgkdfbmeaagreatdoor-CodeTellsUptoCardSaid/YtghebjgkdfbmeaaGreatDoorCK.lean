import Derived.Test.YtghebjgkdfbmeaaGreatDoorCN
set_option linter.unusedVariables false
set_option linter.unusedSimpArgs false
namespace Go.Proofs.YtghebjgkdfbmeaaGreatDoor
open Go.RowKit

theorem list_injB {a b : ByteArray} (h : a.toList = b.toList) : a = b := by
  rw [ByteArray.toList_eq, ByteArray.toList_eq] at h
  exact ByteArray.ext (Array.toList_inj.1 h)
def eqL (a : ByteArray) (l : List UInt8) : Bool := a.toList == l
theorem eqL_iff {a : ByteArray} {l : List UInt8} : eqL a l = true ↔ a = ⟨l.toArray⟩ := by
  unfold eqL
  rw [beq_iff_eq, ByteArray.toList_eq]
  constructor
  · intro h
    apply ByteArray.ext
    show a.data = l.toArray
    rw [← h]
  · rintro rfl
    rfl
/-- Of which family a recursor is. -/
def recS (s : ByteArray) : ByteArray × Bool :=
  if s.size < 5 then (⟨#[]⟩, false) else if eqL (dropB s (s.size - 4)) [46, 114, 101, 99] && nameS (takeB s (s.size - 4)) then (takeB s (s.size - 4), true) else (⟨#[]⟩, false)
def RecPost (s : ByteArray) (w : World) (e : Ending) (w' : World) : Prop := e = .returned (.tuple #[.string (recS s).1, .bool (recS s).2]) ∧ w = w'

set_option maxHeartbeats 8000000 in
set_option maxRecDepth 100000 in
theorem rRec_any (s : ByteArray) (hs : s.size ≤ 9223372036854775807) (w : World) : Calls Tryz.prog 47 #[.string s] w (RecPost s w) := by
  unfold RecPost recS
  by_cases h1 : s.size < 5
  · have t1 : decide ((s.size : Int) - 4 < 1) = true := decide_eq_true (by omega)
    have hz : -4 ≤ (s.size : Int) - 4 := by omega
    have hz2 : (s.size : Int) - 4 ≤ 1 := by omega
    rw [if_pos h1]
    clear h1
    go_enter Tryz.func47, Tryz.ntmps47
    go_wp2
    go_ret2
    exact ⟨rfl, rfl⟩
  rw [if_neg h1]
  obtain ⟨n, hn⟩ : ∃ n, n = s.size - 4 := ⟨_, rfl⟩
  have hn1 : (s.size : Int) - 4 = (n : Int) := by omega
  have q0 : (0 : Int) ≤ (n : Int) := by omega
  have q1 : (n : Int) ≤ (s.size : Int) := by omega
  have q2 : n ≤ 9223372036854775807 := by omega
  have t1 : decide ((n : Int) < 1) = false := decide_eq_false (by omega)
  have t1' : decide (n < 1) = false := decide_eq_false (by omega)
  rw [← hn]
  have HN := Lib.hid hn
  have hle : n ≤ s.size := by omega
  clear hn h1
  have cn := Lib.hid (IsName_any (takeB s n) w)
  unfold takeB at cn ⊢
  unfold dropB
  generalize hd : s.extract n s.size = d at cn ⊢
  generalize ht : s.extract 0 n = t at cn ⊢
  have HD := Lib.hid (And.intro hd ht)
  cases h2 : eqL d [46, 114, 101, 99]
  · have h2' : (d.toList == [46, 114, 101, 99]) = false := h2
    have h2'' : (d.toList != [46, 114, 101, 99]) = true := by rw [bne, h2']; rfl
    clear h2
    go_enter Tryz.func47, Tryz.ntmps47
    go_wp2
    go_ret2
    exact ⟨rfl, rfl⟩
  · have h2' : (d.toList == [46, 114, 101, 99]) = true := h2
    have h2'' : (d.toList != [46, 114, 101, 99]) = false := by rw [bne, h2']; rfl
    clear h2
    cases h3 : nameS t
    · rw [h3] at cn
      go_enter Tryz.func47, Tryz.ntmps47
      go_wp2_with ((go_at_call 48; (with_reducible refine cn.out.mono ?_); rintro e w1 ⟨rfl, rfl⟩))
      go_ret2
      exact ⟨rfl, rfl⟩
    · rw [h3] at cn
      go_enter Tryz.func47, Tryz.ntmps47
      go_wp2_with ((go_at_call 48; (with_reducible refine cn.out.mono ?_); rintro e w1 ⟨rfl, rfl⟩))
      go_ret2
      exact ⟨rfl, rfl⟩

/-! ### words of the language -/
def keyS (s : ByteArray) : Bool :=
  eqL s [102, 117, 110] || eqL s [112, 105] || eqL s [108, 101, 116] || eqL s [105, 110] || (decide (s.size = 5) && eqL (takeB s 4) [84, 121, 112, 101] && digB (bt s 4))

set_option maxHeartbeats 8000000 in
set_option maxRecDepth 100000 in
theorem Keyword_any (s : ByteArray) (w : World) : Calls Tryz.prog 49 #[.string s] w (fun e w' => e = .returned (.bool (keyS s)) ∧ w = w') := by
  unfold keyS
  obtain ⟨b1, h1⟩ : ∃ b, eqL s [102, 117, 110] = b := ⟨_, rfl⟩
  obtain ⟨b2, h2⟩ : ∃ b, eqL s [112, 105] = b := ⟨_, rfl⟩
  obtain ⟨b3, h3⟩ : ∃ b, eqL s [108, 101, 116] = b := ⟨_, rfl⟩
  obtain ⟨b4, h4⟩ : ∃ b, eqL s [105, 110] = b := ⟨_, rfl⟩
  rw [h1, h2, h3, h4]
  have h1' : (s.toList == [102, 117, 110]) = b1 := h1
  have h2' : (s.toList == [112, 105]) = b2 := h2
  have h3' : (s.toList == [108, 101, 116]) = b3 := h3
  have h4' : (s.toList == [105, 110]) = b4 := h4
  clear h1 h2 h3 h4
  by_cases h5 : s.size = 5
  · have t5 : ((s.size : Int) == 5) = true := by rw [h5]; rfl
    have t5' : (s.size == 5) = true := by rw [h5]; rfl
    have q4 : (4 : Int) ≤ (s.size : Int) := by omega
    have q4' : (4 : Int) < (s.size : Int) := by omega
    have q4n : 4 < s.size := by omega
    have hget : s[4].toNat = bt s 4 := bt_get s 4 q4n
    have hdec : decide (s.size = 5) = true := decide_eq_true h5
    rw [hdec]
    obtain ⟨b6, h6⟩ : ∃ b, eqL (takeB s 4) [84, 121, 112, 101] = b := ⟨_, rfl⟩
    rw [h6]
    have h6' : ((s.extract 0 4).toList == [84, 121, 112, 101]) = b6 := h6
    unfold digB
    obtain ⟨b7, h7⟩ : ∃ b, decide ((48 : Int) ≤ (bt s 4 : Int)) = b := ⟨_, rfl⟩
    obtain ⟨b8, h8⟩ : ∃ b, decide ((bt s 4 : Int) ≤ 57) = b := ⟨_, rfl⟩
    rw [h7, h8]
    clear h6 hdec h5
    cases b1 <;> cases b2 <;> cases b3 <;> cases b4 <;> (try cases b6) <;> (try cases b7) <;> (try cases b8)
    all_goals
      go_enter Tryz.func49, Tryz.ntmps49
      go_wp2
      go_ret
      exact ⟨rfl, rfl⟩
  · have t5 : ((s.size : Int) == 5) = false := beq_eq_false_iff_ne.2 (by omega)
    have t5' : (s.size == 5) = false := beq_eq_false_iff_ne.2 h5
    have hdec : decide (s.size = 5) = false := decide_eq_false h5
    rw [hdec]
    clear hdec h5
    cases b1 <;> cases b2 <;> cases b3 <;> cases b4
    all_goals
      go_enter Tryz.func49, Tryz.ntmps49
      go_wp2
      go_ret
      exact ⟨rfl, rfl⟩
end Go.Proofs.YtghebjgkdfbmeaaGreatDoor
