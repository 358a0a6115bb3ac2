import Derived.Test.YtjincmagbbpooaaGreatDoorJM0
set_option linter.unusedVariables false
set_option linter.unusedSimpArgs false
namespace Go.Proofs.YtjincmagbbpooaaGreatDoor
open Go.RowKit
attribute [local go_sem] max2_int max_two min2_int min_two

theorem half_any (w : World) (F : Nat → Prop) (p : Nat) (D : DS) (h2 : 2 ≤ D.sure.length) (h : Dsk w F p D) :
    Calls Tryz.prog 38 #[.pointer (some ⟨p, 0, none⟩)] w fun e w' => e = .returned (.int .i64 (D.half : Int)) ∧ w = w' := by
  have cl := Lib.hid (Len_any w F p D h)
  have hm := h.ok.most
  unfold DS.half
  generalize D.sure.length = n at cl h2 hm ⊢
  obtain ⟨k, hk⟩ : ∃ k : Nat, (n - 2) / 2 = k := ⟨_, rfl⟩
  have q1 : (n : Int) - 2 = ((n - 2 : Nat) : Int) := by omega
  have q2 : ((n : Int) - 2) / 2 = (k : Int) := by omega
  have q0 : (0 : Int) ≤ (n : Int) - 2 := by omega
  rw [hk]
  clear h hk q1
  go_enter Tryz.func38, Tryz.ntmps38
  go_wp2_with (go_at_call 36; (with_reducible refine cl.out.mono ?_); rintro e w1 ⟨rfl, rfl⟩)
  go_ret
  exact ⟨by show Ending.returned (.int .i64 (((n : Int) - 2) / 2)) = _; rw [q2], rfl⟩
theorem half_le {D : DS} (h : D.ok) : D.half ≤ 999 := by have := h.most; unfold DS.half; omega
theorem sector_any (w : World) (F : Nat → Prop) (p : Nat) (D : DS) (which i : Nat) (hw : which ≤ 1) (hi : i ≤ 100000) (h2 : 2 ≤ D.sure.length) (h : Dsk w F p D) :
    Calls Tryz.prog 39 #[.pointer (some ⟨p, 0, none⟩), .int .i64 (which : Int), .int .i64 (i : Int)] w fun e w' => e = .returned (.int .i64 (D.sec which i : Int)) ∧ w = w' := by
  have ch := Lib.hid (half_any w F p D h2 h)
  have hh := half_le h.ok
  unfold DS.sec
  generalize D.half = k at ch hh ⊢
  obtain ⟨m, hm⟩ : ∃ m : Nat, which * k = m := ⟨_, rfl⟩
  have hm1 : m ≤ 999 := by
    have : which * k ≤ 1 * 999 := Nat.mul_le_mul hw hh
    omega
  have q1 : (which : Int) * (k : Int) = (m : Int) := by rw [← hm]; exact (Int.natCast_mul _ _).symm
  have q2 : (2 : Int) + (m : Int) + (i : Int) = ((2 + which * k + i : Nat) : Int) := by rw [hm]; omega
  rw [← q2]
  clear h hh q2 hm
  go_enter Tryz.func39, Tryz.ntmps39
  go_wp2_with (go_at_call 38; (with_reducible refine ch.out.mono ?_); rintro e w1 ⟨rfl, rfl⟩)
  go_ret
  exact ⟨rfl, rfl⟩
theorem seq_any (turn k : Nat) (ht : turn ≤ 1000000) (hk : k ≤ 1000000) (w : World) :
    Calls Tryz.prog 43 #[.int .i64 (turn : Int), .int .i64 (k : Int)] w fun e w' => e = .returned (.int .i64 ((turn * 1000000 + k : Nat) : Int)) ∧ w = w' := by
  have q : ((turn * 1000000 + k : Nat) : Int) = (turn : Int) * 1000000 + (k : Int) := by omega
  rw [q]
  go_enter Tryz.func43, Tryz.ntmps43
  go_wp2
  go_ret
  exact ⟨rfl, rfl⟩
theorem part_any (b : ByteArray) (i n : Nat) (hb : b.size ≤ 1099511627776) (hi : i ≤ 1099511627776) (hn : n ≤ 1099511627776) (w : World) :
    Calls Tryz.prog 66 #[.string b, .int .i64 (i : Int), .int .i64 (n : Int)] w fun e w' => e = .returned (.string (partB b i n)) ∧ w = w' := by
  obtain ⟨j, hj⟩ : ∃ j : Nat, min i b.size = j := ⟨_, rfl⟩
  obtain ⟨k, hk⟩ : ∃ k : Nat, min (j + n) b.size = k := ⟨_, rfl⟩
  have e1 : Builtin.min_ #[3, 3] 3 #[.int .i64 (i : Int), .int .i64 (b.size : Int)] = (pure (.int .i64 (j : Int)) : Sem Value) := by
    rw [min_two, min2_int, show mnI (i : Int) (b.size : Int) = (j : Int) by unfold mnI; split <;> omega]; rfl
  have e2 : Builtin.min_ #[3, 3] 3 #[.int .i64 ((j : Int) + (n : Int)), .int .i64 (b.size : Int)] = (pure (.int .i64 (k : Int)) : Sem Value) := by
    rw [min_two, min2_int, show mnI ((j : Int) + (n : Int)) (b.size : Int) = (k : Int) by unfold mnI; split <;> omega]; rfl
  have hjk : (j : Int) ≤ (k : Int) := by omega
  have hkb : (k : Int) ≤ (b.size : Int) := by omega
  have hjn : (j : Int) + (n : Int) ≤ 9223372036854775807 := by omega
  have hp : partB b i n = b.extract j k := by unfold partB; rw [hj, hk]
  rw [hp]
  clear hp hj hk
  go_enter Tryz.func66, Tryz.ntmps66
  go_wp2
  go_ret
  exact ⟨rfl, rfl⟩
theorem noughts_any (w : World) : Calls Tryz.prog 78 #[] w fun e w' => e = .returned (.string (zeroB 64)) ∧ Below w.heap.size w w' := by
  have c := Lib.hid (Tryz.strings_Repeat ⟨#[0]⟩ 64 w (by decide) (by decide))
  rw [show (⟨(Lib.repeatL ([0] : List UInt8) 64).toArray⟩ : ByteArray) = zeroB 64 by decide] at c
  go_enter Tryz.func78, Tryz.ntmps78
  go_wp2_with (go_at_call 35; refine c.out.mono ?_; rintro e w1 ⟨rfl, hb⟩; have HB := Lib.hid hb; clear hb)
  go_ret
  exact ⟨rfl, HB.out⟩
end Go.Proofs.YtjincmagbbpooaaGreatDoor
