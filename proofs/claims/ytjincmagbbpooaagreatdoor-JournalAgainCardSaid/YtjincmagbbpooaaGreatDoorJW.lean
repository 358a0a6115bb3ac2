import Derived.Test.YtjincmagbbpooaaGreatDoorJU
set_option linter.unusedVariables false
set_option linter.unusedSimpArgs false
namespace Go.Proofs.YtjincmagbbpooaaGreatDoor
open Go.RowKit

/-! ### what the statements themselves call -/
def longB (l : List ByteArray) : Bool := l.any fun s => decide (150 < s.size)
theorem longB_no {l : List ByteArray} (h : longB l = false) : ∀ s ∈ l, s.size ≤ 150 := by
  intro s hs
  have := List.any_eq_false.1 h s hs
  simpa using this
/-- A row that lies below a block. -/
def LowSl (B : Nat) (w : World) (a : Option Addr) (l : List ByteArray) : Prop := ∀ j x, l[j]? = some x → ∃ b off, a = some ⟨b, off, none⟩ ∧ b < B ∧ w.cell? ⟨b, off + j, none⟩ = some (.string x)
theorem LowSl.keep {B : Nat} {w w' : World} {a : Option Addr} {l : List ByteArray} (h : LowSl B w a l) (hb : Below B w w') : LowSl B w' a l := fun j x hj => by
  obtain ⟨b, off, e, hB, hc⟩ := h j x hj
  exact ⟨b, off, e, hB, (World.cell?_of_block (hb.block _ hB)).trans hc⟩
theorem LowSl.sl {B : Nat} {w : World} {a : Option Addr} {l : List ByteArray} (h : LowSl B w a l) : SlOf mkS w a l := fun j x hj => by
  obtain ⟨b, off, e, hB, hc⟩ := h j x hj
  exact ⟨b, off, e, hc⟩
theorem LowSl.of_sl {w : World} {a : Option Addr} {l : List ByteArray} (h : SlOf mkS w a l) : LowSl w.heap.size w a l := fun j x hj => by
  obtain ⟨b, off, e, hc⟩ := h j x hj
  exact ⟨b, off, e, cell_lt hc, hc⟩
theorem LowSl.mono {B C : Nat} {w : World} {a : Option Addr} {l : List ByteArray} (h : LowSl B w a l) (hB : B ≤ C) : LowSl C w a l := fun j x hj => by
  obtain ⟨b, off, e, h1, hc⟩ := h j x hj
  exact ⟨b, off, e, by omega, hc⟩
theorem sl_own {w : World} {base : Nat} {v : Value} {l : List ByteArray} (h : w.ownsRow base 9 1 v l.length (strsV l)) : ∃ a c, v = .slice a l.length c ∧ SlOf mkS w a l := by
  rcases Nat.eq_zero_or_pos l.length with h0 | h0
  · obtain ⟨a, c, rfl⟩ := own_len h
    refine ⟨a, c, rfl, fun j x hj => ?_⟩
    have := (List.getElem?_eq_some_iff.1 hj).1
    omega
  · obtain ⟨g, c, rfl, -⟩ := h.form h0
    refine ⟨_, c, rfl, fun j x hj => ⟨g, 0, rfl, ?_⟩⟩
    have hjl := (List.getElem?_eq_some_iff.1 hj).1
    rw [Nat.zero_add, h.cellAt j (by omega)]
    unfold strsV
    rw [List.getElem?_map, hj]
    rfl

set_option maxHeartbeats 16000000 in
set_option maxRecDepth 100000 in
theorem long_any (a : Option Addr) (c : Nat) (l : List ByteArray) (n : Nat) (hn : n = l.length) (hl : n ≤ 9223372036854775807) (w : World) (ha : SlOf mkS w a l) :
    Calls Tryz.prog 13 #[.slice a n c] w fun e w' => e = .returned (.bool (longB l)) ∧ w = w' := by
  have HA := Lib.hid (And.intro hn ha)
  clear ha hn
  obtain ⟨R, hR⟩ : ∃ R, R = longB l := ⟨_, rfl⟩
  have HR := Lib.hid hR
  rw [← hR]
  clear hR
  go_enter Tryz.func13, Tryz.ntmps13
  go_upto_region 2 with fail
  go_loopw [3] (fun v3 wr => ∃ k : Nat, v3 = .int .i64 (k : Int) ∧ k ≤ n ∧ Hid (∀ s ∈ l.take k, s.size ≤ 150) ∧ w = wr) (fun v3 _ => n - (intOf v3).toNat)
  case atStart => exact ⟨0, rfl, Nat.zero_le _, Lib.hid (fun s hs => by simp at hs), rfl⟩
  case round =>
    obtain ⟨k, rfl, hk, hs, rfl⟩ := hrel
    by_cases hlt : k < n
    · obtain ⟨r, hr⟩ : ∃ r, l[k]? = some r := ⟨_, List.getElem?_eq_getElem (by rw [← HA.out.1]; exact hlt)⟩
      obtain ⟨ab, ao, rfl, c0⟩ := HA.out.2 k r hr
      simp only [mkS] at c0
      have q0 : (0 : Int) ≤ (k : Int) := by omega
      have q1 : (k : Int) < (n : Int) := by omega
      by_cases hz : (150 : Int) < (r.size : Int)
      · obtain rfl : R = true := HR.out.trans <| List.any_eq_true.2 ⟨r, List.mem_of_getElem? hr, by simp; omega⟩
        clear hr
        go_wp2
        go_ret
        exact ⟨rfl, rfl⟩
      · have hs' : Hid (∀ s ∈ l.take (k + 1), s.size ≤ 150) := Lib.hid (fun s hs1 => by
          rw [List.take_add_one, hr] at hs1
          rcases List.mem_append.1 hs1 with h | h
          · exact hs.out s h
          · obtain rfl : s = r := by simpa using h
            omega)
        clear hr
        go_wp2
        go_roundw
        case rel => exact ⟨k + 1, by go_num, by omega, hs', trivial⟩
        case measure => simp [intOf]; omega
    · obtain rfl : k = n := by omega
      obtain rfl : R = false := HR.out.trans <| by
        refine List.any_eq_false.2 fun s h => ?_
        have := hs.out s (by rw [HA.out.1, List.take_length]; exact h)
        simp; omega
      go_wp2
      go_ret
      exact ⟨rfl, rfl⟩

set_option maxHeartbeats 16000000 in
set_option maxRecDepth 100000 in
theorem same_any (a a' : Option Addr) (c c' : Nat) (l l' : List ByteArray) (n n' : Nat) (hn : n = l.length) (hn' : n' = l'.length) (hl : n ≤ 9223372036854775807) (w : World) (ha : SlOf mkS w a l) (ha' : SlOf mkS w a' l') :
    Calls Tryz.prog 19 #[.slice a n c, .slice a' n' c'] w fun e w' => e = .returned (.bool (decide (l = l'))) ∧ Below w.heap.size w w' := by
  have HA := Lib.hid (And.intro hn ha)
  have HA' := Lib.hid (And.intro hn' ha')
  clear ha hn ha' hn'
  obtain ⟨R, hR⟩ : ∃ R, R = decide (l = l') := ⟨_, rfl⟩
  have HR := Lib.hid hR
  rw [← hR]
  clear hR
  by_cases hne : n = n'
  case neg =>
    obtain rfl : R = false := HR.out.trans <| decide_eq_false (fun e => hne (by rw [HA.out.1, HA'.out.1, e]))
    have hne' : ¬ ((n : Int) = (n' : Int)) := by omega
    go_enter Tryz.func19, Tryz.ntmps19
    go_wp2
    go_ret
    exact ⟨rfl, Below.refl _ _⟩
  subst hne
  go_enter Tryz.func19, Tryz.ntmps19
  go_upto_region 4 with fail
  go_loopw [5] (fun v5 wr => ∃ (k : Nat), v5 = .int .i64 (k : Int) ∧ k ≤ n ∧ Hid (l.take k = l'.take k) ∧ Hid (Below w.heap.size w wr)) (fun v5 _ => n - (intOf v5).toNat)
  case atStart => exact ⟨0, rfl, Nat.zero_le _, Lib.hid (by simp), Lib.hid (Below.refl _ _)⟩
  case round =>
    obtain ⟨k, rfl, hk, hs, HB⟩ := hrel
    by_cases hlt : k < n
    · obtain ⟨r, hr⟩ : ∃ r, l[k]? = some r := ⟨_, List.getElem?_eq_getElem (by rw [← HA.out.1]; exact hlt)⟩
      obtain ⟨r', hr'⟩ : ∃ r', l'[k]? = some r' := ⟨_, List.getElem?_eq_getElem (by rw [← HA'.out.1]; exact hlt)⟩
      obtain ⟨ab, ao, rfl, c0⟩ := (HA.out.2.below HB.out) k r hr
      obtain ⟨ab', ao', rfl, c0'⟩ := (HA'.out.2.below HB.out) k r' hr'
      simp only [mkS] at c0 c0'
      have q0 : (0 : Int) ≤ (k : Int) := by omega
      have q1 : (k : Int) < (n : Int) := by omega
      have hlt1 := (List.getElem?_eq_some_iff.1 hr).1
      have hlt2 := (List.getElem?_eq_some_iff.1 hr').1
      by_cases hz : r = r'
      · subst hz
        have hb : (r.toList == r.toList) = true := by simp
        have hs' : Hid (l.take (k + 1) = l'.take (k + 1)) := Lib.hid (by rw [List.take_add_one, List.take_add_one, hs.out, hr, hr'])
        clear hr hr' hlt1 hlt2
        go_upto_region 6 with fail
        go_quiet (fail)
        go_wp2
        go_roundw
        case rel => exact ⟨k + 1, by go_num, by omega, hs', Lib.hid (HB.out.trans (below_drewN _ _))⟩
        case measure => simp [intOf]; omega
      · have hb : (r.toList == r'.toList) = false := by
          rw [beq_eq_false_iff_ne]
          intro e
          refine hz ?_
          rw [ByteArray.toList_eq, ByteArray.toList_eq] at e
          exact ByteArray.ext (Array.ext' e)
        obtain rfl : R = false := HR.out.trans <| decide_eq_false (fun e => by
          rw [e] at hr
          exact hz (Option.some.inj (hr.symm.trans hr')))
        clear hr hr' hlt1 hlt2
        go_upto_region 6 with fail
        go_quiet (fail)
        go_wp2
        go_ret
        exact ⟨rfl, HB.out.trans (below_drewN _ _)⟩
    · obtain rfl : k = n := by omega
      obtain rfl : R = true := HR.out.trans <| decide_eq_true (by
        have := hs.out
        rw [HA.out.1] at this
        rw [List.take_length, show l.length = l'.length from HA.out.1.symm.trans HA'.out.1, List.take_length] at this
        exact this)
      go_wp2
      go_ret
      exact ⟨rfl, HB.out⟩
end Go.Proofs.YtjincmagbbpooaaGreatDoor
