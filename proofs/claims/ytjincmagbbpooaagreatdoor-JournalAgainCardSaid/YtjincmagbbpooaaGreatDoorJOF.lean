import Derived.Test.YtjincmagbbpooaaGreatDoorJPF
import Derived.Test.YtjincmagbbpooaaGreatDoorJN
import Derived.Deep.Grids
set_option linter.unusedVariables false
set_option maxRecDepth 100000
namespace Go.Proofs.YtjincmagbbpooaaGreatDoor
open Go.ChangeShapes Go.WideShapes Go.ChangeAt Go.RowKit Go.Deep

theorem Tryz.cellsS : Tryz.prog.cellsOf 9 = 1 := by kernel_rfl
theorem Tryz.cellsB : Tryz.prog.cellsOf 4 = 1 := by kernel_rfl

theorem range_get {α : Type} (f : Nat → α) (n i : Nat) (h : i < n) : ((List.range n).map f)[i]? = some (f i) := by
  rw [List.getElem?_map, List.getElem?_range h]; rfl
section
variable {H : Type} {enc : TypeId × Value → H}

theorem at_some {α : Type} {mk : α → Value} {W : World} {b off len : Nat} (d : α) (ss : List α) (hlen : len ≤ ss.length)
    (hcell : ∀ i, i < ss.length → W.cell? ((⟨b, off, none⟩ : Addr).add i) = some (mk (ss.getD i d))) : ∀ j x, (ss.take len)[j]? = some x → ∃ b' off', (Option.some (⟨b, off, none⟩ : Addr)) = .some ⟨b', off', none⟩ ∧ W.cell? ⟨b', off' + j, none⟩ = Option.some (mk x) := by
  intro j s hj
  refine ⟨b, off, rfl, ?_⟩
  have hjl : j < len := by
    rcases Nat.lt_or_ge j len with h | h
    · exact h
    · rw [List.getElem?_eq_none (by rw [List.length_take]; omega)] at hj; cases hj
  have := hcell j (by omega)
  rw [List.getElem?_take, if_pos hjl] at hj
  rw [List.getD_eq_getElem?_getD, hj] at this
  have hadd : (⟨b, off, none⟩ : Addr).add j = ⟨b, off + j, none⟩ := by unfold Addr.add; split <;> simp_all
  rw [hadd] at this
  exact this

/-- A slice of texts that came in. -/
theorem open_strsl {W : World} {base : Nat} {v : Value} {d : DataW H} {p : List MemPlace} (hv : Value.okWide Tryz.prog W .any base 26 v)
    (h : DataW.Trod enc Tryz.prog W 0 (fun _ => true) true 26 v d p) : ∃ (a : Option Addr) (cap : Nat) (l : List ByteArray), v = .slice a l.length cap ∧ SlOf mkS W a l := by
  obtain ⟨a0, len, cap, rfl⟩ := okWide_slice Tryz.underlying26 hv
  obtain ⟨fuel, hf⟩ := h
  rcases open_strings Tryz.underlying26 Tryz.underlying9 Tryz.cellsS hf with ⟨hcs, hx⟩ | ⟨a, len', cap', ss, hcs, _, hl, hm, hz, hx, hcell, hws⟩
  · simp [Value.cells] at hcs
    obtain ⟨rfl, rfl, rfl⟩ := hcs
    exact ⟨none, 0, [], rfl, fun j x h => by simp at h⟩
  · simp [Value.cells] at hcs
    obtain ⟨rfl, rfl, rfl⟩ := hcs
    simp only [if_true] at hz
    rcases Nat.eq_zero_or_pos len with h0 | h0
    · subst h0
      exact ⟨_, cap, [], rfl, fun j x h => by simp at h⟩
    · obtain ⟨b, off, spot⟩ := a
      have hspot : spot = none := by simpa [Addr.add] using World.cell?_spot (hcell 0 (by omega))
      subst hspot
      have hlen : (ss.take len).length = len := by rw [List.length_take]; omega
      exact ⟨_, cap, ss.take len, by rw [hlen], at_some (mk := Value.string) _ ss (by omega) hcell⟩

/-- A slice of bools that came in. -/
theorem open_boolsl {W : World} {base : Nat} {v : Value} {d : DataW H} {p : List MemPlace} (hv : Value.okWide Tryz.prog W .any base 36 v)
    (h : DataW.Trod enc Tryz.prog W 0 (fun _ => true) true 36 v d p) : ∃ (a : Option Addr) (cap : Nat) (l : List Bool), v = .slice a l.length cap ∧ BoolsAt W a l := by
  obtain ⟨a0, len, cap, rfl⟩ := okWide_slice Tryz.underlying36 hv
  obtain ⟨fuel, hf⟩ := h
  rcases open_bools Tryz.underlying36 Tryz.underlying4 Tryz.cellsB hf with ⟨hcs, hx⟩ | ⟨a, len', cap', B, hcs, _, hl, hm, hx, hcell⟩
  · simp [Value.cells] at hcs
    obtain ⟨rfl, rfl, rfl⟩ := hcs
    exact ⟨none, 0, [], rfl, fun j x h => by simp at h⟩
  · simp [Value.cells] at hcs
    obtain ⟨rfl, rfl, rfl⟩ := hcs
    rcases Nat.eq_zero_or_pos len with h0 | h0
    · subst h0
      exact ⟨_, cap, [], rfl, fun j x h => by simp at h⟩
    · obtain ⟨b, off, spot⟩ := a
      have hspot : spot = none := by simpa [Addr.add] using World.cell?_spot (hcell 0 (by omega))
      subst hspot
      have hlen : ((List.range len).map B).length = len := by simp
      refine ⟨_, cap, (List.range len).map B, by rw [hlen], fun j x hj => ⟨b, off, rfl, ?_⟩⟩
      have hjl : j < len := by have := (List.getElem?_eq_some_iff.1 hj).1; rw [hlen] at this; exact this
      rw [range_get B len j hjl] at hj
      cases hj
      have := hcell j (by omega)
      have hadd : (⟨b, off, none⟩ : Addr).add j = ⟨b, off + j, none⟩ := by unfold Addr.add; split <;> simp_all
      rw [hadd] at this
      exact this
end
end Go.Proofs.YtjincmagbbpooaaGreatDoor
