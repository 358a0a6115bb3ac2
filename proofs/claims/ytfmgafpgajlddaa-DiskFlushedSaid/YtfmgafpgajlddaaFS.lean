import Derived.Test.YtfmgafpgajlddaaFP
import Derived.Test.YtfmgafpgajlddaaD10
import Derived.Deep.Grids
set_option linter.unusedVariables false
namespace Go.Proofs.Ytfmgafpgajlddaa
open Go.ChangeShapes Go.WideShapes Go.ChangeAt Go.RowKit Go.Deep

theorem Try.cellsS : Try.prog.cellsOf 9 = 1 := by kernel_rfl
theorem Try.cellsB : Try.prog.cellsOf 4 = 1 := by kernel_rfl

section
variable {H : Type} {enc : TypeId × Value → H}

theorem at_some {α : Type} {mk : α → Value} {W : World} {b off len : Nat} (d : α) (ss : List α) (hlen : len ≤ ss.length)
    (hcell : ∀ i, i < ss.length → W.cell? ((⟨b, off, none⟩ : Addr).add i) = some (mk (ss.getD i d))) : ∀ j x, (ss.take len)[j]? = some x → ∃ b' off', (Option.some (⟨b, off, none⟩ : Addr)) = .some ⟨b', off', none⟩ ∧ W.cell? ⟨b', off' + j, none⟩ = Option.some (mk x) := by
  intro j s hj
  refine ⟨b, off, rfl, ?_⟩
  have hjl : j < len := by
    rcases Nat.lt_or_ge j len with h | h
    · exact h
    · rw [List.getElem?_eq_none (by rw [List.length_take]; omega)] at hj; cases hj
  have := hcell j (by omega)
  rw [List.getElem?_take, if_pos hjl] at hj
  rw [List.getD_eq_getElem?_getD, hj] at this
  have hadd : (⟨b, off, none⟩ : Addr).add j = ⟨b, off + j, none⟩ := by unfold Addr.add; split <;> simp_all
  rw [hadd] at this
  exact this

/-- A slice of texts that came in. -/
theorem open_strsl {W : World} {base : Nat} {v : Value} {d : DataW H} {p : List MemPlace} (hv : Value.okWide Try.prog W .any base 33 v)
    (h : DataW.Trod enc Try.prog W 0 (fun _ => true) true 33 v d p) : ∃ (a : Option Addr) (cap : Nat) (l : List ByteArray), v = .slice a l.length cap ∧ StrsAt W a l := by
  obtain ⟨a0, len, cap, rfl⟩ := okWide_slice Try.underlying33 hv
  obtain ⟨fuel, hf⟩ := h
  rcases open_strings Try.underlying33 Try.underlying9 Try.cellsS hf with ⟨hcs, hx⟩ | ⟨a, len', cap', ss, hcs, _, hl, hm, hz, hx, hcell, hws⟩
  · simp [Value.cells] at hcs
    obtain ⟨rfl, rfl, rfl⟩ := hcs
    exact ⟨none, 0, [], rfl, fun j x h => by simp at h⟩
  · simp [Value.cells] at hcs
    obtain ⟨rfl, rfl, rfl⟩ := hcs
    simp only [if_true] at hz
    rcases Nat.eq_zero_or_pos len with h0 | h0
    · subst h0
      exact ⟨_, cap, [], rfl, fun j x h => by simp at h⟩
    · obtain ⟨b, off, spot⟩ := a
      have hspot : spot = none := by simpa [Addr.add] using World.cell?_spot (hcell 0 (by omega))
      subst hspot
      have hlen : (ss.take len).length = len := by rw [List.length_take]; omega
      exact ⟨_, cap, ss.take len, by rw [hlen], at_some (mk := Value.string) _ ss (by omega) hcell⟩

/-- A slice of bools that came in. -/
theorem open_boolsl {W : World} {base : Nat} {v : Value} {d : DataW H} {p : List MemPlace} (hv : Value.okWide Try.prog W .any base 34 v)
    (h : DataW.Trod enc Try.prog W 0 (fun _ => true) true 34 v d p) : ∃ (a : Option Addr) (cap : Nat) (l : List Bool), v = .slice a l.length cap ∧ BoolsAt W a l := by
  obtain ⟨a0, len, cap, rfl⟩ := okWide_slice Try.underlying34 hv
  obtain ⟨fuel, hf⟩ := h
  rcases open_bools Try.underlying34 Try.underlying4 Try.cellsB hf with ⟨hcs, hx⟩ | ⟨a, len', cap', B, hcs, _, hl, hm, hx, hcell⟩
  · simp [Value.cells] at hcs
    obtain ⟨rfl, rfl, rfl⟩ := hcs
    exact ⟨none, 0, [], rfl, fun j x h => by simp at h⟩
  · simp [Value.cells] at hcs
    obtain ⟨rfl, rfl, rfl⟩ := hcs
    rcases Nat.eq_zero_or_pos len with h0 | h0
    · subst h0
      exact ⟨_, cap, [], rfl, fun j x h => by simp at h⟩
    · obtain ⟨b, off, spot⟩ := a
      have hspot : spot = none := by simpa [Addr.add] using World.cell?_spot (hcell 0 (by omega))
      subst hspot
      have hlen : ((List.range len).map B).length = len := by simp
      refine ⟨_, cap, (List.range len).map B, by rw [hlen], fun j x hj => ⟨b, off, rfl, ?_⟩⟩
      have hjl : j < len := by have := (List.getElem?_eq_some_iff.1 hj).1; rw [hlen] at this; exact this
      rw [range_get B len j hjl] at hj
      cases hj
      have := hcell j (by omega)
      have hadd : (⟨b, off, none⟩ : Addr).add j = ⟨b, off + j, none⟩ := by unfold Addr.add; split <;> simp_all
      rw [hadd] at this
      exact this
end
end Go.Proofs.Ytfmgafpgajlddaa
