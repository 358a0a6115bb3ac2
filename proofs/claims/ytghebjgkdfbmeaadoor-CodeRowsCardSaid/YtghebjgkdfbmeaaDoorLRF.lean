import Derived.Test.YtghebjgkdfbmeaaDoorF0L
import Derived.Test.YtghebjgkdfbmeaaDoorLPF
import Derived.Test.YtghebjgkdfbmeaaDoorLR
set_option linter.unusedVariables false
set_option maxRecDepth 100000
namespace Go.Proofs.YtghebjgkdfbmeaaDoor
open Go.ChangeShapes Go.WideShapes Go.ChangeAt Go.RowKit

theorem Tryd.cellsS8 : Tryd.prog.cellsOf 9 = 1 := by kernel_rfl
section
variable {H : Type} {enc : TypeId × Value → H}
/-- A slice of texts that came in. -/
theorem open_texts {W : World} {base : Nat} {v : Value} {d : DataW H} {p : List MemPlace} (hv : Value.okWide Tryd.prog W .any base 38 v)
    (h : DataW.Trod enc Tryd.prog W 0 (fun _ => true) true 38 v d p) : ∃ (a : Option Addr) (cap : Nat) (l : List ByteArray), v = .slice a l.length cap ∧ Texts W a l ∧ ∀ s ∈ l, s.size ≤ 9223372036854775807 := by
  obtain ⟨a0, len, cap, rfl⟩ := okWide_slice Tryd.underlying38 hv
  obtain ⟨fuel, hf⟩ := h
  rcases open_strings Tryd.underlying38 Tryd.underlying9 Tryd.cellsS8 hf with ⟨hcs, hx⟩ | ⟨a, len', cap', ss, hcs, _, hl, hm, hz, hx, hcell, hws⟩
  · simp [Value.cells] at hcs
    obtain ⟨rfl, rfl, rfl⟩ := hcs
    exact ⟨none, 0, [], rfl, fun j s h => by simp at h, fun s h => by cases h⟩
  · simp [Value.cells] at hcs
    obtain ⟨rfl, rfl, rfl⟩ := hcs
    simp only [if_true] at hz
    rcases Nat.eq_zero_or_pos len with h0 | h0
    · subst h0
      exact ⟨_, cap, [], rfl, fun j s h => by simp at h, fun s h => by cases h⟩
    · obtain ⟨b, off, spot⟩ := a
      have hspot : spot = none := by simpa [Addr.add] using World.cell?_spot (hcell 0 (by omega))
      subst hspot
      have hlen : (ss.take len).length = len := by rw [List.length_take]; omega
      refine ⟨_, cap, ss.take len, by rw [hlen], fun j s hj => ⟨b, off, rfl, ?_⟩, fun s hs => hws s (List.mem_of_mem_take hs)⟩
      have hjl : j < len := by
        rcases Nat.lt_or_ge j len with h | h
        · exact h
        · rw [List.getElem?_eq_none (by omega)] at hj; cases hj
      have := hcell j (by omega)
      rw [List.getElem?_take, if_pos hjl] at hj
      rw [List.getD_eq_getElem?_getD, hj] at this
      have hadd : (⟨b, off, none⟩ : Addr).add j = ⟨b, off + j, none⟩ := by unfold Addr.add; split <;> simp_all
      rw [hadd] at this
      exact this
end
theorem CodeRows_walk (v : Value) (W : World) (hg : ErrVar W) (hm : MaxV W) (k : ∃ (a : Option Addr) (cap : Nat) (l : List ByteArray), v = .slice a l.length cap ∧ Texts W a l ∧ ∀ s ∈ l, s.size ≤ 9223372036854775807) :
    Calls Tryd.prog 5 #[v] W fun e w' => e = .returned (.bool true) ∧ Below W.heap.size W w' := by
  obtain ⟨a, cap, l, rfl, h1, h2⟩ := k
  exact CodeRows_any a cap l W h1 h2 hg hm
end Go.Proofs.YtghebjgkdfbmeaaDoor
