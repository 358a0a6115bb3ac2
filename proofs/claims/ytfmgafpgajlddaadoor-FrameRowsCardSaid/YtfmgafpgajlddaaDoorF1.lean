import Derived.Test.YtfmgafpgajlddaaDoorF0
import Derived.Test.YtfmgafpgajlddaaDoorP8
import Derived.ChangeSlices
set_option linter.unusedVariables false
set_option maxRecDepth 100000
namespace Go.Proofs.YtfmgafpgajlddaaDoor
open Go.ChangeShapes Go.WideShapes Go.ChangeAt Go.RowKit

theorem Tryd.cellsS : Tryd.prog.cellsOf 9 = 1 := by kernel_rfl
theorem Tryd.cellsU : Tryd.prog.cellsOf 38 = 1 := by kernel_rfl

section
variable {H : Type} {enc : TypeId × Value → H}

theorem SlOf.nil {α : Type} (mk : α → Value) (W : World) (a : Option Addr) : SlOf mk W a [] := by intro j x h; simp at h
theorem SlOf.some {α : Type} {mk : α → Value} {W : World} {b off len : Nat} (d : α) (ss : List α) (hlen : len ≤ ss.length)
    (hcell : ∀ i, i < ss.length → W.cell? ((⟨b, off, none⟩ : Addr).add i) = some (mk (ss.getD i d))) : SlOf mk W (.some ⟨b, off, none⟩) (ss.take len) := by
  intro j s hj
  refine ⟨b, off, rfl, ?_⟩
  have hjl : j < len := by
    rcases Nat.lt_or_ge j len with h | h
    · exact h
    · rw [List.getElem?_eq_none (by rw [List.length_take]; omega)] at hj; cases hj
  have := hcell j (by omega)
  rw [List.getElem?_take, if_pos hjl] at hj
  rw [List.getD_eq_getElem?_getD, hj] at this
  have hadd : (⟨b, off, none⟩ : Addr).add j = ⟨b, off + j, none⟩ := by unfold Addr.add; split <;> simp_all
  rw [hadd] at this
  exact this

/-- A slice of texts that came in. -/
theorem open_strsl {W : World} {base : Nat} {v : Value} {d : DataW H} {p : List MemPlace} (hv : Value.okWide Tryd.prog W .any base 37 v)
    (h : DataW.Trod enc Tryd.prog W 0 (fun _ => true) true 37 v d p) : ∃ (a : Option Addr) (cap : Nat) (l : List ByteArray), v = .slice a l.length cap ∧ l.length ≤ cap ∧ l.length ≤ maxLen ∧ SlOf mkS W a l := by
  obtain ⟨a0, len, cap, rfl⟩ := okWide_slice Tryd.underlying37 hv
  obtain ⟨fuel, hf⟩ := h
  rcases open_strings Tryd.underlying37 Tryd.underlying9 Tryd.cellsS hf with ⟨hcs, hx⟩ | ⟨a, len', cap', ss, hcs, _, hl, hm, hz, hx, hcell, hws⟩
  · simp [Value.cells] at hcs
    obtain ⟨rfl, rfl, rfl⟩ := hcs
    exact ⟨none, 0, [], rfl, Nat.le_refl _, Nat.zero_le _, SlOf.nil _ _ _⟩
  · simp [Value.cells] at hcs
    obtain ⟨rfl, rfl, rfl⟩ := hcs
    simp only [if_true] at hz
    rcases Nat.eq_zero_or_pos len with h0 | h0
    · subst h0
      exact ⟨_, cap, [], rfl, Nat.zero_le _, Nat.zero_le _, SlOf.nil _ _ _⟩
    · obtain ⟨b, off, spot⟩ := a
      have hspot : spot = none := by simpa [Addr.add] using World.cell?_spot (hcell 0 (by omega))
      subst hspot
      have hlen : (ss.take len).length = len := by rw [List.length_take]; omega
      exact ⟨_, cap, ss.take len, by rw [hlen], by omega, by omega, SlOf.some _ ss (by omega) hcell⟩

/-- A slice of numbers that came in. -/
theorem open_u32sl {W : World} {base : Nat} {v : Value} {d : DataW H} {p : List MemPlace} (hv : Value.okWide Tryd.prog W .any base 36 v)
    (h : DataW.Trod enc Tryd.prog W 0 (fun _ => true) true 36 v d p) : ∃ (a : Option Addr) (cap : Nat) (l : List Nat), v = .slice a l.length cap ∧ l.length ≤ cap ∧ l.length ≤ maxLen ∧ SlOf mkU W a l ∧ ∀ x ∈ l, x < 4294967296 := by
  obtain ⟨a0, len, cap, rfl⟩ := okWide_slice Tryd.underlying36 hv
  obtain ⟨fuel, hf⟩ := h
  rcases open_ints Tryd.underlying36 Tryd.underlying38 Tryd.cellsU hf with ⟨hcs, hx⟩ | ⟨a, len', cap', zs, hcs, _, hl, hm, hz, hx, hcell, hws⟩
  · simp [Value.cells] at hcs
    obtain ⟨rfl, rfl, rfl⟩ := hcs
    exact ⟨none, 0, [], rfl, Nat.le_refl _, Nat.zero_le _, SlOf.nil _ _ _, by simp⟩
  · simp [Value.cells] at hcs
    obtain ⟨rfl, rfl, rfl⟩ := hcs
    simp only [if_true] at hz
    have hw : ∀ n ∈ zs, 0 ≤ n ∧ n ≤ 4294967295 := fun n hn => by simpa [Lit.wf, IntKind.min, IntKind.max, IntKind.signed, IntKind.bits] using hws n hn
    rcases Nat.eq_zero_or_pos len with h0 | h0
    · subst h0
      exact ⟨_, cap, [], rfl, Nat.zero_le _, Nat.zero_le _, SlOf.nil _ _ _, by simp⟩
    · obtain ⟨b, off, spot⟩ := a
      have hspot : spot = none := by simpa [Addr.add] using World.cell?_spot (hcell 0 (by omega))
      subst hspot
      have hlen : ((zs.map Int.toNat).take len).length = len := by rw [List.length_take, List.length_map]; omega
      refine ⟨_, cap, (zs.map Int.toNat).take len, by rw [hlen], by omega, by omega, SlOf.some 0 _ (by rw [List.length_map]; omega) (fun i hi => ?_), fun x hx => ?_⟩
      · rw [List.length_map] at hi
        rw [hcell i hi]
        have e : zs[i]? = Option.some zs[i] := List.getElem?_eq_getElem hi
        have := hw zs[i] (List.getElem_mem hi)
        simp only [List.getD_eq_getElem?_getD, List.getElem?_map, e, Option.map_some, Option.getD_some, mkU]
        congr 2
        omega
      · obtain ⟨y, hy, rfl⟩ := List.mem_map.1 (List.mem_of_mem_take hx)
        have := hw y hy
        omega
end
theorem PackRows_walk (v1 v2 : Value) (w : World) (hg : ErrVar w)
    (h1 : ∃ (a : Option Addr) (cap : Nat) (l : List Nat), v1 = .slice a l.length cap ∧ l.length ≤ cap ∧ l.length ≤ maxLen ∧ SlOf mkU w a l ∧ ∀ x ∈ l, x < 4294967296)
    (h2 : ∃ (a : Option Addr) (cap : Nat) (l : List ByteArray), v2 = .slice a l.length cap ∧ l.length ≤ cap ∧ l.length ≤ maxLen ∧ SlOf mkS w a l) :
    Calls Tryd.prog 4 #[v1, v2] w fun e w' => e = .returned (.bool true) ∧ Below w.heap.size w w' := by
  obtain ⟨a1, c1, l1, rfl, hk1, hm1, hs1, hn1⟩ := h1
  obtain ⟨a2, c2, l2, rfl, hk2, hm2, hs2⟩ := h2
  unfold maxLen at hm1 hm2
  exact PackRows_any a1 a2 c1 c2 l1 l2 hn1 w hg hs1 hs2 hk1 hk2 (by omega) (by omega)
end Go.Proofs.YtfmgafpgajlddaaDoor
