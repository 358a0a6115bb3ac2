import Derived.Test.YtlmkcdebchahpaaDoorF0L
import Derived.Test.YtlmkcdebchahpaaDoorLX10
import Derived.ChangeSlices
set_option linter.unusedVariables false
set_option maxRecDepth 100000
namespace Go.Proofs.YtlmkcdebchahpaaDoor
open Go.ChangeShapes Go.WideShapes Go.ChangeAt Go.RowKit

theorem Tryd.cellsB : Tryd.prog.cellsOf 5 = 1 := by kernel_rfl

section
variable {H : Type} {enc : TypeId × Value → H}

theorem SlOf.nil {α : Type} (mk : α → Value) (W : World) (a : Option Addr) : SlOf mk W a [] := by intro j x h; simp at h
theorem SlOf.some {α : Type} {mk : α → Value} {W : World} {b off len : Nat} (d : α) (ss : List α) (hlen : len ≤ ss.length)
    (hcell : ∀ i, i < ss.length → W.cell? ((⟨b, off, none⟩ : Addr).add i) = some (mk (ss.getD i d))) : SlOf mk W (.some ⟨b, off, none⟩) (ss.take len) := by
  intro j s hj
  refine ⟨b, off, rfl, ?_⟩
  have hjl : j < len := by
    rcases Nat.lt_or_ge j len with h | h
    · exact h
    · rw [List.getElem?_eq_none (by rw [List.length_take]; omega)] at hj; cases hj
  have := hcell j (by omega)
  rw [List.getElem?_take, if_pos hjl] at hj
  rw [List.getD_eq_getElem?_getD, hj] at this
  have hadd : (⟨b, off, none⟩ : Addr).add j = ⟨b, off + j, none⟩ := by unfold Addr.add; split <;> simp_all
  rw [hadd] at this
  exact this

/-- A slice of bytes that came in. -/
theorem open_u8sl {W : World} {base : Nat} {v : Value} {d : DataW H} {p : List MemPlace} (hv : Value.okWide Tryd.prog W .any base 22 v)
    (h : DataW.Trod enc Tryd.prog W 0 (fun _ => true) true 22 v d p) : ∃ (a : Option Addr) (cap : Nat) (l : List Nat), v = .slice a l.length cap ∧ l.length ≤ cap ∧ l.length ≤ maxLen ∧ SlOf mkB W a l := by
  obtain ⟨a0, len, cap, rfl⟩ := okWide_slice Tryd.underlying22 hv
  obtain ⟨fuel, hf⟩ := h
  rcases open_ints Tryd.underlying22 Tryd.underlying5 Tryd.cellsB hf with ⟨hcs, hx⟩ | ⟨a, len', cap', zs, hcs, _, hl, hm, hz, hx, hcell, hws⟩
  · simp [Value.cells] at hcs
    obtain ⟨rfl, rfl, rfl⟩ := hcs
    exact ⟨none, 0, [], rfl, Nat.le_refl _, Nat.zero_le _, SlOf.nil _ _ _⟩
  · simp [Value.cells] at hcs
    obtain ⟨rfl, rfl, rfl⟩ := hcs
    simp only [if_true] at hz
    have hw : ∀ n ∈ zs, 0 ≤ n ∧ n ≤ 255 := fun n hn => by simpa [Lit.wf, IntKind.min, IntKind.max, IntKind.signed, IntKind.bits] using hws n hn
    rcases Nat.eq_zero_or_pos len with h0 | h0
    · subst h0
      exact ⟨_, cap, [], rfl, Nat.zero_le _, Nat.zero_le _, SlOf.nil _ _ _⟩
    · obtain ⟨b, off, spot⟩ := a
      have hspot : spot = none := by simpa [Addr.add] using World.cell?_spot (hcell 0 (by omega))
      subst hspot
      have hlen : ((zs.map Int.toNat).take len).length = len := by rw [List.length_take, List.length_map]; omega
      refine ⟨_, cap, (zs.map Int.toNat).take len, by rw [hlen], by omega, by omega, SlOf.some 0 _ (by rw [List.length_map]; omega) (fun i hi => ?_)⟩
      rw [List.length_map] at hi
      rw [hcell i hi]
      have e : zs[i]? = Option.some zs[i] := List.getElem?_eq_getElem hi
      have := hw zs[i] (List.getElem_mem hi)
      simp only [List.getD_eq_getElem?_getD, List.getElem?_map, e, Option.map_some, Option.getD_some, mkB]
      congr 2
      omega
end
theorem LexWords_walk (s : ByteArray) (v1 : Value) (w : World)
    (h1 : ∃ (a : Option Addr) (cap : Nat) (l : List Nat), v1 = .slice a l.length cap ∧ l.length ≤ cap ∧ l.length ≤ maxLen ∧ SlOf mkB w a l) :
    Calls Tryd.prog 3 #[.string s, v1] w fun e w' => e = .returned (.bool true) ∧ Below w.heap.size w w' := by
  obtain ⟨a1, c1, l1, rfl, hk1, hm1, hs1⟩ := h1
  unfold maxLen at hm1
  exact LexWords_any s a1 c1 l1 w hs1 hk1 (by omega)
end Go.Proofs.YtlmkcdebchahpaaDoor
