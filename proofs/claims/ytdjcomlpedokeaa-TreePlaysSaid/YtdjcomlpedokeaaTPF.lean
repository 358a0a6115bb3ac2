import Derived.Test.YtdjcomlpedokeaaF0
import Derived.Test.YtdjcomlpedokeaaTP5
import Derived.Deep.Slices
import Derived.Deep.Fields
import Derived.ChangeSame
import Derived.Deep.Grids
set_option linter.unusedVariables false
set_option maxRecDepth 100000
namespace Go.Proofs.Ytdjcomlpedokeaa
open Go.ChangeShapes Go.WideShapes Go.ChangeAt Go.RowKit Go.Deep

theorem Try.cellsI1 : Try.prog.cellsOf 3 = 1 := by kernel_rfl
theorem Try.cellsB1 : Try.prog.cellsOf 4 = 1 := by kernel_rfl
theorem Try.cellsStep : Try.prog.cellsOf 33 = 3 := by kernel_rfl

section
variable {H : Type} {enc : TypeId × Value → H}

theorem add_none (b off j : Nat) : (⟨b, off, none⟩ : Addr).add j = ⟨b, off + j, none⟩ := by unfold Addr.add; split <;> simp_all

/-- A slice of steps that came in. -/
theorem open_steps {W : World} {base : Nat} {v : Value} {d : DataW H} {p : List MemPlace} (hv : Value.okWide Try.prog W .any base 22 v)
    (h : DataW.Trod enc Try.prog W 0 (fun _ => true) true 22 v d p) : ∃ (a : Option Addr) (cap : Nat) (l : List StepD), v = .slice a l.length cap ∧ StepsAt W a l := by
  obtain ⟨a0, len, cap, rfl⟩ := okWide_slice Try.underlying22 hv
  obtain ⟨fuel, hf⟩ := h
  rcases open_slice Try.underlying22 hf with ⟨hcs, hx⟩ | ⟨a, len', cap', m, n, D, Pl, hcs, hb, hl, hm, hmm, hx, hi⟩
  · simp [Value.cells] at hcs
    obtain ⟨rfl, rfl, rfl⟩ := hcs
    exact ⟨none, 0, [], rfl, fun j x h => by simp at h⟩
  · simp [Value.cells] at hcs
    obtain ⟨rfl, rfl, rfl⟩ := hcs
    simp only [if_true] at hmm
    rw [Try.cellsStep] at hi
    have sp : 0 < len → a.spot = none := by
      intro h0
      obtain ⟨cs, hc, ht⟩ := hi 0 (by omega)
      obtain ⟨_, hcl, hat⟩ := World.cells?_some hc
      match cs, hcl with
      | [v0, v1, v2], _ =>
        have a0 := hat 0 (by omega)
        simpa [Addr.add] using World.cell?_spot a0
    have one : ∀ i, i < len → ∃ s : StepD, ∃ b off, a = ⟨b, off, none⟩ ∧ StepAt W b (off + i * 3) s := by
      intro i hil
      obtain ⟨cs, hc, ht⟩ := hi i (by omega)
      obtain ⟨ys, n', -, hy, hlen, hyl, hg⟩ := DataW.trod_struct Try.underlying33 ht
      obtain ⟨_, hcl, hat⟩ := World.cells?_some hc
      match cs, hcl, ys, hyl with
      | [v0, v1, v2], _, [y0, y1, y2], _ =>
        have g0 := hg 0 _ rfl
        have g1 := hg 1 _ rfl
        have g2 := hg 2 _ rfl
        simp [Try.cells9] at g0
        simp [Try.cellsI1] at g1
        simp [Try.cellsB1] at g2
        obtain ⟨z0, e0, -, -⟩ := DataW.trod_string Try.underlying9 g0
        obtain ⟨z1, e1, -, w1⟩ := DataW.trod_int Try.underlying3 g1
        obtain ⟨z2, e2, -⟩ := DataW.trod_bool Try.underlying4 g2
        obtain rfl : v0 = .string z0 := by simpa using e0
        obtain rfl : v1 = .int .i64 z1 := by simpa using e1
        obtain rfl : v2 = .bool z2 := by simpa using e2
        have a0 := hat 0 (by omega)
        have a1 := hat 1 (by omega)
        have a2 := hat 2 (by omega)
        obtain ⟨b, off, spot⟩ := a
        have hspot : spot = none := sp (by omega)
        subst hspot
        simp only [add_none] at a0 a1 a2
        exact ⟨⟨z0, z1, z2⟩, b, off, rfl, ⟨a0, a1, a2⟩⟩
    have one' : ∀ i, ∃ s : StepD, i < len → ∃ b off, a = ⟨b, off, none⟩ ∧ StepAt W b (off + i * 3) s := by
      intro i
      by_cases hil : i < len
      · obtain ⟨s, hs⟩ := one i hil
        exact ⟨s, fun _ => hs⟩
      · exact ⟨⟨⟨#[]⟩, 0, false⟩, fun h => absurd h hil⟩
    refine ⟨some a, cap, (List.range len).map (fun i => Classical.choose (one' i)), by simp, fun j s hj => ?_⟩
    have hjl : j < len := by have := (List.getElem?_eq_some_iff.1 hj).1; simpa using this
    have hs : Classical.choose (one' j) = s := by simpa [List.getElem?_map, List.getElem?_range hjl] using hj
    obtain ⟨b, off, e, hst⟩ := Classical.choose_spec (one' j) hjl
    rw [hs] at hst
    exact ⟨b, off, by rw [e], hst⟩
end
theorem TreePlays_walk (v : Value) (key : ByteArray) (W : World) (k : ∃ (a : Option Addr) (cap : Nat) (l : List StepD), v = .slice a l.length cap ∧ StepsAt W a l) :
    Calls Try.prog 3 #[v, .string key] W fun e w' => e = .returned (.bool true) ∧ Below W.heap.size W w' := by
  obtain ⟨a, cap, l, rfl, hl⟩ := k
  exact TreePlays_any a cap l key W hl
end Go.Proofs.Ytdjcomlpedokeaa
