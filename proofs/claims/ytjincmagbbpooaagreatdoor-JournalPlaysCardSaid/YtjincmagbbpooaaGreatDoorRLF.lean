import Derived.Test.YtjincmagbbpooaaGreatDoorM1
import Derived.Test.YtjincmagbbpooaaGreatDoorRL
import Derived.Deep.Slices
import Derived.Deep.Fields
import Derived.ChangeSame
import Derived.Deep.Grids
set_option linter.unusedVariables false
set_option maxRecDepth 100000
namespace Go.Proofs.YtjincmagbbpooaaGreatDoor
open Go.ChangeShapes Go.WideShapes Go.ChangeAt Go.RowKit Go.Deep

theorem Tryz.cellsB : Tryz.prog.cellsOf 4 = 1 := by kernel_rfl
theorem Tryz.cellsI1 : Tryz.prog.cellsOf 3 = 1 := by kernel_rfl
theorem Tryz.cellsS1 : Tryz.prog.cellsOf 9 = 1 := by kernel_rfl
theorem Tryz.cellsBs : Tryz.prog.cellsOf 36 = 1 := by kernel_rfl
theorem Tryz.cellsStep : Tryz.prog.cellsOf 58 = 4 := by kernel_rfl

section
variable {H : Type} {enc : TypeId × Value → H}

theorem add_none (b off j : Nat) : (⟨b, off, none⟩ : Addr).add j = ⟨b, off + j, none⟩ := by unfold Addr.add; split <;> simp_all

theorem bools_lie {W : World} {fuel : Nat} {v : Value} {x : DataW H × List MemPlace} (hf : DataW.trod enc Tryz.prog W 0 (fun _ => true) true fuel 36 [v] = some x) :
    ∃ (a : Option Addr) (cap : Nat) (l : List Bool), v = .slice a l.length cap ∧ BoolsAt W a l := by
  rcases open_bools Tryz.underlying36 Tryz.underlying4 Tryz.cellsB hf with ⟨hcs, hx⟩ | ⟨a, len, cap, B, hcs, _, hl, hm, hx, hcell⟩
  · obtain rfl : v = .slice none 0 0 := by simpa using hcs
    exact ⟨none, 0, [], rfl, BoolsAt.nil _ _⟩
  · obtain rfl : v = .slice (some a) len cap := by simpa using hcs
    rcases Nat.eq_zero_or_pos len with h0 | h0
    · subst h0
      exact ⟨_, cap, [], rfl, BoolsAt.nil _ _⟩
    · obtain ⟨b, off, spot⟩ := a
      have hspot : spot = none := by simpa [Addr.add] using World.cell?_spot (hcell 0 (by omega))
      subst hspot
      refine ⟨_, cap, (List.range len).map B, by simp, fun j x hj => ⟨b, off, rfl, ?_⟩⟩
      have hjl : j < len := by have := (List.getElem?_eq_some_iff.1 hj).1; simpa using this
      obtain rfl : B j = x := by simpa [List.getElem?_map, List.getElem?_range hjl] using hj
      have := hcell j (by omega)
      rw [add_none] at this
      exact this

/-- A slice of steps that came in. -/
theorem open_steps {W : World} {base : Nat} {v : Value} {d : DataW H} {p : List MemPlace} (hv : Value.okWide Tryz.prog W .any base 49 v)
    (h : DataW.Trod enc Tryz.prog W 0 (fun _ => true) true 49 v d p) : ∃ (a : Option Addr) (cap : Nat) (l : List StepD), v = .slice a l.length cap ∧ StepsAt W a l := by
  obtain ⟨a0, len, cap, rfl⟩ := okWide_slice Tryz.underlying49 hv
  obtain ⟨fuel, hf⟩ := h
  rcases open_slice Tryz.underlying49 hf with ⟨hcs, hx⟩ | ⟨a, len', cap', m, n, D, Pl, hcs, hb, hl, hm, hmm, hx, hi⟩
  · simp [Value.cells] at hcs
    obtain ⟨rfl, rfl, rfl⟩ := hcs
    exact ⟨none, 0, [], rfl, fun j x h => by simp at h⟩
  · simp [Value.cells] at hcs
    obtain ⟨rfl, rfl, rfl⟩ := hcs
    simp only [if_true] at hmm
    rw [Tryz.cellsStep] at hi
    have sp : 0 < len → a.spot = none := by
      intro h0
      obtain ⟨cs, hc, ht⟩ := hi 0 (by omega)
      obtain ⟨_, hcl, hat⟩ := World.cells?_some hc
      match cs, hcl with
      | [v0, v1, v2, v3], _ =>
        have a0 := hat 0 (by omega)
        simpa [Addr.add] using World.cell?_spot a0
    have one : ∀ i, i < len → ∃ s : StepD, ∃ b off, a = ⟨b, off, none⟩ ∧ StepAt W b (off + i * 4) s := by
      intro i hil
      obtain ⟨cs, hc, ht⟩ := hi i (by omega)
      obtain ⟨ys, n', -, hy, hlen, hyl, hg⟩ := DataW.trod_struct Tryz.underlying58 ht
      obtain ⟨_, hcl, hat⟩ := World.cells?_some hc
      match cs, hcl, ys, hyl with
      | [v0, v1, v2, v3], _, [y0, y1, y2, y3], _ =>
        have g0 := hg 0 _ rfl
        have g1 := hg 1 _ rfl
        have g2 := hg 2 _ rfl
        have g3 := hg 3 _ rfl
        simp [Tryz.cellsI1] at g0 g1
        simp [Tryz.cellsS1] at g2
        simp [Tryz.cellsBs] at g3
        obtain ⟨z0, e0, -, w0⟩ := DataW.trod_int Tryz.underlying3 g0
        obtain ⟨z1, e1, -, w1⟩ := DataW.trod_int Tryz.underlying3 g1
        obtain ⟨z2, e2, -, -⟩ := DataW.trod_string Tryz.underlying9 g2
        obtain ⟨a3, c3, l3, e3, hl3⟩ := bools_lie g3
        obtain rfl : v0 = .int .i64 z0 := by simpa using e0
        obtain rfl : v1 = .int .i64 z1 := by simpa using e1
        obtain rfl : v2 = .string z2 := by simpa using e2
        subst e3
        have a0 := hat 0 (by omega)
        have a1 := hat 1 (by omega)
        have a2 := hat 2 (by omega)
        have a3' := hat 3 (by omega)
        obtain ⟨b, off, spot⟩ := a
        have hspot : spot = none := sp (by omega)
        subst hspot
        simp only [add_none] at a0 a1 a2 a3'
        refine ⟨⟨z0, z1, z2, l3, a3, c3⟩, b, off, rfl, ⟨a0, a1, a2, a3', hl3, ?_⟩⟩
        simp [Lit.wf, IntKind.min, IntKind.max, IntKind.signed, IntKind.bits] at w1
        exact w1.2
    have one' : ∀ i, ∃ s : StepD, i < len → ∃ b off, a = ⟨b, off, none⟩ ∧ StepAt W b (off + i * 4) s := by
      intro i
      by_cases hil : i < len
      · obtain ⟨s, hs⟩ := one i hil
        exact ⟨s, fun _ => hs⟩
      · exact ⟨⟨0, 0, ⟨#[]⟩, [], none, 0⟩, fun h => absurd h hil⟩
    refine ⟨some a, cap, (List.range len).map (fun i => Classical.choose (one' i)), by simp, fun j s hj => ?_⟩
    have hjl : j < len := by have := (List.getElem?_eq_some_iff.1 hj).1; simpa using this
    have hs : Classical.choose (one' j) = s := by simpa [List.getElem?_map, List.getElem?_range hjl] using hj
    obtain ⟨b, off, e, hst⟩ := Classical.choose_spec (one' j) hjl
    rw [hs] at hst
    exact ⟨b, off, by rw [e], hst⟩
end
theorem JournalPlays_walk (z : Int) (hz : (Lit.int .u8 z).wf = true) (v : Value) (W : World) (HG : ErrVar W) (k : ∃ (a : Option Addr) (cap : Nat) (l : List StepD), v = .slice a l.length cap ∧ StepsAt W a l) :
    Calls Tryz.prog 6 #[.int .u8 z, v] W fun e w' => e = .returned (.bool true) ∧ Below W.heap.size W w' := by
  obtain ⟨a, cap, l, rfl, hl⟩ := k
  have b2 : 0 ≤ z ∧ z ≤ 255 := by simpa [Lit.wf, IntKind.min, IntKind.max, IntKind.signed, IntKind.bits] using hz
  obtain ⟨n, rfl⟩ : ∃ k : Nat, z = (k : Int) := ⟨z.toNat, by omega⟩
  exact JournalPlays_any n (by omega) a cap l W HG hl
end Go.Proofs.YtjincmagbbpooaaGreatDoor
