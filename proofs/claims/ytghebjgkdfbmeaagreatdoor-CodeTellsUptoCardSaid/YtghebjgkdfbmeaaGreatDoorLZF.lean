import Derived.Test.YtghebjgkdfbmeaaGreatDoorF0
import Derived.Test.YtghebjgkdfbmeaaGreatDoorLZ
import Derived.Deep.Slices
import Derived.Deep.Fields
import Derived.ChangeSame
import Derived.Deep.Grids
import Derived.Handed
import Derived.Shelf.Vars
set_option linter.unusedVariables false
set_option maxRecDepth 100000
namespace Go.Proofs.YtghebjgkdfbmeaaGreatDoor
open Go.ChangeShapes Go.WideShapes Go.ChangeAt Go.RowKit Go.Deep

theorem maxV_of_shape {W : World} (h : W.ShapedOpen Tryz.prog) : MaxV W :=
  cell_of_shapedOpen_int (zero := #[.int .i64 0]) (t := 3) h (of_decide_eq_true (by kernel_rfl)) (by kernel_rfl) rfl (by kernel_rfl) (by kernel_rfl) (by kernel_rfl)

/-! ### what a bound of the bulk gives -/
theorem bulk_part {H : Type} {d : DataW H} : ∀ {l : List (DataW H)}, d ∈ l → Rows.uptoBulk d ≤ Rows.uptoBulkAll l
  | x :: r, h => by
    simp only [Rows.uptoBulkAll]
    rcases List.mem_cons.1 h with rfl | h
    · omega
    · have := bulk_part h
      omega

theorem Tryz.cellsI1 : Tryz.prog.cellsOf 3 = 1 := by kernel_rfl
theorem Tryz.cellsS1 : Tryz.prog.cellsOf 9 = 1 := by kernel_rfl
theorem Tryz.cellsNode : Tryz.prog.cellsOf 43 = 6 := by kernel_rfl

section
variable {H : Type} {enc : TypeId × Value → H}
theorem add_none (b off j : Nat) : (⟨b, off, none⟩ : Addr).add j = ⟨b, off + j, none⟩ := by unfold Addr.add; split <;> simp_all

/-- A slice of nodes that came in, of bounded bulk. -/
theorem open_nodes {W : World} {base : Nat} {v : Value} {d : DataW H} {p : List MemPlace} (hk : Rows.uptoBulk d ≤ 1048576) (hv : Value.okWide Tryz.prog W .any base 22 v)
    (h : DataW.Trod enc Tryz.prog W 0 (fun _ => true) true 22 v d p) : ∃ (a : Option Addr) (cap : Nat) (l : List NodeD), v = .slice a l.length cap ∧ NodesAt W a l ∧ l.length ≤ 9223372036854775807 := by
  obtain ⟨a0, len, cap, rfl⟩ := okWide_slice Tryz.underlying22 hv
  obtain ⟨fuel, hf⟩ := h
  rcases open_slice Tryz.underlying22 hf with ⟨hcs, hx⟩ | ⟨a, len', cap', m, n, D, Pl, hcs, hb, hl, hm, hmm, hx, hi⟩
  · simp [Value.cells] at hcs
    obtain ⟨rfl, rfl, rfl⟩ := hcs
    exact ⟨none, 0, [], rfl, fun j x h => by simp at h, by simp⟩
  · simp [Value.cells] at hcs
    obtain ⟨rfl, rfl, rfl⟩ := hcs
    simp only [if_true] at hmm
    rw [Tryz.cellsNode] at hi
    obtain ⟨rfl, -⟩ := Prod.mk.inj hx
    have hk' : ∀ i, i < len → Rows.uptoBulk (D i) ≤ 1048576 := by
      intro i hil
      simp only [Rows.uptoBulk] at hk
      have := bulk_part (d := D i) (l := (List.range len).map D) (List.mem_map.2 ⟨i, List.mem_range.2 hil, rfl⟩)
      omega
    have sp : 0 < len → a.spot = none := by
      intro h0
      obtain ⟨cs, hc, ht⟩ := hi 0 (by omega)
      obtain ⟨_, hcl, hat⟩ := World.cells?_some hc
      match cs, hcl with
      | [v0, v1, v2, v3, v4, v5], _ =>
        have a0 := hat 0 (by omega)
        simpa [Addr.add] using World.cell?_spot a0
    have one : ∀ i, i < len → ∃ s : NodeD, ∃ b off, a = ⟨b, off, none⟩ ∧ NodeAt W b (off + i * 6) s := by
      intro i hil
      obtain ⟨cs, hc, ht⟩ := hi i (by omega)
      obtain ⟨ys, n', -, hy, hlen, hyl, hg⟩ := DataW.trod_struct Tryz.underlying43 ht
      obtain ⟨_, hcl, hat⟩ := World.cells?_some hc
      have hki := hk' i hil
      match cs, hcl, ys, hyl with
      | [v0, v1, v2, v3, v4, v5], _, [y0, y1, y2, y3, y4, y5], _ =>
        have g0 := hg 0 _ rfl
        have g1 := hg 1 _ rfl
        have g2 := hg 2 _ rfl
        have g3 := hg 3 _ rfl
        have g4 := hg 4 _ rfl
        have g5 := hg 5 _ rfl
        simp [Tryz.cellsI1] at g0 g1 g3 g4 g5
        simp [Tryz.cellsS1] at g2
        obtain ⟨z0, e0, -, w0⟩ := DataW.trod_int Tryz.underlying3 g0
        obtain ⟨z1, e1, -, w1⟩ := DataW.trod_int Tryz.underlying3 g1
        obtain ⟨z2, e2, f2, -⟩ := DataW.trod_string Tryz.underlying9 g2
        obtain ⟨z3, e3, -, w3⟩ := DataW.trod_int Tryz.underlying3 g3
        obtain ⟨z4, e4, -, w4⟩ := DataW.trod_int Tryz.underlying3 g4
        obtain ⟨z5, e5, -, w5⟩ := DataW.trod_int Tryz.underlying3 g5
        obtain rfl : v0 = .int .i64 z0 := by simpa using e0
        obtain rfl : v1 = .int .i64 z1 := by simpa using e1
        obtain rfl : v2 = .string z2 := by simpa using e2
        obtain rfl : v3 = .int .i64 z3 := by simpa using e3
        obtain rfl : v4 = .int .i64 z4 := by simpa using e4
        obtain rfl : v5 = .int .i64 z5 := by simpa using e5
        have hD : D i = .agg [y0.1, y1.1, y2.1, y3.1, y4.1, y5.1] := (Prod.mk.inj hy).1
        have hz : z2.size < 4294967281 := by
          rw [hD, f2] at hki
          simp only [Rows.uptoBulk, Rows.uptoBulkAll] at hki
          have : z2.data.toList.length = z2.size := by simp
          omega
        have a0 := hat 0 (by omega)
        have a1 := hat 1 (by omega)
        have a2 := hat 2 (by omega)
        have a3 := hat 3 (by omega)
        have a4 := hat 4 (by omega)
        have a5 := hat 5 (by omega)
        obtain ⟨b, off, spot⟩ := a
        have hspot : spot = none := sp (by omega)
        subst hspot
        simp only [add_none] at a0 a1 a2 a3 a4 a5
        exact ⟨⟨z0, z1, z2, z3, z4, z5⟩, b, off, rfl, ⟨a0, a1, a2, a3, a4, a5, hz⟩⟩
    have one' : ∀ i, ∃ s : NodeD, i < len → ∃ b off, a = ⟨b, off, none⟩ ∧ NodeAt W b (off + i * 6) s := by
      intro i
      by_cases hil : i < len
      · obtain ⟨s, hs⟩ := one i hil
        exact ⟨s, fun _ => hs⟩
      · exact ⟨⟨0, 0, ⟨#[]⟩, 0, 0, 0⟩, fun h => absurd h hil⟩
    have hml : maxLen ≤ 9223372036854775807 := by decide
    refine ⟨some a, cap, (List.range len).map (fun i => Classical.choose (one' i)), by simp, fun j s hj => ?_, by simp; omega⟩
    have hjl : j < len := by have := (List.getElem?_eq_some_iff.1 hj).1; simpa using this
    have hs : Classical.choose (one' j) = s := by simpa [List.getElem?_map, List.getElem?_range hjl] using hj
    obtain ⟨b, off, e, hst⟩ := Classical.choose_spec (one' j) hjl
    rw [hs] at hst
    exact ⟨b, off, by rw [e], hst⟩
end
theorem CodeTells_walk (v : Value) (s : ByteArray) (hs : s.size ≤ maxLen) (W : World) (HG : ErrVar W) (HM : MaxV W) (k : ∃ (a : Option Addr) (cap : Nat) (l : List NodeD), v = .slice a l.length cap ∧ NodesAt W a l ∧ l.length ≤ 9223372036854775807) :
    Calls Tryz.prog 3 #[v, .string s] W fun e w' => e = .returned (.bool true) ∧ Below W.heap.size W w' := by
  obtain ⟨a, cap, l, rfl, hl, hn⟩ := k
  exact CodeTells_any a cap l s W hl hn (Nat.le_trans hs (by decide)) HG HM
end Go.Proofs.YtghebjgkdfbmeaaGreatDoor
