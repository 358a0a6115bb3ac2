import Derived.Test.YtfmgafpgajlddaaDoorT1
set_option linter.unusedVariables false
set_option linter.unusedSimpArgs false
namespace Go.Proofs.YtfmgafpgajlddaaDoor
open Go.RowKit

/-- A block's bytes. -/
def RowB (W : World) (b : Nat) (l : List Nat) : Prop := ∀ (i x : Nat), l[i]? = some x → W.cell? ⟨b, i, none⟩ = some (.int .u8 (x : Int))
theorem RowB.conv {W : World} {b cap : Nat} {l : List Nat} (h : RowB W b l) : (convert 48 9 (.slice (some ⟨b, 0, none⟩) l.length cap)).run Tryd.prog W = .ok (.string (strN l)) W := by
  unfold strN
  refine run_convert_bytes_arg W 48 5 Tryd.underlying48 Tryd.underlying5 b 0 l.length cap (l.map fun (x : Nat) => (x : Int)) (by simp) (fun i hi => ?_) 9 Tryd.underlying9
  rw [Nat.zero_add, h i (l[i]) (List.getElem?_eq_getElem hi)]
  simp [List.getD_eq_getElem?_getD, List.getElem?_eq_getElem hi]
theorem RowB.drewN {W : World} {b : Nat} {l : List Nat} (h : RowB W b l) (n : Nat) : RowB (W.drewN n) b l := h
theorem RowB.set {W : World} {b j v : Nat} {l : List Nat} (h : RowB W b l) (hj : j < l.length) : RowB (W.setCell ⟨b, j, none⟩ (.int .u8 (v : Int))) b (l.set j v) := by
  unfold RowB
  intro i x hx
  by_cases e : i = j
  · subst e
    rw [List.getElem?_set_self hj] at hx
    cases hx
    exact World.cell?_setCell_same' _ _ _ (by rw [h i l[i] (List.getElem?_eq_getElem hj)]; rfl)
  · rw [List.getElem?_set_ne (fun h => e h.symm)] at hx
    have hne : (⟨b, j, none⟩ : Addr) ≠ ⟨b, i, none⟩ := fun h => e (congrArg Addr.off h).symm
    exact (World.cell?_setCell_other W _ _ _ hne).trans (h i x hx)
theorem RowB.other {W : World} {b b' j : Nat} {v : Value} {l : List Nat} (h : RowB W b l) (hb : b' ≠ b) : RowB (W.setCell ⟨b', j, none⟩ v) b l := by
  unfold RowB
  intro i x hx
  exact (World.cell?_setCell_far W _ _ _ hb).trans (h i x hx)
end Go.Proofs.YtfmgafpgajlddaaDoor
