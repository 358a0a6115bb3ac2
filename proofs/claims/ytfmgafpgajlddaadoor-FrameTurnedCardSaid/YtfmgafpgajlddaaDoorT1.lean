import Derived.Test.YtfmgafpgajlddaaDoorQ5
import Derived.Laws.IdiomStrings
set_option linter.unusedVariables false
set_option linter.unusedSimpArgs false
namespace Go.Proofs.YtfmgafpgajlddaaDoor
open Go.RowKit

/-- A text's bytes in a block of their own: what a walk needs of them. -/
theorem bytes_new (s : ByteArray) (w : World) : ∃ (cap : Nat) (W : World), (convert 9 48 (.string s)).run Tryd.prog w = .ok (.slice (some ⟨w.heap.size, 0, none⟩) s.size cap) W ∧
    Below w.heap.size w W ∧ W.heap.size = w.heap.size + 1 ∧ (∀ i, i < s.size → W.cell? ⟨w.heap.size, i, none⟩ = some (.int .u8 (bt s i : Int))) ∧ (∀ i, i < s.size → W.frozen? ⟨w.heap.size, i, none⟩ = false) := by
  refine ⟨_, _, run_bytes_of_string w 9 48 5 s Tryd.underlying9 Tryd.underlying48 Tryd.underlying5, ?_, ?_, ?_, ?_⟩
  · exact (show Below w.heap.size w w.drew from ⟨rfl, rfl, rfl, Nat.le_refl _, fun _ _ => rfl⟩).alloc (Nat.le_refl _) _
  · simp
  · intro i hi
    have hi' : i < s.data.size := hi
    have h := bytesRow_at s (grownCap w s.size 0 5) i hi'
    refine (World.cell?_alloc_mark w.drew _ _ _ i).trans ?_
    rw [h]
    unfold bt
    have h' : i < s.data.toList.length := by simpa using hi'
    rw [List.getD_eq_getElem?_getD, List.getElem?_eq_getElem h']
    simp
  · intro i hi
    have hi' : i < s.data.size := hi
    have h := bytesRow_at s (grownCap w s.size 0 5) i hi'
    have hlt := (Array.getElem?_eq_some_iff.1 h).1
    refine (World.frozen?_alloc_mark w.drew _ _ _ _ i).trans ?_
    rw [decide_eq_false (by omega)]
    rfl
end Go.Proofs.YtfmgafpgajlddaaDoor
