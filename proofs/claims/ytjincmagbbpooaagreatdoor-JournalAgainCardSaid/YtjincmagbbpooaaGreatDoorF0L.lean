import Derived.Test.YtjincmagbbpooaaGreatDoorF0
set_option linter.unusedVariables false
namespace Go.Proofs.YtjincmagbbpooaaGreatDoor
open Go.ChangeShapes Go.WideShapes Go.ChangeAt Go.RowKit

def laidT : List (String × DataW Unit) := [("unicode/utf8.acceptRanges", Rows.laid_unicode_utf8_acceptRanges), ("errors.errorType", Rows.laid_errors_errorType), ("unicode/utf8.first", Rows.laid_unicode_utf8_first)]
def laidR : List (String × DataW Unit) := [("unicode/utf8.acceptRanges", Rows.laid_unicode_utf8_acceptRanges), ("unicode/utf8.first", Rows.laid_unicode_utf8_first)]
/-- WHAT THE CONDITION GIVES A WALK: the variable's one cell. -/
theorem handle_of_laidT {W : World} (h : laidMetH Tryz.prog laidT W) : ErrVar W := by
  have h' : laidMet Tryz.prog laidR W ∧ handlesMet Tryz.prog laidE W := h
  exact handle_of_laid (show laidMet Tryz.prog [] W ∧ handlesMet Tryz.prog laidE W from ⟨laidMet_nil _ _, h'.2⟩)
def litV : DataW Unit → Value
  | .lit (.int k n) => .int k n
  | _ => undef
def flat1 : DataW Unit → List Value
  | .agg ps => ps.map litV
  | _ => []
def flat2 : DataW Unit → List Value
  | .agg ps => ps.flatMap flat1
  | _ => []
/-- A world that meets the condition: the settled one, the variables' cells laid. -/
noncomputable def laidWorld3 (os : Os) : World :=
  let w0 := World.holding Tryz.prog os ⟨#[], #[], []⟩
  { w0 with heap := ((w0.heap.modify 0 fun
      | .cells _ t frozen => .cells #[.iface 126 (.agg #[.pointer (some ⟨4, 28, none⟩)])] t frozen
      | o => o).modify 2 fun
      | .cells _ t frozen => .cells (flat1 Rows.laid_unicode_utf8_first).toArray t frozen
      | o => o).modify 3 fun
      | .cells _ t frozen => .cells (flat2 Rows.laid_unicode_utf8_acceptRanges).toArray t frozen
      | o => o }
set_option maxRecDepth 100000 in
theorem laidR_run (os : Os) (args : Array Value) : laidMet Tryz.prog laidR ((laidWorld3 os).forCall (fun _ _ => 0) ⟨#[], args, []⟩).memory :=
  laidMet_of_run' 8 (by kernel_rfl) (by kernel_rfl)
theorem laidR_met (os : Os) (args : Array Value) : laidMetH Tryz.prog laidR ((laidWorld3 os).forCall (fun _ _ => 0) ⟨#[], args, []⟩).memory := laidR_run os args
theorem laidT_met (os : Os) (args : Array Value) : laidMetH Tryz.prog laidT ((laidWorld3 os).forCall (fun _ _ => 0) ⟨#[], args, []⟩).memory :=
  laidMetH_of_parts (laidR_run os args) (by kernel_rfl)
end Go.Proofs.YtjincmagbbpooaaGreatDoor
