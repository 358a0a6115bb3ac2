import Derived.Test.YtlmkcdebchahpaaDoorF0L
import Derived.Test.YtlmkcdebchahpaaDoorLX7
set_option linter.unusedVariables false
namespace Go.Proofs.YtlmkcdebchahpaaDoor
open Go.RowKit
theorem LexPoints_walk (a b : Int) (left right : Bool) (w0 : (Lit.int .u8 a).wf = true) (w1 : (Lit.int .u8 b).wf = true) (w : World) :
    Calls Tryd.prog 4 #[.int .u8 a, .int .u8 b, .bool left, .bool right] w fun e w' => e = .returned (.bool true) ∧ Below w.heap.size w w' := by
  have b0 : 0 ≤ a ∧ a ≤ 255 := by simpa [Lit.wf, IntKind.min, IntKind.max, IntKind.signed, IntKind.bits] using w0
  have b1 : 0 ≤ b ∧ b ≤ 255 := by simpa [Lit.wf, IntKind.min, IntKind.max, IntKind.signed, IntKind.bits] using w1
  obtain ⟨a', rfl⟩ : ∃ k : Nat, a = (k : Int) := ⟨a.toNat, by omega⟩
  obtain ⟨b', rfl⟩ : ∃ k : Nat, b = (k : Int) := ⟨b.toNat, by omega⟩
  exact LexPoints_any a' b' left right w
end Go.Proofs.YtlmkcdebchahpaaDoor
