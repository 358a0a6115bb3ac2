import Derived.Test.YtfmgafpgajlddaaDoorT2
set_option linter.unusedVariables false
namespace Go.Proofs.YtfmgafpgajlddaaDoor
open Go.RowKit

theorem FrameSums_walk (s : ByteArray) (a b : Int) (w1 : (Lit.int .u8 a).wf = true) (w2 : (Lit.int .u8 b).wf = true) (w : World) (hg : ErrVar w) :
    Calls Tryd.prog 9 #[.string s, .int .u8 a, .int .u8 b] w fun e w' => e = .returned (.bool true) ∧ Below w.heap.size w w' := by
  have b1 : 0 ≤ a ∧ a ≤ 255 := by simpa [Lit.wf, IntKind.min, IntKind.max, IntKind.signed, IntKind.bits] using w1
  have b2 : 0 ≤ b ∧ b ≤ 255 := by simpa [Lit.wf, IntKind.min, IntKind.max, IntKind.signed, IntKind.bits] using w2
  obtain ⟨n1, rfl⟩ : ∃ k : Nat, a = (k : Int) := ⟨a.toNat, by omega⟩
  obtain ⟨n2, rfl⟩ : ∃ k : Nat, b = (k : Int) := ⟨b.toNat, by omega⟩
  exact FrameSums_any s n1 n2 (by omega) (by omega) w hg
end Go.Proofs.YtfmgafpgajlddaaDoor
