import Derived.Test.YtghebjgkdfbmeaaDoorLD
import Derived.Test.YtghebjgkdfbmeaaDoorLPF
set_option linter.unusedVariables false
namespace Go.Proofs.YtghebjgkdfbmeaaDoor
open Go.RowKit

theorem CodeDeep_walk (n m : Int) (w0 : (Lit.int .u8 n).wf = true) (w1 : (Lit.int .u8 m).wf = true) (w : World) (he : ErrVar w) (hm : MaxV w) :
    Calls Tryd.prog 4 #[.int .u8 n, .int .u8 m] w fun e w' => e = .returned (.bool true) ∧ Below w.heap.size w w' := by
  have b0 : 0 ≤ n ∧ n ≤ 255 := by simpa [Lit.wf, IntKind.min, IntKind.max, IntKind.signed, IntKind.bits] using w0
  have b1 : 0 ≤ m ∧ m ≤ 255 := by simpa [Lit.wf, IntKind.min, IntKind.max, IntKind.signed, IntKind.bits] using w1
  exact CodeDeep_any n m b0.1 b0.2 b1.1 b1.2 w he hm
end Go.Proofs.YtghebjgkdfbmeaaDoor
