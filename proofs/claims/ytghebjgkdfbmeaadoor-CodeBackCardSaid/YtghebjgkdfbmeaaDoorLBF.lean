import Derived.Test.YtghebjgkdfbmeaaDoorLB
import Derived.Test.YtghebjgkdfbmeaaDoorLPF
set_option linter.unusedVariables false
namespace Go.Proofs.YtghebjgkdfbmeaaDoor
open Go.RowKit

theorem CodeBack_walk (s u more : ByteArray) (c : Int) (hs : s.size ≤ 9223372036854775807) (hu : u.size ≤ 9223372036854775807) (hmo : more.size ≤ 9223372036854775807) (w3 : (Lit.int .u16 c).wf = true) (w : World) (he : ErrVar w) (hm : MaxV w) :
    Calls Tryd.prog 3 #[.string s, .string u, .string more, .int .u16 c] w fun e w' => e = .returned (.bool true) ∧ Below w.heap.size w w' := by
  have b0 : 0 ≤ c ∧ c ≤ 65535 := by simpa [Lit.wf, IntKind.min, IntKind.max, IntKind.signed, IntKind.bits] using w3
  exact CodeBack_any s u more c b0.1 b0.2 hs hu hmo w he hm
end Go.Proofs.YtghebjgkdfbmeaaDoor
