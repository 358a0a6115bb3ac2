import Derived.Test.YtghebjgkdfbmeaaGreatDoorPKe
import Derived.Test.YtghebjgkdfbmeaaGreatDoorPK1
import Derived.Test.YtghebjgkdfbmeaaGreatDoorPK2
import Derived.Test.YtghebjgkdfbmeaaGreatDoorPK3
import Derived.Test.YtghebjgkdfbmeaaGreatDoorPK4
import Derived.Test.YtghebjgkdfbmeaaGreatDoorPK5
import Derived.Test.YtghebjgkdfbmeaaGreatDoorPK6
import Derived.Test.YtghebjgkdfbmeaaGreatDoorPK7
import Derived.Test.YtghebjgkdfbmeaaGreatDoorPKd
set_option linter.unusedVariables false
namespace Go.Proofs.YtghebjgkdfbmeaaGreatDoor
open Go.RowKit
theorem pterm_any : ∀ (f : Nat), PTermC f
  | 0 => fun rb r w _ hf _ _ _ _ _ => by omega
  | f + 1 => fun rb r w hb _ hen hf hn hs hle => by
    have ih := Lib.hid (pterm_any f)
    by_cases h1 : r.more.num.2.e = 0
    · by_cases k1 : r.more.num.1 = 1
      · exact pterm_1 f ih rb r w hb hen hf hn hs hle h1 k1
      by_cases k2 : r.more.num.1 = 2
      · exact pterm_2 f ih rb r w hb hen hf hn hs hle h1 k2
      by_cases k3 : r.more.num.1 = 3
      · exact pterm_3 f ih rb r w hb hen hf hn hs hle h1 k3
      by_cases k4 : r.more.num.1 = 4
      · exact pterm_4 f ih rb r w hb hen hf hn hs hle h1 k4
      by_cases k5 : r.more.num.1 = 5
      · exact pterm_5 f ih rb r w hb hen hf hn hs hle h1 k5
      by_cases k6 : r.more.num.1 = 6
      · exact pterm_6 f ih rb r w hb hen hf hn hs hle h1 k6
      by_cases k7 : r.more.num.1 = 7
      · exact pterm_7 f ih rb r w hb hen hf hn hs hle h1 k7
      exact pterm_d f ih rb r w hb hen hf hn hs hle h1 k1 k2 k3 (fun h => h.elim k4 (fun h => h.elim k5 k6)) k7
    · exact pterm_e f ih rb r w hb hen hf hn hs hle h1
end Go.Proofs.YtghebjgkdfbmeaaGreatDoor
