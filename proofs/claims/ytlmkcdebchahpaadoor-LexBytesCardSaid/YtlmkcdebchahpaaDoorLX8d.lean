import Derived.Test.YtlmkcdebchahpaaDoorLX8b
import Derived.Test.YtlmkcdebchahpaaDoorLX8c
set_option linter.unusedVariables false
set_option linter.unusedSimpArgs false
namespace Go.Proofs.YtlmkcdebchahpaaDoor
open Go.RowKit

theorem LexBytes_any (b n : Nat) (hb : b < 256) (w : World) :
    Calls Tryd.prog 5 #[.int .u8 (b : Int), .int .u8 (n : Int)] w fun e w' => e = .returned (.bool true) ∧ Below w.heap.size w w' := by
  by_cases h1 : 97 ≤ b ∧ b ≤ 122
  · exact bytes_lower b n hb h1.1 h1.2 w
  by_cases h2 : 65 ≤ b ∧ b ≤ 90
  · exact bytes_upper b n hb h2.1 h2.2 w
  by_cases h3 : 48 ≤ b ∧ b ≤ 57
  · exact bytes_digit b n hb h3.1 h3.2 w
  by_cases n95 : b = 95
  · subst n95; exact bytes_is95 n w
  by_cases n64 : b = 64
  · subst n64; exact bytes_is64 n w
  by_cases n32 : b = 32
  · subst n32; exact bytes_is32 n w
  by_cases n9 : b = 9
  · subst n9; exact bytes_is9 n w
  by_cases n10 : b = 10
  · subst n10; exact bytes_is10 n w
  by_cases n13 : b = 13
  · subst n13; exact bytes_is13 n w
  by_cases n40 : b = 40
  · subst n40; exact bytes_is40 n w
  by_cases n41 : b = 41
  · subst n41; exact bytes_is41 n w
  by_cases n123 : b = 123
  · subst n123; exact bytes_is123 n w
  by_cases n125 : b = 125
  · subst n125; exact bytes_is125 n w
  by_cases n58 : b = 58
  · subst n58; exact bytes_is58 n w
  by_cases n44 : b = 44
  · subst n44; exact bytes_is44 n w
  by_cases n59 : b = 59
  · subst n59; exact bytes_is59 n w
  by_cases n46 : b = 46
  · subst n46; exact bytes_is46 n w
  by_cases i1 : b < 48
  · exact bytes_o1 b n hb i1 n95 n64 n32 n9 n10 n13 n40 n41 n123 n125 n58 n44 n59 n46 w
  by_cases i2 : b < 65
  · exact bytes_o2 b n hb (by omega) i2 n95 n64 n32 n9 n10 n13 n40 n41 n123 n125 n58 n44 n59 n46 w
  by_cases i3 : b < 97
  · exact bytes_o3 b n hb (by omega) i3 n95 n64 n32 n9 n10 n13 n40 n41 n123 n125 n58 n44 n59 n46 w
  exact bytes_o4 b n hb (by omega) n95 n64 n32 n9 n10 n13 n40 n41 n123 n125 n58 n44 n59 n46 w
theorem LexBytes_walk (b n : Int) (w0 : (Lit.int .u8 b).wf = true) (w1 : (Lit.int .u8 n).wf = true) (w : World) :
    Calls Tryd.prog 5 #[.int .u8 b, .int .u8 n] w fun e w' => e = .returned (.bool true) ∧ Below w.heap.size w w' := by
  have b0 : 0 ≤ b ∧ b ≤ 255 := by simpa [Lit.wf, IntKind.min, IntKind.max, IntKind.signed, IntKind.bits] using w0
  have b1 : 0 ≤ n ∧ n ≤ 255 := by simpa [Lit.wf, IntKind.min, IntKind.max, IntKind.signed, IntKind.bits] using w1
  obtain ⟨b', rfl⟩ : ∃ k : Nat, b = (k : Int) := ⟨b.toNat, by omega⟩
  obtain ⟨n', rfl⟩ : ∃ k : Nat, n = (k : Int) := ⟨n.toNat, by omega⟩
  exact LexBytes_any b' n' (by omega) w
end Go.Proofs.YtlmkcdebchahpaaDoor
