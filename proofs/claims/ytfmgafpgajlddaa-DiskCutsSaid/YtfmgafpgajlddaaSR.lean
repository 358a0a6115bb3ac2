/-
  DERIVED: THE SHELF's CONTRACTS AT THIS DUMP, IN PLAIN WORDS (tools/lay-plain.mjs out of 'TryShelf.lean', which tools/lay-shelf.mjs wrote): THE SAME DECLARATIONS UNDER THE SAME NAMES: 'import', 'namespace', 'open', 'def', 'theorem' AND NOTHING ELSE: no command of the shelf's: FOR A HAND-IN. Each laying: the table of numbers ('.._ren') and one theorem, a field a fact of the dump's own or the kernel's comparison; each contract: ONE APPLICATION.
-/
import Derived.Shelf.Strings.Builder1
import Derived.Shelf.Strings.Builder2
import Derived.Shelf.Strings.BuilderF
import Derived.Shelf.Strings.Prefix
import Derived.Shelf.Bits.Mul64
import Derived.Shelf.Strings.Repeat
import Derived.Test.YtfmgafpgajlddaaProg
namespace Go.Proofs
open Go.Shelf
def Try.lays105_ren : Go.Shelf.Ren := ⟨fun | 105 => 18 | 212 => 25 | 99 => 26 | 165 => 27 | 166 => 28 | 170 => 29 | 169 => 30 | 263 => 31 | 264 => 32 | 206 => 33 | 240 => 34 | 241 => 35 | 276 => 36 | 277 => 37 | n => n, fun | 9 => 9 | 3 => 3 | 4 => 4 | 20 => 20 | 0 => 0 | 46 => 56 | 109 => 57 | 5 => 5 | 72 => 62 | 76 => 63 | 51 => 76 | 146 => 77 | 53 => 79 | 148 => 80 | 70 => 60 | 37 => 28 | 75 => 26 | 127 => 82 | 164 => 83 | 80 => 65 | n => n, fun | n => n⟩
theorem Try.lays105 : Go.Proofs.Lays.n105 Try.prog Try.lays105_ren := {
  mixed := by kernel_rfl
  f99 := Try.func26.trans (congrArg some (by kernel_rfl))
  f105 := Try.func18.trans (congrArg some (by kernel_rfl))
  f165 := Try.func27.trans (congrArg some (by kernel_rfl))
  f166 := Try.func28.trans (congrArg some (by kernel_rfl))
  f169 := Try.func30.trans (congrArg some (by kernel_rfl))
  f170 := Try.func29.trans (congrArg some (by kernel_rfl))
  f206 := Try.func33.trans (congrArg some (by kernel_rfl))
  f212 := Try.func25.trans (congrArg some (by kernel_rfl))
  f240 := Try.func34.trans (congrArg some (by kernel_rfl))
  f241 := Try.func35.trans (congrArg some (by kernel_rfl))
  f263 := Try.func31.trans (congrArg some (by kernel_rfl))
  f264 := Try.func32.trans (congrArg some (by kernel_rfl))
  f276 := Try.func36.trans (congrArg some (by kernel_rfl))
  f277 := Try.func37.trans (congrArg some (by kernel_rfl))
  t0 := Try.underlying0
  a0 := Try.isAgg0
  z0 := Try.sizeOf0
  v0 := Try.zeroValue0
  t3 := Try.underlying3
  a3 := Try.isAgg3
  z3 := Try.sizeOf3
  v3 := Try.zeroValue3
  t4 := Try.underlying4
  a4 := Try.isAgg4
  z4 := Try.sizeOf4
  v4 := Try.zeroValue4
  t5 := Try.underlying5
  a5 := Try.isAgg5
  z5 := Try.sizeOf5
  v5 := Try.zeroValue5
  t9 := Try.underlying9
  a9 := Try.isAgg9
  z9 := Try.sizeOf9
  v9 := Try.zeroValue9
  t20 := Try.underlying20
  a20 := Try.isAgg20
  z20 := Try.sizeOf20
  v20 := Try.zeroValue20
  t37 := Try.underlying28
  a37 := Try.isAgg28
  z37 := Try.sizeOf28
  v37 := Try.zeroValue28
  t46 := Try.underlying56
  a46 := Try.isAgg56
  z46 := Try.sizeOf56
  v46 := Try.zeroValue56
  t51 := Try.underlying76
  a51 := Try.isAgg76
  z51 := Try.sizeOf76
  v51 := Try.zeroValue76
  t53 := Try.underlying79
  a53 := Try.isAgg79
  z53 := Try.sizeOf79
  v53 := Try.zeroValue79
  t70 := Try.underlying60
  a70 := Try.isAgg60
  z70 := Try.sizeOf60
  v70 := Try.zeroValue60
  t72 := Try.underlying62
  a72 := Try.isAgg62
  z72 := Try.sizeOf62
  v72 := Try.zeroValue62
  t75 := Try.underlying26
  a75 := Try.isAgg26
  z75 := Try.sizeOf26
  v75 := Try.zeroValue26
  t76 := Try.underlying63
  a76 := Try.isAgg63
  z76 := Try.sizeOf63
  v76 := Try.zeroValue63
  t109 := Try.underlying57
  a109 := Try.isAgg57
  z109 := Try.sizeOf57
  v109 := Try.zeroValue57
  t127 := Try.underlying82
  a127 := Try.isAgg82
  z127 := Try.sizeOf82
  v127 := Try.zeroValue82
  t146 := Try.underlying77
  a146 := Try.isAgg77
  z146 := Try.sizeOf77
  v146 := Try.zeroValue77
  t148 := Try.underlying80
  a148 := Try.isAgg80
  z148 := Try.sizeOf80
  v148 := Try.zeroValue80
  t164 := Try.underlying83
  a164 := Try.isAgg83
  z164 := Try.sizeOf83
  v164 := Try.zeroValue83 }
theorem Try.Builder_Extra_105 : Builder.Extra Try.prog Try.lays105_ren := {
  sizeBuilder := by kernel_rfl
  liesBuilder := by kernel_rfl
  t5 := Try.underlying5
  a5 := Try.isAgg5
  z5 := Try.sizeOf5
  v5 := Try.zeroValue5
  infoByte := by kernel_rfl
  cellsByte := by kernel_rfl
  sizeByte := by kernel_rfl
  neB5 := by decide }
open Go.RowKit Go.Lib in
/-- **strings.Repeat: count ≥ 0, the result within one allocation: count copies of s.** (LAID: no walk: one application.) -/
theorem Try.strings_Repeat (s : ByteArray) (c : Nat) (w : World) (hc : c ≤ 9223372036854775807) (hlen : s.size * c ≤ 140737488355328) :
    Calls Try.prog 18 #[.string s, .int .i64 c] w fun e w' => e = .returned (.string ⟨(Lib.repeatL s.data.toList c).toArray⟩) ∧ Below w.heap.size w w' := Any.strings_Repeat Try.lays105 Try.Builder_Extra_105 s c w hc hlen

end Go.Proofs
