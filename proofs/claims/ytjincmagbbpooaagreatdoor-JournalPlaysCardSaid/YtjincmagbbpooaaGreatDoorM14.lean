import Derived.Shelf.Strings.Builder1
import Derived.Shelf.Strings.Builder2
import Derived.Shelf.Strings.Trim
import Derived.Shelf.Small.Utf8
import Derived.Shelf.Small.Strs
import Derived.Shelf.Strings.BuilderF
import Derived.Shelf.Strings.BuilderK
import Derived.Shelf.Strings.Search1
import Derived.Shelf.Strings.Prefix
import Derived.Shelf.Strings.Runes
import Derived.Shelf.Strings.AsciiSet
import Derived.Shelf.Bits.Mul64
import Derived.Shelf.Strings.Repeat
import Derived.Shelf.Unicode.DecodeSlow
import Derived.Test.YtjincmagbbpooaaGreatDoorProg
import Derived.Test.YtjincmagbbpooaaGreatDoorM13

section
/-
  DERIVED: THE SHELF's CONTRACTS AT THIS DUMP, IN PLAIN WORDS (tools/lay-plain.mjs out of 'TryzShelf.lean', which tools/lay-shelf.mjs wrote): THE SAME DECLARATIONS UNDER THE SAME NAMES: 'import', 'namespace', 'open', 'def', 'theorem' AND NOTHING ELSE: no command of the shelf's: FOR A HAND-IN. Each laying: the table of numbers ('.._ren') and one theorem, a field a fact of the dump's own or the kernel's comparison; each contract: ONE APPLICATION.
-/
namespace Go.Proofs
open Go.Shelf
open Go.Shelf
def Tryz.lays170_ren : Go.Shelf.Ren := ⟨fun | 170 => 44 | n => n, fun | 70 => 78 | 3 => 3 | 0 => 0 | 72 => 81 | 37 => 79 | 5 => 5 | n => n, fun | n => n⟩
theorem Tryz.lays170 : Go.Proofs.Lays.n170 Tryz.prog Tryz.lays170_ren := {
  mixed := by kernel_rfl
  f170 := Tryz.func44.trans (congrArg some (by kernel_rfl))
  t0 := Tryz.underlying0
  a0 := Tryz.isAgg0
  z0 := Tryz.sizeOf0
  v0 := Tryz.zeroValue0
  t3 := Tryz.underlying3
  a3 := Tryz.isAgg3
  z3 := Tryz.sizeOf3
  v3 := Tryz.zeroValue3
  t37 := Tryz.underlying79
  a37 := Tryz.isAgg79
  z37 := Tryz.sizeOf79
  v37 := Tryz.zeroValue79
  t70 := Tryz.underlying78
  a70 := Tryz.isAgg78
  z70 := Tryz.sizeOf78
  v70 := Tryz.zeroValue78
  t72 := Tryz.underlying81
  a72 := Tryz.isAgg81
  z72 := Tryz.sizeOf81
  v72 := Tryz.zeroValue81 }
def Tryz.lays169_ren : Go.Shelf.Ren := ⟨fun | 169 => 41 | n => n, fun | 70 => 78 | 9 => 9 | 0 => 0 | 72 => 81 | 37 => 79 | 127 => 121 | 3 => 3 | 5 => 5 | n => n, fun | n => n⟩
theorem Tryz.lays169 : Go.Proofs.Lays.n169 Tryz.prog Tryz.lays169_ren := {
  mixed := by kernel_rfl
  f169 := Tryz.func41.trans (congrArg some (by kernel_rfl))
  t0 := Tryz.underlying0
  a0 := Tryz.isAgg0
  z0 := Tryz.sizeOf0
  v0 := Tryz.zeroValue0
  t3 := Tryz.underlying3
  a3 := Tryz.isAgg3
  z3 := Tryz.sizeOf3
  v3 := Tryz.zeroValue3
  t9 := Tryz.underlying9
  a9 := Tryz.isAgg9
  z9 := Tryz.sizeOf9
  v9 := Tryz.zeroValue9
  t37 := Tryz.underlying79
  a37 := Tryz.isAgg79
  z37 := Tryz.sizeOf79
  v37 := Tryz.zeroValue79
  t70 := Tryz.underlying78
  a70 := Tryz.isAgg78
  z70 := Tryz.sizeOf78
  v70 := Tryz.zeroValue78
  t72 := Tryz.underlying81
  a72 := Tryz.isAgg81
  z72 := Tryz.sizeOf81
  v72 := Tryz.zeroValue81
  t127 := Tryz.underlying121
  a127 := Tryz.isAgg121
  z127 := Tryz.sizeOf121
  v127 := Tryz.zeroValue121 }
theorem Tryz.Builder_Extra_169 : Builder.Extra Tryz.prog Tryz.lays169_ren := {
  sizeBuilder := by kernel_rfl
  liesBuilder := by kernel_rfl
  t5 := Tryz.underlying5
  a5 := Tryz.isAgg5
  z5 := Tryz.sizeOf5
  v5 := Tryz.zeroValue5
  infoByte := by kernel_rfl
  cellsByte := by kernel_rfl
  sizeByte := by kernel_rfl
  neB5 := by decide }
def Tryz.lays160_ren : Go.Shelf.Ren := ⟨fun | 160 => 96 | 232 => 106 | 231 => 105 | 227 => 107 | 234 => 109 | 233 => 108 | 236 => 111 | 235 => 110 | 228 => 112 | 271 => 115 | 151 => 114 | 197 => 113 | 120 => 118 | 152 => 117 | 260 => 116 | 137 => 119 | 119 => 120 | 224 => 121 | 225 => 122 | 217 => 123 | 266 => 124 | n => n, fun | 9 => 9 | 4 => 4 | 3 => 3 | 5 => 5 | 117 => 168 | 116 => 167 | 0 => 0 | 124 => 171 | 21 => 21 | 105 => 173 | 46 => 117 | 119 => 177 | 139 => 180 | 138 => 179 | n => n, fun | 3 => 2 | 4 => 3 | n => n⟩
theorem Tryz.lays160 : Go.Proofs.Lays.n160 Tryz.prog Tryz.lays160_ren := {
  mixed := by kernel_rfl
  f119 := Tryz.func120.trans (congrArg some (by kernel_rfl))
  f120 := Tryz.func118.trans (congrArg some (by kernel_rfl))
  f137 := Tryz.func119.trans (congrArg some (by kernel_rfl))
  f151 := Tryz.func114.trans (congrArg some (by kernel_rfl))
  f152 := Tryz.func117.trans (congrArg some (by kernel_rfl))
  f160 := Tryz.func96.trans (congrArg some (by kernel_rfl))
  f197 := Tryz.func113.trans (congrArg some (by kernel_rfl))
  f217 := Tryz.func123.trans (congrArg some (by kernel_rfl))
  f224 := Tryz.func121.trans (congrArg some (by kernel_rfl))
  f225 := Tryz.func122.trans (congrArg some (by kernel_rfl))
  f227 := Tryz.func107.trans (congrArg some (by kernel_rfl))
  f228 := Tryz.func112.trans (congrArg some (by kernel_rfl))
  f231 := Tryz.func105.trans (congrArg some (by kernel_rfl))
  f232 := Tryz.func106.trans (congrArg some (by kernel_rfl))
  f233 := Tryz.func108.trans (congrArg some (by kernel_rfl))
  f234 := Tryz.func109.trans (congrArg some (by kernel_rfl))
  f235 := Tryz.func110.trans (congrArg some (by kernel_rfl))
  f236 := Tryz.func111.trans (congrArg some (by kernel_rfl))
  f260 := Tryz.func116.trans (congrArg some (by kernel_rfl))
  f266 := Tryz.func124.trans (congrArg some (by kernel_rfl))
  f271 := Tryz.func115.trans (congrArg some (by kernel_rfl))
  t0 := Tryz.underlying0
  a0 := Tryz.isAgg0
  z0 := Tryz.sizeOf0
  v0 := Tryz.zeroValue0
  t3 := Tryz.underlying3
  a3 := Tryz.isAgg3
  z3 := Tryz.sizeOf3
  v3 := Tryz.zeroValue3
  t4 := Tryz.underlying4
  a4 := Tryz.isAgg4
  z4 := Tryz.sizeOf4
  v4 := Tryz.zeroValue4
  t5 := Tryz.underlying5
  a5 := Tryz.isAgg5
  z5 := Tryz.sizeOf5
  v5 := Tryz.zeroValue5
  t9 := Tryz.underlying9
  a9 := Tryz.isAgg9
  z9 := Tryz.sizeOf9
  v9 := Tryz.zeroValue9
  t21 := Tryz.underlying21
  a21 := Tryz.isAgg21
  z21 := Tryz.sizeOf21
  v21 := Tryz.zeroValue21
  t46 := Tryz.underlying117
  a46 := Tryz.isAgg117
  z46 := Tryz.sizeOf117
  v46 := Tryz.zeroValue117
  t105 := Tryz.underlying173
  a105 := Tryz.isAgg173
  z105 := Tryz.sizeOf173
  v105 := Tryz.zeroValue173
  t116 := Tryz.underlying167
  a116 := Tryz.isAgg167
  z116 := Tryz.sizeOf167
  t117 := Tryz.underlying168
  a117 := Tryz.isAgg168
  z117 := Tryz.sizeOf168
  v117 := Tryz.zeroValue168
  t119 := Tryz.underlying177
  a119 := Tryz.isAgg177
  z119 := Tryz.sizeOf177
  t124 := Tryz.underlying171
  a124 := Tryz.isAgg171
  z124 := Tryz.sizeOf171
  v124 := Tryz.zeroValue171
  t138 := Tryz.underlying179
  a138 := Tryz.isAgg179
  z138 := Tryz.sizeOf179
  v138 := Tryz.zeroValue179
  t139 := Tryz.underlying180
  a139 := Tryz.isAgg180
  z139 := Tryz.sizeOf180
  v139 := Tryz.zeroValue180
  g3 := by kernel_rfl
  g4 := by kernel_rfl }
open Go.RowKit in
/-- strings.Trim: "Trim returns a slice of the string s with all leading and trailing Unicode code points contained in cutset removed.": AT A cutset OF ONE ASCII BYTE. THE WORLD BEHIND IT: as it was, or (where s is not empty) with ONE DRAW MORE off the tape: the statement 'return trimLeftByte(trimRightByte(s, c), c)' draws its order of evaluation. (LAID: no walk: one application.) -/
theorem Tryz.strings_Trim_one (s : ByteArray) (c : UInt8) (hc : c.toNat < 128) (w : World) (hs : s.size ≤ 9223372036854775807) :
    Calls Tryz.prog 96 #[.string s, .string ⟨#[c]⟩] w fun e w' => e = .returned (.string ⟨(Lib.trimB s.data.toList c).toArray⟩) ∧ (w' = w ∨ w' = w.drew) := Any.strings_Trim_one Tryz.lays160 s c hc w hs
open Go.RowKit in
/-- (*strings.Builder).Len: "Len returns the number of accumulated bytes; b.Len() == len(b.String()).": the world is as it was. (THE FORM '_f': 'Lib.IsBuilderF'.) (LAID: no walk: one application.) -/
theorem Tryz.Builder_Len_f (B b : Nat) (bs : List Value) (w : World) (h : Lib.IsBuilderF 81 5 B b bs w) :
    Calls Tryz.prog 44 #[.pointer (some ⟨b, 0, none⟩)] w fun e w' => e = .returned (.int .i64 bs.length) ∧ w' = w := Any.Builder_Len_f Tryz.lays170 B b bs w h
open Go.RowKit in
/-- (*strings.Builder).String: "String returns the accumulated string.": WHATEVER THE BUILDER HOLDS; THE FORM '_f': OF A BUILDER THAT MAY HAVE BEEN READ BEFORE; AND IT IS A BUILDER STILL, holding the same bytes: it can be written on. (LAID: no walk: one application.) -/
theorem Tryz.Builder_String_any_f (B b : Nat) (l : List UInt8) (w : World) (h : Lib.IsBuilderF 81 5 B b (Lib.byteCells l) w) (hBw : B ≤ w.heap.size) :
    Calls Tryz.prog 41 #[.pointer (some ⟨b, 0, none⟩)] w fun e w' => e = .returned (.string ⟨l.toArray⟩) ∧ (Lib.IsBuilderF 81 5 B b (Lib.byteCells l) w' ∧ Below B w w') := Any.Builder_String_any_f Tryz.lays169 Tryz.Builder_Extra_169 B b l w h hBw
end Go.Proofs
end

section
set_option linter.unusedVariables false
set_option linter.unusedSimpArgs false
namespace Go.Proofs.YtjincmagbbpooaaGreatDoor
open Go.RowKit

theorem dropWhile_nil {α : Type} (f : α → Bool) : ∀ l : List α, l.dropWhile f = [] ↔ l.all f = true
  | [] => ⟨fun _ => rfl, fun _ => rfl⟩
  | a :: l => by
    have := dropWhile_nil f l
    cases h : f a
    · simp [h]
    · rw [List.dropWhile_cons_of_pos h, List.all_cons, h, Bool.true_and]; exact this
theorem dropWhile_head {α : Type} (f : α → Bool) : ∀ l : List α, ∀ a r, l.dropWhile f = a :: r → f a = false
  | [], a, r, h => by cases h
  | b :: l, a, r, h => by
    cases hb : f b
    · rw [List.dropWhile_cons_of_neg (by rw [hb]; decide)] at h
      cases h
      exact hb
    · rw [List.dropWhile_cons_of_pos hb] at h
      exact dropWhile_head f l a r h
theorem trim_nil (l : List UInt8) (c : UInt8) : Lib.trimB l c = [] ↔ l.all (· == c) = true := by
  unfold Lib.trimB Lib.trimLeftB Lib.trimRightB
  rw [dropWhile_nil]
  constructor
  · intro h
    rw [List.all_reverse] at h
    cases hd : l.reverse.dropWhile (· == c) with
    | nil =>
      have := (dropWhile_nil _ _).1 hd
      rw [List.all_reverse] at this
      exact this
    | cons a r =>
      have h1 := dropWhile_head _ _ _ _ hd
      rw [hd, List.all_cons, h1] at h
      cases h
  · intro h
    have : l.reverse.dropWhile (· == c) = [] := (dropWhile_nil _ _).2 (by rw [List.all_reverse]; exact h)
    rw [this]
    rfl
theorem trim_zeros (r : ByteArray) : ((⟨(Lib.trimB r.data.toList 0).toArray⟩ : ByteArray).toList == []) = zerosB r := by
  rw [ByteArray.toList_eq]
  show ((Lib.trimB r.data.toList 0) == []) = zerosB r
  unfold zerosB
  rw [Bool.eq_iff_iff, beq_iff_eq]
  exact trim_nil _ _

theorem openR_sizes (s : ByteArray) (seq : Int) : (openR s seq).1.size ≤ s.size ∧ (openR s seq).2.1.size ≤ s.size := by
  have h0 : (ByteArray.empty).size = 0 := rfl
  have h1 := textR_sizes s 2020
  unfold openR
  generalize textR s 2020 = r at h1 ⊢
  by_cases q1 : r.2.2 ≠ 0
  · rw [if_pos q1]; exact ⟨by simp only [h0]; omega, Nat.le_refl _⟩
  rw [if_neg q1]
  by_cases q2 : r.2.1.size < 4
  · rw [if_pos q2]; exact ⟨by simp only [h0]; omega, Nat.le_refl _⟩
  rw [if_neg q2]
  by_cases q3 : sumB (takeB s (s.size - r.2.1.size)) ≠ takeB r.2.1 4
  · rw [if_pos q3]; exact ⟨by simp only [h0]; omega, Nat.le_refl _⟩
  rw [if_neg q3]
  by_cases q4 : (numS r.1).2.2 ≠ 0
  · rw [if_pos q4]; exact ⟨by simp only [h0]; omega, Nat.le_refl _⟩
  rw [if_neg q4]
  by_cases q5 : ((numS r.1).1 : Int) ≠ seq
  · rw [if_pos q5]; exact ⟨by simp only [h0]; omega, Nat.le_refl _⟩
  rw [if_neg q5]
  simp only [dropB_size]
  omega
theorem ErrVar.below' {w w' : World} (h : ErrVar w) (hb : Below w.heap.size w w') : ErrVar w' := ErrVar.below h hb

set_option maxHeartbeats 16000000 in
set_option maxRecDepth 100000 in
theorem read_any (b : ByteArray) (hb : b.size ≤ 1000000) (w : World) (hg : ErrVar w) :
    Calls Tryz.prog 73 #[.string b] w fun e w' => e = .returned (.tuple #[.int .i64 ((readB b).1 : Int), .int .i64 ((readB b).2 : Int)]) ∧ Below w.heap.size w w' := by
  have HG := Lib.hid hg
  have c1 := Lib.hid (TakeText_any b 64 (by omega) w hg)
  unfold TextPost at c1
  have hz1 := (textR_sizes b 64).1
  unfold readB
  generalize (textR b 64).1 = t at c1 hz1 ⊢
  generalize (textR b 64).2.1 = r1 at c1
  generalize (textR b 64).2.2 = e1 at c1 ⊢
  have c2 := Lib.hid (fun W => Take_any t (by omega) W)
  unfold TakePost at c2
  generalize dropB t (numS t).2.1 = r2 at c2
  generalize (numS t).1 = turn at c2 ⊢
  generalize (numS t).2.2 = e2 at c2 ⊢
  by_cases he1 : e1 ≠ 0
  · rw [if_pos (.inl he1)]
    rw [errV_ne he1] at c1
    clear he1 hg hz1 hb
    by_cases he2 : e2 = 0
    · subst he2
      rw [errV_zero] at c2
      go_enter Tryz.func73, Tryz.ntmps73
      go_wp2_with (first
        | (go_at_call 75; (with_reducible refine c1.out.mono ?_); rintro e w1 ⟨rfl, hb⟩; have HB1 := Lib.hid hb; clear hb)
        | (go_at_call 77; (with_reducible refine (c2.out _).mono ?_); rintro e w2 ⟨rfl, m, hm⟩; have hb : Below w1.heap.size w1 w2 := (by rw [hm]; exact below_drewN _ _); have HB2 := Lib.hid (below_step HB1.out hb); clear hb hm))
      go_ret2
      exact ⟨rfl, HB2.out⟩
    · rw [errV_ne he2] at c2
      clear he2
      go_enter Tryz.func73, Tryz.ntmps73
      go_wp2_with (first
        | (go_at_call 75; (with_reducible refine c1.out.mono ?_); rintro e w1 ⟨rfl, hb⟩; have HB1 := Lib.hid hb; clear hb)
        | (go_at_call 77; (with_reducible refine (c2.out _).mono ?_); rintro e w2 ⟨rfl, m, hm⟩; have hb : Below w1.heap.size w1 w2 := (by rw [hm]; exact below_drewN _ _); have HB2 := Lib.hid (below_step HB1.out hb); clear hb hm))
      go_ret2
      exact ⟨rfl, HB2.out⟩
  obtain rfl : e1 = 0 := Classical.byContradiction he1
  rw [errV_zero] at c1
  by_cases he2 : e2 ≠ 0
  · rw [if_pos (.inr he2)]
    rw [errV_ne he2] at c2
    clear he2 hg hz1 hb
    go_enter Tryz.func73, Tryz.ntmps73
    go_wp2_with (first
      | (go_at_call 75; (with_reducible refine c1.out.mono ?_); rintro e w1 ⟨rfl, hb⟩; have HB1 := Lib.hid hb; clear hb)
      | (go_at_call 77; (with_reducible refine (c2.out _).mono ?_); rintro e w2 ⟨rfl, m, hm⟩; have hb : Below w1.heap.size w1 w2 := (by rw [hm]; exact below_drewN _ _); have HB2 := Lib.hid (below_step HB1.out hb); clear hb hm))
    go_ret2
    exact ⟨rfl, HB2.out⟩
  obtain rfl : e2 = 0 := Classical.byContradiction he2
  rw [errV_zero] at c2
  rw [if_neg (by simp)]
  have c3 := Lib.hid (fun W hG => Open_any b (turn : Int) hb W hG)
  unfold OpenPost at c3
  have hz3 := (openR_sizes b (turn : Int)).1
  have hz3' := (openR_sizes b (turn : Int)).2
  generalize (openR b (turn : Int)).1 = s at c3 hz3 ⊢
  generalize (openR b (turn : Int)).2.1 = r3 at c3 hz3' ⊢
  generalize (openR b (turn : Int)).2.2 = e3 at c3 ⊢
  have c4 := Lib.hid (fun W => Take_any s (by omega) W)
  unfold TakePost at c4
  generalize dropB s (numS s).2.1 = more at c4 ⊢
  generalize (numS s).1 = which at c4 ⊢
  generalize (numS s).2.2 = e4 at c4 ⊢
  have c5 := Lib.hid (fun W => Tryz.strings_Trim_one r3 0 (by decide) W (by omega))
  have htz := trim_zeros r3
  generalize (⟨(Lib.trimB r3.data.toList 0).toArray⟩ : ByteArray) = tz at c5 htz
  generalize zerosB r3 = z at htz ⊢
  by_cases he3 : e3 ≠ 0
  · rw [if_pos (.inl he3)]
    rw [errV_ne he3] at c3
    clear he3 hg hz1 hb hz3 hz3' htz
    by_cases he4 : e4 = 0
    · subst he4
      rw [errV_zero] at c4
      go_enter Tryz.func73, Tryz.ntmps73
      go_wp2_with (first
        | (go_at_call 75; (with_reducible refine c1.out.mono ?_); rintro e w1 ⟨rfl, hb⟩; have HB1 := Lib.hid hb; clear hb)
        | (go_at_call 77; (with_reducible refine (c2.out _).mono ?_); rintro e w2 ⟨rfl, m, hm⟩; have hb : Below w1.heap.size w1 w2 := (by rw [hm]; exact below_drewN _ _); have HB2 := Lib.hid (below_step HB1.out hb); clear hb hm)
        | (go_at_call 42; (with_reducible refine (c3.out _ (ErrVar.below HG.out HB2.out)).mono ?_); rintro e w3 ⟨rfl, hb⟩; have HB3 := Lib.hid (below_step HB2.out hb); clear hb)
        | (go_at_call 77; (with_reducible refine (c4.out _).mono ?_); rintro e w4 ⟨rfl, m, hm⟩; have hb : Below w3.heap.size w3 w4 := (by rw [hm]; exact below_drewN _ _); have HB4 := Lib.hid (below_step HB3.out hb); clear hb hm))
      go_ret2
      exact ⟨rfl, HB4.out⟩
    · rw [errV_ne he4] at c4
      clear he4
      go_enter Tryz.func73, Tryz.ntmps73
      go_wp2_with (first
        | (go_at_call 75; (with_reducible refine c1.out.mono ?_); rintro e w1 ⟨rfl, hb⟩; have HB1 := Lib.hid hb; clear hb)
        | (go_at_call 77; (with_reducible refine (c2.out _).mono ?_); rintro e w2 ⟨rfl, m, hm⟩; have hb : Below w1.heap.size w1 w2 := (by rw [hm]; exact below_drewN _ _); have HB2 := Lib.hid (below_step HB1.out hb); clear hb hm)
        | (go_at_call 42; (with_reducible refine (c3.out _ (ErrVar.below HG.out HB2.out)).mono ?_); rintro e w3 ⟨rfl, hb⟩; have HB3 := Lib.hid (below_step HB2.out hb); clear hb)
        | (go_at_call 77; (with_reducible refine (c4.out _).mono ?_); rintro e w4 ⟨rfl, m, hm⟩; have hb : Below w3.heap.size w3 w4 := (by rw [hm]; exact below_drewN _ _); have HB4 := Lib.hid (below_step HB3.out hb); clear hb hm))
      go_ret2
      exact ⟨rfl, HB4.out⟩
  obtain rfl : e3 = 0 := Classical.byContradiction he3
  rw [errV_zero] at c3
  by_cases he4 : e4 ≠ 0
  · rw [if_pos (.inr (.inl he4))]
    rw [errV_ne he4] at c4
    clear he4 hg hz1 hb hz3 hz3' htz
    go_enter Tryz.func73, Tryz.ntmps73
    go_wp2_with (first
      | (go_at_call 75; (with_reducible refine c1.out.mono ?_); rintro e w1 ⟨rfl, hb⟩; have HB1 := Lib.hid hb; clear hb)
      | (go_at_call 77; (with_reducible refine (c2.out _).mono ?_); rintro e w2 ⟨rfl, m, hm⟩; have hb : Below w1.heap.size w1 w2 := (by rw [hm]; exact below_drewN _ _); have HB2 := Lib.hid (below_step HB1.out hb); clear hb hm)
      | (go_at_call 42; (with_reducible refine (c3.out _ (ErrVar.below HG.out HB2.out)).mono ?_); rintro e w3 ⟨rfl, hb⟩; have HB3 := Lib.hid (below_step HB2.out hb); clear hb)
      | (go_at_call 77; (with_reducible refine (c4.out _).mono ?_); rintro e w4 ⟨rfl, m, hm⟩; have hb : Below w3.heap.size w3 w4 := (by rw [hm]; exact below_drewN _ _); have HB4 := Lib.hid (below_step HB3.out hb); clear hb hm))
    go_ret2
    exact ⟨rfl, HB4.out⟩
  obtain rfl : e4 = 0 := Classical.byContradiction he4
  rw [errV_zero] at c4
  obtain ⟨mb, hmb⟩ : ∃ mb, (more.toList == []) = mb := ⟨_, rfl⟩
  have hmb2 : more.toList.isEmpty = mb := by rw [← hmb]; cases more.toList <;> rfl
  have hmz : more = ⟨#[]⟩ ↔ mb = true := by
    rw [← hmb, beq_iff_eq]
    exact ⟨fun h => by rw [h]; rw [ByteArray.toList_eq], fun h => list_inj (h.trans (by rw [ByteArray.toList_eq]))⟩
  have htz2 : tz.toList.isEmpty = z := by rw [← htz]; cases tz.toList <;> rfl
  clear hg hz1 hb hz3 hz3'
  cases mb
  · rw [if_pos (.inr (.inr (.inl (fun h => by have := hmz.1 h; cases this))))]
    clear hmz htz htz2
    go_enter Tryz.func73, Tryz.ntmps73
    go_wp2_with (first
      | (go_at_call 75; (with_reducible refine c1.out.mono ?_); rintro e w1 ⟨rfl, hb⟩; have HB1 := Lib.hid hb; clear hb)
      | (go_at_call 77; (with_reducible refine (c2.out _).mono ?_); rintro e w2 ⟨rfl, m, hm⟩; have hb : Below w1.heap.size w1 w2 := (by rw [hm]; exact below_drewN _ _); have HB2 := Lib.hid (below_step HB1.out hb); clear hb hm)
      | (go_at_call 42; (with_reducible refine (c3.out _ (ErrVar.below HG.out HB2.out)).mono ?_); rintro e w3 ⟨rfl, hb⟩; have HB3 := Lib.hid (below_step HB2.out hb); clear hb)
      | (go_at_call 77; (with_reducible refine (c4.out _).mono ?_); rintro e w4 ⟨rfl, m, hm⟩; have hb : Below w3.heap.size w3 w4 := (by rw [hm]; exact below_drewN _ _); have HB4 := Lib.hid (below_step HB3.out hb); clear hb hm))
    go_ret2
    exact ⟨rfl, HB4.out⟩
  have hm := hmz.2 rfl
  clear hmz hmb hmb2
  subst hm
  have hx : ((⟨#[]⟩ : ByteArray).toList == []) = true := by rw [ByteArray.toList_eq]; rfl
  by_cases hw : 1 < which
  · rw [if_pos (.inr (.inr (.inr (.inl hw))))]
    have t1 : (1 : Int) < (which : Int) := by omega
    clear hw htz htz2
    go_enter Tryz.func73, Tryz.ntmps73
    go_wp2_with (first
      | (go_at_call 75; (with_reducible refine c1.out.mono ?_); rintro e w1 ⟨rfl, hb⟩; have HB1 := Lib.hid hb; clear hb)
      | (go_at_call 77; (with_reducible refine (c2.out _).mono ?_); rintro e w2 ⟨rfl, m, hm⟩; have hb : Below w1.heap.size w1 w2 := (by rw [hm]; exact below_drewN _ _); have HB2 := Lib.hid (below_step HB1.out hb); clear hb hm)
      | (go_at_call 42; (with_reducible refine (c3.out _ (ErrVar.below HG.out HB2.out)).mono ?_); rintro e w3 ⟨rfl, hb⟩; have HB3 := Lib.hid (below_step HB2.out hb); clear hb)
      | (go_at_call 77; (with_reducible refine (c4.out _).mono ?_); rintro e w4 ⟨rfl, m, hm⟩; have hb : Below w3.heap.size w3 w4 := (by rw [hm]; exact below_drewN _ _); have HB4 := Lib.hid (below_step HB3.out hb); clear hb hm))
    go_ret2
    exact ⟨rfl, HB4.out⟩
  have t1 : (which : Int) ≤ 1 := by omega
  cases z
  · rw [if_pos (.inr (.inr (.inr (.inr rfl))))]
    clear hw
    go_enter Tryz.func73, Tryz.ntmps73
    go_wp2_with (first
      | (go_at_call 75; (with_reducible refine c1.out.mono ?_); rintro e w1 ⟨rfl, hb⟩; have HB1 := Lib.hid hb; clear hb)
      | (go_at_call 77; (with_reducible refine (c2.out _).mono ?_); rintro e w2 ⟨rfl, m, hm⟩; have hb : Below w1.heap.size w1 w2 := (by rw [hm]; exact below_drewN _ _); have HB2 := Lib.hid (below_step HB1.out hb); clear hb hm)
      | (go_at_call 42; (with_reducible refine (c3.out _ (ErrVar.below HG.out HB2.out)).mono ?_); rintro e w3 ⟨rfl, hb⟩; have HB3 := Lib.hid (below_step HB2.out hb); clear hb)
      | (go_at_call 77; (with_reducible refine (c4.out _).mono ?_); rintro e w4 ⟨rfl, m, hm⟩; have hb : Below w3.heap.size w3 w4 := (by rw [hm]; exact below_drewN _ _); have HB4 := Lib.hid (below_step HB3.out hb); clear hb hm)
      | (go_at_call 96; (refine (c5.out _).mono ?_); rintro e w5 ⟨rfl, hw5⟩; have hb : Below w4.heap.size w4 w5 := (by rcases hw5 with rfl | rfl; exact Below.refl _ _; exact (Below.refl _ _).drew); have HB5 := Lib.hid (below_step HB4.out hb); clear hb hw5))
    go_ret2
    exact ⟨rfl, HB5.out⟩
  · rw [if_neg (by simp; omega)]
    clear hw
    go_enter Tryz.func73, Tryz.ntmps73
    go_wp2_with (first
      | (go_at_call 75; (with_reducible refine c1.out.mono ?_); rintro e w1 ⟨rfl, hb⟩; have HB1 := Lib.hid hb; clear hb)
      | (go_at_call 77; (with_reducible refine (c2.out _).mono ?_); rintro e w2 ⟨rfl, m, hm⟩; have hb : Below w1.heap.size w1 w2 := (by rw [hm]; exact below_drewN _ _); have HB2 := Lib.hid (below_step HB1.out hb); clear hb hm)
      | (go_at_call 42; (with_reducible refine (c3.out _ (ErrVar.below HG.out HB2.out)).mono ?_); rintro e w3 ⟨rfl, hb⟩; have HB3 := Lib.hid (below_step HB2.out hb); clear hb)
      | (go_at_call 77; (with_reducible refine (c4.out _).mono ?_); rintro e w4 ⟨rfl, m, hm⟩; have hb : Below w3.heap.size w3 w4 := (by rw [hm]; exact below_drewN _ _); have HB4 := Lib.hid (below_step HB3.out hb); clear hb hm)
      | (go_at_call 96; (refine (c5.out _).mono ?_); rintro e w5 ⟨rfl, hw5⟩; have hb : Below w4.heap.size w4 w5 := (by rcases hw5 with rfl | rfl; exact Below.refl _ _; exact (Below.refl _ _).drew); have HB5 := Lib.hid (below_step HB4.out hb); clear hb hw5))
    go_ret2
    exact ⟨rfl, HB5.out⟩
end Go.Proofs.YtjincmagbbpooaaGreatDoor
end

section
set_option linter.unusedVariables false
set_option linter.unusedSimpArgs false
namespace Go.Proofs.YtjincmagbbpooaaGreatDoor
open Go.RowKit

theorem lastW_64 : ∀ (l : List (Nat × ByteArray)) (i : Nat) (s : ByteArray), s.size ≤ 64 → (∀ x ∈ l, x.2.size = 64) → (lastW l i s).size ≤ 64
  | [], i, s, h, _ => h
  | x :: l, i, s, h, hl => by
    show (lastW l i (if x.1 = i then x.2 else s)).size ≤ 64
    refine lastW_64 l i _ ?_ (fun y hy => hl y (List.mem_cons_of_mem _ hy))
    split
    · exact Nat.le_of_eq (hl x (List.mem_cons_self ..))
    · exact h
theorem readS_64 {D : DS} (h : D.ok) (i : Int) : (D.readS i).size ≤ 64 := by
  unfold DS.readS
  split
  · exact Nat.zero_le _
  · refine lastW_64 _ _ _ ?_ (fun x hx => (h.lies x hx).2)
    rw [List.getD_eq_getElem?_getD]
    cases hg : D.sure[i.toNat]? with
    | none => exact Nat.zero_le _
    | some s => exact Nat.le_of_eq (h.size s (List.mem_of_getElem? hg))
/-- What has been found behind so many superblocks. -/
def DS.found (D : DS) : Nat → Nat × Nat
  | 0 => (0, 0)
  | i + 1 => newer (D.found i) (readB (D.readS (i : Int)))

set_option maxHeartbeats 8000000 in
set_option maxRecDepth 100000 in
theorem newest_any (F : Nat → Prop) (p : Nat) (D : DS) (w : World) (h : Dsk w F p D) (hg : ErrVar w) :
    Calls Tryz.prog 37 #[.pointer (some ⟨p, 0, none⟩)] w fun e w' => e = .returned (.tuple #[.int .i64 (D.newest.1 : Int), .int .i64 (D.newest.2.1 : Int), errV D.newest.2.2]) ∧ Below w.heap.size w w' := by
  have HG := Lib.hid hg
  have HD := Lib.hid h
  have hR : D.newest = if D.may ((0 : Nat) : Int) ≠ 0 then (0, 0, D.may ((0 : Nat) : Int)) else if D.may ((1 : Nat) : Int) ≠ 0 then (0, 0, D.may ((1 : Nat) : Int)) else if (D.found 2).1 = 0 then (0, 0, 10) else ((D.found 2).1, (D.found 2).2, 0) := rfl
  generalize D.newest = R at hR ⊢
  have HR := Lib.hid hR
  clear hR h hg
  go_enter Tryz.func37, Tryz.ntmps37
  go_upto_region 2 with fail
  go_loopg [2, 3, 10] 2 (fun kq v2 v3 v10 wr => ∃ (i : Nat) (x : Nat × Nat), v2 = .int .i64 (x.1 : Int) ∧ v3 = .int .i64 (x.2 : Int) ∧ v10 = .int .i64 (i : Int) ∧ i + kq = 2 ∧ Hid (x = D.found i) ∧ Hid (∀ j : Nat, j < i → D.may (j : Int) = 0) ∧ Hid (Below w.heap.size w wr))
  case atStart => exact ⟨0, (0, 0), rfl, rfl, rfl, by omega, rfl, fun j hj => by omega, Below.refl _ _⟩
  case round =>
    obtain ⟨i, ⟨turn, which⟩, rfl, rfl, rfl, hi, HF, HM, HB⟩ := hrel
    have hD1 := HD.out.below HB.out
    by_cases hlt : i < 2
    · have q1 : (i : Int) < 2 := by omega
      have cr := Lib.hid (Read_any wr F p D (i : Int) hD1)
      have cx := Lib.hid (read_any (D.readS (i : Int)) (by have := readS_64 HD.out.ok (i : Int); omega) wr (ErrVar.below HG.out HB.out))
      obtain ⟨k', rfl⟩ : ∃ k', gk = k' + 1 := ⟨gk - 1, by omega⟩
      have hnx : D.found (i + 1) = newer (turn, which) (readB (D.readS (i : Int))) := by rw [HF.out]; rfl
      have HNX := Lib.hid hnx
      have hm : D.may (i : Int) = D.may (i : Int) := rfl
      generalize hmm : D.may (i : Int) = m at cr
      have HMM := Lib.hid hmm
      clear hnx hm hmm hlt hD1
      by_cases hm0 : m = 0
      · subst hm0
        rw [errV_zero] at cr
        have HM2 : Hid (∀ j : Nat, j < i + 1 → D.may (j : Int) = 0) := by
          intro j hj
          rcases Nat.lt_or_ge j i with h | h
          · exact HM.out j h
          · obtain rfl : j = i := by omega
            exact HMM.out
        generalize readB (D.readS (i : Int)) = y at cx HNX
        obtain ⟨t2, w2⟩ := y
        generalize D.readS (i : Int) = s at cr cx
        by_cases hlt2 : turn < t2
        · have q2 : (turn : Int) < (t2 : Int) := by omega
          have HN2 : Hid (D.found (i + 1) = (t2, w2)) := by
            show _ = _
            rw [HNX.out]
            unfold newer
            rw [if_pos hlt2]
          clear hlt2
          go_wp2_with (first
            | (go_at_call 33; (with_reducible refine cr.out.mono ?_); rintro e w3 ⟨rfl, rfl⟩)
            | (go_at_call 73; (with_reducible refine cx.out.mono ?_); rintro e w4 ⟨rfl, hb⟩; have HB2 := Lib.hid (below_step HB.out hb); clear hb))
          go_roundg k'
          case measure => omega
          case rel => exact ⟨i + 1, (t2, w2), rfl, rfl, by go_num, by omega, HN2.out.symm, HM2, HB2⟩
        · have q2 : (t2 : Int) ≤ (turn : Int) := by omega
          have HN2 : Hid (D.found (i + 1) = (turn, which)) := by
            show _ = _
            rw [HNX.out]
            unfold newer
            rw [if_neg hlt2]
          clear hlt2
          go_wp2_with (first
            | (go_at_call 33; (with_reducible refine cr.out.mono ?_); rintro e w3 ⟨rfl, rfl⟩)
            | (go_at_call 73; (with_reducible refine cx.out.mono ?_); rintro e w4 ⟨rfl, hb⟩; have HB2 := Lib.hid (below_step HB.out hb); clear hb))
          go_roundg k'
          case measure => omega
          case rel => exact ⟨i + 1, (turn, which), rfl, rfl, by go_num, by omega, HN2.out.symm, HM2, HB2⟩
      · rw [errV_ne hm0] at cr
        have hRv : R = (0, 0, m) := by
          rw [HR.out]
          have hi' : i = 0 ∨ i = 1 := by omega
          rcases hi' with rfl | rfl
          · rw [HMM.out, if_pos hm0]
          · rw [HM.out 0 (by omega), if_neg (by decide), HMM.out, if_pos hm0]
        have HRV := Lib.hid hRv
        have HE := Lib.hid (errV_ne hm0)
        clear hRv hm0 cx
        go_wp2_with (go_at_call 33; (with_reducible refine cr.out.mono ?_); rintro e w3 ⟨rfl, rfl⟩)
        go_ret3
        rw [HRV.out]
        exact ⟨by rw [HE.out]; rfl, HB.out⟩
    · obtain rfl : i = 2 := by omega
      have hRv : R = if turn = 0 then (0, 0, 10) else (turn, which, 0) := by
        rw [HR.out, HM.out 0 (by omega), if_neg (by decide), HM.out 1 (by omega), if_neg (by decide), ← HF.out]
      clear hlt hD1
      by_cases ht : turn = 0
      · subst ht
        rw [if_pos rfl] at hRv
        have HRV := Lib.hid hRv
        clear hRv
        go_wp2
        go_ret3
        rw [HRV.out]
        exact ⟨rfl, HB.out⟩
      · rw [if_neg ht] at hRv
        have t1 : ((turn : Int) == 0) = false := by rw [beq_eq_false_iff_ne]; omega
        have HRV := Lib.hid hRv
        clear hRv ht
        go_wp2
        go_ret3
        rw [HRV.out]
        exact ⟨rfl, HB.out⟩
end Go.Proofs.YtjincmagbbpooaaGreatDoor
end
