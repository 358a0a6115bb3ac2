import Derived.Test.YtjincmagbbpooaaGreatDoorM1
import Derived.KernelRfl
import Derived.Deep.QuietTactic
import Derived.BigQuiet
import Derived.Deep.RegionHeld3
import Derived.Deep.LoopGhost
import Derived.Deep.AppendLies
import Derived.Laws.BytesArg
import Derived.WalkLawsBesides
import Derived.Shelf.Strings.Builder1
import Derived.Shelf.Strings.Builder2
import Derived.Shelf.Strings.Trim
import Derived.Shelf.Small.Utf8
import Derived.Shelf.Small.Strs
import Derived.Shelf.Strings.BuilderF
import Derived.Shelf.Strings.BuilderK
import Derived.Shelf.Strings.Search1
import Derived.Shelf.Strings.Prefix
import Derived.Shelf.Strings.Runes
import Derived.Shelf.Strings.AsciiSet
import Derived.Shelf.Bits.Mul64
import Derived.Shelf.Strings.Repeat
import Derived.Shelf.Unicode.DecodeSlow
import Derived.Test.YtjincmagbbpooaaGreatDoorProg
import Derived.BigRegion
import Derived.Deep.RegionLaw

section
set_option linter.unusedVariables false
set_option linter.unusedSimpArgs false
namespace Go.Proofs.YtjincmagbbpooaaGreatDoor
open Go.RowKit Go.Extern.Stop Go.Stop Go.Extern

theorem Tryz.eq_nil_E (c : Int) (w : World) : (binOp .eql 28 .nilIface (.iface 34 (.int .i64 c))).run Tryz.prog w = .ok (.bool false) w := run_eql_iface_nil_left (P := Tryz.prog) w 34 _ Tryz.underlying28
theorem Tryz.eq_E_E (c c' : Int) (w : World) : (binOp .eql 28 (.iface 34 (.int .i64 c)) (.iface 34 (.int .i64 c'))).run Tryz.prog w = .ok (.bool (c == c')) w := by kernel_rfl
theorem Tryz.comparableE (w : World) : ((ReflectliteType.method fun t => do Rtype.noPackHeld "Comparable" t; pure (.bool (← typeInfo t).comparable)) #[.agg #[.pointer (some ⟨4, 34, none⟩)]]).run Tryz.prog w = .ok (.bool true) w := by kernel_rfl
theorem Tryz.noIsE (v : Value) (xT : TypeId) (w : World) : (Instr.typeAssert (.iface 34 v) xT 128 true).run Tryz.prog w = .ok (.tuple #[.nilIface, .bool false]) w := run_typeAssert_lacksB Tryz.underlying128 (by kernel_rfl) (by kernel_rfl) v xT w
theorem Tryz.noUnwrapE (v : Value) (xT : TypeId) (w : World) : (Instr.typeAssert (.iface 34 v) xT 131 true).run Tryz.prog w = .ok (.tuple #[.nilIface, .bool false]) w := run_typeAssert_lacksB Tryz.underlying131 (by kernel_rfl) (by kernel_rfl) v xT w
theorem Tryz.noUnwrapsE (v : Value) (xT : TypeId) (w : World) : (Instr.typeAssert (.iface 34 v) xT 132 true).run Tryz.prog w = .ok (.tuple #[.nilIface, .bool false]) w := run_typeAssert_lacksB Tryz.underlying132 (by kernel_rfl) (by kernel_rfl) v xT w

set_option maxHeartbeats 4000000 in
set_option maxRecDepth 100000 in
theorem is_nil (c : Int) (w : World) : Calls Tryz.prog 12 #[.nilIface, .iface 34 (.int .i64 c)] w fun e w' => e = .returned (.bool false) ∧ w = w' := by
  have hn := Tryz.eq_nil_E
  go_enter Tryz.func12, Tryz.ntmps12
  go_wp2
  go_ret
  exact ⟨rfl, rfl⟩

set_option maxHeartbeats 4000000 in
set_option maxRecDepth 100000 in
theorem is_yes (c : Int) (w : World) : Calls Tryz.prog 12 #[.iface 34 (.int .i64 c), .iface 34 (.int .i64 c)] w fun e w' => e = .returned (.bool true) ∧ w = w' := by
  have h8 := @run_callFunc_extern Tryz.prog 49 _ ReflectliteType.typeOf Tryz.func49 (by kernel_rfl) (by kernel_rfl) (by kernel_rfl) (by kernel_rfl)
  have h32 := @run_callFunc_extern Tryz.prog 146 _ (ReflectliteType.method fun t => do Rtype.noPackHeld "Comparable" t; pure (.bool (← typeInfo t).comparable)) Tryz.func146 (by kernel_rfl) (by kernel_rfl) (by kernel_rfl) (by kernel_rfl)
  have tT := Tryz.typeOfE
  have cT := Tryz.comparableE
  have mR := Tryz.methodComparable
  have heq := Tryz.eq_E_E c c
  rw [beq_self_eq_true] at heq
  simp only [bind_pure_comp] at cT h32
  go_enter Tryz.func12, Tryz.ntmps12
  go_wp2
  refine wp_loop_rounds 1 ?_
  rw [rounds_succ]
  go_wp2
  go_ret
  exact ⟨rfl, rfl⟩

set_option maxHeartbeats 4000000 in
set_option maxRecDepth 100000 in
theorem is_no (c c' : Int) (hne : (c == c') = false) (w : World) : Calls Tryz.prog 12 #[.iface 34 (.int .i64 c), .iface 34 (.int .i64 c')] w fun e w' => e = .returned (.bool false) ∧ w = w' := by
  have h8 := @run_callFunc_extern Tryz.prog 49 _ ReflectliteType.typeOf Tryz.func49 (by kernel_rfl) (by kernel_rfl) (by kernel_rfl) (by kernel_rfl)
  have h32 := @run_callFunc_extern Tryz.prog 146 _ (ReflectliteType.method fun t => do Rtype.noPackHeld "Comparable" t; pure (.bool (← typeInfo t).comparable)) Tryz.func146 (by kernel_rfl) (by kernel_rfl) (by kernel_rfl) (by kernel_rfl)
  have tT := Tryz.typeOfE
  have cT := Tryz.comparableE
  have mR := Tryz.methodComparable
  have heq := Tryz.eq_E_E c c'
  rw [hne] at heq
  clear hne
  have nE := Tryz.noIsE
  have uE := Tryz.noUnwrapE
  have vE := Tryz.noUnwrapsE
  simp only [bind_pure_comp] at cT h32
  go_enter Tryz.func12, Tryz.ntmps12
  go_wp2
  refine wp_loop_rounds 1 ?_
  rw [rounds_succ]
  go_wp2
  go_ret
  exact ⟨rfl, rfl⟩

/-- errors.Is of what a call of the program answers: nought is none. -/
theorem is_any (c c' : Int) (hc : c' ≠ 0) (w : World) : Calls Tryz.prog 12 #[errV c, .iface 34 (.int .i64 c')] w fun e w' => e = .returned (.bool (c == c')) ∧ w = w' := by
  unfold errV
  by_cases h0 : c = 0
  · rw [if_pos h0]
    have : (c == c') = false := by rw [beq_eq_false_iff_ne]; omega
    rw [this]
    exact is_nil c' w
  · rw [if_neg h0]
    by_cases h1 : c = c'
    · subst h1
      rw [beq_self_eq_true]
      exact is_yes c w
    · have : (c == c') = false := by rw [beq_eq_false_iff_ne]; exact h1
      rw [this]
      exact is_no c c' this w

/-- What errors.As leaves. -/
def AsPost (t : Addr) (c : Int) (w : World) (e : Ending) (w' : World) : Prop := e = .returned (.bool true) ∧ ∃ w1, Below w.heap.size w w1 ∧ w' = w1.setCell t (.int .i64 c) ∧ (∃ old, w1.cell? t = some old) ∧ t.block < w.heap.size
theorem as_hit (t : Addr) (c : Int) (old : Value) (w : World) (hg : ErrVar w) (ht0 : w.cell? t = some old) (hf0 : w.frozen? t = false) :
    Calls Tryz.prog 57 #[.iface 34 (.int .i64 c), .iface 107 (.pointer (some t))] w (AsPost t c w) :=
  (as_raw t c old w hg ht0 hf0).mono fun e w' ⟨he, hw⟩ => by
    have hb : Below w.heap.size w ((((w.alloc (.cells #[.pointer (some t)] 107)).alloc (.cells #[.pointer (some ⟨4, 107, none⟩), .pointer (some ⟨w.heap.size, 0, none⟩), .int .u64 150] 138)).alloc (.cells #[.pointer (some ⟨4, 107, none⟩), .pointer (some ⟨w.heap.size, 0, none⟩), .int .u64 150] 138)).alloc (.cells #[.int .i64 c] 34)) :=
      ((((Below.refl _ w).alloc (Nat.le_refl _) _).alloc (by simp) _).alloc (by simp; omega) _).alloc (by simp; omega) _
    exact ⟨he, _, hb, hw, ⟨old, cell_keep hb ht0⟩, cell_lt ht0⟩
end Go.Proofs.YtjincmagbbpooaaGreatDoor
end

section
set_option linter.unusedVariables false
set_option linter.unusedSimpArgs false
namespace Go.Proofs.YtjincmagbbpooaaGreatDoor
open Go.RowKit

/-- The greater of two, the less. -/
def mxI (a b : Int) : Int := if a < b then b else a
def mnI (a b : Int) : Int := if b < a then b else a
theorem max2_int (k k' : IntKind) (x y : Int) : Builtin.max2 (.int k x) (.int k' y) = pure (.int k (mxI x y)) := by
  simp only [Builtin.max2, gt_iff_lt, mxI]
theorem max_two (ats : Array TypeId) (ty : TypeId) (a b : Value) : Builtin.max_ ats ty #[a, b] = (Builtin.max2 a b >>= fun s => pure s) := by simp only [Builtin.max_, List.foldlM_cons, List.foldlM_nil]
theorem min2_int (k k' : IntKind) (x y : Int) : Builtin.min2 (.int k x) (.int k' y) = pure (.int k (mnI x y)) := by simp only [Builtin.min2, mnI]
theorem min_two (ats : Array TypeId) (ty : TypeId) (a b : Value) : Builtin.min_ ats ty #[a, b] = (Builtin.min2 a b >>= fun s => pure s) := by simp only [Builtin.min_, List.foldlM_cons, List.foldlM_nil]

theorem quiet_eq {P : Program} {f : FuncId} {args : Array Value} {w : World} {n : Nat} {v : Value}
    (h : Calls P f args (w.drewN n) fun e w' => e = .returned v ∧ w.drewN n = w') : Calls P f args (w.drewN n) fun e w'' => e = .returned v ∧ ∃ m, w'' = w.drewN m :=
  h.mono fun _ _ ⟨he, hm⟩ => ⟨he, n, hm.symm⟩
theorem blk_lt {w : World} {b : Nat} {o : Obj} (h : w.heap[b]? = some o) : b < w.heap.size := by
  rcases Nat.lt_or_ge b w.heap.size with h' | h'
  · exact h'
  · rw [Array.getElem?_eq_none h'] at h; cases h
theorem cellAt {w : World} {b : Nat} {c : Array Value} {t : TypeId} (h : w.heap[b]? = some (.cells c t (0, 0))) (i : Nat) : w.cell? ⟨b, i, none⟩ = c[i]? := by
  simp [World.cell?, h]

theorem new_cell (w : World) (c : Array Value) (t : TypeId) (i : Nat) : (w.alloc (.cells c t)).cell? ⟨w.heap.size, i, none⟩ = c[i]? := cellAt (heap_alloc_new w _) i
theorem new_frozen (w : World) (c : Array Value) (t : TypeId) (i : Nat) : (w.alloc (.cells c t)).frozen? ⟨w.heap.size, i, none⟩ = false := by unfold World.frozen?; simp only [heap_alloc_new]; simp

/-! ### What an append leaves as it was -/
def NB (base : Nat) (v : Value) : Prop := ∀ k, k < base → some k ≠ v.ownBlock
theorem own_nb {w : World} {base : Nat} {e : TypeId} {s : Nat} {v : Value} {n : Nat} {xs : List Value} (h : w.ownsRow base e s v n xs) : NB base v := fun k hk e => by have := (h.lt k e.symm).1; omega
theorem grown_below {w w' : World} {base : Nat} {v : Value} (hb : base ≤ w.heap.size) (hn : NB base v) (hg : w.grownBy w' v.ownBlock) : Below base w w' :=
  ⟨hg.os, hg.tape, hg.output, hg.size, fun k hk => hg.block k (by omega) (hn k hk)⟩

theorem Tryz.info5 : (Tryz.prog.info? 5).map (fun i => (i.zero, i.size, i.bytes)) = some (some (.int .u8 0), 1, 1) := by kernel_rfl
def u8s (l : List Nat) : List Value := l.map fun (x : Nat) => Value.int .u8 (x : Int)
theorem conv_own {w : World} {base n : Nat} {v : Value} {l : List Nat} (h : w.ownsRow base 5 1 v n (u8s l)) :
    (convert 79 9 v).run Tryz.prog w = .ok (.string (strOfNums (l.map fun (x : Nat) => (x : Int)))) w := by
  have hl : l.length = n := by have := h.1; simp [u8s] at this; exact this
  rcases h.2 with ⟨rfl, rfl⟩ | ⟨g, cap, cur, rfl, _⟩
  · obtain rfl : l = [] := List.eq_nil_of_length_eq_zero hl
    exact run_convert_bytes_nil w 79 5 Tryz.underlying79 Tryz.underlying5 0 0 9 Tryz.underlying9
  · refine run_convert_bytes_arg w 79 5 Tryz.underlying79 Tryz.underlying5 g 0 n cap (l.map fun (x : Nat) => (x : Int)) (by simpa using hl) (fun i hi => ?_) 9 Tryz.underlying9
    have hc := h.cells (g := g) rfl i (.int .u8 ((l.getD i 0 : Nat) : Int)) (by simp [u8s, List.getElem?_eq_getElem (show i < l.length by omega), List.getD_eq_getElem?_getD])
    have ha : (⟨g, 0, none⟩ : Addr).add i = ⟨g, 0 + i, none⟩ := by unfold Addr.add; split <;> simp_all
    rw [ha] at hc
    rw [hc]
    simp [List.getD_eq_getElem?_getD, List.getElem?_eq_getElem (show i < l.length by omega)]

/-! ### pack.Num -/
/-- A number's bytes. -/
def numB (n : Nat) : List Nat := if n < 128 then [n] else (n % 128 + 128) :: numB (n / 128)
termination_by n
decreasing_by omega
/-- Bytes as a text. -/
def strN (l : List Nat) : ByteArray := strOfNums (l.map fun (x : Nat) => (x : Int))
theorem numB_small {n : Nat} (h : n < 128) : numB n = [n] := by rw [numB, if_pos h]
theorem numB_great {n : Nat} (h : ¬ n < 128) : numB n = (n % 128 + 128) :: numB (n / 128) := by conv => lhs; rw [numB, if_neg h]
theorem u8s_append (l m : List Nat) : u8s (l ++ m) = u8s l ++ u8s m := by simp [u8s]

/-- So many sevens of bits are left. -/
def Left7 (k m : Nat) : Prop := k ≤ 9 ∧ m < 2 ^ (63 - 7 * k)
theorem Left7.start {n : Nat} (hn : n ≤ 9223372036854775807) : Left7 0 n := ⟨by omega, by show n < 9223372036854775808; omega⟩
theorem Left7.step {k m : Nat} (h : Left7 k m) (hm : ¬ m < 128) : Left7 (k + 1) (m / 128) := by
  obtain ⟨h1, h2⟩ := h
  have h3 : 7 < 63 - 7 * k := by
    rcases Nat.lt_or_ge 7 (63 - 7 * k) with h | h
    · exact h
    · have : 2 ^ (63 - 7 * k) ≤ 2 ^ 7 := Nat.pow_le_pow_right (by decide) h
      have e : (2 : Nat) ^ 7 = 128 := rfl
      omega
  obtain ⟨a, ha⟩ : ∃ a, 63 - 7 * k = a + 7 := ⟨63 - 7 * k - 7, by omega⟩
  rw [ha, Nat.pow_add] at h2
  refine ⟨by omega, ?_⟩
  have e : 63 - 7 * (k + 1) = a := by omega
  rw [e]
  have e7 : (2 : Nat) ^ 7 = 128 := rfl
  rw [e7] at h2
  omega

attribute [local go_sem] max2_int max_two
set_option maxHeartbeats 4000000 in
set_option maxRecDepth 100000 in
theorem Num_any (z : Int) (n : Nat) (hz : mxI z 0 = (n : Int)) (hn : n ≤ 9223372036854775807) (w : World) :
    Calls Tryz.prog 81 #[.int .i64 z] w fun e w' => e = .returned (.string (strN (numB n))) ∧ Below w.heap.size w w' := by
  obtain ⟨i0, hi, hz0, hz1, hz2⟩ := info_parts Tryz.info5
  have HI := Lib.hid hi
  have HZ0 := Lib.hid hz0
  have HZ1 := Lib.hid hz1
  have HZ2 := Lib.hid hz2
  clear hi hz0 hz1 hz2
  go_enter Tryz.func81, Tryz.ntmps81
  go_wp2
  clear hz
  go_loopw [0, 3] (fun v0 v3 wr => ∃ (m : Nat) (l : List Nat), v0 = .int .i64 m ∧ m ≤ n ∧ Hid (wr.ownsRow w.heap.size 5 1 v3 l.length (u8s l)) ∧ Hid (l ++ numB m = numB n) ∧ Hid (Left7 l.length m) ∧ Hid (Below w.heap.size w wr)) (fun v0 _ _ => (intOf v0).toNat)
  case atStart => exact ⟨n, [], rfl, Nat.le_refl _, World.ownsRow_nil _ _ _ _, rfl, Left7.start hn, Below.refl _ _⟩
  case round =>
    obtain ⟨m, l, rfl, hm, ho, hl, hll, hb⟩ := hrel
    have hlm : l.length ≤ 9 := hll.out.1
    by_cases hlt : m < 128
    · have hmod : (m : Int) % 256 = (m : Int) := by omega
      go_wp2_with (at_builtin; refine wpList_append_lies _ rfl _ _ _ rfl w.heap.size 5 i0 (.int .u8 0) 1 1 Tryz.underlying79 HI.out HZ0.out HZ1.out HZ2.out rfl (by decide) u3 l.length (u8s l) rfl (ho.out.alloc _) _ 1 1 [.int .u8 (m : Int)] rfl rfl (World.news_of_block (heap_alloc_new _ _)) (by simp [Value.oneCell']) (by decide) (by unfold maxLen; omega) (by omega) (by have := hb.out.size; simp; omega) _ rfl ?_; intro g cap w2 ho2 hg2 ha2 hlt2; have hcv := conv_own (l := l ++ [m]) (by rw [u8s_append]; exact ho2); have HB2 := Lib.hid (hb.out.trans (((Below.refl _ _).alloc (by have := hb.out.size; omega) _).trans (grown_below (by have := hb.out.size; simp; omega) (own_nb ho.out) hg2))); clear ho2 hg2 ha2 hlt2)
      go_ret
      refine ⟨?_, HB2.out⟩
      have e := hl.out
      rw [numB_small hlt] at e
      rw [← e]
      unfold strN
      rw [List.map_append]
      rfl
    · have hge : 128 ≤ m := by omega
      have q1 : (128 : Int) ≤ (m : Int) := by omega
      obtain ⟨r, hr⟩ : ∃ r : Nat, (m : Int) % 128 + 128 = (r : Int) := ⟨m % 128 + 128, by omega⟩
      have hr' : r = m % 128 + 128 := by omega
      have hmod : (r : Int) % 256 = (r : Int) := by omega
      have HR := Lib.hid hr'
      obtain ⟨q, hq⟩ : ∃ q : Nat, (m : Int) / 128 = (q : Int) := ⟨m / 128, by omega⟩
      have hq' : q = m / 128 := by omega
      have hqm : q < m := by omega
      have HQ := Lib.hid hq'
      have HL := Lib.hid hlt
      clear hr' hq' hlt
      go_wp2_with (at_builtin; refine wpList_append_lies _ rfl _ _ _ rfl w.heap.size 5 i0 (.int .u8 0) 1 1 Tryz.underlying79 HI.out HZ0.out HZ1.out HZ2.out rfl (by decide) u3 l.length (u8s l) rfl (ho.out.alloc _) _ 1 1 [.int .u8 (r : Int)] rfl rfl (World.news_of_block (heap_alloc_new _ _)) (by simp [Value.oneCell']) (by decide) (by unfold maxLen; omega) (by omega) (by have := hb.out.size; simp; omega) _ rfl ?_; intro g cap w2 ho2 hg2 ha2 hlt2; have HO2 : Hid (w2.ownsRow w.heap.size 5 1 (.slice (some ⟨g, 0, none⟩) (l.length + 1) cap) (l ++ [r]).length (u8s (l ++ [r]))) := (by rw [u8s_append, List.length_append]; exact ho2); have HB2 := Lib.hid (hb.out.trans (((Below.refl _ _).alloc (by have := hb.out.size; omega) _).trans (grown_below (by have := hb.out.size; simp; omega) (own_nb ho.out) hg2))); clear ho2 hg2 ha2 hlt2)
      go_roundw
      case rel =>
        refine ⟨q, l ++ [r], rfl, by omega, HO2.out, ?_, ?_, HB2.out⟩
        · have e := hl.out
          rw [numB_great HL.out, ← HQ.out, ← HR.out] at e
          show l ++ [r] ++ numB q = numB n
          rw [← e]
          simp
        · have := hll.out.step HL.out
          rw [← HQ.out] at this
          rw [List.length_append]
          exact this
      case measure => simp [intOf]; omega
end Go.Proofs.YtjincmagbbpooaaGreatDoor
end

section

end

section
/-
  DERIVED: THE SHELF's CONTRACTS AT THIS DUMP, IN PLAIN WORDS (tools/lay-plain.mjs out of 'TryzShelf.lean', which tools/lay-shelf.mjs wrote): THE SAME DECLARATIONS UNDER THE SAME NAMES: 'import', 'namespace', 'open', 'def', 'theorem' AND NOTHING ELSE: no command of the shelf's: FOR A HAND-IN. Each laying: the table of numbers ('.._ren') and one theorem, a field a fact of the dump's own or the kernel's comparison; each contract: ONE APPLICATION.
-/
namespace Go.Proofs
open Go.Shelf
def Tryz.lays105_ren : Go.Shelf.Ren := ⟨fun | 105 => 35 | 212 => 70 | 99 => 71 | 165 => 72 | 166 => 40 | 170 => 44 | 169 => 41 | 263 => 92 | 264 => 93 | 206 => 94 | 240 => 74 | 241 => 95 | 276 => 97 | 277 => 104 | n => n, fun | 9 => 9 | 3 => 3 | 4 => 4 | 20 => 20 | 0 => 0 | 46 => 117 | 109 => 118 | 5 => 5 | 72 => 81 | 76 => 84 | 51 => 149 | 146 => 151 | 53 => 153 | 148 => 154 | 70 => 78 | 37 => 79 | 75 => 28 | 127 => 121 | 164 => 135 | 80 => 88 | n => n, fun | n => n⟩
theorem Tryz.lays105 : Go.Proofs.Lays.n105 Tryz.prog Tryz.lays105_ren := {
  mixed := by kernel_rfl
  f99 := Tryz.func71.trans (congrArg some (by kernel_rfl))
  f105 := Tryz.func35.trans (congrArg some (by kernel_rfl))
  f165 := Tryz.func72.trans (congrArg some (by kernel_rfl))
  f166 := Tryz.func40.trans (congrArg some (by kernel_rfl))
  f169 := Tryz.func41.trans (congrArg some (by kernel_rfl))
  f170 := Tryz.func44.trans (congrArg some (by kernel_rfl))
  f206 := Tryz.func94.trans (congrArg some (by kernel_rfl))
  f212 := Tryz.func70.trans (congrArg some (by kernel_rfl))
  f240 := Tryz.func74.trans (congrArg some (by kernel_rfl))
  f241 := Tryz.func95.trans (congrArg some (by kernel_rfl))
  f263 := Tryz.func92.trans (congrArg some (by kernel_rfl))
  f264 := Tryz.func93.trans (congrArg some (by kernel_rfl))
  f276 := Tryz.func97.trans (congrArg some (by kernel_rfl))
  f277 := Tryz.func104.trans (congrArg some (by kernel_rfl))
  t0 := Tryz.underlying0
  a0 := Tryz.isAgg0
  z0 := Tryz.sizeOf0
  v0 := Tryz.zeroValue0
  t3 := Tryz.underlying3
  a3 := Tryz.isAgg3
  z3 := Tryz.sizeOf3
  v3 := Tryz.zeroValue3
  t4 := Tryz.underlying4
  a4 := Tryz.isAgg4
  z4 := Tryz.sizeOf4
  v4 := Tryz.zeroValue4
  t5 := Tryz.underlying5
  a5 := Tryz.isAgg5
  z5 := Tryz.sizeOf5
  v5 := Tryz.zeroValue5
  t9 := Tryz.underlying9
  a9 := Tryz.isAgg9
  z9 := Tryz.sizeOf9
  v9 := Tryz.zeroValue9
  t20 := Tryz.underlying20
  a20 := Tryz.isAgg20
  z20 := Tryz.sizeOf20
  v20 := Tryz.zeroValue20
  t37 := Tryz.underlying79
  a37 := Tryz.isAgg79
  z37 := Tryz.sizeOf79
  v37 := Tryz.zeroValue79
  t46 := Tryz.underlying117
  a46 := Tryz.isAgg117
  z46 := Tryz.sizeOf117
  v46 := Tryz.zeroValue117
  t51 := Tryz.underlying149
  a51 := Tryz.isAgg149
  z51 := Tryz.sizeOf149
  v51 := Tryz.zeroValue149
  t53 := Tryz.underlying153
  a53 := Tryz.isAgg153
  z53 := Tryz.sizeOf153
  v53 := Tryz.zeroValue153
  t70 := Tryz.underlying78
  a70 := Tryz.isAgg78
  z70 := Tryz.sizeOf78
  v70 := Tryz.zeroValue78
  t72 := Tryz.underlying81
  a72 := Tryz.isAgg81
  z72 := Tryz.sizeOf81
  v72 := Tryz.zeroValue81
  t75 := Tryz.underlying28
  a75 := Tryz.isAgg28
  z75 := Tryz.sizeOf28
  v75 := Tryz.zeroValue28
  t76 := Tryz.underlying84
  a76 := Tryz.isAgg84
  z76 := Tryz.sizeOf84
  v76 := Tryz.zeroValue84
  t109 := Tryz.underlying118
  a109 := Tryz.isAgg118
  z109 := Tryz.sizeOf118
  v109 := Tryz.zeroValue118
  t127 := Tryz.underlying121
  a127 := Tryz.isAgg121
  z127 := Tryz.sizeOf121
  v127 := Tryz.zeroValue121
  t146 := Tryz.underlying151
  a146 := Tryz.isAgg151
  z146 := Tryz.sizeOf151
  v146 := Tryz.zeroValue151
  t148 := Tryz.underlying154
  a148 := Tryz.isAgg154
  z148 := Tryz.sizeOf154
  v148 := Tryz.zeroValue154
  t164 := Tryz.underlying135
  a164 := Tryz.isAgg135
  z164 := Tryz.sizeOf135
  v164 := Tryz.zeroValue135 }
theorem Tryz.Builder_Extra_105 : Builder.Extra Tryz.prog Tryz.lays105_ren := {
  sizeBuilder := by kernel_rfl
  liesBuilder := by kernel_rfl
  t5 := Tryz.underlying5
  a5 := Tryz.isAgg5
  z5 := Tryz.sizeOf5
  v5 := Tryz.zeroValue5
  infoByte := by kernel_rfl
  cellsByte := by kernel_rfl
  sizeByte := by kernel_rfl
  neB5 := by decide }
open Go.RowKit Go.Lib in
/-- **strings.Repeat: count ≥ 0, the result within one allocation: count copies of s.** (LAID: no walk: one application.) -/
theorem Tryz.strings_Repeat (s : ByteArray) (c : Nat) (w : World) (hc : c ≤ 9223372036854775807) (hlen : s.size * c ≤ 140737488355328) :
    Calls Tryz.prog 35 #[.string s, .int .i64 c] w fun e w' => e = .returned (.string ⟨(Lib.repeatL s.data.toList c).toArray⟩) ∧ Below w.heap.size w w' := Any.strings_Repeat Tryz.lays105 Tryz.Builder_Extra_105 s c w hc hlen
end Go.Proofs
end

section
set_option linter.unusedVariables false
set_option linter.unusedSimpArgs false
namespace Go.Proofs.YtjincmagbbpooaaGreatDoor
open Go.RowKit

/-! ### a disk by the document -/
structure DS where
  sure : List ByteArray
  loose : List (Nat × ByteArray)
  left : Int
  done : Nat
  dead : Bool
def zeroB (n : Nat) : ByteArray := ⟨(List.replicate n (0 : UInt8)).toArray⟩
def fillB (b : ByteArray) : ByteArray := b ++ zeroB (64 - b.size)
def newD (n : Nat) : DS := ⟨List.replicate n (zeroB 64), [], -1, 0, false⟩
def DS.may (D : DS) (i : Int) : Int := if D.dead = true then 25 else if i < 0 ∨ (D.sure.length : Int) ≤ i then 14 else 0
def DS.writeC (D : DS) (i : Int) (b : ByteArray) : Int := if D.may i ≠ 0 then D.may i else if 64 < b.size then 13 else if D.left = 0 then 25 else 0
def DS.put (D : DS) (i : Nat) (b : ByteArray) : DS := { D with left := if 0 < D.left then D.left - 1 else D.left, done := D.done + 1, loose := D.loose ++ [(i, fillB b)] }
def DS.write (D : DS) (i : Int) (b : ByteArray) : DS := if D.writeC i b = 0 then D.put i.toNat b else if D.may i = 0 ∧ b.size ≤ 64 then { D with dead := true } else D
def lastW (l : List (Nat × ByteArray)) (i : Nat) (s : ByteArray) : ByteArray := l.foldl (fun s x => if x.1 = i then x.2 else s) s
def DS.readS (D : DS) (i : Int) : ByteArray := if D.may i ≠ 0 then ⟨#[]⟩ else lastW D.loose i.toNat (D.sure.getD i.toNat ⟨#[]⟩)
def keepStep (keep : Nat → Bool) (torn : Int) (i : Nat) (x : Nat × ByteArray) (s : List ByteArray) : List ByteArray :=
  if keep i = true then (if (i : Int) = torn then s.set x.1 (x.2.extract 0 32 ++ (s.getD x.1 ⟨#[]⟩).extract 32 (s.getD x.1 ⟨#[]⟩).size) else s.set x.1 x.2) else s
def keepN (keep : Nat → Bool) (torn : Int) (l : List (Nat × ByteArray)) (s : List ByteArray) : Nat → List ByteArray
  | 0 => s
  | i + 1 => keepStep keep torn i (l.getD i (0, ⟨#[]⟩)) (keepN keep torn l s i)
def DS.keeps (D : DS) (keep : Nat → Bool) (torn : Int) : DS := { D with sure := keepN keep torn D.loose D.sure D.loose.length, loose := [] }
def DS.flushC (D : DS) : Int := if D.dead = true then 25 else 0
def DS.flush (D : DS) : DS := if D.dead = true then D else D.keeps (fun _ => true) (-1)
def DS.cut (D : DS) (k : Int) : DS := { D with left := mxI k (-1) }
def DS.crash (D : DS) (keep : Nat → Bool) (torn : Int) : DS := { D.keeps keep torn with left := -1, dead := false }
def keepOf (l : List Bool) : Nat → Bool := fun i => l.getD i false

structure DS.ok (D : DS) : Prop where
  one : 1 ≤ D.sure.length
  most : D.sure.length ≤ 2000
  size : ∀ s ∈ D.sure, s.size = 64
  lies : ∀ x ∈ D.loose, x.1 < D.sure.length ∧ x.2.size = 64
  few : D.loose.length ≤ D.done
  done : D.done ≤ 1099511627776
  left : -1 ≤ D.left ∧ D.left ≤ 9223372036854775807

theorem zeroB_size (n : Nat) : (zeroB n).size = n := by show (List.replicate n (0 : UInt8)).toArray.size = n; simp
theorem fillB_size (b : ByteArray) (h : b.size ≤ 64) : (fillB b).size = 64 := by unfold fillB; rw [ByteArray.size_append, zeroB_size]; omega
theorem newD_ok (n : Nat) (h1 : 1 ≤ n) (h2 : n ≤ 2000) : (newD n).ok where
  one := by simp [newD, h1]
  most := by simp [newD, h2]
  size := fun s hs => by have := List.eq_of_mem_replicate hs; rw [this, zeroB_size]
  lies := fun x hx => by simp [newD] at hx
  few := by simp [newD]
  done := by simp [newD]
  left := by simp [newD]
theorem DS.may_zero {D : DS} {i : Int} : D.may i = 0 ↔ D.dead = false ∧ 0 ≤ i ∧ i < D.sure.length := by
  unfold DS.may
  by_cases h : D.dead = true
  · rw [if_pos h]; simp [h]
  · rw [if_neg h]
    by_cases h2 : i < 0 ∨ (D.sure.length : Int) ≤ i
    · rw [if_pos h2]; simp only [Bool.not_eq_true] at h; constructor
      · intro h; omega
      · intro ⟨_, h3, h4⟩; omega
    · rw [if_neg h2]; simp only [Bool.not_eq_true] at h; exact ⟨fun _ => ⟨h, by omega, by omega⟩, fun _ => rfl⟩
theorem DS.writeC_zero {D : DS} {i : Int} {b : ByteArray} : D.writeC i b = 0 ↔ D.may i = 0 ∧ b.size ≤ 64 ∧ D.left ≠ 0 := by
  unfold DS.writeC
  by_cases h : D.may i = 0
  · rw [if_neg (by simpa using h)]
    by_cases h2 : 64 < b.size
    · rw [if_pos h2]; constructor
      · intro h; omega
      · intro ⟨_, h3, _⟩; omega
    · rw [if_neg h2]
      by_cases h3 : D.left = 0
      · rw [if_pos h3]; constructor
        · intro h; omega
        · intro ⟨_, _, h4⟩; exact absurd h3 h4
      · rw [if_neg h3]; exact ⟨fun _ => ⟨h, by omega, h3⟩, fun _ => rfl⟩
  · rw [if_pos h]; exact ⟨fun h' => absurd h' h, fun h' => absurd h'.1 h⟩
theorem DS.ok.put {D : DS} (h : D.ok) {i : Nat} {b : ByteArray} (hi : i < D.sure.length) (hb : b.size ≤ 64) (hd : D.done < 1099511627776) : (D.put i b).ok where
  one := h.one
  most := h.most
  size := h.size
  lies := fun x hx => by
    rcases List.mem_append.1 hx with h' | h'
    · exact h.lies x h'
    · obtain rfl := List.mem_singleton.1 h'
      exact ⟨hi, fillB_size b hb⟩
  few := by show (D.loose ++ _).length ≤ D.done + 1; rw [List.length_append]; have := h.few; simp; omega
  done := by show D.done + 1 ≤ _; omega
  left := by show -1 ≤ (if 0 < D.left then D.left - 1 else D.left) ∧ (if 0 < D.left then D.left - 1 else D.left) ≤ _; have := h.left; split <;> omega
theorem DS.ok.write {D : DS} (h : D.ok) (i : Int) (b : ByteArray) (hd : D.done < 1099511627776) : (D.write i b).ok := by
  unfold DS.write
  split
  · rename_i h0
    have h1 := DS.writeC_zero.1 h0
    have h2 := DS.may_zero.1 h1.1
    exact h.put (by omega) h1.2.1 hd
  · split
    · exact ⟨h.one, h.most, h.size, h.lies, h.few, h.done, h.left⟩
    · exact h
theorem keepN_ok {keep : Nat → Bool} {torn : Int} {l : List (Nat × ByteArray)} {s : List ByteArray} (hl : ∀ x ∈ l, x.1 < s.length ∧ x.2.size = 64) (hs : ∀ x ∈ s, x.size = 64) :
    ∀ i, i ≤ l.length → (keepN keep torn l s i).length = s.length ∧ ∀ x ∈ keepN keep torn l s i, x.size = 64
  | 0, _ => ⟨rfl, hs⟩
  | i + 1, hi => by
    obtain ⟨h1, h2⟩ := keepN_ok hl hs (keep := keep) (torn := torn) i (by omega)
    have hx : l[i]? = some (l.getD i (0, ⟨#[]⟩)) := by rw [List.getD_eq_getElem?_getD, List.getElem?_eq_getElem (by omega)]; rfl
    obtain ⟨hx1, hx2⟩ := hl _ (List.mem_of_getElem? hx)
    show (keepStep keep torn i _ (keepN keep torn l s i)).length = _ ∧ ∀ x ∈ keepStep keep torn i _ (keepN keep torn l s i), _
    generalize l.getD i (0, ⟨#[]⟩) = x at *
    generalize keepN keep torn l s i = s' at *
    unfold keepStep
    have hg : (s'.getD x.1 ⟨#[]⟩).size = 64 := by
      refine h2 _ (List.mem_of_getElem? (i := x.1) ?_)
      rw [List.getD_eq_getElem?_getD, List.getElem?_eq_getElem (by omega)]; rfl
    split
    · split
      · refine ⟨by rw [List.length_set, h1], fun y hy => ?_⟩
        rcases List.mem_or_eq_of_mem_set hy with h | h
        · exact h2 y h
        · rw [h, ByteArray.size_append, ByteArray.size_extract, ByteArray.size_extract]; omega
      · refine ⟨by rw [List.length_set, h1], fun y hy => ?_⟩
        rcases List.mem_or_eq_of_mem_set hy with h | h
        · exact h2 y h
        · rw [h, hx2]
    · exact ⟨h1, h2⟩
theorem DS.ok.keeps {D : DS} (h : D.ok) (keep : Nat → Bool) (torn : Int) : (D.keeps keep torn).ok := by
  have hk := keepN_ok (keep := keep) (torn := torn) h.lies h.size D.loose.length (Nat.le_refl _)
  exact ⟨by show 1 ≤ (keepN _ _ _ _ _).length; rw [hk.1]; exact h.one, by show (keepN _ _ _ _ _).length ≤ _; rw [hk.1]; exact h.most, hk.2, fun x hx => by simp [DS.keeps] at hx, by simp [DS.keeps], h.done, h.left⟩
theorem DS.ok.flush {D : DS} (h : D.ok) : D.flush.ok := by unfold DS.flush; split; exact h; exact h.keeps _ _
theorem DS.ok.crash {D : DS} (h : D.ok) (keep : Nat → Bool) (torn : Int) : (D.crash keep torn).ok := by
  have := h.keeps keep torn
  exact ⟨this.one, this.most, this.size, this.lies, this.few, this.done, by simp [DS.crash]⟩
theorem DS.ok.cut {D : DS} (h : D.ok) (k : Int) (hk : k ≤ 9223372036854775807) : (D.cut k).ok :=
  ⟨h.one, h.most, h.size, h.lies, h.few, h.done, by show -1 ≤ mxI k (-1) ∧ mxI k (-1) ≤ _; unfold mxI; split <;> omega⟩
theorem lastW_snoc (l : List (Nat × ByteArray)) (x : Nat × ByteArray) (i : Nat) (s : ByteArray) : lastW (l ++ [x]) i s = if x.1 = i then x.2 else lastW l i s := by
  unfold lastW; rw [List.foldl_append]; rfl

/-! ### a call at a step of a region that draws its order -/
theorem step_call {P : Program} {ops : Array Oper} {Q : Exit → Act → World → Prop} {o : Oper} {a : Act} {w : World} {K : Act → World → Prop} {E : Prop} {f : FuncId} {fn : Func} {ars : Array Operand} {ts : Array TypeId} (hf : P.funcs[f]? = some fn) (hname : (fn.name == "runtime.NumGoroutine") = false) (hb : fn.body.isSome = true) (args : Array Value)
    (hg : o.guard = none) (hop : o.op = .call { callee := .value (.func f), args := ars, argTypes := ts }) (hargs : ars.map a.eval = args)
    (h : Calls P f args w fun e w' => ∃ v, e = .returned v ∧ K (a.put o.dst v) w') : if Region.wanted o (yielded ops a.tmps) = true then Oper.wp P o a w K Q else E := by
  have hw : Region.wanted o (yielded ops a.tmps) = true := by simp [Region.wanted, hg]
  rw [if_pos hw]
  have h1 : fn.name ≠ "runtime.NumGoroutine" := by simpa using hname
  obtain ⟨c, hc⟩ := Option.isSome_iff_exists.1 hb
  have he : (callFunc f args).run P w = .ok (.enter f args) w := by simp [callFunc, hf, h1, hc]
  have hrun : (execOp a.eval o).run P w = .ok (.enter f args) w := by
    unfold execOp
    simp [hop, resolve, Deferred.ofValue, invoke, Act.eval, hargs, he]
  unfold Oper.wp
  rw [hrun, Oper.upon_enter]
  refine h.mono fun e w'' hh => ?_
  obtain ⟨v, rfl, hk⟩ := hh
  exact hk

/-! ### what is kept but for a set of blocks -/
structure Save (F : Nat → Prop) (w w' : World) : Prop where
  os : w'.os = w.os
  tape : w'.tape = w.tape
  output : w'.output = w.output
  size : w.heap.size ≤ w'.heap.size
  block : ∀ k, k < w.heap.size → ¬ F k → w'.heap[k]? = w.heap[k]?
/-- The set, and what is new. -/
def Plus (F : Nat → Prop) (w w' : World) : Nat → Prop := fun k => F k ∨ (w.heap.size ≤ k ∧ k < w'.heap.size)
theorem Save.refl (F : Nat → Prop) (w : World) : Save F w w := ⟨rfl, rfl, rfl, Nat.le_refl _, fun _ _ _ => rfl⟩
theorem Save.trans {F : Nat → Prop} {a b c : World} (h : Save F a b) (k : Save (Plus F a b) b c) : Save F a c :=
  ⟨k.os.trans h.os, k.tape.trans h.tape, k.output.trans h.output, Nat.le_trans h.size k.size, fun i hi hn => (k.block i (Nat.lt_of_lt_of_le hi h.size) (fun h' => h'.elim hn (fun h' => by omega))).trans (h.block i hi hn)⟩
theorem Save.mono {F G : Nat → Prop} {a b : World} (h : Save F a b) (hG : ∀ k, k < a.heap.size → F k → G k) : Save G a b := ⟨h.os, h.tape, h.output, h.size, fun k hk hn => h.block k hk (fun hf => hn (hG k hk hf))⟩
theorem Save.then {F : Nat → Prop} {a b c : World} (h : Save F a b) (k : Save F b c) : Save F a c := h.trans (k.mono fun _ _ h => .inl h)
theorem Save.of_below {F : Nat → Prop} {w w' : World} (h : Below w.heap.size w w') : Save F w w' := ⟨h.os, h.tape, h.output, h.size, fun k hk _ => h.block k hk⟩
theorem Save.below {B : Nat} {w w' : World} (h : Save (fun k => B ≤ k) w w') (hB : B ≤ w.heap.size) : Below B w w' := ⟨h.os, h.tape, h.output, h.size, fun k hk => h.block k (by omega) (by omega)⟩
theorem Save.drewN {F : Nat → Prop} {a w : World} (h : Save F a w) (n : Nat) : Save F a (w.drewN n) := ⟨h.os, h.tape, h.output, h.size, h.block⟩
theorem Save.alloc {F : Nat → Prop} {a w : World} (h : Save F a w) (o : Obj) : Save F a (w.alloc o) := h.then (Save.of_below ((Below.refl _ _).alloc (Nat.le_refl _) _))
theorem Save.setCell {F : Nat → Prop} {a w : World} (h : Save F a w) {p : Addr} (hp : F p.block ∨ a.heap.size ≤ p.block) (u : Value) : Save F a (w.setCell p u) :=
  ⟨h.os, h.tape, h.output, by have := h.size; simp [World.setCell]; exact this, fun k hk hn => (Below.heap_setCell _ _ _ _ (fun e => by subst e; exact hp.elim hn (by omega))).trans (h.block k hk hn)⟩
theorem Save.grown {F : Nat → Prop} {a w w' : World} {row : Option Nat} (h : Save F a w) (hg : w.grownBy w' row) (hr : ∀ k, row = some k → F k ∨ a.heap.size ≤ k) : Save F a w' :=
  ⟨hg.os.trans h.os, hg.tape.trans h.tape, hg.output.trans h.output, Nat.le_trans h.size hg.size, fun k hk hn => (hg.block k (Nat.lt_of_lt_of_le hk h.size) (fun e => (hr k e.symm).elim hn (by omega))).trans (h.block k hk hn)⟩
theorem Save.belowStep {F : Nat → Prop} {a w w' : World} (h : Save F a w) (hb : Below w.heap.size w w') : Save F a w' := h.then (Save.of_below hb)

/-! ### blocks known whole -/
def Blk (w : World) (g : Nat) (t : TypeId) (cs : Array Value) : Prop := w.heap[g]? = some (.cells cs t (0, 0))
section
variable {w w' : World} {g : Nat} {t : TypeId} {cs : Array Value}
theorem Blk.lt (h : Blk w g t cs) : g < w.heap.size := blk_lt h
theorem Blk.cell (h : Blk w g t cs) (i : Nat) : w.cell? ⟨g, i, none⟩ = cs[i]? := cell_of_row w g i cs t (0, 0) h
theorem Blk.frozen (h : Blk w g t cs) (i : Nat) : w.frozen? ⟨g, i, none⟩ = false := by
  unfold Blk at h
  simp [World.frozen?, h]
theorem Blk.new (w : World) (t : TypeId) (cs : Array Value) : Blk (w.alloc (.cells cs t)) w.heap.size t cs := heap_alloc_new w _
theorem Blk.drewN (h : Blk w g t cs) (n : Nat) : Blk (w.drewN n) g t cs := h
theorem Blk.alloc (h : Blk w g t cs) (o : Obj) : Blk (w.alloc o) g t cs := (Below.heap_alloc w o g h.lt).trans h
theorem Blk.set_ (h : Blk w g t cs) (i : Nat) (u : Value) : Blk (w.setCell ⟨g, i, none⟩ u) g t (cs.setIfInBounds i u) := by
  unfold Blk at h ⊢
  simp [World.setCell, Array.getElem?_modify, h]
theorem Blk.far (h : Blk w g t cs) {p : Addr} (hp : g ≠ p.block) (u : Value) : Blk (w.setCell p u) g t cs := (Below.heap_setCell w p u g hp).trans h
theorem Blk.below (h : Blk w g t cs) (hb : Below w.heap.size w w') : Blk w' g t cs := (hb.block g h.lt).trans h
theorem Blk.save {F : Nat → Prop} (h : Blk w g t cs) (hb : Save F w w') (hF : ¬ F g) : Blk w' g t cs := (hb.block g h.lt hF).trans h
theorem Blk.grown {row : Option Nat} (h : Blk w g t cs) (hb : w.grownBy w' row) (hg : some g ≠ row) : Blk w' g t cs := (hb.block g h.lt hg).trans h
theorem Blk.ne_ {g' : Nat} {t' : TypeId} {cs' : Array Value} (h : Blk w g t cs) (h' : Blk w g' t' cs') (hne : t ≠ t') : g ≠ g' := by
  rintro rfl
  unfold Blk at h h'
  rw [h] at h'
  injection h' with h'
  injection h' with _ ht
  exact hne ht
theorem own_blk_ne {base : Nat} {e : TypeId} {size n : Nat} {v : Value} {xs : List Value} (h : w.ownsRow base e size v n xs) (hg : Blk w g t cs) (hne : e ≠ t) : some g ≠ v.ownBlock := by
  rcases h.2 with ⟨rfl, _⟩ | ⟨g', cap, cur, rfl, _, hh, _⟩
  · simp [Value.ownBlock]
  · intro he
    have : g' = g := by simpa [Value.ownBlock] using he.symm
    subst this
    exact Blk.ne_ (t := e) hh hg hne rfl
theorem own_same {base : Nat} {e : TypeId} {size n : Nat} {v : Value} {xs : List Value} (h : w.ownsRow base e size v n xs) (hs : ∀ k, v.ownBlock = some k → w'.heap[k]? = w.heap[k]?) : w'.ownsRow base e size v n xs := by
  refine ⟨h.1, ?_⟩
  rcases h.2 with h0 | ⟨g', cap, cur, rfl, hb, hh, hr⟩
  · exact .inl h0
  · exact .inr ⟨g', cap, cur, rfl, hb, (hs g' rfl).trans hh, hr⟩
theorem own_base {base : Nat} {e : TypeId} {size n : Nat} {v : Value} {xs : List Value} (h : w.ownsRow base e size v n xs) : w.ownsRow 0 e size v n xs := by
  refine ⟨h.1, ?_⟩
  rcases h.2 with h0 | ⟨g', cap, cur, rfl, hb, hh, hr⟩
  · exact .inl h0
  · exact .inr ⟨g', cap, cur, rfl, Nat.zero_le _, hh, hr⟩
end

/-! ### a disk in memory -/
def looseC (l : List (Nat × ByteArray)) : List Value := l.flatMap fun x => [.int .i64 (x.1 : Int), .string x.2]
theorem looseC_length (l : List (Nat × ByteArray)) : (looseC l).length = l.length * 2 := by
  induction l with
  | nil => rfl
  | cons x l ih => show (_ :: _ :: looseC l).length = _; simp only [List.length_cons, ih]; omega
theorem looseC_append (l m : List (Nat × ByteArray)) : looseC (l ++ m) = looseC l ++ looseC m := by unfold looseC; rw [List.flatMap_append]
theorem looseC_get : ∀ (l : List (Nat × ByteArray)) (i : Nat) (x : Nat × ByteArray), l[i]? = some x → (looseC l)[i * 2]? = some (.int .i64 (x.1 : Int)) ∧ (looseC l)[i * 2 + 1]? = some (.string x.2)
  | [], i, x, h => by simp at h
  | y :: l, 0, x, h => by simp at h; subst h; exact ⟨rfl, rfl⟩
  | y :: l, i + 1, x, h => by
    have := looseC_get l i x (by simpa using h)
    show (_ :: _ :: looseC l)[(i + 1) * 2]? = _ ∧ (_ :: _ :: looseC l)[(i + 1) * 2 + 1]? = _
    rw [show (i + 1) * 2 = i * 2 + 1 + 1 by omega]
    simpa using this
structure DskAt (w : World) (p g : Nat) (lv : Value) (D : DS) : Prop where
  own : Blk w p 74 #[.slice (some ⟨g, 0, none⟩) D.sure.length D.sure.length, lv, .int .i64 D.left, .int .i64 (D.done : Int), .bool D.dead]
  row : Blk w g 9 (D.sure.map Value.string).toArray
  loose : w.ownsRow 0 96 2 lv D.loose.length (looseC D.loose)
  ok : D.ok
def Dsk (w : World) (F : Nat → Prop) (p : Nat) (D : DS) : Prop := ∃ g lv, DskAt w p g lv D ∧ F p ∧ F g ∧ ∀ k, lv.ownBlock = some k → F k
section
variable {w w' : World} {p g : Nat} {lv : Value} {D : DS} {F G : Nat → Prop}
theorem DskAt.ne (h : DskAt w p g lv D) : p ≠ g ∧ some p ≠ lv.ownBlock ∧ some g ≠ lv.ownBlock :=
  ⟨h.own.ne_ h.row (by decide), own_blk_ne h.loose h.own (by decide), own_blk_ne h.loose h.row (by decide)⟩
theorem DskAt.same (h : DskAt w p g lv D) (hs : ∀ k, k = p ∨ k = g ∨ lv.ownBlock = some k → w'.heap[k]? = w.heap[k]?) : DskAt w' p g lv D :=
  ⟨(hs p (.inl rfl)).trans h.own, (hs g (.inr (.inl rfl))).trans h.row, own_same h.loose fun k hk => hs k (.inr (.inr hk)), h.ok⟩
theorem Dsk.ok (h : Dsk w F p D) : D.ok := by obtain ⟨_, _, h, _⟩ := h; exact h.ok
theorem Dsk.mono (h : Dsk w F p D) (hF : ∀ k, k < w.heap.size → F k → G k) : Dsk w G p D := by
  obtain ⟨g, lv, h, h1, h2, h3⟩ := h
  exact ⟨g, lv, h, hF _ h.own.lt h1, hF _ h.row.lt h2, fun k hk => hF _ (h.loose.lt k hk).2 (h3 k hk)⟩
theorem Dsk.save (h : Dsk w F p D) (hs : Save G w w') (hd : ∀ k, F k → ¬ G k) : Dsk w' F p D := by
  obtain ⟨g, lv, h, h1, h2, h3⟩ := h
  refine ⟨g, lv, h.same fun k hk => ?_, h1, h2, h3⟩
  rcases hk with rfl | rfl | hk
  · exact hs.block _ h.own.lt (hd _ h1)
  · exact hs.block _ h.row.lt (hd _ h2)
  · exact hs.block _ (h.loose.lt k hk).2 (hd _ (h3 k hk))
theorem Dsk.below (h : Dsk w F p D) (hb : Below w.heap.size w w') : Dsk w' F p D := h.save (Save.of_below (F := fun _ => False) hb) (fun _ _ h => h)
theorem Dsk.drewN (h : Dsk w F p D) (n : Nat) : Dsk (w.drewN n) F p D := h.below (below_drewN w n)
/-- What a method of the disk leaves: the disk D', whatever it has beside new, and all else. -/
def DskPost (F : Nat → Prop) (p : Nat) (w : World) (D' : DS) (w' : World) : Prop := Save F w w' ∧ Dsk w' (Plus F w w') p D'
end
end Go.Proofs.YtjincmagbbpooaaGreatDoor
end
