import Derived.Test.YtfmgafpgajlddaaProg
import Derived.WalkKit
import Derived.LaidEql
import Derived.Stop.Asserts
import Derived.RowKitTokens
import Derived.Below
import Derived.Lib.Hide
import Derived.KernelRfl
import Derived.Deep.Draws
import Derived.Deep.QuietTactic
import Derived.BigQuiet
import Derived.Deep.RegionHeld3
import Derived.Deep.LoopGhost
import Derived.Deep.AppendLies
import Derived.Laws.BytesArg
import Derived.WalkLawsBesides
set_option linter.unusedVariables false
set_option linter.unusedSimpArgs false
namespace Go.Proofs.Ytfmgafpgajlddaa
open Go.RowKit Go.Extern.Stop Go.Stop Go.Extern

/-- An error of the program, or none. -/
def errV : Int → Value := fun c => if c = 0 then .nilIface else .iface 31 (.int .i64 c)
theorem below_drewN {B : Nat} (w : World) (n : Nat) : Below B w (w.drewN n) := ⟨rfl, rfl, rfl, Nat.le_refl _, fun _ _ => rfl⟩
theorem below_step {w a b : World} (h : Below w.heap.size w a) (hb : Below a.heap.size a b) : Below w.heap.size w b := h.trans (hb.mono h.size)
theorem cell_lt {w : World} {p : Addr} {v : Value} (h : w.cell? p = some v) : p.block < w.heap.size := by
  rcases Nat.lt_or_ge p.block w.heap.size with h' | h'
  · exact h'
  · simp [World.cell?, Array.getElem?_eq_none h'] at h
theorem cell_keep {w w' : World} {p : Addr} {v : Value} (hb : Below w.heap.size w w') (h : w.cell? p = some v) : w'.cell? p = some v := (hb.cell (cell_lt h)).trans h
theorem Try.methodComparable (h : Value) (w : World) : (Go.method 215 67 (.agg #[h]) "Comparable").run Try.prog w = .ok (58, .agg #[h]) w := by kernel_rfl
theorem Try.typeOfE (v : Value) (w : World) : (ReflectliteType.typeOf #[.iface 31 v]).run Try.prog w = .ok (.iface 67 (.agg #[.pointer (some ⟨1, 31, none⟩)])) w := by kernel_rfl
theorem Try.eq_nil_E (c : Int) (w : World) : (binOp .eql 26 .nilIface (.iface 31 (.int .i64 c))).run Try.prog w = .ok (.bool false) w := run_eql_iface_nil_left (P := Try.prog) w 31 _ Try.underlying26
theorem Try.eq_E_E (c c' : Int) (w : World) : (binOp .eql 26 (.iface 31 (.int .i64 c)) (.iface 31 (.int .i64 c'))).run Try.prog w = .ok (.bool (c == c')) w := by kernel_rfl
theorem Try.comparableE (w : World) : ((ReflectliteType.method fun t => do Rtype.noPackHeld "Comparable" t; pure (.bool (← typeInfo t).comparable)) #[.agg #[.pointer (some ⟨1, 31, none⟩)]]).run Try.prog w = .ok (.bool true) w := by kernel_rfl
theorem Try.noIsE (v : Value) (xT : TypeId) (w : World) : (Instr.typeAssert (.iface 31 v) xT 69 true).run Try.prog w = .ok (.tuple #[.nilIface, .bool false]) w := run_typeAssert_lacksB Try.underlying69 (by kernel_rfl) (by kernel_rfl) v xT w
theorem Try.noUnwrapE (v : Value) (xT : TypeId) (w : World) : (Instr.typeAssert (.iface 31 v) xT 72 true).run Try.prog w = .ok (.tuple #[.nilIface, .bool false]) w := run_typeAssert_lacksB Try.underlying72 (by kernel_rfl) (by kernel_rfl) v xT w
theorem Try.noUnwrapsE (v : Value) (xT : TypeId) (w : World) : (Instr.typeAssert (.iface 31 v) xT 73 true).run Try.prog w = .ok (.tuple #[.nilIface, .bool false]) w := run_typeAssert_lacksB Try.underlying73 (by kernel_rfl) (by kernel_rfl) v xT w
set_option maxHeartbeats 4000000 in
set_option maxRecDepth 100000 in
theorem is_nil (c : Int) (w : World) : Calls Try.prog 10 #[.nilIface, .iface 31 (.int .i64 c)] w fun e w' => e = .returned (.bool false) ∧ w = w' := by
  have hn := Try.eq_nil_E
  go_enter Try.func10, Try.ntmps10
  go_wp2
  go_ret
  exact ⟨rfl, rfl⟩
set_option maxHeartbeats 4000000 in
set_option maxRecDepth 100000 in
theorem is_yes (c : Int) (w : World) : Calls Try.prog 10 #[.iface 31 (.int .i64 c), .iface 31 (.int .i64 c)] w fun e w' => e = .returned (.bool true) ∧ w = w' := by
  have h8 := @run_callFunc_extern Try.prog 20 _ ReflectliteType.typeOf Try.func20 (by kernel_rfl) (by kernel_rfl) (by kernel_rfl) (by kernel_rfl)
  have h32 := @run_callFunc_extern Try.prog 58 _ (ReflectliteType.method fun t => do Rtype.noPackHeld "Comparable" t; pure (.bool (← typeInfo t).comparable)) Try.func58 (by kernel_rfl) (by kernel_rfl) (by kernel_rfl) (by kernel_rfl)
  have tT := Try.typeOfE
  have cT := Try.comparableE
  have mR := Try.methodComparable
  have heq := Try.eq_E_E c c
  rw [beq_self_eq_true] at heq
  simp only [bind_pure_comp] at cT h32
  go_enter Try.func10, Try.ntmps10
  go_wp2
  refine wp_loop_rounds 1 ?_
  rw [rounds_succ]
  go_wp2
  go_ret
  exact ⟨rfl, rfl⟩
set_option maxHeartbeats 4000000 in
set_option maxRecDepth 100000 in
theorem is_no (c c' : Int) (hne : (c == c') = false) (w : World) : Calls Try.prog 10 #[.iface 31 (.int .i64 c), .iface 31 (.int .i64 c')] w fun e w' => e = .returned (.bool false) ∧ w = w' := by
  have h8 := @run_callFunc_extern Try.prog 20 _ ReflectliteType.typeOf Try.func20 (by kernel_rfl) (by kernel_rfl) (by kernel_rfl) (by kernel_rfl)
  have h32 := @run_callFunc_extern Try.prog 58 _ (ReflectliteType.method fun t => do Rtype.noPackHeld "Comparable" t; pure (.bool (← typeInfo t).comparable)) Try.func58 (by kernel_rfl) (by kernel_rfl) (by kernel_rfl) (by kernel_rfl)
  have tT := Try.typeOfE
  have cT := Try.comparableE
  have mR := Try.methodComparable
  have heq := Try.eq_E_E c c'
  rw [hne] at heq
  clear hne
  have nE := Try.noIsE
  have uE := Try.noUnwrapE
  have vE := Try.noUnwrapsE
  simp only [bind_pure_comp] at cT h32
  go_enter Try.func10, Try.ntmps10
  go_wp2
  refine wp_loop_rounds 1 ?_
  rw [rounds_succ]
  go_wp2
  go_ret
  exact ⟨rfl, rfl⟩
/-- errors.Is of what a call of the program answers: nought is none. -/
theorem is_any (c c' : Int) (hc : c' ≠ 0) (w : World) : Calls Try.prog 10 #[errV c, .iface 31 (.int .i64 c')] w fun e w' => e = .returned (.bool (c == c')) ∧ w = w' := by
  unfold errV
  by_cases h0 : c = 0
  · rw [if_pos h0]
    have : (c == c') = false := by rw [beq_eq_false_iff_ne]; omega
    rw [this]
    exact is_nil c' w
  · rw [if_neg h0]
    by_cases h1 : c = c'
    · subst h1
      rw [beq_self_eq_true]
      exact is_yes c w
    · have : (c == c') = false := by rw [beq_eq_false_iff_ne]; exact h1
      rw [this]
      exact is_no c c' this w
/-- The greater of two, the less. -/
def mxI (a b : Int) : Int := if a < b then b else a
def mnI (a b : Int) : Int := if b < a then b else a
theorem max2_int (k k' : IntKind) (x y : Int) : Builtin.max2 (.int k x) (.int k' y) = pure (.int k (mxI x y)) := by
  simp only [Builtin.max2, gt_iff_lt, mxI]
theorem max_two (ats : Array TypeId) (ty : TypeId) (a b : Value) : Builtin.max_ ats ty #[a, b] = (Builtin.max2 a b >>= fun s => pure s) := by simp only [Builtin.max_, List.foldlM_cons, List.foldlM_nil]
theorem min2_int (k k' : IntKind) (x y : Int) : Builtin.min2 (.int k x) (.int k' y) = pure (.int k (mnI x y)) := by simp only [Builtin.min2, mnI]
theorem min_two (ats : Array TypeId) (ty : TypeId) (a b : Value) : Builtin.min_ ats ty #[a, b] = (Builtin.min2 a b >>= fun s => pure s) := by simp only [Builtin.min_, List.foldlM_cons, List.foldlM_nil]
theorem quiet_eq {P : Program} {f : FuncId} {args : Array Value} {w : World} {n : Nat} {v : Value}
    (h : Calls P f args (w.drewN n) fun e w' => e = .returned v ∧ w.drewN n = w') : Calls P f args (w.drewN n) fun e w'' => e = .returned v ∧ ∃ m, w'' = w.drewN m :=
  h.mono fun _ _ ⟨he, hm⟩ => ⟨he, n, hm.symm⟩
theorem blk_lt {w : World} {b : Nat} {o : Obj} (h : w.heap[b]? = some o) : b < w.heap.size := by
  rcases Nat.lt_or_ge b w.heap.size with h' | h'
  · exact h'
  · rw [Array.getElem?_eq_none h'] at h; cases h
theorem cellAt {w : World} {b : Nat} {c : Array Value} {t : TypeId} (h : w.heap[b]? = some (.cells c t (0, 0))) (i : Nat) : w.cell? ⟨b, i, none⟩ = c[i]? := by
  simp [World.cell?, h]
theorem new_cell (w : World) (c : Array Value) (t : TypeId) (i : Nat) : (w.alloc (.cells c t)).cell? ⟨w.heap.size, i, none⟩ = c[i]? := cellAt (heap_alloc_new w _) i
theorem new_frozen (w : World) (c : Array Value) (t : TypeId) (i : Nat) : (w.alloc (.cells c t)).frozen? ⟨w.heap.size, i, none⟩ = false := by unfold World.frozen?; simp only [heap_alloc_new]; simp
def NB (base : Nat) (v : Value) : Prop := ∀ k, k < base → some k ≠ v.ownBlock
theorem own_nb {w : World} {base : Nat} {e : TypeId} {s : Nat} {v : Value} {n : Nat} {xs : List Value} (h : w.ownsRow base e s v n xs) : NB base v := fun k hk e => by have := (h.lt k e.symm).1; omega
theorem grown_below {w w' : World} {base : Nat} {v : Value} (hb : base ≤ w.heap.size) (hn : NB base v) (hg : w.grownBy w' v.ownBlock) : Below base w w' :=
  ⟨hg.os, hg.tape, hg.output, hg.size, fun k hk => hg.block k (by omega) (hn k hk)⟩
end Go.Proofs.Ytfmgafpgajlddaa
