import Derived.Test.YtjincmagbbpooaaGreatDoorE
set_option linter.unusedVariables false
set_option linter.unusedSimpArgs false
namespace Go.Proofs.YtjincmagbbpooaaGreatDoor
open Go.RowKit Go.Extern.Stop Go.Stop Go.Extern

theorem Tryz.eq_nil_E (c : Int) (w : World) : (binOp .eql 28 .nilIface (.iface 34 (.int .i64 c))).run Tryz.prog w = .ok (.bool false) w := run_eql_iface_nil_left (P := Tryz.prog) w 34 _ Tryz.underlying28
theorem Tryz.eq_E_E (c c' : Int) (w : World) : (binOp .eql 28 (.iface 34 (.int .i64 c)) (.iface 34 (.int .i64 c'))).run Tryz.prog w = .ok (.bool (c == c')) w := by kernel_rfl
theorem Tryz.comparableE (w : World) : ((ReflectliteType.method fun t => do Rtype.noPackHeld "Comparable" t; pure (.bool (← typeInfo t).comparable)) #[.agg #[.pointer (some ⟨4, 34, none⟩)]]).run Tryz.prog w = .ok (.bool true) w := by kernel_rfl
theorem Tryz.noIsE (v : Value) (xT : TypeId) (w : World) : (Instr.typeAssert (.iface 34 v) xT 128 true).run Tryz.prog w = .ok (.tuple #[.nilIface, .bool false]) w := run_typeAssert_lacksB Tryz.underlying128 (by kernel_rfl) (by kernel_rfl) v xT w
theorem Tryz.noUnwrapE (v : Value) (xT : TypeId) (w : World) : (Instr.typeAssert (.iface 34 v) xT 131 true).run Tryz.prog w = .ok (.tuple #[.nilIface, .bool false]) w := run_typeAssert_lacksB Tryz.underlying131 (by kernel_rfl) (by kernel_rfl) v xT w
theorem Tryz.noUnwrapsE (v : Value) (xT : TypeId) (w : World) : (Instr.typeAssert (.iface 34 v) xT 132 true).run Tryz.prog w = .ok (.tuple #[.nilIface, .bool false]) w := run_typeAssert_lacksB Tryz.underlying132 (by kernel_rfl) (by kernel_rfl) v xT w

set_option maxHeartbeats 4000000 in
set_option maxRecDepth 100000 in
theorem is_nil (c : Int) (w : World) : Calls Tryz.prog 12 #[.nilIface, .iface 34 (.int .i64 c)] w fun e w' => e = .returned (.bool false) ∧ w = w' := by
  have hn := Tryz.eq_nil_E
  go_enter Tryz.func12, Tryz.ntmps12
  go_wp2
  go_ret
  exact ⟨rfl, rfl⟩

set_option maxHeartbeats 4000000 in
set_option maxRecDepth 100000 in
theorem is_yes (c : Int) (w : World) : Calls Tryz.prog 12 #[.iface 34 (.int .i64 c), .iface 34 (.int .i64 c)] w fun e w' => e = .returned (.bool true) ∧ w = w' := by
  have h8 := @run_callFunc_extern Tryz.prog 49 _ ReflectliteType.typeOf Tryz.func49 (by kernel_rfl) (by kernel_rfl) (by kernel_rfl) (by kernel_rfl)
  have h32 := @run_callFunc_extern Tryz.prog 146 _ (ReflectliteType.method fun t => do Rtype.noPackHeld "Comparable" t; pure (.bool (← typeInfo t).comparable)) Tryz.func146 (by kernel_rfl) (by kernel_rfl) (by kernel_rfl) (by kernel_rfl)
  have tT := Tryz.typeOfE
  have cT := Tryz.comparableE
  have mR := Tryz.methodComparable
  have heq := Tryz.eq_E_E c c
  rw [beq_self_eq_true] at heq
  simp only [bind_pure_comp] at cT h32
  go_enter Tryz.func12, Tryz.ntmps12
  go_wp2
  refine wp_loop_rounds 1 ?_
  rw [rounds_succ]
  go_wp2
  go_ret
  exact ⟨rfl, rfl⟩

set_option maxHeartbeats 4000000 in
set_option maxRecDepth 100000 in
theorem is_no (c c' : Int) (hne : (c == c') = false) (w : World) : Calls Tryz.prog 12 #[.iface 34 (.int .i64 c), .iface 34 (.int .i64 c')] w fun e w' => e = .returned (.bool false) ∧ w = w' := by
  have h8 := @run_callFunc_extern Tryz.prog 49 _ ReflectliteType.typeOf Tryz.func49 (by kernel_rfl) (by kernel_rfl) (by kernel_rfl) (by kernel_rfl)
  have h32 := @run_callFunc_extern Tryz.prog 146 _ (ReflectliteType.method fun t => do Rtype.noPackHeld "Comparable" t; pure (.bool (← typeInfo t).comparable)) Tryz.func146 (by kernel_rfl) (by kernel_rfl) (by kernel_rfl) (by kernel_rfl)
  have tT := Tryz.typeOfE
  have cT := Tryz.comparableE
  have mR := Tryz.methodComparable
  have heq := Tryz.eq_E_E c c'
  rw [hne] at heq
  clear hne
  have nE := Tryz.noIsE
  have uE := Tryz.noUnwrapE
  have vE := Tryz.noUnwrapsE
  simp only [bind_pure_comp] at cT h32
  go_enter Tryz.func12, Tryz.ntmps12
  go_wp2
  refine wp_loop_rounds 1 ?_
  rw [rounds_succ]
  go_wp2
  go_ret
  exact ⟨rfl, rfl⟩

/-- errors.Is of what a call of the program answers: nought is none. -/
theorem is_any (c c' : Int) (hc : c' ≠ 0) (w : World) : Calls Tryz.prog 12 #[errV c, .iface 34 (.int .i64 c')] w fun e w' => e = .returned (.bool (c == c')) ∧ w = w' := by
  unfold errV
  by_cases h0 : c = 0
  · rw [if_pos h0]
    have : (c == c') = false := by rw [beq_eq_false_iff_ne]; omega
    rw [this]
    exact is_nil c' w
  · rw [if_neg h0]
    by_cases h1 : c = c'
    · subst h1
      rw [beq_self_eq_true]
      exact is_yes c w
    · have : (c == c') = false := by rw [beq_eq_false_iff_ne]; exact h1
      rw [this]
      exact is_no c c' this w

/-- What errors.As leaves. -/
def AsPost (t : Addr) (c : Int) (w : World) (e : Ending) (w' : World) : Prop := e = .returned (.bool true) ∧ ∃ w1, Below w.heap.size w w1 ∧ w' = w1.setCell t (.int .i64 c) ∧ (∃ old, w1.cell? t = some old) ∧ t.block < w.heap.size
theorem as_hit (t : Addr) (c : Int) (old : Value) (w : World) (hg : ErrVar w) (ht0 : w.cell? t = some old) (hf0 : w.frozen? t = false) :
    Calls Tryz.prog 57 #[.iface 34 (.int .i64 c), .iface 107 (.pointer (some t))] w (AsPost t c w) :=
  (as_raw t c old w hg ht0 hf0).mono fun e w' ⟨he, hw⟩ => by
    have hb : Below w.heap.size w ((((w.alloc (.cells #[.pointer (some t)] 107)).alloc (.cells #[.pointer (some ⟨4, 107, none⟩), .pointer (some ⟨w.heap.size, 0, none⟩), .int .u64 150] 138)).alloc (.cells #[.pointer (some ⟨4, 107, none⟩), .pointer (some ⟨w.heap.size, 0, none⟩), .int .u64 150] 138)).alloc (.cells #[.int .i64 c] 34)) :=
      ((((Below.refl _ w).alloc (Nat.le_refl _) _).alloc (by simp) _).alloc (by simp; omega) _).alloc (by simp; omega) _
    exact ⟨he, _, hb, hw, ⟨old, cell_keep hb ht0⟩, cell_lt ht0⟩
end Go.Proofs.YtjincmagbbpooaaGreatDoor
