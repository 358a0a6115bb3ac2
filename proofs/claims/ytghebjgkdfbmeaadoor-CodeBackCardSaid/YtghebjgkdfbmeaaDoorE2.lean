import Derived.Test.YtghebjgkdfbmeaaDoorE
set_option linter.unusedVariables false
set_option linter.unusedSimpArgs false
namespace Go.Proofs.YtghebjgkdfbmeaaDoor
open Go.RowKit Go.Extern.Stop Go.Stop Go.Extern

theorem Tryd.eq_nil_E (c : Int) (w : World) : (binOp .eql 28 .nilIface (.iface 33 (.int .i64 c))).run Tryd.prog w = .ok (.bool false) w := run_eql_iface_nil_left (P := Tryd.prog) w 33 _ Tryd.underlying28
theorem Tryd.eq_E_E (c c' : Int) (w : World) : (binOp .eql 28 (.iface 33 (.int .i64 c)) (.iface 33 (.int .i64 c'))).run Tryd.prog w = .ok (.bool (c == c')) w := by kernel_rfl
theorem Tryd.comparableE (w : World) : ((ReflectliteType.method fun t => do Rtype.noPackHeld "Comparable" t; pure (.bool (← typeInfo t).comparable)) #[.agg #[.pointer (some ⟨4, 33, none⟩)]]).run Tryd.prog w = .ok (.bool true) w := by kernel_rfl
theorem Tryd.noIsE (v : Value) (xT : TypeId) (w : World) : (Instr.typeAssert (.iface 33 v) xT 71 true).run Tryd.prog w = .ok (.tuple #[.nilIface, .bool false]) w := run_typeAssert_lacksB Tryd.underlying71 (by kernel_rfl) (by kernel_rfl) v xT w
theorem Tryd.noUnwrapE (v : Value) (xT : TypeId) (w : World) : (Instr.typeAssert (.iface 33 v) xT 74 true).run Tryd.prog w = .ok (.tuple #[.nilIface, .bool false]) w := run_typeAssert_lacksB Tryd.underlying74 (by kernel_rfl) (by kernel_rfl) v xT w
theorem Tryd.noUnwrapsE (v : Value) (xT : TypeId) (w : World) : (Instr.typeAssert (.iface 33 v) xT 76 true).run Tryd.prog w = .ok (.tuple #[.nilIface, .bool false]) w := run_typeAssert_lacksB Tryd.underlying76 (by kernel_rfl) (by kernel_rfl) v xT w

set_option maxHeartbeats 4000000 in
set_option maxRecDepth 100000 in
theorem is_nil (c : Int) (w : World) : Calls Tryd.prog 12 #[.nilIface, .iface 33 (.int .i64 c)] w fun e w' => e = .returned (.bool false) ∧ w = w' := by
  have hn := Tryd.eq_nil_E
  go_enter Tryd.func12, Tryd.ntmps12
  go_wp2
  go_ret
  exact ⟨rfl, rfl⟩

set_option maxHeartbeats 4000000 in
set_option maxRecDepth 100000 in
theorem is_yes (c : Int) (w : World) : Calls Tryd.prog 12 #[.iface 33 (.int .i64 c), .iface 33 (.int .i64 c)] w fun e w' => e = .returned (.bool true) ∧ w = w' := by
  have h8 := @run_callFunc_extern Tryd.prog 25 _ ReflectliteType.typeOf Tryd.func25 (by kernel_rfl) (by kernel_rfl) (by kernel_rfl) (by kernel_rfl)
  have h32 := @run_callFunc_extern Tryd.prog 105 _ (ReflectliteType.method fun t => do Rtype.noPackHeld "Comparable" t; pure (.bool (← typeInfo t).comparable)) Tryd.func105 (by kernel_rfl) (by kernel_rfl) (by kernel_rfl) (by kernel_rfl)
  have tT := Tryd.typeOfE
  have cT := Tryd.comparableE
  have mR := Tryd.methodComparable
  have heq := Tryd.eq_E_E c c
  rw [beq_self_eq_true] at heq
  simp only [bind_pure_comp] at cT h32
  go_enter Tryd.func12, Tryd.ntmps12
  go_wp2
  refine wp_loop_rounds 1 ?_
  rw [rounds_succ]
  go_wp2
  go_ret
  exact ⟨rfl, rfl⟩

set_option maxHeartbeats 4000000 in
set_option maxRecDepth 100000 in
theorem is_no (c c' : Int) (hne : (c == c') = false) (w : World) : Calls Tryd.prog 12 #[.iface 33 (.int .i64 c), .iface 33 (.int .i64 c')] w fun e w' => e = .returned (.bool false) ∧ w = w' := by
  have h8 := @run_callFunc_extern Tryd.prog 25 _ ReflectliteType.typeOf Tryd.func25 (by kernel_rfl) (by kernel_rfl) (by kernel_rfl) (by kernel_rfl)
  have h32 := @run_callFunc_extern Tryd.prog 105 _ (ReflectliteType.method fun t => do Rtype.noPackHeld "Comparable" t; pure (.bool (← typeInfo t).comparable)) Tryd.func105 (by kernel_rfl) (by kernel_rfl) (by kernel_rfl) (by kernel_rfl)
  have tT := Tryd.typeOfE
  have cT := Tryd.comparableE
  have mR := Tryd.methodComparable
  have heq := Tryd.eq_E_E c c'
  rw [hne] at heq
  clear hne
  have nE := Tryd.noIsE
  have uE := Tryd.noUnwrapE
  have vE := Tryd.noUnwrapsE
  simp only [bind_pure_comp] at cT h32
  go_enter Tryd.func12, Tryd.ntmps12
  go_wp2
  refine wp_loop_rounds 1 ?_
  rw [rounds_succ]
  go_wp2
  go_ret
  exact ⟨rfl, rfl⟩

/-- errors.Is of what a call of the program answers: nought is none. -/
theorem is_any (c c' : Int) (hc : c' ≠ 0) (w : World) : Calls Tryd.prog 12 #[errV c, .iface 33 (.int .i64 c')] w fun e w' => e = .returned (.bool (c == c')) ∧ w = w' := by
  unfold errV
  by_cases h0 : c = 0
  · rw [if_pos h0]
    have : (c == c') = false := by rw [beq_eq_false_iff_ne]; omega
    rw [this]
    exact is_nil c' w
  · rw [if_neg h0]
    by_cases h1 : c = c'
    · subst h1
      rw [beq_self_eq_true]
      exact is_yes c w
    · have : (c == c') = false := by rw [beq_eq_false_iff_ne]; exact h1
      rw [this]
      exact is_no c c' this w

/-- What errors.As leaves. -/
def AsPost (t : Addr) (c : Int) (w : World) (e : Ending) (w' : World) : Prop := e = .returned (.bool true) ∧ ∃ w1, Below w.heap.size w w1 ∧ w' = w1.setCell t (.int .i64 c) ∧ (∃ old, w1.cell? t = some old) ∧ t.block < w.heap.size
theorem as_hit (t : Addr) (c : Int) (old : Value) (w : World) (hg : ErrVar w) (ht0 : w.cell? t = some old) (hf0 : w.frozen? t = false) :
    Calls Tryd.prog 50 #[.iface 33 (.int .i64 c), .iface 99 (.pointer (some t))] w (AsPost t c w) :=
  (as_raw t c old w hg ht0 hf0).mono fun e w' ⟨he, hw⟩ => by
    have hb : Below w.heap.size w ((((w.alloc (.cells #[.pointer (some t)] 99)).alloc (.cells #[.pointer (some ⟨4, 99, none⟩), .pointer (some ⟨w.heap.size, 0, none⟩), .int .u64 150] 107)).alloc (.cells #[.pointer (some ⟨4, 99, none⟩), .pointer (some ⟨w.heap.size, 0, none⟩), .int .u64 150] 107)).alloc (.cells #[.int .i64 c] 33)) :=
      ((((Below.refl _ w).alloc (Nat.le_refl _) _).alloc (by simp) _).alloc (by simp; omega) _).alloc (by simp; omega) _
    exact ⟨he, _, hb, hw, ⟨old, cell_keep hb ht0⟩, cell_lt ht0⟩
end Go.Proofs.YtghebjgkdfbmeaaDoor
