import Derived.Test.YtjincmagbbpooaaGreatDoorProg
import Derived.WalkKit
import Derived.LaidEql
import Derived.Stop.Asserts
import Derived.RowKitTokens
import Derived.Below
import Derived.Lib.Hide
import Derived.Deep.Draws
set_option linter.unusedVariables false
set_option linter.unusedSimpArgs false
namespace Go.Proofs.YtjincmagbbpooaaGreatDoor
open Go.RowKit Go.Extern.Stop Go.Stop Go.Extern

/-- The handle of a type. -/
def hdl (t : Nat) : Value := .pointer (some ⟨4, t, none⟩)
/-- errors.errorType as the program's text lays it. -/
def ErrVar (w : World) : Prop := w.cell? ⟨0, 0, none⟩ = some (.iface 126 (.agg #[.pointer (some ⟨4, 28, none⟩)]))
/-- An error of the program, or none. -/
def errV : Int → Value := fun c => if c = 0 then .nilIface else .iface 34 (.int .i64 c)

theorem below_drewN {B : Nat} (w : World) (n : Nat) : Below B w (w.drewN n) := ⟨rfl, rfl, rfl, Nat.le_refl _, fun _ _ => rfl⟩
theorem below_step {w a b : World} (h : Below w.heap.size w a) (hb : Below a.heap.size a b) : Below w.heap.size w b := h.trans (hb.mono h.size)
theorem cell_lt {w : World} {p : Addr} {v : Value} (h : w.cell? p = some v) : p.block < w.heap.size := by
  rcases Nat.lt_or_ge p.block w.heap.size with h' | h'
  · exact h'
  · simp [World.cell?, Array.getElem?_eq_none h'] at h
theorem cell_keep {w w' : World} {p : Addr} {v : Value} (hb : Below w.heap.size w w') (h : w.cell? p = some v) : w'.cell? p = some v := (hb.cell (cell_lt h)).trans h
theorem ErrVar.below {w w' : World} (h : ErrVar w) (hb : Below w.heap.size w w') : ErrVar w' := cell_keep hb h

/-! ### Closed facts on the model's entries for internal/reflectlite -/
theorem Tryz.methodKind (h : Value) (w : World) : (Go.method 310 126 (.agg #[h]) "Kind").run Tryz.prog w = .ok (139, h) w := by kernel_rfl
theorem Tryz.methodElem (h : Value) (w : World) : (Go.method 310 126 (.agg #[h]) "Elem").run Tryz.prog w = .ok (147, .agg #[h]) w := by kernel_rfl
theorem Tryz.methodImplements (h : Value) (w : World) : (Go.method 310 126 (.agg #[h]) "Implements").run Tryz.prog w = .ok (148, .agg #[h]) w := by kernel_rfl
theorem Tryz.methodAssignableTo (h : Value) (w : World) : (Go.method 310 126 (.agg #[h]) "AssignableTo").run Tryz.prog w = .ok (145, .agg #[h]) w := by kernel_rfl
theorem Tryz.methodComparable (h : Value) (w : World) : (Go.method 310 126 (.agg #[h]) "Comparable").run Tryz.prog w = .ok (146, .agg #[h]) w := by kernel_rfl
theorem Tryz.valueOfP (t : Addr) (w : World) : (ReflectliteValue.unpack (.iface 107 (.pointer (some t)))).run Tryz.prog w
    = .ok (.agg #[.pointer (some ⟨4, 107, none⟩), .pointer (some ⟨w.heap.size, 0, none⟩), .int .u64 150]) (w.alloc (.cells #[.pointer (some t)] 107)) := by kernel_rfl
theorem Tryz.typeP (a : Addr) (w : World) : (ReflectliteValue.methodAny (ReflectliteValue.valueError "reflectlite.Value.Type" 0) (fun t _ _ _ => ReflectliteType.toType t) #[.agg #[.pointer (some ⟨4, 107, none⟩), .pointer (some a), .int .u64 150]]).run Tryz.prog w
    = .ok (.iface 126 (.agg #[.pointer (some ⟨4, 107, none⟩)])) w := by kernel_rfl
theorem Tryz.kindP (w : World) : ((ReflectliteType.abiMethod fun t => (fun a : Nat => Value.int IntKind.u8 (a : Int)) <$> Rtype.kind t) #[.pointer (some ⟨4, 107, none⟩)]).run Tryz.prog w = .ok (.int .u8 22) w := by kernel_rfl
theorem Tryz.kindE (w : World) : ((ReflectliteType.abiMethod fun t => (fun a : Nat => Value.int IntKind.u8 (a : Int)) <$> Rtype.kind t) #[.pointer (some ⟨4, 34, none⟩)]).run Tryz.prog w = .ok (.int .u8 2) w := by kernel_rfl
theorem rlm (z : Sem Value) (f : TypeId → Addr → Nat → Nat → Sem Value) (v : Value) :
    ReflectliteValue.method z f #[v] = (do match ← ReflectliteValue.parts v with | none => z | some (t, a, fl) => f t a fl (fl % 32)) := rfl
theorem Tryz.partsP (a : Addr) (w : World) : (ReflectliteValue.parts (.agg #[.pointer (some ⟨4, 107, none⟩), .pointer (some a), .int .u64 150])).run Tryz.prog w = .ok (some (107, a, 150)) w := by kernel_rfl
theorem Tryz.isNilP (a p : Addr) (W : World) (ha : W.cell? a = some (.pointer (some p))) :
    (ReflectliteValue.method (ReflectliteValue.valueError "reflectlite.Value.IsNil" 0) ReflectliteValue.isNil #[.agg #[.pointer (some ⟨4, 107, none⟩), .pointer (some a), .int .u64 150]]).run Tryz.prog W = .ok (.bool false) W := by
  rw [rlm]
  simp only [Sem.run_bind, Tryz.partsP, Result.andThen]
  simp [ReflectliteValue.isNil, loadVar, isAgg, underlying, Tryz.underlying107, ha, Result.andThen]
theorem Tryz.elemP (w : World) : (ReflectliteType.method ReflectliteType.elem #[.agg #[.pointer (some ⟨4, 107, none⟩)]]).run Tryz.prog w = .ok (.iface 126 (.agg #[.pointer (some ⟨4, 34, none⟩)])) w := by kernel_rfl
theorem Tryz.implementsE (w : World) : (ReflectliteType.relation "Implements" ReflectliteType.implements_ #[.agg #[.pointer (some ⟨4, 34, none⟩)], .iface 126 (.agg #[.pointer (some ⟨4, 28, none⟩)])]).run Tryz.prog w = .ok (.bool true) w := by kernel_rfl
theorem Tryz.typeOfE (v : Value) (w : World) : (ReflectliteType.typeOf #[.iface 34 v]).run Tryz.prog w = .ok (.iface 126 (.agg #[.pointer (some ⟨4, 34, none⟩)])) w := by kernel_rfl
theorem Tryz.assignableE (w : World) : (ReflectliteType.relation "AssignableTo" ReflectliteType.assignableTo #[.agg #[.pointer (some ⟨4, 34, none⟩)], .iface 126 (.agg #[.pointer (some ⟨4, 34, none⟩)])]).run Tryz.prog w = .ok (.bool true) w := by kernel_rfl
theorem Tryz.valueOfE (c : Int) (w : World) : (ReflectliteValue.unpack (.iface 34 (.int .i64 c))).run Tryz.prog w
    = .ok (.agg #[.pointer (some ⟨4, 34, none⟩), .pointer (some ⟨w.heap.size, 0, none⟩), .int .u64 130]) (w.alloc (.cells #[.int .i64 c] 34)) := by kernel_rfl
theorem Tryz.elemOfP (w : World) : (Rtype.elem? 107).run Tryz.prog w = .ok (some 34) w := by kernel_rfl
theorem Tryz.mkE (p : Addr) (w : World) : (ReflectliteValue.mk 34 p ReflectliteValue.flagAddr).run Tryz.prog w = .ok (.agg #[.pointer (some ⟨4, 34, none⟩), .pointer (some p), .int .u64 386]) w := by kernel_rfl
theorem Tryz.elemVP (a p : Addr) (W : World) (ha : W.cell? a = some (.pointer (some p))) :
    (ReflectliteValue.method (ReflectliteValue.valueError "reflectlite.Value.Elem" 0) ReflectliteValue.elem #[.agg #[.pointer (some ⟨4, 107, none⟩), .pointer (some a), .int .u64 150]]).run Tryz.prog W
      = .ok (.agg #[.pointer (some ⟨4, 34, none⟩), .pointer (some p), .int .u64 386]) W := by
  rw [rlm]
  simp only [Sem.run_bind, Tryz.partsP, Result.andThen]
  simp [ReflectliteValue.elem, loadVar, isAgg, underlying, Tryz.underlying107, ha, Result.andThen, Tryz.elemOfP, Tryz.mkE]
theorem rls (v x : Value) : ReflectliteValue.set #[v, x] = (do
    let (some (dst, a, fl), some (src, b, _)) := (← ReflectliteValue.parts v, ← ReflectliteValue.parts x)
      | unsupported (.noEntry "extern/(internal/reflectlite.Value).Set.zeroValue")
    if fl / ReflectliteValue.flagAddr % 2 == 0 then unsupported (.noEntry "extern/(internal/reflectlite.Value).Set.unaddressable")
    let val ← loadVar src b
    if ← Rtype.directlyAssignable dst src then storeVar dst a val
    else if ← Rtype.implements dst src then
      if (← Rtype.kind src) == 20 then
        match val with
        | .nilIface => unsupported (.noEntry "extern/reflectlite: a nil value of one interface type handed on as a value of another")
        | _ => storeVar dst a val
      else storeVar dst a (.iface src val)
    else panicString ("reflectlite.Set: value of type " ++ (← Rtype.spelt src) ++ " is not assignable to type " ++ (← Rtype.spelt dst))
    pure (.tuple #[])) := rfl
theorem Tryz.partsEa (a : Addr) (w : World) : (ReflectliteValue.parts (.agg #[.pointer (some ⟨4, 34, none⟩), .pointer (some a), .int .u64 386])).run Tryz.prog w = .ok (some (34, a, 386)) w := by kernel_rfl
theorem Tryz.partsE (a : Addr) (w : World) : (ReflectliteValue.parts (.agg #[.pointer (some ⟨4, 34, none⟩), .pointer (some a), .int .u64 130])).run Tryz.prog w = .ok (some (34, a, 130)) w := by kernel_rfl
theorem Tryz.directE (w : World) : (Rtype.directlyAssignable 34 34).run Tryz.prog w = .ok true w := by kernel_rfl
theorem Tryz.sizeE (w : World) : (sizeOf 34).run Tryz.prog w = .ok 1 w := by kernel_rfl
theorem Tryz.setE (ta b : Addr) (c : Int) (old : Value) (W : World) (hb : W.cell? b = some (.int .i64 c)) (ht : W.cell? ta = some old) (hf : W.frozen? ta = false) :
    (ReflectliteValue.set #[.agg #[.pointer (some ⟨4, 34, none⟩), .pointer (some ta), .int .u64 386], .agg #[.pointer (some ⟨4, 34, none⟩), .pointer (some b), .int .u64 130]]).run Tryz.prog W
      = .ok (.tuple #[]) (W.setCell ta (.int .i64 c)) := by
  rw [rls]
  simp only [Sem.run_bind, Tryz.partsEa, Tryz.partsE, Result.andThen]
  simp [ReflectliteValue.flagAddr, loadVar, isAgg, underlying, Tryz.underlying34, hb, Result.andThen, Tryz.directE, storeVar, Value.cells, storeCells, Addr.add]
  rw [run_store Tryz.prog W ta _ _ (by rfl)]
  simp [ht, hf]

set_option maxRecDepth 100000 in
theorem as_nil (t : Value) (w : World) :
    Calls Tryz.prog 57 #[.nilIface, t] w fun e w' => e = .returned (.bool false) ∧ w = w' := by
  go_enter Tryz.func57, Tryz.ntmps57
  go_wp2
  go_ret
  exact ⟨rfl, rfl⟩

set_option maxHeartbeats 4000000 in
set_option maxRecDepth 100000 in
theorem as_raw (t : Addr) (c : Int) (old : Value) (w : World) (hg : w.cell? ⟨0, 0, none⟩ = some (.iface 126 (.agg #[.pointer (some ⟨4, 28, none⟩)]))) (ht0 : w.cell? t = some old) (hf0 : w.frozen? t = false) :
    Calls Tryz.prog 57 #[.iface 34 (.int .i64 c), .iface 107 (.pointer (some t))] w fun ev w' => ev = .returned (.bool true) ∧ w' = ((((w.alloc (.cells #[.pointer (some t)] 107)).alloc (.cells #[.pointer (some ⟨4, 107, none⟩), .pointer (some ⟨w.heap.size, 0, none⟩), .int .u64 150] 138)).alloc (.cells #[.pointer (some ⟨4, 107, none⟩), .pointer (some ⟨w.heap.size, 0, none⟩), .int .u64 150] 138)).alloc (.cells #[.int .i64 c] 34)).setCell t (.int .i64 c) := by
  have h6 := @run_callFunc_extern Tryz.prog 83 _ (fun args => ReflectliteValue.unpack (args.getD 0 (.tuple #[]))) Tryz.func83 (by kernel_rfl) (by kernel_rfl) (by kernel_rfl) (by kernel_rfl)
  have h7 := @run_callFunc_extern Tryz.prog 84 _ (ReflectliteValue.methodAny (ReflectliteValue.valueError "reflectlite.Value.Type" 0) (fun t _ _ _ => ReflectliteType.toType t)) Tryz.func84 (by kernel_rfl) (by kernel_rfl) (by kernel_rfl) (by kernel_rfl)
  have h8 := @run_callFunc_extern Tryz.prog 85 _ (ReflectliteValue.method (ReflectliteValue.valueError "reflectlite.Value.IsNil" 0) ReflectliteValue.isNil) Tryz.func85 (by kernel_rfl) (by kernel_rfl) (by kernel_rfl) (by kernel_rfl)
  have h27 := @run_callFunc_extern Tryz.prog 139 _ (ReflectliteType.abiMethod fun t => do pure (.int .u8 (← Rtype.kind t))) Tryz.func139 (by kernel_rfl) (by kernel_rfl) (by kernel_rfl) (by kernel_rfl)
  have h37 := @run_callFunc_extern Tryz.prog 147 _ (ReflectliteType.method ReflectliteType.elem) Tryz.func147 (by kernel_rfl) (by kernel_rfl) (by kernel_rfl) (by kernel_rfl)
  have h38 := @run_callFunc_extern Tryz.prog 148 _ (ReflectliteType.relation "Implements" ReflectliteType.implements_) Tryz.func148 (by kernel_rfl) (by kernel_rfl) (by kernel_rfl) (by kernel_rfl)
  have h10 := @run_callFunc_extern Tryz.prog 49 _ ReflectliteType.typeOf Tryz.func49 (by kernel_rfl) (by kernel_rfl) (by kernel_rfl) (by kernel_rfl)
  have h35 := @run_callFunc_extern Tryz.prog 145 _ (ReflectliteType.relation "AssignableTo" ReflectliteType.assignableTo) Tryz.func145 (by kernel_rfl) (by kernel_rfl) (by kernel_rfl) (by kernel_rfl)
  have h11 := @run_callFunc_extern Tryz.prog 101 _ (ReflectliteValue.method (ReflectliteValue.valueError "reflectlite.Value.Elem" 0) ReflectliteValue.elem) Tryz.func101 (by kernel_rfl) (by kernel_rfl) (by kernel_rfl) (by kernel_rfl)
  have h12 := @run_callFunc_extern Tryz.prog 102 _ ReflectliteValue.set Tryz.func102 (by kernel_rfl) (by kernel_rfl) (by kernel_rfl) (by kernel_rfl)
  have tO := Tryz.typeOfE
  have mA := Tryz.methodAssignableTo
  have a25 := Tryz.assignableE
  have v25 := Tryz.valueOfE
  have f6 := Tryz.valueOfP
  have f7 := Tryz.typeP
  have mK := Tryz.methodKind
  have mE := Tryz.methodElem
  have mI := Tryz.methodImplements
  have k27 := Tryz.kindP
  have k25 := Tryz.kindE
  have e27 := Tryz.elemP
  have i25 := Tryz.implementsE
  have n8 := Tryz.isNilP ⟨w.heap.size, 0, none⟩ t ((w.alloc (.cells #[.pointer (some t)] 107)).alloc (.cells #[.pointer (some ⟨4, 107, none⟩), .pointer (some ⟨w.heap.size, 0, none⟩), .int .u64 150] 138)) (by simp)
  have hlt : 0 < w.heap.size := cell_lt hg
  have hg2 : ((w.alloc (.cells #[.pointer (some t)] 107)).alloc (.cells #[.pointer (some ⟨4, 107, none⟩), .pointer (some ⟨w.heap.size, 0, none⟩), .int .u64 150] 138)).cell? ⟨0, 0, none⟩ = some (.iface 126 (.agg #[.pointer (some ⟨4, 28, none⟩)])) := by
    rw [World.cell?_alloc_lt _ _ ⟨0, 0, none⟩ (by first | (simp; done) | (simp; omega)), World.cell?_alloc_lt _ _ ⟨0, 0, none⟩ hlt]; exact hg
  have htl : t.block < w.heap.size := cell_lt ht0
  have el := Tryz.elemVP ⟨w.heap.size, 0, none⟩ t (((w.alloc (.cells #[.pointer (some t)] 107)).alloc (.cells #[.pointer (some ⟨4, 107, none⟩), .pointer (some ⟨w.heap.size, 0, none⟩), .int .u64 150] 138)).alloc (.cells #[.pointer (some ⟨4, 107, none⟩), .pointer (some ⟨w.heap.size, 0, none⟩), .int .u64 150] 138)) (by rw [World.cell?_alloc_lt _ _ ⟨w.heap.size, 0, none⟩ (by simp; omega)]; simp)
  have st := Tryz.setE t ⟨w.heap.size + 1 + 1 + 1, 0, none⟩ c old ((((w.alloc (.cells #[.pointer (some t)] 107)).alloc (.cells #[.pointer (some ⟨4, 107, none⟩), .pointer (some ⟨w.heap.size, 0, none⟩), .int .u64 150] 138)).alloc (.cells #[.pointer (some ⟨4, 107, none⟩), .pointer (some ⟨w.heap.size, 0, none⟩), .int .u64 150] 138)).alloc (.cells #[.int .i64 c] 34))
    (by rw [World.cell?_alloc_at _ _ _ _ (by simp)]; rfl)
    (by rw [World.cell?_alloc_lt _ _ t (by simp; omega), World.cell?_alloc_lt _ _ t (by simp; omega), World.cell?_alloc_lt _ _ t (by simp; omega), World.cell?_alloc_lt _ _ t htl]; exact ht0)
    (by rw [World.frozen?_alloc_old _ _ t (by simp; omega), World.frozen?_alloc_old _ _ t (by simp; omega), World.frozen?_alloc_old _ _ t (by simp; omega), World.frozen?_alloc_old _ _ t (Nat.ne_of_lt htl)]; exact hf0)
  go_enter Tryz.func57, Tryz.ntmps57
  go_wp2
  refine wp_loop_rounds 1 ?_
  rw [rounds_succ]
  go_wp2
  go_ret
  exact ⟨rfl, rfl⟩
end Go.Proofs.YtjincmagbbpooaaGreatDoor
