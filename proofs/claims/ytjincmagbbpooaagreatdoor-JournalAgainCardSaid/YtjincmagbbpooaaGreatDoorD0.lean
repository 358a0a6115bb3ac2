import Derived.Test.YtjincmagbbpooaaGreatDoorEB
import Derived.Test.YtjincmagbbpooaaGreatDoorSR
import Derived.BigRegion
import Derived.Deep.RegionLaw
set_option linter.unusedVariables false
set_option linter.unusedSimpArgs false
namespace Go.Proofs.YtjincmagbbpooaaGreatDoor
open Go.RowKit

/-! ### a disk by the document -/
structure DS where
  sure : List ByteArray
  loose : List (Nat × ByteArray)
  left : Int
  done : Nat
  dead : Bool
def zeroB (n : Nat) : ByteArray := ⟨(List.replicate n (0 : UInt8)).toArray⟩
def fillB (b : ByteArray) : ByteArray := b ++ zeroB (64 - b.size)
def newD (n : Nat) : DS := ⟨List.replicate n (zeroB 64), [], -1, 0, false⟩
def DS.may (D : DS) (i : Int) : Int := if D.dead = true then 25 else if i < 0 ∨ (D.sure.length : Int) ≤ i then 14 else 0
def DS.writeC (D : DS) (i : Int) (b : ByteArray) : Int := if D.may i ≠ 0 then D.may i else if 64 < b.size then 13 else if D.left = 0 then 25 else 0
def DS.put (D : DS) (i : Nat) (b : ByteArray) : DS := { D with left := if 0 < D.left then D.left - 1 else D.left, done := D.done + 1, loose := D.loose ++ [(i, fillB b)] }
def DS.write (D : DS) (i : Int) (b : ByteArray) : DS := if D.writeC i b = 0 then D.put i.toNat b else if D.may i = 0 ∧ b.size ≤ 64 then { D with dead := true } else D
def lastW (l : List (Nat × ByteArray)) (i : Nat) (s : ByteArray) : ByteArray := l.foldl (fun s x => if x.1 = i then x.2 else s) s
def DS.readS (D : DS) (i : Int) : ByteArray := if D.may i ≠ 0 then ⟨#[]⟩ else lastW D.loose i.toNat (D.sure.getD i.toNat ⟨#[]⟩)
def keepStep (keep : Nat → Bool) (torn : Int) (i : Nat) (x : Nat × ByteArray) (s : List ByteArray) : List ByteArray :=
  if keep i = true then (if (i : Int) = torn then s.set x.1 (x.2.extract 0 32 ++ (s.getD x.1 ⟨#[]⟩).extract 32 (s.getD x.1 ⟨#[]⟩).size) else s.set x.1 x.2) else s
def keepN (keep : Nat → Bool) (torn : Int) (l : List (Nat × ByteArray)) (s : List ByteArray) : Nat → List ByteArray
  | 0 => s
  | i + 1 => keepStep keep torn i (l.getD i (0, ⟨#[]⟩)) (keepN keep torn l s i)
def DS.keeps (D : DS) (keep : Nat → Bool) (torn : Int) : DS := { D with sure := keepN keep torn D.loose D.sure D.loose.length, loose := [] }
def DS.flushC (D : DS) : Int := if D.dead = true then 25 else 0
def DS.flush (D : DS) : DS := if D.dead = true then D else D.keeps (fun _ => true) (-1)
def DS.cut (D : DS) (k : Int) : DS := { D with left := mxI k (-1) }
def DS.crash (D : DS) (keep : Nat → Bool) (torn : Int) : DS := { D.keeps keep torn with left := -1, dead := false }
def keepOf (l : List Bool) : Nat → Bool := fun i => l.getD i false

structure DS.ok (D : DS) : Prop where
  one : 1 ≤ D.sure.length
  most : D.sure.length ≤ 2000
  size : ∀ s ∈ D.sure, s.size = 64
  lies : ∀ x ∈ D.loose, x.1 < D.sure.length ∧ x.2.size = 64
  few : D.loose.length ≤ D.done
  done : D.done ≤ 1099511627776
  left : -1 ≤ D.left ∧ D.left ≤ 9223372036854775807

theorem zeroB_size (n : Nat) : (zeroB n).size = n := by show (List.replicate n (0 : UInt8)).toArray.size = n; simp
theorem fillB_size (b : ByteArray) (h : b.size ≤ 64) : (fillB b).size = 64 := by unfold fillB; rw [ByteArray.size_append, zeroB_size]; omega
theorem newD_ok (n : Nat) (h1 : 1 ≤ n) (h2 : n ≤ 2000) : (newD n).ok where
  one := by simp [newD, h1]
  most := by simp [newD, h2]
  size := fun s hs => by have := List.eq_of_mem_replicate hs; rw [this, zeroB_size]
  lies := fun x hx => by simp [newD] at hx
  few := by simp [newD]
  done := by simp [newD]
  left := by simp [newD]
theorem DS.may_zero {D : DS} {i : Int} : D.may i = 0 ↔ D.dead = false ∧ 0 ≤ i ∧ i < D.sure.length := by
  unfold DS.may
  by_cases h : D.dead = true
  · rw [if_pos h]; simp [h]
  · rw [if_neg h]
    by_cases h2 : i < 0 ∨ (D.sure.length : Int) ≤ i
    · rw [if_pos h2]; simp only [Bool.not_eq_true] at h; constructor
      · intro h; omega
      · intro ⟨_, h3, h4⟩; omega
    · rw [if_neg h2]; simp only [Bool.not_eq_true] at h; exact ⟨fun _ => ⟨h, by omega, by omega⟩, fun _ => rfl⟩
theorem DS.writeC_zero {D : DS} {i : Int} {b : ByteArray} : D.writeC i b = 0 ↔ D.may i = 0 ∧ b.size ≤ 64 ∧ D.left ≠ 0 := by
  unfold DS.writeC
  by_cases h : D.may i = 0
  · rw [if_neg (by simpa using h)]
    by_cases h2 : 64 < b.size
    · rw [if_pos h2]; constructor
      · intro h; omega
      · intro ⟨_, h3, _⟩; omega
    · rw [if_neg h2]
      by_cases h3 : D.left = 0
      · rw [if_pos h3]; constructor
        · intro h; omega
        · intro ⟨_, _, h4⟩; exact absurd h3 h4
      · rw [if_neg h3]; exact ⟨fun _ => ⟨h, by omega, h3⟩, fun _ => rfl⟩
  · rw [if_pos h]; exact ⟨fun h' => absurd h' h, fun h' => absurd h'.1 h⟩
theorem DS.ok.put {D : DS} (h : D.ok) {i : Nat} {b : ByteArray} (hi : i < D.sure.length) (hb : b.size ≤ 64) (hd : D.done < 1099511627776) : (D.put i b).ok where
  one := h.one
  most := h.most
  size := h.size
  lies := fun x hx => by
    rcases List.mem_append.1 hx with h' | h'
    · exact h.lies x h'
    · obtain rfl := List.mem_singleton.1 h'
      exact ⟨hi, fillB_size b hb⟩
  few := by show (D.loose ++ _).length ≤ D.done + 1; rw [List.length_append]; have := h.few; simp; omega
  done := by show D.done + 1 ≤ _; omega
  left := by show -1 ≤ (if 0 < D.left then D.left - 1 else D.left) ∧ (if 0 < D.left then D.left - 1 else D.left) ≤ _; have := h.left; split <;> omega
theorem DS.ok.write {D : DS} (h : D.ok) (i : Int) (b : ByteArray) (hd : D.done < 1099511627776) : (D.write i b).ok := by
  unfold DS.write
  split
  · rename_i h0
    have h1 := DS.writeC_zero.1 h0
    have h2 := DS.may_zero.1 h1.1
    exact h.put (by omega) h1.2.1 hd
  · split
    · exact ⟨h.one, h.most, h.size, h.lies, h.few, h.done, h.left⟩
    · exact h
theorem keepN_ok {keep : Nat → Bool} {torn : Int} {l : List (Nat × ByteArray)} {s : List ByteArray} (hl : ∀ x ∈ l, x.1 < s.length ∧ x.2.size = 64) (hs : ∀ x ∈ s, x.size = 64) :
    ∀ i, i ≤ l.length → (keepN keep torn l s i).length = s.length ∧ ∀ x ∈ keepN keep torn l s i, x.size = 64
  | 0, _ => ⟨rfl, hs⟩
  | i + 1, hi => by
    obtain ⟨h1, h2⟩ := keepN_ok hl hs (keep := keep) (torn := torn) i (by omega)
    have hx : l[i]? = some (l.getD i (0, ⟨#[]⟩)) := by rw [List.getD_eq_getElem?_getD, List.getElem?_eq_getElem (by omega)]; rfl
    obtain ⟨hx1, hx2⟩ := hl _ (List.mem_of_getElem? hx)
    show (keepStep keep torn i _ (keepN keep torn l s i)).length = _ ∧ ∀ x ∈ keepStep keep torn i _ (keepN keep torn l s i), _
    generalize l.getD i (0, ⟨#[]⟩) = x at *
    generalize keepN keep torn l s i = s' at *
    unfold keepStep
    have hg : (s'.getD x.1 ⟨#[]⟩).size = 64 := by
      refine h2 _ (List.mem_of_getElem? (i := x.1) ?_)
      rw [List.getD_eq_getElem?_getD, List.getElem?_eq_getElem (by omega)]; rfl
    split
    · split
      · refine ⟨by rw [List.length_set, h1], fun y hy => ?_⟩
        rcases List.mem_or_eq_of_mem_set hy with h | h
        · exact h2 y h
        · rw [h, ByteArray.size_append, ByteArray.size_extract, ByteArray.size_extract]; omega
      · refine ⟨by rw [List.length_set, h1], fun y hy => ?_⟩
        rcases List.mem_or_eq_of_mem_set hy with h | h
        · exact h2 y h
        · rw [h, hx2]
    · exact ⟨h1, h2⟩
theorem DS.ok.keeps {D : DS} (h : D.ok) (keep : Nat → Bool) (torn : Int) : (D.keeps keep torn).ok := by
  have hk := keepN_ok (keep := keep) (torn := torn) h.lies h.size D.loose.length (Nat.le_refl _)
  exact ⟨by show 1 ≤ (keepN _ _ _ _ _).length; rw [hk.1]; exact h.one, by show (keepN _ _ _ _ _).length ≤ _; rw [hk.1]; exact h.most, hk.2, fun x hx => by simp [DS.keeps] at hx, by simp [DS.keeps], h.done, h.left⟩
theorem DS.ok.flush {D : DS} (h : D.ok) : D.flush.ok := by unfold DS.flush; split; exact h; exact h.keeps _ _
theorem DS.ok.crash {D : DS} (h : D.ok) (keep : Nat → Bool) (torn : Int) : (D.crash keep torn).ok := by
  have := h.keeps keep torn
  exact ⟨this.one, this.most, this.size, this.lies, this.few, this.done, by simp [DS.crash]⟩
theorem DS.ok.cut {D : DS} (h : D.ok) (k : Int) (hk : k ≤ 9223372036854775807) : (D.cut k).ok :=
  ⟨h.one, h.most, h.size, h.lies, h.few, h.done, by show -1 ≤ mxI k (-1) ∧ mxI k (-1) ≤ _; unfold mxI; split <;> omega⟩
theorem lastW_snoc (l : List (Nat × ByteArray)) (x : Nat × ByteArray) (i : Nat) (s : ByteArray) : lastW (l ++ [x]) i s = if x.1 = i then x.2 else lastW l i s := by
  unfold lastW; rw [List.foldl_append]; rfl

/-! ### a call at a step of a region that draws its order -/
theorem step_call {P : Program} {ops : Array Oper} {Q : Exit → Act → World → Prop} {o : Oper} {a : Act} {w : World} {K : Act → World → Prop} {E : Prop} {f : FuncId} {fn : Func} {ars : Array Operand} {ts : Array TypeId} (hf : P.funcs[f]? = some fn) (hname : (fn.name == "runtime.NumGoroutine") = false) (hb : fn.body.isSome = true) (args : Array Value)
    (hg : o.guard = none) (hop : o.op = .call { callee := .value (.func f), args := ars, argTypes := ts }) (hargs : ars.map a.eval = args)
    (h : Calls P f args w fun e w' => ∃ v, e = .returned v ∧ K (a.put o.dst v) w') : if Region.wanted o (yielded ops a.tmps) = true then Oper.wp P o a w K Q else E := by
  have hw : Region.wanted o (yielded ops a.tmps) = true := by simp [Region.wanted, hg]
  rw [if_pos hw]
  have h1 : fn.name ≠ "runtime.NumGoroutine" := by simpa using hname
  obtain ⟨c, hc⟩ := Option.isSome_iff_exists.1 hb
  have he : (callFunc f args).run P w = .ok (.enter f args) w := by simp [callFunc, hf, h1, hc]
  have hrun : (execOp a.eval o).run P w = .ok (.enter f args) w := by
    unfold execOp
    simp [hop, resolve, Deferred.ofValue, invoke, Act.eval, hargs, he]
  unfold Oper.wp
  rw [hrun, Oper.upon_enter]
  refine h.mono fun e w'' hh => ?_
  obtain ⟨v, rfl, hk⟩ := hh
  exact hk

/-! ### what is kept but for a set of blocks -/
structure Save (F : Nat → Prop) (w w' : World) : Prop where
  os : w'.os = w.os
  tape : w'.tape = w.tape
  output : w'.output = w.output
  size : w.heap.size ≤ w'.heap.size
  block : ∀ k, k < w.heap.size → ¬ F k → w'.heap[k]? = w.heap[k]?
/-- The set, and what is new. -/
def Plus (F : Nat → Prop) (w w' : World) : Nat → Prop := fun k => F k ∨ (w.heap.size ≤ k ∧ k < w'.heap.size)
theorem Save.refl (F : Nat → Prop) (w : World) : Save F w w := ⟨rfl, rfl, rfl, Nat.le_refl _, fun _ _ _ => rfl⟩
theorem Save.trans {F : Nat → Prop} {a b c : World} (h : Save F a b) (k : Save (Plus F a b) b c) : Save F a c :=
  ⟨k.os.trans h.os, k.tape.trans h.tape, k.output.trans h.output, Nat.le_trans h.size k.size, fun i hi hn => (k.block i (Nat.lt_of_lt_of_le hi h.size) (fun h' => h'.elim hn (fun h' => by omega))).trans (h.block i hi hn)⟩
theorem Save.mono {F G : Nat → Prop} {a b : World} (h : Save F a b) (hG : ∀ k, k < a.heap.size → F k → G k) : Save G a b := ⟨h.os, h.tape, h.output, h.size, fun k hk hn => h.block k hk (fun hf => hn (hG k hk hf))⟩
theorem Save.then {F : Nat → Prop} {a b c : World} (h : Save F a b) (k : Save F b c) : Save F a c := h.trans (k.mono fun _ _ h => .inl h)
theorem Save.of_below {F : Nat → Prop} {w w' : World} (h : Below w.heap.size w w') : Save F w w' := ⟨h.os, h.tape, h.output, h.size, fun k hk _ => h.block k hk⟩
theorem Save.below {B : Nat} {w w' : World} (h : Save (fun k => B ≤ k) w w') (hB : B ≤ w.heap.size) : Below B w w' := ⟨h.os, h.tape, h.output, h.size, fun k hk => h.block k (by omega) (by omega)⟩
theorem Save.drewN {F : Nat → Prop} {a w : World} (h : Save F a w) (n : Nat) : Save F a (w.drewN n) := ⟨h.os, h.tape, h.output, h.size, h.block⟩
theorem Save.alloc {F : Nat → Prop} {a w : World} (h : Save F a w) (o : Obj) : Save F a (w.alloc o) := h.then (Save.of_below ((Below.refl _ _).alloc (Nat.le_refl _) _))
theorem Save.setCell {F : Nat → Prop} {a w : World} (h : Save F a w) {p : Addr} (hp : F p.block ∨ a.heap.size ≤ p.block) (u : Value) : Save F a (w.setCell p u) :=
  ⟨h.os, h.tape, h.output, by have := h.size; simp [World.setCell]; exact this, fun k hk hn => (Below.heap_setCell _ _ _ _ (fun e => by subst e; exact hp.elim hn (by omega))).trans (h.block k hk hn)⟩
theorem Save.grown {F : Nat → Prop} {a w w' : World} {row : Option Nat} (h : Save F a w) (hg : w.grownBy w' row) (hr : ∀ k, row = some k → F k ∨ a.heap.size ≤ k) : Save F a w' :=
  ⟨hg.os.trans h.os, hg.tape.trans h.tape, hg.output.trans h.output, Nat.le_trans h.size hg.size, fun k hk hn => (hg.block k (Nat.lt_of_lt_of_le hk h.size) (fun e => (hr k e.symm).elim hn (by omega))).trans (h.block k hk hn)⟩
theorem Save.belowStep {F : Nat → Prop} {a w w' : World} (h : Save F a w) (hb : Below w.heap.size w w') : Save F a w' := h.then (Save.of_below hb)

/-! ### blocks known whole -/
def Blk (w : World) (g : Nat) (t : TypeId) (cs : Array Value) : Prop := w.heap[g]? = some (.cells cs t (0, 0))
section
variable {w w' : World} {g : Nat} {t : TypeId} {cs : Array Value}
theorem Blk.lt (h : Blk w g t cs) : g < w.heap.size := blk_lt h
theorem Blk.cell (h : Blk w g t cs) (i : Nat) : w.cell? ⟨g, i, none⟩ = cs[i]? := cell_of_row w g i cs t (0, 0) h
theorem Blk.frozen (h : Blk w g t cs) (i : Nat) : w.frozen? ⟨g, i, none⟩ = false := by
  unfold Blk at h
  simp [World.frozen?, h]
theorem Blk.new (w : World) (t : TypeId) (cs : Array Value) : Blk (w.alloc (.cells cs t)) w.heap.size t cs := heap_alloc_new w _
theorem Blk.drewN (h : Blk w g t cs) (n : Nat) : Blk (w.drewN n) g t cs := h
theorem Blk.alloc (h : Blk w g t cs) (o : Obj) : Blk (w.alloc o) g t cs := (Below.heap_alloc w o g h.lt).trans h
theorem Blk.set_ (h : Blk w g t cs) (i : Nat) (u : Value) : Blk (w.setCell ⟨g, i, none⟩ u) g t (cs.setIfInBounds i u) := by
  unfold Blk at h ⊢
  simp [World.setCell, Array.getElem?_modify, h]
theorem Blk.far (h : Blk w g t cs) {p : Addr} (hp : g ≠ p.block) (u : Value) : Blk (w.setCell p u) g t cs := (Below.heap_setCell w p u g hp).trans h
theorem Blk.below (h : Blk w g t cs) (hb : Below w.heap.size w w') : Blk w' g t cs := (hb.block g h.lt).trans h
theorem Blk.save {F : Nat → Prop} (h : Blk w g t cs) (hb : Save F w w') (hF : ¬ F g) : Blk w' g t cs := (hb.block g h.lt hF).trans h
theorem Blk.grown {row : Option Nat} (h : Blk w g t cs) (hb : w.grownBy w' row) (hg : some g ≠ row) : Blk w' g t cs := (hb.block g h.lt hg).trans h
theorem Blk.ne_ {g' : Nat} {t' : TypeId} {cs' : Array Value} (h : Blk w g t cs) (h' : Blk w g' t' cs') (hne : t ≠ t') : g ≠ g' := by
  rintro rfl
  unfold Blk at h h'
  rw [h] at h'
  injection h' with h'
  injection h' with _ ht
  exact hne ht
theorem own_blk_ne {base : Nat} {e : TypeId} {size n : Nat} {v : Value} {xs : List Value} (h : w.ownsRow base e size v n xs) (hg : Blk w g t cs) (hne : e ≠ t) : some g ≠ v.ownBlock := by
  rcases h.2 with ⟨rfl, _⟩ | ⟨g', cap, cur, rfl, _, hh, _⟩
  · simp [Value.ownBlock]
  · intro he
    have : g' = g := by simpa [Value.ownBlock] using he.symm
    subst this
    exact Blk.ne_ (t := e) hh hg hne rfl
theorem own_same {base : Nat} {e : TypeId} {size n : Nat} {v : Value} {xs : List Value} (h : w.ownsRow base e size v n xs) (hs : ∀ k, v.ownBlock = some k → w'.heap[k]? = w.heap[k]?) : w'.ownsRow base e size v n xs := by
  refine ⟨h.1, ?_⟩
  rcases h.2 with h0 | ⟨g', cap, cur, rfl, hb, hh, hr⟩
  · exact .inl h0
  · exact .inr ⟨g', cap, cur, rfl, hb, (hs g' rfl).trans hh, hr⟩
theorem own_base {base : Nat} {e : TypeId} {size n : Nat} {v : Value} {xs : List Value} (h : w.ownsRow base e size v n xs) : w.ownsRow 0 e size v n xs := by
  refine ⟨h.1, ?_⟩
  rcases h.2 with h0 | ⟨g', cap, cur, rfl, hb, hh, hr⟩
  · exact .inl h0
  · exact .inr ⟨g', cap, cur, rfl, Nat.zero_le _, hh, hr⟩
end

/-! ### a disk in memory -/
def looseC (l : List (Nat × ByteArray)) : List Value := l.flatMap fun x => [.int .i64 (x.1 : Int), .string x.2]
theorem looseC_length (l : List (Nat × ByteArray)) : (looseC l).length = l.length * 2 := by
  induction l with
  | nil => rfl
  | cons x l ih => show (_ :: _ :: looseC l).length = _; simp only [List.length_cons, ih]; omega
theorem looseC_append (l m : List (Nat × ByteArray)) : looseC (l ++ m) = looseC l ++ looseC m := by unfold looseC; rw [List.flatMap_append]
theorem looseC_get : ∀ (l : List (Nat × ByteArray)) (i : Nat) (x : Nat × ByteArray), l[i]? = some x → (looseC l)[i * 2]? = some (.int .i64 (x.1 : Int)) ∧ (looseC l)[i * 2 + 1]? = some (.string x.2)
  | [], i, x, h => by simp at h
  | y :: l, 0, x, h => by simp at h; subst h; exact ⟨rfl, rfl⟩
  | y :: l, i + 1, x, h => by
    have := looseC_get l i x (by simpa using h)
    show (_ :: _ :: looseC l)[(i + 1) * 2]? = _ ∧ (_ :: _ :: looseC l)[(i + 1) * 2 + 1]? = _
    rw [show (i + 1) * 2 = i * 2 + 1 + 1 by omega]
    simpa using this
structure DskAt (w : World) (p g : Nat) (lv : Value) (D : DS) : Prop where
  own : Blk w p 74 #[.slice (some ⟨g, 0, none⟩) D.sure.length D.sure.length, lv, .int .i64 D.left, .int .i64 (D.done : Int), .bool D.dead]
  row : Blk w g 9 (D.sure.map Value.string).toArray
  loose : w.ownsRow 0 96 2 lv D.loose.length (looseC D.loose)
  ok : D.ok
def Dsk (w : World) (F : Nat → Prop) (p : Nat) (D : DS) : Prop := ∃ g lv, DskAt w p g lv D ∧ F p ∧ F g ∧ ∀ k, lv.ownBlock = some k → F k
section
variable {w w' : World} {p g : Nat} {lv : Value} {D : DS} {F G : Nat → Prop}
theorem DskAt.ne (h : DskAt w p g lv D) : p ≠ g ∧ some p ≠ lv.ownBlock ∧ some g ≠ lv.ownBlock :=
  ⟨h.own.ne_ h.row (by decide), own_blk_ne h.loose h.own (by decide), own_blk_ne h.loose h.row (by decide)⟩
theorem DskAt.same (h : DskAt w p g lv D) (hs : ∀ k, k = p ∨ k = g ∨ lv.ownBlock = some k → w'.heap[k]? = w.heap[k]?) : DskAt w' p g lv D :=
  ⟨(hs p (.inl rfl)).trans h.own, (hs g (.inr (.inl rfl))).trans h.row, own_same h.loose fun k hk => hs k (.inr (.inr hk)), h.ok⟩
theorem Dsk.ok (h : Dsk w F p D) : D.ok := by obtain ⟨_, _, h, _⟩ := h; exact h.ok
theorem Dsk.mono (h : Dsk w F p D) (hF : ∀ k, k < w.heap.size → F k → G k) : Dsk w G p D := by
  obtain ⟨g, lv, h, h1, h2, h3⟩ := h
  exact ⟨g, lv, h, hF _ h.own.lt h1, hF _ h.row.lt h2, fun k hk => hF _ (h.loose.lt k hk).2 (h3 k hk)⟩
theorem Dsk.save (h : Dsk w F p D) (hs : Save G w w') (hd : ∀ k, F k → ¬ G k) : Dsk w' F p D := by
  obtain ⟨g, lv, h, h1, h2, h3⟩ := h
  refine ⟨g, lv, h.same fun k hk => ?_, h1, h2, h3⟩
  rcases hk with rfl | rfl | hk
  · exact hs.block _ h.own.lt (hd _ h1)
  · exact hs.block _ h.row.lt (hd _ h2)
  · exact hs.block _ (h.loose.lt k hk).2 (hd _ (h3 k hk))
theorem Dsk.below (h : Dsk w F p D) (hb : Below w.heap.size w w') : Dsk w' F p D := h.save (Save.of_below (F := fun _ => False) hb) (fun _ _ h => h)
theorem Dsk.drewN (h : Dsk w F p D) (n : Nat) : Dsk (w.drewN n) F p D := h.below (below_drewN w n)
/-- What a method of the disk leaves: the disk D', whatever it has beside new, and all else. -/
def DskPost (F : Nat → Prop) (p : Nat) (w : World) (D' : DS) (w' : World) : Prop := Save F w w' ∧ Dsk w' (Plus F w w') p D'
end
end Go.Proofs.YtjincmagbbpooaaGreatDoor
