import Derived.Test.YtghebjgkdfbmeaaGreatDoorCK
set_option linter.unusedVariables false
set_option linter.unusedSimpArgs false
namespace Go.Proofs.YtghebjgkdfbmeaaGreatDoor
open Go.RowKit

/-! ### terms -/
inductive Tm where
  | nil
  | node (k n : Int) (s : ByteArray) (a b c : Tm)
def Blk (w : World) (g : Nat) (t : TypeId) (cs : Array Value) : Prop := w.heap[g]? = some (.cells cs t (0, 0))
section
variable {w w' : World} {g : Nat} {t : TypeId} {cs : Array Value}
theorem Blk.lt (h : Blk w g t cs) : g < w.heap.size := blk_lt h
theorem Blk.cell (h : Blk w g t cs) (i : Nat) : w.cell? ⟨g, i, none⟩ = cs[i]? := cell_of_row w g i cs t (0, 0) h
theorem Blk.frozen (h : Blk w g t cs) (i : Nat) : w.frozen? ⟨g, i, none⟩ = false := by
  unfold Blk at h
  simp [World.frozen?, h]
theorem Blk.new (w : World) (t : TypeId) (cs : Array Value) : Blk (w.alloc (.cells cs t)) w.heap.size t cs := heap_alloc_new w _
theorem Blk.alloc (h : Blk w g t cs) (o : Obj) : Blk (w.alloc o) g t cs := (Below.heap_alloc w o g h.lt).trans h
theorem Blk.set_ (h : Blk w g t cs) (i : Nat) (u : Value) : Blk (w.setCell ⟨g, i, none⟩ u) g t (cs.setIfInBounds i u) := by
  unfold Blk at h ⊢
  simp [World.setCell, Array.getElem?_modify, h]
theorem Blk.far (h : Blk w g t cs) {p : Addr} (hp : g ≠ p.block) (u : Value) : Blk (w.setCell p u) g t cs := (Below.heap_setCell w p u g hp).trans h
theorem Blk.below (h : Blk w g t cs) (hb : Below w.heap.size w w') : Blk w' g t cs := (hb.block g h.lt).trans h
theorem Blk.bel (h : Blk w g t cs) {B : Nat} (hb : Below B w w') (hg : g < B) : Blk w' g t cs := (hb.block g hg).trans h
end
def tmCells (k n : Int) (s : ByteArray) (pa pb pc : Option Addr) : Array Value := #[.int .i64 k, .int .i64 n, .string s, .pointer pa, .pointer pb, .pointer pc]
/-- A term as it lies, in blocks from one on. -/
def PIn (B : Nat) (w : World) : Tm → Option Addr → Prop
  | .nil, p => p = none
  | .node k n s a b c, p => ∃ g pa pb pc, p = some ⟨g, 0, none⟩ ∧ B ≤ g ∧ Blk w g 46 (tmCells k n s pa pb pc) ∧ PIn B w a pa ∧ PIn B w b pb ∧ PIn B w c pc
theorem PIn.same {B : Nat} {w w' : World} (hk : ∀ g, B ≤ g → g < w.heap.size → w'.heap[g]? = w.heap[g]?) : ∀ {t : Tm} {p : Option Addr}, PIn B w t p → PIn B w' t p
  | .nil, _, h => h
  | .node _ _ _ _ _ _, _, ⟨g, pa, pb, pc, e, hB, hb, h1, h2, h3⟩ => ⟨g, pa, pb, pc, e, hB, (hk g hB hb.lt).trans hb, h1.same hk, h2.same hk, h3.same hk⟩
theorem PIn.below {B : Nat} {w w' : World} {t : Tm} {p : Option Addr} (h : PIn B w t p) (hb : Below w.heap.size w w') : PIn B w' t p := h.same fun g _ hg => hb.block g hg
theorem PIn.mono {B B' : Nat} (hB : B' ≤ B) {w : World} : ∀ {t : Tm} {p : Option Addr}, PIn B w t p → PIn B' w t p
  | .nil, _, h => h
  | .node _ _ _ _ _ _, _, ⟨g, pa, pb, pc, e, h0, hb, h1, h2, h3⟩ => ⟨g, pa, pb, pc, e, Nat.le_trans hB h0, hb, h1.mono hB, h2.mono hB, h3.mono hB⟩
theorem PIn.set {B : Nat} {w : World} {t : Tm} {p : Option Addr} (h : PIn B w t p) {a : Addr} (ha : a.block < B) (u : Value) : PIn B (w.setCell a u) t p :=
  h.same fun g hg _ => Below.heap_setCell w a u g (by omega)
theorem PIn.drewN {B : Nat} {w : World} {t : Tm} {p : Option Addr} (h : PIn B w t p) (n : Nat) : PIn B (w.drewN n) t p := PIn.same (w := w) (w' := w.drewN n) (fun _ _ _ => rfl) h
theorem PIn.lt {B : Nat} {w : World} {k n : Int} {s : ByteArray} {a b c : Tm} {p : Option Addr} (h : PIn B w (.node k n s a b c) p) : ∃ g, p = some ⟨g, 0, none⟩ ∧ B ≤ g ∧ g < w.heap.size := by
  obtain ⟨g, pa, pb, pc, e, hB, hb, -⟩ := h
  exact ⟨g, e, hB, hb.lt⟩
theorem PIn.nil_iff {B : Nat} {w : World} {t : Tm} {p : Option Addr} (h : PIn B w t p) : p = none ↔ t = .nil := by
  cases t with
  | nil => exact ⟨fun _ => rfl, fun _ => h⟩
  | node k n s a b c =>
    obtain ⟨g, pa, pb, pc, e, -⟩ := h
    exact ⟨fun h => (by rw [h] at e; cases e), fun h => (by cases h)⟩

/-! ### what a node bears itself -/
def leafB (k n : Int) (s : ByteArray) : Bool :=
  if k = 1 then eqL s [] && decide (0 ≤ n) && decide (n ≤ 9)
  else if k = 2 then eqL s [] && decide (0 ≤ n) && decide (n ≤ 100000)
  else if k = 3 then nameS s && !keyS s && decide (0 ≤ n) && decide (n ≤ 9) && ((recS s).2 || n == 0)
  else eqL s [] && n == 0 && decide (4 ≤ k) && decide (k ≤ 7)

set_option maxHeartbeats 16000000 in
set_option maxRecDepth 100000 in
theorem leaf_any (g : Nat) (k n : Int) (s : ByteArray) (pa pb pc : Option Addr) (w : World) (h : Blk w g 46 (tmCells k n s pa pb pc)) (hs : s.size ≤ 9223372036854775807) :
    Calls Tryz.prog 31 #[.pointer (some ⟨g, 0, none⟩)] w (fun e w' => e = .returned (.bool (leafB k n s)) ∧ w = w') := by
  have c0 := h.cell 0
  have c1 := h.cell 1
  have c2 := h.cell 2
  simp [tmCells] at c0 c1 c2
  have cr := Lib.hid (rRec_any s hs w)
  unfold RecPost at cr
  have cn := Lib.hid (IsName_any s w)
  have ck := Lib.hid (Keyword_any s w)
  clear h hs
  unfold leafB
  obtain ⟨r1, hr1⟩ : ∃ r, (recS s).1 = r := ⟨_, rfl⟩
  obtain ⟨r2, hr2⟩ : ∃ r, (recS s).2 = r := ⟨_, rfl⟩
  rw [hr1, hr2] at cr
  rw [hr2]
  clear hr1 hr2
  obtain ⟨bs, hbs⟩ : ∃ b, eqL s [] = b := ⟨_, rfl⟩
  rw [hbs]
  have hbs' : (s.toList == []) = bs := hbs
  clear hbs
  by_cases k1 : k = 1
  · subst k1
    rw [if_pos rfl]
    obtain ⟨d1, h1⟩ : ∃ b, decide ((0 : Int) ≤ n) = b := ⟨_, rfl⟩
    obtain ⟨d2, h2⟩ : ∃ b, decide (n ≤ 9) = b := ⟨_, rfl⟩
    rw [h1, h2]
    cases bs <;> (try cases d1) <;> (try cases d2)
    all_goals
      go_enter Tryz.func31, Tryz.ntmps31
      go_wp2_with ((go_at_call 47; (with_reducible refine cr.out.mono ?_); rintro e w1 ⟨rfl, rfl⟩))
      go_ret
      exact ⟨rfl, rfl⟩
  have k1' : (k == 1) = false := beq_eq_false_iff_ne.2 k1
  rw [if_neg k1]
  by_cases k2 : k = 2
  · subst k2
    rw [if_pos rfl]
    obtain ⟨d1, h1⟩ : ∃ b, decide ((0 : Int) ≤ n) = b := ⟨_, rfl⟩
    obtain ⟨d2, h2⟩ : ∃ b, decide (n ≤ 100000) = b := ⟨_, rfl⟩
    rw [h1, h2]
    clear k1 k1'
    cases bs <;> (try cases d1) <;> (try cases d2)
    all_goals
      go_enter Tryz.func31, Tryz.ntmps31
      go_wp2_with ((go_at_call 47; (with_reducible refine cr.out.mono ?_); rintro e w1 ⟨rfl, rfl⟩))
      go_ret
      exact ⟨rfl, rfl⟩
  have k2' : (k == 2) = false := beq_eq_false_iff_ne.2 k2
  rw [if_neg k2]
  by_cases k3 : k = 3
  · subst k3
    rw [if_pos rfl]
    obtain ⟨d1, h1⟩ : ∃ b, decide ((0 : Int) ≤ n) = b := ⟨_, rfl⟩
    obtain ⟨d2, h2⟩ : ∃ b, decide (n ≤ 9) = b := ⟨_, rfl⟩
    obtain ⟨d3, h3⟩ : ∃ b, (n == 0) = b := ⟨_, rfl⟩
    obtain ⟨d4, h4⟩ : ∃ b, nameS s = b := ⟨_, rfl⟩
    obtain ⟨d5, h5⟩ : ∃ b, keyS s = b := ⟨_, rfl⟩
    rw [h4] at cn
    rw [h5] at ck
    rw [h1, h2, h3, h4, h5]
    clear k1 k1' k2 k2' h4 h5 hbs'
    cases d4 <;> (try cases d5) <;> (try cases d1) <;> (try cases d2) <;> (try cases r2) <;> (try cases d3)
    all_goals
      go_enter Tryz.func31, Tryz.ntmps31
      go_wp2_with (first
        | (go_at_call 47; (with_reducible refine cr.out.mono ?_); rintro e w1 ⟨rfl, rfl⟩)
        | (go_at_call 48; (with_reducible refine cn.out.mono ?_); rintro e w1 ⟨rfl, rfl⟩)
        | (go_at_call 49; (with_reducible refine ck.out.mono ?_); rintro e w1 ⟨rfl, rfl⟩))
      go_ret
      exact ⟨rfl, rfl⟩
  have k3' : (k == 3) = false := beq_eq_false_iff_ne.2 k3
  rw [if_neg k3]
  obtain ⟨d1, h1⟩ : ∃ b, (n == 0) = b := ⟨_, rfl⟩
  obtain ⟨d2, h2⟩ : ∃ b, decide (4 ≤ k) = b := ⟨_, rfl⟩
  obtain ⟨d3, h3⟩ : ∃ b, decide (k ≤ 7) = b := ⟨_, rfl⟩
  rw [h1, h2, h3]
  clear k1 k2 k3
  cases bs <;> (try cases d1) <;> (try cases d2) <;> (try cases d3)
  all_goals
    go_enter Tryz.func31, Tryz.ntmps31
    go_wp2_with ((go_at_call 47; (with_reducible refine cr.out.mono ?_); rintro e w1 ⟨rfl, rfl⟩))
    go_ret
    exact ⟨rfl, rfl⟩

/-! ### how many parts a kind has -/
def partsN (k : Int) : Int := if k = 4 ∨ k = 5 ∨ k = 6 then 2 else if k = 7 then 3 else 0
set_option maxHeartbeats 4000000 in
theorem rparts_any (k : Int) (w : World) : Calls Tryz.prog 32 #[.int .i64 k] w (fun e w' => e = .returned (.int .i64 (partsN k)) ∧ w = w') := by
  unfold partsN
  by_cases k4 : k = 4
  · subst k4
    rw [if_pos (.inl rfl)]
    go_enter Tryz.func32, Tryz.ntmps32
    go_wp2
    go_ret
    exact ⟨rfl, rfl⟩
  by_cases k5 : k = 5
  · subst k5
    rw [if_pos (.inr (.inl rfl))]
    go_enter Tryz.func32, Tryz.ntmps32
    go_wp2
    go_ret
    exact ⟨rfl, rfl⟩
  by_cases k6 : k = 6
  · subst k6
    rw [if_pos (.inr (.inr rfl))]
    go_enter Tryz.func32, Tryz.ntmps32
    go_wp2
    go_ret
    exact ⟨rfl, rfl⟩
  rw [if_neg (fun h => h.elim k4 (fun h => h.elim k5 k6))]
  have k4' : (k == 4) = false := beq_eq_false_iff_ne.2 k4
  have k5' : (k == 5) = false := beq_eq_false_iff_ne.2 k5
  have k6' : (k == 6) = false := beq_eq_false_iff_ne.2 k6
  by_cases k7 : k = 7
  · subst k7
    rw [if_pos rfl]
    clear k4 k5 k6
    go_enter Tryz.func32, Tryz.ntmps32
    go_wp2
    go_ret
    exact ⟨rfl, rfl⟩
  rw [if_neg k7]
  have k7' : (k == 7) = false := beq_eq_false_iff_ne.2 k7
  clear k4 k5 k6 k7
  go_enter Tryz.func32, Tryz.ntmps32
  go_wp2
  go_ret
  exact ⟨rfl, rfl⟩
end Go.Proofs.YtghebjgkdfbmeaaGreatDoor
