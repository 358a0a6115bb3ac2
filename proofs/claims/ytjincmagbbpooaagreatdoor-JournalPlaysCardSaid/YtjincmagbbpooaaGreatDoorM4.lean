import Derived.Test.YtjincmagbbpooaaGreatDoorM3
import Derived.Test.YtjincmagbbpooaaGreatDoorWLast
import Derived.Maps.AppendAt
import Derived.OwnWalk

section
set_option linter.unusedVariables false
set_option linter.unusedSimpArgs false
namespace Go.Proofs.YtjincmagbbpooaaGreatDoor
open Go.RowKit

/-! ### rows that are copied (the kit's words to copy) -/
theorem block_of_add (a : Addr) (n : Nat) : (a.add n).block = a.block := by unfold Addr.add; split <;> rfl
theorem add_of_add (a : Addr) (i j : Nat) : (a.add i).add j = a.add (i + j) := by
  unfold Addr.add
  by_cases hi : i = 0 <;> by_cases hj : j = 0 <;> simp [hi, hj, Nat.add_assoc]

def Reads (w : World) (B size : Nat) (A : Option Addr) (n : Nat) (xs : List Value) : Prop :=
  xs.length = n * size ∧ (0 < n → ∃ ad, A = some ad ∧ ad.block < B ∧ ∀ j u, xs[j]? = some u → w.cell? (ad.add j) = some u)

section
variable {w w' : World} {B B' size n : Nat} {A : Option Addr} {xs : List Value}
theorem Reads.none_ : Reads w B size A 0 [] := ⟨by simp, fun h => absurd h (by omega)⟩
theorem Reads.at_ {k : Nat} (h : Reads w B 1 A n xs) (hk : k < n) : ∃ ad u, A = some ad ∧ ad.block < B ∧ xs[k]? = some u ∧ w.cell? (ad.add k) = some u := by
  obtain ⟨ad, e, hb, hc⟩ := h.2 (by omega)
  have hl : k < xs.length := by have := h.1; omega
  exact ⟨ad, xs[k], e, hb, List.getElem?_eq_getElem hl, hc k _ (List.getElem?_eq_getElem hl)⟩
theorem Reads.keep (h : Reads w B size A n xs) (hk : ∀ p : Addr, p.block < B → w'.cell? p = w.cell? p) : Reads w' B size A n xs :=
  ⟨h.1, fun hn => by
    obtain ⟨ad, e, hb, hc⟩ := h.2 hn
    exact ⟨ad, e, hb, fun j u hu => (hk _ (by rw [block_of_add]; exact hb)).trans (hc j u hu)⟩⟩
theorem Reads.more (h : Reads w B size A n xs) (hB : B ≤ B') : Reads w B' size A n xs :=
  ⟨h.1, fun hn => by
    obtain ⟨ad, e, hb, hc⟩ := h.2 hn
    exact ⟨ad, e, by omega, hc⟩⟩
theorem Reads.below (h : Reads w B size A n xs) (hb : Below B w w') : Reads w' B size A n xs := h.keep fun _ hp => hb.cell hp
theorem Reads.drew (h : Reads w B size A n xs) : Reads w.drew B size A n xs := h
theorem Reads.drewN (h : Reads w B size A n xs) (k : Nat) : Reads (w.drewN k) B size A n xs := h
theorem Reads.alloc (h : Reads w B size A n xs) (hB : B ≤ w.heap.size) (o : Obj) : Reads (w.alloc o) B size A n xs := h.keep fun p hp => World.cell?_alloc_lt w o p (by omega)
theorem Reads.setCell (h : Reads w B size A n xs) {p : Addr} (hB : B ≤ p.block) (u : Value) : Reads (w.setCell p u) B size A n xs :=
  h.keep fun q hq => World.cell?_setCell_other w p q u (fun e => by subst e; omega)
theorem Reads.grown (h : Reads w B size A n xs) {row : Option Nat} (hg : w.grownBy w' row) (hB : B ≤ w.heap.size) (hr : ∀ g, row = some g → B ≤ g) : Reads w' B size A n xs :=
  h.keep fun p hp => World.cell?_of_block (hg.block p.block (by omega) (fun e => by have := hr _ e.symm; omega))
theorem Reads.cut (h : Reads w B size A n xs) {k cap : Nat} (hk : k ≤ n) (hc : n ≤ cap) :
    Reads w B size (if cap = k then A else A.map (·.add (k * size))) (n - k) (xs.drop (k * size)) := by
  refine ⟨by rw [List.length_drop, h.1, Nat.sub_mul], fun hn => ?_⟩
  obtain ⟨ad, rfl, hb, hcell⟩ := h.2 (by omega)
  rw [if_neg (by omega)]
  refine ⟨ad.add (k * size), rfl, by rw [block_of_add]; exact hb, fun j u hu => ?_⟩
  rw [add_of_add]
  exact hcell _ u (by rw [← hu, List.getElem?_drop])
theorem Reads.of_own {base : Nat} {e : TypeId} {c : Nat} (h : w.ownsRow base e size (.slice A n c) n xs) : Reads w w.heap.size size A n xs := by
  refine ⟨h.1, fun hn => ?_⟩
  obtain ⟨g, cap, hv, _, hlt⟩ := h.form hn
  have hA : A = some ⟨g, 0, none⟩ := by injection hv
  subst hA
  exact ⟨_, rfl, hlt, h.cells (g := g) rfl⟩
end
section
variable {P : Program} (w : World)

theorem run_append_of_nil (base : Nat) (t ty e : TypeId) (i : TypeInfo) (size : Nat) (ht : P.underlying t = some (.slice e)) (hi : P.info? e = some i)
    (v : Value) (n : Nat) (xs : List Value) (hown : w.ownsRow base e size v n xs) (c : Nat) : (Builtin.append_ #[t, t] ty #[v, .slice none 0 c]).run P w = .ok v w := by
  rcases hown.2 with ⟨rfl, rfl⟩ | ⟨g, cap, cur, rfl, _, _, hnc, _⟩
  · simp [Builtin.append_, run_underlying ht, sizeOf, typeInfo, hi, Builtin.lenOf, Builtin.firstCells]
  · simp [Builtin.append_, run_underlying ht, sizeOf, typeInfo, hi, Builtin.lenOf, Builtin.firstCells, hnc, storeCells]

theorem run_append_any (base : Nat) (t ty e : TypeId) (i : TypeInfo) (z : Value) (size bytes : Nat) (ht : P.underlying t = some (.slice e)) (hi : P.info? e = some i) (hz : i.zero = some z)
    (hsize : i.size = size) (hby : i.bytes = bytes) (hzs : z.cells.size = size) (hsz : 0 < size)
    (v : Value) (n : Nat) (xs : List Value) (hown : w.ownsRow base e size v n xs)
    (B : Nat) (A : Option Addr) (m c : Nat) (news : List Value) (hr : Reads w B size A m news) (h1 : ∀ u ∈ news, u.oneCell' = true)
    (h63 : n + m ≤ maxLen) (hbytes : (n + m) * bytes ≤ 140737488355328) (hbase : base ≤ w.heap.size) :
    ∃ v' w', (Builtin.append_ #[t, t] ty #[v, .slice A m c]).run P w = .ok v' w' ∧ w'.ownsRow base e size v' (n + m) (xs ++ news) ∧ w.grownBy w' v.ownBlock ∧
      (v'.ownBlock = v.ownBlock ∨ v'.ownBlock = some w.heap.size) := by
  rcases A with _ | ad
  · have hm : m = 0 := by
      rcases Nat.eq_zero_or_pos m with h0 | h0
      · exact h0
      · obtain ⟨ad, h, _⟩ := hr.2 h0
        cases h
    subst hm
    have hn : news = [] := List.eq_nil_of_length_eq_zero (by simpa using hr.1)
    subst hn
    exact ⟨v, w, run_append_of_nil w base t ty e i size ht hi v n xs hown c, by simpa using hown, World.grownBy.refl w _, .inl rfl⟩
  · have hcells : ∀ j u, news[j]? = some u → w.cell? (ad.add j) = some u := by
      intro j u hu
      rcases Nat.eq_zero_or_pos m with h0 | h0
      · subst h0
        have hn : news = [] := List.eq_nil_of_length_eq_zero (by simpa using hr.1)
        subst hn
        simp at hu
      · obtain ⟨ad', h, _, hc⟩ := hr.2 h0
        injection h with h
        subst h
        exact hc j u hu
    obtain ⟨v', w', hrun, h2, h3, _, h5⟩ := run_append_own_at (P := P) w base t ty e i z size bytes ht hi hz hsize hby hzs hsz v n xs hown ad m c news hr.1 hcells h1 h63 hbytes hbase
    exact ⟨v', w', hrun, h2, h3, h5⟩

theorem wp_append_any {o : Oper} {a : Act} {K : Act → World → Prop} {Q : Exit → Act → World → Prop} (s x : Operand) (t : TypeId)
    (ho : o.op = .call { callee := .builtin .append, args := #[s, x], argTypes := #[t, t] })
    (base : Nat) (e : TypeId) (i : TypeInfo) (z : Value) (size bytes : Nat) (ht : P.underlying t = some (.slice e)) (hi : P.info? e = some i) (hz : i.zero = some z)
    (hsize : i.size = size) (hby : i.bytes = bytes) (hzs : z.cells.size = size) (hsz : 0 < size)
    (v : Value) (n : Nat) (xs : List Value) (hs : a.eval s = v) (hown : w.ownsRow base e size v n xs)
    (B : Nat) (A : Option Addr) (m c : Nat) (news : List Value) (hx : a.eval x = .slice A m c) (hr : Reads w B size A m news) (h1 : ∀ u ∈ news, u.oneCell' = true)
    (h63 : n + m ≤ maxLen) (hbytes : (n + m) * bytes ≤ 140737488355328) (hbase : base ≤ w.heap.size)
    (h : ∀ v' w', w'.ownsRow base e size v' (n + m) (xs ++ news) → w.grownBy w' v.ownBlock → (v'.ownBlock = v.ownBlock ∨ v'.ownBlock = some w.heap.size) → K (a.put o.dst v') w') : o.wp P a w K Q := by
  obtain ⟨v', w', hrun, h2, h3, h4⟩ := run_append_any (P := P) w base t o.type e i z size bytes ht hi hz hsize hby hzs hsz v n xs hown B A m c news hr h1 h63 hbytes hbase
  unfold Oper.wp execOp
  simp only [ho, resolve, invoke, builtin, Sem.run_bind, Sem.run_pure, Result.andThen_ok, List.map_toArray, List.map_cons, List.map_nil, hs, hx, hrun]
  exact h v' w' h2 h3 h4

theorem wpList_append_any {ops : Array Oper} {rest : List Oper} {o : Oper} {a : Act} {Q : Exit → Act → World → Prop} (hgd : o.guard = none) (s x : Operand) (t : TypeId)
    (ho : o.op = .call { callee := .builtin .append, args := #[s, x], argTypes := #[t, t] })
    (base : Nat) (e : TypeId) (i : TypeInfo) (z : Value) (size bytes : Nat) (ht : P.underlying t = some (.slice e)) (hi : P.info? e = some i) (hz : i.zero = some z)
    (hsize : i.size = size) (hby : i.bytes = bytes) (hzs : z.cells.size = size) (hsz : 0 < size)
    (v : Value) (n : Nat) (xs : List Value) (hs : a.eval s = v) (hown : w.ownsRow base e size v n xs)
    (B : Nat) (A : Option Addr) (m c : Nat) (news : List Value) (hx : a.eval x = .slice A m c) (hr : Reads w B size A m news) (h1 : ∀ u ∈ news, u.oneCell' = true)
    (h63 : n + m ≤ maxLen) (hbytes : (n + m) * bytes ≤ 140737488355328) (hbase : base ≤ w.heap.size)
    (h : ∀ v' w', w'.ownsRow base e size v' (n + m) (xs ++ news) → w.grownBy w' v.ownBlock → (v'.ownBlock = v.ownBlock ∨ v'.ownBlock = some w.heap.size) → wpList P ops Q rest (a.put o.dst v') w') : wpList P ops Q (o :: rest) a w :=
  wpList_plain hgd fun _ hK => wp_append_any w s x t ho base e i z size bytes ht hi hz hsize hby hzs hsz v n xs hs hown B A m c news hx hr h1 h63 hbytes hbase fun v' w' h2 h3 h4 => hK _ _ (h v' w' h2 h3 h4)

theorem step_append_any {ops : Array Oper} {o : Oper} {a : Act} {K : Act → World → Prop} {Q : Exit → Act → World → Prop} {E : Prop} (hgd : o.guard = none) (s x : Operand) (t : TypeId)
    (ho : o.op = .call { callee := .builtin .append, args := #[s, x], argTypes := #[t, t] })
    (base : Nat) (e : TypeId) (i : TypeInfo) (z : Value) (size bytes : Nat) (ht : P.underlying t = some (.slice e)) (hi : P.info? e = some i) (hz : i.zero = some z)
    (hsize : i.size = size) (hby : i.bytes = bytes) (hzs : z.cells.size = size) (hsz : 0 < size)
    (v : Value) (n : Nat) (xs : List Value) (hs : a.eval s = v) (hown : w.ownsRow base e size v n xs)
    (B : Nat) (A : Option Addr) (m c : Nat) (news : List Value) (hx : a.eval x = .slice A m c) (hr : Reads w B size A m news) (h1 : ∀ u ∈ news, u.oneCell' = true)
    (h63 : n + m ≤ maxLen) (hbytes : (n + m) * bytes ≤ 140737488355328) (hbase : base ≤ w.heap.size)
    (h : ∀ v' w', w'.ownsRow base e size v' (n + m) (xs ++ news) → w.grownBy w' v.ownBlock → (v'.ownBlock = v.ownBlock ∨ v'.ownBlock = some w.heap.size) → K (a.put o.dst v') w') :
    if Region.wanted o (yielded ops a.tmps) = true then Oper.wp P o a w K Q else E := by
  have hw : Region.wanted o (yielded ops a.tmps) = true := by simp [Region.wanted, hgd]
  rw [if_pos hw]
  exact wp_append_any w s x t ho base e i z size bytes ht hi hz hsize hby hzs hsz v n xs hs hown B A m c news hx hr h1 h63 hbytes hbase h
end

/-! ### the document's disk in memory -/
theorem Tryz.infoS1 : (Tryz.prog.info? 9).map (fun i => (i.zero, i.size, i.bytes)) = some (some (.string ⟨#[]⟩), 1, 16) := by kernel_rfl
theorem Tryz.infoI1 : (Tryz.prog.info? 3).map (fun i => (i.zero, i.size, i.bytes)) = some (some (.int .i64 0), 1, 8) := by kernel_rfl
def strC (l : List ByteArray) : List Value := l.map .string
def atsC (l : List (Nat × ByteArray)) : List Value := l.map fun x => .int .i64 (x.1 : Int)
def bsC (l : List (Nat × ByteArray)) : List Value := l.map fun x => .string x.2
theorem one_strC (l : List ByteArray) : ∀ u ∈ strC l, u.oneCell' = true := fun u hu => by obtain ⟨x, _, rfl⟩ := List.mem_map.1 hu; rfl
theorem one_atsC (l : List (Nat × ByteArray)) : ∀ u ∈ atsC l, u.oneCell' = true := fun u hu => by obtain ⟨x, _, rfl⟩ := List.mem_map.1 hu; rfl
theorem one_bsC (l : List (Nat × ByteArray)) : ∀ u ∈ bsC l, u.oneCell' = true := fun u hu => by obtain ⟨x, _, rfl⟩ := List.mem_map.1 hu; rfl
structure RefAt (w : World) (p : Nat) (sv av bv : Value) (D : DS) : Prop where
  own : Blk w p 66 #[sv, av, bv, .int .i64 (D.done : Int), .int .i64 D.left, .bool D.dead]
  s : w.ownsRow 0 9 1 sv D.sure.length (strC D.sure)
  a : w.ownsRow 0 3 1 av D.loose.length (atsC D.loose)
  b : w.ownsRow 0 9 1 bv D.loose.length (bsC D.loose)
  ok : D.ok
def RefIn (F : Nat → Prop) (p : Nat) (sv av bv : Value) : Prop := F p ∧ (∀ k, sv.ownBlock = some k → F k) ∧ (∀ k, av.ownBlock = some k → F k) ∧ (∀ k, bv.ownBlock = some k → F k)
def Ref (w : World) (F : Nat → Prop) (p : Nat) (D : DS) : Prop := ∃ sv av bv, RefAt w p sv av bv D ∧ RefIn F p sv av bv
def RefPost (F : Nat → Prop) (p : Nat) (w : World) (D' : DS) (w' : World) : Prop := Save F w w' ∧ Ref w' (Plus F w w') p D'
section
variable {w w' : World} {p : Nat} {sv av bv : Value} {D : DS} {F G : Nat → Prop}
theorem RefAt.same (h : RefAt w p sv av bv D) (hs : ∀ k, k = p ∨ sv.ownBlock = some k ∨ av.ownBlock = some k ∨ bv.ownBlock = some k → w'.heap[k]? = w.heap[k]?) : RefAt w' p sv av bv D :=
  ⟨(hs p (.inl rfl)).trans h.own, own_same h.s fun k hk => hs k (.inr (.inl hk)), own_same h.a fun k hk => hs k (.inr (.inr (.inl hk))), own_same h.b fun k hk => hs k (.inr (.inr (.inr hk))), h.ok⟩
theorem RefAt.lt (h : RefAt w p sv av bv D) {k : Nat} (hk : k = p ∨ sv.ownBlock = some k ∨ av.ownBlock = some k ∨ bv.ownBlock = some k) : k < w.heap.size := by
  rcases hk with rfl | hk | hk | hk
  · exact h.own.lt
  · exact (h.s.lt k hk).2
  · exact (h.a.lt k hk).2
  · exact (h.b.lt k hk).2
theorem RefAt.ne (h : RefAt w p sv av bv D) : some p ≠ sv.ownBlock ∧ some p ≠ av.ownBlock ∧ some p ≠ bv.ownBlock :=
  ⟨own_blk_ne h.s h.own (by decide), own_blk_ne h.a h.own (by decide), own_blk_ne h.b h.own (by decide)⟩
theorem RefAt.below (h : RefAt w p sv av bv D) (hb : Below w.heap.size w w') : RefAt w' p sv av bv D := h.same fun k hk => hb.block _ (h.lt hk)
theorem RefAt.cells (h : RefAt w p sv av bv D) : w.cell? ⟨p, 0, none⟩ = some sv ∧ w.cell? ⟨p, 1, none⟩ = some av ∧ w.cell? ⟨p, 2, none⟩ = some bv ∧ w.cell? ⟨p, 3, none⟩ = some (.int .i64 (D.done : Int)) ∧ w.cell? ⟨p, 4, none⟩ = some (.int .i64 D.left) ∧ w.cell? ⟨p, 5, none⟩ = some (.bool D.dead) ∧ ∀ i, w.frozen? ⟨p, i, none⟩ = false :=
  ⟨h.own.cell 0, h.own.cell 1, h.own.cell 2, h.own.cell 3, h.own.cell 4, h.own.cell 5, h.own.frozen⟩
theorem Ref.ok (h : Ref w F p D) : D.ok := by obtain ⟨_, _, _, h, _⟩ := h; exact h.ok
theorem Ref.mono (h : Ref w F p D) (hF : ∀ k, k < w.heap.size → F k → G k) : Ref w G p D := by
  obtain ⟨sv, av, bv, h, h1, h2, h3, h4⟩ := h
  exact ⟨sv, av, bv, h, hF _ (h.lt (.inl rfl)) h1, fun k hk => hF _ (h.lt (.inr (.inl hk))) (h2 k hk), fun k hk => hF _ (h.lt (.inr (.inr (.inl hk)))) (h3 k hk), fun k hk => hF _ (h.lt (.inr (.inr (.inr hk)))) (h4 k hk)⟩
theorem Ref.save (h : Ref w F p D) (hs : Save G w w') (hd : ∀ k, F k → ¬ G k) : Ref w' F p D := by
  obtain ⟨sv, av, bv, h, h1, h2, h3, h4⟩ := h
  refine ⟨sv, av, bv, h.same fun k hk => hs.block _ (h.lt hk) (hd _ ?_), h1, h2, h3, h4⟩
  rcases hk with rfl | hk | hk | hk
  · exact h1
  · exact h2 k hk
  · exact h3 k hk
  · exact h4 k hk
theorem Ref.below (h : Ref w F p D) (hb : Below w.heap.size w w') : Ref w' F p D := h.save (Save.of_below (F := fun _ => False) hb) (fun _ _ h => h)
end

set_option maxHeartbeats 4000000 in
set_option maxRecDepth 100000 in
theorem rCut_any (w : World) (F : Nat → Prop) (p : Nat) (D : DS) (k : Int) (hk : k ≤ 9223372036854775807) (h : Ref w F p D) :
    Calls Tryz.prog 32 #[.pointer (some ⟨p, 0, none⟩), .int .i64 k] w fun e w' => e = .returned (.tuple #[]) ∧ RefPost F p w (D.cut k) w' := by
  obtain ⟨sv, av, bv, hd, hf⟩ := h
  obtain ⟨-, -, -, -, c4, -, fr⟩ := hd.cells
  have fr4 := fr 4
  obtain ⟨m, hm⟩ : ∃ m, m = mxI k (-1) := ⟨_, rfl⟩
  have hm2 : mxI (-1) k = m := by rw [hm]; unfold mxI; split <;> split <;> omega
  have hok := hd.ok.cut k hk
  unfold DS.cut at hok ⊢
  have e1 : Builtin.max_ #[3, 3] 3 #[.int .i64 (-1), .int .i64 k] = (pure (.int .i64 m) : Sem Value) := by rw [max_two, max2_int, hm2]; rfl
  rw [← hm] at hok ⊢
  have HD := Lib.hid hd
  have HF := Lib.hid hf
  have HOK := Lib.hid hok
  clear hd hf fr hm hm2 hok
  go_enter Tryz.func32, Tryz.ntmps32
  go_wp2
  go_end0
  have hn := HD.out.ne
  have hk : ∀ v : Value, some p ≠ v.ownBlock → ∀ q, v.ownBlock = some q → q ≠ p := fun v h q hq e => h (by rw [hq, e])
  refine ⟨rfl, (Save.refl _ _).setCell (.inl HF.out.1) _, sv, av, bv, ⟨HD.out.own.set_ 4 _, own_same HD.out.s fun q hq => Below.heap_setCell _ _ _ _ (hk _ hn.1 q hq), own_same HD.out.a fun q hq => Below.heap_setCell _ _ _ _ (hk _ hn.2.1 q hq), own_same HD.out.b fun q hq => Below.heap_setCell _ _ _ _ (hk _ hn.2.2 q hq), HOK.out⟩, .inl HF.out.1, fun q hq => .inl (HF.out.2.1 q hq), fun q hq => .inl (HF.out.2.2.1 q hq), fun q hq => .inl (HF.out.2.2.2 q hq)⟩
end Go.Proofs.YtjincmagbbpooaaGreatDoor
end

section
set_option linter.unusedVariables false
set_option linter.unusedSimpArgs false
namespace Go.Proofs.YtjincmagbbpooaaGreatDoor
open Go.RowKit

def zerosC (n : Nat) : Array Value := (List.replicate n (.int .u8 0)).toArray
theorem Tryz.infoU8 : (Tryz.prog.info? 5).map (fun i => (i.zero, i.size, i.bytes)) = some (some (.int .u8 0), 1, 1) := by kernel_rfl
theorem make_zeros (w : World) (n : Nat) (h2 : n ≤ 1000000) : (Instr.makeSlice 79 (.int .i64 (n : Int)) (.int .i64 (n : Int))).run Tryz.prog w = .ok (.slice (some ⟨w.heap.size, 0, none⟩) n n) (w.alloc (.cells (zerosC n) 5)) := by
  obtain ⟨i0, hi, hz0, hz1, hz2⟩ := info_parts Tryz.infoU8
  have := run_make (P := Tryz.prog) w 79 5 i0 _ Tryz.underlying79 hi hz0 .i64 .i64 n n (by omega) (by omega) (by rw [hz2]; omega) (by omega)
  rw [this]
  simp only [Int.toNat_natCast, hz1, Nat.mul_one]
  have e : madeCells (Value.int .u8 0).cells n = zerosC n := by
    unfold zerosC
    apply Array.ext'
    simp [madeCells, Value.cells]
    apply List.ext_getElem
    · simp
    · intro i h1 h2
      simp [Nat.mod_one]
  rw [e]
theorem conv_zeros (W : World) (b n : Nat) (h : W.heap[b]? = some (.cells (zerosC n) 5 (0, 0))) : (convert 79 9 (.slice (some ⟨b, 0, none⟩) n n)).run Tryz.prog W = .ok (.string (zeroB n)) W := by
  have := run_convert_bytes_arg W 79 5 Tryz.underlying79 Tryz.underlying5 b 0 n n (List.replicate n 0) (by simp) (fun i hi => by
    rw [Nat.zero_add, cellAt h i]
    simp [zerosC, hi, List.getD_eq_getElem?_getD]) 9 Tryz.underlying9
  have e : strOfNums (List.replicate n 0) = zeroB n := by
    unfold zeroB
    apply ByteArray.ext
    simp [strOfNums]
  rw [this, e]

theorem save_blk {F : Nat → Prop} {w w' : World} {g : Nat} {t : TypeId} {cs : Array Value} (hs : Save F w w') (h : Blk w g t cs) (hF : ¬ F g) : Blk w' g t cs := h.save hs hF
theorem blk_new1 (w : World) (o : Obj) (t : TypeId) (cs : Array Value) : Blk ((w.alloc o).alloc (.cells cs t)) (w.heap.size + 1) t cs := by
  have h := Blk.new (w.alloc o) t cs
  have e : (w.alloc o).heap.size = w.heap.size + 1 := by simp
  rw [e] at h
  exact h

end Go.Proofs.YtjincmagbbpooaaGreatDoor
end
