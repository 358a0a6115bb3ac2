import Derived.Test.YtjincmagbbpooaaGreatDoorM2
set_option linter.unusedVariables false
set_option linter.unusedSimpArgs false
namespace Go.Proofs.YtjincmagbbpooaaGreatDoor
open Go.RowKit
attribute [local go_sem] max2_int max_two min2_int min_two

/-- The cells of a disk's struct. -/
theorem DskAt.cells {w : World} {p g : Nat} {lv : Value} {D : DS} (h : DskAt w p g lv D) :
    w.cell? ⟨p, 0, none⟩ = some (.slice (some ⟨g, 0, none⟩) D.sure.length D.sure.length) ∧ w.cell? ⟨p, 1, none⟩ = some lv ∧ w.cell? ⟨p, 2, none⟩ = some (.int .i64 D.left) ∧
    w.cell? ⟨p, 3, none⟩ = some (.int .i64 (D.done : Int)) ∧ w.cell? ⟨p, 4, none⟩ = some (.bool D.dead) ∧ ∀ i, w.frozen? ⟨p, i, none⟩ = false :=
  ⟨h.own.cell 0, h.own.cell 1, h.own.cell 2, h.own.cell 3, h.own.cell 4, h.own.frozen⟩

set_option maxRecDepth 100000 in
theorem Len_any (w : World) (F : Nat → Prop) (p : Nat) (D : DS) (h : Dsk w F p D) :
    Calls Tryz.prog 36 #[.pointer (some ⟨p, 0, none⟩)] w fun e w' => e = .returned (.int .i64 (D.sure.length : Int)) ∧ w = w' := by
  obtain ⟨g, lv, hd, -⟩ := h
  obtain ⟨c0, -, -, -, -, -⟩ := hd.cells
  clear hd
  go_enter Tryz.func36, Tryz.ntmps36
  go_wp2
  go_ret
  exact ⟨rfl, rfl⟩
set_option maxRecDepth 100000 in
theorem Writes_any (w : World) (F : Nat → Prop) (p : Nat) (D : DS) (h : Dsk w F p D) :
    Calls Tryz.prog 21 #[.pointer (some ⟨p, 0, none⟩)] w fun e w' => e = .returned (.int .i64 (D.done : Int)) ∧ w = w' := by
  obtain ⟨g, lv, hd, -⟩ := h
  obtain ⟨-, -, -, c0, -, -⟩ := hd.cells
  clear hd
  go_enter Tryz.func21, Tryz.ntmps21
  go_wp2
  go_ret
  exact ⟨rfl, rfl⟩
/-- A slice that owns so many has that length. -/
theorem own_len {w : World} {base : Nat} {e : TypeId} {size n : Nat} {v : Value} {xs : List Value} (h : w.ownsRow base e size v n xs) : ∃ a c, v = .slice a n c := by
  rcases h.2 with ⟨rfl, rfl⟩ | ⟨g, cap, cur, rfl, _⟩
  · exact ⟨_, _, rfl⟩
  · exact ⟨_, _, rfl⟩
set_option maxRecDepth 100000 in
theorem may_any (w : World) (F : Nat → Prop) (p : Nat) (D : DS) (i : Int) (h : Dsk w F p D) :
    Calls Tryz.prog 48 #[.pointer (some ⟨p, 0, none⟩), .int .i64 i] w fun e w' => e = .returned (errV (D.may i)) ∧ w = w' := by
  obtain ⟨g, lv, hd, -⟩ := h
  obtain ⟨c0, -, -, -, c4, -⟩ := hd.cells
  clear hd
  obtain ⟨n, hn⟩ : ∃ n, n = D.sure.length := ⟨_, rfl⟩
  obtain ⟨b, hb⟩ : ∃ b, b = D.dead := ⟨_, rfl⟩
  unfold DS.may
  rw [← hn] at c0 ⊢
  rw [← hb] at c4 ⊢
  clear hn hb
  cases b
  · rw [if_neg (by decide)]
    by_cases h1 : i < 0
    · rw [if_pos (.inl h1)]
      have t1 : decide (i < 0) = true := decide_eq_true h1
      go_enter Tryz.func48, Tryz.ntmps48
      go_wp2
      go_ret
      exact ⟨rfl, rfl⟩
    · have t1 : decide (i < 0) = false := decide_eq_false h1
      by_cases h2 : (n : Int) ≤ i
      · rw [if_pos (.inr h2)]
        have t2 : decide ((n : Int) ≤ i) = true := decide_eq_true h2
        go_enter Tryz.func48, Tryz.ntmps48
        go_wp2
        go_ret
        exact ⟨rfl, rfl⟩
      · rw [if_neg (by omega)]
        have t2 : decide ((n : Int) ≤ i) = false := decide_eq_false h2
        go_enter Tryz.func48, Tryz.ntmps48
        go_wp2
        go_ret
        exact ⟨rfl, rfl⟩
  · rw [if_pos rfl]
    go_enter Tryz.func48, Tryz.ntmps48
    go_wp2
    go_ret
    exact ⟨rfl, rfl⟩

/-- One field of the struct set. -/
theorem DskAt.setLeft {w : World} {p g : Nat} {lv : Value} {D : DS} (h : DskAt w p g lv D) (k : Int) (hk : -1 ≤ k ∧ k ≤ 9223372036854775807) : DskAt (w.setCell ⟨p, 2, none⟩ (.int .i64 k)) p g lv { D with left := k } :=
  ⟨h.own.set_ 2 (.int .i64 k), h.row.far h.ne.1.symm _, own_same h.loose fun q hq => Below.heap_setCell _ _ _ _ (fun e => h.ne.2.1 (by rw [hq, e])), ⟨h.ok.one, h.ok.most, h.ok.size, h.ok.lies, h.ok.few, h.ok.done, hk⟩⟩
theorem DskAt.setDead {w : World} {p g : Nat} {lv : Value} {D : DS} (h : DskAt w p g lv D) (b : Bool) : DskAt (w.setCell ⟨p, 4, none⟩ (.bool b)) p g lv { D with dead := b } :=
  ⟨h.own.set_ 4 (.bool b), h.row.far h.ne.1.symm _, own_same h.loose fun q hq => Below.heap_setCell _ _ _ _ (fun e => h.ne.2.1 (by rw [hq, e])), ⟨h.ok.one, h.ok.most, h.ok.size, h.ok.lies, h.ok.few, h.ok.done, h.ok.left⟩⟩
theorem DskAt.setTwo {w : World} {p g : Nat} {lv : Value} {D : DS} (h : DskAt w p g lv D) (k : Int) (d : Nat) (hok : DS.ok { D with left := k, done := d }) : DskAt ((w.setCell ⟨p, 2, none⟩ (.int .i64 k)).setCell ⟨p, 3, none⟩ (.int .i64 (d : Int))) p g lv { D with left := k, done := d } :=
  ⟨(h.own.set_ 2 (.int .i64 k)).set_ 3 (.int .i64 (d : Int)), (h.row.far h.ne.1.symm _).far h.ne.1.symm _, own_same h.loose fun q hq => (Below.heap_setCell _ _ _ _ (fun e => h.ne.2.1 (by rw [hq, e]))).trans (Below.heap_setCell _ _ _ _ (fun e => h.ne.2.1 (by rw [hq, e]))), hok⟩
theorem DskAt.setDone {w : World} {p g : Nat} {lv : Value} {D : DS} (h : DskAt w p g lv D) (d : Nat) (hok : DS.ok { D with done := d }) : DskAt (w.setCell ⟨p, 3, none⟩ (.int .i64 (d : Int))) p g lv { D with done := d } :=
  ⟨h.own.set_ 3 (.int .i64 (d : Int)), h.row.far h.ne.1.symm _, own_same h.loose fun q hq => Below.heap_setCell _ _ _ _ (fun e => h.ne.2.1 (by rw [hq, e])), hok⟩
theorem DskAt.drewN {w : World} {p g : Nat} {lv : Value} {D : DS} (h : DskAt w p g lv D) (n : Nat) : DskAt (w.drewN n) p g lv D := h.same fun _ _ => rfl
theorem DskAt.alloc {w : World} {p g : Nat} {lv : Value} {D : DS} (h : DskAt w p g lv D) (o : Obj) : DskAt (w.alloc o) p g lv D := h.same fun k hk => Below.heap_alloc _ _ _ (by
  rcases hk with rfl | rfl | hk
  · exact h.own.lt
  · exact h.row.lt
  · exact (h.loose.lt k hk).2)
theorem DskAt.below {w w' : World} {p g : Nat} {lv : Value} {D : DS} (h : DskAt w p g lv D) (hb : Below w.heap.size w w') : DskAt w' p g lv D := h.same fun k hk => hb.block _ (by
  rcases hk with rfl | rfl | hk
  · exact h.own.lt
  · exact h.row.lt
  · exact (h.loose.lt k hk).2)
theorem plus_in {F : Nat → Prop} {w w' : World} {k : Nat} (h : F k) : Plus F w w' k := .inl h

set_option maxRecDepth 100000 in
theorem Cut_any (w : World) (F : Nat → Prop) (p : Nat) (D : DS) (k : Int) (hk : k ≤ 9223372036854775807) (h : Dsk w F p D) :
    Calls Tryz.prog 16 #[.pointer (some ⟨p, 0, none⟩), .int .i64 k] w fun e w' => e = .returned (.tuple #[]) ∧ DskPost F p w (D.cut k) w' := by
  obtain ⟨g, lv, hd, f1, f2, f3⟩ := h
  obtain ⟨-, -, c2, -, -, fr⟩ := hd.cells
  have fr2 := fr 2
  have hk2 : -1 ≤ mxI k (-1) ∧ mxI k (-1) ≤ 9223372036854775807 := by unfold mxI; split <;> omega
  have HD := Lib.hid hd
  have HF1 := Lib.hid f1
  have HF2 := Lib.hid f2
  have HF3 := Lib.hid f3
  clear hd f1 f2 f3 fr
  obtain ⟨m, hm⟩ : ∃ m, m = mxI k (-1) := ⟨_, rfl⟩
  unfold DS.cut
  have e1 : Builtin.max_ #[3, 3] 3 #[.int .i64 k, .int .i64 (-1)] = (pure (.int .i64 m) : Sem Value) := by rw [max_two, max2_int, ← hm]; rfl
  rw [← hm] at hk2 ⊢
  have HM := Lib.hid hm
  clear hm
  go_enter Tryz.func16, Tryz.ntmps16
  go_wp2
  go_end0
  refine ⟨rfl, (Save.refl _ _).setCell (.inl HF1.out) _, g, lv, ?_, .inl HF1.out, .inl HF2.out, fun q hq => .inl (HF3.out q hq)⟩
  exact HD.out.setLeft m hk2
end Go.Proofs.YtjincmagbbpooaaGreatDoor
