import Derived.Test.YtjincmagbbpooaaGreatDoorM18
import Derived.BigQuiet
set_option linter.unusedVariables false
set_option linter.unusedSimpArgs false
namespace Go.Proofs.YtjincmagbbpooaaGreatDoor
open Go.RowKit

/-! ### the document's journal in memory -/
structure RS where
  turn : Nat
  half : Nat
  super : Nat
  fin : Nat
  n : Nat
  dead : Bool
def rjCells (p : Nat) (R : RS) : Array Value := #[.pointer (some ⟨p, 0, none⟩), .int .i64 (R.turn : Int), .int .i64 (R.half : Int), .int .i64 (R.super : Int), .int .i64 (R.fin : Int), .int .i64 (R.n : Int), .bool R.dead]
def RJPost (F : Nat → Prop) (p q : Nat) (w : World) (D : DS) (J : RS) (w' : World) : Prop :=
  Save (fun k => F k ∨ k = q) w w' ∧ Ref w' (Plus F w w') p D ∧ Blk w' q 63 (rjCells p J)
section
variable {F : Nat → Prop} {p q : Nat} {w w1 w2 : World} {D D1 D2 : DS} {J J1 J2 : RS}
theorem RJPost.start (h : Ref w F p D) (hq : Blk w q 63 (rjCells p J)) : RJPost F p q w D J w := ⟨Save.refl _ _, h.mono fun k _ hk => .inl hk, hq⟩
theorem RJPost.ref (h : RJPost F p q w D J w1) : Ref w1 (Plus F w w1) p D := h.2.1
theorem RJPost.blk (h : RJPost F p q w D J w1) : Blk w1 q 63 (rjCells p J) := h.2.2
theorem RJPost.below (h : RJPost F p q w D J w1) (hb : Below w1.heap.size w1 w2) : RJPost F p q w D J w2 :=
  ⟨h.1.belowStep hb, (h.2.1.below hb).mono fun k hk hp => hp.elim .inl (fun h => .inr ⟨h.1, hk⟩), h.2.2.below hb⟩
theorem RJPost.disk (h : RJPost F p q w D J w1) (hn : ¬ F q) (hq : q < w.heap.size) (k : RefPost (Plus F w w1) p w1 D2 w2) : RJPost F p q w D2 J w2 := by
  have hs := h.1.size
  refine ⟨h.1.trans (k.1.mono fun x hx hp => ?_), k.2.mono fun x hx hp => ?_, h.2.2.save k.1 (plus_q hn hq)⟩
  · rcases hp with hp | hp
    · exact .inl (.inl hp)
    · exact .inr hp
  · rcases hp with (hp | hp) | hp
    · exact .inl hp
    · exact .inr ⟨hp.1, Nat.lt_of_lt_of_le hp.2 k.1.size⟩
    · exact .inr ⟨by omega, hp.2⟩
theorem RJPost.then (h : RJPost F p q w D1 J1 w1) (hn : ¬ F q) (hq : q < w.heap.size) (k : RJPost (Plus F w w1) p q w1 D2 J2 w2) : RJPost F p q w D2 J2 w2 := by
  have hs := h.1.size
  refine ⟨h.1.trans (k.1.mono fun x hx hp => ?_), k.2.1.mono fun x hx hp => ?_, k.2.2⟩
  · rcases hp with (hp | hp) | hp
    · exact .inl (.inl hp)
    · exact .inr hp
    · exact .inl (.inr hp)
  · rcases hp with (hp | hp) | hp
    · exact .inl hp
    · exact .inr ⟨hp.1, Nat.lt_of_lt_of_le hp.2 k.1.size⟩
    · exact .inr ⟨by omega, hp.2⟩
/-- A store into the journal's own block. -/
theorem RJPost.set (h : RJPost F p q w D J w1) (i : Nat) (u : Value) (hc : (rjCells p J).setIfInBounds i u = rjCells p J2) : RJPost F p q w D J2 (w1.setCell ⟨q, i, none⟩ u) := by
  refine ⟨h.1.setCell (.inl (.inr rfl)) u, ?_, by rw [← hc]; exact h.2.2.set_ i u⟩
  obtain ⟨sv, av, bv, hd, h1, h2, h3, h4⟩ := h.2.1
  have n1 : q ≠ p := h.2.2.ne_ hd.own (by decide)
  have n2 : some q ≠ sv.ownBlock := own_blk_ne hd.s h.2.2 (by decide)
  have n3 : some q ≠ av.ownBlock := own_blk_ne hd.a h.2.2 (by decide)
  have n4 : some q ≠ bv.ownBlock := own_blk_ne hd.b h.2.2 (by decide)
  have hsz : (w1.setCell ⟨q, i, none⟩ u).heap.size = w1.heap.size := by simp [World.setCell]
  have hpl : ∀ k, Plus F w w1 k → Plus F w (w1.setCell ⟨q, i, none⟩ u) k := fun k hk => hk.elim .inl (fun h => .inr ⟨h.1, by rw [hsz]; exact h.2⟩)
  refine ⟨sv, av, bv, hd.same fun k hk => Below.heap_setCell _ _ _ _ ?_, hpl _ h1, fun k hk => hpl _ (h2 k hk), fun k hk => hpl _ (h3 k hk), fun k hk => hpl _ (h4 k hk)⟩
  rcases hk with rfl | hk | hk | hk
  · exact fun e => n1 e.symm
  · exact fun e => n2 (by rw [hk, e])
  · exact fun e => n3 (by rw [hk, e])
  · exact fun e => n4 (by rw [hk, e])
end

theorem rsize_any (F : Nat → Prop) (p q : Nat) (D : DS) (R : RS) (w : World) (h : Ref w F p D) (hq : Blk w q 63 (rjCells p R)) (h2 : 2 ≤ D.sure.length) :
    Calls Tryz.prog 68 #[.pointer (some ⟨q, 0, none⟩)] w fun e w' => e = .returned (.int .i64 ((D.half * 64 : Nat) : Int)) ∧ w = w' := by
  have ch := Lib.hid (rhalf_any w F p D h2 h)
  have hh := half_le h.ok
  have c := hq.cell 0
  simp [rjCells] at c
  have e : ((D.half * 64 : Nat) : Int) = (D.half : Int) * 64 := by omega
  rw [e]
  generalize D.half = H at ch hh ⊢
  clear hq h e
  go_enter Tryz.func68, Tryz.ntmps68
  go_wp2_with (go_at_call 59; (with_reducible refine ch.out.mono ?_); rintro e w1 ⟨rfl, rfl⟩)
  go_ret
  exact ⟨rfl, rfl⟩
theorem quiet_same {P : Program} {f : FuncId} {args : Array Value} {w : World} {n : Nat} {v : Value} (h : Calls P f args (w.drewN n) fun e w' => e = .returned v ∧ w.drewN n = w') : Calls P f args (w.drewN n) fun e w'' => e = .returned v ∧ ∃ m, w'' = w.drewN m :=
  h.mono fun _ _ ⟨he, hw⟩ => ⟨he, n, hw.symm⟩
def RS.dies (R : RS) (c : Int) : RS := { R with dead := R.dead || decide (c ≠ 0) }
theorem rdies_any (F : Nat → Prop) (p q : Nat) (D : DS) (R : RS) (c : Int) (w : World) (h : Ref w F p D) (hq : Blk w q 63 (rjCells p R)) :
    Calls Tryz.prog 69 #[.pointer (some ⟨q, 0, none⟩), .int .i64 c] w fun e w' => e = .returned (.int .i64 c) ∧ RJPost F p q w D (R.dies c) w' := by
  have HJ := Lib.hid (RJPost.start h hq)
  have c6 := hq.cell 6
  have fr := hq.frozen 6
  simp [rjCells] at c6
  by_cases hd : R.dead = true
  · have hs := (RJPost.start h hq).set (J2 := R.dies c) 6 (.bool true) (by unfold rjCells RS.dies; rw [hd]; simp)
    rw [hd] at c6
    have HS := Lib.hid hs
    clear hs hq h
    go_enter Tryz.func69, Tryz.ntmps69
    go_wp2
    go_ret
    exact ⟨rfl, HS.out⟩
  · rw [Bool.not_eq_true] at hd
    by_cases hc : c = 0
    · subst hc
      have hs := (RJPost.start h hq).set (J2 := R.dies 0) 6 (.bool false) (by unfold rjCells RS.dies; rw [hd]; simp)
      rw [hd] at c6
      have HS := Lib.hid hs
      clear hs hq h
      go_enter Tryz.func69, Tryz.ntmps69
      go_wp2
      go_ret
      exact ⟨rfl, HS.out⟩
    · have hs := (RJPost.start h hq).set (J2 := R.dies c) 6 (.bool true) (by unfold rjCells RS.dies; rw [hd]; simp [hc])
      rw [hd] at c6
      have HS := Lib.hid hs
      have t0 : (c == 0) = false := beq_eq_false_iff_ne.2 hc
      have t0' : (c != 0) = true := by rw [bne, t0]; rfl
      clear hs hq h hc
      go_enter Tryz.func69, Tryz.ntmps69
      go_wp2
      go_ret
      exact ⟨rfl, HS.out⟩
def rsyncJ (D : DS) (R : RS) : DS × RS × Int := if R.dead = true then (D, R, 25) else (D.flush, R.dies D.flushC, D.flushC)
theorem rSync_any (F : Nat → Prop) (p q : Nat) (D : DS) (R : RS) (w : World) (h : Ref w F p D) (hq : Blk w q 63 (rjCells p R)) (hn : ¬ F q) :
    Calls Tryz.prog 29 #[.pointer (some ⟨q, 0, none⟩)] w fun e w' => e = .returned (.int .i64 (rsyncJ D R).2.2) ∧ RJPost F p q w (rsyncJ D R).1 (rsyncJ D R).2.1 w' := by
  have HJ := Lib.hid (RJPost.start h hq)
  have HNQ := Lib.hid (And.intro hn hq.lt)
  have c6 := hq.cell 6
  have c0 := hq.cell 0
  simp [rjCells] at c6 c0
  unfold rsyncJ
  by_cases hd : R.dead = true
  · rw [if_pos hd]
    rw [hd] at c6
    clear hq h hd hn
    go_enter Tryz.func29, Tryz.ntmps29
    go_wp2
    go_ret
    exact ⟨rfl, HJ.out⟩
  · rw [if_neg hd]
    rw [Bool.not_eq_true] at hd
    rw [hd] at c6
    have cf := Lib.hid (rFlush_any w F p D h)
    generalize D.flush = D1 at cf ⊢
    generalize D.flushC = c at cf ⊢
    have cd := Lib.hid (fun W (G : Nat → Prop) (h1 : Ref W G p D1) (h2 : Blk W q 63 (rjCells p R)) => rdies_any G p q D1 R c W h1 h2)
    clear hq h hd hn
    go_enter Tryz.func29, Tryz.ntmps29
    go_wp2_with (first
      | (go_at_call 60; (with_reducible refine cf.out.mono ?_); rintro e w1 ⟨rfl, hp⟩; have HJ1 := Lib.hid (HJ.out.disk HNQ.out.1 HNQ.out.2 ⟨hp.1.mono fun k hk hp => .inl hp, hp.2.mono fun k hk hp => hp.elim (fun h => .inl (.inl h)) .inr⟩); clear hp)
      | (go_at_call 69; (with_reducible refine (cd.out _ _ HJ1.out.ref HJ1.out.blk).mono ?_); rintro e w2 ⟨rfl, hp⟩; have HJ2 := Lib.hid (HJ1.out.then HNQ.out.1 HNQ.out.2 hp); clear hp))
    go_ret
    exact ⟨rfl, HJ2.out⟩

set_option maxHeartbeats 16000000 in
set_option maxRecDepth 100000 in
theorem rbytes_any (F : Nat → Prop) (p q : Nat) (D : DS) (R : RS) (w : World) (h : Ref w F p D) (hq : Blk w q 63 (rjCells p R)) (h2 : 2 ≤ D.sure.length) (hw : R.half ≤ 1) :
    Calls Tryz.prog 63 #[.pointer (some ⟨q, 0, none⟩)] w fun e w' => e = .returned (.string (D.joinP R.half D.half)) ∧ Below w.heap.size w w' := by
  have ch := Lib.hid (rhalf_any w F p D h2 h)
  have hh := half_le h.ok
  have c0 := hq.cell 0
  simp [rjCells] at c0
  obtain ⟨H, hH⟩ : ∃ H, H = D.half := ⟨_, rfl⟩
  rw [← hH] at ch ⊢
  have hH9 : H ≤ 999 := by omega
  have HH := Lib.hid (And.intro hH (And.intro h (And.intro hq hw)))
  obtain ⟨which, hwh⟩ : ∃ which, which = R.half := ⟨_, rfl⟩
  rw [← hwh]
  have HW := Lib.hid hwh
  clear hH h hq hw h2 hh hwh
  go_enter Tryz.func63, Tryz.ntmps63
  go_upto_region 4 with (go_at_call 59; (with_reducible refine ch.out.mono ?_); rintro e w1 ⟨rfl, rfl⟩)
  go_loopg [3, 5] H (fun kq v3 v5 wr => ∃ i : Nat, v3 = .string (D.joinP which i) ∧ v5 = .int .i64 (i : Int) ∧ i + kq = H ∧ Hid (Below w.heap.size w wr))
  case atStart => exact ⟨0, rfl, rfl, by omega, Lib.hid (Below.refl _ _)⟩
  case round =>
    obtain ⟨i, rfl, rfl, hi, HB⟩ := hrel
    by_cases hlt : i < H
    · obtain ⟨k', rfl⟩ : ∃ k', gk = k' + 1 := ⟨gk - 1, by omega⟩
      have q1 : (i : Int) < (H : Int) := by omega
      have hqr := HH.out.2.2.1.below HB.out
      have d0 := hqr.cell 0
      have d2 := hqr.cell 2
      simp [rjCells] at d0 d2
      rw [← HW.out] at d2
      have hw1 : which ≤ 1 := by rw [HW.out]; exact HH.out.2.2.2
      obtain ⟨m, hm⟩ : ∃ m : Nat, m = which * H := ⟨_, rfl⟩
      have hmz : m ≤ 999 := by
        have : which * H ≤ 1 * 999 := Nat.mul_le_mul hw1 hH9
        omega
      have q2 : (which : Int) * (H : Int) = (m : Int) := by rw [hm]; exact (Int.natCast_mul _ _).symm
      have q3 : (2 : Int) + (m : Int) + (i : Int) = ((D.sec which i : Nat) : Int) := by unfold DS.sec; rw [← HH.out.1, ← hm]; omega
      have cr := Lib.hid (fun W (hb : Below w.heap.size w W) => rRead_any W F p D (2 + (m : Int) + (i : Int)) (HH.out.2.1.below hb))
      rw [q3] at cr
      rw [← q3] at cr
      have hj := joinP_size HH.out.2.1.ok which i
      have hs := readS_64 HH.out.2.1.ok (D.sec which i : Int)
      have hnx : D.joinP which (i + 1) = D.joinP which i ++ D.readS (D.sec which i : Int) := rfl
      rw [← q3] at hs hnx
      generalize D.readS (2 + (m : Int) + (i : Int)) = s at cr hs hnx
      generalize D.may (2 + (m : Int) + (i : Int)) = e at cr
      generalize D.joinP which i = acc at hj hnx ⊢
      have HNX := Lib.hid hnx
      have hcat : ¬ 9223372036854775807 < acc.size + s.size := by omega
      have hcat2 : acc.size + s.size ≤ 9223372036854775807 := by omega
      clear hqr hnx hlt hm q3
      go_upto_region 6 with fail
      go_quiet (first | (go_at_call 34; with_reducible exact (quiet_same (cr.out _ (HB.out.trans (below_drewN _ _))))))
      go_wp2
      go_roundg k'
      case measure => omega
      case rel => exact ⟨i + 1, by rw [HNX.out], by go_num, by omega, Lib.hid (HB.out.trans (below_drewN _ _))⟩
    · obtain rfl : i = H := by omega
      have q1 : (i : Int) ≤ (i : Int) := by omega
      go_wp2
      go_ret
      exact ⟨rfl, HB.out⟩
end Go.Proofs.YtjincmagbbpooaaGreatDoor
