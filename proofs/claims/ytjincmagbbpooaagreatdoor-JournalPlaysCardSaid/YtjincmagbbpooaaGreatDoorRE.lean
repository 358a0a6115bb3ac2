import Derived.Test.YtjincmagbbpooaaGreatDoorRD
set_option linter.unusedVariables false
set_option linter.unusedSimpArgs false
namespace Go.Proofs.YtjincmagbbpooaaGreatDoor
open Go.RowKit
attribute [local go_sem] max2_int max_two min2_int min_two

/-- What clearing behind the records comes to. -/
def clearsD (D : DS) (which : Nat) (s : ByteArray) (k : Nat) : DS × Int :=
  if (D.diff which s k).2.2 = 0 ∧ 0 < (D.diff which s k).2.1 then ((D.diff which s k).1.flush, (D.diff which s k).1.flushC) else ((D.diff which s k).1, (D.diff which s k).2.2)
theorem half_i (D : DS) (which H : Nat) (hH : H = D.half) (hw : which ≤ 1) (hH9 : H ≤ 999) (i : Nat) : ∃ m : Nat, m ≤ 999 ∧ (which : Int) * (H : Int) = (m : Int) ∧ (2 : Int) + (m : Int) + (i : Int) = ((D.sec which i : Nat) : Int) := by
  have : which * H ≤ 1 * 999 := Nat.mul_le_mul hw hH9
  refine ⟨which * H, by omega, (Int.natCast_mul _ _).symm, ?_⟩
  unfold DS.sec
  rw [← hH]
  omega

set_option maxHeartbeats 32000000 in
set_option maxRecDepth 100000 in
theorem rclears_any (F : Nat → Prop) (p q : Nat) (D : DS) (R : RS) (s : ByteArray) (w : World) (h : Ref w F p D) (hq : Blk w q 63 (rjCells p R)) (hn : ¬ F q) (h2 : 2 ≤ D.sure.length) (hw : R.half ≤ 1) (hal : D.dead = false) (hs : s.size ≤ 100000) (hf : R.fin ≤ 100000) (hd : D.done < 1099510000000) :
    Calls Tryz.prog 65 #[.pointer (some ⟨q, 0, none⟩), .string s] w fun e w' => e = .returned (.int .i64 (clearsD D R.half s (R.fin / 64)).2) ∧ RJPost F p q w (clearsD D R.half s (R.fin / 64)).1 R w' := by
  have HJ := Lib.hid (RJPost.start h hq)
  have HNQ := Lib.hid (And.intro hn hq.lt)
  have ch := Lib.hid (rhalf_any w F p D h2 h)
  have hh := half_le h.ok
  have c0 := hq.cell 0
  have c4 := hq.cell 4
  simp [rjCells] at c0 c4
  obtain ⟨H, hH⟩ : ∃ H, H = D.half := ⟨_, rfl⟩
  rw [← hH] at ch
  have hH9 : H ≤ 999 := by omega
  obtain ⟨which, hwh⟩ : ∃ which, which = R.half := ⟨_, rfl⟩
  obtain ⟨i0, hi0⟩ : ∃ i0, i0 = R.fin / 64 := ⟨_, rfl⟩
  have hdiv : (R.fin : Int) / 64 = (i0 : Int) := by omega
  have hi01 : i0 ≤ 100000 := by omega
  have hdw : IntKind.i64.wrap (i0 : Int) = (i0 : Int) := IntWalk.i64_in _ (by omega)
  rw [← hwh, ← hi0]
  obtain ⟨Y, hY⟩ : ∃ Y, Y = clearsD D which s i0 := ⟨_, rfl⟩
  rw [← hY]
  unfold clearsD at hY
  obtain ⟨X, hX⟩ : ∃ X, X = D.diff which s i0 := ⟨_, rfl⟩
  rw [← hX] at hY
  have hX' : X = diffF which s (H - i0) i0 0 D := by rw [hX, hH]; rfl
  have HY := Lib.hid hY
  have HH := Lib.hid (And.intro hH (And.intro h2 (And.intro hwh (And.intro (show which ≤ 1 by rw [hwh]; exact hw) hd))))
  have HAL := Lib.hid hal
  generalize R.fin = fin at c4 hdiv hf
  clear hY hX hH h hq hw h2 hh hwh hi0 hal hd hn
  go_enter Tryz.func65, Tryz.ntmps65
  go_upto_region 3 with (go_at_call 59; (with_reducible refine ch.out.mono ?_); rintro e w1 ⟨rfl, rfl⟩)
  have hdiv' := hdiv
  rw [hdiv] at *
  go_loopw [6, 7] (fun v6 v7 wr => ∃ (i n : Nat) (D1 : DS), v6 = .bool (decide (0 < n)) ∧ v7 = .int .i64 (i : Int) ∧ i ≤ 100000 ∧ Hid (n ≤ i) ∧ Hid (D1.dead = false ∧ D1.sure.length = D.sure.length ∧ D1.done ≤ D.done + n) ∧ Hid (X = diffF which s (H - i) i n D1) ∧ Hid (RJPost F p q w D1 R wr)) (fun _ v7 _ => H - (intOf v7).toNat)
  case atStart => exact ⟨i0, 0, D, rfl, rfl, hi01, Nat.zero_le _, ⟨HAL.out, rfl, Nat.le_refl _⟩, hX', HJ⟩
  case round =>
    clear HJ hX' HAL
    obtain ⟨i, n, D1, rfl, rfl, hi1, hni, HA, HX, HJ⟩ := hrel
    have hD1 := HJ.out.ref
    have d0 := HJ.out.blk.cell 0
    have d2 := HJ.out.blk.cell 2
    simp [rjCells] at d0 d2
    rw [← HH.out.2.2.1] at d2
    have hhalf : D1.half = H := by rw [HH.out.1]; exact (by unfold DS.half; rw [HA.out.2.1])
    by_cases hlt : i < H
    · have q1 : (i : Int) < (H : Int) := by omega
      obtain ⟨m, hm9, q2, q3⟩ := half_i D1 which H hhalf.symm HH.out.2.2.2.1 hH9 i
      obtain ⟨at_, hat⟩ : ∃ at_, at_ = D1.sec which i := ⟨_, rfl⟩
      have hm0 : D1.may (at_ : Int) = 0 := by rw [hat]; exact may_sec HA.out.1 HH.out.2.2.2.1 (by rw [hhalf]; exact hlt)
      rw [← hat] at q3
      have hXX := HX.out
      obtain ⟨f, hf⟩ : ∃ f, H - i = f + 1 := ⟨H - i - 1, by omega⟩
      have hf2 : H - (i + 1) = f := by omega
      have HF := Lib.hid hf2
      rw [hf] at hXX
      unfold diffF at hXX
      rw [← hat, hm0, if_neg (by decide)] at hXX
      have cr := Lib.hid (fun W (G : Nat → Prop) (hG : Ref W G p D1) => rRead_any W G p D1 (at_ : Int) hG)
      rw [hm0] at cr
      obtain ⟨j, hj⟩ : ∃ j : Nat, min (i * 64) s.size = j := ⟨_, rfl⟩
      obtain ⟨k, hk⟩ : ∃ k : Nat, min (j + 64) s.size = k := ⟨_, rfl⟩
      have e1 : Builtin.min_ #[3, 3] 3 #[.int .i64 (s.size : Int), .int .i64 ((i : Int) * 64)] = (pure (.int .i64 (j : Int)) : Sem Value) := by
        rw [min_two, min2_int, show mnI (s.size : Int) ((i : Int) * 64) = (j : Int) by unfold mnI; split <;> omega]; rfl
      have e2 : Builtin.min_ #[3, 3] 3 #[.int .i64 (s.size : Int), .int .i64 (((i : Int) + 1) * 64)] = (pure (.int .i64 (k : Int)) : Sem Value) := by
        rw [min_two, min2_int, show mnI (s.size : Int) (((i : Int) + 1) * 64) = (k : Int) by unfold mnI; split <;> omega]; rfl
      have hjk : (j : Int) ≤ (k : Int) := by omega
      have hkb : (k : Int) ≤ (s.size : Int) := by omega
      have hpt : partB s (i * 64) 64 = s.extract j k := by unfold partB; rw [hj, hk]
      have hpz := partB_size s (i * 64) 64
      have hwf := write_fill D1 (at_ : Int) hpz
      rw [hwf.1, hwf.2] at hXX
      have hwf1 := hwf.1
      have hwf2 := hwf.2
      rw [hpt] at hXX hpz hwf1 hwf2
      have cf := Lib.hid (fun W => filled_any (s.extract j k) hpz W)
      have hw2 := D1.write_len (at_ : Int) (s.extract j k)
      have hw3 := D1.write_done (at_ : Int) (s.extract j k)
      have cw := Lib.hid (fun W (G : Nat → Prop) (hG : Ref W G p D1) => rWrite_any W G p D1 (at_ : Int) (fillB (s.extract j k)) (by have := HA.out.2.2; have := HH.out.2.2.2.2; have := hni.out; omega) hG)
      rw [hwf1, hwf2] at cw
      have hala : D1.writeC (at_ : Int) (s.extract j k) = 0 → (D1.write (at_ : Int) (s.extract j k)).dead = false := write_alive
      generalize D1.readS (at_ : Int) = s0 at hXX cr
      generalize D1.writeC (at_ : Int) (s.extract j k) = c at hXX cw hala
      generalize D1.write (at_ : Int) (s.extract j k) = D2 at hXX cw hala hw2 hw3
      generalize fillB (s.extract j k) = z at hXX cf cw
      clear hD1 hhalf hm0 hf hwf hf2 hwf1 hwf2 hpt hpz hj hk hat
      by_cases hsz : s0 = z
      · subst hsz
        rw [if_pos rfl] at hXX
        have HXX := Lib.hid hXX
        clear hXX hala hw2 hw3 cw
        go_wp2_with (first
          | (go_at_call 56; (with_reducible refine (cf.out _).mono ?_); rintro e w1 ⟨rfl, hb⟩; have HJ1 := Lib.hid (HJ.out.below hb); have d0' := HJ1.out.blk.cell 0; have d2' := HJ1.out.blk.cell 2; simp [rjCells] at d0' d2'; rw [← HH.out.2.2.1] at d2'; clear hb)
          | (go_at_call 34; (with_reducible refine (cr.out _ _ HJ1.out.ref).mono ?_); rintro e w2 ⟨rfl, rfl⟩))
        go_roundw
        case rel => exact ⟨i + 1, n, D1, rfl, by go_num, by omega, Lib.hid (Nat.le_succ_of_le hni.out), HA, Lib.hid (by rw [HF.out]; exact HXX.out), HJ1⟩
        case measure => simp [intOf]; omega
      · have hne : (s0.toList == z.toList) = false := beq_list_false hsz
        rw [if_neg hsz] at hXX
        by_cases hc0 : c = 0
        · subst hc0
          rw [if_neg (by decide)] at hXX
          have HXX := Lib.hid hXX
          have HA2 := Lib.hid (And.intro (hala rfl) (And.intro (hw2.trans HA.out.2.1) (show D2.done ≤ D.done + (n + 1) by have := HA.out.2.2; omega)))
          have hb1 : decide (0 < n + 1) = true := decide_eq_true (by omega)
          clear hXX hala hw2 hw3 hsz
          go_wp2_with (first
            | (go_at_call 56; (with_reducible refine (cf.out _).mono ?_); rintro e w1 ⟨rfl, hb⟩; have HJ1 := Lib.hid (HJ.out.below hb); have d0' := HJ1.out.blk.cell 0; have d2' := HJ1.out.blk.cell 2; simp [rjCells] at d0' d2'; rw [← HH.out.2.2.1] at d2'; clear hb)
            | (go_at_call 34; (with_reducible refine (cr.out _ _ HJ1.out.ref).mono ?_); rintro e w2 ⟨rfl, rfl⟩)
            | (go_at_call 58; (with_reducible refine (cw.out _ _ HJ1.out.ref).mono ?_); rintro e w3 ⟨rfl, hp⟩; have HJ2 := Lib.hid (HJ1.out.disk HNQ.out.1 HNQ.out.2 hp); clear hp))
          go_roundw
          case rel => exact ⟨i + 1, n + 1, D2, by rw [hb1], by go_num, by omega, Lib.hid (Nat.succ_le_succ hni.out), HA2, Lib.hid (by rw [HF.out]; exact HXX.out), HJ2⟩
          case measure => simp [intOf]; omega
        · rw [if_pos hc0] at hXX
          have t2 : (c == 0) = false := beq_eq_false_iff_ne.2 hc0
          have hYY := HY.out
          rw [hXX] at hYY
          simp only at hYY
          rw [if_neg (fun h => hc0 h.1)] at hYY
          have HYY := Lib.hid hYY
          clear hXX hala hw2 hw3 hsz hc0 hYY
          go_wp2_with (first
            | (go_at_call 56; (with_reducible refine (cf.out _).mono ?_); rintro e w1 ⟨rfl, hb⟩; have HJ1 := Lib.hid (HJ.out.below hb); have d0' := HJ1.out.blk.cell 0; have d2' := HJ1.out.blk.cell 2; simp [rjCells] at d0' d2'; rw [← HH.out.2.2.1] at d2'; clear hb)
            | (go_at_call 34; (with_reducible refine (cr.out _ _ HJ1.out.ref).mono ?_); rintro e w2 ⟨rfl, rfl⟩)
            | (go_at_call 58; (with_reducible refine (cw.out _ _ HJ1.out.ref).mono ?_); rintro e w3 ⟨rfl, hp⟩; have HJ2 := Lib.hid (HJ1.out.disk HNQ.out.1 HNQ.out.2 hp); clear hp))
          go_ret
          rw [HYY.out]
          exact ⟨rfl, HJ2.out⟩
    · have q1 : (H : Int) ≤ (i : Int) := by omega
      have hX0 : X = (D1, n, 0) := by
        have := HX.out
        rw [show H - i = 0 by omega] at this
        exact this
      have hYY := HY.out
      rw [hX0] at hYY
      simp only at hYY
      clear hhalf hX0 hlt hD1
      by_cases hn0 : 0 < n
      · rw [if_pos ⟨trivial, hn0⟩] at hYY
        rw [decide_eq_true hn0]
        have cfl := Lib.hid (fun W (G : Nat → Prop) (hG : Ref W G p D1) => rFlush_any W G p D1 hG)
        have HYY := Lib.hid hYY
        clear hYY hn0
        go_wp2_with (go_at_call 60; (with_reducible refine (cfl.out _ _ HJ.out.ref).mono ?_); rintro e w3 ⟨rfl, hp⟩; have HJ2 := Lib.hid (HJ.out.disk HNQ.out.1 HNQ.out.2 hp); clear hp)
        go_ret
        rw [HYY.out]
        exact ⟨rfl, HJ2.out⟩
      · rw [if_neg (fun h => hn0 h.2)] at hYY
        rw [decide_eq_false hn0]
        have HYY := Lib.hid hYY
        clear hYY hn0
        go_wp2
        go_ret
        rw [HYY.out]
        exact ⟨rfl, HJ.out⟩
end Go.Proofs.YtjincmagbbpooaaGreatDoor
