import Derived.Test.YtjincmagbbpooaaGreatDoorM19
import Derived.BigQuiet
set_option linter.unusedVariables false
set_option linter.unusedSimpArgs false
namespace Go.Proofs.YtjincmagbbpooaaGreatDoor
open Go.RowKit
attribute [local go_sem] max2_int max_two min2_int min_two

/-! ### the document's Add -/
theorem wraps5 (i k mm : Nat) (h1 : i ≤ 100000) (h2 : k ≤ 100000) (h3 : mm ≤ 100000) :
    IntKind.i64.wrap ((i : Int) * 64) = (i : Int) * 64 ∧ IntKind.i64.wrap ((i : Int) + 1) = (i : Int) + 1 ∧ IntKind.i64.wrap (((i : Int) + 1) * 64) = ((i : Int) + 1) * 64 ∧
      IntKind.i64.wrap (2 + (mm : Int) + (k : Int)) = 2 + (mm : Int) + (k : Int) ∧ IntKind.i64.wrap (2 + (mm : Int) + (k : Int) + (i : Int)) = 2 + (mm : Int) + (k : Int) + (i : Int) :=
  ⟨IntWalk.i64_in _ (by omega), IntWalk.i64_in _ (by omega), IntWalk.i64_in _ (by omega), IntWalk.i64_in _ (by omega), IntWalk.i64_in _ (by omega)⟩
def rD1619 : Nat → List Nat
  | 0 => []
  | _ + 1 => [16, 19]
set_option maxHeartbeats 32000000 in
set_option maxRecDepth 100000 in
theorem rAdd_any (F : Nat → Prop) (p q sup : Nat) (D : DS) (J : JS) (r : ByteArray) (w : World) (h : Ref w F p D) (hq : Blk w q 63 (rjCells p (rOf sup J))) (hn : ¬ F q) (h2 : 2 ≤ D.sure.length)
    (ht : J.turn ≤ 4000) (hwh : J.which ≤ 1) (hnn : J.n ≤ 100000) (hb : J.b.size ≤ D.half * 64) (hr : r.size ≤ 1000) (hd : D.done < 1099510000000) (hal : J.dead = false → D.dead = false)
    (hfr : J.dead = false → 0 < J.b.size % 64 → takeB (D.readS (D.sec J.which (J.b.size / 64) : Int)) (J.b.size % 64) = dropB J.b (J.b.size / 64 * 64)) :
    Calls Tryz.prog 28 #[.pointer (some ⟨q, 0, none⟩), .string r] w fun e w' => e = .returned (.int .i64 (addJ D J r).2.2) ∧ RJPost F p q w (addJ D J r).1 (rOf sup (addJ D J r).2.1) w' := by
  have HJ := Lib.hid (RJPost.start h hq)
  have HNQ := Lib.hid (And.intro hn hq.lt)
  have x6 := hq.cell 6
  simp [rjCells, rOf] at x6
  cases hdd : J.dead
  case true =>
    have hR : addJ D J r = (D, J, 25) := by unfold addJ; rw [if_pos hdd]
    rw [hdd] at x6
    rw [hR]
    clear h hq hdd hn hR hal hfr ht hwh hnn hb hr hd
    go_enter Tryz.func28, Tryz.ntmps28
    go_wp2
    go_ret
    exact ⟨rfl, HJ.out⟩
  rw [hdd] at x6
  have hR := add_eq D J r hdd
  have hD := hal hdd
  have hFR := hfr hdd
  have hhz := half_le h.ok
  obtain ⟨W, hW⟩ : ∃ W, W = wrapS (J.turn * 1000000 + J.n) r := ⟨_, rfl⟩
  have hWz : W.size ≤ 1020 := by
    rw [hW]
    have := wrapS_size (J.turn * 1000000 + J.n) r (by omega) hr
    omega
  have cw := Lib.hid (fun V => rWrap_gen ((J.turn : Int) * 1000000 + (J.n : Int)) (J.turn * 1000000 + J.n) r (by unfold mxI; split <;> omega) (by omega) hr V)
  rw [← hW] at hR cw
  have cs := Lib.hid (fun V (k : RJPost F p q w D (rOf sup J) V) => rsize_any _ p q D (rOf sup J) V k.ref k.blk h2)
  have ch := Lib.hid (fun V (k : RJPost F p q w D (rOf sup J) V) => rhalf_any V _ p D h2 k.ref)
  have HK := Lib.hid (And.intro h2 (And.intro hwh (And.intro hd (And.intro hD hdd))))
  have HFR := Lib.hid hFR
  obtain ⟨H, hH⟩ : ∃ H, H = D.half := ⟨_, rfl⟩
  rw [← hH] at hR cs ch hb hhz
  have HH := Lib.hid hH
  generalize addJ D J r = R at hR ⊢
  have hrz : ¬ ((2010 : Int) < (r.size : Int)) := by omega
  have hw1 : IntKind.i64.wrap ((J.turn : Int) * 1000000) = (J.turn : Int) * 1000000 := IntWalk.i64_in _ (by omega)
  have hw2 : IntKind.i64.wrap ((J.turn : Int) * 1000000 + (J.n : Int)) = (J.turn : Int) * 1000000 + (J.n : Int) := IntWalk.i64_in _ (by omega)
  clear h hq hdd hn hal hfr hH hW hD hFR h2 hd
  go_enter Tryz.func28, Tryz.ntmps28
  go_upto_region 5 with fail
  replace HJ := Lib.hid (HJ.out.below ((Below.refl _ _).drew))
  have HQ := Lib.hid HJ.out.blk
  clear x6
  refine wp_region_fam (S := (rA q p (rOf sup J))) (ds := (fun _ => [])) (by kernel_rfl) ?_
  refine wpFam_take (i := 0) 0 (some 21) (v := ?_) rfl (by kernel_rfl) (by kernel_rfl) (by kernel_rfl) (by kernel_rfl) (by kernel_rfl) (fun _ _ _ h => h) rfl (Or.inl ⟨by rfl, ?_⟩) (by exact trivial) ?_
  rotate_left
  · (intro w hSw; (try simp only [rA, rOf] at hSw); go_simp); (try with_reducible rfl)
  try simp only [Act.put, List.setIfInBounds_toArray, List.set_cons_zero, List.set_cons_succ]
  refine wpFam_take (i := 1) 0 (some 22) (v := ?_) rfl (by kernel_rfl) (by kernel_rfl) (by kernel_rfl) (by kernel_rfl) (by kernel_rfl) (fun _ _ _ h => h) rfl (Or.inl ⟨by rfl, ?_⟩) (by exact trivial) ?_
  rotate_left
  · (intro w hSw; (try simp only [rA, rOf] at hSw); go_simp); (try with_reducible rfl)
  try simp only [Act.put, List.setIfInBounds_toArray, List.set_cons_zero, List.set_cons_succ]
  refine wpFam_take (i := 2) 0 (some 23) (v := ?_) rfl (by kernel_rfl) (by kernel_rfl) (by kernel_rfl) (by kernel_rfl) (by kernel_rfl) (fun _ _ _ h => h) rfl (Or.inl ⟨by rfl, ?_⟩) (by exact trivial) ?_
  rotate_left
  · (intro w hSw; (try simp only [rA, rOf] at hSw); go_simp); (try with_reducible rfl)
  try simp only [Act.put, List.setIfInBounds_toArray, List.set_cons_zero, List.set_cons_succ]
  refine wpFam_take (i := 3) 2 (some 24) (v := ?_) rfl (by kernel_rfl) (by kernel_rfl) (by kernel_rfl) (by kernel_rfl) (by kernel_rfl) (fun _ _ _ h => h) rfl (Or.inl ⟨by rfl, ?_⟩) (by exact rA_of HQ.out 2) ?_
  rotate_left
  · (intro w hSw; (try simp only [rA, rOf] at hSw); go_simp); (try with_reducible rfl)
  try simp only [Act.put, List.setIfInBounds_toArray, List.set_cons_zero, List.set_cons_succ]
  refine wpFam_take (i := 4) 0 (some 25) (v := ?_) rfl (by kernel_rfl) (by kernel_rfl) (by kernel_rfl) (by kernel_rfl) (by kernel_rfl) (fun _ _ _ h => h) rfl (Or.inl ⟨by rfl, ?_⟩) (by exact trivial) ?_
  rotate_left
  · (intro w hSw; (try simp only [rA, rOf] at hSw); go_simp); (try with_reducible rfl)
  try simp only [Act.put, List.setIfInBounds_toArray, List.set_cons_zero, List.set_cons_succ]
  refine wpFam_take (i := 5) 0 (some 26) (v := ?_) rfl (by kernel_rfl) (by kernel_rfl) (by kernel_rfl) (by kernel_rfl) (by kernel_rfl) (fun _ _ _ h => h) rfl (Or.inl ⟨by rfl, ?_⟩) (by exact trivial) ?_
  rotate_left
  · (intro w hSw; (try simp only [rA, rOf] at hSw); go_simp); (try with_reducible rfl)
  try simp only [Act.put, List.setIfInBounds_toArray, List.set_cons_zero, List.set_cons_succ]
  refine wpFam_take (i := 6) 0 (some 27) (v := ?_) rfl (by kernel_rfl) (by kernel_rfl) (by kernel_rfl) (by kernel_rfl) (by kernel_rfl) (fun _ _ _ h => h) rfl (Or.inl ⟨by rfl, ?_⟩) (by exact trivial) ?_
  rotate_left
  · (intro w hSw; (try simp only [rA, rOf] at hSw); go_simp); (try with_reducible rfl)
  try simp only [Act.put, List.setIfInBounds_toArray, List.set_cons_zero, List.set_cons_succ]
  refine wpFam_take (i := 7) 0 (some 28) (v := ?_) rfl (by kernel_rfl) (by kernel_rfl) (by kernel_rfl) (by kernel_rfl) (by kernel_rfl) (fun _ _ _ h => h) rfl (Or.inl ⟨by rfl, ?_⟩) (by exact trivial) ?_
  rotate_left
  · (intro w hSw; (try simp only [rA, rOf] at hSw); go_simp); (try with_reducible rfl)
  try simp only [Act.put, List.setIfInBounds_toArray, List.set_cons_zero, List.set_cons_succ]
  refine wpFam_take (i := 8) 6 (some 29) (v := ?_) rfl (by kernel_rfl) (by kernel_rfl) (by kernel_rfl) (by kernel_rfl) (by kernel_rfl) (fun _ _ _ h => h) rfl (Or.inl ⟨by rfl, ?_⟩) (by exact rA_of HQ.out 6) ?_
  rotate_left
  · (intro w hSw; (try simp only [rA, rOf] at hSw); go_simp); (try with_reducible rfl)
  try simp only [Act.put, List.setIfInBounds_toArray, List.set_cons_zero, List.set_cons_succ]
  refine wpFam_take (i := 9) 0 (some 30) (v := ?_) rfl (by kernel_rfl) (by kernel_rfl) (by kernel_rfl) (by kernel_rfl) (by kernel_rfl) (fun _ _ _ h => h) rfl (Or.inl ⟨by rfl, ?_⟩) (by exact trivial) ?_
  rotate_left
  · (intro w hSw; (try simp only [rA, rOf] at hSw); go_simp); (try with_reducible rfl)
  try simp only [Act.put, List.setIfInBounds_toArray, List.set_cons_zero, List.set_cons_succ]
  refine wpFam_take (i := 10) 0 (some 31) (v := ?_) rfl (by kernel_rfl) (by kernel_rfl) (by kernel_rfl) (by kernel_rfl) (by kernel_rfl) (fun _ _ _ h => h) rfl (Or.inl ⟨by rfl, ?_⟩) (by exact trivial) ?_
  rotate_left
  · (intro w hSw; (try simp only [rA, rOf] at hSw); go_simp); (try with_reducible rfl)
  try simp only [Act.put, List.setIfInBounds_toArray, List.set_cons_zero, List.set_cons_succ]
  refine wpFam_ready (rs := [11]) (by kernel_rfl) (by simp) ?_
  refine AllReadyF.cons (i := 11) rfl (fun K hK => ?_) ?_
  ·
    refine step_call Tryz.func67 (by kernel_rfl) rfl #[.int .i64 ((J.turn : Int) * 1000000 + (J.n : Int)), .string r] (by rfl) (by rfl) (by first | rfl | (simp [Act.eval, Act.put]; done)) ?_
    refine (cw.out _).mono ?_
    rintro e w1 ⟨rfl, hb⟩
    have HJ1 := Lib.hid (HJ.out.below hb)
    replace HQ := Lib.hid (HJ1.out.blk)
    clear hb
    refine ⟨_, rfl, ?_⟩
    try change K (Act.put _ (some 32) _) _
    refine hK.out _ _ ?_ ?_
    · ((intro i _ _; exact rA_of HQ.out i))
    clear hK K
    try simp only [Act.put, List.setIfInBounds_toArray, List.set_cons_zero, List.set_cons_succ]
    refine wpFam_take (i := 12) 0 (some 5) (v := ?_) rfl (by kernel_rfl) (by kernel_rfl) (by kernel_rfl) (by kernel_rfl) (by kernel_rfl) (fun _ _ _ h => h) rfl (Or.inl ⟨by rfl, ?_⟩) (by exact trivial) ?_
    rotate_left
    · (intro w hSw; (try simp only [rA, rOf] at hSw); go_simp); (try with_reducible rfl)
    try simp only [Act.put, List.setIfInBounds_toArray, List.set_cons_zero, List.set_cons_succ]
    refine wpFam_done (by kernel_rfl) ?_ _
    clear cw HQ hw1 hw2 HJ
    go_upto_region 6 with fail
    have y4 := HJ1.out.blk.cell 4
    simp [rjCells, rOf] at y4
    go_quiet (first | (go_at_call 68; with_reducible exact (quiet_same (cs.out _ (HJ1.out.below (below_drewN _ _))))))
    clear y4 cs
    replace HJ1 := Lib.hid (HJ1.out.below (below_drewN _ nq))
    by_cases hbig : H * 64 < J.b.size + W.size
    · have q1 : (H : Int) * 64 < (J.b.size : Int) + (W.size : Int) := by omega
      rw [if_pos hbig] at hR
      have HR := Lib.hid hR
      clear hR hbig
      go_wp2
      go_ret
      rw [HR.out]
      exact ⟨rfl, HJ1.out⟩
    · have q1 : (J.b.size : Int) + (W.size : Int) ≤ (H : Int) * 64 := by omega
      rw [if_neg hbig] at hR
      obtain ⟨k, hk⟩ : ∃ k, k = J.b.size / 64 := ⟨_, rfl⟩
      obtain ⟨m, hm⟩ : ∃ m, m = J.b.size % 64 := ⟨_, rfl⟩
      have hdiv : (J.b.size : Int) / 64 = (k : Int) := by omega
      have hrem : (J.b.size : Int) % 64 = (m : Int) := by omega
      obtain ⟨b, hbb⟩ : ∃ b, b = J.b ++ W := ⟨_, rfl⟩
      have hbz : b.size = J.b.size + W.size := by rw [hbb, ByteArray.size_append]
      rw [← hk, ← hbb] at hR
      obtain ⟨Y, hY⟩ : ∃ Y, Y = putF J.which b (b.size + 1) k D := ⟨_, rfl⟩
      rw [← hY] at hR
      have hFR := HFR.out
      rw [← hk, ← hm] at hFR
      have HRR := Lib.hid hR
      have HY := Lib.hid hY
      obtain ⟨mm, hmm⟩ : ∃ mm, mm = J.which * H := ⟨_, rfl⟩
      have hmz : mm ≤ 999 := by
        have : J.which * H ≤ 1 * 999 := Nat.mul_le_mul HK.out.2.1 (by omega)
        omega
      have q2 : (J.which : Int) * (H : Int) = (mm : Int) := by rw [hmm]; exact (Int.natCast_mul _ _).symm
      have HS : Hid (∀ i, D.sec J.which i = 2 + mm + i) := fun i => by unfold DS.sec; rw [← HH.out, ← hmm]
      have y0 := HJ1.out.blk.cell 0
      have y2 := HJ1.out.blk.cell 2
      have y4 := HJ1.out.blk.cell 4
      simp [rjCells, rOf] at y0 y2 y4
      have hkk : k ≤ 1000 := by omega
      have hkd : k * 64 + m = J.b.size := by omega
      have hm6 : m < 64 := by omega
      have hkW : IntKind.i64.wrap (k : Int) = (k : Int) := IntWalk.i64_in _ (by omega)
      clear hR hY hk hm hmm hbig HFR
      by_cases hm0 : 0 < m
      case' pos =>
        have hs0 := hFR hm0
        have m0 : D.may (D.sec J.which k : Int) = 0 := may_sec HK.out.2.2.2.1 HK.out.2.1 (by rw [← HH.out]; omega)
        have hsz := readS_64 HJ1.out.ref.ok (D.sec J.which k : Int)
        have cr := Lib.hid (rRead_any _ _ p D (D.sec J.which k : Int) HJ1.out.ref)
        have q3 : ((D.sec J.which k : Nat) : Int) = 2 + (mm : Int) + (k : Int) := by rw [HS.out]; omega
        rw [m0] at cr
        rw [q3] at cr hs0 hsz
        generalize D.readS (2 + (mm : Int) + (k : Int)) = s0 at cr hs0 hsz
        have hms : (m : Int) ≤ (s0.size : Int) := by
          have := congrArg ByteArray.size hs0
          rw [dropB_size] at this
          unfold takeB at this
          rw [ByteArray.size_extract] at this
          omega
        have q4 : (0 : Int) < (m : Int) := by omega
        have hs : s0.extract 0 m ++ W = dropB b (k * 64) := by rw [hbb, drop_append (by omega), ← hs0]; rfl
        have HSS := Lib.hid hs
        clear m0 hs0 q3 hFR hs hm0 hbb
        go_upto_region 18 with (first
          | (go_at_call 59; (with_reducible refine (ch.out _ HJ1.out).mono ?_); rintro e w2 ⟨rfl, rfl⟩)
          | (go_at_call 34; (with_reducible refine cr.out.mono ?_); rintro e w2 ⟨rfl, rfl⟩))
        clear cr ch hms q4 hsz
        generalize s0.extract 0 m ++ W = s at HSS ⊢
      case' neg =>
        have q4 : (m : Int) ≤ 0 := by omega
        have hs : (⟨#[]⟩ : ByteArray) ++ W = dropB b (k * 64) := by
          rw [hbb, drop_append (by omega)]
          congr 1
          apply bys_inj
          rw [bys_dropB, List.drop_eq_nil_of_le (by rw [bys_length]; omega)]
          rfl
        have HSS := Lib.hid hs
        clear hFR hs hm0 hbb
        go_upto_region 18 with (first
          | (go_at_call 59; (with_reducible refine (ch.out _ HJ1.out).mono ?_); rintro e w2 ⟨rfl, rfl⟩))
        clear ch q4
        generalize (⟨#[]⟩ : ByteArray) ++ W = s at HSS ⊢
      all_goals
        clear q1 q2 hkW hdiv hrem y0 y2 y4
        have hsz : s.size = b.size - k * 64 := by rw [HSS.out, dropB_size]
        have hsl : s.size ≤ 2000 := by omega
        go_upto_region 19 with fail
        go_loopw [12] (fun v12 wr => ∃ (i : Nat) (D1 : DS) (f : Nat), v12 = .int .i64 (i : Int) ∧ i ≤ 2000 ∧ b.size < (f + (k + i)) * 64 ∧ Hid (D1.sure.length = D.sure.length ∧ D1.done ≤ D.done + i) ∧ Hid (Y = putF J.which b f (k + i) D1) ∧ Hid (RJPost F p q w D1 (rOf sup J) wr)) (fun v12 _ => 2000 - (intOf v12).toNat)
        case atStart => exact ⟨0, D, b.size + 1, rfl, by omega, by omega, ⟨rfl, Nat.le_add_right _ _⟩, HY, HJ1⟩
        case round =>
          clear HJ1 HY
          obtain ⟨i, D1, f, rfl, hi1, hf, HL, HYr, HJ⟩ := hrel
          have hY := HYr.out
          have y0 := HJ.out.blk.cell 0
          simp [rjCells, rOf] at y0
          by_cases hlt : i * 64 < s.size
          · obtain ⟨f', rfl⟩ : ∃ f', f = f' + 1 := ⟨f - 1, by omega⟩
            unfold putF at hY
            rw [if_neg (by omega)] at hY
            obtain ⟨e, he⟩ : ∃ e, e = min s.size ((i + 1) * 64) := ⟨_, rfl⟩
            have e2 : Builtin.min_ #[3, 3] 3 #[.int .i64 (s.size : Int), .int .i64 (((i : Int) + 1) * 64)] = (pure (.int .i64 (e : Int)) : Sem Value) := by
              rw [min_two, min2_int, show mnI (s.size : Int) (((i : Int) + 1) * 64) = (e : Int) by unfold mnI; split <;> omega]; rfl
            obtain ⟨j, hj⟩ : ∃ j, j = i * 64 := ⟨_, rfl⟩
            have hji : (i : Int) * 64 = (j : Int) := by omega
            have q1 : (i : Int) * 64 < (s.size : Int) := by omega
            have hje : (j : Int) ≤ (e : Int) := by omega
            have hes : (e : Int) ≤ (s.size : Int) := by omega
            have hpt : s.extract j e = partB b ((k + i) * 64) 64 := by
              rw [hj, HSS.out]
              exact drop_part (by rw [he, HSS.out]) (by rw [← HSS.out]; omega)
            have hpz := partB_size b ((k + i) * 64) 64
            have q3 : ((D1.sec J.which (k + i) : Nat) : Int) = 2 + (mm : Int) + (k : Int) + (i : Int) := by rw [sec_eq HL.out.1, HS.out]; omega
            rw [← hpt, q3] at hY
            rw [← hpt] at hpz
            have cw := Lib.hid (fun V (G : Nat → Prop) (hG : Ref V G p D1) => rWrite_any V G p D1 (2 + (mm : Int) + (k : Int) + (i : Int)) (s.extract j e) (by have := HL.out.2; have := HK.out.2.2.1; omega) hG)
            have HL2 : Hid ((D1.write (2 + (mm : Int) + (k : Int) + (i : Int)) (s.extract j e)).sure.length = D.sure.length ∧ (D1.write (2 + (mm : Int) + (k : Int) + (i : Int)) (s.extract j e)).done ≤ D.done + (i + 1)) := ⟨by rw [DS.write_len]; exact HL.out.1, by have := D1.write_done (2 + (mm : Int) + (k : Int) + (i : Int)) (s.extract j e); have := HL.out.2; omega⟩
            generalize D1.write (2 + (mm : Int) + (k : Int) + (i : Int)) (s.extract j e) = D2 at hY cw HL2
            generalize D1.writeC (2 + (mm : Int) + (k : Int) + (i : Int)) (s.extract j e) = c at hY cw
            have HLT := Lib.hid hlt
            have HSZ := Lib.hid hsz
            have HBZ := Lib.hid hbz
            have hje2 : (i : Int) * 64 ≤ (e : Int) := by omega
            have HJI := Lib.hid hji
            clear hji hj
            clear HYr hlt hpt hpz q3
            go_upto_region 21 with fail
            replace HJ := Lib.hid (HJ.out.below ((Below.refl _ _).drew))
            have HQ := Lib.hid HJ.out.blk
            have hmn : mnI (s.size : Int) (((i : Int) + 1) * 64) = (e : Int) := by rw [he]; unfold mnI; split <;> omega
            obtain ⟨hwa, hwb, hwc, hwd, hwe⟩ := wraps5 i k mm (by omega) (by omega) (by omega)
            replace hwa := hwa.trans HJI.out
            clear hsz hbz he q1 hje2
            refine wp_region_fam (S := (rA q p (rOf sup J))) (ds := (fun _ => [])) (by kernel_rfl) ?_
            refine wpFam_take (i := 0) 0 (some 99) (v := ?_) rfl (by kernel_rfl) (by kernel_rfl) (by kernel_rfl) (by kernel_rfl) (by kernel_rfl) (fun _ _ _ h => h) rfl (Or.inl ⟨by rfl, ?_⟩) (by exact trivial) ?_
            rotate_left
            · (intro w hSw; (try simp only [rA, rOf] at hSw); go_simp); (try with_reducible rfl)
            try simp only [Act.put, List.setIfInBounds_toArray, List.set_cons_zero, List.set_cons_succ]
            refine wpFam_take (i := 1) 0 (some 100) (v := ?_) rfl (by kernel_rfl) (by kernel_rfl) (by kernel_rfl) (by kernel_rfl) (by kernel_rfl) (fun _ _ _ h => h) rfl (Or.inl ⟨by rfl, ?_⟩) (by exact trivial) ?_
            rotate_left
            · (intro w hSw; (try simp only [rA, rOf] at hSw); go_simp); (try with_reducible rfl)
            try simp only [Act.put, List.setIfInBounds_toArray, List.set_cons_zero, List.set_cons_succ]
            refine wpFam_take (i := 2) 0 (some 101) (v := ?_) rfl (by kernel_rfl) (by kernel_rfl) (by kernel_rfl) (by kernel_rfl) (by kernel_rfl) (fun _ _ _ h => h) rfl (Or.inl ⟨by rfl, ?_⟩) (by exact trivial) ?_
            rotate_left
            · (intro w hSw; (try simp only [rA, rOf] at hSw); go_simp); (try with_reducible rfl)
            try simp only [Act.put, List.setIfInBounds_toArray, List.set_cons_zero, List.set_cons_succ]
            refine wpFam_take (i := 3) 1 (some 102) (v := ?_) rfl (by kernel_rfl) (by kernel_rfl) (by kernel_rfl) (by kernel_rfl) (by kernel_rfl) (fun _ _ _ h => h) rfl (Or.inl ⟨by rfl, ?_⟩) (by exact rA_of HQ.out 1) ?_
            rotate_left
            · (intro w hSw; (try simp only [rA, rOf] at hSw); go_simp); (try with_reducible rfl)
            try simp only [Act.put, List.setIfInBounds_toArray, List.set_cons_zero, List.set_cons_succ]
            refine wpFam_take (i := 4) 0 (some 103) (v := ?_) rfl (by kernel_rfl) (by kernel_rfl) (by kernel_rfl) (by kernel_rfl) (by kernel_rfl) (fun _ _ _ h => h) rfl (Or.inl ⟨by rfl, ?_⟩) (by exact trivial) ?_
            rotate_left
            · (intro w hSw; (try simp only [rA, rOf] at hSw); go_simp); (try with_reducible rfl)
            try simp only [Act.put, List.setIfInBounds_toArray, List.set_cons_zero, List.set_cons_succ]
            refine wpFam_take (i := 5) 0 (some 104) (v := ?_) rfl (by kernel_rfl) (by kernel_rfl) (by kernel_rfl) (by kernel_rfl) (by kernel_rfl) (fun _ _ _ h => h) rfl (Or.inl ⟨by rfl, ?_⟩) (by exact trivial) ?_
            rotate_left
            · (intro w hSw; (try simp only [rA, rOf] at hSw); go_simp); (try with_reducible rfl)
            try simp only [Act.put, List.setIfInBounds_toArray, List.set_cons_zero, List.set_cons_succ]
            refine wpFam_take (i := 6) 0 (some 105) (v := ?_) rfl (by kernel_rfl) (by kernel_rfl) (by kernel_rfl) (by kernel_rfl) (by kernel_rfl) (fun _ _ _ h => h) rfl (Or.inl ⟨by rfl, ?_⟩) (by exact trivial) ?_
            rotate_left
            · (intro w hSw; (try simp only [rA, rOf] at hSw); go_simp); (try with_reducible rfl)
            try simp only [Act.put, List.setIfInBounds_toArray, List.set_cons_zero, List.set_cons_succ]
            refine wpFam_take (i := 7) 0 (some 106) (v := ?_) rfl (by kernel_rfl) (by kernel_rfl) (by kernel_rfl) (by kernel_rfl) (by kernel_rfl) (fun _ _ _ h => h) rfl (Or.inl ⟨by rfl, ?_⟩) (by exact trivial) ?_
            rotate_left
            · (intro w hSw; (try simp only [rA, rOf] at hSw); go_simp); (try with_reducible rfl)
            try simp only [Act.put, List.setIfInBounds_toArray, List.set_cons_zero, List.set_cons_succ]
            refine wpFam_take (i := 8) 0 (some 107) (v := ?_) rfl (by kernel_rfl) (by kernel_rfl) (by kernel_rfl) (by kernel_rfl) (by kernel_rfl) (fun _ _ _ h => h) rfl (Or.inl ⟨by rfl, ?_⟩) (by exact trivial) ?_
            rotate_left
            · (intro w hSw; (try simp only [rA, rOf] at hSw); go_simp); (try with_reducible rfl)
            try simp only [Act.put, List.setIfInBounds_toArray, List.set_cons_zero, List.set_cons_succ]
            refine wpFam_take (i := 9) 0 (some 108) (v := ?_) rfl (by kernel_rfl) (by kernel_rfl) (by kernel_rfl) (by kernel_rfl) (by kernel_rfl) (fun _ _ _ h => h) rfl (Or.inl ⟨by rfl, ?_⟩) (by exact trivial) ?_
            rotate_left
            · (intro w hSw; (try simp only [rA, rOf] at hSw); go_simp); (try with_reducible rfl)
            try simp only [Act.put, List.setIfInBounds_toArray, List.set_cons_zero, List.set_cons_succ]
            refine wpFam_take (i := 10) 0 (some 109) (v := ?_) rfl (by kernel_rfl) (by kernel_rfl) (by kernel_rfl) (by kernel_rfl) (by kernel_rfl) (fun _ _ _ h => h) rfl (Or.inl ⟨by rfl, ?_⟩) (by exact trivial) ?_
            rotate_left
            · (intro w hSw; (try simp only [rA, rOf] at hSw); go_simp); (try with_reducible rfl)
            try simp only [Act.put, List.setIfInBounds_toArray, List.set_cons_zero, List.set_cons_succ]
            refine wpFam_take (i := 11) 0 (some 110) (v := ?_) rfl (by kernel_rfl) (by kernel_rfl) (by kernel_rfl) (by kernel_rfl) (by kernel_rfl) (fun _ _ _ h => h) rfl (Or.inl ⟨by rfl, ?_⟩) (by exact trivial) ?_
            rotate_left
            · (intro w hSw; (try simp only [rA, rOf] at hSw); go_simp); (try with_reducible rfl)
            try simp only [Act.put, List.setIfInBounds_toArray, List.set_cons_zero, List.set_cons_succ]
            refine wpFam_take (i := 12) 0 (some 111) (v := ?_) rfl (by kernel_rfl) (by kernel_rfl) (by kernel_rfl) (by kernel_rfl) (by kernel_rfl) (fun _ _ _ h => h) rfl (Or.inl ⟨by rfl, ?_⟩) (by exact trivial) ?_
            rotate_left
            · (intro w hSw; (try simp only [rA, rOf] at hSw); go_simp); (try with_reducible rfl)
            try simp only [Act.put, List.setIfInBounds_toArray, List.set_cons_zero, List.set_cons_succ]
            refine wpFam_take (i := 13) 0 (some 112) (v := ?_) rfl (by kernel_rfl) (by kernel_rfl) (by kernel_rfl) (by kernel_rfl) (by kernel_rfl) (fun _ _ _ h => h) rfl (Or.inl ⟨by rfl, ?_⟩) (by exact trivial) ?_
            rotate_left
            · (intro w hSw; (try simp only [rA, rOf] at hSw); go_simp); (try with_reducible rfl)
            try simp only [Act.put, List.setIfInBounds_toArray, List.set_cons_zero, List.set_cons_succ]
            refine wpFam_take (i := 14) 0 (some 113) (v := ?_) rfl (by kernel_rfl) (by kernel_rfl) (by kernel_rfl) (by kernel_rfl) (by kernel_rfl) (fun _ _ _ h => h) rfl (Or.inl ⟨by rfl, ?_⟩) (by exact trivial) ?_
            rotate_left
            · (intro w hSw; (try simp only [rA, rOf] at hSw); go_simp); (try with_reducible rfl)
            try simp only [Act.put, List.setIfInBounds_toArray, List.set_cons_zero, List.set_cons_succ]
            refine wpFam_take (i := 15) 0 (some 114) (v := ?_) rfl (by kernel_rfl) (by kernel_rfl) (by kernel_rfl) (by kernel_rfl) (by kernel_rfl) (fun _ _ _ h => h) rfl (Or.inl ⟨by rfl, ?_⟩) (by exact trivial) ?_
            rotate_left
            · (intro w hSw; (try simp only [rA, rOf] at hSw); go_simp); (try with_reducible rfl)
            try simp only [Act.put, List.setIfInBounds_toArray, List.set_cons_zero, List.set_cons_succ]
            refine wpFam_take (i := 16) 0 (some 115) (v := ?_) rfl (by kernel_rfl) (by kernel_rfl) (by kernel_rfl) (by kernel_rfl) (by kernel_rfl) (fun _ _ _ h => h) rfl (Or.inl ⟨by rfl, ?_⟩) (by exact trivial) ?_
            rotate_left
            · (intro w hSw; (try simp only [rA, rOf] at hSw); go_simp); (try with_reducible rfl)
            try simp only [Act.put, List.setIfInBounds_toArray, List.set_cons_zero, List.set_cons_succ]
            refine wpFam_take (i := 17) 0 (some 116) (v := ?_) rfl (by kernel_rfl) (by kernel_rfl) (by kernel_rfl) (by kernel_rfl) (by kernel_rfl) (fun _ _ _ h => h) rfl (Or.inl ⟨by rfl, ?_⟩) (by exact trivial) ?_
            rotate_left
            · (intro w hSw; (try simp only [rA, rOf] at hSw); go_simp); (try with_reducible rfl)
            try simp only [Act.put, List.setIfInBounds_toArray, List.set_cons_zero, List.set_cons_succ]
            refine wpFam_take (i := 18) 0 (some 117) (v := ?_) rfl (by kernel_rfl) (by kernel_rfl) (by kernel_rfl) (by kernel_rfl) (by kernel_rfl) (fun _ _ _ h => h) rfl (Or.inl ⟨by rfl, ?_⟩) (by exact trivial) ?_
            rotate_left
            · (intro w hSw; (try simp only [rA, rOf] at hSw); go_simp); (try with_reducible rfl)
            try simp only [Act.put, List.setIfInBounds_toArray, List.set_cons_zero, List.set_cons_succ]
            refine wpFam_ready (rs := [19]) (by kernel_rfl) (by simp) ?_
            refine AllReadyF.cons (i := 19) rfl (fun K hK => ?_) ?_
            ·
              refine step_call Tryz.func58 (by kernel_rfl) rfl #[.pointer (some ⟨p, 0, none⟩), .int .i64 (2 + (mm : Int) + (k : Int) + (i : Int)), .string (s.extract j e)] (by rfl) (by rfl) (by first | rfl | (simp [Act.eval, Act.put]; done)) ?_
              refine (cw.out _ _ HJ.out.ref).mono ?_
              rintro e' w7 ⟨rfl, hp⟩
              have HJ3 := Lib.hid (HJ.out.disk HNQ.out.1 HNQ.out.2 hp)
              replace HQ := Lib.hid (HJ3.out.blk)
              clear hp
              refine ⟨_, rfl, ?_⟩
              try change K (Act.put _ (some 118) _) _
              refine hK.out _ _ ?_ ?_
              · ((intro i _ _; exact rA_of HQ.out i))
              clear hK K
              try simp only [Act.put, List.setIfInBounds_toArray, List.set_cons_zero, List.set_cons_succ]
              refine wpFam_take (i := 20) 0 (some 13) (v := ?_) rfl (by kernel_rfl) (by kernel_rfl) (by kernel_rfl) (by kernel_rfl) (by kernel_rfl) (fun _ _ _ h => h) rfl (Or.inl ⟨by rfl, ?_⟩) (by exact trivial) ?_
              rotate_left
              · (intro w hSw; (try simp only [rA, rOf] at hSw); go_simp); (try with_reducible rfl)
              try simp only [Act.put, List.setIfInBounds_toArray, List.set_cons_zero, List.set_cons_succ]
              refine wpFam_done (by kernel_rfl) ?_ _
              clear e2 hje hes HQ cw hmn hwa hwb hwc hwd hwe
              by_cases hc0 : c = 0
              · subst hc0
                rw [if_neg (by decide)] at hY
                have HY2 := Lib.hid hY
                have hlt := HLT.out
                have hsz := HSZ.out
                have hbz := HBZ.out
                clear hY y0
                go_wp2
                go_roundw
                case rel => exact ⟨i + 1, D2, f', by go_num, by omega, by omega, HL2, HY2, HJ3⟩
                case measure => simp [intOf]; omega
              · rw [if_pos hc0] at hY
                have HY2 := Lib.hid hY
                have cz := Lib.hid (rdies_any _ p q D2 (rOf sup J) c _ HJ3.out.ref HJ3.out.blk)
                have hC : (rOf sup J).dies c = rOf sup { J with dead := true } := by unfold RS.dies rOf; simp [hc0]
                rw [hC] at cz
                have HC := Lib.hid hc0
                have t2 : (c == 0) = false := beq_eq_false_iff_ne.2 hc0
                have t3 : (c != 0) = true := by rw [bne, t2]; rfl
                clear hY hc0 hC y0
                go_wp2_with (go_at_call 69; (with_reducible refine cz.out.mono ?_); rintro e w8 ⟨rfl, hp⟩; have HJ4 := Lib.hid (HJ3.out.then HNQ.out.1 HNQ.out.2 hp); clear hp)
                go_ret
                have hr := HRR.out
                rw [HY2.out, if_pos (show (D2, c).2 ≠ 0 from HC.out)] at hr
                rw [hr]
                exact ⟨rfl, HJ4.out⟩
            exact AllReadyF.nil
          · have hY0 : Y = (D1, 0) := by
              rw [hY]
              cases f with
              | zero => rfl
              | succ f =>
                unfold putF
                rw [if_pos (by omega)]
            have q1 : (s.size : Int) ≤ (i : Int) * 64 := by omega
            have hr := HRR.out
            rw [hY0, if_neg (show ¬ ((D1, (0 : Int)).2 ≠ 0) from fun h => h rfl)] at hr
            have HR3 := Lib.hid hr
            have hnb : J.b.size ≤ 63936 ∧ b.size ≤ 100000 := by omega
            have hbI : (J.b.size : Int) + (W.size : Int) = (b.size : Int) := by omega
            have hnI : (J.n : Int) + 1 = ((J.n + 1 : Nat) : Int) := by omega
            clear hY hY0 hr hlt HYr hsz
            go_upto_region 24 with fail
            have z4 := HJ.out.blk.cell 4
            have z5 := HJ.out.blk.cell 5
            have g4 := HJ.out.blk.frozen 4
            have g5 := HJ.out.blk.frozen 5
            simp [rjCells, rOf] at z4 z5
            replace HJ := Lib.hid (HJ.out.below ((Below.refl _ _).drew))
            have HQ := Lib.hid HJ.out.blk
            have hwf := (IntWalk.i64_in ((J.b.size : Int) + (W.size : Int)) (by omega)).trans hbI
            have hwg := (IntWalk.i64_in ((J.n : Int) + 1) (by clear hwf; omega)).trans hnI
            clear hbI hnI q1 y0 hbz
            refine wp_region_fam (S := (rA q p (rOf sup J))) (ds := rD1619) (by kernel_rfl) ?_
            refine wpFam_take (i := 0) 0 (some 124) (v := ?_) rfl (by kernel_rfl) (by kernel_rfl) (by kernel_rfl) (by kernel_rfl) (by kernel_rfl) (fun _ _ _ h => h) rfl (Or.inl ⟨by rfl, ?_⟩) (by exact trivial) ?_
            rotate_left
            · (intro w hSw; (try simp only [rA, rOf] at hSw); go_simp); (try with_reducible rfl)
            try simp only [Act.put, List.setIfInBounds_toArray, List.set_cons_zero, List.set_cons_succ]
            refine wpFam_take (i := 1) 0 (some 125) (v := ?_) rfl (by kernel_rfl) (by kernel_rfl) (by kernel_rfl) (by kernel_rfl) (by kernel_rfl) (fun _ _ _ h => h) rfl (Or.inl ⟨by rfl, ?_⟩) (by exact trivial) ?_
            rotate_left
            · (intro w hSw; (try simp only [rA, rOf] at hSw); go_simp); (try with_reducible rfl)
            try simp only [Act.put, List.setIfInBounds_toArray, List.set_cons_zero, List.set_cons_succ]
            refine wpFam_take (i := 2) 0 (some 126) (v := ?_) rfl (by kernel_rfl) (by kernel_rfl) (by kernel_rfl) (by kernel_rfl) (by kernel_rfl) (fun _ _ _ h => h) rfl (Or.inl ⟨by rfl, ?_⟩) (by exact trivial) ?_
            rotate_left
            · (intro w hSw; (try simp only [rA, rOf] at hSw); go_simp); (try with_reducible rfl)
            try simp only [Act.put, List.setIfInBounds_toArray, List.set_cons_zero, List.set_cons_succ]
            refine wpFam_take (i := 3) 0 (some 127) (v := ?_) rfl (by kernel_rfl) (by kernel_rfl) (by kernel_rfl) (by kernel_rfl) (by kernel_rfl) (fun _ _ _ h => h) rfl (Or.inl ⟨by rfl, ?_⟩) (by exact trivial) ?_
            rotate_left
            · (intro w hSw; (try simp only [rA, rOf] at hSw); go_simp); (try with_reducible rfl)
            try simp only [Act.put, List.setIfInBounds_toArray, List.set_cons_zero, List.set_cons_succ]
            refine wpFam_take (i := 4) 0 (some 128) (v := ?_) rfl (by kernel_rfl) (by kernel_rfl) (by kernel_rfl) (by kernel_rfl) (by kernel_rfl) (fun _ _ _ h => h) rfl (Or.inl ⟨by rfl, ?_⟩) (by exact trivial) ?_
            rotate_left
            · (intro w hSw; (try simp only [rA, rOf] at hSw); go_simp); (try with_reducible rfl)
            try simp only [Act.put, List.setIfInBounds_toArray, List.set_cons_zero, List.set_cons_succ]
            refine wpFam_take (i := 5) 5 (some 129) (v := ?_) rfl (by kernel_rfl) (by kernel_rfl) (by kernel_rfl) (by kernel_rfl) (by kernel_rfl) (fun _ _ _ h => h) rfl (Or.inl ⟨by rfl, ?_⟩) (by exact rA_of HQ.out 5) ?_
            rotate_left
            · (intro w hSw; (try simp only [rA, rOf] at hSw); go_simp); (try with_reducible rfl)
            try simp only [Act.put, List.setIfInBounds_toArray, List.set_cons_zero, List.set_cons_succ]
            refine wpFam_take (i := 6) 0 (some 130) (v := ?_) rfl (by kernel_rfl) (by kernel_rfl) (by kernel_rfl) (by kernel_rfl) (by kernel_rfl) (fun _ _ _ h => h) rfl (Or.inl ⟨by rfl, ?_⟩) (by exact trivial) ?_
            rotate_left
            · (intro w hSw; (try simp only [rA, rOf] at hSw); go_simp); (try with_reducible rfl)
            try simp only [Act.put, List.setIfInBounds_toArray, List.set_cons_zero, List.set_cons_succ]
            refine wpFam_take (i := 7) 0 (some 131) (v := ?_) rfl (by kernel_rfl) (by kernel_rfl) (by kernel_rfl) (by kernel_rfl) (by kernel_rfl) (fun _ _ _ h => h) rfl (Or.inl ⟨by rfl, ?_⟩) (by exact trivial) ?_
            rotate_left
            · (intro w hSw; (try simp only [rA, rOf] at hSw); go_simp); (try with_reducible rfl)
            try simp only [Act.put, List.setIfInBounds_toArray, List.set_cons_zero, List.set_cons_succ]
            refine wpFam_take (i := 8) 0 (some 132) (v := ?_) rfl (by kernel_rfl) (by kernel_rfl) (by kernel_rfl) (by kernel_rfl) (by kernel_rfl) (fun _ _ _ h => h) rfl (Or.inl ⟨by rfl, ?_⟩) (by exact trivial) ?_
            rotate_left
            · (intro w hSw; (try simp only [rA, rOf] at hSw); go_simp); (try with_reducible rfl)
            try simp only [Act.put, List.setIfInBounds_toArray, List.set_cons_zero, List.set_cons_succ]
            refine wpFam_take (i := 9) 0 (some 133) (v := ?_) rfl (by kernel_rfl) (by kernel_rfl) (by kernel_rfl) (by kernel_rfl) (by kernel_rfl) (fun _ _ _ h => h) rfl (Or.inl ⟨by rfl, ?_⟩) (by exact trivial) ?_
            rotate_left
            · (intro w hSw; (try simp only [rA, rOf] at hSw); go_simp); (try with_reducible rfl)
            try simp only [Act.put, List.setIfInBounds_toArray, List.set_cons_zero, List.set_cons_succ]
            refine wpFam_take (i := 10) 0 (some 134) (v := ?_) rfl (by kernel_rfl) (by kernel_rfl) (by kernel_rfl) (by kernel_rfl) (by kernel_rfl) (fun _ _ _ h => h) rfl (Or.inl ⟨by rfl, ?_⟩) (by exact trivial) ?_
            rotate_left
            · (intro w hSw; (try simp only [rA, rOf] at hSw); go_simp); (try with_reducible rfl)
            try simp only [Act.put, List.setIfInBounds_toArray, List.set_cons_zero, List.set_cons_succ]
            refine wpFam_take (i := 11) 0 (some 135) (v := ?_) rfl (by kernel_rfl) (by kernel_rfl) (by kernel_rfl) (by kernel_rfl) (by kernel_rfl) (fun _ _ _ h => h) rfl (Or.inl ⟨by rfl, ?_⟩) (by exact trivial) ?_
            rotate_left
            · (intro w hSw; (try simp only [rA, rOf] at hSw); go_simp); (try with_reducible rfl)
            try simp only [Act.put, List.setIfInBounds_toArray, List.set_cons_zero, List.set_cons_succ]
            refine wpFam_take (i := 12) 6 (some 136) (v := ?_) rfl (by kernel_rfl) (by kernel_rfl) (by kernel_rfl) (by kernel_rfl) (by kernel_rfl) (fun _ _ _ h => h) rfl (Or.inl ⟨by rfl, ?_⟩) (by exact rA_of HQ.out 6) ?_
            rotate_left
            · (intro w hSw; (try simp only [rA, rOf] at hSw); go_simp); (try with_reducible rfl)
            try simp only [Act.put, List.setIfInBounds_toArray, List.set_cons_zero, List.set_cons_succ]
            refine wpFam_take (i := 13) 0 (some 137) (v := ?_) rfl (by kernel_rfl) (by kernel_rfl) (by kernel_rfl) (by kernel_rfl) (by kernel_rfl) (fun _ _ _ h => h) rfl (Or.inl ⟨by rfl, ?_⟩) (by exact trivial) ?_
            rotate_left
            · (intro w hSw; (try simp only [rA, rOf] at hSw); go_simp); (try with_reducible rfl)
            try simp only [Act.put, List.setIfInBounds_toArray, List.set_cons_zero, List.set_cons_succ]
            refine wpFam_take (i := 14) 0 (some 138) (v := ?_) rfl (by kernel_rfl) (by kernel_rfl) (by kernel_rfl) (by kernel_rfl) (by kernel_rfl) (fun _ _ _ h => h) rfl (Or.inl ⟨by rfl, ?_⟩) (by exact trivial) ?_
            rotate_left
            · (intro w hSw; (try simp only [rA, rOf] at hSw); go_simp); (try with_reducible rfl)
            try simp only [Act.put, List.setIfInBounds_toArray, List.set_cons_zero, List.set_cons_succ]
            refine wpFam_take (i := 15) 0 (some 139) (v := ?_) rfl (by kernel_rfl) (by kernel_rfl) (by kernel_rfl) (by kernel_rfl) (by kernel_rfl) (fun _ _ _ h => h) rfl (Or.inl ⟨by rfl, ?_⟩) (by exact trivial) ?_
            rotate_left
            · (intro w hSw; (try simp only [rA, rOf] at hSw); go_simp); (try with_reducible rfl)
            try simp only [Act.put, List.setIfInBounds_toArray, List.set_cons_zero, List.set_cons_succ]
            refine wpFam_ready (rs := [16]) (by kernel_rfl) (by simp) ?_
            refine AllReadyF.cons (i := 16) rfl (fun K hK => ?_) ?_
            ·
              go_simp
              replace HJ := Lib.hid (HJ.out.set 4 (.int .i64 (b.size : Int)) (J2 := { rOf sup J with fin := b.size }) (by simp [rjCells, rOf]))
              replace HQ := Lib.hid HJ.out.blk
              refine hK.out _ _ ?_ ?_
              · ((intro q' hq _; match q', hq with | 0, _ => exact trivial | n + 1, hq => exact absurd (by simp [rD1619]) hq))
              clear hK K
              try simp only [Act.put, List.setIfInBounds_toArray, List.set_cons_zero, List.set_cons_succ]
              refine wpFam_take (i := 17) 0 (some 140) (v := ?_) rfl (by kernel_rfl) (by kernel_rfl) (by kernel_rfl) (by kernel_rfl) (by kernel_rfl) (fun _ _ _ h => h) rfl (Or.inl ⟨by rfl, ?_⟩) (by exact trivial) ?_
              rotate_left
              · (intro w hSw; (try simp only [rA, rOf] at hSw); go_simp); (try with_reducible rfl)
              try simp only [Act.put, List.setIfInBounds_toArray, List.set_cons_zero, List.set_cons_succ]
              refine wpFam_take (i := 18) 0 (some 141) (v := ?_) rfl (by kernel_rfl) (by kernel_rfl) (by kernel_rfl) (by kernel_rfl) (by kernel_rfl) (fun _ _ _ h => h) rfl (Or.inl ⟨by rfl, ?_⟩) (by exact trivial) ?_
              rotate_left
              · (intro w hSw; (try simp only [rA, rOf] at hSw); go_simp); (try with_reducible rfl)
              try simp only [Act.put, List.setIfInBounds_toArray, List.set_cons_zero, List.set_cons_succ]
              refine wpFam_ready (rs := [19]) (by kernel_rfl) (by simp) ?_
              refine AllReadyF.cons (i := 19) rfl (fun K hK => ?_) ?_
              ·
                go_simp
                replace HJ := Lib.hid (HJ.out.set 5 (.int .i64 ((J.n + 1 : Nat) : Int)) (J2 := rOf sup { J with b := b, n := J.n + 1 }) (by simp [rjCells, rOf]))
                replace HQ := Lib.hid HJ.out.blk
                refine hK.out _ _ ?_ ?_
                · ((intro q' hq _; match q', hq with | 0, _ => exact trivial | n + 1, hq => exact absurd (by simp [rD1619]) hq))
                clear hK K
                try simp only [Act.put, List.setIfInBounds_toArray, List.set_cons_zero, List.set_cons_succ]
                refine wpFam_done (by kernel_rfl) ?_ _
                go_wp2
                go_ret
                rw [HR3.out]
                exact ⟨rfl, HJ.out⟩
              exact AllReadyF.nil
            exact AllReadyF.nil
  exact AllReadyF.nil
end Go.Proofs.YtjincmagbbpooaaGreatDoor

