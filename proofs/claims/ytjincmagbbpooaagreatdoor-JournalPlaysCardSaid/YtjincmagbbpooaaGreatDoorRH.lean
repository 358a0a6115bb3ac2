import Derived.Test.YtjincmagbbpooaaGreatDoorRH0
set_option linter.unusedVariables false
set_option linter.unusedSimpArgs false
namespace Go.Proofs.YtjincmagbbpooaaGreatDoor
open Go.RowKit
attribute [local go_sem] max2_int max_two min2_int min_two

/-! ### the document's Compact -/
theorem wraps7 (i mm oth H which : Nat) (hm : (oth : Int) * (H : Int) = (mm : Int)) (ho : oth = 1 - which) (h1 : i ≤ 100000) (h2 : mm ≤ 100000) (h3 : H ≤ 100000) (h4 : which ≤ 1) :
    IntKind.i64.wrap ((i : Int) * 64) = (i : Int) * 64 ∧ IntKind.i64.wrap ((i : Int) + 1) = (i : Int) + 1 ∧ IntKind.i64.wrap (((i : Int) + 1) * 64) = ((i : Int) + 1) * 64 ∧
      IntKind.i64.wrap (2 + (mm : Int)) = 2 + (mm : Int) ∧ IntKind.i64.wrap (2 + (mm : Int) + (i : Int)) = 2 + (mm : Int) + (i : Int) ∧ IntKind.i64.wrap (1 - (which : Int)) = (oth : Int) ∧ IntKind.i64.wrap ((oth : Int) * (H : Int)) = (mm : Int) :=
  ⟨IntWalk.i64_in _ (by omega), IntWalk.i64_in _ (by omega), IntWalk.i64_in _ (by omega), IntWalk.i64_in _ (by omega), IntWalk.i64_in _ (by omega), (IntWalk.i64_in _ (by omega)).trans (by omega), by rw [hm]; exact IntWalk.i64_in _ (by omega)⟩
theorem rdies_dead (F : Nat → Prop) (p q sup : Nat) (D : DS) (J : JS) (c : Int) (hc : c ≠ 0) (w : World) (h : Ref w F p D) (hq : Blk w q 63 (rjCells p (rOf sup J))) :
    Calls Tryz.prog 69 #[.pointer (some ⟨q, 0, none⟩), .int .i64 c] w fun e w' => e = .returned (.int .i64 c) ∧ RJPost F p q w D (rOf sup { J with dead := true }) w' := by
  have := rdies_any F p q D (rOf sup J) c w h hq
  have hC : (rOf sup J).dies c = rOf sup { J with dead := true } := by unfold RS.dies rOf; simp [hc]
  rw [hC] at this
  exact this
set_option maxHeartbeats 32000000 in
set_option maxRecDepth 100000 in
theorem rCompact_any (F : Nat → Prop) (p q sup : Nat) (D : DS) (J : JS) (a : Option Addr) (cap : Nat) (rs : List ByteArray) (w : World) (h : Ref w F p D) (hq : Blk w q 63 (rjCells p (rOf sup J))) (hn : ¬ F q) (h2 : 2 ≤ D.sure.length)
    (ht : J.turn ≤ 3000) (hwh : J.which ≤ 1) (hl : rs.length ≤ 100) (hs : ∀ r ∈ rs, r.size ≤ 1000) (ha : SlOf mkS w a rs) (hd : D.done < 1099510000000 - 1000) (hal : J.dead = false → D.dead = false)
    (hsup : J.dead = false → ((readB (D.v 0)).1 = J.turn ↔ sup = 0)) (hs1 : sup ≤ 1) :
    Calls Tryz.prog 30 #[.pointer (some ⟨q, 0, none⟩), .slice a rs.length cap] w fun e w' => e = .returned (.int .i64 (compactJ D J rs).2.2) ∧ RJPost F p q w (compactJ D J rs).1 (rOf (if (compactJ D J rs).2.2 = 0 then 1 - sup else sup) (compactJ D J rs).2.1) w' := by
  obtain ⟨z, hz⟩ : ∃ z, z = if (compactJ D J rs).2.2 = 0 then 1 - sup else sup := ⟨_, rfl⟩
  rw [← hz]
  have HJ := Lib.hid (RJPost.start h hq)
  have HNQ := Lib.hid (And.intro hn hq.lt)
  have x6 := hq.cell 6
  simp [rjCells, rOf] at x6
  cases hdd : J.dead
  case true =>
    have hR : compactJ D J rs = (D, J, 25) := by unfold compactJ; rw [if_pos hdd]
    rw [hR] at hz
    simp only at hz
    rw [if_neg (by decide)] at hz
    subst hz
    rw [hdd] at x6
    rw [hR]
    clear h hq hdd hn hR hal hsup ht hwh hs1 hl hs ha hd
    go_enter Tryz.func30, Tryz.ntmps30
    go_wp2
    go_ret
    exact ⟨rfl, HJ.out⟩
  rw [hdd] at x6
  have hR := compact_doc D J rs hdd
  have hD := hal hdd
  have hhz := half_le h.ok
  obtain ⟨T, hT⟩ : ∃ T, T = J.turn + 1 := ⟨_, rfl⟩
  obtain ⟨b, hb⟩ : ∃ b, b = framesB (J.turn + 1) 0 rs := ⟨_, rfl⟩
  have hfz := framesB_size T (by omega) rs 0 (by omega) hs
  have hlays := lays_doc (b := b) h.ok hD h2 hwh (hsup hdd) hs1 (by omega)
  rw [← hb] at hR
  rw [hlays] at hR
  unfold laysR at hR
  have cs := Lib.hid (fun V (k : RJPost F p q w D (rOf sup J) V) => rsize_any _ p q D (rOf sup J) V k.ref k.blk h2)
  have ch := Lib.hid (fun V (k : RJPost F p q w D (rOf sup J) V) => rhalf_any V _ p D h2 k.ref)
  have HK := Lib.hid (And.intro h2 (And.intro hwh (And.intro hd (And.intro hD (And.intro hdd hs1)))))
  have HS := Lib.hid (And.intro hs ha)
  obtain ⟨H, hH⟩ : ∃ H, H = D.half := ⟨_, rfl⟩
  obtain ⟨oth, hoth⟩ : ∃ oth, oth = 1 - J.which := ⟨_, rfl⟩
  obtain ⟨sup', hsup'⟩ : ∃ sup', sup' = 1 - sup := ⟨_, rfl⟩
  obtain ⟨Y, hY⟩ : ∃ Y, Y = fillF oth b H 0 D := ⟨_, rfl⟩
  rw [← hH] at cs ch hhz
  rw [← hoth, ← hH, ← hY, ← hsup', ← hT] at hR
  rw [← hsup'] at hz
  have HH := Lib.hid hH
  have HO := Lib.hid (And.intro hoth (And.intro hsup' hT))
  have HZ := Lib.hid hz
  have HY := Lib.hid hY
  rw [← hT] at hb
  generalize hRR : compactJ D J rs = R at hR HZ ⊢
  have HR := Lib.hid hR
  obtain ⟨n, hnn⟩ : ∃ n, n = rs.length := ⟨_, rfl⟩
  have HN := Lib.hid hnn
  rw [← hnn] at hl hfz ⊢
  have HBB := Lib.hid hb
  have hbz : b.size ≤ 1100000 := by rw [hb]; omega
  have HJ0 := HJ
  have htt : T ≤ 3001 := by omega
  clear h hq hdd hn hal hsup hs ha hD h2 hd hz hR hnn hb hH hsup' hoth hY hlays hRR hfz HJ
  go_enter Tryz.func30, Tryz.ntmps30
  go_upto_region 5 with fail
  go_loopg [5, 6] n (fun kq v5 v6 wr => ∃ i : Nat, v5 = .string (framesB T 0 (rs.take i)) ∧ v6 = .int .i64 (i : Int) ∧ i + kq = n ∧ Hid (Below w.heap.size w wr))
  case atStart => exact ⟨0, rfl, rfl, by omega, Below.refl _ _⟩
  case round =>
    clear x6
    obtain ⟨i, rfl, rfl, hi, HB⟩ := hrel
    by_cases hlt : i < n
    · obtain ⟨r, hr⟩ : ∃ r, rs[i]? = some r := ⟨_, List.getElem?_eq_getElem (by rw [← HN.out]; exact hlt)⟩
      obtain ⟨k', rfl⟩ : ∃ k', gk = k' + 1 := ⟨gk - 1, by omega⟩
      have hrz := HS.out.1 r (List.mem_of_getElem? hr)
      have HRI := Lib.hid hr
      obtain ⟨ab, ao, ea, c0⟩ := (HS.out.2.below HB.out) i r hr
      subst ea
      simp only [mkS] at c0
      have q0 : (0 : Int) ≤ (i : Int) := by omega
      have q1 : (i : Int) < (n : Int) := by omega
      have q2 : (r.size : Int) ≤ 2010 := by omega
      have hf1 := framesB_size T (by omega) (rs.take i) 0 (by rw [List.length_take]; omega) (fun x hx => HS.out.1 x (List.mem_of_mem_take hx))
      have hf2 := wrapS_size (T * 1000000 + i) r (by omega) hrz
      rw [List.length_take] at hf1
      have hnx : framesB T 0 (rs.take (i + 1)) = framesB T 0 (rs.take i) ++ wrapS (T * 1000000 + i) r := by
        rw [List.take_add_one, hr]
        show framesB T 0 (rs.take i ++ [r]) = _
        rw [framesB_snoc, List.length_take]
        congr 4
        have := HN.out
        omega
      have hcz : (framesB T 0 (rs.take i)).size ≤ 1102000 := by omega
      have cw := Lib.hid (fun V => rWrap_gen (((J.turn : Int) + 1) * 1000000 + (i : Int)) (T * 1000000 + i) r (by have := HO.out.2.2; unfold mxI; split <;> omega) (by omega) hrz V)
      generalize wrapS (T * 1000000 + i) r = fr at cw hnx hf2
      generalize framesB T 0 (rs.take i) = acc at hnx hcz ⊢
      have hcat : acc.size + fr.size ≤ 9223372036854775807 := by omega
      have HNX := Lib.hid hnx
      have hTI : (J.turn : Int) + 1 = (T : Int) := by have := HO.out.2.2; omega
      have hwa : IntKind.i64.wrap (((J.turn : Int) + 1) * 1000000) = ((J.turn : Int) + 1) * 1000000 := IntWalk.i64_in _ (by omega)
      clear hTI
      have hk1 : IntKind.i64.wrap ((J.turn : Int) + 1) = (J.turn : Int) + 1 := IntWalk.i64_in _ (by clear hwa; omega)
      have hwb : IntKind.i64.wrap (((J.turn : Int) + 1) * 1000000 + (i : Int)) = ((J.turn : Int) + 1) * 1000000 + (i : Int) := IntWalk.i64_in _ (by clear hwa hk1; omega)
      have hcat2 : ¬ (9223372036854775807 < acc.size + fr.size) := by clear hwa hwb hk1; omega
      clear hnx hf1 hf2 hcz hrz hr hlt
      go_upto_region 9 with fail
      have HQ := Lib.hid (fun j => rAL_of (r := r) (a := ⟨ab, ao + i, none⟩) ((HJ0.out.blk.below HB.out).below ((Below.refl _ _).drew)) c0 j)
      replace HB := Lib.hid HB.out.drew
      simp only [rOf] at HQ
      refine wp_region_fam (S := (rAL q J.turn ⟨ab, ao + i, none⟩ r)) (ds := (fun _ => [])) (by kernel_rfl) ?_
      refine wpFam_take (i := 0) 0 (some 29) (v := ?_) rfl (by kernel_rfl) (by kernel_rfl) (by kernel_rfl) (by kernel_rfl) (by kernel_rfl) (fun _ _ _ h => h) rfl (Or.inl ⟨by rfl, ?_⟩) (by exact trivial) ?_
      rotate_left
      · (intro w hSw; (try simp only [rAL] at hSw); go_simp); (try with_reducible rfl)
      try simp only [Act.put, List.setIfInBounds_toArray, List.set_cons_zero, List.set_cons_succ]
      refine wpFam_take (i := 1) 0 (some 30) (v := ?_) rfl (by kernel_rfl) (by kernel_rfl) (by kernel_rfl) (by kernel_rfl) (by kernel_rfl) (fun _ _ _ h => h) rfl (Or.inl ⟨by rfl, ?_⟩) (by exact trivial) ?_
      rotate_left
      · (intro w hSw; (try simp only [rAL] at hSw); go_simp); (try with_reducible rfl)
      try simp only [Act.put, List.setIfInBounds_toArray, List.set_cons_zero, List.set_cons_succ]
      refine wpFam_take (i := 2) 0 (some 31) (v := ?_) rfl (by kernel_rfl) (by kernel_rfl) (by kernel_rfl) (by kernel_rfl) (by kernel_rfl) (fun _ _ _ h => h) rfl (Or.inl ⟨by rfl, ?_⟩) (by exact trivial) ?_
      rotate_left
      · (intro w hSw; (try simp only [rAL] at hSw); go_simp); (try with_reducible rfl)
      try simp only [Act.put, List.setIfInBounds_toArray, List.set_cons_zero, List.set_cons_succ]
      refine wpFam_take (i := 3) 0 (some 32) (v := ?_) rfl (by kernel_rfl) (by kernel_rfl) (by kernel_rfl) (by kernel_rfl) (by kernel_rfl) (fun _ _ _ h => h) rfl (Or.inl ⟨by rfl, ?_⟩) (by exact trivial) ?_
      rotate_left
      · (intro w hSw; (try simp only [rAL] at hSw); go_simp); (try with_reducible rfl)
      try simp only [Act.put, List.setIfInBounds_toArray, List.set_cons_zero, List.set_cons_succ]
      refine wpFam_take (i := 4) 1 (some 33) (v := ?_) rfl (by kernel_rfl) (by kernel_rfl) (by kernel_rfl) (by kernel_rfl) (by kernel_rfl) (fun _ _ _ h => h) rfl (Or.inl ⟨by rfl, ?_⟩) (by exact HQ.out 1) ?_
      rotate_left
      · (intro w hSw; (try simp only [rAL] at hSw); go_simp); (try with_reducible rfl)
      try simp only [Act.put, List.setIfInBounds_toArray, List.set_cons_zero, List.set_cons_succ]
      refine wpFam_take (i := 5) 0 (some 34) (v := ?_) rfl (by kernel_rfl) (by kernel_rfl) (by kernel_rfl) (by kernel_rfl) (by kernel_rfl) (fun _ _ _ h => h) rfl (Or.inl ⟨by rfl, ?_⟩) (by exact trivial) ?_
      rotate_left
      · (intro w hSw; (try simp only [rAL] at hSw); go_simp); (try with_reducible rfl)
      try simp only [Act.put, List.setIfInBounds_toArray, List.set_cons_zero, List.set_cons_succ]
      refine wpFam_take (i := 6) 0 (some 35) (v := ?_) rfl (by kernel_rfl) (by kernel_rfl) (by kernel_rfl) (by kernel_rfl) (by kernel_rfl) (fun _ _ _ h => h) rfl (Or.inl ⟨by rfl, ?_⟩) (by exact trivial) ?_
      rotate_left
      · (intro w hSw; (try simp only [rAL] at hSw); go_simp); (try with_reducible rfl)
      try simp only [Act.put, List.setIfInBounds_toArray, List.set_cons_zero, List.set_cons_succ]
      refine wpFam_take (i := 7) 0 (some 36) (v := ?_) rfl (by kernel_rfl) (by kernel_rfl) (by kernel_rfl) (by kernel_rfl) (by kernel_rfl) (fun _ _ _ h => h) rfl (Or.inl ⟨by rfl, ?_⟩) (by exact trivial) ?_
      rotate_left
      · (intro w hSw; (try simp only [rAL] at hSw); go_simp); (try with_reducible rfl)
      try simp only [Act.put, List.setIfInBounds_toArray, List.set_cons_zero, List.set_cons_succ]
      refine wpFam_take (i := 8) 0 (some 37) (v := ?_) rfl (by kernel_rfl) (by kernel_rfl) (by kernel_rfl) (by kernel_rfl) (by kernel_rfl) (fun _ _ _ h => h) rfl (Or.inl ⟨by rfl, ?_⟩) (by exact trivial) ?_
      rotate_left
      · (intro w hSw; (try simp only [rAL] at hSw); go_simp); (try with_reducible rfl)
      try simp only [Act.put, List.setIfInBounds_toArray, List.set_cons_zero, List.set_cons_succ]
      refine wpFam_take (i := 9) 0 (some 38) (v := ?_) rfl (by kernel_rfl) (by kernel_rfl) (by kernel_rfl) (by kernel_rfl) (by kernel_rfl) (fun _ _ _ h => h) rfl (Or.inl ⟨by rfl, ?_⟩) (by exact trivial) ?_
      rotate_left
      · (intro w hSw; (try simp only [rAL] at hSw); go_simp); (try with_reducible rfl)
      try simp only [Act.put, List.setIfInBounds_toArray, List.set_cons_zero, List.set_cons_succ]
      refine wpFam_take (i := 10) 0 (some 39) (v := ?_) rfl (by kernel_rfl) (by kernel_rfl) (by kernel_rfl) (by kernel_rfl) (by kernel_rfl) (fun _ _ _ h => h) rfl (Or.inl ⟨by rfl, ?_⟩) (by exact trivial) ?_
      rotate_left
      · (intro w hSw; (try simp only [rAL] at hSw); go_simp); (try with_reducible rfl)
      try simp only [Act.put, List.setIfInBounds_toArray, List.set_cons_zero, List.set_cons_succ]
      refine wpFam_take (i := 11) 0 (some 40) (v := ?_) rfl (by kernel_rfl) (by kernel_rfl) (by kernel_rfl) (by kernel_rfl) (by kernel_rfl) (fun _ _ _ h => h) rfl (Or.inl ⟨by rfl, ?_⟩) (by exact trivial) ?_
      rotate_left
      · (intro w hSw; (try simp only [rAL] at hSw); go_simp); (try with_reducible rfl)
      try simp only [Act.put, List.setIfInBounds_toArray, List.set_cons_zero, List.set_cons_succ]
      refine wpFam_take (i := 12) 2 (some 41) (v := ?_) rfl (by kernel_rfl) (by kernel_rfl) (by kernel_rfl) (by kernel_rfl) (by kernel_rfl) (fun _ _ _ h => h) rfl (Or.inl ⟨by rfl, ?_⟩) (by exact HQ.out 2) ?_
      rotate_left
      · (intro w hSw; (try simp only [rAL] at hSw); go_simp); (try with_reducible rfl)
      try simp only [Act.put, List.setIfInBounds_toArray, List.set_cons_zero, List.set_cons_succ]
      refine wpFam_ready (rs := [13]) (by kernel_rfl) (by simp) ?_
      refine AllReadyF.cons (i := 13) rfl (fun K hK => ?_) ?_
      ·
        refine step_call Tryz.func67 (by kernel_rfl) rfl #[.int .i64 (((J.turn : Int) + 1) * 1000000 + (i : Int)), .string r] (by rfl) (by rfl) (by first | rfl | (simp [Act.eval, Act.put]; done)) ?_
        refine (cw.out _).mono ?_
        rintro e w6 ⟨rfl, hb⟩
        have HB6 := Lib.hid (below_step HB.out hb)
        replace HQ : Hid (∀ j, rAL q J.turn ⟨ab, ao + i, none⟩ r j w6) := (by
          obtain ⟨ab', ao', e', c1⟩ := (HS.out.2.below HB6.out) i r HRI.out
          cases e'
          exact rAL_of (HJ0.out.blk.below HB6.out) c1)
        clear hb
        refine ⟨_, rfl, ?_⟩
        try change K (Act.put _ (some 42) _) _
        refine hK.out _ _ ?_ ?_
        · ((intro i' _ _; exact HQ.out i'))
        clear hK K
        try simp only [Act.put, List.setIfInBounds_toArray, List.set_cons_zero, List.set_cons_succ]
        refine wpFam_take (i := 14) 0 (some 43) (v := ?_) rfl (by kernel_rfl) (by kernel_rfl) (by kernel_rfl) (by kernel_rfl) (by kernel_rfl) (fun _ _ _ h => h) rfl (Or.inl ⟨by rfl, ?_⟩) (by exact trivial) ?_
        rotate_left
        · (intro w hSw; (try simp only [rAL] at hSw); go_simp); (try with_reducible rfl)
        try simp only [Act.put, List.setIfInBounds_toArray, List.set_cons_zero, List.set_cons_succ]
        refine wpFam_take (i := 15) 0 (some 5) (v := ?_) rfl (by kernel_rfl) (by kernel_rfl) (by kernel_rfl) (by kernel_rfl) (by kernel_rfl) (fun _ _ _ h => h) rfl (Or.inl ⟨by rfl, ?_⟩) (by exact trivial) ?_
        rotate_left
        · (intro w hSw; (try simp only [rAL] at hSw); go_simp); (try with_reducible rfl)
        try simp only [Act.put, List.setIfInBounds_toArray, List.set_cons_zero, List.set_cons_succ]
        refine wpFam_done (by kernel_rfl) ?_ _
        try clear hwa hwb hk1 cw hcat2
        go_wp2
        go_roundg k'
        case measure => omega
        case rel => exact ⟨i + 1, by rw [HNX.out], by go_num, by omega, HB6⟩
      exact AllReadyF.nil
    · obtain rfl : n = i := by omega
      have hacc : framesB T 0 (rs.take n) = b := by rw [HBB.out, HN.out, List.take_length]
      rw [hacc]
      have HJ1 := Lib.hid (HJ0.out.below HB.out)
      have hR := HR.out
      clear hacc hlt hi HR
      by_cases hbig : H * 64 < b.size
      · have q1 : (H : Int) * 64 < (b.size : Int) := by omega
        rw [if_pos hbig] at hR
        have hz := HZ.out
        rw [hR] at hz
        rw [if_neg (show ¬ ((D, J, 14) : DS × JS × Int).2.2 = 0 by simp)] at hz
        have HRZ := Lib.hid (And.intro hR hz)
        clear hR hbig hz
        go_wp2_with (go_at_call 68; (with_reducible refine (cs.out _ HJ1.out).mono ?_); rintro e w6 ⟨rfl, rfl⟩)
        go_ret
        rw [HRZ.out.1, HRZ.out.2]
        exact ⟨rfl, HJ1.out⟩
      · have q1 : (b.size : Int) ≤ (H : Int) * 64 := by omega
        rw [if_neg hbig] at hR
        obtain ⟨X, hX⟩ : ∃ X, X = (if Y.2 ≠ 0 then Y else if Y.1.flushC ≠ 0 then (Y.1.flush, Y.1.flushC) else Y.1.flush.super sup' T oth) := ⟨_, rfl⟩
        rw [← hX] at hR
        have HX := Lib.hid hX
        have HFAIL : Hid (∀ D' c, X = (D', c) → c ≠ 0 → R = (D', { J with dead := true }, c) ∧ z = sup) := fun D' c e hc => by
          have hr : R = (D', { J with dead := true }, c) := by rw [hR, e]; exact if_pos hc
          refine ⟨hr, ?_⟩
          rw [HZ.out, hr]
          exact if_neg hc
        have HGOOD : Hid (∀ D', X = (D', 0) → R = (D', ⟨T, oth, b, rs.length, false⟩, 0) ∧ z = sup') := fun D' e => by
          have hr : R = (D', ⟨T, oth, b, rs.length, false⟩, 0) := by rw [hR, e]; exact if_neg (fun h => h rfl)
          refine ⟨hr, ?_⟩
          rw [HZ.out, hr]
          exact if_pos rfl
        clear hX
        have hbh : b.size ≤ 63936 := by omega
        obtain ⟨mm, hmm⟩ : ∃ mm, mm = oth * H := ⟨_, rfl⟩
        have hoth1 : oth ≤ 1 := by have := HO.out.1; omega
        have hmz : mm ≤ 999 := by
          have : oth * H ≤ 1 * 999 := Nat.mul_le_mul hoth1 (by omega)
          omega
        have q2 : (oth : Int) * (H : Int) = (mm : Int) := by rw [hmm]; exact (Int.natCast_mul _ _).symm
        have Q2 := Lib.hid q2
        have HSS : Hid (∀ i, D.sec oth i = 2 + mm + i) := fun i => by unfold DS.sec; rw [← HH.out, ← hmm]
        have y0 := HJ1.out.blk.cell 0
        simp [rjCells, rOf] at y0
        clear hR hmm hbig q2
        go_upto_region 14 with (first
          | (go_at_call 68; (with_reducible refine (cs.out _ HJ1.out).mono ?_); rintro e w6 ⟨rfl, rfl⟩)
          | (go_at_call 59; (with_reducible refine (ch.out _ HJ1.out).mono ?_); rintro e w6 ⟨rfl, rfl⟩))
        clear cs ch q1 y0
        go_loopg [8] H (fun kq v8 wr => ∃ (i : Nat) (D1 : DS), v8 = .int .i64 (i : Int) ∧ i + kq = H ∧ Hid (D1.sure.length = D.sure.length ∧ D1.done ≤ D.done + i) ∧ Hid (Y = fillF oth b kq i D1) ∧ Hid (RJPost F p q w D1 (rOf sup J) wr))
        case atStart => exact ⟨0, D, rfl, by omega, ⟨rfl, Nat.le_refl _⟩, HY, HJ1⟩
        case round =>
          clear HJ1 HY HJ0 HB
          obtain ⟨i, D1, rfl, hi, HL, HYr, HJ⟩ := hrel
          have hY := HYr.out
          by_cases hlt : i < H
          · obtain ⟨k', rfl⟩ : ∃ k', gk = k' + 1 := ⟨gk - 1, by omega⟩
            have q1 : (i : Int) < (H : Int) := by omega
            unfold fillF at hY
            obtain ⟨j, hj⟩ : ∃ j, j = min b.size (i * 64) := ⟨_, rfl⟩
            obtain ⟨e, he⟩ : ∃ e, e = min b.size ((i + 1) * 64) := ⟨_, rfl⟩
            have hje : (j : Int) ≤ (e : Int) := by omega
            have hes : (e : Int) ≤ (b.size : Int) := by omega
            have hpt : b.extract j e = partB b (i * 64) 64 := by
              unfold partB
              rw [show j = min (i * 64) b.size by omega, show e = min (min (i * 64) b.size + 64) b.size by omega]
            have q3 : ((D1.sec oth i : Nat) : Int) = 2 + (mm : Int) + (i : Int) := by rw [sec_eq HL.out.1, HSS.out]; omega
            rw [← hpt, q3] at hY
            have cw := Lib.hid (fun V (G : Nat → Prop) (hG : Ref V G p D1) => rWrite_any V G p D1 (2 + (mm : Int) + (i : Int)) (b.extract j e) (by have := HL.out.2; have := HK.out.2.2.1; omega) hG)
            have HL2 : Hid ((D1.write (2 + (mm : Int) + (i : Int)) (b.extract j e)).sure.length = D.sure.length ∧ (D1.write (2 + (mm : Int) + (i : Int)) (b.extract j e)).done ≤ D.done + (i + 1)) := ⟨by rw [DS.write_len]; exact HL.out.1, by have := D1.write_done (2 + (mm : Int) + (i : Int)) (b.extract j e); have := HL.out.2; omega⟩
            generalize D1.write (2 + (mm : Int) + (i : Int)) (b.extract j e) = D2 at hY cw HL2
            generalize D1.writeC (2 + (mm : Int) + (i : Int)) (b.extract j e) = c at hY cw
            have hmn1 : mnI (b.size : Int) ((i : Int) * 64) = (j : Int) := by rw [hj]; unfold mnI; split <;> omega
            have hmn2 : mnI (b.size : Int) (((i : Int) + 1) * 64) = (e : Int) := by rw [he]; unfold mnI; split <;> omega
            clear HYr hlt hpt q3 hj he
            go_upto_region 16 with fail
            replace HJ := Lib.hid (HJ.out.below ((Below.refl _ _).drew))
            have HQ := Lib.hid HJ.out.blk
            obtain ⟨hwa, hwb, hwc, hwd, hwe, hwf, hwg⟩ := wraps7 i mm oth H J.which Q2.out HO.out.1 (by omega) (by omega) (by omega) HK.out.2.1
            refine wp_region_fam (S := (rA q p (rOf sup J))) (ds := (fun _ => [])) (by kernel_rfl) ?_
            refine wpFam_take (i := 0) 0 (some 59) (v := ?_) rfl (by kernel_rfl) (by kernel_rfl) (by kernel_rfl) (by kernel_rfl) (by kernel_rfl) (fun _ _ _ h => h) rfl (Or.inl ⟨by rfl, ?_⟩) (by exact trivial) ?_
            rotate_left
            · (intro w hSw; (try simp only [rA, rOf] at hSw); go_simp); (try with_reducible rfl)
            try simp only [Act.put, List.setIfInBounds_toArray, List.set_cons_zero, List.set_cons_succ]
            refine wpFam_take (i := 1) 0 (some 60) (v := ?_) rfl (by kernel_rfl) (by kernel_rfl) (by kernel_rfl) (by kernel_rfl) (by kernel_rfl) (fun _ _ _ h => h) rfl (Or.inl ⟨by rfl, ?_⟩) (by exact trivial) ?_
            rotate_left
            · (intro w hSw; (try simp only [rA, rOf] at hSw); go_simp); (try with_reducible rfl)
            try simp only [Act.put, List.setIfInBounds_toArray, List.set_cons_zero, List.set_cons_succ]
            refine wpFam_take (i := 2) 0 (some 61) (v := ?_) rfl (by kernel_rfl) (by kernel_rfl) (by kernel_rfl) (by kernel_rfl) (by kernel_rfl) (fun _ _ _ h => h) rfl (Or.inl ⟨by rfl, ?_⟩) (by exact trivial) ?_
            rotate_left
            · (intro w hSw; (try simp only [rA, rOf] at hSw); go_simp); (try with_reducible rfl)
            try simp only [Act.put, List.setIfInBounds_toArray, List.set_cons_zero, List.set_cons_succ]
            refine wpFam_take (i := 3) 1 (some 62) (v := ?_) rfl (by kernel_rfl) (by kernel_rfl) (by kernel_rfl) (by kernel_rfl) (by kernel_rfl) (fun _ _ _ h => h) rfl (Or.inl ⟨by rfl, ?_⟩) (by exact rA_of HQ.out 1) ?_
            rotate_left
            · (intro w hSw; (try simp only [rA, rOf] at hSw); go_simp); (try with_reducible rfl)
            try simp only [Act.put, List.setIfInBounds_toArray, List.set_cons_zero, List.set_cons_succ]
            refine wpFam_take (i := 4) 0 (some 63) (v := ?_) rfl (by kernel_rfl) (by kernel_rfl) (by kernel_rfl) (by kernel_rfl) (by kernel_rfl) (fun _ _ _ h => h) rfl (Or.inl ⟨by rfl, ?_⟩) (by exact trivial) ?_
            rotate_left
            · (intro w hSw; (try simp only [rA, rOf] at hSw); go_simp); (try with_reducible rfl)
            try simp only [Act.put, List.setIfInBounds_toArray, List.set_cons_zero, List.set_cons_succ]
            refine wpFam_take (i := 5) 0 (some 64) (v := ?_) rfl (by kernel_rfl) (by kernel_rfl) (by kernel_rfl) (by kernel_rfl) (by kernel_rfl) (fun _ _ _ h => h) rfl (Or.inl ⟨by rfl, ?_⟩) (by exact trivial) ?_
            rotate_left
            · (intro w hSw; (try simp only [rA, rOf] at hSw); go_simp); (try with_reducible rfl)
            try simp only [Act.put, List.setIfInBounds_toArray, List.set_cons_zero, List.set_cons_succ]
            refine wpFam_take (i := 6) 0 (some 65) (v := ?_) rfl (by kernel_rfl) (by kernel_rfl) (by kernel_rfl) (by kernel_rfl) (by kernel_rfl) (fun _ _ _ h => h) rfl (Or.inl ⟨by rfl, ?_⟩) (by exact trivial) ?_
            rotate_left
            · (intro w hSw; (try simp only [rA, rOf] at hSw); go_simp); (try with_reducible rfl)
            try simp only [Act.put, List.setIfInBounds_toArray, List.set_cons_zero, List.set_cons_succ]
            refine wpFam_take (i := 7) 3 (some 66) (v := ?_) rfl (by kernel_rfl) (by kernel_rfl) (by kernel_rfl) (by kernel_rfl) (by kernel_rfl) (fun _ _ _ h => h) rfl (Or.inl ⟨by rfl, ?_⟩) (by exact rA_of HQ.out 3) ?_
            rotate_left
            · (intro w hSw; (try simp only [rA, rOf] at hSw); go_simp); (try with_reducible rfl)
            try simp only [Act.put, List.setIfInBounds_toArray, List.set_cons_zero, List.set_cons_succ]
            refine wpFam_take (i := 8) 0 (some 67) (v := ?_) rfl (by kernel_rfl) (by kernel_rfl) (by kernel_rfl) (by kernel_rfl) (by kernel_rfl) (fun _ _ _ h => h) rfl (Or.inl ⟨by rfl, ?_⟩) (by exact trivial) ?_
            rotate_left
            · (intro w hSw; (try simp only [rA, rOf] at hSw); go_simp); (try with_reducible rfl)
            try simp only [Act.put, List.setIfInBounds_toArray, List.set_cons_zero, List.set_cons_succ]
            refine wpFam_take (i := 9) 0 (some 68) (v := ?_) rfl (by kernel_rfl) (by kernel_rfl) (by kernel_rfl) (by kernel_rfl) (by kernel_rfl) (fun _ _ _ h => h) rfl (Or.inl ⟨by rfl, ?_⟩) (by exact trivial) ?_
            rotate_left
            · (intro w hSw; (try simp only [rA, rOf] at hSw); go_simp); (try with_reducible rfl)
            try simp only [Act.put, List.setIfInBounds_toArray, List.set_cons_zero, List.set_cons_succ]
            refine wpFam_take (i := 10) 0 (some 69) (v := ?_) rfl (by kernel_rfl) (by kernel_rfl) (by kernel_rfl) (by kernel_rfl) (by kernel_rfl) (fun _ _ _ h => h) rfl (Or.inl ⟨by rfl, ?_⟩) (by exact trivial) ?_
            rotate_left
            · (intro w hSw; (try simp only [rA, rOf] at hSw); go_simp); (try with_reducible rfl)
            try simp only [Act.put, List.setIfInBounds_toArray, List.set_cons_zero, List.set_cons_succ]
            refine wpFam_take (i := 11) 0 (some 70) (v := ?_) rfl (by kernel_rfl) (by kernel_rfl) (by kernel_rfl) (by kernel_rfl) (by kernel_rfl) (fun _ _ _ h => h) rfl (Or.inl ⟨by rfl, ?_⟩) (by exact trivial) ?_
            rotate_left
            · (intro w hSw; (try simp only [rA, rOf] at hSw); go_simp); (try with_reducible rfl)
            try simp only [Act.put, List.setIfInBounds_toArray, List.set_cons_zero, List.set_cons_succ]
            refine wpFam_take (i := 12) 0 (some 71) (v := ?_) rfl (by kernel_rfl) (by kernel_rfl) (by kernel_rfl) (by kernel_rfl) (by kernel_rfl) (fun _ _ _ h => h) rfl (Or.inl ⟨by rfl, ?_⟩) (by exact trivial) ?_
            rotate_left
            · (intro w hSw; (try simp only [rA, rOf] at hSw); go_simp); (try with_reducible rfl)
            try simp only [Act.put, List.setIfInBounds_toArray, List.set_cons_zero, List.set_cons_succ]
            refine wpFam_take (i := 13) 0 (some 72) (v := ?_) rfl (by kernel_rfl) (by kernel_rfl) (by kernel_rfl) (by kernel_rfl) (by kernel_rfl) (fun _ _ _ h => h) rfl (Or.inl ⟨by rfl, ?_⟩) (by exact trivial) ?_
            rotate_left
            · (intro w hSw; (try simp only [rA, rOf] at hSw); go_simp); (try with_reducible rfl)
            try simp only [Act.put, List.setIfInBounds_toArray, List.set_cons_zero, List.set_cons_succ]
            refine wpFam_take (i := 14) 0 (some 73) (v := ?_) rfl (by kernel_rfl) (by kernel_rfl) (by kernel_rfl) (by kernel_rfl) (by kernel_rfl) (fun _ _ _ h => h) rfl (Or.inl ⟨by rfl, ?_⟩) (by exact trivial) ?_
            rotate_left
            · (intro w hSw; (try simp only [rA, rOf] at hSw); go_simp); (try with_reducible rfl)
            try simp only [Act.put, List.setIfInBounds_toArray, List.set_cons_zero, List.set_cons_succ]
            refine wpFam_take (i := 15) 0 (some 74) (v := ?_) rfl (by kernel_rfl) (by kernel_rfl) (by kernel_rfl) (by kernel_rfl) (by kernel_rfl) (fun _ _ _ h => h) rfl (Or.inl ⟨by rfl, ?_⟩) (by exact trivial) ?_
            rotate_left
            · (intro w hSw; (try simp only [rA, rOf] at hSw); go_simp); (try with_reducible rfl)
            try simp only [Act.put, List.setIfInBounds_toArray, List.set_cons_zero, List.set_cons_succ]
            refine wpFam_take (i := 16) 0 (some 75) (v := ?_) rfl (by kernel_rfl) (by kernel_rfl) (by kernel_rfl) (by kernel_rfl) (by kernel_rfl) (fun _ _ _ h => h) rfl (Or.inl ⟨by rfl, ?_⟩) (by exact trivial) ?_
            rotate_left
            · (intro w hSw; (try simp only [rA, rOf] at hSw); go_simp); (try with_reducible rfl)
            try simp only [Act.put, List.setIfInBounds_toArray, List.set_cons_zero, List.set_cons_succ]
            refine wpFam_take (i := 17) 0 (some 76) (v := ?_) rfl (by kernel_rfl) (by kernel_rfl) (by kernel_rfl) (by kernel_rfl) (by kernel_rfl) (fun _ _ _ h => h) rfl (Or.inl ⟨by rfl, ?_⟩) (by exact trivial) ?_
            rotate_left
            · (intro w hSw; (try simp only [rA, rOf] at hSw); go_simp); (try with_reducible rfl)
            try simp only [Act.put, List.setIfInBounds_toArray, List.set_cons_zero, List.set_cons_succ]
            refine wpFam_take (i := 18) 0 (some 77) (v := ?_) rfl (by kernel_rfl) (by kernel_rfl) (by kernel_rfl) (by kernel_rfl) (by kernel_rfl) (fun _ _ _ h => h) rfl (Or.inl ⟨by rfl, ?_⟩) (by exact trivial) ?_
            rotate_left
            · (intro w hSw; (try simp only [rA, rOf] at hSw); go_simp); (try with_reducible rfl)
            try simp only [Act.put, List.setIfInBounds_toArray, List.set_cons_zero, List.set_cons_succ]
            refine wpFam_take (i := 19) 0 (some 78) (v := ?_) rfl (by kernel_rfl) (by kernel_rfl) (by kernel_rfl) (by kernel_rfl) (by kernel_rfl) (fun _ _ _ h => h) rfl (Or.inl ⟨by rfl, ?_⟩) (by exact trivial) ?_
            rotate_left
            · (intro w hSw; (try simp only [rA, rOf] at hSw); go_simp); (try with_reducible rfl)
            try simp only [Act.put, List.setIfInBounds_toArray, List.set_cons_zero, List.set_cons_succ]
            refine wpFam_take (i := 20) 0 (some 79) (v := ?_) rfl (by kernel_rfl) (by kernel_rfl) (by kernel_rfl) (by kernel_rfl) (by kernel_rfl) (fun _ _ _ h => h) rfl (Or.inl ⟨by rfl, ?_⟩) (by exact trivial) ?_
            rotate_left
            · (intro w hSw; (try simp only [rA, rOf] at hSw); go_simp); (try with_reducible rfl)
            try simp only [Act.put, List.setIfInBounds_toArray, List.set_cons_zero, List.set_cons_succ]
            refine wpFam_take (i := 21) 0 (some 80) (v := ?_) rfl (by kernel_rfl) (by kernel_rfl) (by kernel_rfl) (by kernel_rfl) (by kernel_rfl) (fun _ _ _ h => h) rfl (Or.inl ⟨by rfl, ?_⟩) (by exact trivial) ?_
            rotate_left
            · (intro w hSw; (try simp only [rA, rOf] at hSw); go_simp); (try with_reducible rfl)
            try simp only [Act.put, List.setIfInBounds_toArray, List.set_cons_zero, List.set_cons_succ]
            refine wpFam_take (i := 22) 0 (some 81) (v := ?_) rfl (by kernel_rfl) (by kernel_rfl) (by kernel_rfl) (by kernel_rfl) (by kernel_rfl) (fun _ _ _ h => h) rfl (Or.inl ⟨by rfl, ?_⟩) (by exact trivial) ?_
            rotate_left
            · (intro w hSw; (try simp only [rA, rOf] at hSw); go_simp); (try with_reducible rfl)
            try simp only [Act.put, List.setIfInBounds_toArray, List.set_cons_zero, List.set_cons_succ]
            refine wpFam_take (i := 23) 0 (some 82) (v := ?_) rfl (by kernel_rfl) (by kernel_rfl) (by kernel_rfl) (by kernel_rfl) (by kernel_rfl) (fun _ _ _ h => h) rfl (Or.inl ⟨by rfl, ?_⟩) (by exact trivial) ?_
            rotate_left
            · (intro w hSw; (try simp only [rA, rOf] at hSw); go_simp); (try with_reducible rfl)
            try simp only [Act.put, List.setIfInBounds_toArray, List.set_cons_zero, List.set_cons_succ]
            refine wpFam_take (i := 24) 0 (some 83) (v := ?_) rfl (by kernel_rfl) (by kernel_rfl) (by kernel_rfl) (by kernel_rfl) (by kernel_rfl) (fun _ _ _ h => h) rfl (Or.inl ⟨by rfl, ?_⟩) (by exact trivial) ?_
            rotate_left
            · (intro w hSw; (try simp only [rA, rOf] at hSw); go_simp); (try with_reducible rfl)
            try simp only [Act.put, List.setIfInBounds_toArray, List.set_cons_zero, List.set_cons_succ]
            refine wpFam_take (i := 25) 0 (some 84) (v := ?_) rfl (by kernel_rfl) (by kernel_rfl) (by kernel_rfl) (by kernel_rfl) (by kernel_rfl) (fun _ _ _ h => h) rfl (Or.inl ⟨by rfl, ?_⟩) (by exact trivial) ?_
            rotate_left
            · (intro w hSw; (try simp only [rA, rOf] at hSw); go_simp); (try with_reducible rfl)
            try simp only [Act.put, List.setIfInBounds_toArray, List.set_cons_zero, List.set_cons_succ]
            refine wpFam_take (i := 26) 0 (some 85) (v := ?_) rfl (by kernel_rfl) (by kernel_rfl) (by kernel_rfl) (by kernel_rfl) (by kernel_rfl) (fun _ _ _ h => h) rfl (Or.inl ⟨by rfl, ?_⟩) (by exact trivial) ?_
            rotate_left
            · (intro w hSw; (try simp only [rA, rOf] at hSw); go_simp); (try with_reducible rfl)
            try simp only [Act.put, List.setIfInBounds_toArray, List.set_cons_zero, List.set_cons_succ]
            refine wpFam_ready (rs := [27]) (by kernel_rfl) (by simp) ?_
            refine AllReadyF.cons (i := 27) rfl (fun K hK => ?_) ?_
            ·
              refine step_call Tryz.func58 (by kernel_rfl) rfl #[.pointer (some ⟨p, 0, none⟩), .int .i64 (2 + (mm : Int) + (i : Int)), .string (b.extract j e)] (by rfl) (by rfl) (by first | rfl | (simp [Act.eval, Act.put]; done)) ?_
              refine (cw.out _ _ HJ.out.ref).mono ?_
              rintro e' w7 ⟨rfl, hp⟩
              have HJ3 := Lib.hid (HJ.out.disk HNQ.out.1 HNQ.out.2 hp)
              replace HQ := Lib.hid (HJ3.out.blk)
              clear hp
              refine ⟨_, rfl, ?_⟩
              try change K (Act.put _ (some 86) _) _
              refine hK.out _ _ ?_ ?_
              · ((intro i _ _; exact rA_of HQ.out i))
              clear hK K
              try simp only [Act.put, List.setIfInBounds_toArray, List.set_cons_zero, List.set_cons_succ]
              refine wpFam_take (i := 28) 0 (some 9) (v := ?_) rfl (by kernel_rfl) (by kernel_rfl) (by kernel_rfl) (by kernel_rfl) (by kernel_rfl) (fun _ _ _ h => h) rfl (Or.inl ⟨by rfl, ?_⟩) (by exact trivial) ?_
              rotate_left
              · (intro w hSw; (try simp only [rA, rOf] at hSw); go_simp); (try with_reducible rfl)
              try simp only [Act.put, List.setIfInBounds_toArray, List.set_cons_zero, List.set_cons_succ]
              refine wpFam_done (by kernel_rfl) ?_ _
              try clear hje hes hmn1 hmn2 hwa hwb hwc hwd hwe hwf hwg
              clear HQ cw
              by_cases hc0 : c = 0
              · subst hc0
                rw [if_neg (by decide)] at hY
                have HY2 := Lib.hid hY
                clear hY
                go_wp2
                go_roundg k'
                case measure => omega
                case rel => exact ⟨i + 1, D2, by go_num, by omega, HL2, HY2, HJ3⟩
              · rw [if_pos hc0] at hY
                have HY2 := Lib.hid hY
                have cz := Lib.hid (rdies_dead _ p q sup D2 J c hc0 _ HJ3.out.ref HJ3.out.blk)
                have HC := Lib.hid hc0
                have t2 : (c == 0) = false := beq_eq_false_iff_ne.2 hc0
                have t3 : (c != 0) = true := by rw [bne, t2]; rfl
                clear hY hc0
                go_wp2_with (go_at_call 69; (with_reducible refine cz.out.mono ?_); rintro e w8 ⟨rfl, hp⟩; have HJ4 := Lib.hid (HJ3.out.then HNQ.out.1 HNQ.out.2 hp); clear hp)
                go_ret
                obtain ⟨hr, hz⟩ := HFAIL.out D2 c (by rw [HX.out, HY2.out]; exact if_pos HC.out) HC.out
                rw [hz, hr]
                exact ⟨rfl, HJ4.out⟩
            exact AllReadyF.nil
          · obtain rfl : i = H := by omega
            obtain rfl : gk = 0 := by omega
            have hY0 : Y = (D1, 0) := hY
            have q1 : (i : Int) ≤ (i : Int) := by omega
            have hX : X = if D1.flushC ≠ 0 then (D1.flush, D1.flushC) else D1.flush.super sup' T oth := by
              rw [HX.out, hY0]
              exact if_neg (fun h => h rfl)
            have cf := Lib.hid (fun V (G : Nat → Prop) (hG : Ref V G p D1) => rFlush_any V G p D1 hG)
            have hd2 : D1.flush.done ≤ D.done + 1000 := by rw [DS.flush_done]; have := HL.out.2; omega
            generalize D1.flush = D2 at hX cf hd2
            generalize D1.flushC = c1 at hX cf
            have y0 := HJ.out.blk.cell 0
            simp [rjCells, rOf] at y0
            clear hY hY0 HYr HX hlt hi HL
            by_cases hc1 : c1 = 0
            · subst hc1
              rw [if_neg (by decide)] at hX
              unfold DS.super at hX
              obtain ⟨sb, hsb⟩ : ∃ sb, sb = superB T oth := ⟨_, rfl⟩
              have csu := Lib.hid (fun V => rsuper_any T oth (by omega) hoth1 V)
              rw [← hsb] at hX csu
              have cw := Lib.hid (fun V (G : Nat → Prop) (hG : Ref V G p D2) => rWrite_any V G p D2 (sup' : Int) sb (by have := HK.out.2.2.1; omega) hG)
              generalize D2.write (sup' : Int) sb = D3 at hX cw
              generalize D2.writeC (sup' : Int) sb = c2 at hX cw
              have HKS : Hid (IntKind.i64.wrap ((J.turn : Int) + 1) = (T : Int) ∧ IntKind.i64.wrap (1 - (J.which : Int)) = (oth : Int) ∧ IntKind.i64.wrap (1 - (sup : Int)) = (sup' : Int)) := by
                obtain ⟨o1, o2, o3⟩ := HO.out
                have hw := HK.out.2.1
                exact ⟨(IntWalk.i64_in _ (by omega)).trans (by omega), (IntWalk.i64_in _ (by omega)).trans (by omega), (IntWalk.i64_in _ (by omega)).trans (by omega)⟩
              have HTI : Hid ((J.turn : Int) + 1 = (T : Int)) := (by have := HO.out.2.2; omega : (J.turn : Int) + 1 = (T : Int))
              clear hsb hd2
              go_upto_region 22 with (go_at_call 60; (with_reducible refine (cf.out _ _ HJ.out.ref).mono ?_); rintro e w6 ⟨rfl, hp⟩; have HJF := Lib.hid (HJ.out.disk HNQ.out.1 HNQ.out.2 hp); clear hp)
              clear HJ cf y0
              have HJ := Lib.hid (HJF.out.below ((Below.refl _ _).drew))
              have HQ := Lib.hid HJ.out.blk
              clear HJF
              obtain ⟨hk1, hk2, hk3⟩ := HKS.out
              refine wp_region_fam (S := (rA q p (rOf sup J))) (ds := (fun _ => [])) (by kernel_rfl) ?_
              refine wpFam_take (i := 0) 0 (some 102) (v := ?_) rfl (by kernel_rfl) (by kernel_rfl) (by kernel_rfl) (by kernel_rfl) (by kernel_rfl) (fun _ _ _ h => h) rfl (Or.inl ⟨by rfl, ?_⟩) (by exact trivial) ?_
              rotate_left
              · (intro w hSw; (try simp only [rA, rOf] at hSw); go_simp); (try with_reducible rfl)
              try simp only [Act.put, List.setIfInBounds_toArray, List.set_cons_zero, List.set_cons_succ]
              refine wpFam_take (i := 1) 0 (some 103) (v := ?_) rfl (by kernel_rfl) (by kernel_rfl) (by kernel_rfl) (by kernel_rfl) (by kernel_rfl) (fun _ _ _ h => h) rfl (Or.inl ⟨by rfl, ?_⟩) (by exact trivial) ?_
              rotate_left
              · (intro w hSw; (try simp only [rA, rOf] at hSw); go_simp); (try with_reducible rfl)
              try simp only [Act.put, List.setIfInBounds_toArray, List.set_cons_zero, List.set_cons_succ]
              refine wpFam_take (i := 2) 0 (some 104) (v := ?_) rfl (by kernel_rfl) (by kernel_rfl) (by kernel_rfl) (by kernel_rfl) (by kernel_rfl) (fun _ _ _ h => h) rfl (Or.inl ⟨by rfl, ?_⟩) (by exact trivial) ?_
              rotate_left
              · (intro w hSw; (try simp only [rA, rOf] at hSw); go_simp); (try with_reducible rfl)
              try simp only [Act.put, List.setIfInBounds_toArray, List.set_cons_zero, List.set_cons_succ]
              refine wpFam_take (i := 3) 1 (some 105) (v := ?_) rfl (by kernel_rfl) (by kernel_rfl) (by kernel_rfl) (by kernel_rfl) (by kernel_rfl) (fun _ _ _ h => h) rfl (Or.inl ⟨by rfl, ?_⟩) (by exact rA_of HQ.out 1) ?_
              rotate_left
              · (intro w hSw; (try simp only [rA, rOf] at hSw); go_simp); (try with_reducible rfl)
              try simp only [Act.put, List.setIfInBounds_toArray, List.set_cons_zero, List.set_cons_succ]
              refine wpFam_take (i := 4) 0 (some 106) (v := ?_) rfl (by kernel_rfl) (by kernel_rfl) (by kernel_rfl) (by kernel_rfl) (by kernel_rfl) (fun _ _ _ h => h) rfl (Or.inl ⟨by rfl, ?_⟩) (by exact trivial) ?_
              rotate_left
              · (intro w hSw; (try simp only [rA, rOf] at hSw); go_simp); (try with_reducible rfl)
              try simp only [Act.put, List.setIfInBounds_toArray, List.set_cons_zero, List.set_cons_succ]
              refine wpFam_take (i := 5) 0 (some 107) (v := ?_) rfl (by kernel_rfl) (by kernel_rfl) (by kernel_rfl) (by kernel_rfl) (by kernel_rfl) (fun _ _ _ h => h) rfl (Or.inl ⟨by rfl, ?_⟩) (by exact trivial) ?_
              rotate_left
              · (intro w hSw; (try simp only [rA, rOf] at hSw); go_simp); (try with_reducible rfl)
              try simp only [Act.put, List.setIfInBounds_toArray, List.set_cons_zero, List.set_cons_succ]
              refine wpFam_take (i := 6) 0 (some 108) (v := ?_) rfl (by kernel_rfl) (by kernel_rfl) (by kernel_rfl) (by kernel_rfl) (by kernel_rfl) (fun _ _ _ h => h) rfl (Or.inl ⟨by rfl, ?_⟩) (by exact trivial) ?_
              rotate_left
              · (intro w hSw; (try simp only [rA, rOf] at hSw); go_simp); (try with_reducible rfl)
              try simp only [Act.put, List.setIfInBounds_toArray, List.set_cons_zero, List.set_cons_succ]
              refine wpFam_take (i := 7) 4 (some 109) (v := ?_) rfl (by kernel_rfl) (by kernel_rfl) (by kernel_rfl) (by kernel_rfl) (by kernel_rfl) (fun _ _ _ h => h) rfl (Or.inl ⟨by rfl, ?_⟩) (by exact rA_of HQ.out 4) ?_
              rotate_left
              · (intro w hSw; (try simp only [rA, rOf] at hSw); go_simp); (try with_reducible rfl)
              try simp only [Act.put, List.setIfInBounds_toArray, List.set_cons_zero, List.set_cons_succ]
              refine wpFam_take (i := 8) 0 (some 110) (v := ?_) rfl (by kernel_rfl) (by kernel_rfl) (by kernel_rfl) (by kernel_rfl) (by kernel_rfl) (fun _ _ _ h => h) rfl (Or.inl ⟨by rfl, ?_⟩) (by exact trivial) ?_
              rotate_left
              · (intro w hSw; (try simp only [rA, rOf] at hSw); go_simp); (try with_reducible rfl)
              try simp only [Act.put, List.setIfInBounds_toArray, List.set_cons_zero, List.set_cons_succ]
              refine wpFam_take (i := 9) 0 (some 111) (v := ?_) rfl (by kernel_rfl) (by kernel_rfl) (by kernel_rfl) (by kernel_rfl) (by kernel_rfl) (fun _ _ _ h => h) rfl (Or.inl ⟨by rfl, ?_⟩) (by exact trivial) ?_
              rotate_left
              · (intro w hSw; (try simp only [rA, rOf] at hSw); go_simp); (try with_reducible rfl)
              try simp only [Act.put, List.setIfInBounds_toArray, List.set_cons_zero, List.set_cons_succ]
              refine wpFam_take (i := 10) 0 (some 112) (v := ?_) rfl (by kernel_rfl) (by kernel_rfl) (by kernel_rfl) (by kernel_rfl) (by kernel_rfl) (fun _ _ _ h => h) rfl (Or.inl ⟨by rfl, ?_⟩) (by exact trivial) ?_
              rotate_left
              · (intro w hSw; (try simp only [rA, rOf] at hSw); go_simp); (try with_reducible rfl)
              try simp only [Act.put, List.setIfInBounds_toArray, List.set_cons_zero, List.set_cons_succ]
              refine wpFam_take (i := 11) 0 (some 113) (v := ?_) rfl (by kernel_rfl) (by kernel_rfl) (by kernel_rfl) (by kernel_rfl) (by kernel_rfl) (fun _ _ _ h => h) rfl (Or.inl ⟨by rfl, ?_⟩) (by exact trivial) ?_
              rotate_left
              · (intro w hSw; (try simp only [rA, rOf] at hSw); go_simp); (try with_reducible rfl)
              try simp only [Act.put, List.setIfInBounds_toArray, List.set_cons_zero, List.set_cons_succ]
              refine wpFam_take (i := 12) 2 (some 114) (v := ?_) rfl (by kernel_rfl) (by kernel_rfl) (by kernel_rfl) (by kernel_rfl) (by kernel_rfl) (fun _ _ _ h => h) rfl (Or.inl ⟨by rfl, ?_⟩) (by exact rA_of HQ.out 2) ?_
              rotate_left
              · (intro w hSw; (try simp only [rA, rOf] at hSw); go_simp); (try with_reducible rfl)
              try simp only [Act.put, List.setIfInBounds_toArray, List.set_cons_zero, List.set_cons_succ]
              refine wpFam_take (i := 13) 0 (some 115) (v := ?_) rfl (by kernel_rfl) (by kernel_rfl) (by kernel_rfl) (by kernel_rfl) (by kernel_rfl) (fun _ _ _ h => h) rfl (Or.inl ⟨by rfl, ?_⟩) (by exact trivial) ?_
              rotate_left
              · (intro w hSw; (try simp only [rA, rOf] at hSw); go_simp); (try with_reducible rfl)
              try simp only [Act.put, List.setIfInBounds_toArray, List.set_cons_zero, List.set_cons_succ]
              refine wpFam_take (i := 14) 0 (some 116) (v := ?_) rfl (by kernel_rfl) (by kernel_rfl) (by kernel_rfl) (by kernel_rfl) (by kernel_rfl) (fun _ _ _ h => h) rfl (Or.inl ⟨by rfl, ?_⟩) (by exact trivial) ?_
              rotate_left
              · (intro w hSw; (try simp only [rA, rOf] at hSw); go_simp); (try with_reducible rfl)
              try simp only [Act.put, List.setIfInBounds_toArray, List.set_cons_zero, List.set_cons_succ]
              refine wpFam_take (i := 15) 0 (some 117) (v := ?_) rfl (by kernel_rfl) (by kernel_rfl) (by kernel_rfl) (by kernel_rfl) (by kernel_rfl) (fun _ _ _ h => h) rfl (Or.inl ⟨by rfl, ?_⟩) (by exact trivial) ?_
              rotate_left
              · (intro w hSw; (try simp only [rA, rOf] at hSw); go_simp); (try with_reducible rfl)
              try simp only [Act.put, List.setIfInBounds_toArray, List.set_cons_zero, List.set_cons_succ]
              refine wpFam_take (i := 16) 0 (some 118) (v := ?_) rfl (by kernel_rfl) (by kernel_rfl) (by kernel_rfl) (by kernel_rfl) (by kernel_rfl) (fun _ _ _ h => h) rfl (Or.inl ⟨by rfl, ?_⟩) (by exact trivial) ?_
              rotate_left
              · (intro w hSw; (try simp only [rA, rOf] at hSw); go_simp); (try with_reducible rfl)
              try simp only [Act.put, List.setIfInBounds_toArray, List.set_cons_zero, List.set_cons_succ]
              refine wpFam_take (i := 17) 3 (some 119) (v := ?_) rfl (by kernel_rfl) (by kernel_rfl) (by kernel_rfl) (by kernel_rfl) (by kernel_rfl) (fun _ _ _ h => h) rfl (Or.inl ⟨by rfl, ?_⟩) (by exact rA_of HQ.out 3) ?_
              rotate_left
              · (intro w hSw; (try simp only [rA, rOf] at hSw); go_simp); (try with_reducible rfl)
              try simp only [Act.put, List.setIfInBounds_toArray, List.set_cons_zero, List.set_cons_succ]
              refine wpFam_take (i := 18) 0 (some 120) (v := ?_) rfl (by kernel_rfl) (by kernel_rfl) (by kernel_rfl) (by kernel_rfl) (by kernel_rfl) (fun _ _ _ h => h) rfl (Or.inl ⟨by rfl, ?_⟩) (by exact trivial) ?_
              rotate_left
              · (intro w hSw; (try simp only [rA, rOf] at hSw); go_simp); (try with_reducible rfl)
              try simp only [Act.put, List.setIfInBounds_toArray, List.set_cons_zero, List.set_cons_succ]
              refine wpFam_ready (rs := [19]) (by kernel_rfl) (by simp) ?_
              refine AllReadyF.cons (i := 19) rfl (fun K hK => ?_) ?_
              ·
                refine step_call Tryz.func61 (by kernel_rfl) rfl #[.int .i64 (T : Int), .int .i64 (oth : Int)] (by rfl) (by rfl) (by first | rfl | (simp [Act.eval, Act.put]; done) | (simp [Act.eval, Act.put]; exact HTI.out)) ?_
                refine (csu.out _).mono ?_
                rintro e' w7 ⟨rfl, hb⟩
                have HJ2 := Lib.hid (HJ.out.below hb)
                replace HQ := Lib.hid (HJ2.out.blk)
                clear hb
                refine ⟨_, rfl, ?_⟩
                try change K (Act.put _ (some 121) _) _
                refine hK.out _ _ ?_ ?_
                · ((intro i _ _; exact rA_of HQ.out i))
                clear hK K
                try simp only [Act.put, List.setIfInBounds_toArray, List.set_cons_zero, List.set_cons_succ]
                refine wpFam_ready (rs := [20]) (by kernel_rfl) (by simp) ?_
                refine AllReadyF.cons (i := 20) rfl (fun K hK => ?_) ?_
                ·
                  refine step_call Tryz.func58 (by kernel_rfl) rfl #[.pointer (some ⟨p, 0, none⟩), .int .i64 (sup' : Int), .string sb] (by rfl) (by rfl) (by first | rfl | (simp [Act.eval, Act.put]; done)) ?_
                  refine (cw.out _ _ HJ2.out.ref).mono ?_
                  rintro e' w8 ⟨rfl, hp⟩
                  have HJ3 := Lib.hid (HJ2.out.disk HNQ.out.1 HNQ.out.2 hp)
                  replace HQ := Lib.hid (HJ3.out.blk)
                  clear hp
                  refine ⟨_, rfl, ?_⟩
                  try change K (Act.put _ (some 122) _) _
                  refine hK.out _ _ ?_ ?_
                  · ((intro i _ _; exact rA_of HQ.out i))
                  clear hK K
                  try simp only [Act.put, List.setIfInBounds_toArray, List.set_cons_zero, List.set_cons_succ]
                  refine wpFam_take (i := 21) 0 (some 11) (v := ?_) rfl (by kernel_rfl) (by kernel_rfl) (by kernel_rfl) (by kernel_rfl) (by kernel_rfl) (fun _ _ _ h => h) rfl (Or.inl ⟨by rfl, ?_⟩) (by exact trivial) ?_
                  rotate_left
                  · (intro w hSw; (try simp only [rA, rOf] at hSw); go_simp); (try with_reducible rfl)
                  try simp only [Act.put, List.setIfInBounds_toArray, List.set_cons_zero, List.set_cons_succ]
                  refine wpFam_done (by kernel_rfl) ?_ _
                  try clear hk1 hk2 hk3
                  clear HQ cw csu
                  by_cases hc2 : c2 = 0
                  · subst hc2
                    rw [if_neg (by decide)] at hX
                    have cf2 := Lib.hid (fun V (G : Nat → Prop) (hG : Ref V G p D3) => rFlush_any V G p D3 hG)
                    generalize D3.flush = D4 at hX cf2
                    generalize D3.flushC = c3 at hX cf2
                    have HXX := Lib.hid hX
                    have y0 := HJ3.out.blk.cell 0
                    simp [rjCells, rOf] at y0
                    clear hX
                    by_cases hc3 : c3 = 0
                    · subst hc3
                      have HG := Lib.hid (HGOOD.out D4 HXX.out)
                      have t2 : ((0 : Int) == 0) = true := rfl
                      go_upto_region 28 with (go_at_call 60; (with_reducible refine (cf2.out _ _ HJ3.out.ref).mono ?_); rintro e w9 ⟨rfl, hp⟩; have HJ4 := Lib.hid (HJ3.out.disk HNQ.out.1 HNQ.out.2 hp); clear hp)
                      have z1 := HJ4.out.blk.cell 1
                      have z2 := HJ4.out.blk.cell 2
                      have z3 := HJ4.out.blk.cell 3
                      have z4 := HJ4.out.blk.cell 4
                      have z5 := HJ4.out.blk.cell 5
                      have g1 := HJ4.out.blk.frozen 1
                      have g2 := HJ4.out.blk.frozen 2
                      have g3 := HJ4.out.blk.frozen 3
                      have g4 := HJ4.out.blk.frozen 4
                      have g5 := HJ4.out.blk.frozen 5
                      simp [rjCells, rOf] at z1 z2 z3 z4 z5
                      have HJ := Lib.hid (HJ4.out.below ((Below.refl _ _).drew))
                      have HQ := Lib.hid HJ.out.blk
                      obtain ⟨hk1, hk2, hk3⟩ := HKS.out
                      clear HJ4 HJ3 HJ2
                      refine wp_region_fam (S := (rA q p (rOf sup J))) (ds := rD28) (by kernel_rfl) ?_
                      refine wpFam_take (i := 0) 0 (some 138) (v := ?_) rfl (by kernel_rfl) (by kernel_rfl) (by kernel_rfl) (by kernel_rfl) (by kernel_rfl) (fun _ _ _ h => h) rfl (Or.inl ⟨by rfl, ?_⟩) (by exact trivial) ?_
                      rotate_left
                      · (intro w hSw; (try simp only [rA, rOf] at hSw); go_simp); (try with_reducible rfl)
                      try simp only [Act.put, List.setIfInBounds_toArray, List.set_cons_zero, List.set_cons_succ]
                      refine wpFam_take (i := 1) 0 (some 139) (v := ?_) rfl (by kernel_rfl) (by kernel_rfl) (by kernel_rfl) (by kernel_rfl) (by kernel_rfl) (fun _ _ _ h => h) rfl (Or.inl ⟨by rfl, ?_⟩) (by exact trivial) ?_
                      rotate_left
                      · (intro w hSw; (try simp only [rA, rOf] at hSw); go_simp); (try with_reducible rfl)
                      try simp only [Act.put, List.setIfInBounds_toArray, List.set_cons_zero, List.set_cons_succ]
                      refine wpFam_take (i := 2) 0 (some 140) (v := ?_) rfl (by kernel_rfl) (by kernel_rfl) (by kernel_rfl) (by kernel_rfl) (by kernel_rfl) (fun _ _ _ h => h) rfl (Or.inl ⟨by rfl, ?_⟩) (by exact trivial) ?_
                      rotate_left
                      · (intro w hSw; (try simp only [rA, rOf] at hSw); go_simp); (try with_reducible rfl)
                      try simp only [Act.put, List.setIfInBounds_toArray, List.set_cons_zero, List.set_cons_succ]
                      refine wpFam_take (i := 3) 0 (some 141) (v := ?_) rfl (by kernel_rfl) (by kernel_rfl) (by kernel_rfl) (by kernel_rfl) (by kernel_rfl) (fun _ _ _ h => h) rfl (Or.inl ⟨by rfl, ?_⟩) (by exact trivial) ?_
                      rotate_left
                      · (intro w hSw; (try simp only [rA, rOf] at hSw); go_simp); (try with_reducible rfl)
                      try simp only [Act.put, List.setIfInBounds_toArray, List.set_cons_zero, List.set_cons_succ]
                      refine wpFam_take (i := 4) 0 (some 142) (v := ?_) rfl (by kernel_rfl) (by kernel_rfl) (by kernel_rfl) (by kernel_rfl) (by kernel_rfl) (fun _ _ _ h => h) rfl (Or.inl ⟨by rfl, ?_⟩) (by exact trivial) ?_
                      rotate_left
                      · (intro w hSw; (try simp only [rA, rOf] at hSw); go_simp); (try with_reducible rfl)
                      try simp only [Act.put, List.setIfInBounds_toArray, List.set_cons_zero, List.set_cons_succ]
                      refine wpFam_take (i := 5) 0 (some 143) (v := ?_) rfl (by kernel_rfl) (by kernel_rfl) (by kernel_rfl) (by kernel_rfl) (by kernel_rfl) (fun _ _ _ h => h) rfl (Or.inl ⟨by rfl, ?_⟩) (by exact trivial) ?_
                      rotate_left
                      · (intro w hSw; (try simp only [rA, rOf] at hSw); go_simp); (try with_reducible rfl)
                      try simp only [Act.put, List.setIfInBounds_toArray, List.set_cons_zero, List.set_cons_succ]
                      refine wpFam_take (i := 6) 0 (some 144) (v := ?_) rfl (by kernel_rfl) (by kernel_rfl) (by kernel_rfl) (by kernel_rfl) (by kernel_rfl) (fun _ _ _ h => h) rfl (Or.inl ⟨by rfl, ?_⟩) (by exact trivial) ?_
                      rotate_left
                      · (intro w hSw; (try simp only [rA, rOf] at hSw); go_simp); (try with_reducible rfl)
                      try simp only [Act.put, List.setIfInBounds_toArray, List.set_cons_zero, List.set_cons_succ]
                      refine wpFam_take (i := 7) 0 (some 145) (v := ?_) rfl (by kernel_rfl) (by kernel_rfl) (by kernel_rfl) (by kernel_rfl) (by kernel_rfl) (fun _ _ _ h => h) rfl (Or.inl ⟨by rfl, ?_⟩) (by exact trivial) ?_
                      rotate_left
                      · (intro w hSw; (try simp only [rA, rOf] at hSw); go_simp); (try with_reducible rfl)
                      try simp only [Act.put, List.setIfInBounds_toArray, List.set_cons_zero, List.set_cons_succ]
                      refine wpFam_take (i := 8) 2 (some 146) (v := ?_) rfl (by kernel_rfl) (by kernel_rfl) (by kernel_rfl) (by kernel_rfl) (by kernel_rfl) (fun _ _ _ h => h) rfl (Or.inl ⟨by rfl, ?_⟩) (by exact rA_of HQ.out 2) ?_
                      rotate_left
                      · (intro w hSw; (try simp only [rA, rOf] at hSw); go_simp); (try with_reducible rfl)
                      try simp only [Act.put, List.setIfInBounds_toArray, List.set_cons_zero, List.set_cons_succ]
                      refine wpFam_take (i := 9) 0 (some 147) (v := ?_) rfl (by kernel_rfl) (by kernel_rfl) (by kernel_rfl) (by kernel_rfl) (by kernel_rfl) (fun _ _ _ h => h) rfl (Or.inl ⟨by rfl, ?_⟩) (by exact trivial) ?_
                      rotate_left
                      · (intro w hSw; (try simp only [rA, rOf] at hSw); go_simp); (try with_reducible rfl)
                      try simp only [Act.put, List.setIfInBounds_toArray, List.set_cons_zero, List.set_cons_succ]
                      refine wpFam_take (i := 10) 0 (some 148) (v := ?_) rfl (by kernel_rfl) (by kernel_rfl) (by kernel_rfl) (by kernel_rfl) (by kernel_rfl) (fun _ _ _ h => h) rfl (Or.inl ⟨by rfl, ?_⟩) (by exact trivial) ?_
                      rotate_left
                      · (intro w hSw; (try simp only [rA, rOf] at hSw); go_simp); (try with_reducible rfl)
                      try simp only [Act.put, List.setIfInBounds_toArray, List.set_cons_zero, List.set_cons_succ]
                      refine wpFam_take (i := 11) 0 (some 149) (v := ?_) rfl (by kernel_rfl) (by kernel_rfl) (by kernel_rfl) (by kernel_rfl) (by kernel_rfl) (fun _ _ _ h => h) rfl (Or.inl ⟨by rfl, ?_⟩) (by exact trivial) ?_
                      rotate_left
                      · (intro w hSw; (try simp only [rA, rOf] at hSw); go_simp); (try with_reducible rfl)
                      try simp only [Act.put, List.setIfInBounds_toArray, List.set_cons_zero, List.set_cons_succ]
                      refine wpFam_take (i := 12) 0 (some 150) (v := ?_) rfl (by kernel_rfl) (by kernel_rfl) (by kernel_rfl) (by kernel_rfl) (by kernel_rfl) (fun _ _ _ h => h) rfl (Or.inl ⟨by rfl, ?_⟩) (by exact trivial) ?_
                      rotate_left
                      · (intro w hSw; (try simp only [rA, rOf] at hSw); go_simp); (try with_reducible rfl)
                      try simp only [Act.put, List.setIfInBounds_toArray, List.set_cons_zero, List.set_cons_succ]
                      refine wpFam_take (i := 13) 3 (some 151) (v := ?_) rfl (by kernel_rfl) (by kernel_rfl) (by kernel_rfl) (by kernel_rfl) (by kernel_rfl) (fun _ _ _ h => h) rfl (Or.inl ⟨by rfl, ?_⟩) (by exact rA_of HQ.out 3) ?_
                      rotate_left
                      · (intro w hSw; (try simp only [rA, rOf] at hSw); go_simp); (try with_reducible rfl)
                      try simp only [Act.put, List.setIfInBounds_toArray, List.set_cons_zero, List.set_cons_succ]
                      refine wpFam_take (i := 14) 0 (some 152) (v := ?_) rfl (by kernel_rfl) (by kernel_rfl) (by kernel_rfl) (by kernel_rfl) (by kernel_rfl) (fun _ _ _ h => h) rfl (Or.inl ⟨by rfl, ?_⟩) (by exact trivial) ?_
                      rotate_left
                      · (intro w hSw; (try simp only [rA, rOf] at hSw); go_simp); (try with_reducible rfl)
                      try simp only [Act.put, List.setIfInBounds_toArray, List.set_cons_zero, List.set_cons_succ]
                      refine wpFam_take (i := 15) 0 (some 153) (v := ?_) rfl (by kernel_rfl) (by kernel_rfl) (by kernel_rfl) (by kernel_rfl) (by kernel_rfl) (fun _ _ _ h => h) rfl (Or.inl ⟨by rfl, ?_⟩) (by exact trivial) ?_
                      rotate_left
                      · (intro w hSw; (try simp only [rA, rOf] at hSw); go_simp); (try with_reducible rfl)
                      try simp only [Act.put, List.setIfInBounds_toArray, List.set_cons_zero, List.set_cons_succ]
                      refine wpFam_take (i := 16) 0 (some 154) (v := ?_) rfl (by kernel_rfl) (by kernel_rfl) (by kernel_rfl) (by kernel_rfl) (by kernel_rfl) (fun _ _ _ h => h) rfl (Or.inl ⟨by rfl, ?_⟩) (by exact trivial) ?_
                      rotate_left
                      · (intro w hSw; (try simp only [rA, rOf] at hSw); go_simp); (try with_reducible rfl)
                      try simp only [Act.put, List.setIfInBounds_toArray, List.set_cons_zero, List.set_cons_succ]
                      refine wpFam_take (i := 17) 0 (some 155) (v := ?_) rfl (by kernel_rfl) (by kernel_rfl) (by kernel_rfl) (by kernel_rfl) (by kernel_rfl) (fun _ _ _ h => h) rfl (Or.inl ⟨by rfl, ?_⟩) (by exact trivial) ?_
                      rotate_left
                      · (intro w hSw; (try simp only [rA, rOf] at hSw); go_simp); (try with_reducible rfl)
                      try simp only [Act.put, List.setIfInBounds_toArray, List.set_cons_zero, List.set_cons_succ]
                      refine wpFam_take (i := 18) 4 (some 156) (v := ?_) rfl (by kernel_rfl) (by kernel_rfl) (by kernel_rfl) (by kernel_rfl) (by kernel_rfl) (fun _ _ _ h => h) rfl (Or.inl ⟨by rfl, ?_⟩) (by exact rA_of HQ.out 4) ?_
                      rotate_left
                      · (intro w hSw; (try simp only [rA, rOf] at hSw); go_simp); (try with_reducible rfl)
                      try simp only [Act.put, List.setIfInBounds_toArray, List.set_cons_zero, List.set_cons_succ]
                      refine wpFam_take (i := 19) 0 (some 157) (v := ?_) rfl (by kernel_rfl) (by kernel_rfl) (by kernel_rfl) (by kernel_rfl) (by kernel_rfl) (fun _ _ _ h => h) rfl (Or.inl ⟨by rfl, ?_⟩) (by exact trivial) ?_
                      rotate_left
                      · (intro w hSw; (try simp only [rA, rOf] at hSw); go_simp); (try with_reducible rfl)
                      try simp only [Act.put, List.setIfInBounds_toArray, List.set_cons_zero, List.set_cons_succ]
                      refine wpFam_take (i := 20) 0 (some 158) (v := ?_) rfl (by kernel_rfl) (by kernel_rfl) (by kernel_rfl) (by kernel_rfl) (by kernel_rfl) (fun _ _ _ h => h) rfl (Or.inl ⟨by rfl, ?_⟩) (by exact trivial) ?_
                      rotate_left
                      · (intro w hSw; (try simp only [rA, rOf] at hSw); go_simp); (try with_reducible rfl)
                      try simp only [Act.put, List.setIfInBounds_toArray, List.set_cons_zero, List.set_cons_succ]
                      refine wpFam_take (i := 21) 0 (some 159) (v := ?_) rfl (by kernel_rfl) (by kernel_rfl) (by kernel_rfl) (by kernel_rfl) (by kernel_rfl) (fun _ _ _ h => h) rfl (Or.inl ⟨by rfl, ?_⟩) (by exact trivial) ?_
                      rotate_left
                      · (intro w hSw; (try simp only [rA, rOf] at hSw); go_simp); (try with_reducible rfl)
                      try simp only [Act.put, List.setIfInBounds_toArray, List.set_cons_zero, List.set_cons_succ]
                      refine wpFam_take (i := 22) 0 (some 160) (v := ?_) rfl (by kernel_rfl) (by kernel_rfl) (by kernel_rfl) (by kernel_rfl) (by kernel_rfl) (fun _ _ _ h => h) rfl (Or.inl ⟨by rfl, ?_⟩) (by exact trivial) ?_
                      rotate_left
                      · (intro w hSw; (try simp only [rA, rOf] at hSw); go_simp); (try with_reducible rfl)
                      try simp only [Act.put, List.setIfInBounds_toArray, List.set_cons_zero, List.set_cons_succ]
                      refine wpFam_take (i := 23) 0 (some 161) (v := ?_) rfl (by kernel_rfl) (by kernel_rfl) (by kernel_rfl) (by kernel_rfl) (by kernel_rfl) (fun _ _ _ h => h) rfl (Or.inl ⟨by rfl, ?_⟩) (by exact trivial) ?_
                      rotate_left
                      · (intro w hSw; (try simp only [rA, rOf] at hSw); go_simp); (try with_reducible rfl)
                      try simp only [Act.put, List.setIfInBounds_toArray, List.set_cons_zero, List.set_cons_succ]
                      refine wpFam_take (i := 24) 0 (some 162) (v := ?_) rfl (by kernel_rfl) (by kernel_rfl) (by kernel_rfl) (by kernel_rfl) (by kernel_rfl) (fun _ _ _ h => h) rfl (Or.inl ⟨by rfl, ?_⟩) (by exact trivial) ?_
                      rotate_left
                      · (intro w hSw; (try simp only [rA, rOf] at hSw); go_simp); (try with_reducible rfl)
                      try simp only [Act.put, List.setIfInBounds_toArray, List.set_cons_zero, List.set_cons_succ]
                      refine wpFam_take (i := 25) 0 (some 163) (v := ?_) rfl (by kernel_rfl) (by kernel_rfl) (by kernel_rfl) (by kernel_rfl) (by kernel_rfl) (fun _ _ _ h => h) rfl (Or.inl ⟨by rfl, ?_⟩) (by exact trivial) ?_
                      rotate_left
                      · (intro w hSw; (try simp only [rA, rOf] at hSw); go_simp); (try with_reducible rfl)
                      try simp only [Act.put, List.setIfInBounds_toArray, List.set_cons_zero, List.set_cons_succ]
                      refine wpFam_ready (rs := [26]) (by kernel_rfl) (by simp) ?_
                      refine AllReadyF.cons (i := 26) rfl (fun K hK => ?_) ?_
                      ·
                        go_simp
                        replace HJ := Lib.hid (HJ.out.set 1 (.int .i64 ((J.turn : Int) + 1)) (J2 := { rOf sup J with turn := T }) (by simp [rjCells, rOf]; exact HTI.out))
                        replace HQ := Lib.hid HJ.out.blk
                        refine hK.out _ _ ?_ ?_
                        · ((intro q' hq _; match q', hq with | 0, _ => exact trivial | n + 1, hq => exact absurd (by simp [rD28]) hq))
                        clear hK K
                        try simp only [Act.put, List.setIfInBounds_toArray, List.set_cons_zero, List.set_cons_succ]
                        refine wpFam_take (i := 27) 0 (some 164) (v := ?_) rfl (by kernel_rfl) (by kernel_rfl) (by kernel_rfl) (by kernel_rfl) (by kernel_rfl) (fun _ _ _ h => h) rfl (Or.inl ⟨by rfl, ?_⟩) (by exact trivial) ?_
                        rotate_left
                        · (intro w hSw; (try simp only [rA, rOf] at hSw); go_simp); (try with_reducible rfl)
                        try simp only [Act.put, List.setIfInBounds_toArray, List.set_cons_zero, List.set_cons_succ]
                        refine wpFam_take (i := 28) 0 (some 165) (v := ?_) rfl (by kernel_rfl) (by kernel_rfl) (by kernel_rfl) (by kernel_rfl) (by kernel_rfl) (fun _ _ _ h => h) rfl (Or.inl ⟨by rfl, ?_⟩) (by exact trivial) ?_
                        rotate_left
                        · (intro w hSw; (try simp only [rA, rOf] at hSw); go_simp); (try with_reducible rfl)
                        try simp only [Act.put, List.setIfInBounds_toArray, List.set_cons_zero, List.set_cons_succ]
                        refine wpFam_ready (rs := [29]) (by kernel_rfl) (by simp) ?_
                        refine AllReadyF.cons (i := 29) rfl (fun K hK => ?_) ?_
                        ·
                          go_simp
                          replace HJ := Lib.hid (HJ.out.set 2 (.int .i64 (oth : Int)) (J2 := { rOf sup J with turn := T, half := oth }) (by simp [rjCells, rOf]))
                          replace HQ := Lib.hid HJ.out.blk
                          refine hK.out _ _ ?_ ?_
                          · ((intro q' hq _; match q', hq with | 0, _ => exact trivial | n + 1, hq => exact absurd (by simp [rD28]) hq))
                          clear hK K
                          try simp only [Act.put, List.setIfInBounds_toArray, List.set_cons_zero, List.set_cons_succ]
                          refine wpFam_take (i := 30) 0 (some 166) (v := ?_) rfl (by kernel_rfl) (by kernel_rfl) (by kernel_rfl) (by kernel_rfl) (by kernel_rfl) (fun _ _ _ h => h) rfl (Or.inl ⟨by rfl, ?_⟩) (by exact trivial) ?_
                          rotate_left
                          · (intro w hSw; (try simp only [rA, rOf] at hSw); go_simp); (try with_reducible rfl)
                          try simp only [Act.put, List.setIfInBounds_toArray, List.set_cons_zero, List.set_cons_succ]
                          refine wpFam_take (i := 31) 0 (some 167) (v := ?_) rfl (by kernel_rfl) (by kernel_rfl) (by kernel_rfl) (by kernel_rfl) (by kernel_rfl) (fun _ _ _ h => h) rfl (Or.inl ⟨by rfl, ?_⟩) (by exact trivial) ?_
                          rotate_left
                          · (intro w hSw; (try simp only [rA, rOf] at hSw); go_simp); (try with_reducible rfl)
                          try simp only [Act.put, List.setIfInBounds_toArray, List.set_cons_zero, List.set_cons_succ]
                          refine wpFam_ready (rs := [32]) (by kernel_rfl) (by simp) ?_
                          refine AllReadyF.cons (i := 32) rfl (fun K hK => ?_) ?_
                          ·
                            go_simp
                            replace HJ := Lib.hid (HJ.out.set 3 (.int .i64 (sup' : Int)) (J2 := { rOf sup J with turn := T, half := oth, super := sup' }) (by simp [rjCells, rOf]))
                            replace HQ := Lib.hid HJ.out.blk
                            refine hK.out _ _ ?_ ?_
                            · ((intro q' hq _; match q', hq with | 0, _ => exact trivial | n + 1, hq => exact absurd (by simp [rD28]) hq))
                            clear hK K
                            try simp only [Act.put, List.setIfInBounds_toArray, List.set_cons_zero, List.set_cons_succ]
                            refine wpFam_take (i := 33) 0 (some 168) (v := ?_) rfl (by kernel_rfl) (by kernel_rfl) (by kernel_rfl) (by kernel_rfl) (by kernel_rfl) (fun _ _ _ h => h) rfl (Or.inl ⟨by rfl, ?_⟩) (by exact trivial) ?_
                            rotate_left
                            · (intro w hSw; (try simp only [rA, rOf] at hSw); go_simp); (try with_reducible rfl)
                            try simp only [Act.put, List.setIfInBounds_toArray, List.set_cons_zero, List.set_cons_succ]
                            refine wpFam_take (i := 34) 0 (some 169) (v := ?_) rfl (by kernel_rfl) (by kernel_rfl) (by kernel_rfl) (by kernel_rfl) (by kernel_rfl) (fun _ _ _ h => h) rfl (Or.inl ⟨by rfl, ?_⟩) (by exact trivial) ?_
                            rotate_left
                            · (intro w hSw; (try simp only [rA, rOf] at hSw); go_simp); (try with_reducible rfl)
                            try simp only [Act.put, List.setIfInBounds_toArray, List.set_cons_zero, List.set_cons_succ]
                            refine wpFam_ready (rs := [35]) (by kernel_rfl) (by simp) ?_
                            refine AllReadyF.cons (i := 35) rfl (fun K hK => ?_) ?_
                            ·
                              go_simp
                              replace HJ := Lib.hid (HJ.out.set 4 (.int .i64 (b.size : Int)) (J2 := { rOf sup J with turn := T, half := oth, super := sup', fin := b.size }) (by simp [rjCells, rOf]))
                              replace HQ := Lib.hid HJ.out.blk
                              refine hK.out _ _ ?_ ?_
                              · ((intro q' hq _; match q', hq with | 0, _ => exact trivial | n + 1, hq => exact absurd (by simp [rD28]) hq))
                              clear hK K
                              try simp only [Act.put, List.setIfInBounds_toArray, List.set_cons_zero, List.set_cons_succ]
                              refine wpFam_take (i := 36) 0 (some 170) (v := ?_) rfl (by kernel_rfl) (by kernel_rfl) (by kernel_rfl) (by kernel_rfl) (by kernel_rfl) (fun _ _ _ h => h) rfl (Or.inl ⟨by rfl, ?_⟩) (by exact trivial) ?_
                              rotate_left
                              · (intro w hSw; (try simp only [rA, rOf] at hSw); go_simp); (try with_reducible rfl)
                              try simp only [Act.put, List.setIfInBounds_toArray, List.set_cons_zero, List.set_cons_succ]
                              refine wpFam_take (i := 37) 0 (some 171) (v := ?_) rfl (by kernel_rfl) (by kernel_rfl) (by kernel_rfl) (by kernel_rfl) (by kernel_rfl) (fun _ _ _ h => h) rfl (Or.inl ⟨by rfl, ?_⟩) (by exact trivial) ?_
                              rotate_left
                              · (intro w hSw; (try simp only [rA, rOf] at hSw); go_simp); (try with_reducible rfl)
                              try simp only [Act.put, List.setIfInBounds_toArray, List.set_cons_zero, List.set_cons_succ]
                              refine wpFam_ready (rs := [38]) (by kernel_rfl) (by simp) ?_
                              refine AllReadyF.cons (i := 38) rfl (fun K hK => ?_) ?_
                              ·
                                go_simp
                                replace HJ := Lib.hid (HJ.out.set 5 (.int .i64 (n : Int)) (J2 := { rOf sup J with turn := T, half := oth, super := sup', fin := b.size, n := n }) (by simp [rjCells, rOf]))
                                replace HQ := Lib.hid HJ.out.blk
                                refine hK.out _ _ ?_ ?_
                                · ((intro q' hq _; match q', hq with | 0, _ => exact trivial | n + 1, hq => exact absurd (by simp [rD28]) hq))
                                clear hK K
                                try simp only [Act.put, List.setIfInBounds_toArray, List.set_cons_zero, List.set_cons_succ]
                                refine wpFam_done (by kernel_rfl) ?_ _
                                try clear hk1 hk2 hk3
                                go_wp2
                                go_ret
                                rw [HG.out.1, HG.out.2]
                                refine ⟨rfl, ?_⟩
                                have hfin : (rOf sup' ⟨T, oth, b, rs.length, false⟩ : RS) = { rOf sup J with turn := T, half := oth, super := sup', fin := b.size, n := n } := by
                                  unfold rOf
                                  rw [HN.out, HK.out.2.2.2.2.1]
                                show RJPost F p q w D4 (rOf sup' ⟨T, oth, b, rs.length, false⟩) _
                                rw [hfin]
                                exact HJ.out
                              exact AllReadyF.nil
                            exact AllReadyF.nil
                          exact AllReadyF.nil
                        exact AllReadyF.nil
                      exact AllReadyF.nil
                    · have cz := Lib.hid (fun V G h1 h2 => rdies_dead G p q sup D4 J c3 hc3 V h1 h2)
                      have HC := Lib.hid hc3
                      have t2 : (c3 == 0) = false := beq_eq_false_iff_ne.2 hc3
                      have t3 : (c3 != 0) = true := by rw [bne, t2]; rfl
                      clear hc3
                      go_wp2_with (first
                        | (go_at_call 60; (with_reducible refine (cf2.out _ _ HJ3.out.ref).mono ?_); rintro e w9 ⟨rfl, hp⟩; have HJ4 := Lib.hid (HJ3.out.disk HNQ.out.1 HNQ.out.2 hp); clear hp)
                        | (go_at_call 69; (with_reducible refine (cz.out _ _ HJ4.out.ref HJ4.out.blk).mono ?_); rintro e w8 ⟨rfl, hp⟩; have HJ5 := Lib.hid (HJ4.out.then HNQ.out.1 HNQ.out.2 hp); clear hp))
                      go_ret
                      obtain ⟨hr, hz⟩ := HFAIL.out D4 c3 HXX.out HC.out
                      rw [hz, hr]
                      exact ⟨rfl, HJ5.out⟩
                  · rw [if_pos hc2] at hX
                    have HXX := Lib.hid hX
                    have cz := Lib.hid (rdies_dead _ p q sup D3 J c2 hc2 _ HJ3.out.ref HJ3.out.blk)
                    have HC := Lib.hid hc2
                    have t2 : (c2 == 0) = false := beq_eq_false_iff_ne.2 hc2
                    have t3 : (c2 != 0) = true := by rw [bne, t2]; rfl
                    clear hX hc2
                    go_wp2_with (go_at_call 69; (with_reducible refine cz.out.mono ?_); rintro e w9 ⟨rfl, hp⟩; have HJ4 := Lib.hid (HJ3.out.then HNQ.out.1 HNQ.out.2 hp); clear hp)
                    go_ret
                    obtain ⟨hr, hz⟩ := HFAIL.out D3 c2 HXX.out HC.out
                    rw [hz, hr]
                    exact ⟨rfl, HJ4.out⟩
                exact AllReadyF.nil
              exact AllReadyF.nil
            · have cz := Lib.hid (fun V G h1 h2 => rdies_dead G p q sup D2 J c1 hc1 V h1 h2)
              have HC := Lib.hid hc1
              rw [if_pos hc1] at hX
              have HXX := Lib.hid hX
              have t2 : (c1 == 0) = false := beq_eq_false_iff_ne.2 hc1
              have t3 : (c1 != 0) = true := by rw [bne, t2]; rfl
              clear hc1 hX
              go_wp2_with (first
                | (go_at_call 60; (with_reducible refine (cf.out _ _ HJ.out.ref).mono ?_); rintro e w9 ⟨rfl, hp⟩; have HJ4 := Lib.hid (HJ.out.disk HNQ.out.1 HNQ.out.2 hp); clear hp)
                | (go_at_call 69; (with_reducible refine (cz.out _ _ HJ4.out.ref HJ4.out.blk).mono ?_); rintro e w8 ⟨rfl, hp⟩; have HJ5 := Lib.hid (HJ4.out.then HNQ.out.1 HNQ.out.2 hp); clear hp))
              go_ret
              obtain ⟨hr, hz⟩ := HFAIL.out D2 c1 HXX.out HC.out
              rw [hz, hr]
              exact ⟨rfl, HJ5.out⟩
end Go.Proofs.YtjincmagbbpooaaGreatDoor

