import Derived.Test.YtjincmagbbpooaaGreatDoorJI
set_option linter.unusedVariables false
set_option linter.unusedSimpArgs false
namespace Go.Proofs.YtjincmagbbpooaaGreatDoor
open Go.RowKit

/-! ### Compact -/
/-- All sectors of a half are written, from one on. -/
def fillF (which : Nat) (b : ByteArray) : Nat → Nat → DS → DS × Int
  | 0, _, D => (D, 0)
  | f + 1, i, D =>
    if D.writeC (D.sec which i) (partB b (i * 64) 64) ≠ 0 then (D.write (D.sec which i) (partB b (i * 64) 64), D.writeC (D.sec which i) (partB b (i * 64) 64))
    else fillF which b f (i + 1) (D.write (D.sec which i) (partB b (i * 64) 64))
def laysJ (D : DS) (J : JS) (b : ByteArray) : DS × Int :=
  let y := fillF (1 - J.which) b D.half 0 D
  if y.2 ≠ 0 then y
  else if y.1.flushC ≠ 0 then (y.1.flush, y.1.flushC)
  else if y.1.flush.may 0 ≠ 0 then (y.1.flush, y.1.flush.may 0)
  else if (readB (y.1.flush.readS 0)).1 = J.turn then y.1.flush.super 1 (J.turn + 1) (1 - J.which)
  else y.1.flush.super 0 (J.turn + 1) (1 - J.which)
def compactJ (D : DS) (J : JS) (rs : List ByteArray) : DS × JS × Int :=
  if J.dead = true then (D, J, 25)
  else
    let x := wrapJ (D.half * 64) (J.turn + 1) 0 rs ⟨#[]⟩
    if x.2 ≠ 0 then (D, J, x.2)
    else
      let y := laysJ D J x.1
      if y.2 ≠ 0 then (y.1, { J with dead := true }, y.2) else (y.1, ⟨J.turn + 1, 1 - J.which, x.1, rs.length, false⟩, 0)
theorem fillF_keeps (which : Nat) (b : ByteArray) : ∀ (f i : Nat) (D : DS), (fillF which b f i D).1.sure.length = D.sure.length ∧ (fillF which b f i D).1.done ≤ D.done + f
  | 0, i, D => ⟨rfl, Nat.le_refl _⟩
  | f + 1, i, D => by
    have h2 := D.write_done (D.sec which i) (partB b (i * 64) 64)
    have h3 := D.write_len (D.sec which i) (partB b (i * 64) 64)
    unfold fillF
    split
    · exact ⟨h3, by simp only; omega⟩
    · have h1 := fillF_keeps which b f (i + 1) (D.write (D.sec which i) (partB b (i * 64) 64))
      exact ⟨h1.1.trans h3, by omega⟩

set_option maxHeartbeats 32000000 in
set_option maxRecDepth 100000 in
theorem lays_any (F : Nat → Prop) (p q : Nat) (D : DS) (J : JS) (b : ByteArray) (w : World) (h : Dsk w F p D) (hq : Blk w q 87 (jCells p J)) (hn : ¬ F q) (hg : ErrVar w) (hgF : ¬ F 0) (h2 : 2 ≤ D.sure.length)
    (ht : J.turn ≤ 4000) (hwh : J.which ≤ 1) (hb : b.size ≤ 1000000) (hd : D.done < 1099510000000) :
    Calls Tryz.prog 53 #[.pointer (some ⟨q, 0, none⟩), .string b] w fun e w' => e = .returned (errV (laysJ D J b).2) ∧ JPost F p q w (laysJ D J b).1 J w' := by
  have HJ := Lib.hid (JPost.start h hq)
  have HNQ := Lib.hid (And.intro hn hq.lt)
  have HG := Lib.hid (And.intro hg hgF)
  have HQW := Lib.hid hq
  have x0 := hq.cell 0
  have x2 := hq.cell 2
  simp [jCells] at x0 x2
  obtain ⟨oth, hoth⟩ : ∃ oth, oth = 1 - J.which := ⟨_, rfl⟩
  have hotI : (1 : Int) - (J.which : Int) = (oth : Int) := by omega
  have hot1 : oth ≤ 1 := by omega
  have ch := Lib.hid (half_any w F p D h2 h)
  have hhz := half_le h.ok
  obtain ⟨H, hH⟩ : ∃ H, H = D.half := ⟨_, rfl⟩
  rw [← hH] at ch hhz
  obtain ⟨Y, hY⟩ : ∃ Y, Y = fillF oth b H 0 D := ⟨_, rfl⟩
  have hR : laysJ D J b = (if Y.2 ≠ 0 then Y else if Y.1.flushC ≠ 0 then (Y.1.flush, Y.1.flushC) else if Y.1.flush.may 0 ≠ 0 then (Y.1.flush, Y.1.flush.may 0) else if (readB (Y.1.flush.readS 0)).1 = J.turn then Y.1.flush.super 1 (J.turn + 1) oth else Y.1.flush.super 0 (J.turn + 1) oth) := by
    rw [hY, hH, hoth]; rfl
  generalize laysJ D J b = R at hR ⊢
  have hkeep := fillF_keeps oth b H 0 D
  rw [← hY] at hkeep
  have HRR := Lib.hid hR
  have HKE := Lib.hid hkeep
  have HY := Lib.hid hY
  have HK := Lib.hid (And.intro h2 (And.intro hwh (And.intro hb (And.intro hd (And.intro hH ht)))))
  clear h hq hn hg hgF h2 hwh hb hd hoth hR hY hH hkeep
  go_enter Tryz.func53, Tryz.ntmps53
  go_upto_region 3 with (go_at_call 38; (with_reducible refine ch.out.mono ?_); rintro e w1 ⟨rfl, rfl⟩)
  clear x0 x2 ch
  go_loopg [24] H (fun kq v24 wr => ∃ (i : Nat) (D1 : DS), v24 = .int .i64 (i : Int) ∧ i + kq = H ∧ Hid (D1.sure.length = D.sure.length ∧ D1.done ≤ D.done + i) ∧ Hid (Y = fillF oth b (H - i) i D1) ∧ Hid (JPost F p q w D1 J wr))
  case atStart => exact ⟨0, D, rfl, by omega, ⟨rfl, Nat.le_refl _⟩, HY, HJ⟩
  case round =>
    clear HJ HY
    obtain ⟨i, D1, rfl, hi, HL, HYr, HJ⟩ := hrel
    have hY := HYr.out
    by_cases hlt : i < H
    · obtain ⟨k', rfl⟩ : ∃ k', gk = k' + 1 := ⟨gk - 1, by omega⟩
      have hf2 : H - (i + 1) = H - i - 1 := by omega
      obtain ⟨f, hf⟩ : ∃ f, H - i = f + 1 := ⟨H - i - 1, by omega⟩
      have HF : Hid (H - (i + 1) = f) := by show _ = _; omega
      rw [hf] at hY
      unfold fillF at hY
      have q1 : (i : Int) < (H : Int) := by omega
      have hlen1 : 2 ≤ D1.sure.length := by rw [HL.out.1]; exact HK.out.1
      obtain ⟨qs, hqs⟩ : ∃ qs, qs = D1.sec oth i := ⟨_, rfl⟩
      have cs := Lib.hid (fun W (G : Nat → Prop) (hG : Dsk W G p D1) => sector_any W G p D1 oth i hot1 (by omega) hlen1 hG)
      have e64 : ((i * 64 : Nat) : Int) = (i : Int) * 64 := by omega
      obtain ⟨x, hx⟩ : ∃ x, x = partB b (i * 64) 64 := ⟨_, rfl⟩
      have cp : Hid (∀ W, Calls Tryz.prog 66 #[.string b, .int .i64 ((i : Int) * 64), .int .i64 64] W fun e w' => e = .returned (.string x) ∧ W = w') := fun W => by
        have := part_any b (i * 64) 64 (by have := HK.out.2.2.1; omega) (by omega) (by omega) W
        rw [e64, ← hx] at this
        exact this
      have hiW : IntKind.i64.wrap ((i : Int) * 64) = (i : Int) * 64 := IntWalk.i64_in _ (by omega)
      have ci := Lib.hid (fun W (G : Nat → Prop) (hG : Dsk W G p D1) => Write_any W G p D1 (qs : Int) x (by have := HL.out.2; have := HK.out.2.2.2.1; omega) hG)
      rw [← hqs] at cs hY
      rw [← hx] at hY
      obtain ⟨c, hc⟩ : ∃ c, c = D1.writeC (qs : Int) x := ⟨_, rfl⟩
      obtain ⟨D2, hD2⟩ : ∃ D2, D2 = D1.write (qs : Int) x := ⟨_, rfl⟩
      rw [← hc, ← hD2] at ci hY
      have HL2 : Hid (D2.sure.length = D.sure.length ∧ D2.done ≤ D.done + (i + 1)) := ⟨by rw [hD2, DS.write_len]; exact HL.out.1, by have := D1.write_done (qs : Int) x; rw [← hD2] at this; have := HL.out.2; omega⟩
      obtain ⟨ev, hev⟩ : ∃ ev, ev = errV c := ⟨_, rfl⟩
      rw [← hev] at ci
      have HEV := Lib.hid hev
      clear hqs hx hc hD2 hev e64 HYr hlt hlen1 hf hf2
      go_upto_region 5 with fail
      have HQ := Lib.hid ((HJ.out.below ((Below.refl _ _).drew)).blk)
      have HJd := Lib.hid (HJ.out.below ((Below.refl _ _).drew))
      clear HJ
      have HJ := HJd
      clear HJd
      refine wp_region_fam (S := (jA q p J)) (ds := (fun _ => [])) (by kernel_rfl) ?_
      refine wpFam_take (i := 0) 0 (some 27) (v := ?_) rfl (by kernel_rfl) (by kernel_rfl) (by kernel_rfl) (by kernel_rfl) (by kernel_rfl) (fun _ _ _ h => h) rfl (Or.inl ⟨by rfl, ?_⟩) (by exact trivial) ?_
      rotate_left
      · (intro w hSw; (try simp only [jA] at hSw); go_simp); (try with_reducible rfl)
      try simp only [Act.put, List.setIfInBounds_toArray, List.set_cons_zero, List.set_cons_succ]
      refine wpFam_take (i := 1) 0 (some 28) (v := ?_) rfl (by kernel_rfl) (by kernel_rfl) (by kernel_rfl) (by kernel_rfl) (by kernel_rfl) (fun _ _ _ h => h) rfl (Or.inl ⟨by rfl, ?_⟩) (by exact trivial) ?_
      rotate_left
      · (intro w hSw; (try simp only [jA] at hSw); go_simp); (try with_reducible rfl)
      try simp only [Act.put, List.setIfInBounds_toArray, List.set_cons_zero, List.set_cons_succ]
      refine wpFam_take (i := 2) 0 (some 29) (v := ?_) rfl (by kernel_rfl) (by kernel_rfl) (by kernel_rfl) (by kernel_rfl) (by kernel_rfl) (fun _ _ _ h => h) rfl (Or.inl ⟨by rfl, ?_⟩) (by exact trivial) ?_
      rotate_left
      · (intro w hSw; (try simp only [jA] at hSw); go_simp); (try with_reducible rfl)
      try simp only [Act.put, List.setIfInBounds_toArray, List.set_cons_zero, List.set_cons_succ]
      refine wpFam_take (i := 3) 1 (some 30) (v := ?_) rfl (by kernel_rfl) (by kernel_rfl) (by kernel_rfl) (by kernel_rfl) (by kernel_rfl) (fun _ _ _ h => h) rfl (Or.inl ⟨by rfl, ?_⟩) (by exact jA_of HQ.out 1) ?_
      rotate_left
      · (intro w hSw; (try simp only [jA] at hSw); go_simp); (try with_reducible rfl)
      try simp only [Act.put, List.setIfInBounds_toArray, List.set_cons_zero, List.set_cons_succ]
      refine wpFam_take (i := 4) 0 (some 31) (v := ?_) rfl (by kernel_rfl) (by kernel_rfl) (by kernel_rfl) (by kernel_rfl) (by kernel_rfl) (fun _ _ _ h => h) rfl (Or.inl ⟨by rfl, ?_⟩) (by exact trivial) ?_
      rotate_left
      · (intro w hSw; (try simp only [jA] at hSw); go_simp); (try with_reducible rfl)
      try simp only [Act.put, List.setIfInBounds_toArray, List.set_cons_zero, List.set_cons_succ]
      refine wpFam_take (i := 5) 0 (some 32) (v := ?_) rfl (by kernel_rfl) (by kernel_rfl) (by kernel_rfl) (by kernel_rfl) (by kernel_rfl) (fun _ _ _ h => h) rfl (Or.inl ⟨by rfl, ?_⟩) (by exact trivial) ?_
      rotate_left
      · (intro w hSw; (try simp only [jA] at hSw); go_simp); (try with_reducible rfl)
      try simp only [Act.put, List.setIfInBounds_toArray, List.set_cons_zero, List.set_cons_succ]
      refine wpFam_take (i := 6) 0 (some 33) (v := ?_) rfl (by kernel_rfl) (by kernel_rfl) (by kernel_rfl) (by kernel_rfl) (by kernel_rfl) (fun _ _ _ h => h) rfl (Or.inl ⟨by rfl, ?_⟩) (by exact trivial) ?_
      rotate_left
      · (intro w hSw; (try simp only [jA] at hSw); go_simp); (try with_reducible rfl)
      try simp only [Act.put, List.setIfInBounds_toArray, List.set_cons_zero, List.set_cons_succ]
      refine wpFam_take (i := 7) 1 (some 34) (v := ?_) rfl (by kernel_rfl) (by kernel_rfl) (by kernel_rfl) (by kernel_rfl) (by kernel_rfl) (fun _ _ _ h => h) rfl (Or.inl ⟨by rfl, ?_⟩) (by exact jA_of HQ.out 1) ?_
      rotate_left
      · (intro w hSw; (try simp only [jA] at hSw); go_simp); (try with_reducible rfl)
      try simp only [Act.put, List.setIfInBounds_toArray, List.set_cons_zero, List.set_cons_succ]
      refine wpFam_take (i := 8) 0 (some 35) (v := ?_) rfl (by kernel_rfl) (by kernel_rfl) (by kernel_rfl) (by kernel_rfl) (by kernel_rfl) (fun _ _ _ h => h) rfl (Or.inl ⟨by rfl, ?_⟩) (by exact trivial) ?_
      rotate_left
      · (intro w hSw; (try simp only [jA] at hSw); go_simp); (try with_reducible rfl)
      try simp only [Act.put, List.setIfInBounds_toArray, List.set_cons_zero, List.set_cons_succ]
      refine wpFam_take (i := 9) 0 (some 36) (v := ?_) rfl (by kernel_rfl) (by kernel_rfl) (by kernel_rfl) (by kernel_rfl) (by kernel_rfl) (fun _ _ _ h => h) rfl (Or.inl ⟨by rfl, ?_⟩) (by exact trivial) ?_
      rotate_left
      · (intro w hSw; (try simp only [jA] at hSw); go_simp); (try with_reducible rfl)
      try simp only [Act.put, List.setIfInBounds_toArray, List.set_cons_zero, List.set_cons_succ]
      refine wpFam_take (i := 11) 0 (some 38) (v := ?_) rfl (by kernel_rfl) (by kernel_rfl) (by kernel_rfl) (by kernel_rfl) (by kernel_rfl) (fun _ _ _ h => h) rfl (Or.inl ⟨by rfl, ?_⟩) (by exact trivial) ?_
      rotate_left
      · (intro w hSw; (try simp only [jA] at hSw); go_simp); (try with_reducible rfl)
      try simp only [Act.put, List.setIfInBounds_toArray, List.set_cons_zero, List.set_cons_succ]
      refine wpFam_take (i := 12) 0 (some 39) (v := ?_) rfl (by kernel_rfl) (by kernel_rfl) (by kernel_rfl) (by kernel_rfl) (by kernel_rfl) (fun _ _ _ h => h) rfl (Or.inl ⟨by rfl, ?_⟩) (by exact trivial) ?_
      rotate_left
      · (intro w hSw; (try simp only [jA] at hSw); go_simp); (try with_reducible rfl)
      try simp only [Act.put, List.setIfInBounds_toArray, List.set_cons_zero, List.set_cons_succ]
      refine wpFam_take (i := 13) 0 (some 40) (v := ?_) rfl (by kernel_rfl) (by kernel_rfl) (by kernel_rfl) (by kernel_rfl) (by kernel_rfl) (fun _ _ _ h => h) rfl (Or.inl ⟨by rfl, ?_⟩) (by exact trivial) ?_
      rotate_left
      · (intro w hSw; (try simp only [jA] at hSw); go_simp); (try with_reducible rfl)
      try simp only [Act.put, List.setIfInBounds_toArray, List.set_cons_zero, List.set_cons_succ]
      refine wpFam_ready (rs := [10]) (by kernel_rfl) (by simp) ?_
      refine AllReadyF.cons (i := 10) rfl (fun K hK => ?_) ?_
      ·
        refine step_call Tryz.func39 (by kernel_rfl) rfl #[.pointer (some ⟨p, 0, none⟩), .int .i64 (oth : Int), .int .i64 (i : Int)] (by rfl) (by rfl) (by first | rfl | (simp [Act.eval, Act.put, hiW]; done)) ?_
        refine (cs.out _ _ HJ.out.dsk).mono ?_
        rintro e w6 ⟨rfl, rfl⟩
        refine ⟨_, rfl, ?_⟩
        try change K (Act.put _ (some 37) _) _
        refine hK.out _ _ ?_ ?_
        · ((intro i _ _; exact jA_of HQ.out i))
        clear hK K
        try simp only [Act.put, List.setIfInBounds_toArray, List.set_cons_zero, List.set_cons_succ]
        refine wpFam_ready (rs := [14]) (by kernel_rfl) (by simp) ?_
        refine AllReadyF.cons (i := 14) rfl (fun K hK => ?_) ?_
        ·
          refine step_call Tryz.func66 (by kernel_rfl) rfl #[.string b, .int .i64 ((i : Int) * 64), .int .i64 64] (by rfl) (by rfl) (by first | rfl | (simp [Act.eval, Act.put, hiW]; done)) ?_
          refine (cp.out _).mono ?_
          rintro e w6 ⟨rfl, rfl⟩
          refine ⟨_, rfl, ?_⟩
          try change K (Act.put _ (some 41) _) _
          refine hK.out _ _ ?_ ?_
          · ((intro i _ _; exact jA_of HQ.out i))
          clear hK K
          try simp only [Act.put, List.setIfInBounds_toArray, List.set_cons_zero, List.set_cons_succ]
          refine wpFam_ready (rs := [15]) (by kernel_rfl) (by simp) ?_
          refine AllReadyF.cons (i := 15) rfl (fun K hK => ?_) ?_
          ·
            refine step_call Tryz.func11 (by kernel_rfl) rfl #[.pointer (some ⟨p, 0, none⟩), .int .i64 (qs : Int), .string x] (by rfl) (by rfl) (by first | rfl | (simp [Act.eval, Act.put, hiW]; done)) ?_
            refine (ci.out _ _ HJ.out.dsk).mono ?_
            rintro e w7 ⟨rfl, hp⟩
            have HJ3 := Lib.hid (HJ.out.disk HNQ.out.1 HNQ.out.2 hp)
            replace HQ := Lib.hid (HJ3.out.blk)
            clear hp
            refine ⟨_, rfl, ?_⟩
            try change K (Act.put _ (some 42) _) _
            refine hK.out _ _ ?_ ?_
            · ((intro i _ _; exact jA_of HQ.out i))
            clear hK K
            try simp only [Act.put, List.setIfInBounds_toArray, List.set_cons_zero, List.set_cons_succ]
            refine wpFam_take (i := 16) 0 (some 7) (v := ?_) rfl (by kernel_rfl) (by kernel_rfl) (by kernel_rfl) (by kernel_rfl) (by kernel_rfl) (fun _ _ _ h => h) rfl (Or.inl ⟨by rfl, ?_⟩) (by exact trivial) ?_
            rotate_left
            · (intro w hSw; (try simp only [jA] at hSw); go_simp); (try with_reducible rfl)
            try simp only [Act.put, List.setIfInBounds_toArray, List.set_cons_zero, List.set_cons_succ]
            refine wpFam_done (by kernel_rfl) ?_ _
            by_cases hc0 : c = 0
            · subst hc0
              obtain rfl : ev = .nilIface := HEV.out.trans errV_zero
              rw [if_neg (by decide)] at hY
              have HY2 := Lib.hid hY
              clear hY
              go_wp2
              go_roundg k'
              case measure => omega
              case rel => exact ⟨i + 1, D2, by go_num, by omega, HL2, by rw [HF.out]; exact HY2.out, HJ3⟩
            · obtain rfl : ev = .iface 34 (.int .i64 c) := HEV.out.trans (errV_ne hc0)
              rw [if_pos hc0] at hY
              have HY2 := Lib.hid hY
              have HC := Lib.hid (And.intro hc0 (errV_ne hc0))
              clear hY hc0
              go_wp2
              go_ret
              have hr := HRR.out
              rw [HY2.out] at hr
              simp only at hr
              rw [if_pos HC.out.1] at hr
              rw [hr]
              exact ⟨by rw [HC.out.2]; rfl, HJ3.out⟩
          exact AllReadyF.nil
        exact AllReadyF.nil
      exact AllReadyF.nil
    · obtain rfl : i = H := by omega
      have hY0 : Y = (D1, 0) := by rw [hY, Nat.sub_self]; rfl
      have hR := HRR.out
      rw [hY0] at hR
      simp only at hR
      rw [if_neg (by decide)] at hR
      have hlen1 : 2 ≤ D1.sure.length := by rw [HL.out.1]; exact HK.out.1
      have cf := Lib.hid (fun W (G : Nat → Prop) (hG : Dsk W G p D1) => Flush_any W G p D1 hG)
      have hd2 := D1.flush_done
      have hD1ok := HJ.out.dsk.ok
      have hD2ok := hD1ok.flush
      obtain ⟨D2, hD2⟩ : ∃ D2, D2 = D1.flush := ⟨_, rfl⟩
      obtain ⟨c, hc⟩ : ∃ c, c = D1.flushC := ⟨_, rfl⟩
      rw [← hD2] at hR cf hd2 hD2ok
      rw [← hc] at hR cf
      have x0 := HJ.out.blk.cell 0
      simp [jCells] at x0
      have q1 : decide ((i : Int) < (i : Int)) = false := decide_eq_false (by omega)
      clear hY hY0 hlt hi HYr hD2 hc q1
      by_cases hc0 : c = 0
      case neg =>
        rw [if_pos hc0] at hR
        rw [errV_ne hc0] at cf
        have HR3 := Lib.hid hR
        have HC := Lib.hid (errV_ne hc0)
        clear hR hc0
        go_wp2_with (go_at_call 46; (with_reducible refine (cf.out _ _ HJ.out.dsk).mono ?_); rintro e w2 ⟨rfl, hp⟩; have HJ3 := Lib.hid (HJ.out.disk HNQ.out.1 HNQ.out.2 hp); clear hp)
        go_ret
        rw [HR3.out]
        exact ⟨by rw [HC.out]; rfl, HJ3.out⟩
      subst hc0
      rw [if_neg (by decide)] at hR
      rw [errV_zero] at cf
      go_upto_region 12 with (go_at_call 46; (with_reducible refine (cf.out _ _ HJ.out.dsk).mono ?_); rintro e w2 ⟨rfl, hp⟩; have HJ3 := Lib.hid (HJ.out.disk HNQ.out.1 HNQ.out.2 hp); clear hp)
      have HGV : Hid (ErrVar w2) := by
        have h1 := HG.out.1
        have hlt : 0 < w.heap.size := cell_lt h1
        have hne : 0 ≠ q := fun e => by
          subst e
          have hb := HQW.out.cell 0
          unfold ErrVar at h1
          rw [hb] at h1
          cases h1
        exact (World.cell?_of_block (HJ3.out.1.block _ hlt (fun h => h.elim HG.out.2 hne))).trans h1
      have cr := Lib.hid (fun (G : Nat → Prop) (hG : Dsk w2 G p D2) => Read_any w2 G p D2 0 hG)
      have hrz := readS_64 hD2ok 0
      obtain ⟨m, hm⟩ : ∃ m, m = D2.may 0 := ⟨_, rfl⟩
      rw [← hm] at cr hR
      generalize D2.readS 0 = s at cr hR hrz
      have y0 := HJ3.out.blk.cell 0
      have y1 := HJ3.out.blk.cell 1
      simp [jCells] at y0 y1
      clear x0 hm
      by_cases hm0 : m = 0
      case neg =>
        rw [if_pos hm0] at hR
        rw [errV_ne hm0] at cr
        have HR3 := Lib.hid hR
        have HC := Lib.hid (errV_ne hm0)
        clear hR hm0
        go_wp2_with (go_at_call 33; (with_reducible refine (cr.out _ HJ3.out.dsk).mono ?_); rintro e w3 ⟨rfl, rfl⟩)
        go_ret
        rw [HR3.out]
        exact ⟨by rw [HC.out]; rfl, HJ3.out⟩
      subst hm0
      rw [if_neg (by decide)] at hR
      rw [errV_zero] at cr
      have cx := Lib.hid (read_any s (by omega) w2 HGV.out)
      generalize readB s = rb at cx hR
      obtain ⟨rt, rw_⟩ := rb
      simp only at hR cx
      obtain ⟨turn1, ht1⟩ : ∃ turn1, turn1 = J.turn + 1 := ⟨_, rfl⟩
      rw [← ht1] at hR
      have ht1I : (J.turn : Int) + 1 = (turn1 : Int) := by omega
      have htW : IntKind.i64.wrap ((J.turn : Int) + 1) = (turn1 : Int) := by rw [ht1I]; exact IntWalk.i64_in _ (by have := HK.out.2.2.2.2.2; omega)
      have htW2 : IntKind.i64.wrap (turn1 : Int) = (turn1 : Int) := IntWalk.i64_in _ (by have := HK.out.2.2.2.2.2; omega)
      have csu0 := Lib.hid (fun W (G : Nat → Prop) (hG : Dsk W G p D2) => super_any G p D2 0 turn1 oth W hG (by have := HK.out.2.2.2.2.2; omega) hot1 (by have := HL.out.2; have := HK.out.2.2.2.1; omega))
      have csu1 := Lib.hid (fun W (G : Nat → Prop) (hG : Dsk W G p D2) => super_any G p D2 1 turn1 oth W hG (by have := HK.out.2.2.2.2.2; omega) hot1 (by have := HL.out.2; have := HK.out.2.2.2.1; omega))
      by_cases heq : rt = J.turn
      · rw [if_pos heq] at hR
        have t1 : ((rt : Int) == (J.turn : Int)) = true := by rw [beq_iff_eq]; omega
        have HR5 := Lib.hid hR
        have csu := csu1
        clear hR heq ht1 csu0 csu1 ht1I
        go_upto_region 19 with (first
          | (go_at_call 33; (with_reducible refine (cr.out _ HJ3.out.dsk).mono ?_); rintro e w3 ⟨rfl, rfl⟩)
          | (go_at_call 73; (with_reducible refine cx.out.mono ?_); rintro e w4 ⟨rfl, hb⟩; have HJ4 := Lib.hid (HJ3.out.below hb); have z1 := HJ4.out.blk.cell 1; simp [jCells] at z1; clear hb))
        have HJ := Lib.hid (HJ4.out.below ((Below.refl _ _).drew))
        have HQ := Lib.hid (HJ.out.blk)
        clear y0 y1 z1
        refine wp_region_fam (S := (jA q p J)) (ds := (fun _ => [])) (by kernel_rfl) ?_
        refine wpFam_take (i := 0) 0 (some 77) (v := ?_) rfl (by kernel_rfl) (by kernel_rfl) (by kernel_rfl) (by kernel_rfl) (by kernel_rfl) (fun _ _ _ h => h) rfl (Or.inl ⟨by rfl, ?_⟩) (by exact trivial) ?_
        rotate_left
        · (intro w hSw; (try simp only [jA] at hSw); go_simp); (try with_reducible rfl)
        try simp only [Act.put, List.setIfInBounds_toArray, List.set_cons_zero, List.set_cons_succ]
        refine wpFam_take (i := 1) 0 (some 78) (v := ?_) rfl (by kernel_rfl) (by kernel_rfl) (by kernel_rfl) (by kernel_rfl) (by kernel_rfl) (fun _ _ _ h => h) rfl (Or.inl ⟨by rfl, ?_⟩) (by exact trivial) ?_
        rotate_left
        · (intro w hSw; (try simp only [jA] at hSw); go_simp); (try with_reducible rfl)
        try simp only [Act.put, List.setIfInBounds_toArray, List.set_cons_zero, List.set_cons_succ]
        refine wpFam_take (i := 2) 0 (some 79) (v := ?_) rfl (by kernel_rfl) (by kernel_rfl) (by kernel_rfl) (by kernel_rfl) (by kernel_rfl) (fun _ _ _ h => h) rfl (Or.inl ⟨by rfl, ?_⟩) (by exact trivial) ?_
        rotate_left
        · (intro w hSw; (try simp only [jA] at hSw); go_simp); (try with_reducible rfl)
        try simp only [Act.put, List.setIfInBounds_toArray, List.set_cons_zero, List.set_cons_succ]
        refine wpFam_take (i := 3) 1 (some 80) (v := ?_) rfl (by kernel_rfl) (by kernel_rfl) (by kernel_rfl) (by kernel_rfl) (by kernel_rfl) (fun _ _ _ h => h) rfl (Or.inl ⟨by rfl, ?_⟩) (by exact jA_of HQ.out 1) ?_
        rotate_left
        · (intro w hSw; (try simp only [jA] at hSw); go_simp); (try with_reducible rfl)
        try simp only [Act.put, List.setIfInBounds_toArray, List.set_cons_zero, List.set_cons_succ]
        refine wpFam_take (i := 4) 0 (some 81) (v := ?_) rfl (by kernel_rfl) (by kernel_rfl) (by kernel_rfl) (by kernel_rfl) (by kernel_rfl) (fun _ _ _ h => h) rfl (Or.inl ⟨by rfl, ?_⟩) (by exact trivial) ?_
        rotate_left
        · (intro w hSw; (try simp only [jA] at hSw); go_simp); (try with_reducible rfl)
        try simp only [Act.put, List.setIfInBounds_toArray, List.set_cons_zero, List.set_cons_succ]
        refine wpFam_take (i := 5) 0 (some 82) (v := ?_) rfl (by kernel_rfl) (by kernel_rfl) (by kernel_rfl) (by kernel_rfl) (by kernel_rfl) (fun _ _ _ h => h) rfl (Or.inl ⟨by rfl, ?_⟩) (by exact trivial) ?_
        rotate_left
        · (intro w hSw; (try simp only [jA] at hSw); go_simp); (try with_reducible rfl)
        try simp only [Act.put, List.setIfInBounds_toArray, List.set_cons_zero, List.set_cons_succ]
        refine wpFam_take (i := 6) 0 (some 83) (v := ?_) rfl (by kernel_rfl) (by kernel_rfl) (by kernel_rfl) (by kernel_rfl) (by kernel_rfl) (fun _ _ _ h => h) rfl (Or.inl ⟨by rfl, ?_⟩) (by exact trivial) ?_
        rotate_left
        · (intro w hSw; (try simp only [jA] at hSw); go_simp); (try with_reducible rfl)
        try simp only [Act.put, List.setIfInBounds_toArray, List.set_cons_zero, List.set_cons_succ]
        refine wpFam_take (i := 7) 0 (some 84) (v := ?_) rfl (by kernel_rfl) (by kernel_rfl) (by kernel_rfl) (by kernel_rfl) (by kernel_rfl) (fun _ _ _ h => h) rfl (Or.inl ⟨by rfl, ?_⟩) (by exact trivial) ?_
        rotate_left
        · (intro w hSw; (try simp only [jA] at hSw); go_simp); (try with_reducible rfl)
        try simp only [Act.put, List.setIfInBounds_toArray, List.set_cons_zero, List.set_cons_succ]
        refine wpFam_take (i := 8) 2 (some 85) (v := ?_) rfl (by kernel_rfl) (by kernel_rfl) (by kernel_rfl) (by kernel_rfl) (by kernel_rfl) (fun _ _ _ h => h) rfl (Or.inl ⟨by rfl, ?_⟩) (by exact jA_of HQ.out 2) ?_
        rotate_left
        · (intro w hSw; (try simp only [jA] at hSw); go_simp); (try with_reducible rfl)
        try simp only [Act.put, List.setIfInBounds_toArray, List.set_cons_zero, List.set_cons_succ]
        refine wpFam_take (i := 9) 0 (some 86) (v := ?_) rfl (by kernel_rfl) (by kernel_rfl) (by kernel_rfl) (by kernel_rfl) (by kernel_rfl) (fun _ _ _ h => h) rfl (Or.inl ⟨by rfl, ?_⟩) (by exact trivial) ?_
        rotate_left
        · (intro w hSw; (try simp only [jA] at hSw); go_simp); (try with_reducible rfl)
        try simp only [Act.put, List.setIfInBounds_toArray, List.set_cons_zero, List.set_cons_succ]
        refine wpFam_take (i := 10) 0 (some 87) (v := ?_) rfl (by kernel_rfl) (by kernel_rfl) (by kernel_rfl) (by kernel_rfl) (by kernel_rfl) (fun _ _ _ h => h) rfl (Or.inl ⟨by rfl, ?_⟩) (by exact trivial) ?_
        rotate_left
        · (intro w hSw; (try simp only [jA] at hSw); go_simp); (try with_reducible rfl)
        try simp only [Act.put, List.setIfInBounds_toArray, List.set_cons_zero, List.set_cons_succ]
        refine wpFam_ready (rs := [11]) (by kernel_rfl) (by simp) ?_
        refine AllReadyF.cons (i := 11) rfl (fun K hK => ?_) ?_
        ·
          refine step_call Tryz.func47 (by kernel_rfl) rfl #[.pointer (some ⟨p, 0, none⟩), .int .i64 1, .int .i64 (turn1 : Int), .int .i64 (oth : Int)] (by rfl) (by rfl) (by first | rfl | (simp [Act.eval, Act.put, htW]; done)) ?_
          refine (csu.out _ _ HJ.out.dsk).mono ?_
          rintro e w7 ⟨rfl, hp⟩
          have HJ3 := Lib.hid (HJ.out.disk HNQ.out.1 HNQ.out.2 hp)
          replace HQ := Lib.hid (HJ3.out.blk)
          clear hp
          refine ⟨_, rfl, ?_⟩
          try change K (Act.put _ (some 88) _) _
          refine hK.out _ _ ?_ ?_
          · ((intro i _ _; exact jA_of HQ.out i))
          clear hK K
          try simp only [Act.put, List.setIfInBounds_toArray, List.set_cons_zero, List.set_cons_succ]
          refine wpFam_take (i := 12) 0 (some 4) (v := ?_) rfl (by kernel_rfl) (by kernel_rfl) (by kernel_rfl) (by kernel_rfl) (by kernel_rfl) (fun _ _ _ h => h) rfl (Or.inl ⟨by rfl, ?_⟩) (by exact trivial) ?_
          rotate_left
          · (intro w hSw; (try simp only [jA] at hSw); go_simp); (try with_reducible rfl)
          try simp only [Act.put, List.setIfInBounds_toArray, List.set_cons_zero, List.set_cons_succ]
          refine wpFam_done (by kernel_rfl) ?_ _
          go_wp2
          go_ret
          rw [HR5.out]
          exact ⟨rfl, HJ3.out⟩
        exact AllReadyF.nil
      · rw [if_neg heq] at hR
        have t1 : ((rt : Int) == (J.turn : Int)) = false := by rw [beq_eq_false_iff_ne]; omega
        have HR5 := Lib.hid hR
        have csu := csu0
        clear hR heq ht1 csu0 csu1 ht1I
        go_upto_region 19 with (first
          | (go_at_call 33; (with_reducible refine (cr.out _ HJ3.out.dsk).mono ?_); rintro e w3 ⟨rfl, rfl⟩)
          | (go_at_call 73; (with_reducible refine cx.out.mono ?_); rintro e w4 ⟨rfl, hb⟩; have HJ4 := Lib.hid (HJ3.out.below hb); have z1 := HJ4.out.blk.cell 1; simp [jCells] at z1; clear hb))
        have HJ := Lib.hid (HJ4.out.below ((Below.refl _ _).drew))
        have HQ := Lib.hid (HJ.out.blk)
        clear y0 y1 z1
        refine wp_region_fam (S := (jA q p J)) (ds := (fun _ => [])) (by kernel_rfl) ?_
        refine wpFam_take (i := 0) 0 (some 77) (v := ?_) rfl (by kernel_rfl) (by kernel_rfl) (by kernel_rfl) (by kernel_rfl) (by kernel_rfl) (fun _ _ _ h => h) rfl (Or.inl ⟨by rfl, ?_⟩) (by exact trivial) ?_
        rotate_left
        · (intro w hSw; (try simp only [jA] at hSw); go_simp); (try with_reducible rfl)
        try simp only [Act.put, List.setIfInBounds_toArray, List.set_cons_zero, List.set_cons_succ]
        refine wpFam_take (i := 1) 0 (some 78) (v := ?_) rfl (by kernel_rfl) (by kernel_rfl) (by kernel_rfl) (by kernel_rfl) (by kernel_rfl) (fun _ _ _ h => h) rfl (Or.inl ⟨by rfl, ?_⟩) (by exact trivial) ?_
        rotate_left
        · (intro w hSw; (try simp only [jA] at hSw); go_simp); (try with_reducible rfl)
        try simp only [Act.put, List.setIfInBounds_toArray, List.set_cons_zero, List.set_cons_succ]
        refine wpFam_take (i := 2) 0 (some 79) (v := ?_) rfl (by kernel_rfl) (by kernel_rfl) (by kernel_rfl) (by kernel_rfl) (by kernel_rfl) (fun _ _ _ h => h) rfl (Or.inl ⟨by rfl, ?_⟩) (by exact trivial) ?_
        rotate_left
        · (intro w hSw; (try simp only [jA] at hSw); go_simp); (try with_reducible rfl)
        try simp only [Act.put, List.setIfInBounds_toArray, List.set_cons_zero, List.set_cons_succ]
        refine wpFam_take (i := 3) 1 (some 80) (v := ?_) rfl (by kernel_rfl) (by kernel_rfl) (by kernel_rfl) (by kernel_rfl) (by kernel_rfl) (fun _ _ _ h => h) rfl (Or.inl ⟨by rfl, ?_⟩) (by exact jA_of HQ.out 1) ?_
        rotate_left
        · (intro w hSw; (try simp only [jA] at hSw); go_simp); (try with_reducible rfl)
        try simp only [Act.put, List.setIfInBounds_toArray, List.set_cons_zero, List.set_cons_succ]
        refine wpFam_take (i := 4) 0 (some 81) (v := ?_) rfl (by kernel_rfl) (by kernel_rfl) (by kernel_rfl) (by kernel_rfl) (by kernel_rfl) (fun _ _ _ h => h) rfl (Or.inl ⟨by rfl, ?_⟩) (by exact trivial) ?_
        rotate_left
        · (intro w hSw; (try simp only [jA] at hSw); go_simp); (try with_reducible rfl)
        try simp only [Act.put, List.setIfInBounds_toArray, List.set_cons_zero, List.set_cons_succ]
        refine wpFam_take (i := 5) 0 (some 82) (v := ?_) rfl (by kernel_rfl) (by kernel_rfl) (by kernel_rfl) (by kernel_rfl) (by kernel_rfl) (fun _ _ _ h => h) rfl (Or.inl ⟨by rfl, ?_⟩) (by exact trivial) ?_
        rotate_left
        · (intro w hSw; (try simp only [jA] at hSw); go_simp); (try with_reducible rfl)
        try simp only [Act.put, List.setIfInBounds_toArray, List.set_cons_zero, List.set_cons_succ]
        refine wpFam_take (i := 6) 0 (some 83) (v := ?_) rfl (by kernel_rfl) (by kernel_rfl) (by kernel_rfl) (by kernel_rfl) (by kernel_rfl) (fun _ _ _ h => h) rfl (Or.inl ⟨by rfl, ?_⟩) (by exact trivial) ?_
        rotate_left
        · (intro w hSw; (try simp only [jA] at hSw); go_simp); (try with_reducible rfl)
        try simp only [Act.put, List.setIfInBounds_toArray, List.set_cons_zero, List.set_cons_succ]
        refine wpFam_take (i := 7) 0 (some 84) (v := ?_) rfl (by kernel_rfl) (by kernel_rfl) (by kernel_rfl) (by kernel_rfl) (by kernel_rfl) (fun _ _ _ h => h) rfl (Or.inl ⟨by rfl, ?_⟩) (by exact trivial) ?_
        rotate_left
        · (intro w hSw; (try simp only [jA] at hSw); go_simp); (try with_reducible rfl)
        try simp only [Act.put, List.setIfInBounds_toArray, List.set_cons_zero, List.set_cons_succ]
        refine wpFam_take (i := 8) 2 (some 85) (v := ?_) rfl (by kernel_rfl) (by kernel_rfl) (by kernel_rfl) (by kernel_rfl) (by kernel_rfl) (fun _ _ _ h => h) rfl (Or.inl ⟨by rfl, ?_⟩) (by exact jA_of HQ.out 2) ?_
        rotate_left
        · (intro w hSw; (try simp only [jA] at hSw); go_simp); (try with_reducible rfl)
        try simp only [Act.put, List.setIfInBounds_toArray, List.set_cons_zero, List.set_cons_succ]
        refine wpFam_take (i := 9) 0 (some 86) (v := ?_) rfl (by kernel_rfl) (by kernel_rfl) (by kernel_rfl) (by kernel_rfl) (by kernel_rfl) (fun _ _ _ h => h) rfl (Or.inl ⟨by rfl, ?_⟩) (by exact trivial) ?_
        rotate_left
        · (intro w hSw; (try simp only [jA] at hSw); go_simp); (try with_reducible rfl)
        try simp only [Act.put, List.setIfInBounds_toArray, List.set_cons_zero, List.set_cons_succ]
        refine wpFam_take (i := 10) 0 (some 87) (v := ?_) rfl (by kernel_rfl) (by kernel_rfl) (by kernel_rfl) (by kernel_rfl) (by kernel_rfl) (fun _ _ _ h => h) rfl (Or.inl ⟨by rfl, ?_⟩) (by exact trivial) ?_
        rotate_left
        · (intro w hSw; (try simp only [jA] at hSw); go_simp); (try with_reducible rfl)
        try simp only [Act.put, List.setIfInBounds_toArray, List.set_cons_zero, List.set_cons_succ]
        refine wpFam_ready (rs := [11]) (by kernel_rfl) (by simp) ?_
        refine AllReadyF.cons (i := 11) rfl (fun K hK => ?_) ?_
        ·
          refine step_call Tryz.func47 (by kernel_rfl) rfl #[.pointer (some ⟨p, 0, none⟩), .int .i64 0, .int .i64 (turn1 : Int), .int .i64 (oth : Int)] (by rfl) (by rfl) (by first | rfl | (simp [Act.eval, Act.put, htW]; done)) ?_
          refine (csu.out _ _ HJ.out.dsk).mono ?_
          rintro e w7 ⟨rfl, hp⟩
          have HJ3 := Lib.hid (HJ.out.disk HNQ.out.1 HNQ.out.2 hp)
          replace HQ := Lib.hid (HJ3.out.blk)
          clear hp
          refine ⟨_, rfl, ?_⟩
          try change K (Act.put _ (some 88) _) _
          refine hK.out _ _ ?_ ?_
          · ((intro i _ _; exact jA_of HQ.out i))
          clear hK K
          try simp only [Act.put, List.setIfInBounds_toArray, List.set_cons_zero, List.set_cons_succ]
          refine wpFam_take (i := 12) 0 (some 4) (v := ?_) rfl (by kernel_rfl) (by kernel_rfl) (by kernel_rfl) (by kernel_rfl) (by kernel_rfl) (fun _ _ _ h => h) rfl (Or.inl ⟨by rfl, ?_⟩) (by exact trivial) ?_
          rotate_left
          · (intro w hSw; (try simp only [jA] at hSw); go_simp); (try with_reducible rfl)
          try simp only [Act.put, List.setIfInBounds_toArray, List.set_cons_zero, List.set_cons_succ]
          refine wpFam_done (by kernel_rfl) ?_ _
          go_wp2
          go_ret
          rw [HR5.out]
          exact ⟨rfl, HJ3.out⟩
        exact AllReadyF.nil
end Go.Proofs.YtjincmagbbpooaaGreatDoor

