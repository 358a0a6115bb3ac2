import Derived.Test.YtghebjgkdfbmeaaGreatDoorPP
set_option linter.unusedVariables false
set_option linter.unusedSimpArgs false
namespace Go.Proofs.YtghebjgkdfbmeaaGreatDoor
open Go.RowKit
set_option maxHeartbeats 32000000 in
set_option maxRecDepth 100000 in
theorem pterm_6 (f : Nat) (ih : Hid (PTermC f)) (rb : Nat) (r : RS) (w : World) (hb : Blk w rb 50 (pCells r)) (hen : r.e = 0 → r.n ≤ 3000 ∧ 3001 ≤ r.n + (f + 1)) (hf : f + 1 ≤ 3001) (hn : r.n ≤ 100000) (hs : r.s.size ≤ 9223372036854775807) (hle : Leans rb w) (h1 : r.more.num.2.e = 0) (hk : r.more.num.1 = 6) :
    Calls Tryz.prog 18 #[.pointer (some ⟨rb, 0, none⟩)] w (PTermPost rb (pTerm (f + 1) r) w) := by
    have hrb := hb.lt
    have c1 := hb.cell 1
    have f1 := hb.frozen 1
    simp [pCells] at c1
    have HBl := Lib.hid hb
    have HLE := Lib.hid hle
    have HEN := Lib.hid hen
    clear hb hle hen
    go_enter Tryz.func18, Tryz.ntmps18
    go_upto_region 2 with fail
    have hB1 : Blk (w.setCell ⟨rb, 1, none⟩ (.int .i64 ((r.n : Int) + 1))) rb 50 (pCells ⟨r.s, r.n + 1, r.e⟩) := by have := HBl.out.set_ 1 (.int .i64 ((r.n : Int) + 1)); exact this
    have hS1 : Save (· = rb) w (w.setCell ⟨rb, 1, none⟩ (.int .i64 ((r.n : Int) + 1))) := (Save.refl (fun k => k = rb) w).setCell (.inl rfl) _
    generalize (w.setCell ⟨rb, 1, none⟩ (.int .i64 ((r.n : Int) + 1))) = W1 at hB1 hS1 ⊢
    clear c1 f1 HBl
    have c1 := hB1.cell 1
    have c2 := hB1.cell 2
    have f2 := hB1.frozen 2
    simp [pCells] at c1 c2
    have HB1 := Lib.hid hB1
    have HS1 := Lib.hid hS1
    clear hB1 hS1
    obtain ⟨big, hbig⟩ : ∃ big, big = (decide (r.e = 0) && decide (3000 < r.n + 1)) := ⟨_, rfl⟩
    go_cut [22] from 11 to 22 (fun v22 wx => v22 = .bool big ∧ wx = W1)
    case first =>
      have HBIG := Lib.hid hbig
      clear hbig
      by_cases he : r.e = 0
      · rw [he, errV_zero] at c2
        have hd : big = decide (3000 < r.n + 1) := by rw [HBIG.out, decide_eq_true he, Bool.true_and]
        have HD := Lib.hid hd
        clear hd
        by_cases h3 : 3000 < r.n + 1
        · have t1 : decide ((3000 : Int) < (r.n : Int) + 1) = true := decide_eq_true (by omega)
          have HD2 : Hid (big = true) := by rw [HD.out]; exact decide_eq_true h3
          clear h3 he
          go_wp2
          go_meet
          exact ⟨by rw [HD2.out], rfl⟩
        · have t1 : decide ((3000 : Int) < (r.n : Int) + 1) = false := decide_eq_false (by omega)
          have HD2 : Hid (big = false) := by rw [HD.out]; exact decide_eq_false h3
          clear h3 he
          go_wp2
          go_meet
          exact ⟨by rw [HD2.out], rfl⟩
      · rw [errV_ne he] at c2
        have HD2 : Hid (big = false) := by rw [HBIG.out, decide_eq_false he, Bool.false_and]; exact rfl
        clear he
        go_wp2
        go_meet
        exact ⟨by rw [HD2.out], rfl⟩
    case rest =>
      obtain ⟨rfl, hwc⟩ := hcut
      subst hwc
      obtain ⟨W2, hW2⟩ : ∃ W2, W2 = wc := ⟨_, rfl⟩
      subst hW2
      go_upto_if 22 with fail
      go_cut [26] from 23 to 26 (fun v26 wx => Hid (Blk wx rb 50 (pCells r.more)) ∧ Hid (Save (· = rb) w wx))
      case first =>
        cases hc : (decide (r.e = 0) && decide (3000 < r.n + 1))
        · have hm : r.more = ⟨r.s, r.n + 1, r.e⟩ := by
            unfold RS.more
            rw [if_neg]
            rintro ⟨h1, h2⟩
            rw [decide_eq_true h1, decide_eq_true h2] at hc
            cases hc
          have HM := Lib.hid hm
          rw [hc] at hbig
          subst hbig
          clear hc hm
          go_wp2
          go_meet
          refine ⟨?_, HS1.out⟩
          show Blk _ _ _ _
          rw [HM.out]
          exact HB1.out
        · have hm : r.more = ⟨r.s, r.n + 1, 13⟩ := by
            unfold RS.more
            rw [if_pos]
            simp at hc
            exact ⟨hc.1, by omega⟩
          have HM := Lib.hid hm
          rw [hc] at hbig
          subst hbig
          clear hc hm
          go_wp2
          go_meet
          refine ⟨?_, HS1.out.setCell (.inl rfl) _⟩
          show Blk _ _ _ _
          rw [HM.out]
          exact HB1.out.set_ 2 _
      case rest =>
        obtain ⟨HB2, HS2⟩ := hcut
        obtain ⟨W3, hW3⟩ : ∃ W3, W3 = wc := ⟨_, rfl⟩
        subst hW3
        clear c1 c2 f2 HB1 HS1 hbig
        have hms : r.more.s.size ≤ 9223372036854775807 := hs
        have cn := Lib.hid (pnum_any rb r.more W3 HB2.out hms)
        unfold PNumPost at cn
        have hE := pTerm_eq f r
        have hmn : r.more.num.2.n = r.n + 1 := by rw [num_n]; rfl
        have hms2 : r.more.num.2.s.size ≤ r.s.size := num_s _
        have hme : r.more.num.2.e = 0 → r.e = 0 ∧ r.n + 1 ≤ 3000 := fun h => more_e (num_e h)
        generalize r.more.num.1 = k at cn hE hk
        generalize r.more.num.2 = r1 at cn hE hmn hms2 hme h1
        have HE := Lib.hid hE
        have HK := Lib.hid hk
        clear hk
        have HMN := Lib.hid hmn
        have HME := Lib.hid hme
        have hs1 : r1.s.size ≤ 9223372036854775807 := by omega
        clear hE hmn hms hms2 hme
        have hPB : pBody (pTerm f) k r1 = if k = 1 ∨ k = 2 ∨ k = 3 then (.node k (pLeaf k r1).1 (pLeaf k r1).2.1 .nil .nil .nil, leafErr k (pLeaf k r1).1 (pLeaf k r1).2.1 (pLeaf k r1).2.2)
              else if k = 7 then (.node k 0 ⟨#[]⟩ (pTerm f r1).1 (pTerm f (pTerm f r1).2).1 (pTerm f (pTerm f (pTerm f r1).2).2).1, (pTerm f (pTerm f (pTerm f r1).2).2).2)
              else if k = 4 ∨ k = 5 ∨ k = 6 then (.node k 0 ⟨#[]⟩ (pTerm f r1).1 (pTerm f (pTerm f r1).2).1 .nil, (pTerm f (pTerm f r1).2).2)
              else (.node k 0 ⟨#[]⟩ .nil .nil .nil, ⟨r1.s, r1.n, 10⟩) := by
          unfold pBody
          rw [if_neg (fun h => h h1)]
        have HPB := Lib.hid hPB
        have H1 := Lib.hid h1
        obtain ⟨he0, hn3⟩ := HME.out h1
        obtain ⟨hn30, hff⟩ := HEN.out he0
        have hf1 : 1 ≤ f := by omega
        have hr1n : r1.n ≤ 3000 := by have := HMN.out; omega
        have hr1f : 3001 ≤ r1.n + f := by have := HMN.out; omega
        clear hPB he0 hn3 hn30 hff
        go_upto_region 7 with (go_at_call 27; (with_reducible refine cn.out.mono ?_); rintro e w4 ⟨rfl, hR, hS⟩; have hl4 := hR.lt; have HR := Lib.hid hR; have HS := Lib.hid (HS2.out.then hS); have y2 := hR.cell 2; simp [pCells] at y2; rw [h1, errV_zero] at y2; clear hR hS)
        have hMk : Mk w (w4.alloc (.cells #[.int .i64 k, .int .i64 0, .string ⟨#[]⟩, .pointer none, .pointer none, .pointer none] 46)) rb w4.heap.size (pCells r1) 50 k 0 ⟨#[]⟩ none none none .nil .nil .nil :=
          ⟨HR.out.alloc _, Blk.new w4 _ _, HS.out.size, hrb, rfl, rfl, rfl, HS.out.alloc _⟩
        generalize (w4.alloc (.cells #[.int .i64 k, .int .i64 0, .string ⟨#[]⟩, .pointer none, .pointer none, .pointer none] 46)) = W5 at hMk ⊢
        generalize w4.heap.size = tb at hMk ⊢
        clear y2 hl4 HR HS cn HB2 HS2 h1
        have HM := Lib.hid hMk
        have x0 := hMk.T.cell 0
        simp [tmCells] at x0
        clear hMk
        have HL5 : Hid (Leans rb W5) := HLE.out.save HM.out.keep
        go_upto_block 0 with fail
        go_cut [41] from 41 to 104 (fun v41 wx => ∃ n nm pa pb pc a b c r', Hid (Mk w wx rb tb (pCells r') 50 k n nm pa pb pc a b c) ∧ Hid (pBody (pTerm f) k r1 = (.node k n nm a b c, r')))
        case first =>
          have hk := HK.out
          subst hk
          have k3' : ((6 : Int) == 3) = false := rfl
          have k1' : ((6 : Int) == 1) = false := rfl
          have k2' : ((6 : Int) == 2) = false := rfl
          have k7' : ((6 : Int) == 7) = false := rfl
          have ga := pTerm_goes f r1 hf1 (fun _ => ⟨hr1n, hr1f⟩)
          have gb := pTerm_goes f (pTerm f r1).2 hf1 (fun h => ⟨(ga.e h).1, by have := ga.n; omega⟩)
          have na : (pTerm f r1).2.n ≤ 100000 := by have := ga.t0 H1.out; omega
          have nb : (pTerm f (pTerm f r1).2).2.n ≤ 100000 := by
            by_cases h : (pTerm f r1).2.e = 0
            · have := gb.t0 h; omega
            · have := gb.t1 h; have := ga.t0 H1.out; omega
          have c1 := Lib.hid (ih.out rb r1 W5 HM.out.R hf1 (fun _ => ⟨hr1n, hr1f⟩) (by omega) (by omega) hs1 HL5.out)
          have c2 := Lib.hid (fun W hR hL => ih.out rb (pTerm f r1).2 W hR hf1 (fun h => ⟨(ga.e h).1, by have := ga.n; omega⟩) (by omega) na (Nat.le_trans ga.s hs1) hL)
          have c3 := Lib.hid (fun W hR hL => ih.out rb (pTerm f (pTerm f r1).2).2 W hR hf1 (fun h => ⟨(gb.e h).1, by have := ga.n; have := gb.n; omega⟩) (by omega) nb (Nat.le_trans gb.s (Nat.le_trans ga.s hs1)) hL)
          have hpb := HPB.out
          rw [if_neg (by omega)] at hpb
          generalize pTerm f (pTerm f (pTerm f r1).2).2 = xc at c3 hpb
          generalize pTerm f (pTerm f r1).2 = xb at c2 c3 hpb
          generalize pTerm f r1 = xa at c1 c2 hpb
          clear ga gb na nb HPB
          have hge := Lib.hid HM.out.ge
          rw [if_neg (by decide), if_pos (by decide)] at hpb
          have HPB2 := Lib.hid hpb
          clear hpb
          go_wp2_with (first
          | (go_at_call 18; (with_reducible refine c1.out.mono ?_); rintro e w6 ⟨qa, rfl, hP, hR, hS⟩; have HM6 := Lib.hid (HM.out.call hR hS); have HPa := Lib.hid (hP.mono (show tb + 1 ≤ W5.heap.size by have := HM.out.T.lt; omega)); have HL6 := Lib.hid (HL5.out.save hS); clear hP hR hS)
          | (go_at_call 18; (with_reducible refine (c2.out _ HM6.out.R HL6.out).mono ?_); rintro e w7 ⟨qb, rfl, hP, hR, hS⟩; have HM7 := Lib.hid (HM6.out.call hR hS); have HPa7 := Lib.hid (HPa.out.save hS (by have := HM6.out.ge; have := HM6.out.lt; omega)); have HPb := Lib.hid (hP.mono (show tb + 1 ≤ w6.heap.size by have := HM6.out.T.lt; omega)); have HL7 := Lib.hid (HL6.out.save hS); have z3 := HM7.out.T.cell 3; have z4 := HM7.out.T.cell 4; have g3 := HM7.out.T.frozen 3; have g4 := HM7.out.T.frozen 4; simp [tmCells] at z3 z4; clear hP hR hS))
          go_meet
          have m1 := HM7.out.setT 3 (.pointer qa) rfl HPa7.out HM7.out.inB HM7.out.inC
          have m2 := m1.setT 4 (.pointer qb) rfl m1.inA (HPb.out.set (show tb < tb + 1 by omega) _) m1.inC
          exact ⟨0, ⟨#[]⟩, qa, qb, none, xa.1, xb.1, .nil, xb.2, m2, HPB2.out⟩
        case rest =>
          obtain ⟨n, nm, pa, pb, pc, a, b, c, r', HM', HP'⟩ := hcut
          obtain ⟨W9, hW9⟩ : ∃ W9, W9 = wc := ⟨_, rfl⟩
          subst hW9
          go_wp2
          go_ret
          rw [HE.out, HP'.out]
          exact ⟨_, rfl, ⟨tb, pa, pb, pc, rfl, HM'.out.ge, HM'.out.T, HM'.out.inA.mono (by have := HM'.out.ge; omega), HM'.out.inB.mono (by have := HM'.out.ge; omega), HM'.out.inC.mono (by have := HM'.out.ge; omega)⟩, HM'.out.R, HM'.out.keep⟩
end Go.Proofs.YtghebjgkdfbmeaaGreatDoor
