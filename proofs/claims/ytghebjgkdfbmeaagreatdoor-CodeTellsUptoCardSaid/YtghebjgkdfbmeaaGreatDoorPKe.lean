import Derived.Test.YtghebjgkdfbmeaaGreatDoorPP
set_option linter.unusedVariables false
set_option linter.unusedSimpArgs false
namespace Go.Proofs.YtghebjgkdfbmeaaGreatDoor
open Go.RowKit
set_option maxHeartbeats 32000000 in
set_option maxRecDepth 100000 in
theorem pterm_e (f : Nat) (ih : Hid (PTermC f)) (rb : Nat) (r : RS) (w : World) (hb : Blk w rb 50 (pCells r)) (hen : r.e = 0 → r.n ≤ 3000 ∧ 3001 ≤ r.n + (f + 1)) (hf : f + 1 ≤ 3001) (hn : r.n ≤ 100000) (hs : r.s.size ≤ 9223372036854775807) (hle : Leans rb w) (h1 : r.more.num.2.e ≠ 0) :
    Calls Tryz.prog 18 #[.pointer (some ⟨rb, 0, none⟩)] w (PTermPost rb (pTerm (f + 1) r) w) := by
    have hrb := hb.lt
    have c1 := hb.cell 1
    have f1 := hb.frozen 1
    simp [pCells] at c1
    have HBl := Lib.hid hb
    have HLE := Lib.hid hle
    have HEN := Lib.hid hen
    clear hb hle hen
    go_enter Tryz.func18, Tryz.ntmps18
    go_upto_region 2 with fail
    have hB1 : Blk (w.setCell ⟨rb, 1, none⟩ (.int .i64 ((r.n : Int) + 1))) rb 50 (pCells ⟨r.s, r.n + 1, r.e⟩) := by have := HBl.out.set_ 1 (.int .i64 ((r.n : Int) + 1)); exact this
    have hS1 : Save (· = rb) w (w.setCell ⟨rb, 1, none⟩ (.int .i64 ((r.n : Int) + 1))) := (Save.refl (fun k => k = rb) w).setCell (.inl rfl) _
    generalize (w.setCell ⟨rb, 1, none⟩ (.int .i64 ((r.n : Int) + 1))) = W1 at hB1 hS1 ⊢
    clear c1 f1 HBl
    have c1 := hB1.cell 1
    have c2 := hB1.cell 2
    have f2 := hB1.frozen 2
    simp [pCells] at c1 c2
    have HB1 := Lib.hid hB1
    have HS1 := Lib.hid hS1
    clear hB1 hS1
    obtain ⟨big, hbig⟩ : ∃ big, big = (decide (r.e = 0) && decide (3000 < r.n + 1)) := ⟨_, rfl⟩
    go_cut [22] from 11 to 22 (fun v22 wx => v22 = .bool big ∧ wx = W1)
    case first =>
      have HBIG := Lib.hid hbig
      clear hbig
      by_cases he : r.e = 0
      · rw [he, errV_zero] at c2
        have hd : big = decide (3000 < r.n + 1) := by rw [HBIG.out, decide_eq_true he, Bool.true_and]
        have HD := Lib.hid hd
        clear hd
        by_cases h3 : 3000 < r.n + 1
        · have t1 : decide ((3000 : Int) < (r.n : Int) + 1) = true := decide_eq_true (by omega)
          have HD2 : Hid (big = true) := by rw [HD.out]; exact decide_eq_true h3
          clear h3 he
          go_wp2
          go_meet
          exact ⟨by rw [HD2.out], rfl⟩
        · have t1 : decide ((3000 : Int) < (r.n : Int) + 1) = false := decide_eq_false (by omega)
          have HD2 : Hid (big = false) := by rw [HD.out]; exact decide_eq_false h3
          clear h3 he
          go_wp2
          go_meet
          exact ⟨by rw [HD2.out], rfl⟩
      · rw [errV_ne he] at c2
        have HD2 : Hid (big = false) := by rw [HBIG.out, decide_eq_false he, Bool.false_and]; exact rfl
        clear he
        go_wp2
        go_meet
        exact ⟨by rw [HD2.out], rfl⟩
    case rest =>
      obtain ⟨rfl, hwc⟩ := hcut
      subst hwc
      obtain ⟨W2, hW2⟩ : ∃ W2, W2 = wc := ⟨_, rfl⟩
      subst hW2
      go_upto_if 22 with fail
      go_cut [26] from 23 to 26 (fun v26 wx => Hid (Blk wx rb 50 (pCells r.more)) ∧ Hid (Save (· = rb) w wx))
      case first =>
        cases hc : (decide (r.e = 0) && decide (3000 < r.n + 1))
        · have hm : r.more = ⟨r.s, r.n + 1, r.e⟩ := by
            unfold RS.more
            rw [if_neg]
            rintro ⟨h1, h2⟩
            rw [decide_eq_true h1, decide_eq_true h2] at hc
            cases hc
          have HM := Lib.hid hm
          rw [hc] at hbig
          subst hbig
          clear hc hm
          go_wp2
          go_meet
          refine ⟨?_, HS1.out⟩
          show Blk _ _ _ _
          rw [HM.out]
          exact HB1.out
        · have hm : r.more = ⟨r.s, r.n + 1, 13⟩ := by
            unfold RS.more
            rw [if_pos]
            simp at hc
            exact ⟨hc.1, by omega⟩
          have HM := Lib.hid hm
          rw [hc] at hbig
          subst hbig
          clear hc hm
          go_wp2
          go_meet
          refine ⟨?_, HS1.out.setCell (.inl rfl) _⟩
          show Blk _ _ _ _
          rw [HM.out]
          exact HB1.out.set_ 2 _
      case rest =>
        obtain ⟨HB2, HS2⟩ := hcut
        obtain ⟨W3, hW3⟩ : ∃ W3, W3 = wc := ⟨_, rfl⟩
        subst hW3
        clear c1 c2 f2 HB1 HS1 hbig
        have hms : r.more.s.size ≤ 9223372036854775807 := hs
        have cn := Lib.hid (pnum_any rb r.more W3 HB2.out hms)
        unfold PNumPost at cn
        have hE := pTerm_eq f r
        have hmn : r.more.num.2.n = r.n + 1 := by rw [num_n]; rfl
        have hms2 : r.more.num.2.s.size ≤ r.s.size := num_s _
        have hme : r.more.num.2.e = 0 → r.e = 0 ∧ r.n + 1 ≤ 3000 := fun h => more_e (num_e h)
        generalize r.more.num.1 = k at cn hE
        generalize r.more.num.2 = r1 at cn hE hmn hms2 hme h1
        have HE := Lib.hid hE
        have HMN := Lib.hid hmn
        have HME := Lib.hid hme
        have hs1 : r1.s.size ≤ 9223372036854775807 := by omega
        clear hE hmn hms hms2 hme
        have hPB : pBody (pTerm f) k r1 = (.node k 0 ⟨#[]⟩ .nil .nil .nil, r1) := by unfold pBody; rw [if_pos h1]
        have HPB := Lib.hid hPB
        clear hPB
        go_wp2_with (go_at_call 27; (with_reducible refine cn.out.mono ?_); rintro e w4 ⟨rfl, hR, hS⟩; have hl4 := hR.lt; have HR := Lib.hid hR; have HS := Lib.hid (HS2.out.then hS); have y2 := hR.cell 2; simp [pCells] at y2; rw [errV_ne h1] at y2; clear hR hS)
        go_ret
        rw [HE.out, HPB.out]
        exact ⟨_, rfl, ⟨w4.heap.size, none, none, none, rfl, HS.out.size, Blk.new w4 _ _, rfl, rfl, rfl⟩, HR.out.alloc _, HS.out.alloc _⟩
end Go.Proofs.YtghebjgkdfbmeaaGreatDoor
