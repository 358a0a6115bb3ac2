import Derived.Test.YtghebjgkdfbmeaaGreatDoorPP
set_option linter.unusedVariables false
set_option linter.unusedSimpArgs false
namespace Go.Proofs.YtghebjgkdfbmeaaGreatDoor
open Go.RowKit
set_option maxHeartbeats 32000000 in
set_option maxRecDepth 100000 in
theorem pterm_3 (f : Nat) (ih : Hid (PTermC f)) (rb : Nat) (r : RS) (w : World) (hb : Blk w rb 50 (pCells r)) (hen : r.e = 0 → r.n ≤ 3000 ∧ 3001 ≤ r.n + (f + 1)) (hf : f + 1 ≤ 3001) (hn : r.n ≤ 100000) (hs : r.s.size ≤ 9223372036854775807) (hle : Leans rb w) (h1 : r.more.num.2.e = 0) (hk : r.more.num.1 = 3) :
    Calls Tryz.prog 18 #[.pointer (some ⟨rb, 0, none⟩)] w (PTermPost rb (pTerm (f + 1) r) w) := by
    have hrb := hb.lt
    have c1 := hb.cell 1
    have f1 := hb.frozen 1
    simp [pCells] at c1
    have HBl := Lib.hid hb
    have HLE := Lib.hid hle
    have HEN := Lib.hid hen
    clear hb hle hen
    go_enter Tryz.func18, Tryz.ntmps18
    go_upto_region 2 with fail
    have hB1 : Blk (w.setCell ⟨rb, 1, none⟩ (.int .i64 ((r.n : Int) + 1))) rb 50 (pCells ⟨r.s, r.n + 1, r.e⟩) := by have := HBl.out.set_ 1 (.int .i64 ((r.n : Int) + 1)); exact this
    have hS1 : Save (· = rb) w (w.setCell ⟨rb, 1, none⟩ (.int .i64 ((r.n : Int) + 1))) := (Save.refl (fun k => k = rb) w).setCell (.inl rfl) _
    generalize (w.setCell ⟨rb, 1, none⟩ (.int .i64 ((r.n : Int) + 1))) = W1 at hB1 hS1 ⊢
    clear c1 f1 HBl
    have c1 := hB1.cell 1
    have c2 := hB1.cell 2
    have f2 := hB1.frozen 2
    simp [pCells] at c1 c2
    have HB1 := Lib.hid hB1
    have HS1 := Lib.hid hS1
    clear hB1 hS1
    obtain ⟨big, hbig⟩ : ∃ big, big = (decide (r.e = 0) && decide (3000 < r.n + 1)) := ⟨_, rfl⟩
    go_cut [22] from 11 to 22 (fun v22 wx => v22 = .bool big ∧ wx = W1)
    case first =>
      have HBIG := Lib.hid hbig
      clear hbig
      by_cases he : r.e = 0
      · rw [he, errV_zero] at c2
        have hd : big = decide (3000 < r.n + 1) := by rw [HBIG.out, decide_eq_true he, Bool.true_and]
        have HD := Lib.hid hd
        clear hd
        by_cases h3 : 3000 < r.n + 1
        · have t1 : decide ((3000 : Int) < (r.n : Int) + 1) = true := decide_eq_true (by omega)
          have HD2 : Hid (big = true) := by rw [HD.out]; exact decide_eq_true h3
          clear h3 he
          go_wp2
          go_meet
          exact ⟨by rw [HD2.out], rfl⟩
        · have t1 : decide ((3000 : Int) < (r.n : Int) + 1) = false := decide_eq_false (by omega)
          have HD2 : Hid (big = false) := by rw [HD.out]; exact decide_eq_false h3
          clear h3 he
          go_wp2
          go_meet
          exact ⟨by rw [HD2.out], rfl⟩
      · rw [errV_ne he] at c2
        have HD2 : Hid (big = false) := by rw [HBIG.out, decide_eq_false he, Bool.false_and]; exact rfl
        clear he
        go_wp2
        go_meet
        exact ⟨by rw [HD2.out], rfl⟩
    case rest =>
      obtain ⟨rfl, hwc⟩ := hcut
      subst hwc
      obtain ⟨W2, hW2⟩ : ∃ W2, W2 = wc := ⟨_, rfl⟩
      subst hW2
      go_upto_if 22 with fail
      go_cut [26] from 23 to 26 (fun v26 wx => Hid (Blk wx rb 50 (pCells r.more)) ∧ Hid (Save (· = rb) w wx))
      case first =>
        cases hc : (decide (r.e = 0) && decide (3000 < r.n + 1))
        · have hm : r.more = ⟨r.s, r.n + 1, r.e⟩ := by
            unfold RS.more
            rw [if_neg]
            rintro ⟨h1, h2⟩
            rw [decide_eq_true h1, decide_eq_true h2] at hc
            cases hc
          have HM := Lib.hid hm
          rw [hc] at hbig
          subst hbig
          clear hc hm
          go_wp2
          go_meet
          refine ⟨?_, HS1.out⟩
          show Blk _ _ _ _
          rw [HM.out]
          exact HB1.out
        · have hm : r.more = ⟨r.s, r.n + 1, 13⟩ := by
            unfold RS.more
            rw [if_pos]
            simp at hc
            exact ⟨hc.1, by omega⟩
          have HM := Lib.hid hm
          rw [hc] at hbig
          subst hbig
          clear hc hm
          go_wp2
          go_meet
          refine ⟨?_, HS1.out.setCell (.inl rfl) _⟩
          show Blk _ _ _ _
          rw [HM.out]
          exact HB1.out.set_ 2 _
      case rest =>
        obtain ⟨HB2, HS2⟩ := hcut
        obtain ⟨W3, hW3⟩ : ∃ W3, W3 = wc := ⟨_, rfl⟩
        subst hW3
        clear c1 c2 f2 HB1 HS1 hbig
        have hms : r.more.s.size ≤ 9223372036854775807 := hs
        have cn := Lib.hid (pnum_any rb r.more W3 HB2.out hms)
        unfold PNumPost at cn
        have hE := pTerm_eq f r
        have hmn : r.more.num.2.n = r.n + 1 := by rw [num_n]; rfl
        have hms2 : r.more.num.2.s.size ≤ r.s.size := num_s _
        have hme : r.more.num.2.e = 0 → r.e = 0 ∧ r.n + 1 ≤ 3000 := fun h => more_e (num_e h)
        generalize r.more.num.1 = k at cn hE hk
        generalize r.more.num.2 = r1 at cn hE hmn hms2 hme h1
        have HE := Lib.hid hE
        have HK := Lib.hid hk
        clear hk
        have HMN := Lib.hid hmn
        have HME := Lib.hid hme
        have hs1 : r1.s.size ≤ 9223372036854775807 := by omega
        clear hE hmn hms hms2 hme
        have hPB : pBody (pTerm f) k r1 = if k = 1 ∨ k = 2 ∨ k = 3 then (.node k (pLeaf k r1).1 (pLeaf k r1).2.1 .nil .nil .nil, leafErr k (pLeaf k r1).1 (pLeaf k r1).2.1 (pLeaf k r1).2.2)
              else if k = 7 then (.node k 0 ⟨#[]⟩ (pTerm f r1).1 (pTerm f (pTerm f r1).2).1 (pTerm f (pTerm f (pTerm f r1).2).2).1, (pTerm f (pTerm f (pTerm f r1).2).2).2)
              else if k = 4 ∨ k = 5 ∨ k = 6 then (.node k 0 ⟨#[]⟩ (pTerm f r1).1 (pTerm f (pTerm f r1).2).1 .nil, (pTerm f (pTerm f r1).2).2)
              else (.node k 0 ⟨#[]⟩ .nil .nil .nil, ⟨r1.s, r1.n, 10⟩) := by
          unfold pBody
          rw [if_neg (fun h => h h1)]
        have HPB := Lib.hid hPB
        have H1 := Lib.hid h1
        obtain ⟨he0, hn3⟩ := HME.out h1
        obtain ⟨hn30, hff⟩ := HEN.out he0
        have hf1 : 1 ≤ f := by omega
        have hr1n : r1.n ≤ 3000 := by have := HMN.out; omega
        have hr1f : 3001 ≤ r1.n + f := by have := HMN.out; omega
        clear hPB he0 hn3 hn30 hff
        go_upto_region 7 with (go_at_call 27; (with_reducible refine cn.out.mono ?_); rintro e w4 ⟨rfl, hR, hS⟩; have hl4 := hR.lt; have HR := Lib.hid hR; have HS := Lib.hid (HS2.out.then hS); have y2 := hR.cell 2; simp [pCells] at y2; rw [h1, errV_zero] at y2; clear hR hS)
        have hMk : Mk w (w4.alloc (.cells #[.int .i64 k, .int .i64 0, .string ⟨#[]⟩, .pointer none, .pointer none, .pointer none] 46)) rb w4.heap.size (pCells r1) 50 k 0 ⟨#[]⟩ none none none .nil .nil .nil :=
          ⟨HR.out.alloc _, Blk.new w4 _ _, HS.out.size, hrb, rfl, rfl, rfl, HS.out.alloc _⟩
        generalize (w4.alloc (.cells #[.int .i64 k, .int .i64 0, .string ⟨#[]⟩, .pointer none, .pointer none, .pointer none] 46)) = W5 at hMk ⊢
        generalize w4.heap.size = tb at hMk ⊢
        clear y2 hl4 HR HS cn HB2 HS2 h1
        have HM := Lib.hid hMk
        have x0 := hMk.T.cell 0
        simp [tmCells] at x0
        clear hMk
        have HL5 : Hid (Leans rb W5) := HLE.out.save HM.out.keep
        go_upto_block 0 with fail
        go_cut [41] from 41 to 104 (fun v41 wx => ∃ n nm pa pb pc a b c r', Hid (Mk w wx rb tb (pCells r') 50 k n nm pa pb pc a b c) ∧ Hid (pBody (pTerm f) k r1 = (.node k n nm a b c, r')))
        case first =>
          have hk := HK.out
          subst hk
          have hnm : r1.name.1.size < 4294967281 := by have := name_24 r1; omega
          have hsA := name_s r1
          have ca := Lib.hid (pname_any rb r1 W5 HM.out.R hs1 HL5.out.g)
          unfold PNamePost at ca
          have hplf : pLeaf 3 r1 = (r1.name.2.num.1, r1.name.1, r1.name.2.num.2) := by unfold pLeaf; rw [if_pos rfl]
          generalize r1.name.1 = nm at ca hplf hnm
          generalize r1.name.2 = rA at ca hplf hsA
          have HPL := Lib.hid hplf
          clear hplf
          go_upto_region 16 with (go_at_call 28; (with_reducible refine ca.out.mono ?_); rintro e w6 ⟨rfl, hR, hS⟩; have HM6 := Lib.hid (HM.out.call hR hS); have z2 := HM6.out.T.cell 2; have g2 := HM6.out.T.frozen 2; simp [tmCells] at z2; clear hR hS)
          have hM7 : Mk w (w6.setCell ⟨tb, 2, none⟩ (.string nm)) rb tb (pCells rA) 50 3 0 nm none none none .nil .nil .nil := HM6.out.setT 2 (.string nm) rfl rfl rfl rfl
          generalize (w6.setCell ⟨tb, 2, none⟩ (.string nm)) = W7 at hM7 ⊢
          clear z2 g2 HM6 ca x0
          have HM7 := Lib.hid hM7
          clear hM7
          have hpl : pLeaf 3 r1 = (rA.num.1, nm, rA.num.2) := HPL.out
          have hpb := HPB.out
          rw [if_pos (by decide), hpl] at hpb
          simp only at hpb
          have hsz : nm.size < 4294967281 := hnm
          have cn2 := Lib.hid (pnum_any rb rA W7 HM7.out.R (by first | exact hs1 | exact Nat.le_trans hsA hs1))
          unfold PNumPost at cn2
          generalize rA.num.1 = nv at cn2 hpb
          generalize rA.num.2 = rB at cn2 hpb
          have HPB2 := Lib.hid hpb
          clear hpb hpl HPB
          have HL7 : Hid (Leans rb W7) := HLE.out.save HM7.out.keep
          go_upto_region 17 with (go_at_call 27; (with_reducible refine cn2.out.mono ?_); rintro e w8 ⟨rfl, hR, hS⟩; have HM8 := Lib.hid (HM7.out.call hR hS); have z1 := HM8.out.T.cell 1; have g1 := HM8.out.T.frozen 1; simp [tmCells] at z1; clear hR hS)
          have hM9 : Mk w (w8.setCell ⟨tb, 1, none⟩ (.int .i64 nv)) rb tb (pCells rB) 50 3 nv nm none none none .nil .nil .nil := HM8.out.setT 1 (.int .i64 nv) rfl rfl rfl rfl
          generalize (w8.setCell ⟨tb, 1, none⟩ (.int .i64 nv)) = W9 at hM9 ⊢
          clear z1 g1 HM8 cn2
          have HM9 := Lib.hid hM9
          have v2 := hM9.R.cell 2
          have g2 := hM9.R.frozen 2
          simp [pCells] at v2
          have HL9 : Hid (Leans rb W9) := HLE.out.save hM9.keep
          clear hM9
          by_cases hB : rB.e = 0
          · rw [hB, errV_zero] at v2
            have ci := Lib.hid (Is_any (.node 3 nv nm .nil .nil .nil) (some ⟨tb, 0, none⟩) 0 W9 ⟨tb, none, none, none, rfl, Nat.zero_le _, HM9.out.T, rfl, rfl, rfl⟩ ⟨hsz, trivial, trivial, trivial⟩ HL9.out.m)
            rw [leaf_all 3 nv nm (by decide)] at ci
            have HBE := Lib.hid hB
            clear hB
            cases hlb : leafB 3 nv nm
            · rw [hlb] at ci
              have hle : leafErr 3 nv nm rB = ⟨rB.s, rB.n, 10⟩ := by unfold leafErr; rw [if_pos ⟨HBE.out, hlb⟩]
              have hp3 := HPB2.out
              rw [hle] at hp3
              have HP3 := Lib.hid hp3
              clear hle hp3 hlb
              go_wp2_with (go_at_call 20; (with_reducible refine ci.out.mono ?_); rintro e w10 ⟨rfl, hb⟩; have HM10 := Lib.hid (HM9.out.below hb); have u2 := HM10.out.R.cell 2; have h2 := HM10.out.R.frozen 2; simp [pCells] at u2; clear hb)
              go_meet
              exact ⟨nv, nm, none, none, none, .nil, .nil, .nil, ⟨rB.s, rB.n, 10⟩, HM10.out.setR 2 (.iface 40 (.int .i64 10)), HP3.out⟩
            · rw [hlb] at ci
              have hle : leafErr 3 nv nm rB = rB := by unfold leafErr; rw [if_neg (fun h => by rw [hlb] at h; exact absurd h.2 (by decide))]
              have hp3 := HPB2.out
              rw [hle] at hp3
              have HP3 := Lib.hid hp3
              clear hle hp3 hlb
              go_wp2_with (go_at_call 20; (with_reducible refine ci.out.mono ?_); rintro e w10 ⟨rfl, hb⟩; have HM10 := Lib.hid (HM9.out.below hb); clear hb)
              go_meet
              exact ⟨nv, nm, none, none, none, .nil, .nil, .nil, rB, HM10.out, HP3.out⟩
          · rw [errV_ne hB] at v2
            have hle : leafErr 3 nv nm rB = rB := by unfold leafErr; rw [if_neg (fun h => hB h.1)]
            have hp3 := HPB2.out
            rw [hle] at hp3
            have HP3 := Lib.hid hp3
            clear hle hp3 hB
            go_wp2
            go_meet
            exact ⟨nv, nm, none, none, none, .nil, .nil, .nil, rB, HM9.out, HP3.out⟩
        case rest =>
          obtain ⟨n, nm, pa, pb, pc, a, b, c, r', HM', HP'⟩ := hcut
          obtain ⟨W9, hW9⟩ : ∃ W9, W9 = wc := ⟨_, rfl⟩
          subst hW9
          go_wp2
          go_ret
          rw [HE.out, HP'.out]
          exact ⟨_, rfl, ⟨tb, pa, pb, pc, rfl, HM'.out.ge, HM'.out.T, HM'.out.inA.mono (by have := HM'.out.ge; omega), HM'.out.inB.mono (by have := HM'.out.ge; omega), HM'.out.inC.mono (by have := HM'.out.ge; omega)⟩, HM'.out.R, HM'.out.keep⟩
end Go.Proofs.YtghebjgkdfbmeaaGreatDoor
