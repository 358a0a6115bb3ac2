import Derived.Test.YtghebjgkdfbmeaaGreatDoorCR
set_option linter.unusedVariables false
set_option linter.unusedSimpArgs false
namespace Go.Proofs.YtghebjgkdfbmeaaGreatDoor
open Go.RowKit

def RTermPost (rb : Nat) (x : Tm × RS) (w : World) (e : Ending) (w' : World) : Prop :=
  ∃ p, e = .returned (.pointer p) ∧ PIn w.heap.size w' x.1 p ∧ Blk w' rb 55 (rCells x.2) ∧ Save (· = rb) w w'
/-- A reader and a term that is being made. -/
structure Mk (w0 W : World) (rb tb : Nat) (cs : Array Value) (rt : TypeId) (k n : Int) (s : ByteArray) (pa pb pc : Option Addr) (a b c : Tm) : Prop where
  R : Blk W rb rt cs
  T : Blk W tb 46 (tmCells k n s pa pb pc)
  ge : w0.heap.size ≤ tb
  lt : rb < w0.heap.size
  inA : PIn (tb + 1) W a pa
  inB : PIn (tb + 1) W b pb
  inC : PIn (tb + 1) W c pc
  keep : Save (· = rb) w0 W
section
variable {w0 W W' : World} {rb tb : Nat} {cs cs' : Array Value} {rt : TypeId} {k n : Int} {s : ByteArray} {pa pb pc : Option Addr} {a b c : Tm}
/-- Behind a call on the reader. -/
theorem Mk.call (h : Mk w0 W rb tb cs rt k n s pa pb pc a b c) (hR : Blk W' rb rt cs') (hk : Save (· = rb) W W') : Mk w0 W' rb tb cs' rt k n s pa pb pc a b c :=
  ⟨hR, h.T.save hk (by have := h.ge; have := h.lt; omega), h.ge, h.lt, h.inA.save hk (by have := h.ge; have := h.lt; omega), h.inB.save hk (by have := h.ge; have := h.lt; omega), h.inC.save hk (by have := h.ge; have := h.lt; omega), h.keep.then hk⟩
theorem Mk.below (h : Mk w0 W rb tb cs rt k n s pa pb pc a b c) (hb : Below W.heap.size W W') : Mk w0 W' rb tb cs rt k n s pa pb pc a b c := h.call (h.R.below hb) (Save.of_below hb)
/-- A store into the reader. -/
theorem Mk.setR (h : Mk w0 W rb tb cs rt k n s pa pb pc a b c) (i : Nat) (u : Value) : Mk w0 (W.setCell ⟨rb, i, none⟩ u) rb tb (cs.setIfInBounds i u) rt k n s pa pb pc a b c :=
  h.call (h.R.set_ i u) ((Save.refl (fun k => k = rb) W).setCell (.inl rfl) u)
theorem Mk.setT (h : Mk w0 W rb tb cs rt k n s pa pb pc a b c) (i : Nat) (u : Value) {k' n' : Int} {s' : ByteArray} {pa' pb' pc' : Option Addr} {a' b' c' : Tm} (hc : (tmCells k n s pa pb pc).setIfInBounds i u = tmCells k' n' s' pa' pb' pc')
    (hA : PIn (tb + 1) W a' pa') (hB : PIn (tb + 1) W b' pb') (hC : PIn (tb + 1) W c' pc') : Mk w0 (W.setCell ⟨tb, i, none⟩ u) rb tb cs rt k' n' s' pa' pb' pc' a' b' c' :=
  ⟨h.R.far (by have := h.ge; have := h.lt; show rb ≠ tb; omega) u, by rw [← hc]; exact h.T.set_ i u, h.ge, h.lt, hA.set (by show tb < tb + 1; omega) u, hB.set (by show tb < tb + 1; omega) u, hC.set (by show tb < tb + 1; omega) u,
    h.keep.setCell (.inr h.ge) u⟩
end

set_option maxHeartbeats 16000000 in
set_option maxRecDepth 100000 in
theorem rterm_any : ∀ (f : Nat) (rb : Nat) (r : RS) (w : World), Blk w rb 55 (rCells r) → r.e = 0 → r.n ≤ 3000 → 3001 ≤ r.n + f → r.s.size ≤ 9223372036854775807 →
    Calls Tryz.prog 19 #[.pointer (some ⟨rb, 0, none⟩)] w (RTermPost rb (rTerm f r) w)
  | 0, rb, r, w, _, _, hn, hf, _ => by omega
  | f + 1, rb, r, w, hb, he, hn, hf, hs => by
    obtain ⟨s, n, e⟩ := r
    simp only at he hn hf hs
    subst he
    have ih := Lib.hid (fun rb r w h1 h2 h3 h4 h5 => rterm_any f rb r w h1 h2 h3 h4 h5)
    have hrb := hb.lt
    have c0 := hb.cell 0
    have c1 := hb.cell 1
    have c2 := hb.cell 2
    have f1 := hb.frozen 1
    simp [rCells] at c0 c1 c2
    have HBl := Lib.hid hb
    clear hb
    go_enter Tryz.func19, Tryz.ntmps19
    go_upto_region 2 with fail
    have hB1 : Blk (w.setCell ⟨rb, 1, none⟩ (.int .i64 ((n : Int) + 1))) rb 55 (rCells ⟨s, n + 1, 0⟩) := by have := HBl.out.set_ 1 (.int .i64 ((n : Int) + 1)); exact this
    have hS1 : Save (· = rb) w (w.setCell ⟨rb, 1, none⟩ (.int .i64 ((n : Int) + 1))) := (Save.refl (fun k => k = rb) w).setCell (.inl rfl) _
    generalize (w.setCell ⟨rb, 1, none⟩ (.int .i64 ((n : Int) + 1))) = W1 at hB1 hS1 ⊢
    clear c0 c1 c2 f1 HBl
    have c1 := hB1.cell 1
    have f2 := hB1.frozen 2
    have c2 := hB1.cell 2
    simp [rCells] at c1 c2
    have HB1 := Lib.hid hB1
    have HS1 := Lib.hid hS1
    clear hB1 hS1
    by_cases hbig : 3000 < n + 1
    · have t1 : decide ((3000 : Int) < (n : Int) + 1) = true := decide_eq_true (by omega)
      have HE : Hid (rTerm (f + 1) ⟨s, n, 0⟩ = (.nil, ⟨s, n + 1, 13⟩)) := by show _ = _; unfold rTerm; rw [if_pos hbig]
      clear hbig
      go_wp2
      go_ret
      rw [HE.out]
      refine ⟨none, rfl, rfl, ?_, HS1.out.setCell (.inl rfl) _⟩
      exact HB1.out.set_ 2 _
    · have t1 : decide ((3000 : Int) < (n : Int) + 1) = false := decide_eq_false (by omega)
      have hn29 : n ≤ 2999 := by omega
      have hE1 : rTerm (f + 1) ⟨s, n, 0⟩ = if (numS s).2.2 ≠ 0 then (.nil, ⟨dropB s (numS s).2.1, n + 1, (numS s).2.2⟩) else
          (.node ((numS s).1 : Int) (leafStep ((numS s).1 : Int) ⟨dropB s (numS s).2.1, n + 1, (numS s).2.2⟩).1 (leafStep ((numS s).1 : Int) ⟨dropB s (numS s).2.1, n + 1, (numS s).2.2⟩).2.1
            (partR (rTerm f) (partsN ((numS s).1 : Int)) 0 (leafErr ((numS s).1 : Int) (leafStep ((numS s).1 : Int) ⟨dropB s (numS s).2.1, n + 1, (numS s).2.2⟩).1 (leafStep ((numS s).1 : Int) ⟨dropB s (numS s).2.1, n + 1, (numS s).2.2⟩).2.1 (leafStep ((numS s).1 : Int) ⟨dropB s (numS s).2.1, n + 1, (numS s).2.2⟩).2.2)).1
            (partR (rTerm f) (partsN ((numS s).1 : Int)) 1 (partR (rTerm f) (partsN ((numS s).1 : Int)) 0 (leafErr ((numS s).1 : Int) (leafStep ((numS s).1 : Int) ⟨dropB s (numS s).2.1, n + 1, (numS s).2.2⟩).1 (leafStep ((numS s).1 : Int) ⟨dropB s (numS s).2.1, n + 1, (numS s).2.2⟩).2.1 (leafStep ((numS s).1 : Int) ⟨dropB s (numS s).2.1, n + 1, (numS s).2.2⟩).2.2)).2).1
            (partR (rTerm f) (partsN ((numS s).1 : Int)) 2 (partR (rTerm f) (partsN ((numS s).1 : Int)) 1 (partR (rTerm f) (partsN ((numS s).1 : Int)) 0 (leafErr ((numS s).1 : Int) (leafStep ((numS s).1 : Int) ⟨dropB s (numS s).2.1, n + 1, (numS s).2.2⟩).1 (leafStep ((numS s).1 : Int) ⟨dropB s (numS s).2.1, n + 1, (numS s).2.2⟩).2.1 (leafStep ((numS s).1 : Int) ⟨dropB s (numS s).2.1, n + 1, (numS s).2.2⟩).2.2)).2).2).1,
           (partR (rTerm f) (partsN ((numS s).1 : Int)) 2 (partR (rTerm f) (partsN ((numS s).1 : Int)) 1 (partR (rTerm f) (partsN ((numS s).1 : Int)) 0 (leafErr ((numS s).1 : Int) (leafStep ((numS s).1 : Int) ⟨dropB s (numS s).2.1, n + 1, (numS s).2.2⟩).1 (leafStep ((numS s).1 : Int) ⟨dropB s (numS s).2.1, n + 1, (numS s).2.2⟩).2.1 (leafStep ((numS s).1 : Int) ⟨dropB s (numS s).2.1, n + 1, (numS s).2.2⟩).2.2)).2).2).2) := by
        rw [show rTerm (f + 1) ⟨s, n, 0⟩ = _ from rfl]
        unfold rTerm
        rw [if_neg hbig, num_zero rfl]
      clear hbig
      have cn := Lib.hid (rnum_any rb ⟨s, n + 1, 0⟩ W1 HB1.out hs)
      unfold RNumPost at cn
      rw [num_zero rfl] at cn
      simp only at cn
      generalize hk : (numS s).1 = kk at cn hE1
      generalize hd : dropB s (numS s).2.1 = s1 at cn hE1
      generalize hee : (numS s).2.2 = e1 at cn hE1
      have hs1 : s1.size ≤ 9223372036854775807 := by rw [← hd, dropB_size]; omega
      clear hk hd hee hs
      by_cases he1 : e1 = 0
      · subst he1
        rw [if_neg (fun h => h rfl)] at hE1
        have HE := Lib.hid hE1
        clear hE1
        go_upto_region 8 with (go_at_call 29; (with_reducible refine cn.out.mono ?_); rintro e w2 ⟨rfl, hR, hS⟩; have y2 := hR.cell 2; simp [rCells] at y2; have hl2 := hR.lt; have HR := Lib.hid hR; have HS := Lib.hid (HS1.out.then hS); clear hR hS)
        have hMk : Mk w (w2.alloc (.cells #[.int .i64 (kk : Int), .int .i64 0, .string ⟨#[]⟩, .pointer none, .pointer none, .pointer none] 46)) rb w2.heap.size (rCells ⟨s1, n + 1, 0⟩) 55 kk 0 ⟨#[]⟩ none none none .nil .nil .nil :=
          ⟨HR.out.alloc _, Blk.new w2 _ _, HS.out.size, hrb, rfl, rfl, rfl, HS.out.alloc _⟩
        generalize (w2.alloc (.cells #[.int .i64 (kk : Int), .int .i64 0, .string ⟨#[]⟩, .pointer none, .pointer none, .pointer none] 46)) = W3 at hMk ⊢
        generalize w2.heap.size = tb at hMk ⊢
        clear y2 hl2 HR HS c1 f2 c2 cn HB1 HS1
        have HM := Lib.hid hMk
        have x0 := hMk.T.cell 0
        simp [tmCells] at x0
        clear hMk
        generalize hkz : (kk : Int) = k at HM HE x0 ⊢
        clear hkz
        go_upto_block 0 with fail
        go_cut [37] from 37 to 72 (fun v37 wx => Hid (Mk w wx rb tb (rCells (leafStep k ⟨s1, n + 1, 0⟩).2.2) 55 k (leafStep k ⟨s1, n + 1, 0⟩).1 (leafStep k ⟨s1, n + 1, 0⟩).2.1 none none none .nil .nil .nil))
        case first =>
          by_cases k3 : k = 3
          · subst k3
            have ct := Lib.hid (rTakeText_any s1 24 hs1 W3)
            unfold rTextPost at ct
            have hls : leafStep 3 ⟨s1, n + 1, 0⟩ = ((⟨(textR s1 24).2.1, n + 1, (textR s1 24).2.2⟩ : RS).num.1, (textR s1 24).1, (⟨(textR s1 24).2.1, n + 1, (textR s1 24).2.2⟩ : RS).num.2) := by unfold leafStep; rw [if_pos rfl]
            have hts := textR_s s1 24
            generalize (textR s1 24).1 = nm at ct hls
            generalize (textR s1 24).2.1 = rest at ct hls hts
            generalize (textR s1 24).2.2 = er at ct hls
            have hts2 : rest.size ≤ 9223372036854775807 := by omega
            have y0 := HM.out.R.cell 0
            simp [rCells] at y0
            have cn := Lib.hid (fun W h => rnum_any rb ⟨rest, n + 1, er⟩ W h hts2)
            unfold RNumPost at cn
            generalize (⟨rest, n + 1, er⟩ : RS).num.1 = nv at cn hls
            generalize (⟨rest, n + 1, er⟩ : RS).num.2 = r2 at cn hls
            have HLS := Lib.hid hls
            clear hls hts hts2
            go_upto_region 11 with (go_at_call 30; (with_reducible refine ct.out.mono ?_); rintro e w4 ⟨rfl, hb⟩; have HM4 := Lib.hid (HM.out.below hb); clear hb)
            clear x0 y0
            have y0 := HM4.out.R.cell 0
            have y2 := HM4.out.R.cell 2
            have g0 := HM4.out.R.frozen 0
            have g2 := HM4.out.R.frozen 2
            have x2 := HM4.out.T.cell 2
            have h2 := HM4.out.T.frozen 2
            have hne : rb ≠ tb := by have := HM4.out.ge; have := HM4.out.lt; omega
            have hne' : tb ≠ rb := fun e => hne e.symm
            simp [rCells, tmCells] at y0 y2 x2
            go_upto_region 12 with fail
            have hM5 : Mk w (((w4.setCell ⟨rb, 0, none⟩ (.string rest)).setCell ⟨rb, 2, none⟩ (.int .i64 er)).setCell ⟨tb, 2, none⟩ (.string nm)) rb tb (rCells ⟨rest, n + 1, er⟩) 55 3 0 nm none none none .nil .nil .nil :=
              ((HM4.out.setR 0 (.string rest)).setR 2 (.int .i64 er)).setT 2 (.string nm) rfl rfl rfl rfl
            generalize (((w4.setCell ⟨rb, 0, none⟩ (.string rest)).setCell ⟨rb, 2, none⟩ (.int .i64 er)).setCell ⟨tb, 2, none⟩ (.string nm)) = W5 at hM5 ⊢
            clear y0 y2 g0 g2 x2 h2 HM4
            have HM5 := Lib.hid hM5
            clear hM5
            go_wp2_with (go_at_call 29; (with_reducible refine (cn.out _ HM5.out.R).mono ?_); rintro e w6 ⟨rfl, hR, hS⟩; have HM6 := Lib.hid (HM5.out.call hR hS); have z1 := HM6.out.T.cell 1; have h1 := HM6.out.T.frozen 1; simp [tmCells] at z1; clear hR hS)
            go_meet
            show Mk _ _ _ _ _ _ _ _ _ _ _ _ _ _ _
            rw [HLS.out]
            exact HM6.out.setT 1 (.int .i64 nv) rfl rfl rfl rfl
          have k3' : (k == 3) = false := beq_eq_false_iff_ne.2 k3
          by_cases k12 : k = 1 ∨ k = 2
          · have hls : leafStep k ⟨s1, n + 1, 0⟩ = ((⟨s1, n + 1, 0⟩ : RS).num.1, ⟨#[]⟩, (⟨s1, n + 1, 0⟩ : RS).num.2) := by unfold leafStep; rw [if_neg k3, if_pos k12]
            have cn := Lib.hid (rnum_any rb ⟨s1, n + 1, 0⟩ W3 HM.out.R hs1)
            unfold RNumPost at cn
            generalize (⟨s1, n + 1, 0⟩ : RS).num.1 = nv at cn hls
            generalize (⟨s1, n + 1, 0⟩ : RS).num.2 = r2 at cn hls
            have HLS := Lib.hid hls
            clear hls k3
            rcases k12 with rfl | rfl
            all_goals
              go_wp2_with (go_at_call 29; (with_reducible refine cn.out.mono ?_); rintro e w6 ⟨rfl, hR, hS⟩; have HM6 := Lib.hid (HM.out.call hR hS); have z1 := HM6.out.T.cell 1; have h1 := HM6.out.T.frozen 1; simp [tmCells] at z1; clear hR hS)
              go_meet
              show Mk _ _ _ _ _ _ _ _ _ _ _ _ _ _ _
              rw [HLS.out]
              exact HM6.out.setT 1 (.int .i64 nv) rfl rfl rfl rfl
          · have hls : leafStep k ⟨s1, n + 1, 0⟩ = (0, ⟨#[]⟩, ⟨s1, n + 1, 0⟩) := by unfold leafStep; rw [if_neg k3, if_neg k12]
            have HLS := Lib.hid hls
            have k1' : (k == 1) = false := beq_eq_false_iff_ne.2 (fun e => k12 (.inl e))
            have k2' : (k == 2) = false := beq_eq_false_iff_ne.2 (fun e => k12 (.inr e))
            clear hls k3 k12
            go_wp2
            go_meet
            show Mk _ _ _ _ _ _ _ _ _ _ _ _ _ _ _
            rw [HLS.out]
            exact HM.out
        case rest =>
          obtain ⟨W4, hW4⟩ : ∃ W4, W4 = wc := ⟨_, rfl⟩
          subst hW4
          have GO : Hid ((⟨s1, n + 1, 0⟩ : RS).Goes (leafErr k (leafStep k ⟨s1, n + 1, 0⟩).1 (leafStep k ⟨s1, n + 1, 0⟩).2.1 (leafStep k ⟨s1, n + 1, 0⟩).2.2)) := by
            refine ⟨?_, ?_, fun _ => ?_⟩
            · rw [leafErr_n, leafStep_n]; exact Nat.le_refl _
            · rw [leafErr_s]; exact leafStep_s _ _
            · rw [leafErr_n, leafStep_n]; show n + 1 ≤ 3000; omega
          have hnm := Nat.le_trans (leafStep_nm k ⟨s1, n + 1, 0⟩) hs1
          generalize (leafStep k ⟨s1, n + 1, 0⟩).1 = ln at HE hcut GO
          generalize (leafStep k ⟨s1, n + 1, 0⟩).2.1 = nm at HE hcut GO hnm
          generalize (leafStep k ⟨s1, n + 1, 0⟩).2.2 = r2 at HE hcut GO
          clear HM
          have HM4 := hcut
          have hs1' := Lib.hid hs1
          obtain ⟨ec, hec⟩ : ∃ ec, ec = (decide (r2.e = 0) && !leafB k ln nm) := ⟨_, rfl⟩
          have y2 := hcut.out.R.cell 2
          have g2 := hcut.out.R.frozen 2
          have cl := Lib.hid (leaf_any tb k ln nm none none none W4 hcut.out.T hnm)
          simp [rCells] at y2
          go_upto_region 16 with fail
          go_cut [82] from 73 to 82 (fun v82 wx => v82 = .bool ec ∧ wx = W4)
          case first =>
            by_cases h0 : r2.e = 0
            · have t0 : (r2.e == 0) = true := by rw [h0]; rfl
              rw [h0] at y2
              have e1 : (decide (r2.e = 0)) = true := decide_eq_true h0
              rw [e1] at hec
              have HEC := Lib.hid hec
              clear hec e1
              cases hlb : leafB k ln nm
              · rw [hlb] at cl HEC
                go_wp2_with (go_at_call 31; (with_reducible refine cl.out.mono ?_); rintro e w5 ⟨rfl, rfl⟩)
                go_meet
                exact ⟨by rw [HEC.out]; rfl, rfl⟩
              · rw [hlb] at cl HEC
                go_wp2_with (go_at_call 31; (with_reducible refine cl.out.mono ?_); rintro e w5 ⟨rfl, rfl⟩)
                go_meet
                exact ⟨by rw [HEC.out]; rfl, rfl⟩
            · have t0 : (r2.e == 0) = false := beq_eq_false_iff_ne.2 h0
              rw [decide_eq_false h0] at hec
              have HEC := Lib.hid hec
              clear hec h0
              go_wp2
              go_meet
              exact ⟨by rw [HEC.out]; rfl, rfl⟩
          case rest =>
            obtain ⟨rfl, hwc⟩ := hcut
            subst hwc
            have HM := HM4
            clear HM4
            obtain ⟨r3, hr3⟩ : ∃ r3, r3 = leafErr k ln nm r2 := ⟨_, rfl⟩
            rw [← hr3] at HE GO
            go_upto_if 82 with fail
            go_cut [85] from 83 to 85 (fun v85 wx => Hid (Mk w wx rb tb (rCells r3) 55 k ln nm none none none .nil .nil .nil))
            case first =>
              cases hcc : (decide (r2.e = 0) && !leafB k ln nm)
              · have hr4 : r3 = r2 := by
                  rw [hr3]
                  unfold leafErr
                  rw [if_neg]
                  rintro ⟨h1, h2⟩
                  rw [decide_eq_true h1, h2] at hcc
                  cases hcc
                have HR3 := Lib.hid hr4
                rw [hcc] at hec
                subst hec
                clear hcc hr3 hr4
                go_wp2
                go_meet
                show Mk _ _ _ _ _ _ _ _ _ _ _ _ _ _ _
                rw [HR3.out]
                exact HM.out
              · have hr4 : r3 = ⟨r2.s, r2.n, 10⟩ := by
                  rw [hr3]
                  unfold leafErr
                  rw [if_pos]
                  simp at hcc
                  exact hcc
                have HR3 := Lib.hid hr4
                rw [hcc] at hec
                subst hec
                have g2 := HM.out.R.frozen 2
                have y2 := HM.out.R.cell 2
                simp [rCells] at y2
                clear hcc hr3 hr4
                go_wp2
                go_meet
                show Mk _ _ _ _ _ _ _ _ _ _ _ _ _ _ _
                rw [HR3.out]
                exact HM.out.setR 2 (.int .i64 10)
            case rest =>
              clear hr3 hec HM y2 g2 cl
              have HM := hcut
              obtain ⟨W5, hW5⟩ : ∃ W5, W5 = wc := ⟨_, rfl⟩
              subst hW5
              have cp := Lib.hid (fun W => rparts_any k W)
              generalize partsN k = p at cp HE
              have x0 := HM.out.T.cell 0
              simp [tmCells] at x0
              go_upto_region 19 with (go_at_call 32; (with_reducible refine (cp.out _).mono ?_); rintro e w6 ⟨rfl, rfl⟩)
              clear x0 cp hnm hs1
              have y2 := HM.out.R.cell 2
              simp [rCells] at y2
              obtain ⟨W6, hW6⟩ : ∃ W6, W6 = W5 := ⟨_, rfl⟩
              subst hW6
              obtain ⟨ec, hec⟩ : ∃ ec, ec = (decide (r3.e = 0) && decide ((0 : Int) < p)) := ⟨_, rfl⟩
              go_cut [99] from 91 to 99 (fun v99 wx => v99 = .bool ec ∧ wx = W6)
              case first =>
                by_cases h0 : r3.e = 0
                · have t0 : (r3.e == 0) = true := by rw [h0]; rfl
                  rw [h0] at y2
                  rw [decide_eq_true h0] at hec
                  have HEC := Lib.hid hec
                  clear hec
                  cases hp : decide ((0 : Int) < p)
                  all_goals
                    rw [hp] at HEC
                    go_wp2
                    go_meet
                    exact ⟨by rw [HEC.out]; rfl, rfl⟩
                · have t0 : (r3.e == 0) = false := beq_eq_false_iff_ne.2 h0
                  rw [decide_eq_false h0] at hec
                  have HEC := Lib.hid hec
                  clear hec h0
                  go_wp2
                  go_meet
                  exact ⟨by rw [HEC.out]; rfl, rfl⟩
              case rest =>
                obtain ⟨rfl, hwc⟩ := hcut
                subst hwc
                obtain ⟨W6, hW6⟩ : ∃ W6, W6 = wc := ⟨_, rfl⟩
                subst hW6
                clear y2
                go_upto_if 99 with fail
                have hgo := partR_goes (go := rTerm f) (p := p) (j := 0) GO.out.e (fun h => rTerm_goes f _ h (GO.out.e h))
                have GO2 := Lib.hid (GO.out.trans hgo)
                clear hgo
                obtain ⟨x, hx⟩ : ∃ x, x = partR (rTerm f) p 0 r3 := ⟨_, rfl⟩
                rw [← hx] at HE GO2
                go_cut [104] from 100 to 104 (fun v104 wx => ∃ pa, Hid (Mk w wx rb tb (rCells x.2) 55 k ln nm pa none none x.1 .nil .nil ))
                case first =>
                  cases hcc : (decide (r3.e = 0) && decide ((0 : Int) < p))
                  · have hzq : x = (.nil, r3) := by
                      rw [hx]
                      unfold partR
                      rw [if_neg]
                      rintro ⟨h1, h2⟩
                      rw [decide_eq_true h1, decide_eq_true h2] at hcc
                      cases hcc
                    have HZ := Lib.hid hzq
                    rw [hcc] at hec
                    subst hec
                    clear hcc hx hzq
                    go_wp2
                    go_meet
                    refine ⟨none, ?_⟩
                    show Mk _ _ _ _ _ _ _ _ _ _ _ _ _ _ _
                    rw [HZ.out]
                    exact HM.out
                  · have hzq : x = rTerm f r3 := by
                      rw [hx]
                      unfold partR
                      rw [if_pos]
                      simp at hcc
                      exact hcc
                    have h0 : r3.e = 0 := by simp at hcc; exact hcc.1
                    have HZ := Lib.hid hzq
                    have ct := Lib.hid (ih.out rb r3 W6 HM.out.R h0 (GO.out.e h0) (by have h9 := GO.out.n; simp only at h9; omega) (Nat.le_trans GO.out.s hs1'.out))
                    rw [hcc] at hec
                    subst hec
                    clear hcc hx hzq h0
                    go_wp2_with (go_at_call 19; (with_reducible refine ct.out.mono ?_); rintro e w7 ⟨q, rfl, hP, hR, hS⟩; have HM7 := Lib.hid (HM.out.call hR hS); have z1 := HM7.out.T.cell 3; have h1 := HM7.out.T.frozen 3; simp [tmCells] at z1; have HP := Lib.hid (hP.mono (show tb + 1 ≤ W6.heap.size by have := HM.out.T.lt; omega)); clear hP hR hS)
                    go_meet
                    refine ⟨q, ?_⟩
                    show Mk _ _ _ _ _ _ _ _ _ _ _ _ _ _ _
                    rw [HZ.out]
                    exact HM7.out.setT 3 (.pointer q) rfl HP.out HM7.out.inB HM7.out.inC
                case rest =>
                  obtain ⟨pa, HM'⟩ := hcut
                  clear hx hec HM GO
                  have HM := HM'
                  have GO := GO2
                  clear HM' GO2
                  obtain ⟨W6b, hW6b⟩ : ∃ W6b, W6b = wc := ⟨_, rfl⟩
                  subst hW6b
                  have y2 := HM.out.R.cell 2
                  simp [rCells] at y2
                  obtain ⟨W7, hW7⟩ : ∃ W7, W7 = W6b := ⟨_, rfl⟩
                  subst hW7
                  obtain ⟨ec, hec⟩ : ∃ ec, ec = (decide (x.2.e = 0) && decide ((1 : Int) < p)) := ⟨_, rfl⟩
                  go_upto_region 21 with fail
                  go_cut [113] from 105 to 113 (fun v113 wx => v113 = .bool ec ∧ wx = W7)
                  case first =>
                    by_cases h0 : x.2.e = 0
                    · have t0 : (x.2.e == 0) = true := by rw [h0]; rfl
                      rw [h0] at y2
                      rw [decide_eq_true h0] at hec
                      have HEC := Lib.hid hec
                      clear hec
                      cases hp : decide ((1 : Int) < p)
                      all_goals
                        rw [hp] at HEC
                        go_wp2
                        go_meet
                        exact ⟨by rw [HEC.out]; rfl, rfl⟩
                    · have t0 : (x.2.e == 0) = false := beq_eq_false_iff_ne.2 h0
                      rw [decide_eq_false h0] at hec
                      have HEC := Lib.hid hec
                      clear hec h0
                      go_wp2
                      go_meet
                      exact ⟨by rw [HEC.out]; rfl, rfl⟩
                  case rest =>
                    obtain ⟨rfl, hwc⟩ := hcut
                    subst hwc
                    obtain ⟨W7, hW7⟩ : ∃ W7, W7 = wc := ⟨_, rfl⟩
                    subst hW7
                    clear y2
                    go_upto_if 113 with fail
                    have hgo := partR_goes (go := rTerm f) (p := p) (j := 1) GO.out.e (fun h => rTerm_goes f _ h (GO.out.e h))
                    have GO2 := Lib.hid (GO.out.trans hgo)
                    clear hgo
                    obtain ⟨y, hy⟩ : ∃ y, y = partR (rTerm f) p 1 x.2 := ⟨_, rfl⟩
                    rw [← hy] at HE GO2
                    go_cut [118] from 114 to 118 (fun v118 wx => ∃ pb, Hid (Mk w wx rb tb (rCells y.2) 55 k ln nm pa pb none x.1 y.1 .nil ))
                    case first =>
                      cases hcc : (decide (x.2.e = 0) && decide ((1 : Int) < p))
                      · have hzq : y = (.nil, x.2) := by
                          rw [hy]
                          unfold partR
                          rw [if_neg]
                          rintro ⟨h1, h2⟩
                          rw [decide_eq_true h1, decide_eq_true h2] at hcc
                          cases hcc
                        have HZ := Lib.hid hzq
                        rw [hcc] at hec
                        subst hec
                        clear hcc hy hzq
                        go_wp2
                        go_meet
                        refine ⟨none, ?_⟩
                        show Mk _ _ _ _ _ _ _ _ _ _ _ _ _ _ _
                        rw [HZ.out]
                        exact HM.out
                      · have hzq : y = rTerm f x.2 := by
                          rw [hy]
                          unfold partR
                          rw [if_pos]
                          simp at hcc
                          exact hcc
                        have h0 : x.2.e = 0 := by simp at hcc; exact hcc.1
                        have HZ := Lib.hid hzq
                        have ct := Lib.hid (ih.out rb x.2 W7 HM.out.R h0 (GO.out.e h0) (by have h9 := GO.out.n; simp only at h9; omega) (Nat.le_trans GO.out.s hs1'.out))
                        rw [hcc] at hec
                        subst hec
                        clear hcc hy hzq h0
                        go_wp2_with (go_at_call 19; (with_reducible refine ct.out.mono ?_); rintro e w7 ⟨q, rfl, hP, hR, hS⟩; have HM7 := Lib.hid (HM.out.call hR hS); have z1 := HM7.out.T.cell 4; have h1 := HM7.out.T.frozen 4; simp [tmCells] at z1; have HP := Lib.hid (hP.mono (show tb + 1 ≤ W7.heap.size by have := HM.out.T.lt; omega)); clear hP hR hS)
                        go_meet
                        refine ⟨q, ?_⟩
                        show Mk _ _ _ _ _ _ _ _ _ _ _ _ _ _ _
                        rw [HZ.out]
                        exact HM7.out.setT 4 (.pointer q) rfl HM7.out.inA HP.out HM7.out.inC
                    case rest =>
                      obtain ⟨pb, HM'⟩ := hcut
                      clear hy hec HM GO
                      have HM := HM'
                      have GO := GO2
                      clear HM' GO2
                      obtain ⟨W7b, hW7b⟩ : ∃ W7b, W7b = wc := ⟨_, rfl⟩
                      subst hW7b
                      have y2 := HM.out.R.cell 2
                      simp [rCells] at y2
                      obtain ⟨W8, hW8⟩ : ∃ W8, W8 = W7b := ⟨_, rfl⟩
                      subst hW8
                      obtain ⟨ec, hec⟩ : ∃ ec, ec = (decide (y.2.e = 0) && decide ((2 : Int) < p)) := ⟨_, rfl⟩
                      go_upto_region 23 with fail
                      go_cut [127] from 119 to 127 (fun v127 wx => v127 = .bool ec ∧ wx = W8)
                      case first =>
                        by_cases h0 : y.2.e = 0
                        · have t0 : (y.2.e == 0) = true := by rw [h0]; rfl
                          rw [h0] at y2
                          rw [decide_eq_true h0] at hec
                          have HEC := Lib.hid hec
                          clear hec
                          cases hp : decide ((2 : Int) < p)
                          all_goals
                            rw [hp] at HEC
                            go_wp2
                            go_meet
                            exact ⟨by rw [HEC.out]; rfl, rfl⟩
                        · have t0 : (y.2.e == 0) = false := beq_eq_false_iff_ne.2 h0
                          rw [decide_eq_false h0] at hec
                          have HEC := Lib.hid hec
                          clear hec h0
                          go_wp2
                          go_meet
                          exact ⟨by rw [HEC.out]; rfl, rfl⟩
                      case rest =>
                        obtain ⟨rfl, hwc⟩ := hcut
                        subst hwc
                        obtain ⟨W8, hW8⟩ : ∃ W8, W8 = wc := ⟨_, rfl⟩
                        subst hW8
                        clear y2
                        go_upto_if 127 with fail
                        have hgo := partR_goes (go := rTerm f) (p := p) (j := 2) GO.out.e (fun h => rTerm_goes f _ h (GO.out.e h))
                        have GO2 := Lib.hid (GO.out.trans hgo)
                        clear hgo
                        obtain ⟨z, hz⟩ : ∃ z, z = partR (rTerm f) p 2 y.2 := ⟨_, rfl⟩
                        rw [← hz] at HE GO2
                        go_cut [132] from 128 to 132 (fun v132 wx => ∃ pc, Hid (Mk w wx rb tb (rCells z.2) 55 k ln nm pa pb pc x.1 y.1 z.1 ))
                        case first =>
                          cases hcc : (decide (y.2.e = 0) && decide ((2 : Int) < p))
                          · have hzq : z = (.nil, y.2) := by
                              rw [hz]
                              unfold partR
                              rw [if_neg]
                              rintro ⟨h1, h2⟩
                              rw [decide_eq_true h1, decide_eq_true h2] at hcc
                              cases hcc
                            have HZ := Lib.hid hzq
                            rw [hcc] at hec
                            subst hec
                            clear hcc hz hzq
                            go_wp2
                            go_meet
                            refine ⟨none, ?_⟩
                            show Mk _ _ _ _ _ _ _ _ _ _ _ _ _ _ _
                            rw [HZ.out]
                            exact HM.out
                          · have hzq : z = rTerm f y.2 := by
                              rw [hz]
                              unfold partR
                              rw [if_pos]
                              simp at hcc
                              exact hcc
                            have h0 : y.2.e = 0 := by simp at hcc; exact hcc.1
                            have HZ := Lib.hid hzq
                            have ct := Lib.hid (ih.out rb y.2 W8 HM.out.R h0 (GO.out.e h0) (by have h9 := GO.out.n; simp only at h9; omega) (Nat.le_trans GO.out.s hs1'.out))
                            rw [hcc] at hec
                            subst hec
                            clear hcc hz hzq h0
                            go_wp2_with (go_at_call 19; (with_reducible refine ct.out.mono ?_); rintro e w7 ⟨q, rfl, hP, hR, hS⟩; have HM7 := Lib.hid (HM.out.call hR hS); have z1 := HM7.out.T.cell 5; have h1 := HM7.out.T.frozen 5; simp [tmCells] at z1; have HP := Lib.hid (hP.mono (show tb + 1 ≤ W8.heap.size by have := HM.out.T.lt; omega)); clear hP hR hS)
                            go_meet
                            refine ⟨q, ?_⟩
                            show Mk _ _ _ _ _ _ _ _ _ _ _ _ _ _ _
                            rw [HZ.out]
                            exact HM7.out.setT 5 (.pointer q) rfl HM7.out.inA HM7.out.inB HP.out
                        case rest =>
                          obtain ⟨pc, HM'⟩ := hcut
                          clear hz hec HM GO
                          have HM := HM'
                          have GO := GO2
                          clear HM' GO2
                          obtain ⟨W9, hW9⟩ : ∃ W9, W9 = wc := ⟨_, rfl⟩
                          subst hW9
                          go_wp2
                          go_ret
                          refine ⟨_, rfl, ?_, ?_, HM.out.keep⟩
                          · rw [HE.out]
                            exact ⟨tb, pa, pb, pc, rfl, HM.out.ge, HM.out.T, HM.out.inA.mono (by have := HM.out.ge; omega), HM.out.inB.mono (by have := HM.out.ge; omega), HM.out.inC.mono (by have := HM.out.ge; omega)⟩
                          · rw [HE.out]
                            exact HM.out.R
      · rw [if_pos he1] at hE1
        have HE := Lib.hid hE1
        have t2 : (e1 != 0) = true := by rw [bne, beq_eq_false_iff_ne.2 he1]; rfl
        have t2' : (e1 == 0) = false := beq_eq_false_iff_ne.2 he1
        clear he1 hE1
        go_wp2_with (go_at_call 29; (with_reducible refine cn.out.mono ?_); rintro e w2 ⟨rfl, hR, hS⟩; have y2 := hR.cell 2; simp [rCells] at y2; have hl2 := hR.lt; have HR := Lib.hid hR; have HS := Lib.hid (HS1.out.then hS); clear hR hS)
        go_ret
        rw [HE.out]
        exact ⟨none, rfl, rfl, HR.out.alloc _, HS.out.alloc _⟩
end Go.Proofs.YtghebjgkdfbmeaaGreatDoor

