import Derived.Test.YtfmgafpgajlddaaD9
set_option linter.unusedVariables false
set_option linter.unusedSimpArgs false
namespace Go.Proofs.Ytfmgafpgajlddaa
open Go.RowKit

theorem dB_facts (a b : List ByteArray) (i : Nat) : (dB a b i).sure.length = 8 ∧ (dB a b i).dead = false ∧ (dB a b i).left = -1 ∧ (dB a b i).done = a.length + i := ⟨by simp [dB, dS], rfl, rfl, rfl⟩

set_option maxHeartbeats 16000000 in
set_option maxRecDepth 100000 in
theorem DiskFlushed_any (a1 a2 a3 : Option Addr) (c1 c2 c3 : Nat) (a b : List ByteArray) (kp : List Bool) (torn : Int) (w : World) (h1 : StrsAt w a1 a) (h2 : StrsAt w a2 b) (h3 : BoolsAt w a3 kp) :
    Calls Try.prog 4 #[.slice a1 a.length c1, .slice a2 b.length c2, .slice a3 kp.length c3, .int .i64 torn] w fun e w' => e = .returned (.bool true) ∧ Below w.heap.size w w' := by
  have ck := Lib.hid (known1_any w)
  obtain ⟨N1, hN1⟩ : ∃ N, N = a.length := ⟨_, rfl⟩
  obtain ⟨N2, hN2⟩ : ∃ N, N = b.length := ⟨_, rfl⟩
  obtain ⟨N3, hN3⟩ : ∃ N, N = kp.length := ⟨_, rfl⟩
  rw [← hN1, ← hN2, ← hN3]
  by_cases g1 : 8 < N1
  · have t1 : decide ((8 : Int) < (N1 : Int)) = true := decide_eq_true (by omega)
    have t1' : decide (8 < N1) = true := decide_eq_true g1
    clear g1 h1 h2 h3 hN1 hN2 hN3
    go_enter Try.func4, Try.ntmps4
    go_wp2_with (go_at_call 6; (with_reducible refine ck.out.mono ?_); rintro e wb ⟨rfl, hb⟩; have HB0 := Lib.hid hb; clear hb)
    go_ret
    exact ⟨rfl, HB0.out⟩
  have t1 : decide ((8 : Int) < (N1 : Int)) = false := decide_eq_false (by omega)
  have t1' : decide (8 < N1) = false := decide_eq_false g1
  by_cases g2 : 8 < N2
  · have t2 : decide ((8 : Int) < (N2 : Int)) = true := decide_eq_true (by omega)
    have t2' : decide (8 < N2) = true := decide_eq_true g2
    clear g1 g2 h1 h2 h3 hN1 hN2 hN3
    go_enter Try.func4, Try.ntmps4
    go_wp2_with (go_at_call 6; (with_reducible refine ck.out.mono ?_); rintro e wb ⟨rfl, hb⟩; have HB0 := Lib.hid hb; clear hb)
    go_ret
    exact ⟨rfl, HB0.out⟩
  have t2 : decide ((8 : Int) < (N2 : Int)) = false := decide_eq_false (by omega)
  have t2' : decide (8 < N2) = false := decide_eq_false g2
  by_cases g3 : 20 < N3
  · have t3 : decide ((20 : Int) < (N3 : Int)) = true := decide_eq_true (by omega)
    have t3' : decide (20 < N3) = true := decide_eq_true g3
    clear g1 g2 g3 h1 h2 h3 hN1 hN2 hN3
    go_enter Try.func4, Try.ntmps4
    go_wp2_with (go_at_call 6; (with_reducible refine ck.out.mono ?_); rintro e wb ⟨rfl, hb⟩; have HB0 := Lib.hid hb; clear hb)
    go_ret
    exact ⟨rfl, HB0.out⟩
  have t3 : decide ((20 : Int) < (N3 : Int)) = false := decide_eq_false (by omega)
  have t3' : decide (20 < N3) = false := decide_eq_false g3
  have z1 : N1 ≤ 8 := by omega
  have z2 : N2 ≤ 8 := by omega
  have z3 : N3 ≤ 20 := by omega
  have cn := Lib.hid (fun w => New_own w 8 8 (by decide) (by omega) (by omega))
  have H1 := Lib.hid h1
  have H2 := Lib.hid h2
  have H3 := Lib.hid h3
  have HN1 := Lib.hid hN1
  have HN2 := Lib.hid hN2
  have HN3 := Lib.hid hN3
  clear g1 g2 g3 h1 h2 h3 hN1 hN2 hN3
  go_enter Try.func4, Try.ntmps4
  go_wp2_with (first
    | (go_at_call 6; (with_reducible refine ck.out.mono ?_); rintro e wb ⟨rfl, hb⟩; have HB0 := Lib.hid hb; clear hb)
    | (go_at_call 7; (with_reducible refine (cn.out _).mono ?_); rintro e w2 ⟨p, rfl, hb, ho⟩; have HB := Lib.hid hb; have HO := Lib.hid ho; clear hb ho))
  go_loopw [10] (fun v10 wr => ∃ i : Nat, v10 = .int .i64 (i : Int) ∧ i ≤ N1 ∧ Hid (∀ s ∈ a.take i, s.size ≤ 64) ∧ Hid (Below wb.heap.size wb wr) ∧ Hid (Own wb.heap.size wr p (dA a i))) (fun v10 _ => N1 - (intOf v10).toNat)
  case atStart => exact ⟨0, rfl, Nat.zero_le _, fun s hs => by simp at hs, HB, HO⟩
  case round =>
    clear HB HO
    obtain ⟨i, rfl, hi, HZ, HB, HO⟩ := hrel
    by_cases hlt : i < N1
    · have hlt' : i < a.length := by rw [← HN1.out]; exact hlt
      obtain ⟨s, hs⟩ : ∃ s, a[i]? = some s := ⟨_, List.getElem?_eq_getElem hlt'⟩
      obtain ⟨ab, ao, rfl, hc⟩ := H1.out i s hs
      have c0 := cell_keep (below_step HB0.out HB.out) hc
      have b0 : (0 : Int) ≤ (i : Int) := by omega
      have b1 : (i : Int) < (N1 : Int) := by omega
      by_cases hz : 64 < s.size
      · have t4 : decide ((64 : Int) < (s.size : Int)) = true := decide_eq_true (by omega)
        have t4' : decide (64 < s.size) = true := decide_eq_true hz
        clear hz hs hlt' hc
        go_wp2
        go_ret
        exact ⟨rfl, below_step HB0.out HB.out⟩
      · have t4 : decide ((64 : Int) < (s.size : Int)) = false := decide_eq_false (by omega)
        have t4' : decide (64 < s.size) = false := decide_eq_false hz
        have hco := code_of (D := dA a i) (by simp [dA, newD]) rfl rfl i (by omega) s (by omega)
        have cw := Lib.hid (fun w => Write_own wb.heap.size w p (dA a i) (i : Int) s (dA a (i + 1)) 0 .nilIface hco.1 rfl (by rw [hco.2, dA_step, List.getD_eq_getElem?_getD, hs]; rfl) (by show i < _; omega))
        have HZ2 : Hid (∀ s ∈ a.take (i + 1), s.size ≤ 64) := fun t ht => by
          rw [List.take_succ_eq_append_getElem hlt'] at ht
          rcases List.mem_append.1 ht with h | h
          · exact HZ.out t h
          · rw [List.getElem?_eq_getElem hlt'] at hs
            cases hs
            rw [List.mem_singleton.1 h]
            omega
        clear hz hs hlt' hc hco
        go_wp2_with (go_at_call 8; (with_reducible refine (cw.out _ HO.out).mono ?_); rintro e w3 ⟨rfl, hb, ho⟩; replace HB := Lib.hid (HB.out.trans hb); replace HO := Lib.hid ho; clear hb ho)
        go_roundw
        case rel => exact ⟨i + 1, by go_num, by omega, HZ2.out, HB.out, HO.out⟩
        case measure => simp [intOf]; omega
    · obtain rfl : i = N1 := by omega
      have HZA : Hid (∀ s ∈ a, s.size ≤ 64) := by
        have := HZ.out
        rw [HN1.out, List.take_length] at this
        exact this
      have cf := Lib.hid (fun w => Flush_own wb.heap.size w p (dA a i) (dB a b 0) 0 .nilIface rfl rfl (by rw [HN1.out, dA_flush a (by rw [← HN1.out]; exact z1)]; rfl))
      clear hlt hi HZ
      go_wp2_with (go_at_call 13; (with_reducible refine (cf.out _ HO.out).mono ?_); rintro e w3 ⟨rfl, hb, ho⟩; replace HB := Lib.hid (HB.out.trans hb); replace HO := Lib.hid ho; clear hb ho)
      go_loopw [11] (fun v11 wr => ∃ j : Nat, v11 = .int .i64 (j : Int) ∧ j ≤ N2 ∧ Hid (∀ s ∈ b.take j, s.size ≤ 64) ∧ Hid (Below wb.heap.size wb wr) ∧ Hid (Own wb.heap.size wr p (dB a b j))) (fun v11 _ => N2 - (intOf v11).toNat)
      case atStart => exact ⟨0, rfl, Nat.zero_le _, fun s hs => by simp at hs, HB, HO⟩
      case round =>
        clear HB HO
        obtain ⟨j, rfl, hj, HZ, HB, HO⟩ := hrel
        by_cases hlt : j < N2
        · have hlt' : j < b.length := by rw [← HN2.out]; exact hlt
          obtain ⟨s, hs⟩ : ∃ s, b[j]? = some s := ⟨_, List.getElem?_eq_getElem hlt'⟩
          obtain ⟨ab, ao, rfl, hc⟩ := H2.out j s hs
          have c0 := cell_keep (below_step HB0.out HB.out) hc
          have b0 : (0 : Int) ≤ (j : Int) := by omega
          have b1 : (j : Int) < (N2 : Int) := by omega
          by_cases hz : 64 < s.size
          · have t4 : decide ((64 : Int) < (s.size : Int)) = true := decide_eq_true (by omega)
            have t4' : decide (64 < s.size) = true := decide_eq_true hz
            clear hz hs hlt' hc
            go_wp2
            go_ret
            exact ⟨rfl, below_step HB0.out HB.out⟩
          · have t4 : decide ((64 : Int) < (s.size : Int)) = false := decide_eq_false (by omega)
            have t4' : decide (64 < s.size) = false := decide_eq_false hz
            obtain ⟨q, hq⟩ : ∃ q, q = 7 - j := ⟨_, rfl⟩
            have hq1 : (7 : Int) - (j : Int) = (q : Int) := by omega
            have hfx := dB_facts a b j
            have hco := code_of (D := dB a b j) hfx.1 hfx.2.1 hfx.2.2.1 q (by omega) s (by omega)
            have cw := Lib.hid (fun w => Write_own wb.heap.size w p (dB a b j) (q : Int) s (dB a b (j + 1)) 0 .nilIface hco.1 rfl (by rw [hco.2, dB_step, List.getD_eq_getElem?_getD, hs, hq]; rfl) (by rw [hfx.2.2.2, ← HN1.out]; omega))
            have HZ2 : Hid (∀ s ∈ b.take (j + 1), s.size ≤ 64) := fun t ht => by
              rw [List.take_succ_eq_append_getElem hlt'] at ht
              rcases List.mem_append.1 ht with h | h
              · exact HZ.out t h
              · rw [List.getElem?_eq_getElem hlt'] at hs
                cases hs
                rw [List.mem_singleton.1 h]
                omega
            clear hz hs hlt' hc hco hq hfx
            go_wp2_with (go_at_call 8; (with_reducible refine (cw.out _ HO.out).mono ?_); rintro e w3 ⟨rfl, hb, ho⟩; replace HB := Lib.hid (HB.out.trans hb); replace HO := Lib.hid ho; clear hb ho)
            go_roundw
            case rel => exact ⟨j + 1, by go_num, by omega, HZ2.out, HB.out, HO.out⟩
            case measure => simp [intOf]; omega
        · obtain rfl : j = N2 := by omega
          have HZB : Hid (∀ s ∈ b, s.size ≤ 64) := by
            have := HZ.out
            rw [HN2.out, List.take_length] at this
            exact this
          obtain ⟨D3, hD3⟩ : ∃ D3, D3 = (dB a b j).crash (keepOf kp) torn := ⟨_, rfl⟩
          have cc := Lib.hid (fun (w' : World) (hb : Below w.heap.size w w') => Crash_own wb.heap.size w' p (dB a b j) a3 N3 c3 kp torn D3 HN3.out.symm (by omega) hD3.symm (H3.out.below hb) (fun hl q off e => by
            obtain ⟨x, hx⟩ : ∃ x, kp[0]? = some x := ⟨_, List.getElem?_eq_getElem hl⟩
            obtain ⟨q', off', e', hc⟩ := H3.out 0 x hx
            rw [e] at e'
            cases e'
            have := cell_lt hc
            have := HB0.out.size
            show q < _
            simp only at *
            omega))
          have hrd := fun k hk => crash_read a b kp torn (by rw [← HN2.out]; exact z2) k hk
          rw [← HN2.out, ← hD3] at hrd
          have HRD := Lib.hid hrd
          have cl := Lib.hid (fun w => Loose_own wb.heap.size w p D3 0 (by rw [hD3]; rfl))
          clear hrd hD3 hlt hj HZ
          go_wp2_with (go_at_call 14; (with_reducible refine (cc.out _ (below_step HB0.out HB.out) HO.out).mono ?_); rintro e w3 ⟨rfl, hb, ho⟩; replace HB := Lib.hid (HB.out.trans hb); replace HO := Lib.hid ho; clear hb ho)
          go_loopw [12] (fun v12 wr => ∃ k : Nat, v12 = .int .i64 (k : Int) ∧ k ≤ 8 ∧ Hid (Below wb.heap.size wb wr) ∧ Hid (Own wb.heap.size wr p D3)) (fun v12 _ => 8 - (intOf v12).toNat)
          case atStart => exact ⟨0, rfl, Nat.zero_le _, HB, HO⟩
          case round =>
            clear HB HO
            obtain ⟨k, rfl, hk, HB, HO⟩ := hrel
            by_cases hlt : k < 8
            · have t5 : decide ((k : Int) < 8) = true := decide_eq_true (by omega)
              obtain ⟨q, hq⟩ : ∃ q, q = 7 - k := ⟨_, rfl⟩
              have hq1 : (7 : Int) - (k : Int) = (q : Int) := by omega
              obtain ⟨hm, hr⟩ := HRD.out k hlt
              have cfa := full_any a1 c1 a k (by rw [← HN1.out]; exact z1) HZA.out hlt
              have cfb := full_any a2 c2 b q (by rw [← HN2.out]; exact z2) HZB.out (by omega)
              rw [← HN1.out] at cfa
              rw [← HN2.out] at cfb
              have y1 := fullS_size a k HZA.out
              have y2 := fullS_size b q HZB.out
              unfold nextS at hr
              rw [← hq] at hr
              generalize fullS a k = A at *
              generalize fullS b q = Bb at *
              have y3 : (32 : Int) ≤ (A.size : Int) := by omega
              have y4 : (32 : Int) ≤ (Bb.size : Int) := by omega
              have y5 : (Bb.extract 0 32).size + (A.extract 32 A.size).size ≤ 9223372036854775807 := by rw [ByteArray.size_extract, ByteArray.size_extract]; omega
              have y6 : ¬ 9223372036854775807 < (Bb.extract 0 32).size + (A.extract 32 A.size).size := by omega
              replace cfa := Lib.hid cfa
              replace cfb := Lib.hid cfb
              clear hq y1 y2
              have b0 : (0 : Int) ≤ (q : Int) := by omega
              by_cases e1 : q < j
              · have t6 : decide ((q : Int) < (j : Int)) = true := decide_eq_true (by omega)
                have t6' : decide (q < j) = true := decide_eq_true e1
                by_cases e2 : q < N3
                · have t7 : decide ((q : Int) < (N3 : Int)) = true := decide_eq_true (by omega)
                  have t7' : decide (q < N3) = true := decide_eq_true e2
                  have b1 : (q : Int) < (N3 : Int) := by omega
                  obtain ⟨x, hx⟩ : ∃ x, kp[q]? = some x := ⟨_, List.getElem?_eq_getElem (by rw [← HN3.out]; exact e2)⟩
                  obtain ⟨ab, ao, rfl, hc⟩ := H3.out q x hx
                  have hkq : keepOf kp q = x := by unfold keepOf; rw [List.getD_eq_getElem?_getD, hx]; rfl
                  rw [hkq] at hr
                  have HC := Lib.hid hc
                  clear hx hc hkq
                  cases x
                  · rw [if_neg (fun h => by cases h.2)] at hr
                    have cr := Lib.hid (fun w => Read_own wb.heap.size w p D3 (k : Int) A 0 .nilIface hr hm rfl)
                    clear hr hm e1 e2 hlt
                    go_wp2_with (first
                      | (go_at_call 15; (with_reducible refine (cr.out _ HO.out).mono ?_); rintro e w3 ⟨rfl, rfl⟩)
                      | (go_at_call 16; (with_reducible refine (cfa.out _ (H1.out.below (below_step HB0.out HB.out))).mono ?_); rintro e w3 ⟨rfl, hb⟩; replace HO := Lib.hid (HO.out.below hb); replace HB := Lib.hid (HB.out.trans (hb.mono HB.out.size)); have c0 := cell_keep (below_step HB0.out HB.out) HC.out; clear hb))
                    go_roundw
                    case rel => exact ⟨k + 1, by go_num, by omega, HB.out, HO.out⟩
                    case measure => simp [intOf]; omega
                  · by_cases ht : (q : Int) = torn
                    · rw [if_pos ⟨e1, rfl⟩, if_pos ht] at hr
                      have t8 : ((q : Int) == torn) = true := by rw [ht, beq_self_eq_true]
                      have cr := Lib.hid (fun w => Read_own wb.heap.size w p D3 (k : Int) _ 0 .nilIface hr hm rfl)
                      clear hr hm e1 e2 hlt ht
                      go_wp2_with (first
                        | (go_at_call 15; (with_reducible refine (cr.out _ HO.out).mono ?_); rintro e w3 ⟨rfl, rfl⟩)
                        | (go_at_call 16; (with_reducible refine (cfa.out _ (H1.out.below (below_step HB0.out HB.out))).mono ?_); rintro e w3 ⟨rfl, hb⟩; replace HO := Lib.hid (HO.out.below hb); replace HB := Lib.hid (HB.out.trans (hb.mono HB.out.size)); have c0 := cell_keep (below_step HB0.out HB.out) HC.out; clear hb)
                        | (go_at_call 16; (with_reducible refine (cfb.out _ (H2.out.below (below_step HB0.out HB.out))).mono ?_); rintro e w3 ⟨rfl, hb⟩; replace HO := Lib.hid (HO.out.below hb); replace HB := Lib.hid (HB.out.trans (hb.mono HB.out.size)); clear hb))
                      go_quiet (fail)
                      go_wp2
                      go_roundw
                      case rel => exact ⟨k + 1, by go_num, by omega, HB.out.trans (below_drewN _ _), HO.out.below (below_drewN _ _)⟩
                      case measure => simp [intOf]; omega
                    · rw [if_pos ⟨e1, rfl⟩, if_neg ht] at hr
                      have t8 : ((q : Int) == torn) = false := by rw [beq_eq_false_iff_ne]; exact ht
                      have cr := Lib.hid (fun w => Read_own wb.heap.size w p D3 (k : Int) _ 0 .nilIface hr hm rfl)
                      clear hr hm e1 e2 hlt ht
                      go_wp2_with (first
                        | (go_at_call 15; (with_reducible refine (cr.out _ HO.out).mono ?_); rintro e w3 ⟨rfl, rfl⟩)
                        | (go_at_call 16; (with_reducible refine (cfa.out _ (H1.out.below (below_step HB0.out HB.out))).mono ?_); rintro e w3 ⟨rfl, hb⟩; replace HO := Lib.hid (HO.out.below hb); replace HB := Lib.hid (HB.out.trans (hb.mono HB.out.size)); have c0 := cell_keep (below_step HB0.out HB.out) HC.out; clear hb)
                        | (go_at_call 16; (with_reducible refine (cfb.out _ (H2.out.below (below_step HB0.out HB.out))).mono ?_); rintro e w3 ⟨rfl, hb⟩; replace HO := Lib.hid (HO.out.below hb); replace HB := Lib.hid (HB.out.trans (hb.mono HB.out.size)); clear hb))
                      go_roundw
                      case rel => exact ⟨k + 1, by go_num, by omega, HB.out, HO.out⟩
                      case measure => simp [intOf]; omega
                · have t7 : decide ((q : Int) < (N3 : Int)) = false := decide_eq_false (by omega)
                  have t7' : decide (q < N3) = false := decide_eq_false e2
                  have hkq : keepOf kp q = false := by unfold keepOf; rw [List.getD_eq_getElem?_getD, List.getElem?_eq_none (by rw [← HN3.out]; omega)]; rfl
                  rw [hkq, if_neg (fun h => by cases h.2)] at hr
                  have cr := Lib.hid (fun w => Read_own wb.heap.size w p D3 (k : Int) A 0 .nilIface hr hm rfl)
                  clear hr hm e1 e2 hlt hkq
                  go_wp2_with (first
                    | (go_at_call 15; (with_reducible refine (cr.out _ HO.out).mono ?_); rintro e w3 ⟨rfl, rfl⟩)
                    | (go_at_call 16; (with_reducible refine (cfa.out _ (H1.out.below (below_step HB0.out HB.out))).mono ?_); rintro e w3 ⟨rfl, hb⟩; replace HO := Lib.hid (HO.out.below hb); replace HB := Lib.hid (HB.out.trans (hb.mono HB.out.size)); clear hb)
                    | (go_at_call 16; (with_reducible refine (cfb.out _ (H2.out.below (below_step HB0.out HB.out))).mono ?_); rintro e w3 ⟨rfl, hb⟩; replace HO := Lib.hid (HO.out.below hb); replace HB := Lib.hid (HB.out.trans (hb.mono HB.out.size)); clear hb))
                  go_roundw
                  case rel => exact ⟨k + 1, by go_num, by omega, HB.out, HO.out⟩
                  case measure => simp [intOf]; omega
              · have t6 : decide ((q : Int) < (j : Int)) = false := decide_eq_false (by omega)
                have t6' : decide (q < j) = false := decide_eq_false e1
                rw [if_neg (fun h => e1 h.1)] at hr
                have cr := Lib.hid (fun w => Read_own wb.heap.size w p D3 (k : Int) A 0 .nilIface hr hm rfl)
                clear hr hm e1 hlt
                go_wp2_with (first
                  | (go_at_call 15; (with_reducible refine (cr.out _ HO.out).mono ?_); rintro e w3 ⟨rfl, rfl⟩)
                  | (go_at_call 16; (with_reducible refine (cfa.out _ (H1.out.below (below_step HB0.out HB.out))).mono ?_); rintro e w3 ⟨rfl, hb⟩; replace HO := Lib.hid (HO.out.below hb); replace HB := Lib.hid (HB.out.trans (hb.mono HB.out.size)); clear hb)
                  | (go_at_call 16; (with_reducible refine (cfb.out _ (H2.out.below (below_step HB0.out HB.out))).mono ?_); rintro e w3 ⟨rfl, hb⟩; replace HO := Lib.hid (HO.out.below hb); replace HB := Lib.hid (HB.out.trans (hb.mono HB.out.size)); clear hb))
                go_roundw
                case rel => exact ⟨k + 1, by go_num, by omega, HB.out, HO.out⟩
                case measure => simp [intOf]; omega
            · obtain rfl : k = 8 := by omega
              go_wp2_with (go_at_call 12; (with_reducible refine (cl.out _ HO.out).mono ?_); rintro e w3 ⟨rfl, rfl⟩)
              go_ret
              exact ⟨rfl, below_step HB0.out HB.out⟩

theorem DiskFlushed_walk (v1 v2 v3 : Value) (torn : Int) (w : World)
    (h1 : ∃ (a : Option Addr) (cap : Nat) (l : List ByteArray), v1 = .slice a l.length cap ∧ StrsAt w a l)
    (h2 : ∃ (a : Option Addr) (cap : Nat) (l : List ByteArray), v2 = .slice a l.length cap ∧ StrsAt w a l)
    (h3 : ∃ (a : Option Addr) (cap : Nat) (l : List Bool), v3 = .slice a l.length cap ∧ BoolsAt w a l) :
    Calls Try.prog 4 #[v1, v2, v3, .int .i64 torn] w fun e w' => e = .returned (.bool true) ∧ Below w.heap.size w w' := by
  obtain ⟨a1, c1, l1, rfl, hs1⟩ := h1
  obtain ⟨a2, c2, l2, rfl, hs2⟩ := h2
  obtain ⟨a3, c3, l3, rfl, hs3⟩ := h3
  exact DiskFlushed_any a1 a2 a3 c1 c2 c3 l1 l2 l3 torn w hs1 hs2 hs3
end Go.Proofs.Ytfmgafpgajlddaa
