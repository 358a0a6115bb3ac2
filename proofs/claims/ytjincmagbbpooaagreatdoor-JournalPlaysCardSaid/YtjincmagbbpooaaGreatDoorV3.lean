import Derived.Test.YtjincmagbbpooaaGreatDoorM5
set_option linter.unusedVariables false
set_option linter.unusedSimpArgs false
namespace Go.Proofs.YtjincmagbbpooaaGreatDoor
open Go.RowKit

set_option maxHeartbeats 8000000 in
set_option maxRecDepth 100000 in
theorem rCrash_any (w : World) (F : Nat → Prop) (p : Nat) (D : DS) (a3 : Option Addr) (c3 : Nat) (kp : List Bool) (torn : Int) (hl3 : kp.length ≤ 1000000) (hbl : BoolsAt w a3 kp) (h : Ref w F p D) :
    Calls Tryz.prog 31 #[.pointer (some ⟨p, 0, none⟩), .slice a3 kp.length c3, .int .i64 torn] w fun e w' => e = .returned (.tuple #[]) ∧ RefPost F p w (D.crash (keepOf kp) torn) w' := by
  obtain ⟨sv, av, bv, hd, hf⟩ := h
  obtain ⟨c0, c1, c2, c3, c4, c5, fr⟩ := hd.cells
  have fr0 := fr 0
  have fr1 := fr 1
  have fr2 := fr 2
  have fr4 := fr 4
  have fr5 := fr 5
  have hone := hd.ok.one
  have hmost := hd.ok.most
  have hfew := hd.ok.few
  have hdone := hd.ok.done
  have hokk := hd.ok.crash (keepOf kp) torn
  obtain ⟨a0, k0, es⟩ := own_len hd.s
  obtain ⟨a1, k1, ea⟩ := own_len hd.a
  obtain ⟨a2, k2, eb⟩ := own_len hd.b
  obtain ⟨n, hn⟩ : ∃ n, n = D.loose.length := ⟨_, rfl⟩
  obtain ⟨N, hN⟩ : ∃ n, n = D.sure.length := ⟨_, rfl⟩
  obtain ⟨N3, hN3⟩ : ∃ n, n = kp.length := ⟨_, rfl⟩
  rw [← hN3]
  have zN3 : N3 ≤ 1000000 := by omega
  have HN3 := Lib.hid hN3
  have HBL := Lib.hid hbl
  have hrd : Reads w w.heap.size 1 a0 N (strC D.sure) := by
    have := hd.s
    rw [es, ← hN] at this
    exact Reads.of_own (own_base this)
  rw [← hN] at es
  rw [← hn] at ea eb
  obtain ⟨i0, hi, hz0, hz1, hz2⟩ := info_parts Tryz.infoS1
  have HI := Lib.hid hi
  have HZ0 := Lib.hid hz0
  have HZ1 := Lib.hid hz1
  have HZ2 := Lib.hid hz2
  have HR := Lib.hid hrd
  have HD := Lib.hid hd
  have HF := Lib.hid hf
  have HN := Lib.hid hn
  have HNN := Lib.hid hN
  have HES := Lib.hid es
  have HEA := Lib.hid ea
  have HEB := Lib.hid eb
  have HOKK := Lib.hid hokk
  have zn : n ≤ 1099511627776 := by omega
  have zN : N ≤ 2000 := by omega
  have zN1 : 1 ≤ N := by omega
  rw [es] at c0
  rw [ea] at c1
  rw [eb] at c2
  clear hd hf fr hn hN es ea eb hi hz0 hz1 hz2 hrd hone hmost hfew hdone hokk hN3 hbl hl3
  go_enter Tryz.func31, Tryz.ntmps31
  go_wp2_with (at_builtin; refine wpList_append_any _ rfl (.const (.slice none 0 0)) (.tmp 13) 26 rfl w.heap.size 9 i0 (.string ⟨#[]⟩) 1 16 Tryz.underlying26 HI.out HZ0.out HZ1.out HZ2.out rfl (by decide) (.slice none 0 0) 0 [] rfl (World.ownsRow_nil _ _ _ _) w.heap.size a0 N k0 (strC D.sure) rfl HR.out (one_strC _) (by unfold maxLen; omega) (by omega) (Nat.le_refl _) ?_; intro v1 w1 ho hg ha; have HO := Lib.hid ho; have HG := Lib.hid hg; clear ho hg ha)
  have ho := HO.out
  rw [Nat.zero_add, List.nil_append] at ho
  obtain ⟨g, cap, hv, hcap, hbg, hlt⟩ := own_form ho (by omega)
  subst hv
  have hb1 : Below w.heap.size w w1 := ⟨HG.out.os, HG.out.tape, HG.out.output, HG.out.size, fun k hk => HG.out.block k hk (fun e => by cases e)⟩
  replace HO := Lib.hid ho
  replace HB := Lib.hid hb1
  have HBG := Lib.hid hbg
  clear ho hb1 HG hlt hcap
  clear c0 c1 c2 c3 c4 c5 fr0 fr1 fr2 fr4 fr5
  go_loopw [7] (fun v7 wr => ∃ i : Nat, v7 = .int .i64 (i : Int) ∧ i ≤ n ∧ Hid (Below w.heap.size w wr) ∧ Hid (wr.ownsRow w.heap.size 9 1 (.slice (some ⟨g, 0, none⟩) N cap) N (strC (keepN (keepOf kp) torn D.loose D.sure i)))) (fun v7 _ => n - (intOf v7).toNat)
  case atStart => exact ⟨0, rfl, Nat.zero_le _, HB, HO⟩
  case round =>
    clear HB HO
    obtain ⟨i, rfl, hi, HB, HO⟩ := hrel
    have HDR := Lib.hid (HD.out.below HB.out)
    have c1 := HDR.out.cells.2.1
    have c2 := HDR.out.cells.2.2.1
    rw [HEA.out] at c1
    rw [HEB.out] at c2
    have hpw := HD.out.own.lt
    by_cases hlt : i < n
    · have hlt' : i < D.loose.length := by rw [← HN.out]; exact hlt
      obtain ⟨x, hx⟩ : ∃ x, D.loose[i]? = some x := ⟨_, List.getElem?_eq_getElem hlt'⟩
      obtain ⟨g1, p1, e1, -, l1, q1, -⟩ := own_cell HDR.out.a (show 0 < D.loose.length by omega)
      obtain ⟨g2, p2, e2, -, l2, q2, -⟩ := own_cell HDR.out.b (show 0 < D.loose.length by omega)
      rw [HEA.out, ← HN.out] at e1
      rw [HEB.out, ← HN.out] at e2
      injection e1 with e1 _ e1'
      injection e2 with e2 _ e2'
      subst e1 e2 e1' e2'
      have ca := q1 i (.int .i64 (x.1 : Int)) (by unfold atsC; rw [List.getElem?_map, hx]; rfl)
      have cb := q2 i (.string x.2) (by unfold bsC; rw [List.getElem?_map, hx]; rfl)
      have hxl := HD.out.ok.lies x (List.mem_of_getElem? hx)
      have hst := keepN_succ (keep := keepOf kp) (torn := torn) (l := D.loose) (s := D.sure) hx
      unfold keepStep at hst
      obtain ⟨g', cap', e3, -, l3, q3, f3⟩ := own_cell (own_base HO.out) (by omega)
      injection e3 with e3 _ e3c
      subst e3c
      injection e3 with e3
      injection e3 with e3
      subst e3
      obtain ⟨S, hS⟩ : ∃ S, S = keepN (keepOf kp) torn D.loose D.sure i := ⟨_, rfl⟩
      have hSl : S.length = N := by rw [hS, keepN_len, HNN.out]
      rw [← hS] at q3 hst
      obtain ⟨k, hk⟩ : ∃ k, k = x.1 := ⟨_, rfl⟩
      obtain ⟨b, hb⟩ : ∃ b, b = x.2 := ⟨_, rfl⟩
      rw [← hk] at ca hst hxl
      rw [← hb] at cb hst
      have hkN : k < N := by rw [HNN.out]; exact hxl.1
      have cs := q3 k (.string (S.getD k ⟨#[]⟩)) (by unfold strC; rw [List.getElem?_map, List.getElem?_eq_getElem (by omega), List.getD_eq_getElem?_getD, List.getElem?_eq_getElem (by omega)]; rfl)
      have fs := f3 k
      have hs64 : (S.getD k ⟨#[]⟩).size = 64 := by
        have := (keepN_ok (keep := keepOf kp) (torn := torn) HD.out.ok.lies HD.out.ok.size i (by omega)).2
        rw [← hS] at this
        refine this _ (List.mem_of_getElem? (i := k) ?_)
        rw [List.getD_eq_getElem?_getD, List.getElem?_eq_getElem (by omega)]; rfl
      obtain ⟨s1, hs1⟩ : ∃ s1, s1 = S.getD k ⟨#[]⟩ := ⟨_, rfl⟩
      rw [← hs1] at cs hst hs64
      have hb64 : b.size = 64 := by rw [hb]; exact hxl.2
      have z3 : (b.extract 0 32).size + (s1.extract 32 s1.size).size ≤ 9223372036854775807 := by rw [ByteArray.size_extract, ByteArray.size_extract]; omega
      have z3' : ¬ 9223372036854775807 < (b.extract 0 32).size + (s1.extract 32 s1.size).size := by omega
      have z4 : (32 : Int) ≤ (s1.size : Int) := by omega
      have z5 : (32 : Int) ≤ (b.size : Int) := by omega
      have b0 : (0 : Int) ≤ (i : Int) := by omega
      have b1 : (i : Int) < (n : Int) := by omega
      have b2 : (0 : Int) ≤ (k : Int) := by omega
      have b3 : (k : Int) < (N : Int) := by omega
      have HS := Lib.hid hS
      clear hlt' hx hS hSl hk hb hxl q1 q2 q3 f3 hkN l1 l2 l3 hs1 hs64 hb64
      by_cases hk3 : i < N3
      · have t1 : decide ((N3 : Int) ≤ (i : Int)) = false := decide_eq_false (by omega)
        have t1' : decide (N3 ≤ i) = false := decide_eq_false (by omega)
        have b4 : (i : Int) < (N3 : Int) := by omega
        obtain ⟨x3, hx3⟩ : ∃ x3, kp[i]? = some x3 := ⟨_, List.getElem?_eq_getElem (by rw [← HN3.out]; exact hk3)⟩
        obtain ⟨kb, ko, rfl, hkc⟩ := HBL.out i x3 hx3
        have hkq : keepOf kp i = x3 := by unfold keepOf; rw [List.getD_eq_getElem?_getD, hx3]; rfl
        have c6 := cell_keep HB.out hkc
        rw [hkq] at hst
        clear hkc hx3 hkq
        cases x3
        · rw [if_neg (by decide)] at hst
          have HST := Lib.hid hst
          clear hst hk3
          go_wp2
          go_roundw
          case rel =>
            refine ⟨i + 1, by go_num, by omega, HB.out, ?_⟩
            rw [HST.out, HS.out]
            exact HO.out
          case measure => simp [intOf]; omega
        · rw [if_pos rfl] at hst
          by_cases ht : (i : Int) = torn
          · rw [if_pos ht] at hst
            have t2 : ((i : Int) == torn) = true := by rw [ht, beq_self_eq_true]
            have HST := Lib.hid hst
            clear hst hk3 ht
            go_wp2
            go_quiet (fail)
            go_wp2
            go_roundw
            case rel =>
              refine ⟨i + 1, by go_num, by omega, ?_, ?_⟩
              · exact (HB.out.setCell (p := ⟨g, k, none⟩) HBG.out _).trans (below_drewN _ _)
              · have := own_set (k := k) HO.out (.string (b.extract 0 32 ++ s1.extract 32 s1.size))
                rw [HST.out]
                rw [← HS.out] at this
                unfold strC at this ⊢
                rw [List.map_set]
                exact this
            case measure => simp [intOf]; omega
          · rw [if_neg ht] at hst
            have t2 : ((i : Int) == torn) = false := by rw [beq_eq_false_iff_ne]; exact ht
            have HST := Lib.hid hst
            clear hst hk3 ht
            go_wp2
            go_roundw
            case rel =>
              refine ⟨i + 1, by go_num, by omega, ?_, ?_⟩
              · exact HB.out.setCell (p := ⟨g, k, none⟩) HBG.out _
              · have := own_set (k := k) HO.out (.string b)
                rw [HST.out]
                rw [← HS.out] at this
                unfold strC at this ⊢
                rw [List.map_set]
                exact this
            case measure => simp [intOf]; omega
      · have t1 : decide ((N3 : Int) ≤ (i : Int)) = true := decide_eq_true (by omega)
        have t1' : decide (N3 ≤ i) = true := decide_eq_true (by omega)
        have hkq : keepOf kp i = false := by unfold keepOf; rw [List.getD_eq_getElem?_getD, List.getElem?_eq_none (by rw [← HN3.out]; omega)]; rfl
        rw [hkq, if_neg (by decide)] at hst
        have HST := Lib.hid hst
        clear hst hk3 hkq
        go_wp2
        go_roundw
        case rel =>
          refine ⟨i + 1, by go_num, by omega, HB.out, ?_⟩
          rw [HST.out, HS.out]
          exact HO.out
        case measure => simp [intOf]; omega
    · obtain rfl : i = n := by omega
      have c0 := HDR.out.cells.1
      have fr0 := HDR.out.cells.2.2.2.2.2.2 0
      have fr1 := HDR.out.cells.2.2.2.2.2.2 1
      have fr2 := HDR.out.cells.2.2.2.2.2.2 2
      have fr4 := HDR.out.cells.2.2.2.2.2.2 4
      have fr5 := HDR.out.cells.2.2.2.2.2.2 5
      have c4 := HDR.out.cells.2.2.2.2.1
      have c5 := HDR.out.cells.2.2.2.2.2.1
      go_wp2
      go_end0
      have hlen : (keepN (keepOf kp) torn D.loose D.sure D.loose.length).length = N := by rw [keepN_len, HNN.out]
      have hne : ∀ q, (Value.slice (some ⟨g, 0, none⟩) N cap).ownBlock = some q → q ≠ p := fun q hq => by
        have : g = q := by simpa [Value.ownBlock] using hq
        subst this
        have := HBG.out
        omega
      refine ⟨rfl, ?_, .slice (some ⟨g, 0, none⟩) N cap, .slice none 0 0, .slice none 0 0, ⟨?_, ?_, World.ownsRow_nil _ _ _ _, World.ownsRow_nil _ _ _ _, HOKK.out⟩, ?_⟩
      · exact (((((Save.of_below HB.out).setCell (.inl HF.out.1) _).setCell (.inl HF.out.1) _).setCell (.inl HF.out.1) _).setCell (.inl HF.out.1) _).setCell (.inl HF.out.1) _
      · exact ((((HDR.out.own.set_ 0 _).set_ 1 _).set_ 2 _).set_ 5 _).set_ 4 _
      · show World.ownsRow _ 0 9 1 _ (keepN (keepOf kp) torn D.loose D.sure D.loose.length).length (strC (keepN (keepOf kp) torn D.loose D.sure D.loose.length))
        rw [hlen, ← HN.out]
        exact own_base (own_same (own_same (own_same (own_same (own_same HO.out fun q hq => Below.heap_setCell _ _ _ _ (hne q hq)) fun q hq => Below.heap_setCell _ _ _ _ (hne q hq)) fun q hq => Below.heap_setCell _ _ _ _ (hne q hq)) fun q hq => Below.heap_setCell _ _ _ _ (hne q hq)) fun q hq => Below.heap_setCell _ _ _ _ (hne q hq))
      · refine ⟨.inl HF.out.1, fun k hk => ?_, (fun k hk => by cases hk), (fun k hk => by cases hk)⟩
        have : g = k := by simpa [Value.ownBlock] using hk
        subst this
        refine .inr ⟨HBG.out, ?_⟩
        have := (HO.out.lt g rfl).2
        simpa [World.setCell] using this
end Go.Proofs.YtjincmagbbpooaaGreatDoor
