import Derived.Test.YtghebjgkdfbmeaaGreatDoorCB
import Derived.Test.YtghebjgkdfbmeaaGreatDoorS2
set_option linter.unusedVariables false
set_option linter.unusedSimpArgs false
namespace Go.Proofs.YtghebjgkdfbmeaaGreatDoor
open Go.RowKit

/-! ### the document's bytes of a term -/
theorem rNum_i (z : Int) (h : z ≤ 1000000) (w : World) : Calls Tryz.prog 38 #[.int .i64 z] w fun e w' => e = .returned (.string (numI z)) ∧ Below w.heap.size w w' := by
  have h1 : mxI z 0 ≤ 1000000 ∧ 0 ≤ mxI z 0 := by unfold mxI; split <;> omega
  have h2 : mxI 0 z = mxI z 0 := by unfold mxI; split <;> split <;> omega
  exact rNum_any z (mxI z 0).toNat (by rw [h2]; omega) (by omega) w

set_option maxHeartbeats 16000000 in
set_option maxRecDepth 100000 in
theorem rbytes_any : ∀ (t : Tm) (p : Option Addr) (B : Nat) (w : World), PIn B w t p → okB t → sizeT t ≤ 1000000 →
    Calls Tryz.prog 23 #[.pointer p] w (fun e w' => e = .returned (.string (bytesT t)) ∧ Below w.heap.size w w')
  | .nil, p, B, w, hp, _, _ => by
    obtain rfl : p = none := hp
    go_enter Tryz.func23, Tryz.ntmps23
    go_wp2
    go_ret
    exact ⟨rfl, Below.refl _ _⟩
  | .node k n s a b c, p, B, w, hp, hok, hsz => by
    obtain ⟨g, pa, pb, pc, rfl, -, hb, h1, h2, h3⟩ := hp
    obtain ⟨hk, hn, hs, ha, hb', hc⟩ := hok
    unfold sizeT at hsz
    have ca := Lib.hid (fun W (hW : Below w.heap.size w W) => rbytes_any a pa B W (h1.below hW) ha (by omega))
    have cb := Lib.hid (fun W (hW : Below w.heap.size w W) => rbytes_any b pb B W (h2.below hW) hb' (by omega))
    have cc := Lib.hid (fun W (hW : Below w.heap.size w W) => rbytes_any c pc B W (h3.below hW) hc (by omega))
    have z0 := headB_size k n s hk hn hs
    have z1 := bytesT_size a ha
    have z2 := bytesT_size b hb'
    have z3 := bytesT_size c hc
    have he : bytesT (.node k n s a b c) = headB k n s ++ bytesT a ++ bytesT b ++ bytesT c := rfl
    generalize hb0 : headB k n s = b0 at he z0
    generalize bytesT a = b1 at he ca z1
    generalize bytesT b = b2 at he cb z2
    generalize bytesT c = b3 at he cc z3
    have HE := Lib.hid he
    have HB0 := Lib.hid hb0
    have s1 : b0.size + b1.size ≤ 9223372036854775807 := by omega
    have s2 : (b0 ++ b1).size + b2.size ≤ 9223372036854775807 := by rw [ByteArray.size_append]; omega
    have s3 : (b0 ++ b1 ++ b2).size + b3.size ≤ 9223372036854775807 := by simp only [ByteArray.size_append]; omega
    have n1 : ¬ 9223372036854775807 < b0.size + b1.size := by omega
    have n2 : ¬ 9223372036854775807 < (b0 ++ b1).size + b2.size := by omega
    have n2' : ¬ 9223372036854775807 < b0.size + b1.size + b2.size := by omega
    have n3 : ¬ 9223372036854775807 < (b0 ++ b1 ++ b2).size + b3.size := by omega
    have n3' : ¬ 9223372036854775807 < b0.size + b1.size + b2.size + b3.size := by omega
    have cn := Lib.hid (fun z h W => rNum_i z h W)
    have ct := Lib.hid (fun W => rText_any s (by omega) W)
    have hk1 : k ≤ 1000000 := by omega
    have zk := numI_size k hk1
    have zn := numI_size n hn
    have zt : (textS s).size ≤ 103 := by
      unfold textS
      rw [ByteArray.size_append, strN_size]
      have := numB_lenN s.size (by omega)
      omega
    have x0 := hb.cell 0
    simp [tmCells] at x0
    have HBk := Lib.hid hb
    clear he hb0 h1 h2 h3 ha hb' hc hb hk hs hsz z0 z1 z2 z3
    go_enter Tryz.func23, Tryz.ntmps23
    go_upto_region 4 with (go_at_call 38; (with_reducible refine (cn.out k hk1 _).mono ?_); rintro e w2 ⟨rfl, hb⟩; have HB2 := Lib.hid hb; clear hb)
    have hB2 := HBk.out.below HB2.out
    have y0 := hB2.cell 0
    have y1 := hB2.cell 1
    have y2 := hB2.cell 2
    simp [tmCells] at y0 y1 y2
    have HK2 := Lib.hid hB2
    clear hB2 x0
    go_upto_block 0 with fail
    go_cut [3] from 15 to 39 (fun v3 wx => v3 = .string b0 ∧ Hid (Below w2.heap.size w2 wx))
    case first =>
      by_cases k3 : k = 3
      · subst k3
        have hh : b0 = numI 3 ++ textS s ++ numI n := by rw [← HB0.out]; unfold headB; rw [if_pos rfl]
        have HH := Lib.hid hh
        have e1 : (numI 3).size + (textS s).size ≤ 9223372036854775807 := by omega
        have e2 : (numI 3 ++ textS s).size + (numI n).size ≤ 9223372036854775807 := by rw [ByteArray.size_append]; omega
        have n4 : ¬ 9223372036854775807 < (numI 3).size + (textS s).size := by omega
        have n5 : ¬ 9223372036854775807 < (numI 3 ++ textS s).size + (numI n).size := by omega
        have n5' : ¬ 9223372036854775807 < (numI 3).size + (textS s).size + (numI n).size := by rw [ByteArray.size_append] at e2; omega
        clear hh
        go_upto_region 6 with fail
        have HX : Hid (Blk w2.drew g 46 (tmCells 3 n s pa pb pc)) := (show Blk w2 g _ _ from HK2.out)
        have HC : Hid (Below w2.heap.size w2 w2.drew) := (Below.refl _ _).drew
        clear y0 y1 y2
        refine wp_region_fam (S := (oS g n s)) (ds := (fun _ => [])) (by kernel_rfl) ?_
        refine wpFam_take (i := 0) 0 (some 17) (v := ?_) rfl (by kernel_rfl) (by kernel_rfl) (by kernel_rfl) (by kernel_rfl) (by kernel_rfl) (fun _ _ _ h => h) rfl (Or.inl ⟨by rfl, ?_⟩) (by exact trivial) ?_
        rotate_left
        · (intro w hSw; (try simp only [oS] at hSw); go_simp); (try with_reducible rfl)
        try simp only [Act.put, List.setIfInBounds_toArray, List.set_cons_zero, List.set_cons_succ]
        refine wpFam_take (i := 1) 0 (some 18) (v := ?_) rfl (by kernel_rfl) (by kernel_rfl) (by kernel_rfl) (by kernel_rfl) (by kernel_rfl) (fun _ _ _ h => h) rfl (Or.inl ⟨by rfl, ?_⟩) (by exact trivial) ?_
        rotate_left
        · (intro w hSw; (try simp only [oS] at hSw); go_simp); (try with_reducible rfl)
        try simp only [Act.put, List.setIfInBounds_toArray, List.set_cons_zero, List.set_cons_succ]
        refine wpFam_take (i := 2) 0 (some 19) (v := ?_) rfl (by kernel_rfl) (by kernel_rfl) (by kernel_rfl) (by kernel_rfl) (by kernel_rfl) (fun _ _ _ h => h) rfl (Or.inl ⟨by rfl, ?_⟩) (by exact trivial) ?_
        rotate_left
        · (intro w hSw; (try simp only [oS] at hSw); go_simp); (try with_reducible rfl)
        try simp only [Act.put, List.setIfInBounds_toArray, List.set_cons_zero, List.set_cons_succ]
        refine wpFam_take (i := 3) 0 (some 20) (v := ?_) rfl (by kernel_rfl) (by kernel_rfl) (by kernel_rfl) (by kernel_rfl) (by kernel_rfl) (fun _ _ _ h => h) rfl (Or.inl ⟨by rfl, ?_⟩) (by exact trivial) ?_
        rotate_left
        · (intro w hSw; (try simp only [oS] at hSw); go_simp); (try with_reducible rfl)
        try simp only [Act.put, List.setIfInBounds_toArray, List.set_cons_zero, List.set_cons_succ]
        refine wpFam_take (i := 4) 2 (some 21) (v := ?_) rfl (by kernel_rfl) (by kernel_rfl) (by kernel_rfl) (by kernel_rfl) (by kernel_rfl) (fun _ _ _ h => h) rfl (Or.inl ⟨by rfl, ?_⟩) (by exact oS_of HX.out 2) ?_
        rotate_left
        · (intro w hSw; (try simp only [oS] at hSw); go_simp); (try with_reducible rfl)
        try simp only [Act.put, List.setIfInBounds_toArray, List.set_cons_zero, List.set_cons_succ]
        refine wpFam_take (i := 7) 0 (some 24) (v := ?_) rfl (by kernel_rfl) (by kernel_rfl) (by kernel_rfl) (by kernel_rfl) (by kernel_rfl) (fun _ _ _ h => h) rfl (Or.inl ⟨by rfl, ?_⟩) (by exact trivial) ?_
        rotate_left
        · (intro w hSw; (try simp only [oS] at hSw); go_simp); (try with_reducible rfl)
        try simp only [Act.put, List.setIfInBounds_toArray, List.set_cons_zero, List.set_cons_succ]
        refine wpFam_take (i := 8) 0 (some 25) (v := ?_) rfl (by kernel_rfl) (by kernel_rfl) (by kernel_rfl) (by kernel_rfl) (by kernel_rfl) (fun _ _ _ h => h) rfl (Or.inl ⟨by rfl, ?_⟩) (by exact trivial) ?_
        rotate_left
        · (intro w hSw; (try simp only [oS] at hSw); go_simp); (try with_reducible rfl)
        try simp only [Act.put, List.setIfInBounds_toArray, List.set_cons_zero, List.set_cons_succ]
        refine wpFam_take (i := 9) 0 (some 26) (v := ?_) rfl (by kernel_rfl) (by kernel_rfl) (by kernel_rfl) (by kernel_rfl) (by kernel_rfl) (fun _ _ _ h => h) rfl (Or.inl ⟨by rfl, ?_⟩) (by exact trivial) ?_
        rotate_left
        · (intro w hSw; (try simp only [oS] at hSw); go_simp); (try with_reducible rfl)
        try simp only [Act.put, List.setIfInBounds_toArray, List.set_cons_zero, List.set_cons_succ]
        refine wpFam_take (i := 10) 1 (some 27) (v := ?_) rfl (by kernel_rfl) (by kernel_rfl) (by kernel_rfl) (by kernel_rfl) (by kernel_rfl) (fun _ _ _ h => h) rfl (Or.inl ⟨by rfl, ?_⟩) (by exact oS_of HX.out 1) ?_
        rotate_left
        · (intro w hSw; (try simp only [oS] at hSw); go_simp); (try with_reducible rfl)
        try simp only [Act.put, List.setIfInBounds_toArray, List.set_cons_zero, List.set_cons_succ]
        refine wpFam_ready (rs := [5]) (by kernel_rfl) (by simp) ?_
        refine AllReadyF.cons (i := 5) rfl (fun K hK => ?_) ?_
        ·
          refine step_callG Tryz.func39 (by kernel_rfl) rfl #[.string s] (by rfl) rfl (by first | rfl | (simp [Act.eval, Act.put]; done)) ?_
          refine (ct.out _).mono ?_
          rintro e w9 ⟨rfl, hb⟩
          replace HX := Lib.hid (HX.out.below hb)
          replace HC := Lib.hid (HC.out.trans (hb.mono HC.out.size))
          clear hb
          refine ⟨_, rfl, ?_⟩
          try change K (Act.put _ (some 22) _) _
          refine hK.out _ _ ?_ ?_
          · ((intro q _ _; exact oS_of HX.out q))
          clear hK K
          try simp only [Act.put, List.setIfInBounds_toArray, List.set_cons_zero, List.set_cons_succ]
          refine wpFam_take (i := 6) 0 (some 23) (v := ?_) rfl (by kernel_rfl) (by kernel_rfl) (by kernel_rfl) (by kernel_rfl) (by kernel_rfl) (fun _ _ _ h => h) rfl (Or.inl ⟨by rfl, ?_⟩) (by exact trivial) ?_
          rotate_left
          · (intro w hSw; (try simp only [oS] at hSw); go_simp); (try with_reducible rfl)
          try simp only [Act.put, List.setIfInBounds_toArray, List.set_cons_zero, List.set_cons_succ]
          refine wpFam_ready (rs := [11]) (by kernel_rfl) (by simp) ?_
          refine AllReadyF.cons (i := 11) rfl (fun K hK => ?_) ?_
          ·
            refine step_callG Tryz.func38 (by kernel_rfl) rfl #[.int .i64 n] (by rfl) rfl (by first | rfl | (simp [Act.eval, Act.put]; done)) ?_
            refine (cn.out n hn _).mono ?_
            rintro e w9 ⟨rfl, hb⟩
            replace HX := Lib.hid (HX.out.below hb)
            replace HC := Lib.hid (HC.out.trans (hb.mono HC.out.size))
            clear hb
            refine ⟨_, rfl, ?_⟩
            try change K (Act.put _ (some 28) _) _
            refine hK.out _ _ ?_ ?_
            · ((intro q _ _; exact oS_of HX.out q))
            clear hK K
            try simp only [Act.put, List.setIfInBounds_toArray, List.set_cons_zero, List.set_cons_succ]
            refine wpFam_take (i := 12) 0 (some 29) (v := ?_) rfl (by kernel_rfl) (by kernel_rfl) (by kernel_rfl) (by kernel_rfl) (by kernel_rfl) (fun _ _ _ h => h) rfl (Or.inl ⟨by rfl, ?_⟩) (by exact trivial) ?_
            rotate_left
            · (intro w hSw; (try simp only [oS] at hSw); go_simp); (try with_reducible rfl)
            try simp only [Act.put, List.setIfInBounds_toArray, List.set_cons_zero, List.set_cons_succ]
            refine wpFam_take (i := 13) 0 (some 3) (v := ?_) rfl (by kernel_rfl) (by kernel_rfl) (by kernel_rfl) (by kernel_rfl) (by kernel_rfl) (fun _ _ _ h => h) rfl (Or.inl ⟨by rfl, ?_⟩) (by exact trivial) ?_
            rotate_left
            · (intro w hSw; (try simp only [oS] at hSw); go_simp); (try with_reducible rfl)
            try simp only [Act.put, List.setIfInBounds_toArray, List.set_cons_zero, List.set_cons_succ]
            refine wpFam_done (by kernel_rfl) ?_ _
            go_wp2
            go_meet
            exact ⟨by rw [HH.out], HC.out⟩
          exact AllReadyF.nil
        exact AllReadyF.nil
      have k3' : (k == 3) = false := beq_eq_false_iff_ne.2 k3
      by_cases k12 : k = 1 ∨ k = 2
      · have hh : b0 = numI k ++ numI n := by rw [← HB0.out]; unfold headB; rw [if_neg k3, if_pos k12]
        have HH := Lib.hid hh
        have e1 : (numI k).size + (numI n).size ≤ 9223372036854775807 := by omega
        clear hh k3
        rcases k12 with rfl | rfl
        all_goals
          go_wp2_with (go_at_call 38; (with_reducible refine (cn.out n hn _).mono ?_); rintro e w4 ⟨rfl, hb⟩; have HB4 := Lib.hid hb; clear hb)
          go_meet
          exact ⟨by rw [HH.out], HB4.out⟩
      · have hh : b0 = numI k := by rw [← HB0.out]; unfold headB; rw [if_neg k3, if_neg k12]
        have HH := Lib.hid hh
        have k1' : (k == 1) = false := beq_eq_false_iff_ne.2 (fun e => k12 (.inl e))
        have k2' : (k == 2) = false := beq_eq_false_iff_ne.2 (fun e => k12 (.inr e))
        clear hh k3 k12
        go_wp2
        go_meet
        exact ⟨by rw [HH.out], Below.refl _ _⟩
    case rest =>
      obtain ⟨rfl, hb⟩ := hcut
      obtain ⟨w3, hw3⟩ : ∃ w3, w3 = wc := ⟨_, rfl⟩
      subst hw3
      have HX : Hid (Blk w3.drew g 46 (tmCells k n s pa pb pc)) := (show Blk w3 g _ _ from HK2.out.below hb.out)
      have HB3 : Hid (Below w.heap.size w w) := Below.refl _ _
      have HC : Hid (Below w.heap.size w w3.drew) := (below_step' HB2.out hb.out).drew
      clear y0 y1 y2 HK2 hb HBk
      go_upto_region 10 with fail
      refine wp_region_fam (S := (qS g pa pb pc)) (ds := (fun _ => [])) (by kernel_rfl) ?_
      refine wpFam_take (i := 0) 0 (some 40) (v := ?_) rfl (by kernel_rfl) (by kernel_rfl) (by kernel_rfl) (by kernel_rfl) (by kernel_rfl) (fun _ _ _ h => h) rfl (Or.inl ⟨by rfl, ?_⟩) (by exact trivial) ?_
      rotate_left
      · (intro w hSw; (try simp only [qS] at hSw); go_simp); (try with_reducible rfl)
      try simp only [Act.put, List.setIfInBounds_toArray, List.set_cons_zero, List.set_cons_succ]
      refine wpFam_take (i := 1) 0 (some 41) (v := ?_) rfl (by kernel_rfl) (by kernel_rfl) (by kernel_rfl) (by kernel_rfl) (by kernel_rfl) (fun _ _ _ h => h) rfl (Or.inl ⟨by rfl, ?_⟩) (by exact trivial) ?_
      rotate_left
      · (intro w hSw; (try simp only [qS] at hSw); go_simp); (try with_reducible rfl)
      try simp only [Act.put, List.setIfInBounds_toArray, List.set_cons_zero, List.set_cons_succ]
      refine wpFam_take (i := 2) 0 (some 42) (v := ?_) rfl (by kernel_rfl) (by kernel_rfl) (by kernel_rfl) (by kernel_rfl) (by kernel_rfl) (fun _ _ _ h => h) rfl (Or.inl ⟨by rfl, ?_⟩) (by exact trivial) ?_
      rotate_left
      · (intro w hSw; (try simp only [qS] at hSw); go_simp); (try with_reducible rfl)
      try simp only [Act.put, List.setIfInBounds_toArray, List.set_cons_zero, List.set_cons_succ]
      refine wpFam_take (i := 3) 0 (some 43) (v := ?_) rfl (by kernel_rfl) (by kernel_rfl) (by kernel_rfl) (by kernel_rfl) (by kernel_rfl) (fun _ _ _ h => h) rfl (Or.inl ⟨by rfl, ?_⟩) (by exact trivial) ?_
      rotate_left
      · (intro w hSw; (try simp only [qS] at hSw); go_simp); (try with_reducible rfl)
      try simp only [Act.put, List.setIfInBounds_toArray, List.set_cons_zero, List.set_cons_succ]
      refine wpFam_take (i := 4) 3 (some 44) (v := ?_) rfl (by kernel_rfl) (by kernel_rfl) (by kernel_rfl) (by kernel_rfl) (by kernel_rfl) (fun _ _ _ h => h) rfl (Or.inl ⟨by rfl, ?_⟩) (by exact qS_of HX.out 3) ?_
      rotate_left
      · (intro w hSw; (try simp only [qS] at hSw); go_simp); (try with_reducible rfl)
      try simp only [Act.put, List.setIfInBounds_toArray, List.set_cons_zero, List.set_cons_succ]
      refine wpFam_take (i := 7) 0 (some 47) (v := ?_) rfl (by kernel_rfl) (by kernel_rfl) (by kernel_rfl) (by kernel_rfl) (by kernel_rfl) (fun _ _ _ h => h) rfl (Or.inl ⟨by rfl, ?_⟩) (by exact trivial) ?_
      rotate_left
      · (intro w hSw; (try simp only [qS] at hSw); go_simp); (try with_reducible rfl)
      try simp only [Act.put, List.setIfInBounds_toArray, List.set_cons_zero, List.set_cons_succ]
      refine wpFam_take (i := 8) 0 (some 48) (v := ?_) rfl (by kernel_rfl) (by kernel_rfl) (by kernel_rfl) (by kernel_rfl) (by kernel_rfl) (fun _ _ _ h => h) rfl (Or.inl ⟨by rfl, ?_⟩) (by exact trivial) ?_
      rotate_left
      · (intro w hSw; (try simp only [qS] at hSw); go_simp); (try with_reducible rfl)
      try simp only [Act.put, List.setIfInBounds_toArray, List.set_cons_zero, List.set_cons_succ]
      refine wpFam_take (i := 9) 0 (some 49) (v := ?_) rfl (by kernel_rfl) (by kernel_rfl) (by kernel_rfl) (by kernel_rfl) (by kernel_rfl) (fun _ _ _ h => h) rfl (Or.inl ⟨by rfl, ?_⟩) (by exact trivial) ?_
      rotate_left
      · (intro w hSw; (try simp only [qS] at hSw); go_simp); (try with_reducible rfl)
      try simp only [Act.put, List.setIfInBounds_toArray, List.set_cons_zero, List.set_cons_succ]
      refine wpFam_take (i := 10) 4 (some 50) (v := ?_) rfl (by kernel_rfl) (by kernel_rfl) (by kernel_rfl) (by kernel_rfl) (by kernel_rfl) (fun _ _ _ h => h) rfl (Or.inl ⟨by rfl, ?_⟩) (by exact qS_of HX.out 4) ?_
      rotate_left
      · (intro w hSw; (try simp only [qS] at hSw); go_simp); (try with_reducible rfl)
      try simp only [Act.put, List.setIfInBounds_toArray, List.set_cons_zero, List.set_cons_succ]
      refine wpFam_take (i := 13) 0 (some 53) (v := ?_) rfl (by kernel_rfl) (by kernel_rfl) (by kernel_rfl) (by kernel_rfl) (by kernel_rfl) (fun _ _ _ h => h) rfl (Or.inl ⟨by rfl, ?_⟩) (by exact trivial) ?_
      rotate_left
      · (intro w hSw; (try simp only [qS] at hSw); go_simp); (try with_reducible rfl)
      try simp only [Act.put, List.setIfInBounds_toArray, List.set_cons_zero, List.set_cons_succ]
      refine wpFam_take (i := 14) 0 (some 54) (v := ?_) rfl (by kernel_rfl) (by kernel_rfl) (by kernel_rfl) (by kernel_rfl) (by kernel_rfl) (fun _ _ _ h => h) rfl (Or.inl ⟨by rfl, ?_⟩) (by exact trivial) ?_
      rotate_left
      · (intro w hSw; (try simp only [qS] at hSw); go_simp); (try with_reducible rfl)
      try simp only [Act.put, List.setIfInBounds_toArray, List.set_cons_zero, List.set_cons_succ]
      refine wpFam_take (i := 15) 0 (some 55) (v := ?_) rfl (by kernel_rfl) (by kernel_rfl) (by kernel_rfl) (by kernel_rfl) (by kernel_rfl) (fun _ _ _ h => h) rfl (Or.inl ⟨by rfl, ?_⟩) (by exact trivial) ?_
      rotate_left
      · (intro w hSw; (try simp only [qS] at hSw); go_simp); (try with_reducible rfl)
      try simp only [Act.put, List.setIfInBounds_toArray, List.set_cons_zero, List.set_cons_succ]
      refine wpFam_take (i := 16) 5 (some 56) (v := ?_) rfl (by kernel_rfl) (by kernel_rfl) (by kernel_rfl) (by kernel_rfl) (by kernel_rfl) (fun _ _ _ h => h) rfl (Or.inl ⟨by rfl, ?_⟩) (by exact qS_of HX.out 5) ?_
      rotate_left
      · (intro w hSw; (try simp only [qS] at hSw); go_simp); (try with_reducible rfl)
      try simp only [Act.put, List.setIfInBounds_toArray, List.set_cons_zero, List.set_cons_succ]
      refine wpFam_ready (rs := [5]) (by kernel_rfl) (by simp) ?_
      refine AllReadyF.cons (i := 5) rfl (fun K hK => ?_) ?_
      ·
        refine step_callG Tryz.func23 (by kernel_rfl) rfl #[.pointer pa] (by rfl) rfl (by first | rfl | (simp [Act.eval, Act.put]; done)) ?_
        refine (ca.out _ HC.out).mono ?_
        rintro e w9 ⟨rfl, hb⟩
        replace HX := Lib.hid (HX.out.below hb)
        replace HC := Lib.hid (HC.out.trans (hb.mono HC.out.size))
        clear hb
        refine ⟨_, rfl, ?_⟩
        try change K (Act.put _ (some 45) _) _
        refine hK.out _ _ ?_ ?_
        · ((intro q _ _; exact qS_of HX.out q))
        clear hK K
        try simp only [Act.put, List.setIfInBounds_toArray, List.set_cons_zero, List.set_cons_succ]
        refine wpFam_take (i := 6) 0 (some 46) (v := ?_) rfl (by kernel_rfl) (by kernel_rfl) (by kernel_rfl) (by kernel_rfl) (by kernel_rfl) (fun _ _ _ h => h) rfl (Or.inl ⟨by rfl, ?_⟩) (by exact trivial) ?_
        rotate_left
        · (intro w hSw; (try simp only [qS] at hSw); go_simp); (try with_reducible rfl)
        try simp only [Act.put, List.setIfInBounds_toArray, List.set_cons_zero, List.set_cons_succ]
        refine wpFam_ready (rs := [11]) (by kernel_rfl) (by simp) ?_
        refine AllReadyF.cons (i := 11) rfl (fun K hK => ?_) ?_
        ·
          refine step_callG Tryz.func23 (by kernel_rfl) rfl #[.pointer pb] (by rfl) rfl (by first | rfl | (simp [Act.eval, Act.put]; done)) ?_
          refine (cb.out _ HC.out).mono ?_
          rintro e w9 ⟨rfl, hb⟩
          replace HX := Lib.hid (HX.out.below hb)
          replace HC := Lib.hid (HC.out.trans (hb.mono HC.out.size))
          clear hb
          refine ⟨_, rfl, ?_⟩
          try change K (Act.put _ (some 51) _) _
          refine hK.out _ _ ?_ ?_
          · ((intro q _ _; exact qS_of HX.out q))
          clear hK K
          try simp only [Act.put, List.setIfInBounds_toArray, List.set_cons_zero, List.set_cons_succ]
          refine wpFam_take (i := 12) 0 (some 52) (v := ?_) rfl (by kernel_rfl) (by kernel_rfl) (by kernel_rfl) (by kernel_rfl) (by kernel_rfl) (fun _ _ _ h => h) rfl (Or.inl ⟨by rfl, ?_⟩) (by exact trivial) ?_
          rotate_left
          · (intro w hSw; (try simp only [qS] at hSw); go_simp); (try with_reducible rfl)
          try simp only [Act.put, List.setIfInBounds_toArray, List.set_cons_zero, List.set_cons_succ]
          refine wpFam_ready (rs := [17]) (by kernel_rfl) (by simp) ?_
          refine AllReadyF.cons (i := 17) rfl (fun K hK => ?_) ?_
          ·
            refine step_callG Tryz.func23 (by kernel_rfl) rfl #[.pointer pc] (by rfl) rfl (by first | rfl | (simp [Act.eval, Act.put]; done)) ?_
            refine (cc.out _ HC.out).mono ?_
            rintro e w9 ⟨rfl, hb⟩
            replace HX := Lib.hid (HX.out.below hb)
            replace HC := Lib.hid (HC.out.trans (hb.mono HC.out.size))
            clear hb
            refine ⟨_, rfl, ?_⟩
            try change K (Act.put _ (some 57) _) _
            refine hK.out _ _ ?_ ?_
            · ((intro q _ _; exact qS_of HX.out q))
            clear hK K
            try simp only [Act.put, List.setIfInBounds_toArray, List.set_cons_zero, List.set_cons_succ]
            refine wpFam_take (i := 18) 0 (some 58) (v := ?_) rfl (by kernel_rfl) (by kernel_rfl) (by kernel_rfl) (by kernel_rfl) (by kernel_rfl) (fun _ _ _ h => h) rfl (Or.inl ⟨by rfl, ?_⟩) (by exact trivial) ?_
            rotate_left
            · (intro w hSw; (try simp only [qS] at hSw); go_simp); (try with_reducible rfl)
            try simp only [Act.put, List.setIfInBounds_toArray, List.set_cons_zero, List.set_cons_succ]
            refine wpFam_take (i := 19) 0 (some 2) (v := ?_) rfl (by kernel_rfl) (by kernel_rfl) (by kernel_rfl) (by kernel_rfl) (by kernel_rfl) (fun _ _ _ h => h) rfl (Or.inl ⟨by rfl, ?_⟩) (by exact trivial) ?_
            rotate_left
            · (intro w hSw; (try simp only [qS] at hSw); go_simp); (try with_reducible rfl)
            try simp only [Act.put, List.setIfInBounds_toArray, List.set_cons_zero, List.set_cons_succ]
            refine wpFam_done (by kernel_rfl) ?_ _
            go_wp2
            go_ret
            exact ⟨by rw [HE.out]; rfl, HB3.out.trans (HC.out.mono HB3.out.size)⟩
          exact AllReadyF.nil
        exact AllReadyF.nil
      exact AllReadyF.nil
end Go.Proofs.YtghebjgkdfbmeaaGreatDoor

