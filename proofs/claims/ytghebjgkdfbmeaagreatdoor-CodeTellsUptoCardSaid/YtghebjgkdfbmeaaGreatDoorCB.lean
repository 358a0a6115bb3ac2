import Derived.Test.YtghebjgkdfbmeaaGreatDoorCI
import Derived.Test.YtghebjgkdfbmeaaGreatDoorCS
set_option linter.unusedVariables false
set_option linter.unusedSimpArgs false
namespace Go.Proofs.YtghebjgkdfbmeaaGreatDoor
open Go.RowKit

set_option maxRecDepth 100000 in
theorem Is_any (t : Tm) (p : Option Addr) (B : Nat) (w : World) (hp : PIn B w t p) (hs : t.small) (hm : MaxV w) :
    Calls Tryz.prog 20 #[.pointer p] w (fun e w' => e = .returned (.bool (allF t 3000).1) ∧ Below w.heap.size w w') := by
  have hg : 1 ≠ w.heap.size := by
    obtain ⟨m, hm⟩ := hm
    intro e
    simp [World.cell?, e] at hm
  have hmx : MaxV (w.alloc (.cells #[.int .i64 3000] 3)) := hm.below ((Below.refl _ _).alloc (Nat.le_refl _) _)
  have hpi : PIn B (w.alloc (.cells #[.int .i64 3000] 3)) t p := hp.below ((Below.refl _ _).alloc (Nat.le_refl _) _)
  have hl : Blk (w.alloc (.cells #[.int .i64 3000] 3)) w.heap.size 3 #[.int .i64 ((3000 : Nat) : Int)] := Blk.new w _ _
  have c := Lib.hid (isAll_any t p B 3000 w.heap.size _ hpi hs hl (Nat.le_refl _) hmx hg)
  unfold AllPost at c
  generalize (allF t 3000).2 = y2 at c
  have HB : Hid (Below w.heap.size w (w.alloc (.cells #[.int .i64 3000] 3))) := (Below.refl _ _).alloc (Nat.le_refl _) _
  clear hg hmx hpi hl hp hs hm
  go_enter Tryz.func20, Tryz.ntmps20
  go_wp2_with (go_at_call 33; (with_reducible refine c.out.mono ?_); rintro e w2 ⟨rfl, hl2, hs2⟩; have HS := Lib.hid hs2; clear hl2 hs2)
  go_ret
  exact ⟨rfl, HB.out.trans (HS.out.below (fun k hk => by have : k = w.heap.size := hk; omega) HB.out.size)⟩

/-! ### a term's bytes -/
def numI (z : Int) : ByteArray := strN (numB (mxI z 0).toNat)
def headB (k n : Int) (s : ByteArray) : ByteArray := if k = 3 then numI k ++ textS s ++ numI n else if k = 1 ∨ k = 2 then numI k ++ numI n else numI k
def bytesT : Tm → ByteArray
  | .nil => ⟨#[]⟩
  | .node k n s a b c => headB k n s ++ bytesT a ++ bytesT b ++ bytesT c
def okB : Tm → Prop
  | .nil => True
  | .node k n s a b c => k ≤ 1000 ∧ n ≤ 1000000 ∧ s.size ≤ 100 ∧ okB a ∧ okB b ∧ okB c
theorem numB_lenN (n : Nat) (h : n ≤ 1000000) : (numB n).length ≤ 3 := by
  by_cases h1 : n < 128
  · rw [numB_small h1]; simp
  · rw [numB_great h1]
    by_cases h2 : n / 128 < 128
    · rw [numB_small h2]; simp
    · rw [numB_great h2, numB_small (by omega)]; simp
theorem numI_size (z : Int) (h : z ≤ 1000000) : (numI z).size ≤ 3 := by
  unfold numI
  rw [strN_size]
  exact numB_lenN _ (by unfold mxI; split <;> omega)
theorem headB_size (k n : Int) (s : ByteArray) (hk : k ≤ 1000) (hn : n ≤ 1000000) (hs : s.size ≤ 100) : (headB k n s).size ≤ 200 := by
  have h1 := numI_size k (by omega)
  have h2 := numI_size n hn
  have h3 : (textS s).size ≤ 103 := by
    unfold textS
    rw [ByteArray.size_append, strN_size]
    have := numB_lenN s.size (by omega)
    omega
  unfold headB
  repeat' split
  all_goals (try simp only [ByteArray.size_append]); omega
theorem bytesT_size : ∀ t : Tm, okB t → (bytesT t).size ≤ 200 * sizeT t
  | .nil, _ => Nat.zero_le _
  | .node k n s a b c, ⟨hk, hn, hs, ha, hb, hc⟩ => by
    have h0 := headB_size k n s hk hn hs
    have h1 := bytesT_size a ha
    have h2 := bytesT_size b hb
    have h3 := bytesT_size c hc
    unfold bytesT sizeT
    simp only [ByteArray.size_append]
    omega
theorem Num_i (z : Int) (h : z ≤ 1000000) (w : World) : Calls Tryz.prog 34 #[.int .i64 z] w fun e w' => e = .returned (.string (numI z)) ∧ Below w.heap.size w w' := by
  have h1 : mxI z 0 ≤ 1000000 ∧ 0 ≤ mxI z 0 := by unfold mxI; split <;> omega
  exact Num_any z (mxI z 0).toNat (by omega) (by omega) w

set_option maxHeartbeats 16000000 in
set_option maxRecDepth 100000 in
theorem bytes_any : ∀ (t : Tm) (p : Option Addr) (B : Nat) (w : World), PIn B w t p → okB t → sizeT t ≤ 1000000 →
    Calls Tryz.prog 21 #[.pointer p] w (fun e w' => e = .returned (.string (bytesT t)) ∧ Below w.heap.size w w')
  | .nil, p, B, w, hp, _, _ => by
    obtain rfl : p = none := hp
    go_enter Tryz.func21, Tryz.ntmps21
    go_wp2
    go_ret
    exact ⟨rfl, Below.refl _ _⟩
  | .node k n s a b c, p, B, w, hp, hok, hsz => by
    obtain ⟨g, pa, pb, pc, rfl, -, hb, h1, h2, h3⟩ := hp
    obtain ⟨hk, hn, hs, ha, hb', hc⟩ := hok
    unfold sizeT at hsz
    have ca := Lib.hid (fun W (hW : Below w.heap.size w W) => bytes_any a pa B W (h1.below hW) ha (by omega))
    have cb := Lib.hid (fun W (hW : Below w.heap.size w W) => bytes_any b pb B W (h2.below hW) hb' (by omega))
    have cc := Lib.hid (fun W (hW : Below w.heap.size w W) => bytes_any c pc B W (h3.below hW) hc (by omega))
    have z0 := headB_size k n s hk hn hs
    have z1 := bytesT_size a ha
    have z2 := bytesT_size b hb'
    have z3 := bytesT_size c hc
    have he : bytesT (.node k n s a b c) = headB k n s ++ bytesT a ++ bytesT b ++ bytesT c := rfl
    generalize hb0 : headB k n s = b0 at he z0
    generalize bytesT a = b1 at he ca z1
    generalize bytesT b = b2 at he cb z2
    generalize bytesT c = b3 at he cc z3
    have HE := Lib.hid he
    have HB0 := Lib.hid hb0
    have s1 : b0.size + b1.size ≤ 9223372036854775807 := by omega
    have s2 : (b0 ++ b1).size + b2.size ≤ 9223372036854775807 := by rw [ByteArray.size_append]; omega
    have s3 : (b0 ++ b1 ++ b2).size + b3.size ≤ 9223372036854775807 := by simp only [ByteArray.size_append]; omega
    have n1 : ¬ 9223372036854775807 < b0.size + b1.size := by omega
    have n2 : ¬ 9223372036854775807 < (b0 ++ b1).size + b2.size := by omega
    have n2' : ¬ 9223372036854775807 < b0.size + b1.size + b2.size := by omega
    have n3 : ¬ 9223372036854775807 < (b0 ++ b1 ++ b2).size + b3.size := by omega
    have n3' : ¬ 9223372036854775807 < b0.size + b1.size + b2.size + b3.size := by omega
    have cn := Lib.hid (fun z h W => Num_i z h W)
    have ct := Lib.hid (fun W => Text_any s (by omega) W)
    have hk1 : k ≤ 1000000 := by omega
    have zk := numI_size k hk1
    have zn := numI_size n hn
    have zt : (textS s).size ≤ 103 := by
      unfold textS
      rw [ByteArray.size_append, strN_size]
      have := numB_lenN s.size (by omega)
      omega
    have x0 := hb.cell 0
    simp [tmCells] at x0
    have HBk := Lib.hid hb
    clear he hb0 h1 h2 h3 ha hb' hc hb hk hs hsz z0 z1 z2 z3
    go_enter Tryz.func21, Tryz.ntmps21
    go_upto_region 4 with (go_at_call 34; (with_reducible refine (cn.out k hk1 _).mono ?_); rintro e w2 ⟨rfl, hb⟩; have HB2 := Lib.hid hb; clear hb)
    have hB2 := HBk.out.below HB2.out
    have y0 := hB2.cell 0
    have y1 := hB2.cell 1
    have y2 := hB2.cell 2
    simp [tmCells] at y0 y1 y2
    have HK2 := Lib.hid hB2
    clear hB2 x0
    go_upto_block 0 with fail
    go_cut [3] from 15 to 33 (fun v3 wx => v3 = .string b0 ∧ Hid (Below w2.heap.size w2 wx))
    case first =>
      by_cases k3 : k = 3
      · subst k3
        have hh : b0 = numI 3 ++ textS s ++ numI n := by rw [← HB0.out]; unfold headB; rw [if_pos rfl]
        have HH := Lib.hid hh
        have e1 : (numI 3).size + (textS s).size ≤ 9223372036854775807 := by omega
        have e2 : (numI 3 ++ textS s).size + (numI n).size ≤ 9223372036854775807 := by rw [ByteArray.size_append]; omega
        clear hh
        go_wp2_with (first
          | (go_at_call 35; (with_reducible refine (ct.out _).mono ?_); rintro e w3 ⟨rfl, hb⟩; have y1 := (HK2.out.below hb).cell 1; simp [tmCells] at y1; have HB3 := Lib.hid hb; clear hb)
          | (go_at_call 34; (with_reducible refine (cn.out n hn _).mono ?_); rintro e w4 ⟨rfl, hb⟩; have HB4 := Lib.hid hb; clear hb))
        go_meet
        exact ⟨by rw [HH.out], below_step' HB3.out HB4.out⟩
      have k3' : (k == 3) = false := beq_eq_false_iff_ne.2 k3
      by_cases k12 : k = 1 ∨ k = 2
      · have hh : b0 = numI k ++ numI n := by rw [← HB0.out]; unfold headB; rw [if_neg k3, if_pos k12]
        have HH := Lib.hid hh
        have e1 : (numI k).size + (numI n).size ≤ 9223372036854775807 := by omega
        clear hh k3
        rcases k12 with rfl | rfl
        all_goals
          go_wp2_with (go_at_call 34; (with_reducible refine (cn.out n hn _).mono ?_); rintro e w4 ⟨rfl, hb⟩; have HB4 := Lib.hid hb; clear hb)
          go_meet
          exact ⟨by rw [HH.out], HB4.out⟩
      · have hh : b0 = numI k := by rw [← HB0.out]; unfold headB; rw [if_neg k3, if_neg k12]
        have HH := Lib.hid hh
        have k1' : (k == 1) = false := beq_eq_false_iff_ne.2 (fun e => k12 (.inl e))
        have k2' : (k == 2) = false := beq_eq_false_iff_ne.2 (fun e => k12 (.inr e))
        clear hh k3 k12
        go_wp2
        go_meet
        exact ⟨by rw [HH.out], Below.refl _ _⟩
    case rest =>
      obtain ⟨rfl, hb⟩ := hcut
      obtain ⟨w3, hw3⟩ : ∃ w3, w3 = wc := ⟨_, rfl⟩
      subst hw3
      have HX : Hid (Blk w3.drew g 46 (tmCells k n s pa pb pc)) := (show Blk w3 g _ _ from HK2.out.below hb.out)
      have HB3 : Hid (Below w.heap.size w w) := Below.refl _ _
      have HC : Hid (Below w.heap.size w w3.drew) := (below_step' HB2.out hb.out).drew
      clear y0 y1 y2 HK2 hb HBk
      go_upto_region 10 with fail
      refine wp_region_fam (S := (qS g pa pb pc)) (ds := (fun _ => [])) (by kernel_rfl) ?_
      refine wpFam_take (i := 0) 0 (some 34) (v := ?_) rfl (by kernel_rfl) (by kernel_rfl) (by kernel_rfl) (by kernel_rfl) (by kernel_rfl) (fun _ _ _ h => h) rfl (Or.inl ⟨by rfl, ?_⟩) (by exact trivial) ?_
      rotate_left
      · (intro w hSw; (try simp only [qS] at hSw); go_simp); (try with_reducible rfl)
      try simp only [Act.put, List.setIfInBounds_toArray, List.set_cons_zero, List.set_cons_succ]
      refine wpFam_take (i := 1) 0 (some 35) (v := ?_) rfl (by kernel_rfl) (by kernel_rfl) (by kernel_rfl) (by kernel_rfl) (by kernel_rfl) (fun _ _ _ h => h) rfl (Or.inl ⟨by rfl, ?_⟩) (by exact trivial) ?_
      rotate_left
      · (intro w hSw; (try simp only [qS] at hSw); go_simp); (try with_reducible rfl)
      try simp only [Act.put, List.setIfInBounds_toArray, List.set_cons_zero, List.set_cons_succ]
      refine wpFam_take (i := 2) 0 (some 36) (v := ?_) rfl (by kernel_rfl) (by kernel_rfl) (by kernel_rfl) (by kernel_rfl) (by kernel_rfl) (fun _ _ _ h => h) rfl (Or.inl ⟨by rfl, ?_⟩) (by exact trivial) ?_
      rotate_left
      · (intro w hSw; (try simp only [qS] at hSw); go_simp); (try with_reducible rfl)
      try simp only [Act.put, List.setIfInBounds_toArray, List.set_cons_zero, List.set_cons_succ]
      refine wpFam_take (i := 3) 0 (some 37) (v := ?_) rfl (by kernel_rfl) (by kernel_rfl) (by kernel_rfl) (by kernel_rfl) (by kernel_rfl) (fun _ _ _ h => h) rfl (Or.inl ⟨by rfl, ?_⟩) (by exact trivial) ?_
      rotate_left
      · (intro w hSw; (try simp only [qS] at hSw); go_simp); (try with_reducible rfl)
      try simp only [Act.put, List.setIfInBounds_toArray, List.set_cons_zero, List.set_cons_succ]
      refine wpFam_take (i := 4) 3 (some 38) (v := ?_) rfl (by kernel_rfl) (by kernel_rfl) (by kernel_rfl) (by kernel_rfl) (by kernel_rfl) (fun _ _ _ h => h) rfl (Or.inl ⟨by rfl, ?_⟩) (by exact qS_of HX.out 3) ?_
      rotate_left
      · (intro w hSw; (try simp only [qS] at hSw); go_simp); (try with_reducible rfl)
      try simp only [Act.put, List.setIfInBounds_toArray, List.set_cons_zero, List.set_cons_succ]
      refine wpFam_take (i := 7) 0 (some 41) (v := ?_) rfl (by kernel_rfl) (by kernel_rfl) (by kernel_rfl) (by kernel_rfl) (by kernel_rfl) (fun _ _ _ h => h) rfl (Or.inl ⟨by rfl, ?_⟩) (by exact trivial) ?_
      rotate_left
      · (intro w hSw; (try simp only [qS] at hSw); go_simp); (try with_reducible rfl)
      try simp only [Act.put, List.setIfInBounds_toArray, List.set_cons_zero, List.set_cons_succ]
      refine wpFam_take (i := 8) 0 (some 42) (v := ?_) rfl (by kernel_rfl) (by kernel_rfl) (by kernel_rfl) (by kernel_rfl) (by kernel_rfl) (fun _ _ _ h => h) rfl (Or.inl ⟨by rfl, ?_⟩) (by exact trivial) ?_
      rotate_left
      · (intro w hSw; (try simp only [qS] at hSw); go_simp); (try with_reducible rfl)
      try simp only [Act.put, List.setIfInBounds_toArray, List.set_cons_zero, List.set_cons_succ]
      refine wpFam_take (i := 9) 0 (some 43) (v := ?_) rfl (by kernel_rfl) (by kernel_rfl) (by kernel_rfl) (by kernel_rfl) (by kernel_rfl) (fun _ _ _ h => h) rfl (Or.inl ⟨by rfl, ?_⟩) (by exact trivial) ?_
      rotate_left
      · (intro w hSw; (try simp only [qS] at hSw); go_simp); (try with_reducible rfl)
      try simp only [Act.put, List.setIfInBounds_toArray, List.set_cons_zero, List.set_cons_succ]
      refine wpFam_take (i := 10) 4 (some 44) (v := ?_) rfl (by kernel_rfl) (by kernel_rfl) (by kernel_rfl) (by kernel_rfl) (by kernel_rfl) (fun _ _ _ h => h) rfl (Or.inl ⟨by rfl, ?_⟩) (by exact qS_of HX.out 4) ?_
      rotate_left
      · (intro w hSw; (try simp only [qS] at hSw); go_simp); (try with_reducible rfl)
      try simp only [Act.put, List.setIfInBounds_toArray, List.set_cons_zero, List.set_cons_succ]
      refine wpFam_take (i := 13) 0 (some 47) (v := ?_) rfl (by kernel_rfl) (by kernel_rfl) (by kernel_rfl) (by kernel_rfl) (by kernel_rfl) (fun _ _ _ h => h) rfl (Or.inl ⟨by rfl, ?_⟩) (by exact trivial) ?_
      rotate_left
      · (intro w hSw; (try simp only [qS] at hSw); go_simp); (try with_reducible rfl)
      try simp only [Act.put, List.setIfInBounds_toArray, List.set_cons_zero, List.set_cons_succ]
      refine wpFam_take (i := 14) 0 (some 48) (v := ?_) rfl (by kernel_rfl) (by kernel_rfl) (by kernel_rfl) (by kernel_rfl) (by kernel_rfl) (fun _ _ _ h => h) rfl (Or.inl ⟨by rfl, ?_⟩) (by exact trivial) ?_
      rotate_left
      · (intro w hSw; (try simp only [qS] at hSw); go_simp); (try with_reducible rfl)
      try simp only [Act.put, List.setIfInBounds_toArray, List.set_cons_zero, List.set_cons_succ]
      refine wpFam_take (i := 15) 0 (some 49) (v := ?_) rfl (by kernel_rfl) (by kernel_rfl) (by kernel_rfl) (by kernel_rfl) (by kernel_rfl) (fun _ _ _ h => h) rfl (Or.inl ⟨by rfl, ?_⟩) (by exact trivial) ?_
      rotate_left
      · (intro w hSw; (try simp only [qS] at hSw); go_simp); (try with_reducible rfl)
      try simp only [Act.put, List.setIfInBounds_toArray, List.set_cons_zero, List.set_cons_succ]
      refine wpFam_take (i := 16) 5 (some 50) (v := ?_) rfl (by kernel_rfl) (by kernel_rfl) (by kernel_rfl) (by kernel_rfl) (by kernel_rfl) (fun _ _ _ h => h) rfl (Or.inl ⟨by rfl, ?_⟩) (by exact qS_of HX.out 5) ?_
      rotate_left
      · (intro w hSw; (try simp only [qS] at hSw); go_simp); (try with_reducible rfl)
      try simp only [Act.put, List.setIfInBounds_toArray, List.set_cons_zero, List.set_cons_succ]
      refine wpFam_ready (rs := [5]) (by kernel_rfl) (by simp) ?_
      refine AllReadyF.cons (i := 5) rfl (fun K hK => ?_) ?_
      ·
        refine step_callG Tryz.func21 (by kernel_rfl) rfl #[.pointer pa] (by rfl) rfl (by first | rfl | (simp [Act.eval, Act.put]; done)) ?_
        refine (ca.out _ HC.out).mono ?_
        rintro e w9 ⟨rfl, hb⟩
        replace HX := Lib.hid (HX.out.below hb)
        replace HC := Lib.hid (HC.out.trans (hb.mono HC.out.size))
        clear hb
        refine ⟨_, rfl, ?_⟩
        try change K (Act.put _ (some 39) _) _
        refine hK.out _ _ ?_ ?_
        · ((intro q _ _; exact qS_of HX.out q))
        clear hK K
        try simp only [Act.put, List.setIfInBounds_toArray, List.set_cons_zero, List.set_cons_succ]
        refine wpFam_take (i := 6) 0 (some 40) (v := ?_) rfl (by kernel_rfl) (by kernel_rfl) (by kernel_rfl) (by kernel_rfl) (by kernel_rfl) (fun _ _ _ h => h) rfl (Or.inl ⟨by rfl, ?_⟩) (by exact trivial) ?_
        rotate_left
        · (intro w hSw; (try simp only [qS] at hSw); go_simp); (try with_reducible rfl)
        try simp only [Act.put, List.setIfInBounds_toArray, List.set_cons_zero, List.set_cons_succ]
        refine wpFam_ready (rs := [11]) (by kernel_rfl) (by simp) ?_
        refine AllReadyF.cons (i := 11) rfl (fun K hK => ?_) ?_
        ·
          refine step_callG Tryz.func21 (by kernel_rfl) rfl #[.pointer pb] (by rfl) rfl (by first | rfl | (simp [Act.eval, Act.put]; done)) ?_
          refine (cb.out _ HC.out).mono ?_
          rintro e w9 ⟨rfl, hb⟩
          replace HX := Lib.hid (HX.out.below hb)
          replace HC := Lib.hid (HC.out.trans (hb.mono HC.out.size))
          clear hb
          refine ⟨_, rfl, ?_⟩
          try change K (Act.put _ (some 45) _) _
          refine hK.out _ _ ?_ ?_
          · ((intro q _ _; exact qS_of HX.out q))
          clear hK K
          try simp only [Act.put, List.setIfInBounds_toArray, List.set_cons_zero, List.set_cons_succ]
          refine wpFam_take (i := 12) 0 (some 46) (v := ?_) rfl (by kernel_rfl) (by kernel_rfl) (by kernel_rfl) (by kernel_rfl) (by kernel_rfl) (fun _ _ _ h => h) rfl (Or.inl ⟨by rfl, ?_⟩) (by exact trivial) ?_
          rotate_left
          · (intro w hSw; (try simp only [qS] at hSw); go_simp); (try with_reducible rfl)
          try simp only [Act.put, List.setIfInBounds_toArray, List.set_cons_zero, List.set_cons_succ]
          refine wpFam_ready (rs := [17]) (by kernel_rfl) (by simp) ?_
          refine AllReadyF.cons (i := 17) rfl (fun K hK => ?_) ?_
          ·
            refine step_callG Tryz.func21 (by kernel_rfl) rfl #[.pointer pc] (by rfl) rfl (by first | rfl | (simp [Act.eval, Act.put]; done)) ?_
            refine (cc.out _ HC.out).mono ?_
            rintro e w9 ⟨rfl, hb⟩
            replace HX := Lib.hid (HX.out.below hb)
            replace HC := Lib.hid (HC.out.trans (hb.mono HC.out.size))
            clear hb
            refine ⟨_, rfl, ?_⟩
            try change K (Act.put _ (some 51) _) _
            refine hK.out _ _ ?_ ?_
            · ((intro q _ _; exact qS_of HX.out q))
            clear hK K
            try simp only [Act.put, List.setIfInBounds_toArray, List.set_cons_zero, List.set_cons_succ]
            refine wpFam_take (i := 18) 0 (some 52) (v := ?_) rfl (by kernel_rfl) (by kernel_rfl) (by kernel_rfl) (by kernel_rfl) (by kernel_rfl) (fun _ _ _ h => h) rfl (Or.inl ⟨by rfl, ?_⟩) (by exact trivial) ?_
            rotate_left
            · (intro w hSw; (try simp only [qS] at hSw); go_simp); (try with_reducible rfl)
            try simp only [Act.put, List.setIfInBounds_toArray, List.set_cons_zero, List.set_cons_succ]
            refine wpFam_take (i := 19) 0 (some 2) (v := ?_) rfl (by kernel_rfl) (by kernel_rfl) (by kernel_rfl) (by kernel_rfl) (by kernel_rfl) (fun _ _ _ h => h) rfl (Or.inl ⟨by rfl, ?_⟩) (by exact trivial) ?_
            rotate_left
            · (intro w hSw; (try simp only [qS] at hSw); go_simp); (try with_reducible rfl)
            try simp only [Act.put, List.setIfInBounds_toArray, List.set_cons_zero, List.set_cons_succ]
            refine wpFam_done (by kernel_rfl) ?_ _
            go_wp2
            go_ret
            exact ⟨by rw [HE.out]; rfl, HB3.out.trans (HC.out.mono HB3.out.size)⟩
          exact AllReadyF.nil
        exact AllReadyF.nil
      exact AllReadyF.nil
theorem Bytes_any (t : Tm) (p : Option Addr) (B : Nat) (w : World) (hp : PIn B w t p) (hs : t.small) (hm : MaxV w) (hok : (allF t 3000).1 = true → okB t ∧ sizeT t ≤ 3000) :
    Calls Tryz.prog 8 #[.pointer p] w (fun e w' => e = .returned (.string (if (allF t 3000).1 = true then bytesT t else ⟨#[]⟩)) ∧ Below w.heap.size w w') := by
  have ci := Lib.hid (Is_any t p B w hp hs hm)
  cases h : (allF t 3000).1
  · rw [h] at ci
    rw [if_neg (by decide)]
    clear hp hs hm hok h
    go_enter Tryz.func8, Tryz.ntmps8
    go_wp2_with (go_at_call 20; (with_reducible refine ci.out.mono ?_); rintro e w2 ⟨rfl, hb⟩; have HB := Lib.hid hb; clear hb)
    go_ret
    exact ⟨rfl, HB.out⟩
  · rw [h] at ci
    rw [if_pos rfl]
    obtain ⟨h1, h2⟩ := hok h
    have cb := Lib.hid (fun W (hW : Below w.heap.size w W) => bytes_any t p B W (hp.below hW) h1 (by omega))
    clear hp hs hm hok h h1 h2
    go_enter Tryz.func8, Tryz.ntmps8
    go_wp2_with (first
      | (go_at_call 20; (with_reducible refine ci.out.mono ?_); rintro e w2 ⟨rfl, hb⟩; have HB := Lib.hid hb; clear hb)
      | (go_at_call 21; (with_reducible refine (cb.out _ HB.out).mono ?_); rintro e w3 ⟨rfl, hb⟩; have HB2 := Lib.hid hb; clear hb))
    go_ret
    exact ⟨rfl, below_step' HB.out HB2.out⟩
end Go.Proofs.YtghebjgkdfbmeaaGreatDoor

