import Derived.Test.YtjincmagbbpooaaGreatDoorRF0
set_option linter.unusedVariables false
set_option linter.unusedSimpArgs false
namespace Go.Proofs.YtjincmagbbpooaaGreatDoor
open Go.RowKit

theorem ropen_no {F : Nat → Prop} {p sup : Nat} {R : DS × Int × JS × List ByteArray} {w w' : World} (h : RefPost F p w R.1 w') (hc : R.2.1 ≠ 0) : ROpenPost F p sup R w (.returned (.tuple #[.pointer none, .slice none 0 0, .int .i64 R.2.1])) w' := ⟨h, .inl ⟨hc, rfl⟩⟩
theorem ropen_yes {F : Nat → Prop} {p sup q turn which fin L : Nat} {R : DS × Int × JS × List ByteArray} {D2 : DS} {l : List ByteArray} {w w' : World} {v : Value} (hR : R.1 = D2 ∧ R.2.1 = 0 ∧ R.2.2.1.turn = turn ∧ R.2.2.1.which = which ∧ R.2.2.1.n = L ∧ R.2.2.2 = l) (hb : R.2.2.1.b.size = fin) (hP : RefPost F p w D2 w') (hq0 : w.heap.size ≤ q) (hq : Blk w' q 63 (rjCells p ⟨turn, which, sup, fin, L, false⟩)) (ho : w'.ownsRow w.heap.size 9 1 v l.length (strsV l)) (hf : ∃ G : Nat → Prop, Ref w' G p D2 ∧ (∀ k, G k → F k ∨ (w.heap.size ≤ k ∧ k < w'.heap.size)) ∧ (∀ g, v.ownBlock = some g → ¬ G g) ∧ ¬ G q) : ROpenPost F p sup R w (.returned (.tuple #[.pointer (some ⟨q, 0, none⟩), v, .int .i64 0])) w' := by
  obtain ⟨rfl, h2, rfl, rfl, rfl, rfl⟩ := hR
  subst hb
  exact ⟨hP, .inr ⟨h2, q, v, rfl, hq0, hq, ho, hf⟩⟩
theorem RJPost.fresh {F : Nat → Prop} {p q : Nat} {w w1 w2 : World} {D : DS} {J : RS} (h : RJPost F p q w1 D J w2) (hb : Below w.heap.size w w1) (hq0 : w.heap.size ≤ q) (hq : q < w1.heap.size) : RefPost F p w D w2 := by
  have hs := hb.size
  refine ⟨(Save.of_below hb).trans (h.1.mono fun x hx hp => hp.elim .inl (fun e => .inr ⟨by omega, by omega⟩)), h.2.1.mono fun k hk hp => hp.elim .inl (fun h => .inr ⟨by have := h.1; omega, h.2⟩)⟩

set_option maxHeartbeats 32000000 in
set_option maxRecDepth 100000 in
theorem rJOpen_any (F : Nat → Prop) (p : Nat) (D : DS) (w : World) (h : Ref w F p D) (hF : ∀ k, F k → k < w.heap.size) (hd : D.done < 1099510000000) (ht : D.newest.1 ≤ 1000000) :
    Calls Tryz.prog 26 #[.pointer (some ⟨p, 0, none⟩)] w (ROpenPost F p (if (blockR (D.readS 0)).1 < (blockR (D.readS 1)).1 then 1 else 0) D.opens w) := by
  obtain ⟨sup, hsup⟩ : ∃ sup : Nat, sup = if (blockR (D.readS 0)).1 < (blockR (D.readS 1)).1 then 1 else 0 := ⟨_, rfl⟩
  rw [← hsup]
  have HSUP := Lib.hid hsup
  clear hsup
  have HD := Lib.hid h
  have HFF := Lib.hid hF
  have hcell : ∃ a c, w.cell? ⟨p, 0, none⟩ = some (.slice a D.sure.length c) := by
    obtain ⟨sv, av, bv, hdd, hf⟩ := h
    obtain ⟨c0, -⟩ := hdd.cells
    obtain ⟨a, c, es⟩ := own_len hdd.s
    rw [es] at c0
    exact ⟨a, c, c0⟩
  obtain ⟨sa, sc, c0⟩ := hcell
  have hR : D.opens = if D.sure.length < 4 then (D, 14, ⟨0, 0, ⟨#[]⟩, 0, false⟩, []) else if D.newest.2.2 ≠ 0 then (D, D.newest.2.2, ⟨0, 0, ⟨#[]⟩, 0, false⟩, []) else _ := rfl
  by_cases h4 : D.sure.length < 4
  · rw [if_pos h4] at hR
    rw [hR]
    have t1 : (D.sure.length : Int) < 4 := by omega
    generalize D.sure.length = n at c0 t1
    clear h4 hR h hF hd ht
    go_enter Tryz.func26, Tryz.ntmps26
    go_wp2
    go_ret3
    exact ropen_no (RefPost.start HD.out) (by simp)
  rw [if_neg h4] at hR
  have t1 : (4 : Int) ≤ (D.sure.length : Int) := by omega
  have cr0 := Lib.hid (rRead_any w F p D 0 h)
  have cr1 := Lib.hid (rRead_any w F p D 1 h)
  by_cases hal : D.dead = true
  · have m0 : D.may 0 = 25 := by unfold DS.may; rw [if_pos hal]
    have m1 : D.may 1 = 25 := by unfold DS.may; rw [if_pos hal]
    have hne : D.newest = (0, 0, 25) := by unfold DS.newest; rw [m0, if_pos (by decide)]
    rw [hne, if_pos (by decide)] at hR
    rw [hR]
    rw [m0] at cr0
    rw [m1] at cr1
    generalize D.readS 0 = a at cr0
    generalize D.readS 1 = b at cr1
    generalize D.sure.length = n at c0 t1
    clear h4 hR h hF hd ht m0 m1 hne hal
    go_enter Tryz.func26, Tryz.ntmps26
    go_wp2_with (first
      | (go_at_call 34; (with_reducible refine cr0.out.mono ?_); rintro e w1 ⟨rfl, rfl⟩)
      | (go_at_call 34; (with_reducible refine cr1.out.mono ?_); rintro e w1 ⟨rfl, rfl⟩))
    go_ret3
    exact ropen_no (RefPost.start HD.out) (by simp)
  rw [Bool.not_eq_true] at hal
  have m0 : D.may 0 = 0 := DS.may_zero.2 ⟨hal, by omega, by omega⟩
  have m1 : D.may 1 = 0 := DS.may_zero.2 ⟨hal, by omega, by omega⟩
  have z0 := readS_64 h.ok 0
  have z1 := readS_64 h.ok 1
  obtain ⟨n1, n2⟩ := newer_block z0 z1
  have hnew : D.newest = if (newer (newer (0, 0) (readB (D.readS 0))) (readB (D.readS 1))).1 = 0 then (0, 0, 10) else ((newer (newer (0, 0) (readB (D.readS 0))) (readB (D.readS 1))).1, (newer (newer (0, 0) (readB (D.readS 0))) (readB (D.readS 1))).2, 0) := by
    unfold DS.newest
    rw [m0, m1, if_neg (by decide), if_neg (by decide)]
  have hN1 := newer_half (newer_half (x := (0, 0)) (Nat.zero_le 1) (readB_half (D.readS 0))) (readB_half (D.readS 1))
  rw [m0] at cr0
  rw [m1] at cr1
  have cb0 := Lib.hid (fun W => rblock_any (D.readS 0) (by omega) W)
  have cb1 := Lib.hid (fun W => rblock_any (D.readS 1) (by omega) W)
  generalize newer (newer (0, 0) (readB (D.readS 0))) (readB (D.readS 1)) = N at n1 n2 hnew hN1
  have hsup := HSUP.out
  generalize blockR (D.readS 0) = x at n1 n2 cb0 hsup
  generalize blockR (D.readS 1) = y at n1 n2 cb1 hsup
  generalize D.readS 0 = a at cr0 cb0
  generalize D.readS 1 = b at cr1 cb1
  obtain ⟨t, hf⟩ := x
  obtain ⟨u, k⟩ := y
  obtain ⟨turn, which⟩ := N
  simp only at n1 n2 hnew hN1 cb0 cb1 hsup
  by_cases hz : turn = 0
  · rw [hz] at hnew
    simp only [if_true] at hnew
    rw [hnew, if_pos (by decide)] at hR
    rw [hR]
    have ht0 : t = 0 ∧ u = 0 := by
      rw [hz] at n1
      split at n1 <;> omega
    obtain ⟨rfl, rfl⟩ := ht0
    have q1 : ¬ ((0 : Int) < 0) := by omega
    generalize D.sure.length = n at c0 t1
    clear h4 hR h hF hd ht m0 m1 hnew n1 n2 z0 z1 hal hz hsup
    go_enter Tryz.func26, Tryz.ntmps26
    go_wp2_with (first
      | (go_at_call 34; (with_reducible refine cr0.out.mono ?_); rintro e w1 ⟨rfl, rfl⟩)
      | (go_at_call 34; (with_reducible refine cr1.out.mono ?_); rintro e w1 ⟨rfl, rfl⟩)
      | (go_at_call 62; (with_reducible refine (cb0.out _).mono ?_); rintro e w1 ⟨rfl, hb⟩; have HB1 := Lib.hid hb; clear hb)
      | (go_at_call 62; (with_reducible refine (cb1.out _).mono ?_); rintro e w2 ⟨rfl, hb⟩; have HB2 := Lib.hid (below_step HB1.out hb); clear hb))
    go_ret3
    exact ropen_no ((RefPost.start HD.out).below (HB2.out.alloc HB2.out.size _)) (by simp)
  rw [if_neg hz] at hnew
  rw [hnew, if_neg (by simp)] at hR
  rw [hnew] at ht
  simp only at ht
  have n2' := n2 hz
  obtain ⟨H, hH⟩ : ∃ H, H = D.half := ⟨_, rfl⟩
  have hH9 : H ≤ 999 := by rw [hH]; exact half_le h.ok
  have hlen2 : 2 ≤ D.sure.length := by omega
  have HK := Lib.hid (And.intro hal (And.intro hN1 (And.intro hlen2 (And.intro hH hd))))
  simp only at hR
  rw [← hH] at hR
  have HRR := Lib.hid hR
  generalize D.opens = R at HRR ⊢
  generalize D.sure.length = n at c0 t1
  have HZ := Lib.hid hz
  clear h4 hR h hF hd m0 m1 hnew z0 z1 n2 hlen2 hH hal hz
  go_enter Tryz.func26, Tryz.ntmps26
  go_upto_region 10 with (first
    | (go_at_call 34; (with_reducible refine cr0.out.mono ?_); rintro e w1 ⟨rfl, rfl⟩)
    | (go_at_call 34; (with_reducible refine cr1.out.mono ?_); rintro e w1 ⟨rfl, rfl⟩)
    | (go_at_call 62; (with_reducible refine (cb0.out _).mono ?_); rintro e w1 ⟨rfl, hb⟩; have HB1 := Lib.hid hb; clear hb)
    | (go_at_call 62; (with_reducible refine (cb1.out _).mono ?_); rintro e w2 ⟨rfl, hb⟩; have HB2 := Lib.hid (below_step HB1.out hb); clear hb))
  by_cases hu : t < u
  case' pos =>
    rw [if_pos hu] at n1 n2' hsup
    subst n1 n2'
    have q1 : (t : Int) < (turn : Int) := by omega
    go_upto_region 12 with fail
    clear q1 hu
    have hq : Blk (w2.alloc (.cells #[.pointer (some ⟨p, 0, none⟩), .int .i64 (turn : Int), .int .i64 (which : Int), .int .i64 1, .int .i64 0, .int .i64 0, .bool false] 63)) w2.heap.size 63 (rjCells p ⟨turn, which, sup, 0, 0, false⟩) := by rw [hsup]; exact Blk.new w2 _ _
    have HB := Lib.hid (HB2.out.alloc HB2.out.size (.cells #[.pointer (some ⟨p, 0, none⟩), .int .i64 (turn : Int), .int .i64 (which : Int), .int .i64 1, .int .i64 0, .int .i64 0, .bool false] 63))
    have HQ0 : Hid (w.heap.size ≤ w2.heap.size) := HB2.out.size
    clear hsup
    generalize w2.alloc (.cells #[.pointer (some ⟨p, 0, none⟩), .int .i64 (turn : Int), .int .i64 (which : Int), .int .i64 1, .int .i64 0, .int .i64 0, .bool false] 63) = W2 at hq HB ⊢
    generalize w2.heap.size = q at hq HQ0 ⊢
  case' neg =>
    rw [if_neg hu] at n1 n2' hsup
    subst n1 n2'
    have q1 : ¬ ((turn : Int) < (u : Int)) := by omega
    go_upto_region 12 with fail
    clear q1 hu
    have hq : Blk (w2.alloc (.cells #[.pointer (some ⟨p, 0, none⟩), .int .i64 (turn : Int), .int .i64 (which : Int), .int .i64 0, .int .i64 0, .int .i64 0, .bool false] 63)) w2.heap.size 63 (rjCells p ⟨turn, which, sup, 0, 0, false⟩) := by rw [hsup]; exact Blk.new w2 _ _
    have HB := Lib.hid (HB2.out.alloc HB2.out.size (.cells #[.pointer (some ⟨p, 0, none⟩), .int .i64 (turn : Int), .int .i64 (which : Int), .int .i64 0, .int .i64 0, .int .i64 0, .bool false] 63))
    have HQ0 : Hid (w.heap.size ≤ w2.heap.size) := HB2.out.size
    clear hsup
    generalize w2.alloc (.cells #[.pointer (some ⟨p, 0, none⟩), .int .i64 (turn : Int), .int .i64 (which : Int), .int .i64 0, .int .i64 0, .int .i64 0, .bool false] 63) = W2 at hq HB ⊢
    generalize w2.heap.size = q at hq HQ0 ⊢
  all_goals
    have HQ := Lib.hid hq
    have qz : ((turn : Int) == 0) = false := beq_eq_false_iff_ne.2 (by have := HZ.out; omega)
    have x1 := hq.cell 1
    simp [rjCells] at x1
    have cby := Lib.hid (rbytes_any F p q D ⟨turn, which, sup, 0, 0, false⟩ W2 (HD.out.below HB.out) hq HK.out.2.2.1 HK.out.2.1)
    simp only at cby
    rw [← HK.out.2.2.2.1] at cby
    have hjs := joinP_size HD.out.ok which H
    have HRR2 : Hid (R = (let all := D.joinP which H
      let r := recsOf turn all
      let b := all.extract 0 (all.size - r.2.size)
      let x := D.diff which b (b.size / 64)
      let y : DS × Int := if x.2.2 = 0 ∧ 0 < x.2.1 then (x.1.flush, x.1.flushC) else (x.1, x.2.2)
      (y.1, y.2, ⟨turn, which, b, r.1.length, false⟩, r.1))) := HRR
    generalize D.joinP which H = all at cby HRR2 hjs
    have hall : all.size ≤ 63936 := by omega
    clear HRR hjs hq HZ HB2
    go_upto_region 16 with (go_at_call 63; (with_reducible refine cby.out.mono ?_); rintro e w5 ⟨rfl, hb⟩; have HQ5 := Lib.hid (HQ.out.below hb); have HB5 := Lib.hid (below_step HB.out hb); clear hb)
    clear x1 qz cby HQ HB
    obtain ⟨i0, hi0, hz0, hz1, hz2⟩ := info_parts Tryz.infoStr
    have HI := Lib.hid hi0
    have HZ0 := Lib.hid hz0
    have HZ1 := Lib.hid hz1
    have HZ2 := Lib.hid hz2
    clear hi0 hz0 hz1 hz2
    go_loopw [14] (fun v14 wr => ∃ (l : List ByteArray) (fin f : Nat), Hid (wr.ownsRow w.heap.size 9 1 v14 l.length (strsV l)) ∧ Hid (recsOf turn all = (l ++ (recsF turn f l.length (dropB all fin)).1, (recsF turn f l.length (dropB all fin)).2)) ∧ all.size - fin < f ∧ fin ≤ all.size ∧ l.length ≤ fin ∧ Hid (Blk wr q 63 (rjCells p ⟨turn, which, sup, fin, l.length, false⟩)) ∧ Hid (Below w.heap.size w wr)) (fun v14 _ => match v14 with | .slice _ n _ => all.size + 1 - n | _ => 0)
    case atStart => exact ⟨[], 0, all.size + 1, World.ownsRow_nil _ _ _ _, Lib.hid (by rw [show dropB all 0 = all by unfold dropB; simp]; rfl), by omega, by omega, by simp, HQ5, HB5⟩
    case round =>
      clear HQ5 HB5
      obtain ⟨l, fin, f, HO, HRE, hrf, hfa, hlf, HQ, HB⟩ := hrel
      obtain ⟨a3, cap3, rfl⟩ := own_len HO.out
      obtain ⟨L, hL⟩ : ∃ L, L = l.length := ⟨_, rfl⟩
      have hLl : L ≤ 63936 := by omega
      have co := Lib.hid (fun W => rOpen_any (dropB all fin) ((turn * 1000000 + L : Nat) : Int) (by rw [dropB_size]; omega) W)
      unfold rTextPost at co
      obtain ⟨f', rfl⟩ : ∃ f', f = f' + 1 := ⟨f - 1, by omega⟩
      have hre := HRE.out
      rw [← hL] at hre
      unfold recsF at hre
      have hmo : (openR (dropB all fin) ((turn * 1000000 + L : Nat) : Int)).2.2 = 0 → (openR (dropB all fin) ((turn * 1000000 + L : Nat) : Int)).2.1.size + 1 ≤ (dropB all fin).size := openR_more
      have hfi : (openR (dropB all fin) ((turn * 1000000 + L : Nat) : Int)).2.2 = 0 → dropB all (all.size - (openR (dropB all fin) ((turn * 1000000 + L : Nat) : Int)).2.1.size) = (openR (dropB all fin) ((turn * 1000000 + L : Nat) : Int)).2.1 := openR_fin
      have hKi : ((turn * 1000000 + L : Nat) : Int) = (turn : Int) * 1000000 + (L : Int) := by omega
      generalize turn * 1000000 + L = K at co hre hmo hfi hKi
      generalize (openR (dropB all fin) (K : Int)).1 = s at co hre
      generalize (openR (dropB all fin) (K : Int)).2.1 = more at co hre hmo hfi
      generalize (openR (dropB all fin) (K : Int)).2.2 = er at co hre hmo hfi
      rw [dropB_size] at hmo
      have hext : all.extract fin all.size = dropB all fin := rfl
      rw [← hext] at co
      have HX := Lib.hid hext
      clear hext
      rw [hKi] at co
      have hfs : (fin : Int) ≤ (all.size : Int) := by omega
      rw [← hL] at HO HQ hlf
      have HLL := Lib.hid hL
      rw [← hL]
      have hw1 : IntKind.i64.wrap ((turn : Int) * 1000000) = (turn : Int) * 1000000 := IntWalk.i64_in _ (by omega)
      have hw2 : IntKind.i64.wrap ((turn : Int) * 1000000 + (L : Int)) = (turn : Int) * 1000000 + (L : Int) := IntWalk.i64_in _ (by omega)
      clear HRE hL
      go_upto_region 16 with fail
      replace HB := Lib.hid HB.out.drew
      replace HQ := Lib.hid (HQ.out.below ((Below.refl _ _).drew))
      replace HO := Lib.hid HO.out.drew
      refine wp_region_fam (S := (rA q p ⟨turn, which, sup, fin, L, false⟩)) (ds := (fun _ => [])) (by kernel_rfl) ?_
      refine wpFam_take (i := 0) 0 (some 76) (v := ?_) rfl (by kernel_rfl) (by kernel_rfl) (by kernel_rfl) (by kernel_rfl) (by kernel_rfl) (fun _ _ _ h => h) rfl (Or.inl ⟨by rfl, ?_⟩) (by exact trivial) ?_
      rotate_left
      · (intro w hSw; (try simp only [rA] at hSw); go_simp); (try with_reducible rfl)
      try simp only [Act.put, List.setIfInBounds_toArray, List.set_cons_zero, List.set_cons_succ]
      refine wpFam_take (i := 1) 0 (some 77) (v := ?_) rfl (by kernel_rfl) (by kernel_rfl) (by kernel_rfl) (by kernel_rfl) (by kernel_rfl) (fun _ _ _ h => h) rfl (Or.inl ⟨by rfl, ?_⟩) (by exact trivial) ?_
      rotate_left
      · (intro w hSw; (try simp only [rA] at hSw); go_simp); (try with_reducible rfl)
      try simp only [Act.put, List.setIfInBounds_toArray, List.set_cons_zero, List.set_cons_succ]
      refine wpFam_take (i := 2) 0 (some 78) (v := ?_) rfl (by kernel_rfl) (by kernel_rfl) (by kernel_rfl) (by kernel_rfl) (by kernel_rfl) (fun _ _ _ h => h) rfl (Or.inl ⟨by rfl, ?_⟩) (by exact trivial) ?_
      rotate_left
      · (intro w hSw; (try simp only [rA] at hSw); go_simp); (try with_reducible rfl)
      try simp only [Act.put, List.setIfInBounds_toArray, List.set_cons_zero, List.set_cons_succ]
      refine wpFam_take (i := 3) 0 (some 79) (v := ?_) rfl (by kernel_rfl) (by kernel_rfl) (by kernel_rfl) (by kernel_rfl) (by kernel_rfl) (fun _ _ _ h => h) rfl (Or.inl ⟨by rfl, ?_⟩) (by exact trivial) ?_
      rotate_left
      · (intro w hSw; (try simp only [rA] at hSw); go_simp); (try with_reducible rfl)
      try simp only [Act.put, List.setIfInBounds_toArray, List.set_cons_zero, List.set_cons_succ]
      refine wpFam_take (i := 4) 5 (some 80) (v := ?_) rfl (by kernel_rfl) (by kernel_rfl) (by kernel_rfl) (by kernel_rfl) (by kernel_rfl) (fun _ _ _ h => h) rfl (Or.inl ⟨by rfl, ?_⟩) (by exact rA_of HQ.out 5) ?_
      rotate_left
      · (intro w hSw; (try simp only [rA] at hSw); go_simp); (try with_reducible rfl)
      try simp only [Act.put, List.setIfInBounds_toArray, List.set_cons_zero, List.set_cons_succ]
      refine wpFam_take (i := 5) 0 (some 81) (v := ?_) rfl (by kernel_rfl) (by kernel_rfl) (by kernel_rfl) (by kernel_rfl) (by kernel_rfl) (fun _ _ _ h => h) rfl (Or.inl ⟨by rfl, ?_⟩) (by exact trivial) ?_
      rotate_left
      · (intro w hSw; (try simp only [rA] at hSw); go_simp); (try with_reducible rfl)
      try simp only [Act.put, List.setIfInBounds_toArray, List.set_cons_zero, List.set_cons_succ]
      refine wpFam_take (i := 6) 0 (some 82) (v := ?_) rfl (by kernel_rfl) (by kernel_rfl) (by kernel_rfl) (by kernel_rfl) (by kernel_rfl) (fun _ _ _ h => h) rfl (Or.inl ⟨by rfl, ?_⟩) (by exact trivial) ?_
      rotate_left
      · (intro w hSw; (try simp only [rA] at hSw); go_simp); (try with_reducible rfl)
      try simp only [Act.put, List.setIfInBounds_toArray, List.set_cons_zero, List.set_cons_succ]
      refine wpFam_take (i := 7) 0 (some 83) (v := ?_) rfl (by kernel_rfl) (by kernel_rfl) (by kernel_rfl) (by kernel_rfl) (by kernel_rfl) (fun _ _ _ h => h) rfl (Or.inl ⟨by rfl, ?_⟩) (by exact trivial) ?_
      rotate_left
      · (intro w hSw; (try simp only [rA] at hSw); go_simp); (try with_reducible rfl)
      try simp only [Act.put, List.setIfInBounds_toArray, List.set_cons_zero, List.set_cons_succ]
      refine wpFam_take (i := 8) 0 (some 84) (v := ?_) rfl (by kernel_rfl) (by kernel_rfl) (by kernel_rfl) (by kernel_rfl) (by kernel_rfl) (fun _ _ _ h => h) rfl (Or.inl ⟨by rfl, ?_⟩) (by exact trivial) ?_
      rotate_left
      · (intro w hSw; (try simp only [rA] at hSw); go_simp); (try with_reducible rfl)
      try simp only [Act.put, List.setIfInBounds_toArray, List.set_cons_zero, List.set_cons_succ]
      refine wpFam_take (i := 9) 2 (some 85) (v := ?_) rfl (by kernel_rfl) (by kernel_rfl) (by kernel_rfl) (by kernel_rfl) (by kernel_rfl) (fun _ _ _ h => h) rfl (Or.inl ⟨by rfl, ?_⟩) (by exact rA_of HQ.out 2) ?_
      rotate_left
      · (intro w hSw; (try simp only [rA] at hSw); go_simp); (try with_reducible rfl)
      try simp only [Act.put, List.setIfInBounds_toArray, List.set_cons_zero, List.set_cons_succ]
      refine wpFam_take (i := 10) 0 (some 86) (v := ?_) rfl (by kernel_rfl) (by kernel_rfl) (by kernel_rfl) (by kernel_rfl) (by kernel_rfl) (fun _ _ _ h => h) rfl (Or.inl ⟨by rfl, ?_⟩) (by exact trivial) ?_
      rotate_left
      · (intro w hSw; (try simp only [rA] at hSw); go_simp); (try with_reducible rfl)
      try simp only [Act.put, List.setIfInBounds_toArray, List.set_cons_zero, List.set_cons_succ]
      refine wpFam_take (i := 11) 0 (some 87) (v := ?_) rfl (by kernel_rfl) (by kernel_rfl) (by kernel_rfl) (by kernel_rfl) (by kernel_rfl) (fun _ _ _ h => h) rfl (Or.inl ⟨by rfl, ?_⟩) (by exact trivial) ?_
      rotate_left
      · (intro w hSw; (try simp only [rA] at hSw); go_simp); (try with_reducible rfl)
      try simp only [Act.put, List.setIfInBounds_toArray, List.set_cons_zero, List.set_cons_succ]
      refine wpFam_take (i := 12) 0 (some 88) (v := ?_) rfl (by kernel_rfl) (by kernel_rfl) (by kernel_rfl) (by kernel_rfl) (by kernel_rfl) (fun _ _ _ h => h) rfl (Or.inl ⟨by rfl, ?_⟩) (by exact trivial) ?_
      rotate_left
      · (intro w hSw; (try simp only [rA] at hSw); go_simp); (try with_reducible rfl)
      try simp only [Act.put, List.setIfInBounds_toArray, List.set_cons_zero, List.set_cons_succ]
      refine wpFam_take (i := 13) 0 (some 89) (v := ?_) rfl (by kernel_rfl) (by kernel_rfl) (by kernel_rfl) (by kernel_rfl) (by kernel_rfl) (fun _ _ _ h => h) rfl (Or.inl ⟨by rfl, ?_⟩) (by exact trivial) ?_
      rotate_left
      · (intro w hSw; (try simp only [rA] at hSw); go_simp); (try with_reducible rfl)
      try simp only [Act.put, List.setIfInBounds_toArray, List.set_cons_zero, List.set_cons_succ]
      refine wpFam_take (i := 14) 6 (some 90) (v := ?_) rfl (by kernel_rfl) (by kernel_rfl) (by kernel_rfl) (by kernel_rfl) (by kernel_rfl) (fun _ _ _ h => h) rfl (Or.inl ⟨by rfl, ?_⟩) (by exact rA_of HQ.out 6) ?_
      rotate_left
      · (intro w hSw; (try simp only [rA] at hSw); go_simp); (try with_reducible rfl)
      try simp only [Act.put, List.setIfInBounds_toArray, List.set_cons_zero, List.set_cons_succ]
      refine wpFam_take (i := 15) 0 (some 91) (v := ?_) rfl (by kernel_rfl) (by kernel_rfl) (by kernel_rfl) (by kernel_rfl) (by kernel_rfl) (fun _ _ _ h => h) rfl (Or.inl ⟨by rfl, ?_⟩) (by exact trivial) ?_
      rotate_left
      · (intro w hSw; (try simp only [rA] at hSw); go_simp); (try with_reducible rfl)
      try simp only [Act.put, List.setIfInBounds_toArray, List.set_cons_zero, List.set_cons_succ]
      refine wpFam_ready (rs := [16]) (by kernel_rfl) (by simp) ?_
      refine AllReadyF.cons (i := 16) rfl (fun K hK => ?_) ?_
      ·
        refine step_call Tryz.func64 (by kernel_rfl) rfl #[.string (all.extract fin all.size), .int .i64 ((turn : Int) * 1000000 + (L : Int))] (by rfl) (by rfl) (by first | rfl | (simp [Act.eval, Act.put]; done)) ?_
        refine (co.out _).mono ?_
        rintro e w6 ⟨rfl, hb⟩
        have HO6 := Lib.hid (own_same HO.out (fun k hk => hb.block k (HO.out.lt k hk).2))
        have HB6 := Lib.hid (below_step HB.out hb)
        replace HQ := Lib.hid (HQ.out.below hb)
        clear hb
        refine ⟨_, rfl, ?_⟩
        try change K (Act.put _ (some 92) _) _
        refine hK.out _ _ ?_ ?_
        · ((intro i _ _; exact rA_of HQ.out i))
        clear hK K
        try simp only [Act.put, List.setIfInBounds_toArray, List.set_cons_zero, List.set_cons_succ]
        refine wpFam_take (i := 17) 0 (some 75) (v := ?_) rfl (by kernel_rfl) (by kernel_rfl) (by kernel_rfl) (by kernel_rfl) (by kernel_rfl) (fun _ _ _ h => h) rfl (Or.inl ⟨by rfl, ?_⟩) (by exact trivial) ?_
        rotate_left
        · (intro w hSw; (try simp only [rA] at hSw); go_simp); (try with_reducible rfl)
        try simp only [Act.put, List.setIfInBounds_toArray, List.set_cons_zero, List.set_cons_succ]
        refine wpFam_take (i := 18) 0 (some 93) (v := ?_) rfl (by kernel_rfl) (by kernel_rfl) (by kernel_rfl) (by kernel_rfl) (by kernel_rfl) (fun _ _ _ h => h) rfl (Or.inl ⟨by rfl, ?_⟩) (by exact trivial) ?_
        rotate_left
        · (intro w hSw; (try simp only [rA] at hSw); go_simp); (try with_reducible rfl)
        try simp only [Act.put, List.setIfInBounds_toArray, List.set_cons_zero, List.set_cons_succ]
        refine wpFam_take (i := 19) 0 (some 94) (v := ?_) rfl (by kernel_rfl) (by kernel_rfl) (by kernel_rfl) (by kernel_rfl) (by kernel_rfl) (fun _ _ _ h => h) rfl (Or.inl ⟨by rfl, ?_⟩) (by exact trivial) ?_
        rotate_left
        · (intro w hSw; (try simp only [rA] at hSw); go_simp); (try with_reducible rfl)
        try simp only [Act.put, List.setIfInBounds_toArray, List.set_cons_zero, List.set_cons_succ]
        refine wpFam_take (i := 20) 0 (some 95) (v := ?_) rfl (by kernel_rfl) (by kernel_rfl) (by kernel_rfl) (by kernel_rfl) (by kernel_rfl) (fun _ _ _ h => h) rfl (Or.inl ⟨by rfl, ?_⟩) (by exact trivial) ?_
        rotate_left
        · (intro w hSw; (try simp only [rA] at hSw); go_simp); (try with_reducible rfl)
        try simp only [Act.put, List.setIfInBounds_toArray, List.set_cons_zero, List.set_cons_succ]
        refine wpFam_take (i := 21) 0 (some 16) (v := ?_) rfl (by kernel_rfl) (by kernel_rfl) (by kernel_rfl) (by kernel_rfl) (by kernel_rfl) (fun _ _ _ h => h) rfl (Or.inl ⟨by rfl, ?_⟩) (by exact trivial) ?_
        rotate_left
        · (intro w hSw; (try simp only [rA] at hSw); go_simp); (try with_reducible rfl)
        try simp only [Act.put, List.setIfInBounds_toArray, List.set_cons_zero, List.set_cons_succ]
        refine wpFam_take (i := 22) 0 (some 17) (v := ?_) rfl (by kernel_rfl) (by kernel_rfl) (by kernel_rfl) (by kernel_rfl) (by kernel_rfl) (fun _ _ _ h => h) rfl (Or.inl ⟨by rfl, ?_⟩) (by exact trivial) ?_
        rotate_left
        · (intro w hSw; (try simp only [rA] at hSw); go_simp); (try with_reducible rfl)
        try simp only [Act.put, List.setIfInBounds_toArray, List.set_cons_zero, List.set_cons_succ]
        refine wpFam_take (i := 23) 0 (some 18) (v := ?_) rfl (by kernel_rfl) (by kernel_rfl) (by kernel_rfl) (by kernel_rfl) (by kernel_rfl) (fun _ _ _ h => h) rfl (Or.inl ⟨by rfl, ?_⟩) (by exact trivial) ?_
        rotate_left
        · (intro w hSw; (try simp only [rA] at hSw); go_simp); (try with_reducible rfl)
        try simp only [Act.put, List.setIfInBounds_toArray, List.set_cons_zero, List.set_cons_succ]
        refine wpFam_done (by kernel_rfl) ?_ _
        have HQ6 : Hid (Blk w6 q 63 (rjCells p ⟨turn, which, sup, fin, L, false⟩)) := HQ
        clear HQ HO HB co hw1 hw2
        by_cases he : er = 0
        · subst he
          rw [if_neg (by decide)] at hre
          have HRE := Lib.hid hre
          have hmz := hmo rfl
          have HFZ := Lib.hid (hfi rfl)
          have HOd := HO6
          have HBd := HB6
          have HQd := HQ6
          clear hre hmo hfi HO6 HB6 HQ6
          obtain ⟨fin', hfin'⟩ : ∃ fin', fin' = all.size - more.size := ⟨_, rfl⟩
          have hsub : IntKind.i64.wrap ((all.size : Int) - (more.size : Int)) = (fin' : Int) := by rw [IntWalk.i64_in _ (by omega)]; omega
          have HSU := Lib.hid hsub
          clear hsub
          have hL1 : IntKind.i64.wrap ((L : Int) + 1) = ((L + 1 : Nat) : Int) := by rw [IntWalk.i64_in _ (by omega)]; omega
          have HL1 := Lib.hid hL1
          clear hL1
          rw [← hfin'] at HFZ
          go_upto_region 19 with (first
            | (at_builtin
               have a1 := HOd.out.alloc (.cells #[.string s] 9)
               have a2 : L + 1 ≤ maxLen := (by unfold maxLen; omega)
               have a3' : (L + 1) * 16 ≤ 140737488355328 := (by omega)
               have a4 := HBd.out.alloc HBd.out.size (.cells #[.string s] 9)
               have a5 : ∀ u ∈ [Value.string s], u.oneCell' = true := (by simp [Value.oneCell'])
               have a7 := HQd.out.alloc (.cells #[.string s] 9)
               refine wpList_append_lies _ rfl _ _ _ rfl w.heap.size 9 i0 (.string ⟨#[]⟩) 1 16 Tryz.underlying26 HI.out HZ0.out HZ1.out HZ2.out rfl (by decide) (.slice a3 L cap3) L (strsV l) rfl a1 _ 1 1 [.string s] rfl rfl (World.news_of_block (heap_alloc_new _ _)) a5 (by decide) a2 a3' a4.size _ rfl ?_
               intro g cap2 w7 ho2 hg2 ha2 hlt2
               have HO7 := Lib.hid ho2
               have HQ7 := Lib.hid (a7.grown hg2 (own_blk_ne a1 a7 (by decide)))
               have HB7 := Lib.hid (a4.grown hg2 a4.size (fun k hk => (a1.lt k hk).1))
               clear ho2 hg2 ha2 hlt2 a1 a2 a3' a4 a5 a7))
          have x5 := HQ7.out.cell 5
          have f4 := HQ7.out.frozen 4
          have f5 := HQ7.out.frozen 5
          have x4 := HQ7.out.cell 4
          simp [rjCells] at x5 x4
          have hsub := HSU.out
          have hL1 := HL1.out
          go_wp2
          go_roundw
          all_goals clear hsub hL1
          all_goals subst hfin'
          case rel => exact ⟨l ++ [s], all.size - more.size, f', by rw [List.length_append, ← HLL.out]; unfold strsV at HO7 ⊢; rw [List.map_append]; exact Lib.hid (ownsRow_setCell_other (ownsRow_setCell_other HO7.out (a := ⟨q, 4, none⟩) (fun e => own_blk_ne HO7.out HQ7.out (by decide) e.symm) _) (a := ⟨q, 5, none⟩) (fun e => own_blk_ne HO7.out HQ7.out (by decide) e.symm) _), by rw [HRE.out, List.length_append, ← HLL.out, List.append_assoc, HFZ.out]; rfl, by omega, by omega, by rw [List.length_append, ← HLL.out]; simp only [List.length_cons, List.length_nil]; omega, by rw [List.length_append, ← HLL.out]; exact Lib.hid ((HQ7.out.set_ 4 _).set_ 5 _), Lib.hid ((HB7.out.setCell (p := ⟨q, 4, none⟩) HQ0.out _).setCell (p := ⟨q, 5, none⟩) HQ0.out _)⟩
          case measure => simp only; omega
        · rw [if_pos he] at hre
          have HRE := Lib.hid hre
          have t2 : (er == 0) = false := beq_eq_false_iff_ne.2 he
          have t3 : (er != 0) = true := by rw [bne, t2]; rfl
          have HOd : Hid (w6.ownsRow w.heap.size 9 1 (.slice a3 L cap3) L (strsV l)) := HO6
          have HBd : Hid (Below w.heap.size w w6) := HB6
          clear hre hmo hfi HO6 HB6 he
          have x4 := HQ6.out.cell 4
          simp [rjCells] at x4
          rw [HRE.out] at HRR2
          simp only [List.append_nil] at HRR2
          rw [← HX.out, ByteArray.size_extract, show all.size - (min all.size all.size - fin) = fin by omega] at HRR2
          rw [← HLL.out] at HRR2
          have hfz : (all.extract 0 fin).size = fin := by rw [ByteArray.size_extract]; omega
          rw [hfz] at HRR2
          have cl := Lib.hid (rclears_any F p q D ⟨turn, which, sup, fin, L, false⟩ (all.extract 0 fin) w6 (HD.out.below HBd.out) HQ6.out (fun h => by have := HFF.out q h; have := HQ0.out; omega) HK.out.2.2.1 HK.out.2.1 HK.out.1 (by omega) (by simp only; omega) HK.out.2.2.2.2)
          simp only at cl
          have HRB : Hid (R.2.2.1.b.size = fin) := by rw [HRR2.out]; exact hfz
          obtain ⟨Y, hY⟩ : ∃ Y, clearsD D which (all.extract 0 fin) (fin / 64) = Y := ⟨_, rfl⟩
          have HRY : Hid (R.1 = Y.1 ∧ R.2.1 = Y.2 ∧ R.2.2.1.turn = turn ∧ R.2.2.1.which = which ∧ R.2.2.1.n = L ∧ R.2.2.2 = l) := by
            rw [HRR2.out, ← hY]
            exact ⟨rfl, rfl, rfl, rfl, rfl, rfl⟩
          rw [hY] at cl
          clear hY HRR2 hfz HRE
          generalize hbb : all.extract 0 fin = b at cl
          obtain ⟨D2, c⟩ := Y
          simp only at cl HRY
          by_cases hc : c = 0
          · subst hc
            go_wp2_with (go_at_call 65; (with_reducible refine cl.out.mono ?_); rintro e w9 ⟨rfl, hp⟩; have HP := Lib.hid hp; clear hp)
            go_ret3
            exact ropen_yes HRY.out HRB.out (HP.out.fresh HBd.out HQ0.out HQ6.out.lt) HQ0.out HP.out.blk (by rw [← HLL.out]; exact own_same HOd.out (fun g hg => HP.out.1.block g (HOd.out.lt g hg).2 (fun h => h.elim (fun h => by have := HFF.out g h; have := (HOd.out.lt g hg).1; omega) (fun h => own_blk_ne HOd.out HQ6.out (by decide) (hg.trans (congrArg some h)).symm)))) (RefPost.far HP.out.ref HFF.out HBd.out HOd.out HQ0.out HQ6.out.lt)
          · have HC := Lib.hid hc
            have t4 : (c == 0) = false := beq_eq_false_iff_ne.2 hc
            have t5 : (c != 0) = true := by rw [bne, t4]; rfl
            clear hc
            go_wp2_with (go_at_call 65; (with_reducible refine cl.out.mono ?_); rintro e w9 ⟨rfl, hp⟩; have HP := Lib.hid hp; clear hp)
            go_ret3
            rw [← HRY.out.2.1]
            exact ropen_no (by rw [HRY.out.1]; exact HP.out.fresh HBd.out HQ0.out HQ6.out.lt) (by rw [HRY.out.2.1]; exact HC.out)
      exact AllReadyF.nil
end Go.Proofs.YtjincmagbbpooaaGreatDoor

