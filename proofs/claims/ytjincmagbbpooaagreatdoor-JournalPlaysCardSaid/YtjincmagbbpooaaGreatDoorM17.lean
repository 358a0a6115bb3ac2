import Derived.Test.YtjincmagbbpooaaGreatDoorJK
import Derived.Test.YtjincmagbbpooaaGreatDoorM7
import Derived.Test.YtjincmagbbpooaaGreatDoorM12

section
set_option linter.unusedVariables false
set_option linter.unusedSimpArgs false
namespace Go.Proofs.YtjincmagbbpooaaGreatDoor
open Go.RowKit

def jCD : Nat → List Nat
  | 0 => []
  | _ + 1 => [19, 22, 25, 28]

set_option maxHeartbeats 32000000 in
set_option maxRecDepth 100000 in
theorem jCompact_any (F : Nat → Prop) (p q : Nat) (D : DS) (J : JS) (a : Option Addr) (cap : Nat) (rs : List ByteArray) (w : World) (h : Dsk w F p D) (hq : Blk w q 87 (jCells p J)) (hn : ¬ F q) (hg : ErrVar w) (hgF : ¬ F 0) (h2 : 2 ≤ D.sure.length)
    (ht : J.turn ≤ 3000) (hwh : J.which ≤ 1) (hl : rs.length ≤ 100) (hs : ∀ r ∈ rs, r.size ≤ 1000) (ha : SlOf mkS w a rs) (hd : D.done < 1099510000000) :
    Calls Tryz.prog 17 #[.pointer (some ⟨q, 0, none⟩), .slice a rs.length cap] w fun e w' => e = .returned (errV (compactJ D J rs).2.2) ∧ JPost F p q w (compactJ D J rs).1 (compactJ D J rs).2.1 w' := by
  have HJ := Lib.hid (JPost.start h hq)
  have HNQ := Lib.hid (And.intro hn hq.lt)
  have HG := Lib.hid (And.intro hg (And.intro hgF (cell_lt hg : 0 < w.heap.size)))
  have x5 := hq.cell 5
  have x1 := hq.cell 1
  simp [jCells] at x5 x1
  have hR : compactJ D J rs = if J.dead = true then (D, J, 25) else _ := rfl
  obtain ⟨n, hnr⟩ : ∃ n, n = rs.length := ⟨_, rfl⟩
  have hnl : n ≤ 100 := by omega
  cases hdd : J.dead
  case true =>
    rw [hdd] at x5
    rw [hdd, if_pos rfl] at hR
    rw [hR, ← hnr]
    clear h hq hdd hn hg hgF hR hnr hl ha hs x1
    go_enter Tryz.func17, Tryz.ntmps17
    go_wp2
    go_ret
    exact ⟨rfl, HJ.out⟩
  rw [hdd] at x5
  rw [hdd, if_neg (by decide)] at hR
  simp only at hR
  obtain ⟨turn1, ht1⟩ : ∃ turn1, turn1 = J.turn + 1 := ⟨_, rfl⟩
  obtain ⟨oth, hoth⟩ : ∃ oth, oth = 1 - J.which := ⟨_, rfl⟩
  have ht1I : (J.turn : Int) + 1 = (turn1 : Int) := by omega
  have htW : IntKind.i64.wrap ((J.turn : Int) + 1) = (turn1 : Int) := by rw [ht1I]; exact IntWalk.i64_in _ (by omega)
  have htW2 : IntKind.i64.wrap (turn1 : Int) = (turn1 : Int) := IntWalk.i64_in _ (by omega)
  have hoI : (1 : Int) - (J.which : Int) = (oth : Int) := by omega
  have hoW : IntKind.i64.wrap (oth : Int) = (oth : Int) := IntWalk.i64_in _ (by omega)
  rw [← ht1, ← hoth] at hR
  have cw : Hid (Calls Tryz.prog 52 #[.pointer (some ⟨q, 0, none⟩), .string ⟨#[]⟩, .int .i64 (turn1 : Int), .int .i64 0, .slice a n cap] w fun e w' => e = .returned (.tuple #[.string (wrapJ (D.half * 64) turn1 0 rs ⟨#[]⟩).1, errV (wrapJ (D.half * 64) turn1 0 rs ⟨#[]⟩).2]) ∧ Below w.heap.size w w') := by
    rw [hnr]
    exact wrap_any F p q D J ⟨#[]⟩ turn1 0 a cap rs w h hq h2 (by omega) (by omega) hl hs (by decide) ha
  have hxz : (wrapJ (D.half * 64) turn1 0 rs ⟨#[]⟩).1.size ≤ 63936 := by
    have := half_le h.ok
    unfold wrapJ
    split
    · exact Nat.zero_le _
    · simp only; omega
  generalize wrapJ (D.half * 64) turn1 0 rs ⟨#[]⟩ = X at cw hR hxz
  obtain ⟨b, er⟩ := X
  simp only at cw hR hxz
  rw [← hnr] at hR ⊢
  have cy := Lib.hid (fun W (G : Nat → Prop) (hG : Dsk W G p D) (hQ : Blk W q 87 (jCells p J)) (hnG : ¬ G q) (hgW : ErrVar W) (hgG : ¬ G 0) => lays_any G p q D J b W hG hQ hnG hgW hgG h2 (by omega) hwh (by omega) hd)
  obtain ⟨Y, hY⟩ : ∃ Y, Y = laysJ D J b := ⟨_, rfl⟩
  rw [← hY] at cy hR
  obtain ⟨D2, c2⟩ := Y
  simp only at cy hR
  generalize compactJ D J rs = R at hR ⊢
  have HDD := Lib.hid hdd
  clear h hq hdd hn hg hgF hl hs ha hd hY hxz ht1 hoth hnr ht
  go_enter Tryz.func17, Tryz.ntmps17
  by_cases he : er = 0
  case neg =>
    rw [if_pos he] at hR
    rw [errV_ne he] at cw
    have HR5 := Lib.hid hR
    have HE := Lib.hid (errV_ne he)
    clear hR he cy
    go_wp2_with (go_at_call 52; (with_reducible refine cw.out.mono ?_); rintro e w1 ⟨rfl, hb⟩; have HJ1 := Lib.hid (HJ.out.below hb); clear hb)
    go_ret
    rw [HR5.out]
    exact ⟨by rw [HE.out]; rfl, HJ1.out⟩
  subst he
  rw [if_neg (by decide)] at hR
  rw [errV_zero] at cw
  by_cases hc : c2 = 0
  case neg =>
    rw [if_pos hc] at hR
    have HR5 := Lib.hid hR
    have cz := Lib.hid (fun W (G : Nat → Prop) (hG : Dsk W G p D2) (hQ : Blk W q 87 (jCells p J)) => fails_any G p q D2 J c2 W hG hQ)
    unfold JS.fail at cz
    rw [if_neg hc] at cz
    rw [errV_ne hc] at cy cz
    have HE := Lib.hid (errV_ne hc)
    clear hR hc
    go_wp2_with (first
      | (go_at_call 52; (with_reducible refine cw.out.mono ?_); rintro e w1 ⟨rfl, hb⟩; have HJ1 := Lib.hid (HJ.out.below hb); have HB1 := Lib.hid hb; clear hb)
      | (go_at_call 53; (with_reducible refine (cy.out _ _ HJ1.out.dsk HJ1.out.blk (plus_q HNQ.out.1 HNQ.out.2) (ErrVar.below HG.out.1 HB1.out) (plus_q HG.out.2.1 HG.out.2.2)).mono ?_); rintro e w2 ⟨rfl, hp⟩; have HJ2 := Lib.hid (HJ1.out.then HNQ.out.1 HNQ.out.2 hp); clear hp)
      | (go_at_call 51; (with_reducible refine (cz.out _ _ HJ2.out.dsk HJ2.out.blk).mono ?_); rintro e w3 ⟨rfl, hp⟩; have HJ3 := Lib.hid (HJ2.out.then HNQ.out.1 HNQ.out.2 hp); clear hp))
    go_ret
    rw [HR5.out]
    exact ⟨by rw [HE.out]; rfl, HJ3.out⟩
  subst hc
  rw [if_neg (by decide)] at hR
  rw [errV_zero] at cy
  have HR5 := Lib.hid hR
  clear hR
  go_upto_region 9 with (first
    | (go_at_call 52; (with_reducible refine cw.out.mono ?_); rintro e w1 ⟨rfl, hb⟩; have HJ1 := Lib.hid (HJ.out.below hb); have HB1 := Lib.hid hb; clear hb)
    | (go_at_call 53; (with_reducible refine (cy.out _ _ HJ1.out.dsk HJ1.out.blk (plus_q HNQ.out.1 HNQ.out.2) (ErrVar.below HG.out.1 HB1.out) (plus_q HG.out.2.1 HG.out.2.2)).mono ?_); rintro e w2 ⟨rfl, hp⟩; have HJ2 := Lib.hid (HJ1.out.then HNQ.out.1 HNQ.out.2 hp); clear hp))
  clear HJ
  have HJ := Lib.hid (HJ2.out.below ((Below.refl _ _).drew))
  have HQ := Lib.hid (HJ.out.blk)
  have b1 := HJ2.out.blk.cell 1
  have b2 := HJ2.out.blk.cell 2
  have b3 := HJ2.out.blk.cell 3
  have b4 := HJ2.out.blk.cell 4
  have f1 := HJ2.out.blk.frozen 1
  have f2 := HJ2.out.blk.frozen 2
  have f3 := HJ2.out.blk.frozen 3
  have f4 := HJ2.out.blk.frozen 4
  simp [jCells] at b1 b2 b3 b4
  clear x1 x5
  refine wp_region_fam (S := (jA q p J)) (ds := jCD) (by kernel_rfl) ?_
  refine wpFam_take (i := 0) 0 (some 35) (v := ?_) rfl (by kernel_rfl) (by kernel_rfl) (by kernel_rfl) (by kernel_rfl) (by kernel_rfl) (fun _ _ _ h => h) rfl (Or.inl ⟨by rfl, ?_⟩) (by exact trivial) ?_
  rotate_left
  · (intro w hSw; (try simp only [jA] at hSw); go_simp); (try with_reducible rfl)
  try simp only [Act.put, List.setIfInBounds_toArray, List.set_cons_zero, List.set_cons_succ]
  refine wpFam_take (i := 1) 0 (some 36) (v := ?_) rfl (by kernel_rfl) (by kernel_rfl) (by kernel_rfl) (by kernel_rfl) (by kernel_rfl) (fun _ _ _ h => h) rfl (Or.inl ⟨by rfl, ?_⟩) (by exact trivial) ?_
  rotate_left
  · (intro w hSw; (try simp only [jA] at hSw); go_simp); (try with_reducible rfl)
  try simp only [Act.put, List.setIfInBounds_toArray, List.set_cons_zero, List.set_cons_succ]
  refine wpFam_take (i := 2) 0 (some 37) (v := ?_) rfl (by kernel_rfl) (by kernel_rfl) (by kernel_rfl) (by kernel_rfl) (by kernel_rfl) (fun _ _ _ h => h) rfl (Or.inl ⟨by rfl, ?_⟩) (by exact trivial) ?_
  rotate_left
  · (intro w hSw; (try simp only [jA] at hSw); go_simp); (try with_reducible rfl)
  try simp only [Act.put, List.setIfInBounds_toArray, List.set_cons_zero, List.set_cons_succ]
  refine wpFam_take (i := 3) 0 (some 38) (v := ?_) rfl (by kernel_rfl) (by kernel_rfl) (by kernel_rfl) (by kernel_rfl) (by kernel_rfl) (fun _ _ _ h => h) rfl (Or.inl ⟨by rfl, ?_⟩) (by exact trivial) ?_
  rotate_left
  · (intro w hSw; (try simp only [jA] at hSw); go_simp); (try with_reducible rfl)
  try simp only [Act.put, List.setIfInBounds_toArray, List.set_cons_zero, List.set_cons_succ]
  refine wpFam_take (i := 4) 0 (some 39) (v := ?_) rfl (by kernel_rfl) (by kernel_rfl) (by kernel_rfl) (by kernel_rfl) (by kernel_rfl) (fun _ _ _ h => h) rfl (Or.inl ⟨by rfl, ?_⟩) (by exact trivial) ?_
  rotate_left
  · (intro w hSw; (try simp only [jA] at hSw); go_simp); (try with_reducible rfl)
  try simp only [Act.put, List.setIfInBounds_toArray, List.set_cons_zero, List.set_cons_succ]
  refine wpFam_take (i := 5) 0 (some 40) (v := ?_) rfl (by kernel_rfl) (by kernel_rfl) (by kernel_rfl) (by kernel_rfl) (by kernel_rfl) (fun _ _ _ h => h) rfl (Or.inl ⟨by rfl, ?_⟩) (by exact trivial) ?_
  rotate_left
  · (intro w hSw; (try simp only [jA] at hSw); go_simp); (try with_reducible rfl)
  try simp only [Act.put, List.setIfInBounds_toArray, List.set_cons_zero, List.set_cons_succ]
  refine wpFam_take (i := 6) 0 (some 41) (v := ?_) rfl (by kernel_rfl) (by kernel_rfl) (by kernel_rfl) (by kernel_rfl) (by kernel_rfl) (fun _ _ _ h => h) rfl (Or.inl ⟨by rfl, ?_⟩) (by exact trivial) ?_
  rotate_left
  · (intro w hSw; (try simp only [jA] at hSw); go_simp); (try with_reducible rfl)
  try simp only [Act.put, List.setIfInBounds_toArray, List.set_cons_zero, List.set_cons_succ]
  refine wpFam_take (i := 7) 2 (some 42) (v := ?_) rfl (by kernel_rfl) (by kernel_rfl) (by kernel_rfl) (by kernel_rfl) (by kernel_rfl) (fun _ _ _ h => h) rfl (Or.inl ⟨by rfl, ?_⟩) (by exact jA_of HQ.out 2) ?_
  rotate_left
  · (intro w hSw; (try simp only [jA] at hSw); go_simp); (try with_reducible rfl)
  try simp only [Act.put, List.setIfInBounds_toArray, List.set_cons_zero, List.set_cons_succ]
  refine wpFam_take (i := 8) 0 (some 43) (v := ?_) rfl (by kernel_rfl) (by kernel_rfl) (by kernel_rfl) (by kernel_rfl) (by kernel_rfl) (fun _ _ _ h => h) rfl (Or.inl ⟨by rfl, ?_⟩) (by exact trivial) ?_
  rotate_left
  · (intro w hSw; (try simp only [jA] at hSw); go_simp); (try with_reducible rfl)
  try simp only [Act.put, List.setIfInBounds_toArray, List.set_cons_zero, List.set_cons_succ]
  refine wpFam_take (i := 9) 0 (some 44) (v := ?_) rfl (by kernel_rfl) (by kernel_rfl) (by kernel_rfl) (by kernel_rfl) (by kernel_rfl) (fun _ _ _ h => h) rfl (Or.inl ⟨by rfl, ?_⟩) (by exact trivial) ?_
  rotate_left
  · (intro w hSw; (try simp only [jA] at hSw); go_simp); (try with_reducible rfl)
  try simp only [Act.put, List.setIfInBounds_toArray, List.set_cons_zero, List.set_cons_succ]
  refine wpFam_take (i := 10) 0 (some 45) (v := ?_) rfl (by kernel_rfl) (by kernel_rfl) (by kernel_rfl) (by kernel_rfl) (by kernel_rfl) (fun _ _ _ h => h) rfl (Or.inl ⟨by rfl, ?_⟩) (by exact trivial) ?_
  rotate_left
  · (intro w hSw; (try simp only [jA] at hSw); go_simp); (try with_reducible rfl)
  try simp only [Act.put, List.setIfInBounds_toArray, List.set_cons_zero, List.set_cons_succ]
  refine wpFam_take (i := 11) 0 (some 46) (v := ?_) rfl (by kernel_rfl) (by kernel_rfl) (by kernel_rfl) (by kernel_rfl) (by kernel_rfl) (fun _ _ _ h => h) rfl (Or.inl ⟨by rfl, ?_⟩) (by exact trivial) ?_
  rotate_left
  · (intro w hSw; (try simp only [jA] at hSw); go_simp); (try with_reducible rfl)
  try simp only [Act.put, List.setIfInBounds_toArray, List.set_cons_zero, List.set_cons_succ]
  refine wpFam_take (i := 12) 3 (some 47) (v := ?_) rfl (by kernel_rfl) (by kernel_rfl) (by kernel_rfl) (by kernel_rfl) (by kernel_rfl) (fun _ _ _ h => h) rfl (Or.inl ⟨by rfl, ?_⟩) (by exact jA_of HQ.out 3) ?_
  rotate_left
  · (intro w hSw; (try simp only [jA] at hSw); go_simp); (try with_reducible rfl)
  try simp only [Act.put, List.setIfInBounds_toArray, List.set_cons_zero, List.set_cons_succ]
  refine wpFam_take (i := 13) 0 (some 48) (v := ?_) rfl (by kernel_rfl) (by kernel_rfl) (by kernel_rfl) (by kernel_rfl) (by kernel_rfl) (fun _ _ _ h => h) rfl (Or.inl ⟨by rfl, ?_⟩) (by exact trivial) ?_
  rotate_left
  · (intro w hSw; (try simp only [jA] at hSw); go_simp); (try with_reducible rfl)
  try simp only [Act.put, List.setIfInBounds_toArray, List.set_cons_zero, List.set_cons_succ]
  refine wpFam_take (i := 14) 0 (some 49) (v := ?_) rfl (by kernel_rfl) (by kernel_rfl) (by kernel_rfl) (by kernel_rfl) (by kernel_rfl) (fun _ _ _ h => h) rfl (Or.inl ⟨by rfl, ?_⟩) (by exact trivial) ?_
  rotate_left
  · (intro w hSw; (try simp only [jA] at hSw); go_simp); (try with_reducible rfl)
  try simp only [Act.put, List.setIfInBounds_toArray, List.set_cons_zero, List.set_cons_succ]
  refine wpFam_take (i := 15) 0 (some 50) (v := ?_) rfl (by kernel_rfl) (by kernel_rfl) (by kernel_rfl) (by kernel_rfl) (by kernel_rfl) (fun _ _ _ h => h) rfl (Or.inl ⟨by rfl, ?_⟩) (by exact trivial) ?_
  rotate_left
  · (intro w hSw; (try simp only [jA] at hSw); go_simp); (try with_reducible rfl)
  try simp only [Act.put, List.setIfInBounds_toArray, List.set_cons_zero, List.set_cons_succ]
  refine wpFam_take (i := 16) 0 (some 51) (v := ?_) rfl (by kernel_rfl) (by kernel_rfl) (by kernel_rfl) (by kernel_rfl) (by kernel_rfl) (fun _ _ _ h => h) rfl (Or.inl ⟨by rfl, ?_⟩) (by exact trivial) ?_
  rotate_left
  · (intro w hSw; (try simp only [jA] at hSw); go_simp); (try with_reducible rfl)
  try simp only [Act.put, List.setIfInBounds_toArray, List.set_cons_zero, List.set_cons_succ]
  refine wpFam_take (i := 17) 0 (some 52) (v := ?_) rfl (by kernel_rfl) (by kernel_rfl) (by kernel_rfl) (by kernel_rfl) (by kernel_rfl) (fun _ _ _ h => h) rfl (Or.inl ⟨by rfl, ?_⟩) (by exact trivial) ?_
  rotate_left
  · (intro w hSw; (try simp only [jA] at hSw); go_simp); (try with_reducible rfl)
  try simp only [Act.put, List.setIfInBounds_toArray, List.set_cons_zero, List.set_cons_succ]
  refine wpFam_take (i := 18) 0 (some 53) (v := ?_) rfl (by kernel_rfl) (by kernel_rfl) (by kernel_rfl) (by kernel_rfl) (by kernel_rfl) (fun _ _ _ h => h) rfl (Or.inl ⟨by rfl, ?_⟩) (by exact trivial) ?_
  rotate_left
  · (intro w hSw; (try simp only [jA] at hSw); go_simp); (try with_reducible rfl)
  try simp only [Act.put, List.setIfInBounds_toArray, List.set_cons_zero, List.set_cons_succ]
  refine wpFam_ready (rs := [19]) (by kernel_rfl) (by simp) ?_
  refine AllReadyF.cons (i := 19) rfl (fun K hK => ?_) ?_
  ·
    go_simp
    replace HJ := Lib.hid (HJ.out.set 1 (.int .i64 (turn1 : Int)) (J2 := ⟨turn1, J.which, J.b, J.n, J.dead⟩) rfl)
    refine hK.out _ _ ?_ ?_
    · ((intro i hq _; match i, hq with | 0, _ => exact trivial | n + 1, hq => exact absurd (by simp [jCD]) hq))
    clear hK K
    try simp only [Act.put, List.setIfInBounds_toArray, List.set_cons_zero, List.set_cons_succ]
    refine wpFam_take (i := 20) 0 (some 54) (v := ?_) rfl (by kernel_rfl) (by kernel_rfl) (by kernel_rfl) (by kernel_rfl) (by kernel_rfl) (fun _ _ _ h => h) rfl (Or.inl ⟨by rfl, ?_⟩) (by exact trivial) ?_
    rotate_left
    · (intro w hSw; (try simp only [jA] at hSw); go_simp); (try with_reducible rfl)
    try simp only [Act.put, List.setIfInBounds_toArray, List.set_cons_zero, List.set_cons_succ]
    refine wpFam_take (i := 21) 0 (some 55) (v := ?_) rfl (by kernel_rfl) (by kernel_rfl) (by kernel_rfl) (by kernel_rfl) (by kernel_rfl) (fun _ _ _ h => h) rfl (Or.inl ⟨by rfl, ?_⟩) (by exact trivial) ?_
    rotate_left
    · (intro w hSw; (try simp only [jA] at hSw); go_simp); (try with_reducible rfl)
    try simp only [Act.put, List.setIfInBounds_toArray, List.set_cons_zero, List.set_cons_succ]
    refine wpFam_ready (rs := [22]) (by kernel_rfl) (by simp) ?_
    refine AllReadyF.cons (i := 22) rfl (fun K hK => ?_) ?_
    ·
      go_simp
      replace HJ := Lib.hid (HJ.out.set 2 (.int .i64 (oth : Int)) (J2 := ⟨turn1, oth, J.b, J.n, J.dead⟩) rfl)
      refine hK.out _ _ ?_ ?_
      · ((intro i hq _; match i, hq with | 0, _ => exact trivial | n + 1, hq => exact absurd (by simp [jCD]) hq))
      clear hK K
      try simp only [Act.put, List.setIfInBounds_toArray, List.set_cons_zero, List.set_cons_succ]
      refine wpFam_take (i := 23) 0 (some 56) (v := ?_) rfl (by kernel_rfl) (by kernel_rfl) (by kernel_rfl) (by kernel_rfl) (by kernel_rfl) (fun _ _ _ h => h) rfl (Or.inl ⟨by rfl, ?_⟩) (by exact trivial) ?_
      rotate_left
      · (intro w hSw; (try simp only [jA] at hSw); go_simp); (try with_reducible rfl)
      try simp only [Act.put, List.setIfInBounds_toArray, List.set_cons_zero, List.set_cons_succ]
      refine wpFam_take (i := 24) 0 (some 57) (v := ?_) rfl (by kernel_rfl) (by kernel_rfl) (by kernel_rfl) (by kernel_rfl) (by kernel_rfl) (fun _ _ _ h => h) rfl (Or.inl ⟨by rfl, ?_⟩) (by exact trivial) ?_
      rotate_left
      · (intro w hSw; (try simp only [jA] at hSw); go_simp); (try with_reducible rfl)
      try simp only [Act.put, List.setIfInBounds_toArray, List.set_cons_zero, List.set_cons_succ]
      refine wpFam_ready (rs := [25]) (by kernel_rfl) (by simp) ?_
      refine AllReadyF.cons (i := 25) rfl (fun K hK => ?_) ?_
      ·
        go_simp
        replace HJ := Lib.hid (HJ.out.set 3 (.string b) (J2 := ⟨turn1, oth, b, J.n, J.dead⟩) rfl)
        refine hK.out _ _ ?_ ?_
        · ((intro i hq _; match i, hq with | 0, _ => exact trivial | n + 1, hq => exact absurd (by simp [jCD]) hq))
        clear hK K
        try simp only [Act.put, List.setIfInBounds_toArray, List.set_cons_zero, List.set_cons_succ]
        refine wpFam_take (i := 26) 0 (some 58) (v := ?_) rfl (by kernel_rfl) (by kernel_rfl) (by kernel_rfl) (by kernel_rfl) (by kernel_rfl) (fun _ _ _ h => h) rfl (Or.inl ⟨by rfl, ?_⟩) (by exact trivial) ?_
        rotate_left
        · (intro w hSw; (try simp only [jA] at hSw); go_simp); (try with_reducible rfl)
        try simp only [Act.put, List.setIfInBounds_toArray, List.set_cons_zero, List.set_cons_succ]
        refine wpFam_take (i := 27) 0 (some 59) (v := ?_) rfl (by kernel_rfl) (by kernel_rfl) (by kernel_rfl) (by kernel_rfl) (by kernel_rfl) (fun _ _ _ h => h) rfl (Or.inl ⟨by rfl, ?_⟩) (by exact trivial) ?_
        rotate_left
        · (intro w hSw; (try simp only [jA] at hSw); go_simp); (try with_reducible rfl)
        try simp only [Act.put, List.setIfInBounds_toArray, List.set_cons_zero, List.set_cons_succ]
        refine wpFam_ready (rs := [28]) (by kernel_rfl) (by simp) ?_
        refine AllReadyF.cons (i := 28) rfl (fun K hK => ?_) ?_
        ·
          go_simp
          replace HJ := Lib.hid (HJ.out.set 4 (.int .i64 (n : Int)) (J2 := ⟨turn1, oth, b, n, J.dead⟩) rfl)
          refine hK.out _ _ ?_ ?_
          · ((intro i hq _; match i, hq with | 0, _ => exact trivial | n + 1, hq => exact absurd (by simp [jCD]) hq))
          clear hK K
          try simp only [Act.put, List.setIfInBounds_toArray, List.set_cons_zero, List.set_cons_succ]
          refine wpFam_done (by kernel_rfl) ?_ _
          go_wp2
          go_ret
          rw [HR5.out]
          refine ⟨rfl, ?_⟩
          have hfin := HJ.out
          rw [HDD.out] at hfin
          exact hfin
        exact AllReadyF.nil
      exact AllReadyF.nil
    exact AllReadyF.nil
  exact AllReadyF.nil
end Go.Proofs.YtjincmagbbpooaaGreatDoor
end

section
set_option linter.unusedVariables false
set_option linter.unusedSimpArgs false
namespace Go.Proofs.YtjincmagbbpooaaGreatDoor
open Go.RowKit

/-! ### the document's journal: its disk's half, superblocks, Format -/
section
variable {F : Nat → Prop} {p : Nat} {w w1 w2 : World} {D D1 D2 : DS}
theorem RefPost.ref (h : RefPost F p w D w1) : Ref w1 (Plus F w w1) p D := h.2
theorem RefPost.start (h : Ref w F p D) : RefPost F p w D w := ⟨Save.refl _ _, h.mono fun k _ hk => .inl hk⟩
theorem RefPost.then (h : RefPost F p w D1 w1) (k : RefPost (Plus F w w1) p w1 D2 w2) : RefPost F p w D2 w2 := by
  refine ⟨h.1.trans k.1, k.2.mono fun x hx hp => ?_⟩
  have h1 := h.1.size
  rcases hp with (hp | hp) | hp
  · exact .inl hp
  · exact .inr ⟨hp.1, Nat.lt_of_lt_of_le hp.2 k.1.size⟩
  · exact .inr ⟨by omega, hp.2⟩
theorem RefPost.below (h : RefPost F p w D w1) (hb : Below w1.heap.size w1 w2) : RefPost F p w D w2 :=
  ⟨h.1.belowStep hb, (h.2.below hb).mono fun k hk hp => hp.elim .inl (fun h => .inr ⟨h.1, hk⟩)⟩
end
theorem rhalf_any (w : World) (F : Nat → Prop) (p : Nat) (D : DS) (h2 : 2 ≤ D.sure.length) (h : Ref w F p D) :
    Calls Tryz.prog 59 #[.pointer (some ⟨p, 0, none⟩)] w fun e w' => e = .returned (.int .i64 (D.half : Int)) ∧ w = w' := by
  have hm := h.ok.most
  obtain ⟨sv, av, bv, hd, hf⟩ := h
  obtain ⟨c0, -⟩ := hd.cells
  obtain ⟨a, c, es⟩ := own_len hd.s
  rw [es] at c0
  unfold DS.half
  generalize D.sure.length = n at c0 h2 hm ⊢
  obtain ⟨k, hk⟩ : ∃ k : Nat, (n - 2) / 2 = k := ⟨_, rfl⟩
  have q2 : ((n : Int) - 2) / 2 = (k : Int) := by omega
  have q0 : (0 : Int) ≤ (n : Int) - 2 := by omega
  rw [hk]
  clear hd hf es hk
  go_enter Tryz.func59, Tryz.ntmps59
  go_wp2
  go_ret
  exact ⟨by show Ending.returned (.int .i64 (((n : Int) - 2) / 2)) = _; rw [q2], rfl⟩
theorem rsuper_any (turn which : Nat) (ht : turn < 4294967296) (hw : which ≤ 1) (w : World) :
    Calls Tryz.prog 61 #[.int .i64 (turn : Int), .int .i64 (which : Int)] w fun e w' => e = .returned (.string (superB turn which)) ∧ Below w.heap.size w w' := by
  have cn := Lib.hid (fun W => rNum_any (which : Int) which (by unfold mxI; split <;> omega) (by omega) W)
  have hz := num_size which (by omega)
  have cw := Lib.hid (fun W => rWrap_gen (turn : Int) turn (strN (numB which)) (by unfold mxI; split <;> omega) (by omega) (by omega) W)
  rw [show wrapS turn (strN (numB which)) = superB turn which from rfl] at cw
  generalize strN (numB which) = s at cn cw
  generalize superB turn which = b at cw ⊢
  clear hz
  go_enter Tryz.func61, Tryz.ntmps61
  go_wp2_with (first
    | (go_at_call 87; (with_reducible refine (cn.out _).mono ?_); rintro e w1 ⟨rfl, hb⟩; have HB := Lib.hid hb; clear hb)
    | (go_at_call 67; (with_reducible refine (cw.out _).mono ?_); rintro e w2 ⟨rfl, hb⟩; have HB2 := Lib.hid (below_step HB.out hb); clear hb))
  go_ret
  exact ⟨rfl, HB2.out⟩
theorem write_dead {D : DS} (h : D.writeC 1 ⟨#[]⟩ = 0) : D.dead = false := (DS.may_zero.1 (DS.writeC_zero.1 h).1).1
theorem fill_fill {b : ByteArray} (h : b.size ≤ 64) : fillB (fillB b) = fillB b := by
  have h1 : (fillB b).size = 64 := fillB_size _ h
  generalize fillB b = x at h1
  unfold fillB
  rw [h1]
  exact append_empty x
/-- A filled sector is written as the part itself. -/
theorem write_fill (D : DS) (i : Int) {b : ByteArray} (h : b.size ≤ 64) : D.writeC i (fillB b) = D.writeC i b ∧ D.write i (fillB b) = D.write i b := by
  have h1 : (fillB b).size = 64 := fillB_size _ h
  have hc : D.writeC i (fillB b) = D.writeC i b := by
    unfold DS.writeC
    rw [if_neg (show ¬ 64 < (fillB b).size by omega), if_neg (show ¬ 64 < b.size by omega)]
  refine ⟨hc, ?_⟩
  unfold DS.write
  rw [hc]
  have hp : D.put i.toNat (fillB b) = D.put i.toNat b := by unfold DS.put; rw [fill_fill h]
  rw [hp]
  by_cases h0 : D.writeC i b = 0
  · rw [if_pos h0, if_pos h0]
  · rw [if_neg h0, if_neg h0]
    by_cases hm : D.may i = 0
    · rw [if_pos ⟨hm, by omega⟩, if_pos ⟨hm, h⟩]
    · rw [if_neg (fun h => hm h.1), if_neg (fun h => hm h.1)]
theorem write_alive {D : DS} {i : Int} {b : ByteArray} (h : D.writeC i b = 0) : (D.write i b).dead = false := by
  unfold DS.write
  rw [if_pos h]
  exact (DS.may_zero.1 (DS.writeC_zero.1 h).1).1
theorem part_nil (i : Nat) : partB ⟨#[]⟩ i 64 = ⟨#[]⟩ := by
  have : (partB ⟨#[]⟩ i 64).size = 0 := by unfold partB; rw [ByteArray.size_extract]; simp [ByteArray.size]
  apply bys_inj
  have h := bys_length (partB ⟨#[]⟩ i 64)
  rw [this] at h
  exact List.eq_nil_of_length_eq_zero h
end Go.Proofs.YtjincmagbbpooaaGreatDoor
end
