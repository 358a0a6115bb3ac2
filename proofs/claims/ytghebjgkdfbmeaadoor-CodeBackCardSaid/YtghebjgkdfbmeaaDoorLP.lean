import Derived.Test.YtghebjgkdfbmeaaDoorKN
set_option linter.unusedVariables false
set_option linter.unusedSimpArgs false
namespace Go.Proofs.YtghebjgkdfbmeaaDoor
open Go.RowKit

theorem numI_lit (k : Nat) (h : k < 128) : numI (k : Int) = strN [k] := by
  unfold numI
  have : (mxI (k : Int) 0).toNat = k := by unfold mxI; rw [if_neg (by omega)]; omega
  rw [this, numB_small h]
theorem bytes_pi (a b : Tm) : bytesT (.node 4 0 ⟨#[]⟩ a b .nil) = ⟨#[4]⟩ ++ bytesT a ++ bytesT b := by
  show numI ((4 : Nat) : Int) ++ bytesT a ++ bytesT b ++ ⟨#[]⟩ = _
  rw [append_empty, numI_lit 4 (by decide)]; rfl
theorem bytes_lam (a b : Tm) : bytesT (.node 5 0 ⟨#[]⟩ a b .nil) = ⟨#[5]⟩ ++ bytesT a ++ bytesT b := by
  show numI ((5 : Nat) : Int) ++ bytesT a ++ bytesT b ++ ⟨#[]⟩ = _
  rw [append_empty, numI_lit 5 (by decide)]; rfl
theorem bytes_app (a b : Tm) : bytesT (.node 6 0 ⟨#[]⟩ a b .nil) = ⟨#[6]⟩ ++ bytesT a ++ bytesT b := by
  show numI ((6 : Nat) : Int) ++ bytesT a ++ bytesT b ++ ⟨#[]⟩ = _
  rw [append_empty, numI_lit 6 (by decide)]; rfl
theorem bytes_let (a b c : Tm) : bytesT (.node 7 0 ⟨#[]⟩ a b c) = ⟨#[7]⟩ ++ bytesT a ++ bytesT b ++ bytesT c := by
  show numI ((7 : Nat) : Int) ++ bytesT a ++ bytesT b ++ bytesT c = _
  rw [numI_lit 7 (by decide)]; rfl
theorem good_two {a b : Tm} (k : Int) (hk : k = 4 ∨ k = 5 ∨ k = 6) (ha : goodT a = true) (hb : goodT b = true) : goodT (.node k 0 ⟨#[]⟩ a b .nil) = true := by
  have hp : partsN k = 2 := by unfold partsN; rw [if_pos hk]
  have hl : leafB k 0 ⟨#[]⟩ = true := by rcases hk with rfl | rfl | rfl <;> decide +kernel
  unfold goodT partG
  rw [hp, hl, ha, hb]
  rfl
theorem good_let {a b c : Tm} (ha : goodT a = true) (hb : goodT b = true) (hc : goodT c = true) : goodT (.node 7 0 ⟨#[]⟩ a b c) = true := by
  have hp : partsN 7 = 3 := by decide
  have hl : leafB 7 0 ⟨#[]⟩ = true := by decide +kernel
  unfold goodT partG
  rw [hp, hl, ha, hb, hc]
  rfl
theorem size_of {t : Tm} (h : sizeT t ≤ 3000) : mnI (sizeT t : Int) 3001 = (sizeT t : Int) := by unfold mnI; rw [if_neg (by omega)]

set_option maxHeartbeats 32000000 in
set_option maxRecDepth 100000 in
theorem CodeParts_any (s u v : ByteArray) (hs : s.size ≤ 9223372036854775807) (hu : u.size ≤ 9223372036854775807) (hv : v.size ≤ 9223372036854775807) (w : World) (he : ErrVar w) (hm : MaxV w) :
    Calls Tryd.prog 6 #[.string s, .string u, .string v] w (fun e w' => e = .returned (.bool true) ∧ Below w.heap.size w w') := by
  have ck := Lib.hid (known8_any w he hm)
  have cA := Lib.hid (fun W => Term_any s hs W)
  have cB := Lib.hid (fun W => Term_any u hu W)
  have cC := Lib.hid (fun W => Term_any v hv W)
  unfold TmPost at cA cB cC
  have gA : termT s ≠ .nil → goodT (termT s) = true ∧ sizeT (termT s) ≤ 3000 := termT_good
  have gB : termT u ≠ .nil → goodT (termT u) = true ∧ sizeT (termT u) ≤ 3000 := termT_good
  have gC : termT v ≠ .nil → goodT (termT v) = true ∧ sizeT (termT v) ≤ 3000 := termT_good
  generalize termT s = a at cA gA
  generalize termT u = b at cB gB
  generalize termT v = c at cC gC
  have HG := Lib.hid (And.intro gA (And.intro gB gC))
  have HV := Lib.hid (And.intro he hm)
  clear gA gB gC hs hu hv he hm
  go_enter Tryd.func6, Tryd.ntmps6
  go_upto_region 4 with (first
    | (go_at_call 7; (with_reducible refine ck.out.mono ?_); rintro e w0 ⟨rfl, hb⟩; have HB0 := Lib.hid hb; clear hb)
    | (go_at_call 8; (with_reducible refine (cA.out _).mono ?_); rintro e w1 ⟨p1, rfl, hp, hb⟩; have HP1 := Lib.hid (hp.mono HB0.out.size); have HB1 := Lib.hid (below_step' HB0.out hb); clear hp hb)
    | (go_at_call 8; (with_reducible refine (cB.out _).mono ?_); rintro e w2 ⟨p2, rfl, hp, hb⟩; have HP12 := Lib.hid (HP1.out.below hb); have HP2 := Lib.hid (hp.mono HB1.out.size); have HB2 := Lib.hid (below_step' HB1.out hb); clear hp hb)
    | (go_at_call 8; (with_reducible refine (cC.out _).mono ?_); rintro e w3 ⟨p3, rfl, hp, hb⟩; have HP13 := Lib.hid (HP12.out.below hb); have HP23 := Lib.hid (HP2.out.below hb); have HP3 := Lib.hid (hp.mono HB2.out.size); have HB3 := Lib.hid (below_step' HB2.out hb); clear hp hb))
  by_cases ha : a = .nil
  · obtain rfl : p1 = none := HP13.out.nil_iff.2 ha
    clear ha
    go_wp2
    go_ret
    exact ⟨rfl, HB3.out⟩
  by_cases hb : b = .nil
  · obtain rfl : p2 = none := HP23.out.nil_iff.2 hb
    obtain ⟨ad, rfl⟩ : ∃ ad, p1 = some ad := by cases h : p1 with
      | none => exact absurd (HP13.out.nil_iff.1 h) ha
      | some ad => exact ⟨ad, rfl⟩
    clear ha hb
    go_wp2
    go_ret
    exact ⟨rfl, HB3.out⟩
  by_cases hc : c = .nil
  · obtain rfl : p3 = none := HP3.out.nil_iff.2 hc
    obtain ⟨ad, rfl⟩ : ∃ ad, p1 = some ad := by cases h : p1 with
      | none => exact absurd (HP13.out.nil_iff.1 h) ha
      | some ad => exact ⟨ad, rfl⟩
    obtain ⟨bd, rfl⟩ : ∃ bd, p2 = some bd := by cases h : p2 with
      | none => exact absurd (HP23.out.nil_iff.1 h) hb
      | some bd => exact ⟨bd, rfl⟩
    clear ha hb hc
    go_wp2
    go_ret
    exact ⟨rfl, HB3.out⟩
  obtain ⟨ga, sa⟩ := HG.out.1 ha
  obtain ⟨gb, sb⟩ := HG.out.2.1 hb
  obtain ⟨gc, sc⟩ := HG.out.2.2 hc
  obtain ⟨ad, rfl⟩ : ∃ ad, p1 = some ad := by cases h : p1 with
    | none => exact absurd (HP13.out.nil_iff.1 h) ha
    | some ad => exact ⟨ad, rfl⟩
  obtain ⟨bd, rfl⟩ : ∃ bd, p2 = some bd := by cases h : p2 with
    | none => exact absurd (HP23.out.nil_iff.1 h) hb
    | some bd => exact ⟨bd, rfl⟩
  obtain ⟨cd, rfl⟩ : ∃ cd, p3 = some cd := by cases h : p3 with
    | none => exact absurd (HP3.out.nil_iff.1 h) hc
    | some cd => exact ⟨cd, rfl⟩
  clear ha hb hc HG ck cA cB cC HP1 HP12 HP2
  have sA := Size_any a (some ad) w.heap.size w3 HP13.out
  have sB := Size_any b (some bd) w.heap.size w3 HP23.out
  have sC := Size_any c (some cd) w.heap.size w3 HP3.out
  rw [size_of sa] at sA
  rw [size_of sb] at sB
  rw [size_of sc] at sC
  have SA := Lib.hid sA
  have SB := Lib.hid sB
  have SC := Lib.hid sC
  clear sA sB sC
  have HGG := Lib.hid (And.intro ga (And.intro gb gc))
  have HZ := Lib.hid (And.intro sa (And.intro sb sc))
  have bz : ∀ (t : Tm), goodT t = true → sizeT t ≤ 3000 → (bytesT t).size ≤ 600000 := fun t h1 h2 => Nat.le_trans (bytesT_size t (good_ok t h1).1) (by omega)
  have zA := bz a ga sa
  have zB := bz b gb sb
  have zC := bz c gc sc
  clear bz ga gb gc
  generalize hna : sizeT a = na at SA HZ sa
  generalize hnb : sizeT b = nb at SB HZ sb
  generalize hnc : sizeT c = nc at SC HZ sc
  have HN := Lib.hid (And.intro hna (And.intro hnb hnc))
  clear hna hnb hnc
  by_cases hbig : 2500 < na + nb + nc
  · have t1 : decide ((2500 : Int) < (na : Int) + (nb : Int) + (nc : Int)) = true := decide_eq_true (by omega)
    clear hbig
    go_wp2_with (first
      | (go_at_call 18; (with_reducible refine SA.out.mono ?_); rintro e w4 ⟨rfl, rfl⟩)
      | (go_at_call 18; (with_reducible refine SB.out.mono ?_); rintro e w4 ⟨rfl, rfl⟩)
      | (go_at_call 18; (with_reducible refine SC.out.mono ?_); rintro e w4 ⟨rfl, rfl⟩))
    go_ret
    exact ⟨rfl, HB3.out⟩
  have t1 : decide ((2500 : Int) < (na : Int) + (nb : Int) + (nc : Int)) = false := decide_eq_false (by omega)
  have HS : Hid (na + nb + nc ≤ 2500) := by show _ ≤ _; omega
  clear hbig
  go_upto_region 6 with (first
      | (go_at_call 18; (with_reducible refine SA.out.mono ?_); rintro e w4 ⟨rfl, rfl⟩)
      | (go_at_call 18; (with_reducible refine SB.out.mono ?_); rintro e w4 ⟨rfl, rfl⟩)
      | (go_at_call 18; (with_reducible refine SC.out.mono ?_); rintro e w4 ⟨rfl, rfl⟩))
  have kA := Lib.hid (fun W (hW : Below w3.heap.size w3 W) => Bytes_good a (some ad) w.heap.size W (HP13.out.below hW) HGG.out.1 (by have := HN.out.1; have := HZ.out.1; omega) (HV.out.2.below (below_step' HB3.out hW)))
  have kB := Lib.hid (fun W (hW : Below w3.heap.size w3 W) => Bytes_good b (some bd) w.heap.size W (HP23.out.below hW) HGG.out.2.1 (by have := HN.out.2.1; have := HZ.out.2.1; omega) (HV.out.2.below (below_step' HB3.out hW)))
  have kC := Lib.hid (fun W (hW : Below w3.heap.size w3 W) => Bytes_good c (some cd) w.heap.size W (HP3.out.below hW) HGG.out.2.2 (by have := HN.out.2.2; have := HZ.out.2.2; omega) (HV.out.2.below (below_step' HB3.out hW)))
  have kPi := Lib.hid (fun p W hp (hW : Below w3.heap.size w3 W) => by
    have h := Bytes_good (.node 4 0 ⟨#[]⟩ a b .nil) p w.heap.size W hp (good_two 4 (.inl rfl) HGG.out.1 HGG.out.2.1) (by have := HN.out; have := HS.out; simp only [sizeT]; omega) (HV.out.2.below (below_step' HB3.out hW))
    rw [bytes_pi] at h
    exact h)
  have kLam := Lib.hid (fun p W hp (hW : Below w3.heap.size w3 W) => by
    have h := Bytes_good (.node 5 0 ⟨#[]⟩ a b .nil) p w.heap.size W hp (good_two 5 (.inr (.inl rfl)) HGG.out.1 HGG.out.2.1) (by have := HN.out; have := HS.out; simp only [sizeT]; omega) (HV.out.2.below (below_step' HB3.out hW))
    rw [bytes_lam] at h
    exact h)
  have kApp := Lib.hid (fun p W hp (hW : Below w3.heap.size w3 W) => by
    have h := Bytes_good (.node 6 0 ⟨#[]⟩ a b .nil) p w.heap.size W hp (good_two 6 (.inr (.inr rfl)) HGG.out.1 HGG.out.2.1) (by have := HN.out; have := HS.out; simp only [sizeT]; omega) (HV.out.2.below (below_step' HB3.out hW))
    rw [bytes_app] at h
    exact h)
  have kLet := Lib.hid (fun p W hp (hW : Below w3.heap.size w3 W) => by
    have h := Bytes_good (.node 7 0 ⟨#[]⟩ a b c) p w.heap.size W hp (good_let HGG.out.1 HGG.out.2.1 HGG.out.2.2) (by have := HN.out; have := HS.out; simp only [sizeT]; omega) (HV.out.2.below (below_step' HB3.out hW))
    rw [bytes_let] at h
    exact h)
  generalize bytesT a = bA at kA kPi kLam kApp kLet zA
  generalize bytesT b = bB at kB kPi kLam kApp kLet zB
  generalize bytesT c = bC at kC kLet zC
  clear sa sb sc SA SB SC t1
  go_upto_region 7 with (first
    | (go_at_call 9; (with_reducible refine (kA.out _ (Below.refl _ _)).mono ?_); rintro e w4 ⟨rfl, hb⟩; have HC4 := Lib.hid hb; clear hb)
    | (go_at_call 9; (with_reducible refine (kB.out _ HC4.out).mono ?_); rintro e w5 ⟨rfl, hb⟩; have HC5 := Lib.hid (below_step' HC4.out hb); clear hb)
    | (go_at_call 9; (with_reducible refine (kC.out _ HC5.out).mono ?_); rintro e w6 ⟨rfl, hb⟩; have HC6 := Lib.hid (below_step' HC5.out hb); clear hb))
  go_upto_region 8 with (go_at_call 14; refine (App_any _ _ _).mono ?_; rintro e w7 ⟨rfl, hw7⟩; have hx : Blk w7 w6.heap.size 44 (tmCells 6 0 ⟨#[]⟩ (some ad) (some bd) none) := (by rw [hw7]; exact Blk.new w6 _ _); have hb7 : Below w6.heap.size w6 w7 := (by rw [hw7]; exact (Below.refl _ _).alloc (Nat.le_refl _) _); have HC7 := Lib.hid (below_step' HC6.out hb7); have x0 := hx.cell 0; have x1 := hx.cell 1; have x2 := hx.cell 2; have x3 := hx.cell 3; have x4 := hx.cell 4; have x5 := hx.cell 5; simp [tmCells] at x0 x1 x2 x3 x4 x5; clear hw7 hb7 hx)
  have hT : Blk (w7.alloc (.cells #[.int .i64 6, .int .i64 0, .string ⟨#[]⟩, .pointer (some ad), .pointer (some bd), .pointer none] 44)) w7.heap.size 44 (tmCells 6 0 ⟨#[]⟩ (some ad) (some bd) none) := Blk.new w7 _ _
  have hb8 : Below w3.heap.size w3 (w7.alloc (.cells #[.int .i64 6, .int .i64 0, .string ⟨#[]⟩, .pointer (some ad), .pointer (some bd), .pointer none] 44)) := HC7.out.alloc HC7.out.size _
  have HLT : Hid (w3.heap.size ≤ w7.heap.size) := HC7.out.size
  generalize (w7.alloc (.cells #[.int .i64 6, .int .i64 0, .string ⟨#[]⟩, .pointer (some ad), .pointer (some bd), .pointer none] 44)) = W8 at hT hb8 ⊢
  generalize w7.heap.size = tl at hT HLT ⊢
  have y0 := hT.cell 0
  have y5 := hT.cell 5
  have f0 := hT.frozen 0
  have f5 := hT.frozen 5
  simp [tmCells] at y0 y5
  have HT8 := Lib.hid hT
  have HC8 := Lib.hid hb8
  clear hT hb8 x0 x1 x2 x3 x4 x5
  go_upto_region 9 with fail
  have hT9 : Blk ((W8.setCell ⟨tl, 0, none⟩ (.int .i64 7)).setCell ⟨tl, 5, none⟩ (.pointer (some cd))) tl 44 (tmCells 7 0 ⟨#[]⟩ (some ad) (some bd) (some cd)) := (HT8.out.set_ 0 _).set_ 5 _
  have hb9 : Below w3.heap.size w3 ((W8.setCell ⟨tl, 0, none⟩ (.int .i64 7)).setCell ⟨tl, 5, none⟩ (.pointer (some cd))) := (HC8.out.setCell HLT.out _).setCell HLT.out _
  generalize ((W8.setCell ⟨tl, 0, none⟩ (.int .i64 7)).setCell ⟨tl, 5, none⟩ (.pointer (some cd))) = W9 at hT9 hb9 ⊢
  have hL : PIn w.heap.size W9 (.node 7 0 ⟨#[]⟩ a b c) (some ⟨tl, 0, none⟩) := ⟨tl, some ad, some bd, some cd, rfl, Nat.le_trans HB3.out.size HLT.out, hT9, HP13.out.below hb9, HP23.out.below hb9, HP3.out.below hb9⟩
  have HPL := Lib.hid hL
  have HC9 := Lib.hid hb9
  clear hT9 hb9 hL y0 y5 f0 f5
  have l1 : (1 : Nat) + bA.size ≤ 9223372036854775807 := by omega
  have l2 : ∀ x : ByteArray, x.size = 1 → (x ++ bA).size + bB.size ≤ 9223372036854775807 := fun x hx => by rw [ByteArray.size_append]; omega
  have l3 : ∀ x : ByteArray, x.size = 1 → (x ++ bA ++ bB).size + bC.size ≤ 9223372036854775807 := fun x hx => by simp only [ByteArray.size_append]; omega
  have l24 := l2 ⟨#[4]⟩ rfl
  have l25 := l2 ⟨#[5]⟩ rfl
  have l26 := l2 ⟨#[6]⟩ rfl
  have l27 := l2 ⟨#[7]⟩ rfl
  have l37 := l3 ⟨#[7]⟩ rfl
  have l2' : (1 : Nat) + bA.size + bB.size ≤ 9223372036854775807 := by omega
  have l3' : (1 : Nat) + bA.size + bB.size + bC.size ≤ 9223372036854775807 := by omega
  clear l2 l3
  go_wp2_with (first
    | (go_at_call 19; refine (Pi_p a b _ _ w.heap.size _ (HP13.out.below HC9.out) (HP23.out.below HC9.out) (Nat.le_trans HB3.out.size HC9.out.size)).mono ?_; rintro e w10 ⟨q1, rfl, hp, hb⟩; have HQ1 := Lib.hid hp; have HPL1 := Lib.hid (HPL.out.below hb); have HC10 := Lib.hid (below_step' HC9.out hb); clear hp hb)
    | (go_at_call 9; (with_reducible refine (kPi.out _ _ HQ1.out HC10.out).mono ?_); rintro e w11 ⟨rfl, hb⟩; have HPL2 := Lib.hid (HPL1.out.below hb); have HC11 := Lib.hid (below_step' HC10.out hb); clear hb HQ1)
    | (go_at_call 16; refine (Lam_p a b _ _ w.heap.size _ (HP13.out.below HC11.out) (HP23.out.below HC11.out) (Nat.le_trans HB3.out.size HC11.out.size)).mono ?_; rintro e w12 ⟨q2, rfl, hp, hb⟩; have HQ2 := Lib.hid hp; have HPL3 := Lib.hid (HPL2.out.below hb); have HC12 := Lib.hid (below_step' HC11.out hb); clear hp hb)
    | (go_at_call 9; (with_reducible refine (kLam.out _ _ HQ2.out HC12.out).mono ?_); rintro e w13 ⟨rfl, hb⟩; have HPL4 := Lib.hid (HPL3.out.below hb); have HC13 := Lib.hid (below_step' HC12.out hb); clear hb HQ2)
    | (go_at_call 14; refine (App_p a b _ _ w.heap.size _ (HP13.out.below HC13.out) (HP23.out.below HC13.out) (Nat.le_trans HB3.out.size HC13.out.size)).mono ?_; rintro e w14 ⟨q3, rfl, hp, hb⟩; have HQ3 := Lib.hid hp; have HPL5 := Lib.hid (HPL4.out.below hb); have HC14 := Lib.hid (below_step' HC13.out hb); clear hp hb)
    | (go_at_call 9; (with_reducible refine (kApp.out _ _ HQ3.out HC14.out).mono ?_); rintro e w15 ⟨rfl, hb⟩; have HPL6 := Lib.hid (HPL5.out.below hb); have HC15 := Lib.hid (below_step' HC14.out hb); clear hb HQ3)
    | (go_at_call 9; (with_reducible refine (kLet.out _ _ HPL6.out HC15.out).mono ?_); rintro e w16 ⟨rfl, hb⟩; have HC16 := Lib.hid (below_step' HC15.out hb); clear hb))
  go_ret
  exact ⟨rfl, below_step' HB3.out HC16.out⟩
end Go.Proofs.YtghebjgkdfbmeaaDoor
