import Derived.Test.YtghebjgkdfbmeaaDoorLB0
set_option linter.unusedVariables false
set_option linter.unusedSimpArgs false
namespace Go.Proofs.YtghebjgkdfbmeaaDoor
open Go.RowKit

set_option maxHeartbeats 32000000 in
set_option maxRecDepth 100000 in
theorem CodeBack_any (s u more : ByteArray) (c : Int) (hc0 : 0 ≤ c) (hc1 : c ≤ 65535) (hs : s.size ≤ 9223372036854775807) (hu : u.size ≤ 9223372036854775807) (hmo : more.size ≤ 9223372036854775807) (w : World) (he : ErrVar w) (hm : MaxV w) :
    Calls Tryd.prog 3 #[.string s, .string u, .string more, .int .u16 c] w (fun e w' => e = .returned (.bool true) ∧ Below w.heap.size w w') := by
  have ck := Lib.hid (known8_any w he hm)
  have cA := Lib.hid (fun W => Term_any s hs W)
  have cB := Lib.hid (fun W => Term_any u hu W)
  unfold TmPost at cA cB
  have gA : termT s ≠ .nil → goodT (termT s) = true ∧ sizeT (termT s) ≤ 3000 := termT_good
  have gB : termT u ≠ .nil → goodT (termT u) = true ∧ sizeT (termT u) ≤ 3000 := termT_good
  generalize termT s = a at cA gA
  generalize termT u = b at cB gB
  have HG := Lib.hid (And.intro gA gB)
  have HV := Lib.hid (And.intro he hm)
  have HC := Lib.hid (And.intro hc0 hc1)
  have HMO := Lib.hid hmo
  clear gA gB hs hu he hm hc0 hc1 hmo
  go_enter Tryd.func3, Tryd.ntmps3
  go_upto_region 4 with (first
    | (go_at_call 7; (with_reducible refine ck.out.mono ?_); rintro e w0 ⟨rfl, hb⟩; have HB0 := Lib.hid hb; clear hb)
    | (go_at_call 8; (with_reducible refine (cA.out _).mono ?_); rintro e w1 ⟨p1, rfl, hp, hb⟩; have HP1 := Lib.hid (hp.mono HB0.out.size); have HB1 := Lib.hid (below_step' HB0.out hb); clear hp hb)
    | (go_at_call 8; (with_reducible refine (cB.out _).mono ?_); rintro e w2 ⟨p2, rfl, hp, hb⟩; have HP12 := Lib.hid (HP1.out.below hb); have HP2 := Lib.hid (hp.mono HB1.out.size); have HB2 := Lib.hid (below_step' HB1.out hb); clear hp hb))
  by_cases ha : a = .nil
  · obtain rfl : p1 = none := HP12.out.nil_iff.2 ha
    clear ha
    go_wp2
    go_ret
    exact ⟨rfl, HB2.out⟩
  by_cases hb : b = .nil
  · obtain rfl : p2 = none := HP2.out.nil_iff.2 hb
    obtain ⟨ad, rfl⟩ : ∃ ad, p1 = some ad := by cases h : p1 with
      | none => exact absurd (HP12.out.nil_iff.1 h) ha
      | some ad => exact ⟨ad, rfl⟩
    clear ha hb
    go_wp2
    go_ret
    exact ⟨rfl, HB2.out⟩
  obtain ⟨ga, sa⟩ := HG.out.1 ha
  obtain ⟨gb, sb⟩ := HG.out.2 hb
  obtain ⟨ad, rfl⟩ : ∃ ad, p1 = some ad := by cases h : p1 with
    | none => exact absurd (HP12.out.nil_iff.1 h) ha
    | some ad => exact ⟨ad, rfl⟩
  obtain ⟨bd, rfl⟩ : ∃ bd, p2 = some bd := by cases h : p2 with
    | none => exact absurd (HP2.out.nil_iff.1 h) hb
    | some bd => exact ⟨bd, rfl⟩
  clear ha hb HG ck cA cB HP1
  by_cases hm60 : 60 < more.size
  · have t1 : decide ((60 : Int) < (more.size : Int)) = true := decide_eq_true (by omega)
    clear hm60 ga gb sa sb
    go_wp2
    go_ret
    exact ⟨rfl, HB2.out⟩
  have t1 : decide ((60 : Int) < (more.size : Int)) = false := decide_eq_false (by omega)
  have HM60 : Hid (more.size ≤ 60) := by show _ ≤ _; omega
  clear hm60
  have HGG := Lib.hid (And.intro ga (And.intro gb (And.intro sa sb)))
  have zA : (bytesT a).size ≤ 600000 := Nat.le_trans (bytesT_size a (good_ok a ga).1) (by omega)
  have zB : (bytesT b).size ≤ 600000 := Nat.le_trans (bytesT_size b (good_ok b gb).1) (by omega)
  have pA : 0 < (bytesT a).size := bytesT_pos ga
  have zM : (bytesT a).size + more.size ≤ 9223372036854775807 := by have := HM60.out; omega
  have zM' : (bytesT a ++ more).size ≤ 9223372036854775807 := by rw [ByteArray.size_append]; exact zM
  have kA := Lib.hid (fun W (hW : Below w2.heap.size w2 W) => Bytes_good a (some ad) w.heap.size W (HP12.out.below hW) HGG.out.1 HGG.out.2.2.1 (HV.out.2.below (below_step' HB2.out hW)))
  have kB := Lib.hid (fun W (hW : Below w2.heap.size w2 W) => Bytes_good b (some bd) w.heap.size W (HP2.out.below hW) HGG.out.2.1 HGG.out.2.2.2 (HV.out.2.below (below_step' HB2.out hW)))
  have kR := Lib.hid (fun W (hW : Below w2.heap.size w2 W) => Read_good a more HGG.out.1 HGG.out.2.2.1 zM' W (ErrVar.below HV.out.1 (below_step' HB2.out hW)) (HV.out.2.below (below_step' HB2.out hW)))
  have kM := Lib.hid (fun W (hW : Below w2.heap.size w2 W) => Read_any more HMO.out W (ErrVar.below HV.out.1 (below_step' HB2.out hW)) (HV.out.2.below (below_step' HB2.out hW)))
  unfold PReadPost at kM
  obtain ⟨j, hj, hjl⟩ : ∃ j : Nat, c % ((bytesT a).size : Int) = (j : Int) ∧ j < (bytesT a).size := by
    have h1 := Int.emod_nonneg c (show ((bytesT a).size : Int) ≠ 0 by omega)
    have h2 := Int.emod_lt_of_pos c (show (0 : Int) < ((bytesT a).size : Int) by omega)
    exact ⟨(c % ((bytesT a).size : Int)).toNat, by omega, by omega⟩
  have kS := Lib.hid (fun W (hW : Below w2.heap.size w2 W) => Read_bad (takeB (bytesT a) j) 11 (by decide) (by unfold takeB; rw [ByteArray.size_extract]; omega) (pRead_short a j HGG.out.1 HGG.out.2.2.1 hjl) W (ErrVar.below HV.out.1 (below_step' HB2.out hW)) (HV.out.2.below (below_step' HB2.out hW)))
  unfold takeB at kS
  obtain ⟨eq, heq⟩ : ∃ eq, ((bytesT a).toList == (bytesT b).toList) = eq := ⟨_, rfl⟩
  have hST : sameT a b = eq := by
    rw [← heq]
    rw [Bool.eq_iff_iff, sameT_iff, beq_iff_eq]
    refine ⟨fun h => by rw [h], fun h => bytesT_inj ga sa gb sb ?_⟩
    rw [ByteArray.toList_eq, ByteArray.toList_eq] at h
    exact ByteArray.ext (Array.toList_inj.mp h)
  have HST := Lib.hid hST
  clear ga gb sa sb zM' hST
  generalize hbA : bytesT a = bA at kA kR kS zA pA zM hj hjl heq
  generalize hbB : bytesT b = bB at kB zB heq
  clear hbA hbB
  go_upto_region 6 with fail
  go_upto_region 8 with (first
    | (go_at_call 9; (with_reducible refine (kA.out _ (Below.refl _ _)).mono ?_); rintro e w4 ⟨rfl, hb⟩; have HC4 := Lib.hid hb; clear hb)
    | (go_at_call 9; (with_reducible refine (kB.out _ HC4.out).mono ?_); rintro e w5 ⟨rfl, hb⟩; have HC5 := Lib.hid (below_step' HC4.out hb); clear hb)
    | (go_at_call 10; (with_reducible refine (kR.out _ HC5.out).mono ?_); rintro e w6 ⟨q1, rfl, hp, hb⟩; have HQ6 := Lib.hid hp; have HC6 := Lib.hid (below_step' HC5.out hb); clear hp hb))
  have e0 : ((bA.size : Int) == 0) = false := by rw [beq_eq_false_iff_ne]; omega
  have cs := Lib.hid (Same_any a a q1 (some ad) w5.heap.size w.heap.size w6 HQ6.out (HP12.out.below HC6.out))
  have cs2 := Lib.hid (fun W (hW : Below w2.heap.size w2 W) => Same_any a b (some ad) (some bd) w.heap.size w.heap.size W (HP12.out.below hW) (HP2.out.below hW))
  unfold Quiet at cs cs2
  rw [sameT_rfl] at cs
  rw [HST.out] at cs2
  have hw64 : wrap64 c = c := IntWalk.wrap64_in c (by have := HC.out; omega)
  have ht : (wrap64 c).tmod (bA.size : Int) = (j : Int) := by
    rw [hw64, Int.tmod_eq_emod_of_nonneg HC.out.1, hj]
  clear hw64
  have hjI : (j : Int) ≤ (bA.size : Int) := by omega
  by_cases hE : (pRead more).2.2 = 0
  · obtain ⟨g1, g2, g3⟩ := pRead_sound hE
    have kM' := kM.out
    rw [hE, errV_zero] at kM'
    have KM := Lib.hid kM'
    clear kM kM'
    have zY : (bytesT (pRead more).1).size ≤ 600000 := Nat.le_trans (bytesT_size _ (good_ok _ g1).1) (by omega)
    have kY := Lib.hid (fun p B W hp (hW : Below w2.heap.size w2 W) => Bytes_good (pRead more).1 p B W hp g1 g2 (HV.out.2.below (below_step' HB2.out hW)))
    have hsz := congrArg ByteArray.size g3
    rw [ByteArray.size_append] at hsz
    generalize bytesT (pRead more).1 = bY at kY g3 zY hsz
    generalize (pRead more).1 = y at KM kY g1 g2
    generalize (pRead more).2.1 = left at KM g3 hsz
    have lY : bY.size + left.size ≤ 9223372036854775807 := by have := HMO.out; omega
    have hxe : ((bY ++ left).toList == more.toList) = true := by rw [← g3]; exact beq_self_eq_true _
    clear g1 g2 g3 hsz hE
    go_wp2_with (first
      | (go_at_call 11; (with_reducible refine cs.out.mono ?_); rintro e w8 ⟨rfl, m, hm⟩; have hb8 : Below w6.heap.size w6 w8 := (by rw [hm]; exact below_drewN' _ _); have HC8 := Lib.hid (below_step' HC6.out hb8); clear hm hb8)
      | (go_at_call 11; (with_reducible refine (cs2.out _ HC8.out).mono ?_); rintro e w9 ⟨rfl, m, hm⟩; have hb9 : Below w8.heap.size w8 w9 := (by rw [hm]; exact below_drewN' _ _); have HC9 := Lib.hid (below_step' HC8.out hb9); clear hm hb9)
      | (go_at_call 10; (with_reducible refine (kS.out _ HC9.out).mono ?_); rintro e w10 ⟨rfl, hb⟩; have HC10 := Lib.hid (below_step' HC9.out hb); clear hb)
      | (go_at_call 10; (with_reducible refine (KM.out _ HC10.out).mono ?_); rintro e w11 ⟨q2, rfl, hp, hb⟩; have HQ11 := Lib.hid hp; have HC11 := Lib.hid (below_step' HC10.out hb); clear hp hb)
      | (go_at_call 12; refine (is_yes _ _).mono ?_; rintro e w12 ⟨rfl, rfl⟩)
      | (go_at_call 9; (with_reducible refine (kY.out _ _ _ HQ11.out HC11.out).mono ?_); rintro e w13 ⟨rfl, hb⟩; have HC13 := Lib.hid (below_step' HC11.out hb); clear hb))
    go_ret
    exact ⟨rfl, below_step' HB2.out HC13.out⟩
  · have kM' := kM.out
    generalize (pRead more).2.2 = er at kM' hE
    generalize (pRead more).1 = y at kM'
    generalize (pRead more).2.1 = left at kM'
    rw [errV_ne hE] at kM'
    have KM := Lib.hid kM'
    clear kM kM' hE
    go_wp2_with (first
      | (go_at_call 11; (with_reducible refine cs.out.mono ?_); rintro e w8 ⟨rfl, m, hm⟩; have hb8 : Below w6.heap.size w6 w8 := (by rw [hm]; exact below_drewN' _ _); have HC8 := Lib.hid (below_step' HC6.out hb8); clear hm hb8)
      | (go_at_call 11; (with_reducible refine (cs2.out _ HC8.out).mono ?_); rintro e w9 ⟨rfl, m, hm⟩; have hb9 : Below w8.heap.size w8 w9 := (by rw [hm]; exact below_drewN' _ _); have HC9 := Lib.hid (below_step' HC8.out hb9); clear hm hb9)
      | (go_at_call 10; (with_reducible refine (kS.out _ HC9.out).mono ?_); rintro e w10 ⟨rfl, hb⟩; have HC10 := Lib.hid (below_step' HC9.out hb); clear hb)
      | (go_at_call 10; (with_reducible refine (KM.out _ HC10.out).mono ?_); rintro e w11 ⟨q2, rfl, hp, hb⟩; have HQ11 := Lib.hid hp; have HC11 := Lib.hid (below_step' HC10.out hb); clear hp hb)
      | (go_at_call 12; refine (is_yes _ _).mono ?_; rintro e w12 ⟨rfl, rfl⟩))
    go_ret
    exact ⟨rfl, below_step' HB2.out HC11.out⟩
end Go.Proofs.YtghebjgkdfbmeaaDoor
