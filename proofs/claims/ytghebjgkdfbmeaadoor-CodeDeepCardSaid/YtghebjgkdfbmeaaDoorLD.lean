import Derived.Test.YtghebjgkdfbmeaaDoorLD0
set_option linter.unusedVariables false
set_option linter.unusedSimpArgs false
namespace Go.Proofs.YtghebjgkdfbmeaaDoor
open Go.RowKit

def S0 : Tm := .node 1 0 ⟨#[]⟩ .nil .nil .nil
def S1 : Tm := .node 1 1 ⟨#[]⟩ .nil .nil .nil
def V0 : Tm := .node 2 0 ⟨#[]⟩ .nil .nil .nil
/-- The term that is built so many times over. -/
def deepT (even : Bool) : Nat → Tm
  | 0 => S0
  | i + 1 => if even = true then .node 6 0 ⟨#[]⟩ (deepT even i) V0 .nil else .node 5 0 ⟨#[]⟩ S1 (deepT even i) .nil
theorem deepT_size (even : Bool) : ∀ i, sizeT (deepT even i) = 2 * i + 1
  | 0 => rfl
  | i + 1 => by
    have := deepT_size even i
    unfold deepT
    split
    · simp only [sizeT, V0]; omega
    · simp only [sizeT, S1]; omega
theorem deepT_good (even : Bool) : ∀ i, goodT (deepT even i) = true
  | 0 => (by decide +kernel : goodT S0 = true)
  | i + 1 => by
    have := deepT_good even i
    unfold deepT
    split
    · exact good_two 6 (.inr (.inr rfl)) this (by decide +kernel)
    · exact good_two 5 (.inr (.inl rfl)) (by decide +kernel) this

set_option maxHeartbeats 16000000 in
set_option maxRecDepth 100000 in
theorem CodeDeep_any (n kd : Int) (hn0 : 0 ≤ n) (hn1 : n ≤ 255) (hk0 : 0 ≤ kd) (hk1 : kd ≤ 255) (w : World) (he : ErrVar w) (hm : MaxV w) :
    Calls Tryd.prog 4 #[.int .u8 n, .int .u8 kd] w (fun e w' => e = .returned (.bool true) ∧ Below w.heap.size w w') := by
  have ck := Lib.hid (known8_any w he hm)
  have HV := Lib.hid (And.intro he hm)
  obtain ⟨r, hr⟩ : ∃ r : Nat, n.tmod 4 = (r : Int) := ⟨(n.tmod 4).toNat, by have := Int.tmod_nonneg 4 hn0; omega⟩
  have hr4 : r < 4 := by have := Int.tmod_lt_of_pos n (show (0 : Int) < 4 by decide); omega
  obtain ⟨K, hK⟩ : ∃ K, K = 1498 + r := ⟨_, rfl⟩
  obtain ⟨ev, hev⟩ : ∃ ev, (kd % 2 == 0) = ev := ⟨_, rfl⟩
  have hKi : (1498 : Int) + (r : Int) = (K : Int) := by omega
  have hr0 : (r : Int) ≤ 3 := by omega
  have hr1 : (0 : Int) ≤ (r : Int) := by omega
  have hKw : IntKind.i64.wrap (1498 + (r : Int)) = (K : Int) := by rw [hKi]; exact IntWalk.i64_in _ (by omega)
  have HK := Lib.hid hK
  clear hK hr4
  clear he hm
  go_enter Tryd.func4, Tryd.ntmps4
  go_upto_region 6 with (first
    | (go_at_call 7; (with_reducible refine ck.out.mono ?_); rintro e w0 ⟨rfl, hb⟩; have HB0 := Lib.hid hb; clear hb)
    | (go_at_call 13; refine (Sort_p 0 w.heap.size _ HB0.out.size).mono ?_; rintro e w1 ⟨p0, rfl, hp, hb⟩; have HP0 : Hid (PIn w.heap.size w1 S0 p0) := Lib.hid hp; have HB1 := Lib.hid (below_step' HB0.out hb); clear hp hb))
  clear ck
  have HE := Lib.hid hev
  have hkb : (kd % 2 == 0) = ev := hev
  clear hev
  go_loopg [7, 8] K (fun kq v7 v8 wr => ∃ (i : Nat) (p : Option Addr), v7 = .pointer p ∧ v8 = .int .i64 (i : Int) ∧ i + kq = K ∧ Hid (PIn w.heap.size wr (deepT ev i) p) ∧ Hid (Below w.heap.size w wr))
  case atStart => exact ⟨0, p0, rfl, rfl, by omega, HP0, HB1⟩
  case round =>
    obtain ⟨i, p, rfl, rfl, hi, HPr, HBr⟩ := hrel
    by_cases hlt : i < K
    · have q1 : (i : Int) < (K : Int) := by omega
      obtain ⟨k', rfl⟩ : ∃ k', gk = k' + 1 := ⟨gk - 1, by omega⟩
      cases ev with
      | true =>
        clear hlt
        go_wp2_with (first
          | (go_at_call 15; refine (Var_p 0 w.heap.size _ HBr.out.size).mono ?_; rintro e w2 ⟨p2, rfl, hp, hb⟩; have HP2 : Hid (PIn w.heap.size w2 V0 p2) := Lib.hid hp; have HPr2 := Lib.hid (HPr.out.below hb); have HB2 := Lib.hid (below_step' HBr.out hb); clear hp hb)
          | (go_at_call 14; refine (App_p (deepT true i) V0 _ _ w.heap.size _ HPr2.out HP2.out HB2.out.size).mono ?_; rintro e w3 ⟨p3, rfl, hp, hb⟩; have HP3 : Hid (PIn w.heap.size w3 (deepT true (i + 1)) p3) := Lib.hid hp; have HB3 := Lib.hid (below_step' HB2.out hb); clear hp hb))
        go_roundg k'
        case measure => omega
        case rel => exact ⟨i + 1, _, rfl, by go_num, by omega, HP3, HB3⟩
      | false =>
        clear hlt
        go_wp2_with (first
          | (go_at_call 13; refine (Sort_p 1 w.heap.size _ HBr.out.size).mono ?_; rintro e w2 ⟨p2, rfl, hp, hb⟩; have HP2 : Hid (PIn w.heap.size w2 S1 p2) := Lib.hid hp; have HPr2 := Lib.hid (HPr.out.below hb); have HB2 := Lib.hid (below_step' HBr.out hb); clear hp hb)
          | (go_at_call 16; refine (Lam_p S1 (deepT false i) _ _ w.heap.size _ HP2.out HPr2.out HB2.out.size).mono ?_; rintro e w3 ⟨p3, rfl, hp, hb⟩; have HP3 : Hid (PIn w.heap.size w3 (deepT false (i + 1)) p3) := Lib.hid hp; have HB3 := Lib.hid (below_step' HB2.out hb); clear hp hb))
        go_roundg k'
        case measure => omega
        case rel => exact ⟨i + 1, _, rfl, by go_num, by omega, HP3, HB3⟩
    · obtain rfl : i = K := by omega
      clear hlt
      have hsz := deepT_size ev i
      have hgd := deepT_good ev i
      have hr2 : 2 * i + 1 ≤ 3003 := by have := HK.out; omega
      generalize deepT ev i = t at hsz hgd HPr
      have HPt := HPr
      have HGD := Lib.hid hgd
      have HSZ := Lib.hid hsz
      clear HPr hgd hsz hkb
      by_cases hok : 2 * i + 1 ≤ 3000
      · have g1 : decide (2 * (i : Int) + 1 ≤ 3000) = true := decide_eq_true (by omega)
        have z1 : (bytesT t).size ≤ 600000 := Nat.le_trans (bytesT_size t (good_ok t HGD.out).1) (by have := HSZ.out; omega)
        have kb := Lib.hid (Bytes_good t p w.heap.size wr HPt.out HGD.out (by have := HSZ.out; omega) (HV.out.2.below HBr.out))
        have kr := Lib.hid (fun (W : World) (hW : Below w.heap.size w W) => Read_good t ⟨#[]⟩ HGD.out (by have := HSZ.out; omega) (by rw [append_empty]; omega) W (ErrVar.below HV.out.1 hW) (HV.out.2.below hW))
        rw [append_empty] at kr
        have hB : ⟨#[5, 1, 0]⟩ ++ bytesT t = bytesT (.node 5 0 ⟨#[]⟩ S0 t .nil) := by
          rw [bytes_lam, (by decide +kernel : bytesT S0 = ⟨#[1, 0]⟩)]; rfl
        have hgl := good_two 5 (.inr (.inl rfl)) (by decide +kernel : goodT S0 = true) HGD.out
        have hzl : sizeT (.node 5 0 ⟨#[]⟩ S0 t .nil) = 2 * i + 3 := by have := HSZ.out; simp only [sizeT, S0]; omega
        have l1 : (3 : Nat) + (bytesT t).size ≤ 9223372036854775807 := by omega
        have zl : (⟨#[5, 1, 0]⟩ ++ bytesT t).size ≤ 9223372036854775807 := by rw [ByteArray.size_append]; exact l1
        by_cases hok2 : 2 * i + 3 ≤ 3000
        · have g3 : decide (3000 < 2 * (i : Int) + 3) = false := decide_eq_false (by omega)
          have k3 := Lib.hid (fun (W : World) (hW : Below w.heap.size w W) => Read_good (.node 5 0 ⟨#[]⟩ S0 t .nil) ⟨#[]⟩ hgl (by omega) (by rw [append_empty, ← hB]; exact zl) W (ErrVar.below HV.out.1 hW) (HV.out.2.below hW))
          rw [append_empty, ← hB] at k3
          generalize bytesT t = bt at kb kr k3 l1 z1
          clear hB hgl hzl zl hok hok2 hi
          go_upto_region 17 with (first
            | (go_at_call 9; (with_reducible refine kb.out.mono ?_); rintro e w3 ⟨rfl, hb⟩; have HP3 := Lib.hid (HPt.out.below hb); have HB3 := Lib.hid (below_step' HBr.out hb); clear hb)
            | (go_at_call 10; (with_reducible refine (kr.out _ HB3.out).mono ?_); rintro e w4 ⟨q, rfl, hp, hb⟩; have HP4 := Lib.hid (HP3.out.below hb); have HQ4 := Lib.hid hp; have HB4 := Lib.hid (below_step' HB3.out hb); clear hp hb)
            | (go_at_call 10; (with_reducible refine (k3.out _ HB4.out).mono ?_); rintro e w5 ⟨q3, rfl, hp, hb⟩; have HP5 := Lib.hid (HP4.out.below hb); have HQ5 := Lib.hid (HQ4.out.below hb); have HB5 := Lib.hid (below_step' HB4.out hb); clear hp hb))
          have cs := Lib.hid (Same_any t t q p w3.heap.size w.heap.size w5 HQ5.out HP5.out)
          unfold Quiet at cs
          rw [sameT_rfl] at cs
          have hx : ((⟨#[]⟩ : ByteArray).toList == []) = true := by rw [ByteArray.toList_eq]; rfl
          go_wp2_with (first
            | (go_at_call 11; (with_reducible refine cs.out.mono ?_); rintro e w6 ⟨rfl, m, hm⟩; have hb6 : Below w5.heap.size w5 w6 := (by rw [hm]; exact below_drewN' _ _); have HB6 := Lib.hid (below_step' HB5.out hb6); clear hm hb6)
            | (go_at_call 12; refine (is_nil _ _).mono ?_; rintro e w7 ⟨rfl, rfl⟩))
          go_ret
          exact ⟨rfl, HB6.out⟩
        · have g3 : decide (3000 < 2 * (i : Int) + 3) = true := decide_eq_true (by omega)
          have k3 := Lib.hid (fun (W : World) (hW : Below w.heap.size w W) => Read_bad (bytesT (.node 5 0 ⟨#[]⟩ S0 t .nil)) 13 (by decide) (by rw [← hB]; exact zl) (by have := pRead_large (.node 5 0 ⟨#[]⟩ S0 t .nil) ⟨#[]⟩ hgl (by omega); rw [append_empty] at this; exact this) W (ErrVar.below HV.out.1 hW) (HV.out.2.below hW))
          rw [← hB] at k3
          generalize bytesT t = bt at kb kr k3 l1 z1
          clear hB hgl hzl zl hok hok2 hi
          go_upto_region 17 with (first
            | (go_at_call 9; (with_reducible refine kb.out.mono ?_); rintro e w3 ⟨rfl, hb⟩; have HP3 := Lib.hid (HPt.out.below hb); have HB3 := Lib.hid (below_step' HBr.out hb); clear hb)
            | (go_at_call 10; (with_reducible refine (kr.out _ HB3.out).mono ?_); rintro e w4 ⟨q, rfl, hp, hb⟩; have HP4 := Lib.hid (HP3.out.below hb); have HQ4 := Lib.hid hp; have HB4 := Lib.hid (below_step' HB3.out hb); clear hp hb)
            | (go_at_call 10; (with_reducible refine (k3.out _ HB4.out).mono ?_); rintro e w5 ⟨rfl, hb⟩; have HP5 := Lib.hid (HP4.out.below hb); have HQ5 := Lib.hid (HQ4.out.below hb); have HB5 := Lib.hid (below_step' HB4.out hb); clear hb))
          have cs := Lib.hid (Same_any t t q p w3.heap.size w.heap.size w5 HQ5.out HP5.out)
          unfold Quiet at cs
          rw [sameT_rfl] at cs
          have hx : ((⟨#[]⟩ : ByteArray).toList == []) = true := by rw [ByteArray.toList_eq]; rfl
          go_wp2_with (first
            | (go_at_call 11; (with_reducible refine cs.out.mono ?_); rintro e w6 ⟨rfl, m, hm⟩; have hb6 : Below w5.heap.size w5 w6 := (by rw [hm]; exact below_drewN' _ _); have HB6 := Lib.hid (below_step' HB5.out hb6); clear hm hb6)
            | (go_at_call 12; refine (is_yes _ _).mono ?_; rintro e w7 ⟨rfl, rfl⟩))
          go_ret
          exact ⟨rfl, HB6.out⟩
      · have g1 : decide (2 * (i : Int) + 1 ≤ 3000) = false := decide_eq_false (by omega)
        have kb := Lib.hid (Bytes_any t p w.heap.size wr HPt.out (good_ok t HGD.out).2 (HV.out.2.below HBr.out) (fun h => by have := ((allF_spec t 3000).1.1 h).2; have := HSZ.out; omega))
        have hna : ¬ (allF t 3000).1 = true := fun h => by have := ((allF_spec t 3000).1.1 h).2; have := HSZ.out; omega
        rw [if_neg hna] at kb
        have hx : ((⟨#[]⟩ : ByteArray).toList == []) = true := by rw [ByteArray.toList_eq]; rfl
        clear hna hok hi
        go_wp2_with (go_at_call 9; (with_reducible refine kb.out.mono ?_); rintro e w3 ⟨rfl, hb⟩; have HP3 := Lib.hid (HPt.out.below hb); have HB3 := Lib.hid (below_step' HBr.out hb); clear hb)
        go_ret
        exact ⟨rfl, HB3.out⟩
end Go.Proofs.YtghebjgkdfbmeaaDoor
