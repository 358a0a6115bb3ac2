import Derived.Test.YtjincmagbbpooaaGreatDoorM12

section
set_option linter.unusedVariables false
set_option linter.unusedSimpArgs false
namespace Go.Proofs.YtjincmagbbpooaaGreatDoor
open Go.RowKit

theorem DS.write_len (D : DS) (i : Int) (b : ByteArray) : (D.write i b).sure.length = D.sure.length := by
  unfold DS.write
  split
  · rfl
  · split <;> rfl
theorem DS.keeps_len (D : DS) (keep : Nat → Bool) (torn : Int) : (D.keeps keep torn).sure.length = D.sure.length := keepN_len _
theorem DS.flush_len (D : DS) : D.flush.sure.length = D.sure.length := by
  unfold DS.flush
  split
  · rfl
  · exact D.keeps_len _ _
theorem DS.write_done (D : DS) (i : Int) (b : ByteArray) : (D.write i b).done ≤ D.done + 1 := by
  unfold DS.write
  split
  · exact Nat.le_refl _
  · split
    · exact Nat.le_succ _
    · exact Nat.le_succ _
theorem DS.flush_done (D : DS) : D.flush.done = D.done := by
  unfold DS.flush
  split
  · rfl
  · rfl
theorem zero_drop {k : Nat} (h : k ≤ 64) : (zeroB 64).extract k 64 = zeroB (64 - k) := by
  apply bys_inj
  rw [bys_extract]
  show List.drop k (List.take 64 (List.map UInt8.toNat (List.replicate 64 0))) = List.map UInt8.toNat (List.replicate (64 - k) 0)
  rw [List.map_replicate, List.take_replicate, List.drop_replicate, List.map_replicate, Nat.min_self]
theorem partB_size (b : ByteArray) (i n : Nat) : (partB b i n).size ≤ n := by
  unfold partB
  rw [ByteArray.size_extract]
  omega
theorem fill_part (b : ByteArray) (i : Nat) : partB b i 64 ++ (zeroB 64).extract (partB b i 64).size 64 = fillB (partB b i 64) := by
  rw [zero_drop (partB_size b i 64)]
  rfl
/-- What the loop of differs comes to, from one sector on. -/
theorem diffF_stop (which : Nat) (b : ByteArray) (i n : Nat) (D : DS) : diffF which b 0 i n D = (D, n, 0) := rfl
theorem half_write (D : DS) (i : Int) (b : ByteArray) : (D.write i b).half = D.half := by unfold DS.half; rw [DS.write_len]
theorem sec_write (D : DS) (i : Int) (b : ByteArray) (which j : Nat) : (D.write i b).sec which j = D.sec which j := by unfold DS.sec; rw [half_write]

set_option maxHeartbeats 16000000 in
set_option maxRecDepth 100000 in
theorem differs_any (F : Nat → Prop) (p : Nat) (D : DS) (which : Nat) (b : ByteArray) (i0 : Nat) (w : World) (h : Dsk w F p D) (hw : which ≤ 1) (hb : b.size ≤ 1000000) (hi : i0 ≤ 100000) (h2 : 2 ≤ D.sure.length) (hd : D.done < 1099511000000) :
    Calls Tryz.prog 45 #[.pointer (some ⟨p, 0, none⟩), .int .i64 (which : Int), .string b, .int .i64 (i0 : Int)] w fun e w' =>
      e = .returned (.tuple #[.int .i64 ((D.diff which b i0).2.1 : Int), errV (D.diff which b i0).2.2]) ∧ DskPost F p w (D.diff which b i0).1 w' := by
  have HP := Lib.hid (DskPost.start h)
  have hh := half_le h.ok
  obtain ⟨H, hH⟩ : ∃ H, H = D.half := ⟨_, rfl⟩
  have hH1 : H ≤ 999 := by omega
  have HLN : Hid (D.sure.length = D.sure.length) := rfl
  obtain ⟨R, hR⟩ : ∃ R, R = D.diff which b i0 := ⟨_, rfl⟩
  rw [← hR]
  have hR' : R = diffF which b (H - i0) i0 0 D := by rw [hR, hH]; rfl
  have HH := Lib.hid hH
  have HB := Lib.hid (And.intro hw (And.intro hb h2))
  clear hR hH h hh hw hb h2
  go_enter Tryz.func45, Tryz.ntmps45
  go_upto_region 3 with fail
  go_loopw [10, 11] (fun v10 v11 wr => ∃ (i n : Nat) (D1 : DS), v10 = .int .i64 (n : Int) ∧ v11 = .int .i64 (i : Int) ∧ i ≤ 100000 ∧ n ≤ 100000 ∧ Hid (n ≤ i) ∧ Hid (D1.sure.length = D.sure.length ∧ D1.done ≤ D.done + n) ∧ Hid (R = diffF which b (H - i) i n D1) ∧ Hid (DskPost F p w D1 wr)) (fun _ v11 _ => H - (intOf v11).toNat)
  case atStart => exact ⟨i0, 0, D, rfl, rfl, hi, by omega, Nat.zero_le _, ⟨rfl, Nat.le_refl _⟩, hR', HP⟩
  case round =>
    clear HP hR'
    obtain ⟨i, n, D1, rfl, rfl, hi1, hn1, hni, HL, HR, HP⟩ := hrel
    have hD1 := HP.out.2
    have hlen1 : 2 ≤ D1.sure.length := by rw [HL.out.1]; exact HB.out.2.2
    have hhalf : D1.half = H := by rw [HH.out]; unfold DS.half; rw [HL.out.1]
    have ch := Lib.hid (half_any wr _ p D1 hlen1 hD1)
    rw [hhalf] at ch
    by_cases hlt : i < H
    · obtain ⟨q, hq⟩ : ∃ q, q = D1.sec which i := ⟨_, rfl⟩
      have cs := Lib.hid (sector_any wr _ p D1 which i HB.out.1 hi1 hlen1 hD1)
      rw [← hq] at cs
      have cr := Lib.hid (Read_any wr _ p D1 (q : Int) hD1)
      have hRR := HR.out
      obtain ⟨f, hf⟩ : ∃ f, H - i = f + 1 := ⟨H - i - 1, by omega⟩
      have hf2 : H - (i + 1) = f := by omega
      have HF := Lib.hid hf2
      rw [hf] at hRR
      unfold diffF at hRR
      rw [← hq] at hRR
      obtain ⟨s, hs⟩ : ∃ s, s = D1.readS (q : Int) := ⟨_, rfl⟩
      obtain ⟨m, hm⟩ : ∃ m, m = D1.may (q : Int) := ⟨_, rfl⟩
      rw [← hs, ← hm] at cr hRR
      have q1 : (i : Int) < (H : Int) := by omega
      have HQ := Lib.hid (And.intro hq (And.intro hs hm))
      clear hq hs hm hf hf2 hlt hhalf
      by_cases hm0 : m = 0
      · subst hm0
        rw [errV_zero] at cr
        rw [if_neg (by decide)] at hRR
        have e64 : ((i * 64 : Nat) : Int) = (i : Int) * 64 := by omega
        have cp : Hid (∀ W, Calls Tryz.prog 66 #[.string b, .int .i64 ((i : Int) * 64), .int .i64 64] W fun e w' => e = .returned (.string (partB b (i * 64) 64)) ∧ W = w') := fun W => by
          have := part_any b (i * 64) 64 (by have := HB.out.2.1; omega) (by omega) (by omega) W
          rw [e64] at this
          exact this
        have cn := Lib.hid (noughts_any wr)
        obtain ⟨want, hwant⟩ : ∃ want, want = fillB (partB b (i * 64) 64) := ⟨_, rfl⟩
        rw [← hwant] at hRR
        have hwz : want.size = 64 := by rw [hwant]; exact fillB_size _ (partB_size _ _ _)
        have hfp := fill_part b (i * 64)
        have hps := partB_size b (i * 64) 64
        have hzs := zeroB_size 64
        rw [← hwant] at hfp
        generalize partB b (i * 64) 64 = x at cp hfp hps
        generalize zeroB 64 = z at cn hfp hzs
        have hcat : x ++ z.extract x.size 64 = want := hfp
        have hcat' : x ++ z.extract x.size z.size = want := by rw [hzs]; exact hfp
        have hxi : (x.size : Int) ≤ 64 := by omega
        have hxe : (z.extract x.size 64).size = 64 - x.size := by rw [ByteArray.size_extract, hzs]; omega
        have hcz : x.size + (64 - x.size) ≤ 9223372036854775807 := by omega
        have HWZ := Lib.hid hwz
        clear hwz hfp e64 hwant
        by_cases hsw : s = want
        · subst hsw
          rw [if_pos rfl] at hRR
          have HR2 := Lib.hid hRR
          clear hRR hD1 hlen1
          go_wp2_with (first
            | (go_at_call 38; (with_reducible refine ch.out.mono ?_); rintro e w1 ⟨rfl, rfl⟩)
            | (go_at_call 39; (with_reducible refine cs.out.mono ?_); rintro e w1 ⟨rfl, rfl⟩)
            | (go_at_call 33; (with_reducible refine cr.out.mono ?_); rintro e w1 ⟨rfl, rfl⟩)
            | (go_at_call 66; (with_reducible refine (cp.out _).mono ?_); rintro e w1 ⟨rfl, rfl⟩)
            | (go_at_call 78; (with_reducible refine cn.out.mono ?_); rintro e w1 ⟨rfl, hb⟩; have HP1 := Lib.hid (HP.out.below hb); clear hb))
          go_roundw
          case rel => exact ⟨i + 1, n, D1, rfl, by go_num, by omega, hn1, Nat.le_succ_of_le hni.out, HL.out, by rw [HF.out]; exact HR2.out, HP1.out⟩
          case measure => simp [intOf]; omega
        · have hne : (s.toList == want.toList) = false := beq_list_false hsw
          rw [if_neg hsw] at hRR
          obtain ⟨c, hc⟩ : ∃ c, c = D1.writeC (q : Int) want := ⟨_, rfl⟩
          obtain ⟨D2, hD2⟩ : ∃ D2, D2 = D1.write (q : Int) want := ⟨_, rfl⟩
          have cw := Lib.hid (fun W (G : Nat → Prop) (hG : Dsk W G p D1) => Write_any W G p D1 (q : Int) want (by have := HL.out.2; omega) hG)
          rw [← hc, ← hD2] at cw hRR
          have hlen2 : D2.sure.length = D1.sure.length := by rw [hD2]; exact D1.write_len _ _
          have hdone2 : D2.done ≤ D1.done + 1 := by rw [hD2]; exact D1.write_done _ _
          have HL2 : Hid (D2.sure.length = D.sure.length ∧ D2.done ≤ D.done + (n + 1)) := ⟨hlen2.trans HL.out.1, by have := HL.out.2; omega⟩
          clear hc hD2 hlen2 hdone2 hsw hD1 hlen1
          by_cases hc0 : c = 0
          · subst hc0
            rw [errV_zero] at cw
            rw [if_neg (by decide)] at hRR
            have HR2 := Lib.hid hRR
            clear hRR
            go_wp2_with (first
              | (go_at_call 38; (with_reducible refine ch.out.mono ?_); rintro e w1 ⟨rfl, rfl⟩)
              | (go_at_call 39; (with_reducible refine cs.out.mono ?_); rintro e w1 ⟨rfl, rfl⟩)
              | (go_at_call 33; (with_reducible refine cr.out.mono ?_); rintro e w1 ⟨rfl, rfl⟩)
              | (go_at_call 66; (with_reducible refine (cp.out _).mono ?_); rintro e w1 ⟨rfl, rfl⟩)
              | (go_at_call 78; (with_reducible refine cn.out.mono ?_); rintro e w1 ⟨rfl, hb⟩; have HP1 := Lib.hid (HP.out.below hb); clear hb)
              | (go_at_call 11; (with_reducible refine (cw.out _ _ HP1.out.dsk).mono ?_); rintro e w2 ⟨rfl, hp⟩; have HP2 := Lib.hid (HP1.out.then hp); clear hp))
            go_roundw
            case rel => exact ⟨i + 1, n + 1, D2, by go_num, by go_num, by omega, by have := hni.out; omega, Nat.succ_le_succ hni.out, HL2.out, by rw [HF.out]; exact HR2.out, HP2.out⟩
            case measure => simp [intOf]; omega
          · rw [if_pos hc0] at hRR
            rw [errV_ne hc0] at cw
            have HR2 := Lib.hid hRR
            have HC := Lib.hid (errV_ne hc0)
            clear hRR hc0
            go_wp2_with (first
              | (go_at_call 38; (with_reducible refine ch.out.mono ?_); rintro e w1 ⟨rfl, rfl⟩)
              | (go_at_call 39; (with_reducible refine cs.out.mono ?_); rintro e w1 ⟨rfl, rfl⟩)
              | (go_at_call 33; (with_reducible refine cr.out.mono ?_); rintro e w1 ⟨rfl, rfl⟩)
              | (go_at_call 66; (with_reducible refine (cp.out _).mono ?_); rintro e w1 ⟨rfl, rfl⟩)
              | (go_at_call 78; (with_reducible refine cn.out.mono ?_); rintro e w1 ⟨rfl, hb⟩; have HP1 := Lib.hid (HP.out.below hb); clear hb)
              | (go_at_call 11; (with_reducible refine (cw.out _ _ HP1.out.dsk).mono ?_); rintro e w2 ⟨rfl, hp⟩; have HP2 := Lib.hid (HP1.out.then hp); clear hp))
            go_ret2
            rw [HR2.out]
            exact ⟨by rw [HC.out]; rfl, HP2.out⟩
      · rw [if_pos hm0] at hRR
        rw [errV_ne hm0] at cr
        have HR2 := Lib.hid hRR
        have HM := Lib.hid (errV_ne hm0)
        clear hRR hm0 hD1 hlen1
        go_wp2_with (first
          | (go_at_call 38; (with_reducible refine ch.out.mono ?_); rintro e w1 ⟨rfl, rfl⟩)
          | (go_at_call 39; (with_reducible refine cs.out.mono ?_); rintro e w1 ⟨rfl, rfl⟩)
          | (go_at_call 33; (with_reducible refine cr.out.mono ?_); rintro e w1 ⟨rfl, rfl⟩))
        go_ret2
        rw [HR2.out]
        exact ⟨by rw [HM.out]; rfl, HP.out⟩
    · have q1 : (H : Int) ≤ (i : Int) := by omega
      have hR0 : R = (D1, n, 0) := by
        have := HR.out
        rw [show H - i = 0 by omega] at this
        exact this
      have HR2 := Lib.hid hR0
      clear hR0 hlt hD1 hlen1 hhalf
      go_wp2_with (go_at_call 38; (with_reducible refine ch.out.mono ?_); rintro e w1 ⟨rfl, rfl⟩)
      go_ret2
      rw [HR2.out]
      exact ⟨rfl, HP.out⟩
end Go.Proofs.YtjincmagbbpooaaGreatDoor
end

section
set_option linter.unusedVariables false
set_option linter.unusedSimpArgs false
namespace Go.Proofs.YtjincmagbbpooaaGreatDoor
open Go.RowKit

theorem superB_size (turn which : Nat) (ht : turn < 4294967296) (hw : which ≤ 1) : (superB turn which).size ≤ 28 := by
  unfold superB
  have h := num_size which (by omega)
  have := wrapS_size turn (strN (numB which)) ht (by omega)
  omega

set_option maxHeartbeats 8000000 in
set_option maxRecDepth 100000 in
theorem super_any (F : Nat → Prop) (p : Nat) (D : DS) (at_ turn which : Nat) (w : World) (h : Dsk w F p D) (ht : turn < 4294967296) (hw : which ≤ 1) (hd : D.done < 1099511627776) :
    Calls Tryz.prog 47 #[.pointer (some ⟨p, 0, none⟩), .int .i64 (at_ : Int), .int .i64 (turn : Int), .int .i64 (which : Int)] w fun e w' =>
      e = .returned (errV (D.super at_ turn which).2) ∧ DskPost F p w (D.super at_ turn which).1 w' := by
  have HP := Lib.hid (DskPost.start h)
  have cn := Lib.hid (Num_any (which : Int) which (by unfold mxI; rw [if_neg (by omega)]) (by omega) w)
  have cw := Lib.hid (fun W => Wrap_any turn (strN (numB which)) ht (by have := num_size which (by omega); omega) W)
  have ci := Lib.hid (fun W (G : Nat → Prop) (hG : Dsk W G p D) => Write_any W G p D (at_ : Int) (superB turn which) hd hG)
  unfold DS.super
  rw [show wrapS turn (strN (numB which)) = superB turn which from rfl] at cw
  generalize superB turn which = sb at cw ci ⊢
  generalize strN (numB which) = nb at cn cw
  obtain ⟨c, hc⟩ : ∃ c, D.writeC (at_ : Int) sb = c := ⟨_, rfl⟩
  obtain ⟨D1, hD1⟩ : ∃ D1, D.write (at_ : Int) sb = D1 := ⟨_, rfl⟩
  rw [hc, hD1] at ci ⊢
  clear h hc hD1 hd
  by_cases hc0 : c = 0
  · subst hc0
    rw [errV_zero] at ci
    rw [if_neg (by decide)]
    have cf := Lib.hid (fun W (G : Nat → Prop) (hG : Dsk W G p D1) => Flush_any W G p D1 hG)
    generalize D1.flush = D2 at cf ⊢
    generalize D1.flushC = c2 at cf ⊢
    go_enter Tryz.func47, Tryz.ntmps47
    go_wp2_with (first
      | (go_at_call 81; (with_reducible refine cn.out.mono ?_); rintro e w1 ⟨rfl, hb⟩; have HP1 := Lib.hid (HP.out.below hb); clear hb)
      | (go_at_call 80; (with_reducible refine (cw.out _).mono ?_); rintro e w2 ⟨rfl, hb⟩; have HP2 := Lib.hid (HP1.out.below hb); clear hb)
      | (go_at_call 11; (with_reducible refine (ci.out _ _ HP2.out.dsk).mono ?_); rintro e w3 ⟨rfl, hp⟩; have HP3 := Lib.hid (HP2.out.then hp); clear hp)
      | (go_at_call 46; (with_reducible refine (cf.out _ _ HP3.out.dsk).mono ?_); rintro e w4 ⟨rfl, hp⟩; have HP4 := Lib.hid (HP3.out.then hp); clear hp))
    go_ret
    exact ⟨rfl, HP4.out⟩
  · rw [if_pos hc0]
    rw [errV_ne hc0] at ci
    have HC := Lib.hid (errV_ne hc0)
    clear hc0
    go_enter Tryz.func47, Tryz.ntmps47
    go_wp2_with (first
      | (go_at_call 81; (with_reducible refine cn.out.mono ?_); rintro e w1 ⟨rfl, hb⟩; have HP1 := Lib.hid (HP.out.below hb); clear hb)
      | (go_at_call 80; (with_reducible refine (cw.out _).mono ?_); rintro e w2 ⟨rfl, hb⟩; have HP2 := Lib.hid (HP1.out.below hb); clear hb)
      | (go_at_call 11; (with_reducible refine (ci.out _ _ HP2.out.dsk).mono ?_); rintro e w3 ⟨rfl, hp⟩; have HP3 := Lib.hid (HP2.out.then hp); clear hp))
    go_ret
    exact ⟨by rw [HC.out]; rfl, HP3.out⟩

theorem diffF_keeps (which : Nat) (b : ByteArray) : ∀ (f i n : Nat) (D : DS), n ≤ (diffF which b f i n D).2.1 ∧ (diffF which b f i n D).2.1 ≤ n + f ∧ (diffF which b f i n D).1.sure.length = D.sure.length ∧ (diffF which b f i n D).1.done ≤ D.done + f
  | 0, i, n, D => ⟨Nat.le_refl _, Nat.le_refl _, rfl, Nat.le_refl _⟩
  | f + 1, i, n, D => by
    unfold diffF
    split
    · exact ⟨Nat.le_refl _, by simp only; omega, rfl, by simp only; omega⟩
    split
    · have := diffF_keeps which b f (i + 1) n D
      exact ⟨this.1, by omega, this.2.2.1, by omega⟩
    split
    · have := D.write_done (D.sec which i) (fillB (partB b (i * 64) 64))
      exact ⟨Nat.le_refl _, by simp only; omega, D.write_len _ _, by simp only; omega⟩
    · have h1 := diffF_keeps which b f (i + 1) (n + 1) (D.write (D.sec which i) (fillB (partB b (i * 64) 64)))
      have h2 := D.write_done (D.sec which i) (fillB (partB b (i * 64) 64))
      have h3 := D.write_len (D.sec which i) (fillB (partB b (i * 64) 64))
      exact ⟨by omega, by omega, h1.2.2.1.trans h3, by omega⟩
theorem DS.diff_len (D : DS) (which : Nat) (b : ByteArray) (i : Nat) : (D.diff which b i).1.sure.length = D.sure.length := (diffF_keeps _ _ _ _ _ _).2.2.1
theorem DS.diff_done (D : DS) (which : Nat) (b : ByteArray) (i : Nat) : (D.diff which b i).1.done ≤ D.done + D.half := by
  have := (diffF_keeps which b (D.half - i) i 0 D).2.2.2
  exact Nat.le_trans this (by omega)

set_option maxHeartbeats 8000000 in
set_option maxRecDepth 100000 in
theorem Format_any (F : Nat → Prop) (p : Nat) (D : DS) (w : World) (h : Dsk w F p D) (hd : D.done < 1099510000000) :
    Calls Tryz.prog 10 #[.pointer (some ⟨p, 0, none⟩)] w fun e w' => e = .returned (errV D.format.2) ∧ DskPost F p w D.format.1 w' := by
  have HP := Lib.hid (DskPost.start h)
  have cl := Lib.hid (Len_any w F p D h)
  unfold DS.format
  by_cases h4 : D.sure.length < 4
  · rw [if_pos h4]
    have t1 : (D.sure.length : Int) < 4 := by omega
    generalize D.sure.length = n at cl t1
    clear h4 h hd
    go_enter Tryz.func10, Tryz.ntmps10
    go_wp2_with (go_at_call 36; (with_reducible refine cl.out.mono ?_); rintro e w1 ⟨rfl, rfl⟩)
    go_ret
    exact ⟨rfl, HP.out⟩
  rw [if_neg h4]
  have t1 : (4 : Int) ≤ (D.sure.length : Int) := by omega
  have cw := Lib.hid (fun W (G : Nat → Prop) (hG : Dsk W G p D) => Write_any W G p D 1 ⟨#[]⟩ (by omega) hG)
  have hl1 := D.write_len 1 ⟨#[]⟩
  have hd1 := D.write_done 1 ⟨#[]⟩
  have hhalf := half_le h.ok
  have hh1 := half_write D 1 ⟨#[]⟩
  obtain ⟨c, hc⟩ : ∃ c, D.writeC 1 ⟨#[]⟩ = c := ⟨_, rfl⟩
  obtain ⟨D1, hD1⟩ : ∃ D1, D.write 1 ⟨#[]⟩ = D1 := ⟨_, rfl⟩
  rw [hc, hD1] at cw ⊢
  rw [hD1] at hl1 hd1 hh1
  by_cases hc0 : c = 0
  · subst hc0
    rw [errV_zero] at cw
    rw [if_neg (by decide)]
    have cd := Lib.hid (fun W (G : Nat → Prop) (hG : Dsk W G p D1) => differs_any G p D1 0 ⟨#[]⟩ 0 W hG (by decide) (by decide) (by decide) (by omega) (by omega))
    have hl2 := D1.diff_len 0 ⟨#[]⟩ 0
    have hd2 := D1.diff_done 0 ⟨#[]⟩ 0
    generalize D1.diff 0 ⟨#[]⟩ 0 = R at cd hl2 hd2 ⊢
    obtain ⟨D2, n2, c2⟩ := R
    simp only at cd hl2 hd2 ⊢
    by_cases hc2 : c2 = 0
    · subst hc2
      rw [errV_zero] at cd
      rw [if_neg (by decide)]
      have cf := Lib.hid (fun W (G : Nat → Prop) (hG : Dsk W G p D2) => Flush_any W G p D2 hG)
      have hd3 := D2.flush_done
      obtain ⟨c3, hc3⟩ : ∃ c, D2.flushC = c := ⟨_, rfl⟩
      obtain ⟨D3, hD3⟩ : ∃ D3, D2.flush = D3 := ⟨_, rfl⟩
      rw [hc3, hD3] at cf ⊢
      rw [hD3] at hd3
      by_cases hc30 : c3 = 0
      · subst hc30
        rw [errV_zero] at cf
        rw [if_neg (by decide)]
        have cs := Lib.hid (fun W (G : Nat → Prop) (hG : Dsk W G p D3) => super_any G p D3 0 1 0 W hG (by decide) (by decide) (by omega))
        generalize D3.super 0 1 0 = S4 at cs ⊢
        generalize D.sure.length = n at cl t1
        clear h h4 hd hl1 hd1 hhalf hh1 hc hD1 hl2 hd2 hd3 hc3 hD3
        go_enter Tryz.func10, Tryz.ntmps10
        go_wp2_with (first
          | (go_at_call 36; (with_reducible refine cl.out.mono ?_); rintro e w1 ⟨rfl, rfl⟩)
          | (go_at_call 11; (with_reducible refine (cw.out _ _ HP.out.dsk).mono ?_); rintro e w1 ⟨rfl, hp⟩; have HP1 := Lib.hid (HP.out.then hp); clear hp)
          | (go_at_call 45; (refine (cd.out _ _ HP1.out.dsk).mono ?_); rintro e w2 ⟨rfl, hp⟩; have HP2 := Lib.hid (HP1.out.then hp); clear hp)
          | (go_at_call 46; (with_reducible refine (cf.out _ _ HP2.out.dsk).mono ?_); rintro e w3 ⟨rfl, hp⟩; have HP3 := Lib.hid (HP2.out.then hp); clear hp)
          | (go_at_call 47; (refine (cs.out _ _ HP3.out.dsk).mono ?_); rintro e w4 ⟨rfl, hp⟩; have HP4 := Lib.hid (HP3.out.then hp); clear hp))
        go_ret
        exact ⟨rfl, HP4.out⟩
      · rw [errV_ne hc30] at cf
        rw [if_pos hc30]
        have HC := Lib.hid (errV_ne hc30)
        generalize D.sure.length = n at cl t1
        clear h h4 hd hl1 hd1 hhalf hh1 hc hD1 hl2 hd2 hd3 hc3 hD3 hc30
        go_enter Tryz.func10, Tryz.ntmps10
        go_wp2_with (first
          | (go_at_call 36; (with_reducible refine cl.out.mono ?_); rintro e w1 ⟨rfl, rfl⟩)
          | (go_at_call 11; (with_reducible refine (cw.out _ _ HP.out.dsk).mono ?_); rintro e w1 ⟨rfl, hp⟩; have HP1 := Lib.hid (HP.out.then hp); clear hp)
          | (go_at_call 45; (refine (cd.out _ _ HP1.out.dsk).mono ?_); rintro e w2 ⟨rfl, hp⟩; have HP2 := Lib.hid (HP1.out.then hp); clear hp)
          | (go_at_call 46; (with_reducible refine (cf.out _ _ HP2.out.dsk).mono ?_); rintro e w3 ⟨rfl, hp⟩; have HP3 := Lib.hid (HP2.out.then hp); clear hp))
        go_ret
        exact ⟨by rw [HC.out]; rfl, HP3.out⟩
    · rw [errV_ne hc2] at cd
      rw [if_pos hc2]
      have HC := Lib.hid (errV_ne hc2)
      generalize D.sure.length = n at cl t1
      clear h h4 hd hl1 hd1 hhalf hh1 hc hD1 hl2 hd2 hc2
      go_enter Tryz.func10, Tryz.ntmps10
      go_wp2_with (first
        | (go_at_call 36; (with_reducible refine cl.out.mono ?_); rintro e w1 ⟨rfl, rfl⟩)
        | (go_at_call 11; (with_reducible refine (cw.out _ _ HP.out.dsk).mono ?_); rintro e w1 ⟨rfl, hp⟩; have HP1 := Lib.hid (HP.out.then hp); clear hp)
        | (go_at_call 45; (refine (cd.out _ _ HP1.out.dsk).mono ?_); rintro e w2 ⟨rfl, hp⟩; have HP2 := Lib.hid (HP1.out.then hp); clear hp))
      go_ret
      exact ⟨by rw [HC.out]; rfl, HP2.out⟩
  · rw [errV_ne hc0] at cw
    rw [if_pos hc0]
    have HC := Lib.hid (errV_ne hc0)
    generalize D.sure.length = n at cl t1
    clear h h4 hd hl1 hd1 hhalf hh1 hc hD1 hc0
    go_enter Tryz.func10, Tryz.ntmps10
    go_wp2_with (first
      | (go_at_call 36; (with_reducible refine cl.out.mono ?_); rintro e w1 ⟨rfl, rfl⟩)
      | (go_at_call 11; (with_reducible refine (cw.out _ _ HP.out.dsk).mono ?_); rintro e w1 ⟨rfl, hp⟩; have HP1 := Lib.hid (HP.out.then hp); clear hp))
    go_ret
    exact ⟨by rw [HC.out]; rfl, HP1.out⟩
end Go.Proofs.YtjincmagbbpooaaGreatDoor
end
