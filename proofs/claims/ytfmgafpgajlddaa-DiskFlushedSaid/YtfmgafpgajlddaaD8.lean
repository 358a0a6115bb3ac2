import Derived.Test.YtfmgafpgajlddaaD6
set_option linter.unusedVariables false
set_option linter.unusedSimpArgs false
namespace Go.Proofs.Ytfmgafpgajlddaa
open Go.RowKit
attribute [local go_sem] max2_int max_two min2_int min_two

theorem errV_zero' : errV 0 = .nilIface := rfl
/-- A disk of ten sectors whose power goes behind k writes, behind i of them. -/
structure St (D : DS) (k i : Nat) : Prop where
  len : D.sure.length = 10
  done : D.done = min k i
  left : D.left = (k : Int) - ((min k i : Nat) : Int)
  dead : D.dead = decide (k < i)
theorem St.start (k : Nat) (hk : k < 20) : St ((newD 10).cut (k : Int)) k 0 :=
  ⟨rfl, by show 0 = _; omega, by show mxI (k : Int) (-1) = _; unfold mxI; split <;> omega, by simp [DS.cut, newD]⟩
theorem St.may {D : DS} {k i : Nat} (h : St D k i) (j : Nat) (hj : j < 10) : D.may (j : Int) = if k < i then 25 else 0 := by
  unfold DS.may
  rw [h.len, h.dead]
  by_cases hd : k < i
  · rw [if_pos (by simp [hd]), if_pos hd]
  · rw [if_neg (by simp [hd]), if_neg hd, if_neg (by omega)]
theorem St.code {D : DS} {k i : Nat} (h : St D k i) (j : Nat) (hj : j < 10) (b : ByteArray) (hb : b.size ≤ 64) : D.writeC (j : Int) b = if i < k then 0 else 25 := by
  unfold DS.writeC
  rw [h.may j hj]
  by_cases hd : k < i
  · rw [if_pos hd, if_pos (by decide), if_neg (by omega)]
  · rw [if_neg hd, if_neg (by decide), if_neg (by omega), h.left]
    by_cases hi : i < k
    · rw [if_neg (by omega), if_pos hi]
    · rw [if_pos (by omega), if_neg hi]
theorem St.step {D : DS} {k i : Nat} (h : St D k i) (j : Nat) (hj : j < 10) (b : ByteArray) (hb : b.size ≤ 64) : St (D.write (j : Int) b) k (i + 1) := by
  unfold DS.write
  rw [h.code j hj b hb]
  by_cases hi : i < k
  · rw [if_pos hi, if_pos rfl]
    refine ⟨h.len, ?_, ?_, ?_⟩
    · show D.done + 1 = _; rw [h.done]; omega
    · show (if 0 < D.left then D.left - 1 else D.left) = _; rw [h.left]; split <;> omega
    · show D.dead = _; rw [h.dead]; rw [decide_eq_false (by omega), decide_eq_false (by omega)]
  · rw [if_neg hi, if_neg (by decide), h.may j hj]
    by_cases hd : k < i
    · rw [if_pos hd, if_neg (by omega)]
      refine ⟨h.len, by rw [h.done]; omega, by rw [h.left]; omega, by rw [h.dead, decide_eq_true hd, decide_eq_true (by omega)]⟩
    · rw [if_neg hd, if_pos ⟨rfl, hb⟩]
      exact ⟨h.len, by show D.done = _; rw [h.done]; omega, by show D.left = _; rw [h.left]; omega, (decide_eq_true (by omega : k < i + 1)).symm⟩

set_option maxHeartbeats 8000000 in
set_option maxRecDepth 100000 in
theorem DiskCuts_any (a b : Nat) (ha : a < 256) (hb : b < 256) (w : World) :
    Calls Try.prog 5 #[.int .u8 (a : Int), .int .u8 (b : Int)] w fun e w' => e = .returned (.bool true) ∧ Below w.heap.size w w' := by
  have ck := Lib.hid (known1_any w)
  have cn := Lib.hid (fun w => New_own w 10 10 (by decide) (by omega) (by omega))
  obtain ⟨k, hk⟩ : ∃ k, a % 20 = k := ⟨_, rfl⟩
  obtain ⟨m, hm⟩ : ∃ m, b % 30 = m := ⟨_, rfl⟩
  have hk1 : (a : Int) % 20 = (k : Int) := by omega
  have hm1 : (b : Int) % 30 = (m : Int) := by omega
  have zk : k < 20 := by omega
  have zm : m < 30 := by omega
  have cu := Lib.hid (fun B w p => Cut_own B w p (newD 10) (k : Int) _ (by omega) rfl)
  have hs0 := St.start k zk
  obtain ⟨D0, hD0⟩ : ∃ D, D = (newD 10).cut (k : Int) := ⟨_, rfl⟩
  rw [← hD0] at cu hs0
  obtain ⟨mn, hmn⟩ : ∃ mn : Nat, mn = min k m := ⟨_, rfl⟩
  have emn : Builtin.min_ #[3, 3] 3 #[.int .i64 (k : Int), .int .i64 (m : Int)] = (pure (.int .i64 (mn : Int)) : Sem Value) := by
    rw [min_two, min2_int, show mnI (k : Int) (m : Int) = (mn : Int) by unfold mnI; split <;> omega]; rfl
  have HMN := Lib.hid hmn
  replace hs0 := Lib.hid hs0
  clear hk hm hD0 hmn
  go_enter Try.func5, Try.ntmps5
  go_wp2_with (first
    | (go_at_call 6; (with_reducible refine ck.out.mono ?_); rintro e wb ⟨rfl, hb⟩; have HB0 := Lib.hid hb; clear hb)
    | (go_at_call 7; (with_reducible refine (cn.out _).mono ?_); rintro e w2 ⟨p, rfl, hb, ho⟩; have HB := Lib.hid hb; have HO := Lib.hid ho; clear hb ho)
    | (go_at_call 17; (with_reducible refine (cu.out _ _ _ HO.out).mono ?_); rintro e w3 ⟨rfl, hb, ho⟩; replace HB := Lib.hid (HB.out.trans hb); have HO1 := Lib.hid ho; clear hb ho HO))
  go_loopw [8] (fun v8 wr => ∃ (i : Nat) (D : DS), v8 = .int .i64 (i : Int) ∧ i ≤ m ∧ Hid (St D k i) ∧ Hid (Below wb.heap.size wb wr) ∧ Hid (Own wb.heap.size wr p D)) (fun v8 _ => m - (intOf v8).toNat)
  case atStart => exact ⟨0, D0, rfl, Nat.zero_le _, hs0, HB, HO1⟩
  case round =>
    clear HB HO1
    obtain ⟨i, D, rfl, hi, HS, HB, HO⟩ := hrel
    by_cases hlt : i < m
    · obtain ⟨j, hj⟩ : ∃ j, i % 10 = j := ⟨_, rfl⟩
      have hj1 : (i : Int) % 10 = (j : Int) := by omega
      have hj10 : j < 10 := by omega
      have cw := Lib.hid (fun w => Write_own wb.heap.size w p D (j : Int) ⟨#[120]⟩ _ _ _ (HS.out.code j hj10 _ (by decide)) rfl rfl (by rw [HS.out.done]; omega))
      have HS2 := Lib.hid (HS.out.step j hj10 ⟨#[120]⟩ (by decide))
      clear hj
      by_cases hik : i < k
      · rw [if_pos hik, errV_zero'] at cw
        have t1 : decide ((i : Int) < (k : Int)) = true := decide_eq_true (by omega)
        have t1' : decide (i < k) = true := decide_eq_true hik
        clear hik
        go_wp2_with (go_at_call 8; (with_reducible refine (cw.out _ HO.out).mono ?_); rintro e w3 ⟨rfl, hb, ho⟩; replace HB := Lib.hid (HB.out.trans hb); replace HO := Lib.hid ho; clear hb ho)
        go_roundw
        case rel => exact ⟨i + 1, _, by go_num, by omega, HS2.out, HB.out, HO.out⟩
        case measure => simp [intOf]; omega
      · rw [if_neg hik, errV_ne' (by decide)] at cw
        have t1 : decide ((i : Int) < (k : Int)) = false := decide_eq_false (by omega)
        have t1' : decide (i < k) = false := decide_eq_false hik
        clear hik
        go_wp2_with (first
          | (go_at_call 8; (with_reducible refine (cw.out _ HO.out).mono ?_); rintro e w3 ⟨rfl, hb, ho⟩; replace HB := Lib.hid (HB.out.trans hb); replace HO := Lib.hid ho; clear hb ho)
          | (go_at_call 10; (with_reducible refine (is_yes 25 _).mono ?_); rintro e w8 ⟨rfl, rfl⟩))
        go_roundw
        case rel => exact ⟨i + 1, _, by go_num, by omega, HS2.out, HB.out, HO.out⟩
        case measure => simp [intOf]; omega
    · obtain rfl : i = m := by omega
      clear hlt hi
      have hS := HS.out
      have cws := Lib.hid (fun w D' (hD : D'.done = D.done) => Writes_own wb.heap.size w p D' (mn : Int) (by rw [hD, hS.done, HMN.out]))
      obtain ⟨D2, hD2⟩ : ∃ D2, D2 = (if k < i then D else D.flush) := ⟨_, rfl⟩
      have hD2d : D2.done = D.done := by rw [hD2]; split; rfl; unfold DS.flush; split <;> rfl
      have hD2l : D2.sure.length = 10 := by
        rw [hD2]
        split
        · exact hS.len
        · unfold DS.flush
          split
          · exact hS.len
          · show (keepN _ _ _ _ _).length = 10
            rw [keepN_len, hS.len]
      obtain ⟨D3, hD3⟩ : ∃ D3, D3 = D2.crash (keepOf []) (-1) := ⟨_, rfl⟩
      have hD3l : D3.sure.length = 10 := by
        rw [hD3]
        show (keepN _ _ _ _ _).length = 10
        rw [keepN_len, hD2l]
      have cc := Lib.hid (fun w => Crash_own wb.heap.size w p D2 none 0 0 [] (-1) D3 rfl (by omega) hD3.symm (BoolsAt.nil _ _) (fun hl b off h => by cases h))
      have m3 : D3.may 0 = 0 := by unfold DS.may; rw [hD3l, hD3]; rfl
      have c3 : D3.writeC 0 ⟨#[121]⟩ = 0 := DS.writeC_zero.2 ⟨m3, by decide, by rw [hD3]; show (-1 : Int) ≠ 0; decide⟩
      have hd3 : D3.done < 1099511627776 := by rw [hD3]; show D2.done < _; rw [hD2d, hS.done]; omega
      have cw3 := Lib.hid (fun w => Write_own wb.heap.size w p D3 0 ⟨#[121]⟩ _ 0 .nilIface c3 rfl rfl hd3)
      obtain ⟨D4, hD4⟩ : ∃ D4, D4 = D3.write 0 ⟨#[121]⟩ := ⟨_, rfl⟩
      rw [← hD4] at cw3
      have d4 : D4.dead = false := by rw [hD4]; unfold DS.write; rw [if_pos c3, hD3]; rfl
      have cf4 := Lib.hid (fun w => Flush_own wb.heap.size w p D4 _ 0 .nilIface (by unfold DS.flushC; rw [d4]; rfl) rfl rfl)
      have cl4 := Lib.hid (fun w => Loose_own wb.heap.size w p D4.flush 0 (by unfold DS.flush; rw [d4]; rfl))
      have HD2d := Lib.hid hD2d
      by_cases hki : k < i
      · rw [if_pos hki] at hD2
        subst hD2
        have cr := Lib.hid (fun w => Read_own wb.heap.size w p D2 0 ⟨#[]⟩ 25 (.iface 31 (.int .i64 25)) (by unfold DS.readS; rw [show (0 : Int) = ((0 : Nat) : Int) by rfl, hS.may 0 (by omega), if_pos hki]; rfl) (by rw [show (0 : Int) = ((0 : Nat) : Int) by rfl, hS.may 0 (by omega), if_pos hki]) rfl)
        have dd : D2.dead = true := by rw [hS.dead, decide_eq_true hki]
        have cf := Lib.hid (fun w => Flush_own wb.heap.size w p D2 D2 25 (.iface 31 (.int .i64 25)) (by unfold DS.flushC; rw [dd]; rfl) rfl (by unfold DS.flush; rw [dd]; rfl))
        have t1 : decide ((k : Int) < (i : Int)) = true := decide_eq_true (by omega)
        have t1' : decide (k < i) = true := decide_eq_true hki
        clear hki hS dd hD2d hD2l hD3 hD3l m3 c3 hd3 hD4 d4
        go_wp2_with (first
          | (go_at_call 15; (with_reducible refine (cr.out _ HO.out).mono ?_); rintro e w3 ⟨rfl, rfl⟩)
          | (go_at_call 13; (with_reducible refine (cf.out _ HO.out).mono ?_); rintro e w3 ⟨rfl, hb, ho⟩; replace HB := Lib.hid (HB.out.trans hb); replace HO := Lib.hid ho; clear hb ho)
          | (go_at_call 11; (with_reducible refine (cws.out _ D2 rfl HO.out).mono ?_); rintro e w3 ⟨rfl, rfl⟩)
          | (go_at_call 14; (with_reducible refine (cc.out _ HO.out).mono ?_); rintro e w3 ⟨rfl, hb, ho⟩; replace HB := Lib.hid (HB.out.trans hb); have HO3 := Lib.hid ho; clear hb ho HO)
          | (go_at_call 8; (with_reducible refine (cw3.out _ HO3.out).mono ?_); rintro e w3 ⟨rfl, hb, ho⟩; replace HB := Lib.hid (HB.out.trans hb); have HO4 := Lib.hid ho; clear hb ho HO3)
          | (go_at_call 13; (with_reducible refine (cf4.out _ HO4.out).mono ?_); rintro e w3 ⟨rfl, hb, ho⟩; replace HB := Lib.hid (HB.out.trans hb); have HO5 := Lib.hid ho; clear hb ho HO4)
          | (go_at_call 12; (with_reducible refine (cl4.out _ HO5.out).mono ?_); rintro e w3 ⟨rfl, rfl⟩)
          | (go_at_call 10; (with_reducible refine (is_yes 25 _).mono ?_); rintro e w8 ⟨rfl, rfl⟩))
        go_ret
        exact ⟨rfl, below_step HB0.out HB.out⟩
      · rw [if_neg hki] at hD2
        have cr := Lib.hid (fun w => Read_own wb.heap.size w p D 0 _ 0 .nilIface rfl (by have := hS.may 0 (by omega); rw [if_neg hki] at this; exact this) rfl)
        have dd : D.dead = false := by rw [hS.dead, decide_eq_false hki]
        have cf := Lib.hid (fun w => Flush_own wb.heap.size w p D D2 0 .nilIface (by unfold DS.flushC; rw [dd]; rfl) rfl hD2.symm)
        have t1 : decide ((k : Int) < (i : Int)) = false := decide_eq_false (by omega)
        have t1' : decide (k < i) = false := decide_eq_false hki
        clear hki hS dd hD2d hD2l hD3 hD3l m3 c3 hd3 hD4 d4 hD2
        go_wp2_with (first
          | (go_at_call 15; (with_reducible refine (cr.out _ HO.out).mono ?_); rintro e w3 ⟨rfl, rfl⟩)
          | (go_at_call 13; (with_reducible refine (cf.out _ HO.out).mono ?_); rintro e w3 ⟨rfl, hb, ho⟩; replace HB := Lib.hid (HB.out.trans hb); have HO2 := Lib.hid ho; clear hb ho HO)
          | (go_at_call 11; (with_reducible refine (cws.out _ _ HD2d.out HO2.out).mono ?_); rintro e w3 ⟨rfl, rfl⟩)
          | (go_at_call 14; (with_reducible refine (cc.out _ HO2.out).mono ?_); rintro e w3 ⟨rfl, hb, ho⟩; replace HB := Lib.hid (HB.out.trans hb); have HO3 := Lib.hid ho; clear hb ho HO2)
          | (go_at_call 8; (with_reducible refine (cw3.out _ HO3.out).mono ?_); rintro e w3 ⟨rfl, hb, ho⟩; replace HB := Lib.hid (HB.out.trans hb); have HO4 := Lib.hid ho; clear hb ho HO3)
          | (go_at_call 13; (with_reducible refine (cf4.out _ HO4.out).mono ?_); rintro e w3 ⟨rfl, hb, ho⟩; replace HB := Lib.hid (HB.out.trans hb); have HO5 := Lib.hid ho; clear hb ho HO4)
          | (go_at_call 12; (with_reducible refine (cl4.out _ HO5.out).mono ?_); rintro e w3 ⟨rfl, rfl⟩)
          | (go_at_call 10; (with_reducible refine (is_nil 25 _).mono ?_); rintro e w8 ⟨rfl, rfl⟩))
        go_ret
        exact ⟨rfl, below_step HB0.out HB.out⟩

theorem DiskCuts_walk (a b : Int) (w1 : (Lit.int .u8 a).wf = true) (w2 : (Lit.int .u8 b).wf = true) (w : World) :
    Calls Try.prog 5 #[.int .u8 a, .int .u8 b] w fun e w' => e = .returned (.bool true) ∧ Below w.heap.size w w' := by
  have b1 : 0 ≤ a ∧ a ≤ 255 := by simpa [Lit.wf, IntKind.min, IntKind.max, IntKind.signed, IntKind.bits] using w1
  have b2 : 0 ≤ b ∧ b ≤ 255 := by simpa [Lit.wf, IntKind.min, IntKind.max, IntKind.signed, IntKind.bits] using w2
  obtain ⟨n1, rfl⟩ : ∃ k : Nat, a = (k : Int) := ⟨a.toNat, by omega⟩
  obtain ⟨n2, rfl⟩ : ∃ k : Nat, b = (k : Int) := ⟨b.toNat, by omega⟩
  exact DiskCuts_any n1 n2 (by omega) (by omega) w
end Go.Proofs.Ytfmgafpgajlddaa
