import Derived.Test.YtjincmagbbpooaaGreatDoorKA
set_option linter.unusedVariables false
set_option linter.unusedSimpArgs false
namespace Go.Proofs.YtjincmagbbpooaaGreatDoor
open Go.RowKit

theorem Save.low {B : Nat} {H : Nat → Prop} {w w' : World} (h : Save H w w') (hH : ∀ k, H k → B ≤ k) (hB : B ≤ w.heap.size) : Below B w w' :=
  ⟨h.os, h.tape, h.output, h.size, fun k hk => h.block k (by omega) (fun hm => by have := hH k hm; omega)⟩
theorem save_own {H : Nat → Prop} {w w' : World} {base : Nat} {e : TypeId} {s n : Nat} {v : Value} {xs : List Value} (h : w.ownsRow base e s v n xs) (hs : Save H w w') (hv : ∀ g, v.ownBlock = some g → ¬ H g) : w'.ownsRow base e s v n xs :=
  own_same h fun g hg => hs.block g (h.lt g hg).2 (hv g hg)
theorem Own.dsk {B : Nat} {w : World} {p : Nat} {D : DS} (h : Own B w p D) : Dsk w (fun k => B ≤ k ∧ k < w.heap.size) p D := h
theorem sl_slice {w : World} {base n : Nat} {a : Option Addr} {c : Nat} {l : List ByteArray} (h : w.ownsRow base 9 1 (.slice a n c) l.length (strsV l)) : SlOf mkS w a l := by
  obtain ⟨a', c', e, hs⟩ := sl_own h
  cases e
  exact hs

set_option maxHeartbeats 16000000 in
set_option maxRecDepth 100000 in
theorem JournalAgain_any (a : Option Addr) (c : Nat) (l : List ByteArray) (n : Nat) (hn : n = l.length) (used : Bool) (w : World) (he : ErrVar w) (ha : SlOf mkS w a l) :
    Calls Tryz.prog 5 #[.slice a n c, .bool used] w (fun e w' => e = .returned (.bool true) ∧ Below w.heap.size w w') := by
  have ck := Lib.hid (known4_any w he)
  by_cases h1 : (10 : Int) < (n : Int)
  · clear hn ha
    go_enter Tryz.func5, Tryz.ntmps5
    go_wp2_with (first
      | (go_at_call 7; (with_reducible refine ck.out.mono ?_); rintro e w1 ⟨rfl, hb⟩; have HB := Lib.hid hb; clear hb))
    go_ret
    exact ⟨rfl, HB.out⟩
  have hn10 : n ≤ 10 := by omega
  have cl := Lib.hid (fun W (hB : Below w.heap.size w W) => long_any a c l n hn (by omega) W (((LowSl.of_sl ha).keep hB).sl))
  by_cases h3 : longB l = true
  · rw [h3] at cl
    clear hn ha
    go_enter Tryz.func5, Tryz.ntmps5
    go_wp2_with (first
      | (go_at_call 7; (with_reducible refine ck.out.mono ?_); rintro e w1 ⟨rfl, hb⟩; have HB := Lib.hid hb; clear hb)
      | (go_at_call 13; (with_reducible refine (cl.out _ HB.out).mono ?_); rintro e w2 ⟨rfl, rfl⟩))
    go_ret
    exact ⟨rfl, HB.out⟩
  rw [Bool.not_eq_true] at h3
  rw [h3] at cl
  have hs := longB_no h3
  have hf1 : FitsIn 160 (([] : List ByteArray).length + n) := by unfold FitsIn; simp; omega
  have cn := Lib.hid (fun W => New_own W 160 160 (by decide) (by decide) (by decide))
  have cF0 := Lib.hid (fun B w p h => Format_sane 160 990 (newD 160) (new_live 160 (by decide) (by decide)) (newD_len 160) (by decide) (by show 0 ≤ _; decide) (by decide) B w p h)
  have cfi := Lib.hid (fun D (S : Sane 160 (990 + 1010) 1 D J0 []) B p w hg hgB ho hl => filled_own D S l n hn hn10 hs a c B p w hg hgB ho hl)
  have cF := Lib.hid (fun (D : DS) (L : Live D) (hl : D.sure.length = 160) (hd : D.done ≤ 50000) B w p h => Format_sane 160 50000 D L hl (by decide) hd (by decide) B w p h)
  have cO := Lib.hid (fun (D : DS) (S : Sane 160 (50000 + 1010) 1 D J0 []) B p w hg hgB h => jOpen_good B p D J0 [] S.good (by have := S.done; omega) w hg hgB h)
  have cA := Lib.hid (fun (D : DS) (S : Sane 160 (50000 + 1010) 1 D J0 []) B p w q hg hgB h hl => adds_sane 160 (50000 + 1010) 1 D J0 [] l S n hn hs (fun r h => by cases h) (by simp; omega) hf1 (by decide) a c B p w q hg hgB h hl)
  have cS := Lib.hid (fun (D : DS) J (S : Sane 160 (50000 + 1010 + 1000 * n) 1 D J ([] ++ l)) B p w q h => sync_sane 160 _ 1 D J _ S B p w q h)
  have cO2 := Lib.hid (fun (D : DS) J (S : Sane 160 (50000 + 1010 + 1000 * n) 1 D J ([] ++ l)) H p w hH hg hgH h => jOpen_set H p D J l S.good (by have := S.done; omega) w hH hg hgH h)
  have cW := Lib.hid (fun w F p D h => Writes_any w F p D h)
  have cL := Lib.hid (fun (q p : Nat) (J : JS) (w : World) (hJ : J.n = n) (h : Blk w q 87 (jCells p J)) => by have := jLen_any q p J w h; rw [hJ] at this; exact this)
  have cT := Lib.hid (fun a' c' W (h1 : SlOf mkS W a' l) (hB : Below w.heap.size w W) => same_any a' a c' c l l l.length n rfl hn (by omega) W h1 (((LowSl.of_sl ha).keep hB).sl))
  rw [decide_eq_true rfl] at cT
  have HV := Lib.hid (And.intro he (cell_lt he))
  have HL := Lib.hid (LowSl.of_sl ha)
  have HN := Lib.hid hn
  clear he ha hn hs hf1 h3
  go_enter Tryz.func5, Tryz.ntmps5
  go_upto_region 6 with (first
    | (go_at_call 7; (with_reducible refine ck.out.mono ?_); rintro e w1 ⟨rfl, hb⟩; have HB1 := Lib.hid hb; have HV1 := Lib.hid (And.intro (ErrVar.below HV.out.1 hb) (Nat.lt_of_lt_of_le HV.out.2 hb.size)); have HL1 := Lib.hid ((HL.out.keep hb).mono hb.size); clear hb)
    | (go_at_call 13; (with_reducible refine (cl.out _ HB1.out).mono ?_); rintro e w2 ⟨rfl, rfl⟩)
    | (go_at_call 8; (with_reducible refine (cn.out _).mono ?_); rintro e w2 ⟨p, rfl, hb, ho⟩; have HB2 := Lib.hid hb; have HO2 := Lib.hid ho; clear hb ho))
  cases used
  case' false =>
    obtain ⟨D, hD⟩ : ∃ D, D = newD 160 := ⟨_, rfl⟩
    have HD : Hid (Live D ∧ D.sure.length = 160 ∧ D.done ≤ 50000) := Lib.hid (by rw [hD]; exact ⟨new_live 160 (by decide) (by decide), newD_len 160, by show 0 ≤ _; decide⟩)
    rw [← hD] at HO2
    have HO4 := HO2
    have HB4 := HB2
    clear hD
    go_upto_region 8 with fail
  case' true =>
    go_upto_region 8 with (first
      | (go_at_call 10; (with_reducible refine (cF0.out _ _ _ HO2.out).mono ?_); rintro e w3 ⟨D0, rfl, hb, ho, hS, -⟩; have HB3 := Lib.hid (HB2.out.trans hb); have HO3 := Lib.hid ho; have HS3 := Lib.hid hS; clear hb ho hS)
      | (go_at_call 20; (with_reducible refine (cfi.out _ HS3.out _ _ _ (errv_own HV1.out.1 HB3.out HV1.out.2) HV1.out.2 HO3.out (HL1.out.keep HB3.out)).mono ?_); rintro e w4 ⟨D, rfl, hb, ho, hS⟩; have HB4 := Lib.hid (HB3.out.trans hb); have HO4 := Lib.hid ho; have HD := Lib.hid hS; clear hb ho hS))
  all_goals
    go_wp2_with (first
      | (go_at_call 10; (with_reducible refine (cF.out D HD.out.1 HD.out.2.1 HD.out.2.2 _ _ _ HO4.out).mono ?_); rintro e w5 ⟨D5, rfl, hb, ho, hS, -⟩; have HB5 := Lib.hid (HB4.out.trans hb); have HO5 := Lib.hid ho; have HS5 := Lib.hid hS; clear hb ho hS)
      | (go_at_call 9; (with_reducible refine (cO.out _ HS5.out _ _ _ (errv_own HV1.out.1 HB5.out HV1.out.2) HV1.out.2 HO5.out).mono ?_); rintro e w6 ⟨q, v, rfl, hb, ho, hr⟩; have HB6 := Lib.hid (HB5.out.trans hb); have HO6 := Lib.hid ho; obtain ⟨va, vc, rfl⟩ := own_len hr; clear hb ho hr)
      | (go_at_call 14; (with_reducible refine (cA.out _ HS5.out _ _ _ _ (errv_own HV1.out.1 HB6.out HV1.out.2) HV1.out.2 HO6.out (HL1.out.keep HB6.out)).mono ?_); rintro e w7 ⟨D7, J7, rfl, hb, ho, hS⟩; have HB7 := Lib.hid (HB6.out.trans hb); have HO7 := Lib.hid ho; have HS7 := Lib.hid hS; clear hb ho hS)
      | (go_at_call 15; (with_reducible refine (cS.out _ _ HS7.out _ _ _ _ HO7.out).mono ?_); rintro e w8 ⟨D8, rfl, hb, ho, hS⟩; have HB8 := Lib.hid (HB7.out.trans hb); have HO8 := Lib.hid ho.own; have HS8 := Lib.hid hS; have HJ8 : J7.n = n := (by have h9 := hS.good.n; rw [List.nil_append] at h9; rw [h9, HN.out]); clear hb ho hS)
      | (go_at_call 9; (with_reducible refine (cO2.out _ _ HS8.out (fun k => w1.heap.size ≤ k ∧ k < w8.heap.size) _ _ (fun k hk => hk.2) (errv_own HV1.out.1 HB8.out HV1.out.2) (fun h => by have := HV1.out.2; have := h.1; omega) HO8.out.dsk).mono ?_); rintro e w9 ⟨q9, v9, rfl, hsv, -, -, hr, G9, hG1, hG2, hG3, -⟩; have HB9 := Lib.hid (HB8.out.trans (hsv.low (fun k hk => hk.1) HB8.out.size)); have HG9 := Lib.hid hG1; have HR9 := Lib.hid (And.intro hr hG3); have HLB9 := Lib.hid (fun k (hk : G9 k) => show w1.heap.size ≤ k ∧ k < w9.heap.size from by have := hsv.size; have := HB8.out.size; rcases hG2 k hk with h | h <;> omega); obtain ⟨a9, c9, rfl⟩ := own_len hr; clear hsv hr hG1 hG2 hG3)
      | (go_at_call 21; (with_reducible refine (cW.out _ _ _ _ HG9.out).mono ?_); rintro e wA ⟨rfl, rfl⟩)
      | (go_at_call 9; (with_reducible refine (cO2.out _ _ HS8.out G9 _ _ (fun k hk => (HLB9.out k hk).2) (errv_own HV1.out.1 HB9.out HV1.out.2) (fun h => by have := HV1.out.2; have := (HLB9.out _ h).1; omega) HG9.out).mono ?_); rintro e wA ⟨qA, vA, rfl, hsv, hqA, -, hr, GA, hG1, -, -, -⟩; have HBA := Lib.hid (HB9.out.trans (hsv.low (fun k hk => (HLB9.out k hk).1) HB9.out.size)); have HGA := Lib.hid hG1; have HRA := Lib.hid hr; have HQA := Lib.hid hqA; have HR9A := Lib.hid (save_own HR9.out.1 hsv HR9.out.2); obtain ⟨aA, cA', rfl⟩ := own_len hr; clear hsv hr hG1 hqA)
      | (go_at_call 19; (with_reducible refine (cT.out a9 c9 wA (sl_slice HR9A.out) (below_step HB1.out HBA.out)).mono ?_); rintro e wB ⟨rfl, hb⟩; have HBB := Lib.hid (below_step HB1.out (HBA.out.trans (hb.mono HBA.out.size))); have HbB := Lib.hid hb; clear hb)
      | (go_at_call 19; (with_reducible refine (cT.out aA cA' wB ((sl_slice HRA.out).below HbB.out) HBB.out).mono ?_); rintro e wC ⟨rfl, hb⟩; have HBC := Lib.hid (below_step HBB.out hb); have HbC := Lib.hid (HbB.out.trans (hb.mono HbB.out.size)); clear hb)
      | (go_at_call 22; (with_reducible refine (cL.out _ _ _ _ HJ8 (HQA.out.below HbC.out)).mono ?_); rintro e wD ⟨rfl, rfl⟩)
      | (go_at_call 21; (with_reducible refine (cW.out _ _ _ _ (HGA.out.below HbC.out)).mono ?_); rintro e wE ⟨rfl, rfl⟩))
    go_ret
    exact ⟨rfl, HBC.out⟩
theorem JournalAgain_walk (v1 : Value) (used : Bool) (w : World) (he : ErrVar w) (h1 : ∃ (a : Option Addr) (cap : Nat) (l : List ByteArray), v1 = .slice a l.length cap ∧ SlOf mkS w a l) :
    Calls Tryz.prog 5 #[v1, .bool used] w (fun e w' => e = .returned (.bool true) ∧ Below w.heap.size w w') := by
  obtain ⟨a, c, l, rfl, ha⟩ := h1
  exact JournalAgain_any a c l _ rfl used w he ha
end Go.Proofs.YtjincmagbbpooaaGreatDoor
