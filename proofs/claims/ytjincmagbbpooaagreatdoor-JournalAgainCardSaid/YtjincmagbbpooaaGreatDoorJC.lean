import Derived.Test.YtjincmagbbpooaaGreatDoorJB
set_option linter.unusedVariables false
set_option linter.unusedSimpArgs false
namespace Go.Proofs.YtjincmagbbpooaaGreatDoor
open Go.RowKit

theorem superB_size (turn which : Nat) (ht : turn < 4294967296) (hw : which ≤ 1) : (superB turn which).size ≤ 28 := by
  unfold superB
  have h := num_size which (by omega)
  have := wrapS_size turn (strN (numB which)) ht (by omega)
  omega

set_option maxHeartbeats 8000000 in
set_option maxRecDepth 100000 in
theorem super_any (F : Nat → Prop) (p : Nat) (D : DS) (at_ turn which : Nat) (w : World) (h : Dsk w F p D) (ht : turn < 4294967296) (hw : which ≤ 1) (hd : D.done < 1099511627776) :
    Calls Tryz.prog 47 #[.pointer (some ⟨p, 0, none⟩), .int .i64 (at_ : Int), .int .i64 (turn : Int), .int .i64 (which : Int)] w fun e w' =>
      e = .returned (errV (D.super at_ turn which).2) ∧ DskPost F p w (D.super at_ turn which).1 w' := by
  have HP := Lib.hid (DskPost.start h)
  have cn := Lib.hid (Num_any (which : Int) which (by unfold mxI; rw [if_neg (by omega)]) (by omega) w)
  have cw := Lib.hid (fun W => Wrap_any turn (strN (numB which)) ht (by have := num_size which (by omega); omega) W)
  have ci := Lib.hid (fun W (G : Nat → Prop) (hG : Dsk W G p D) => Write_any W G p D (at_ : Int) (superB turn which) hd hG)
  unfold DS.super
  rw [show wrapS turn (strN (numB which)) = superB turn which from rfl] at cw
  generalize superB turn which = sb at cw ci ⊢
  generalize strN (numB which) = nb at cn cw
  obtain ⟨c, hc⟩ : ∃ c, D.writeC (at_ : Int) sb = c := ⟨_, rfl⟩
  obtain ⟨D1, hD1⟩ : ∃ D1, D.write (at_ : Int) sb = D1 := ⟨_, rfl⟩
  rw [hc, hD1] at ci ⊢
  clear h hc hD1 hd
  by_cases hc0 : c = 0
  · subst hc0
    rw [errV_zero] at ci
    rw [if_neg (by decide)]
    have cf := Lib.hid (fun W (G : Nat → Prop) (hG : Dsk W G p D1) => Flush_any W G p D1 hG)
    generalize D1.flush = D2 at cf ⊢
    generalize D1.flushC = c2 at cf ⊢
    go_enter Tryz.func47, Tryz.ntmps47
    go_wp2_with (first
      | (go_at_call 81; (with_reducible refine cn.out.mono ?_); rintro e w1 ⟨rfl, hb⟩; have HP1 := Lib.hid (HP.out.below hb); clear hb)
      | (go_at_call 80; (with_reducible refine (cw.out _).mono ?_); rintro e w2 ⟨rfl, hb⟩; have HP2 := Lib.hid (HP1.out.below hb); clear hb)
      | (go_at_call 11; (with_reducible refine (ci.out _ _ HP2.out.dsk).mono ?_); rintro e w3 ⟨rfl, hp⟩; have HP3 := Lib.hid (HP2.out.then hp); clear hp)
      | (go_at_call 46; (with_reducible refine (cf.out _ _ HP3.out.dsk).mono ?_); rintro e w4 ⟨rfl, hp⟩; have HP4 := Lib.hid (HP3.out.then hp); clear hp))
    go_ret
    exact ⟨rfl, HP4.out⟩
  · rw [if_pos hc0]
    rw [errV_ne hc0] at ci
    have HC := Lib.hid (errV_ne hc0)
    clear hc0
    go_enter Tryz.func47, Tryz.ntmps47
    go_wp2_with (first
      | (go_at_call 81; (with_reducible refine cn.out.mono ?_); rintro e w1 ⟨rfl, hb⟩; have HP1 := Lib.hid (HP.out.below hb); clear hb)
      | (go_at_call 80; (with_reducible refine (cw.out _).mono ?_); rintro e w2 ⟨rfl, hb⟩; have HP2 := Lib.hid (HP1.out.below hb); clear hb)
      | (go_at_call 11; (with_reducible refine (ci.out _ _ HP2.out.dsk).mono ?_); rintro e w3 ⟨rfl, hp⟩; have HP3 := Lib.hid (HP2.out.then hp); clear hp))
    go_ret
    exact ⟨by rw [HC.out]; rfl, HP3.out⟩

theorem diffF_keeps (which : Nat) (b : ByteArray) : ∀ (f i n : Nat) (D : DS), n ≤ (diffF which b f i n D).2.1 ∧ (diffF which b f i n D).2.1 ≤ n + f ∧ (diffF which b f i n D).1.sure.length = D.sure.length ∧ (diffF which b f i n D).1.done ≤ D.done + f
  | 0, i, n, D => ⟨Nat.le_refl _, Nat.le_refl _, rfl, Nat.le_refl _⟩
  | f + 1, i, n, D => by
    unfold diffF
    split
    · exact ⟨Nat.le_refl _, by simp only; omega, rfl, by simp only; omega⟩
    split
    · have := diffF_keeps which b f (i + 1) n D
      exact ⟨this.1, by omega, this.2.2.1, by omega⟩
    split
    · have := D.write_done (D.sec which i) (fillB (partB b (i * 64) 64))
      exact ⟨Nat.le_refl _, by simp only; omega, D.write_len _ _, by simp only; omega⟩
    · have h1 := diffF_keeps which b f (i + 1) (n + 1) (D.write (D.sec which i) (fillB (partB b (i * 64) 64)))
      have h2 := D.write_done (D.sec which i) (fillB (partB b (i * 64) 64))
      have h3 := D.write_len (D.sec which i) (fillB (partB b (i * 64) 64))
      exact ⟨by omega, by omega, h1.2.2.1.trans h3, by omega⟩
theorem DS.diff_len (D : DS) (which : Nat) (b : ByteArray) (i : Nat) : (D.diff which b i).1.sure.length = D.sure.length := (diffF_keeps _ _ _ _ _ _).2.2.1
theorem DS.diff_done (D : DS) (which : Nat) (b : ByteArray) (i : Nat) : (D.diff which b i).1.done ≤ D.done + D.half := by
  have := (diffF_keeps which b (D.half - i) i 0 D).2.2.2
  exact Nat.le_trans this (by omega)

set_option maxHeartbeats 8000000 in
set_option maxRecDepth 100000 in
theorem Format_any (F : Nat → Prop) (p : Nat) (D : DS) (w : World) (h : Dsk w F p D) (hd : D.done < 1099510000000) :
    Calls Tryz.prog 10 #[.pointer (some ⟨p, 0, none⟩)] w fun e w' => e = .returned (errV D.format.2) ∧ DskPost F p w D.format.1 w' := by
  have HP := Lib.hid (DskPost.start h)
  have cl := Lib.hid (Len_any w F p D h)
  unfold DS.format
  by_cases h4 : D.sure.length < 4
  · rw [if_pos h4]
    have t1 : (D.sure.length : Int) < 4 := by omega
    generalize D.sure.length = n at cl t1
    clear h4 h hd
    go_enter Tryz.func10, Tryz.ntmps10
    go_wp2_with (go_at_call 36; (with_reducible refine cl.out.mono ?_); rintro e w1 ⟨rfl, rfl⟩)
    go_ret
    exact ⟨rfl, HP.out⟩
  rw [if_neg h4]
  have t1 : (4 : Int) ≤ (D.sure.length : Int) := by omega
  have cw := Lib.hid (fun W (G : Nat → Prop) (hG : Dsk W G p D) => Write_any W G p D 1 ⟨#[]⟩ (by omega) hG)
  have hl1 := D.write_len 1 ⟨#[]⟩
  have hd1 := D.write_done 1 ⟨#[]⟩
  have hhalf := half_le h.ok
  have hh1 := half_write D 1 ⟨#[]⟩
  obtain ⟨c, hc⟩ : ∃ c, D.writeC 1 ⟨#[]⟩ = c := ⟨_, rfl⟩
  obtain ⟨D1, hD1⟩ : ∃ D1, D.write 1 ⟨#[]⟩ = D1 := ⟨_, rfl⟩
  rw [hc, hD1] at cw ⊢
  rw [hD1] at hl1 hd1 hh1
  by_cases hc0 : c = 0
  · subst hc0
    rw [errV_zero] at cw
    rw [if_neg (by decide)]
    have cd := Lib.hid (fun W (G : Nat → Prop) (hG : Dsk W G p D1) => differs_any G p D1 0 ⟨#[]⟩ 0 W hG (by decide) (by decide) (by decide) (by omega) (by omega))
    have hl2 := D1.diff_len 0 ⟨#[]⟩ 0
    have hd2 := D1.diff_done 0 ⟨#[]⟩ 0
    generalize D1.diff 0 ⟨#[]⟩ 0 = R at cd hl2 hd2 ⊢
    obtain ⟨D2, n2, c2⟩ := R
    simp only at cd hl2 hd2 ⊢
    by_cases hc2 : c2 = 0
    · subst hc2
      rw [errV_zero] at cd
      rw [if_neg (by decide)]
      have cf := Lib.hid (fun W (G : Nat → Prop) (hG : Dsk W G p D2) => Flush_any W G p D2 hG)
      have hd3 := D2.flush_done
      obtain ⟨c3, hc3⟩ : ∃ c, D2.flushC = c := ⟨_, rfl⟩
      obtain ⟨D3, hD3⟩ : ∃ D3, D2.flush = D3 := ⟨_, rfl⟩
      rw [hc3, hD3] at cf ⊢
      rw [hD3] at hd3
      by_cases hc30 : c3 = 0
      · subst hc30
        rw [errV_zero] at cf
        rw [if_neg (by decide)]
        have cs := Lib.hid (fun W (G : Nat → Prop) (hG : Dsk W G p D3) => super_any G p D3 0 1 0 W hG (by decide) (by decide) (by omega))
        generalize D3.super 0 1 0 = S4 at cs ⊢
        generalize D.sure.length = n at cl t1
        clear h h4 hd hl1 hd1 hhalf hh1 hc hD1 hl2 hd2 hd3 hc3 hD3
        go_enter Tryz.func10, Tryz.ntmps10
        go_wp2_with (first
          | (go_at_call 36; (with_reducible refine cl.out.mono ?_); rintro e w1 ⟨rfl, rfl⟩)
          | (go_at_call 11; (with_reducible refine (cw.out _ _ HP.out.dsk).mono ?_); rintro e w1 ⟨rfl, hp⟩; have HP1 := Lib.hid (HP.out.then hp); clear hp)
          | (go_at_call 45; (refine (cd.out _ _ HP1.out.dsk).mono ?_); rintro e w2 ⟨rfl, hp⟩; have HP2 := Lib.hid (HP1.out.then hp); clear hp)
          | (go_at_call 46; (with_reducible refine (cf.out _ _ HP2.out.dsk).mono ?_); rintro e w3 ⟨rfl, hp⟩; have HP3 := Lib.hid (HP2.out.then hp); clear hp)
          | (go_at_call 47; (refine (cs.out _ _ HP3.out.dsk).mono ?_); rintro e w4 ⟨rfl, hp⟩; have HP4 := Lib.hid (HP3.out.then hp); clear hp))
        go_ret
        exact ⟨rfl, HP4.out⟩
      · rw [errV_ne hc30] at cf
        rw [if_pos hc30]
        have HC := Lib.hid (errV_ne hc30)
        generalize D.sure.length = n at cl t1
        clear h h4 hd hl1 hd1 hhalf hh1 hc hD1 hl2 hd2 hd3 hc3 hD3 hc30
        go_enter Tryz.func10, Tryz.ntmps10
        go_wp2_with (first
          | (go_at_call 36; (with_reducible refine cl.out.mono ?_); rintro e w1 ⟨rfl, rfl⟩)
          | (go_at_call 11; (with_reducible refine (cw.out _ _ HP.out.dsk).mono ?_); rintro e w1 ⟨rfl, hp⟩; have HP1 := Lib.hid (HP.out.then hp); clear hp)
          | (go_at_call 45; (refine (cd.out _ _ HP1.out.dsk).mono ?_); rintro e w2 ⟨rfl, hp⟩; have HP2 := Lib.hid (HP1.out.then hp); clear hp)
          | (go_at_call 46; (with_reducible refine (cf.out _ _ HP2.out.dsk).mono ?_); rintro e w3 ⟨rfl, hp⟩; have HP3 := Lib.hid (HP2.out.then hp); clear hp))
        go_ret
        exact ⟨by rw [HC.out]; rfl, HP3.out⟩
    · rw [errV_ne hc2] at cd
      rw [if_pos hc2]
      have HC := Lib.hid (errV_ne hc2)
      generalize D.sure.length = n at cl t1
      clear h h4 hd hl1 hd1 hhalf hh1 hc hD1 hl2 hd2 hc2
      go_enter Tryz.func10, Tryz.ntmps10
      go_wp2_with (first
        | (go_at_call 36; (with_reducible refine cl.out.mono ?_); rintro e w1 ⟨rfl, rfl⟩)
        | (go_at_call 11; (with_reducible refine (cw.out _ _ HP.out.dsk).mono ?_); rintro e w1 ⟨rfl, hp⟩; have HP1 := Lib.hid (HP.out.then hp); clear hp)
        | (go_at_call 45; (refine (cd.out _ _ HP1.out.dsk).mono ?_); rintro e w2 ⟨rfl, hp⟩; have HP2 := Lib.hid (HP1.out.then hp); clear hp))
      go_ret
      exact ⟨by rw [HC.out]; rfl, HP2.out⟩
  · rw [errV_ne hc0] at cw
    rw [if_pos hc0]
    have HC := Lib.hid (errV_ne hc0)
    generalize D.sure.length = n at cl t1
    clear h h4 hd hl1 hd1 hhalf hh1 hc hD1 hc0
    go_enter Tryz.func10, Tryz.ntmps10
    go_wp2_with (first
      | (go_at_call 36; (with_reducible refine cl.out.mono ?_); rintro e w1 ⟨rfl, rfl⟩)
      | (go_at_call 11; (with_reducible refine (cw.out _ _ HP.out.dsk).mono ?_); rintro e w1 ⟨rfl, hp⟩; have HP1 := Lib.hid (HP.out.then hp); clear hp))
    go_ret
    exact ⟨by rw [HC.out]; rfl, HP1.out⟩
end Go.Proofs.YtjincmagbbpooaaGreatDoor
