import Derived.Test.YtjincmagbbpooaaGreatDoorM17

section
set_option linter.unusedVariables false
set_option linter.unusedSimpArgs false
namespace Go.Proofs.YtjincmagbbpooaaGreatDoor
open Go.RowKit

set_option maxHeartbeats 16000000 in
set_option maxRecDepth 100000 in
theorem rFormat_any (F : Nat → Prop) (p : Nat) (D : DS) (w : World) (h : Ref w F p D) (hd : D.done < 1099510000000) :
    Calls Tryz.prog 25 #[.pointer (some ⟨p, 0, none⟩)] w fun e w' => e = .returned (.int .i64 D.format.2) ∧ RefPost F p w D.format.1 w' := by
  have HP := Lib.hid (RefPost.start h)
  have hh := half_le h.ok
  have hcell : ∃ a c, w.cell? ⟨p, 0, none⟩ = some (.slice a D.sure.length c) := by
    obtain ⟨sv, av, bv, hdd, hf⟩ := h
    obtain ⟨c0, -⟩ := hdd.cells
    obtain ⟨a, c, es⟩ := own_len hdd.s
    rw [es] at c0
    exact ⟨a, c, c0⟩
  obtain ⟨sa, sc, c0⟩ := hcell
  obtain ⟨R, hR⟩ : ∃ R, R = D.format := ⟨_, rfl⟩
  rw [← hR]
  unfold DS.format at hR
  by_cases h4 : D.sure.length < 4
  · rw [if_pos h4] at hR
    subst hR
    have t1 : (D.sure.length : Int) < 4 := by omega
    generalize D.sure.length = n at c0 t1
    clear h4 h hd hh
    go_enter Tryz.func25, Tryz.ntmps25
    go_wp2
    go_ret
    exact ⟨rfl, HP.out⟩
  rw [if_neg h4] at hR
  have t1 : (4 : Int) ≤ (D.sure.length : Int) := by omega
  have cw := Lib.hid (rWrite_any w F p D 1 ⟨#[]⟩ (by omega) h)
  by_cases hc : D.writeC 1 ⟨#[]⟩ = 0
  case neg =>
    rw [if_pos hc] at hR
    subst hR
    generalize D.writeC 1 ⟨#[]⟩ = c at cw hc ⊢
    generalize D.write 1 ⟨#[]⟩ = D1 at cw ⊢
    generalize D.sure.length = n at c0 t1
    have t2 : (c == 0) = false := beq_eq_false_iff_ne.2 hc
    clear h4 h hd hh hc HP
    go_enter Tryz.func25, Tryz.ntmps25
    go_wp2_with (go_at_call 58; (with_reducible refine cw.out.mono ?_); rintro e w1 ⟨rfl, hp⟩; have HP1 := Lib.hid hp; clear hp)
    go_ret
    exact ⟨rfl, HP1.out⟩
  have hal := write_alive hc
  have hlen1 := D.write_len 1 ⟨#[]⟩
  have hdn1 := D.write_done 1 ⟨#[]⟩
  rw [hc] at cw hR
  rw [if_neg (by decide)] at hR
  obtain ⟨Dw, hDw⟩ : ∃ Dw, Dw = D.write 1 ⟨#[]⟩ := ⟨_, rfl⟩
  rw [← hDw] at hR cw hal hlen1 hdn1
  clear hDw hc
  have hhw : Dw.half ≤ 999 := by have : Dw.half = D.half := by unfold DS.half; rw [hlen1]
                                 omega
  obtain ⟨H, hH⟩ : ∃ H, H = Dw.half := ⟨_, rfl⟩
  obtain ⟨X, hX⟩ : ∃ X, X = Dw.diff 0 ⟨#[]⟩ 0 := ⟨_, rfl⟩
  rw [← hX] at hR
  have hX' : X = diffF 0 ⟨#[]⟩ (H + 2 - 2) (2 - 2) 0 Dw := by rw [hX, hH]; rfl
  have HR := Lib.hid hR
  have HH := Lib.hid (And.intro hH (And.intro (show 4 ≤ D.sure.length by omega) (And.intro hlen1 hd)))
  have HA0 := Lib.hid (And.intro hal (And.intro hlen1 hdn1))
  have hH9 : H ≤ 999 := by omega
  have t1' := t1
  generalize hn : D.sure.length = n at c0 t1
  clear h4 h hd hh hR hal hlen1 hdn1 hhw hH hX hn t1' HP
  go_enter Tryz.func25, Tryz.ntmps25
  go_upto_region 7 with (go_at_call 58; (with_reducible refine cw.out.mono ?_); rintro e w1 ⟨rfl, hp⟩; have HP := Lib.hid hp; clear hp)
  clear cw
  go_loopw [4] (fun v4 wr => ∃ (k n : Nat) (D1 : DS), v4 = .int .i64 (k : Int) ∧ 2 ≤ k ∧ k ≤ 1001 ∧ Hid (k ≤ H + 2) ∧ Hid (D1.dead = false ∧ D1.sure.length = D.sure.length ∧ D1.done ≤ D.done + 1 + n ∧ n ≤ k) ∧ Hid (X = diffF 0 ⟨#[]⟩ (H + 2 - k) (k - 2) n D1) ∧ Hid (RefPost F p w D1 wr)) (fun v4 _ => H + 2 - (intOf v4).toNat)
  case atStart => exact ⟨2, 0, Dw, rfl, by decide, by decide, Lib.hid (by omega), Lib.hid ⟨HA0.out.1, HA0.out.2.1, HA0.out.2.2, by decide⟩, Lib.hid hX', HP⟩
  case round =>
    clear HP hX' HA0
    obtain ⟨k, n1, D1, rfl, hk2, hk1001, HK, HA, HX, HP⟩ := hrel
    have hD1 := HP.out.2
    have hlen1 : 2 ≤ D1.sure.length := by have := HA.out.2.1; have := HH.out.2.1; omega
    have hhalf : D1.half = H := by rw [HH.out.1]; unfold DS.half; rw [HA.out.2.1, HH.out.2.2.1]
    have ch := Lib.hid (rhalf_any wr _ p D1 hlen1 hD1)
    rw [hhalf] at ch
    by_cases hlt : k < H + 2
    · have hsec : D1.sec 0 (k - 2) = k := by unfold DS.sec; omega
      have hm : D1.may (k : Int) = 0 := by rw [← hsec]; exact may_sec HA.out.1 (by decide) (by omega)
      have hXX := HX.out
      obtain ⟨f, hf⟩ : ∃ f, H + 2 - k = f + 1 := ⟨H + 2 - k - 1, by omega⟩
      have hf2 : H + 2 - (k + 1) = f := by omega
      have hk3 : k + 1 - 2 = k - 2 + 1 := by omega
      rw [hf] at hXX
      unfold diffF at hXX
      rw [hsec, hm, if_neg (by decide), part_nil] at hXX
      have hwf := write_fill D1 (k : Int) (b := ⟨#[]⟩) (by decide)
      rw [hwf.1, hwf.2] at hXX
      have cr := Lib.hid (rRead_any wr _ p D1 (k : Int) hD1)
      rw [hm] at cr
      have cf := Lib.hid (fun W => filled_any ⟨#[]⟩ (by decide) W)
      have hw2 := D1.write_len (k : Int) ⟨#[]⟩
      have hw3 := D1.write_done (k : Int) ⟨#[]⟩
      have cw := Lib.hid (fun W (G : Nat → Prop) (hG : Ref W G p D1) => rWrite_any W G p D1 (k : Int) ⟨#[]⟩ (by have := HA.out.2.2; have := HH.out.2.2.2; omega) hG)
      have hal : D1.writeC (k : Int) ⟨#[]⟩ = 0 → (D1.write (k : Int) ⟨#[]⟩).dead = false := write_alive
      have q1 : (k : Int) < 2 + (H : Int) := by omega
      have HF := Lib.hid (And.intro hf2 hk3)
      generalize D1.readS (k : Int) = s at hXX cr
      generalize D1.writeC (k : Int) ⟨#[]⟩ = c at hXX cw hal
      generalize D1.write (k : Int) ⟨#[]⟩ = D2 at hXX cw hal hw2 hw3
      generalize fillB ⟨#[]⟩ = z at hXX cf
      clear hD1 hlen1 hhalf hsec hm hf hwf hf2 hk3
      by_cases hsz : s = z
      · subst hsz
        rw [if_pos rfl] at hXX
        have HXX := Lib.hid hXX
        clear hXX hal hw2 hw3
        go_wp2_with (first
          | (go_at_call 59; (with_reducible refine ch.out.mono ?_); rintro e w1 ⟨rfl, rfl⟩)
          | (go_at_call 34; (with_reducible refine cr.out.mono ?_); rintro e w1 ⟨rfl, rfl⟩)
          | (go_at_call 56; (with_reducible refine (cf.out _).mono ?_); rintro e w1 ⟨rfl, hb⟩; have HP1 := Lib.hid (HP.out.below hb); clear hb))
        go_roundw
        case rel => exact ⟨k + 1, n1, D1, by go_num, by omega, by omega, Lib.hid (by omega), Lib.hid ⟨HA.out.1, HA.out.2.1, HA.out.2.2.1, by have := HA.out.2.2.2; omega⟩, Lib.hid (by rw [HF.out.1, HF.out.2]; exact HXX.out), HP1⟩
        case measure => simp [intOf]; omega
      · have hne : (s.toList == z.toList) = false := beq_list_false hsz
        rw [if_neg hsz] at hXX
        by_cases hc0 : c = 0
        · subst hc0
          rw [if_neg (by decide)] at hXX
          have HXX := Lib.hid hXX
          have HA2 := Lib.hid (And.intro (hal rfl) (And.intro (hw2.trans HA.out.2.1) (show D2.done ≤ D.done + 1 + (n1 + 1) by have := HA.out.2.2.1; omega)))
          clear hXX hal hw2 hw3 hsz
          go_wp2_with (first
            | (go_at_call 59; (with_reducible refine ch.out.mono ?_); rintro e w1 ⟨rfl, rfl⟩)
            | (go_at_call 34; (with_reducible refine cr.out.mono ?_); rintro e w1 ⟨rfl, rfl⟩)
            | (go_at_call 56; (with_reducible refine (cf.out _).mono ?_); rintro e w1 ⟨rfl, hb⟩; have HP1 := Lib.hid (HP.out.below hb); clear hb)
            | (go_at_call 58; (with_reducible refine (cw.out _ _ HP1.out.ref).mono ?_); rintro e w2 ⟨rfl, hp⟩; have HP2 := Lib.hid (HP1.out.then hp); clear hp))
          go_roundw
          case rel => exact ⟨k + 1, n1 + 1, D2, by go_num, by omega, by omega, Lib.hid (by omega), Lib.hid ⟨HA2.out.1, HA2.out.2.1, HA2.out.2.2, by have := HA.out.2.2.2; omega⟩, Lib.hid (by rw [HF.out.1, HF.out.2]; exact HXX.out), HP2⟩
          case measure => simp [intOf]; omega
        · rw [if_pos hc0] at hXX
          have t2 : (c == 0) = false := beq_eq_false_iff_ne.2 hc0
          have hRR := HR.out
          rw [hXX] at hRR
          simp only at hRR
          rw [if_pos hc0] at hRR
          have HRR := Lib.hid hRR
          clear hXX hal hw2 hw3 hsz hc0 hRR
          go_wp2_with (first
            | (go_at_call 59; (with_reducible refine ch.out.mono ?_); rintro e w1 ⟨rfl, rfl⟩)
            | (go_at_call 34; (with_reducible refine cr.out.mono ?_); rintro e w1 ⟨rfl, rfl⟩)
            | (go_at_call 56; (with_reducible refine (cf.out _).mono ?_); rintro e w1 ⟨rfl, hb⟩; have HP1 := Lib.hid (HP.out.below hb); clear hb)
            | (go_at_call 58; (with_reducible refine (cw.out _ _ HP1.out.ref).mono ?_); rintro e w2 ⟨rfl, hp⟩; have HP2 := Lib.hid (HP1.out.then hp); clear hp))
          go_ret
          rw [HRR.out]
          exact ⟨rfl, HP2.out⟩
    · have hk : k = H + 2 := by have := HK.out; omega
      have hXX := HX.out
      rw [hk, Nat.sub_self] at hXX
      have hX2 : X = (D1, n1, 0) := hXX
      have hRR := HR.out
      rw [hX2] at hRR
      simp only at hRR
      have hfc : D1.flushC = 0 := by unfold DS.flushC; rw [if_neg (by rw [HA.out.1]; decide)]
      rw [if_neg (by decide), hfc, if_neg (by decide)] at hRR
      have q1 : (2 : Int) + (H : Int) ≤ (k : Int) := by omega
      have cfl := Lib.hid (fun W (G : Nat → Prop) (hG : Ref W G p D1) => rFlush_any W G p D1 hG)
      rw [hfc] at cfl
      have hdf : D1.flush.done < 1099511627776 := by rw [DS.flush_done]; have := HA.out.2.2; have := HH.out.2.2.2; omega
      generalize D1.flush = D2 at cfl hRR hdf
      unfold DS.super at hRR
      have cs : Hid (∀ W, Calls Tryz.prog 61 #[.int .i64 1, .int .i64 0] W fun e w' => e = .returned (.string (superB 1 0)) ∧ Below W.heap.size W w') := fun W => rsuper_any 1 0 (by decide) (by decide) W
      generalize superB 1 0 = sb at cs hRR
      have cw := Lib.hid (fun W (G : Nat → Prop) (hG : Ref W G p D2) => rWrite_any W G p D2 0 sb hdf hG)
      have hci : D2.writeC ((0 : Nat) : Int) sb = D2.writeC 0 sb := rfl
      have hwi : D2.write ((0 : Nat) : Int) sb = D2.write 0 sb := rfl
      rw [hci, hwi] at hRR
      generalize D2.writeC 0 sb = c at cw hRR
      generalize D2.write 0 sb = D3 at cw hRR
      have cfl3 := Lib.hid (fun W (G : Nat → Prop) (hG : Ref W G p D3) => rFlush_any W G p D3 hG)
      clear hXX hX2 hlt hk hfc hdf hci hwi hD1 hlen1 hhalf
      by_cases hc0 : c = 0
      · subst hc0
        rw [if_neg (by decide)] at hRR
        have HRR := Lib.hid hRR
        clear hRR
        go_wp2_with (first
          | (go_at_call 59; (with_reducible refine ch.out.mono ?_); rintro e w1 ⟨rfl, rfl⟩)
          | (go_at_call 60; (with_reducible refine (cfl.out _ _ HP.out.ref).mono ?_); rintro e w2 ⟨rfl, hp⟩; have HP2 := Lib.hid (HP.out.then hp); clear hp)
          | (go_at_call 61; (with_reducible refine (cs.out _).mono ?_); rintro e w3 ⟨rfl, hb⟩; have HP3 := Lib.hid (HP2.out.below hb); clear hb)
          | (go_at_call 58; (with_reducible refine (cw.out _ _ HP3.out.ref).mono ?_); rintro e w4 ⟨rfl, hp⟩; have HP4 := Lib.hid (HP3.out.then hp); clear hp)
          | (go_at_call 60; (with_reducible refine (cfl3.out _ _ HP4.out.ref).mono ?_); rintro e w5 ⟨rfl, hp⟩; have HP5 := Lib.hid (HP4.out.then hp); clear hp))
        go_ret
        rw [HRR.out]
        exact ⟨rfl, HP5.out⟩
      · rw [if_pos hc0] at hRR
        have t2 : (c == 0) = false := beq_eq_false_iff_ne.2 hc0
        have HRR := Lib.hid hRR
        clear hRR hc0
        go_wp2_with (first
          | (go_at_call 59; (with_reducible refine ch.out.mono ?_); rintro e w1 ⟨rfl, rfl⟩)
          | (go_at_call 60; (with_reducible refine (cfl.out _ _ HP.out.ref).mono ?_); rintro e w2 ⟨rfl, hp⟩; have HP2 := Lib.hid (HP.out.then hp); clear hp)
          | (go_at_call 61; (with_reducible refine (cs.out _).mono ?_); rintro e w3 ⟨rfl, hb⟩; have HP3 := Lib.hid (HP2.out.below hb); clear hb)
          | (go_at_call 58; (with_reducible refine (cw.out _ _ HP3.out.ref).mono ?_); rintro e w4 ⟨rfl, hp⟩; have HP4 := Lib.hid (HP3.out.then hp); clear hp))
        go_ret
        rw [HRR.out]
        exact ⟨rfl, HP4.out⟩
end Go.Proofs.YtjincmagbbpooaaGreatDoor
end

section
set_option linter.unusedVariables false
set_option linter.unusedSimpArgs false
namespace Go.Proofs.YtjincmagbbpooaaGreatDoor
open Go.RowKit

/-! ### the document's superblocks -/
def blockR (s : ByteArray) : Nat × Nat :=
  if (unwrapR s).2.2.2 ≠ 0 ∨ (unwrapR s).2.1 < 1 ∨ (unwrapR s).2.2.1 ≠ zeroB (unwrapR s).2.2.1.size then (0, 0)
  else if (numS (unwrapR s).1).2.2 ≠ 0 ∨ dropB (unwrapR s).1 (numS (unwrapR s).1).2.1 ≠ ⟨#[]⟩ ∨ 1 < (numS (unwrapR s).1).1 then (0, 0)
  else ((unwrapR s).2.1, (numS (unwrapR s).1).1)
theorem zerosB_iff (b : ByteArray) : zerosB b = true ↔ b = zeroB b.size := by
  unfold zerosB
  rw [List.all_eq_true]
  constructor
  · intro h
    apply ByteArray.ext
    apply Array.ext'
    show b.data.toList = List.replicate b.size 0
    rw [List.eq_replicate_iff]
    refine ⟨by rw [Array.length_toList]; rfl, fun x hx => ?_⟩
    simpa using h x hx
  · intro h x hx
    rw [h] at hx
    have : x ∈ List.replicate b.size (0 : UInt8) := hx
    rw [List.eq_of_mem_replicate this]
    rfl
theorem textR_64 (s : ByteArray) (h : s.size ≤ 64) : textR s 64 = textR s 2020 ∨ ((textR s 64).2.2 ≠ 0 ∧ (textR s 2020).2.2 ≠ 0) := by
  unfold textR
  by_cases h0 : (numS s).2.2 = 0
  · have hn : ¬ ((numS s).2.2 ≠ 0) := fun h => h h0
    rw [if_neg hn, if_neg hn]
    by_cases h1 : (numS s).1 ≤ 64
    · left
      rw [if_neg (show ¬ (64 : Int) < ((numS s).1 : Int) by omega), if_neg (show ¬ (2020 : Int) < ((numS s).1 : Int) by omega)]
    · right
      rw [if_pos (show (64 : Int) < ((numS s).1 : Int) by omega)]
      refine ⟨by simp, ?_⟩
      by_cases h2 : (2020 : Int) < ((numS s).1 : Int)
      · rw [if_pos h2]; simp
      · rw [if_neg h2, if_pos (show (dropB s (numS s).2.1).size < (numS s).1 by rw [dropB_size]; omega)]; simp
  · left
    rw [if_pos h0, if_pos h0]
theorem block_read (s : ByteArray) (h : s.size ≤ 64) : (blockR s).1 = (readB s).1 ∧ ((readB s).1 ≠ 0 → blockR s = readB s) := by
  rcases textR_64 s h with e | ⟨e1, e2⟩
  · unfold blockR readB
    rw [e, openR_unwrap]
    unfold unwrapR
    by_cases h0 : (textR s 2020).2.2 = 0
    · by_cases h3 : (numS (textR s 2020).1).2.2 = 0
      · by_cases h1 : (textR s 2020).2.1.size < 4
        · simp [h0, h1, h3]
        · by_cases h2 : sumB (takeB s (s.size - (textR s 2020).2.1.size)) = takeB (textR s 2020).2.1 4
          · simp only [h0, h1, h2, h3, ne_eq, not_true_eq_false, if_false, false_or, or_false, not_false_eq_true]
            generalize dropB (textR s 2020).2.1 4 = more
            generalize (numS (textR s 2020).1).1 = turn
            generalize dropB (textR s 2020).1 (numS (textR s 2020).1).2.1 = b
            have hz := zerosB_iff more
            by_cases hm : more = zeroB more.size
            · have hz1 := hz.2 hm
              by_cases ht : turn < 1
              · obtain rfl : turn = 0 := by omega
                rw [if_pos (.inl ht)]
                split <;> simp
              · rw [if_neg (by intro h; rcases h with h | h; exact ht h; exact h hm)]
                simp only [hz1, or_false, Bool.true_eq_false]
                first | exact ⟨rfl, fun _ => rfl⟩ | simp
            · have hz1 : zerosB more = false := by
                rw [Bool.eq_false_iff]; exact fun h => hm (hz.1 h)
              rw [if_pos (.inr hm), if_pos (.inr (.inr (.inr hz1)))]
              exact ⟨rfl, fun _ => rfl⟩
          · simp [h0, h1, h2, h3]
      · by_cases h1 : (textR s 2020).2.1.size < 4
        · simp [h0, h1, h3]
        · by_cases h2 : sumB (takeB s (s.size - (textR s 2020).2.1.size)) = takeB (textR s 2020).2.1 4
          · simp [h0, h1, h2, h3]
          · simp [h0, h1, h2, h3]
    · simp [h0]
  · have h1 : readB s = (0, 0) := by unfold readB; rw [if_pos (.inl e1)]
    have h2 : (unwrapR s).2.2.2 ≠ 0 := by unfold unwrapR; rw [if_pos e2]; exact e2
    have h3 : blockR s = (0, 0) := by unfold blockR; rw [if_pos (.inl h2)]
    rw [h1, h3]
    exact ⟨rfl, fun h => absurd rfl h⟩
theorem blockR_half (s : ByteArray) : (blockR s).2 ≤ 1 := by
  unfold blockR
  split
  · exact Nat.zero_le _
  · split
    · exact Nat.zero_le _
    · rename_i h
      simp only
      omega
/-- Which of two superblocks counts: both ways of asking say the same. -/
theorem newer_block {a b : ByteArray} (ha : a.size ≤ 64) (hb : b.size ≤ 64) :
    (newer (newer (0, 0) (readB a)) (readB b)).1 = (if (blockR a).1 < (blockR b).1 then (blockR b).1 else (blockR a).1) ∧
      ((newer (newer (0, 0) (readB a)) (readB b)).1 ≠ 0 → (newer (newer (0, 0) (readB a)) (readB b)).2 = (if (blockR a).1 < (blockR b).1 then (blockR b).2 else (blockR a).2)) := by
  obtain ⟨a1, a2⟩ := block_read a ha
  obtain ⟨b1, b2⟩ := block_read b hb
  generalize blockR a = x at *
  generalize blockR b = y at *
  generalize readB a = u at *
  generalize readB b = v at *
  rw [a1, b1]
  by_cases h0 : u.1 = 0
  · have e1 : newer (0, 0) u = (0, 0) := by unfold newer; rw [if_neg (by simp only; omega)]
    rw [e1]
    by_cases h1 : v.1 = 0
    · have e2 : newer (0, 0) v = (0, 0) := by unfold newer; rw [if_neg (by simp only; omega)]
      rw [e2, if_neg (by omega)]
      exact ⟨h0.symm, fun h => absurd rfl h⟩
    · have e2 : newer (0, 0) v = v := by unfold newer; rw [if_pos (by simp only; omega)]
      rw [e2, if_pos (by omega), if_pos (by omega), b2 h1]
      exact ⟨rfl, fun _ => rfl⟩
  · have e1 : newer (0, 0) u = u := by unfold newer; rw [if_pos (by simp only; omega)]
    rw [e1]
    by_cases h1 : u.1 < v.1
    · have e2 : newer u v = v := by unfold newer; rw [if_pos h1]
      rw [e2, if_pos h1, if_pos h1, b2 (by omega)]
      exact ⟨rfl, fun _ => rfl⟩
    · have e2 : newer u v = u := by unfold newer; rw [if_neg h1]
      rw [e2, if_neg h1, if_neg h1, a2 h0]
      exact ⟨rfl, fun _ => rfl⟩

set_option maxHeartbeats 16000000 in
set_option maxRecDepth 100000 in
theorem rblock_any (s : ByteArray) (hs : s.size ≤ 1000) (w : World) :
    Calls Tryz.prog 62 #[.string s] w fun e w' => e = .returned (.tuple #[.int .i64 ((blockR s).1 : Int), .int .i64 ((blockR s).2 : Int)]) ∧ Below w.heap.size w w' := by
  have cu := Lib.hid (rUnwrap_any s (by omega) w)
  have hz : (unwrapR s).2.2.1.size ≤ s.size ∧ (unwrapR s).1.size ≤ s.size := by
    have h1 := textR_sizes s 2020
    unfold unwrapR
    split
    · exact ⟨Nat.le_refl _, Nat.zero_le _⟩
    · split
      · exact ⟨Nat.le_refl _, Nat.zero_le _⟩
      · split
        · exact ⟨Nat.le_refl _, Nat.zero_le _⟩
        · split
          · exact ⟨Nat.le_refl _, Nat.zero_le _⟩
          · simp only [dropB_size]
            omega
  unfold unwrapPost at cu
  unfold blockR
  generalize unwrapR s = r at cu hz ⊢
  obtain ⟨b, turn, more, c⟩ := r
  simp only at cu hz ⊢
  by_cases h0 : c = 0
  case neg =>
    rw [if_pos (.inl h0)]
    have t0 : (c == 0) = false := beq_eq_false_iff_ne.2 h0
    have t0' : (c != 0) = true := by rw [bne, t0]; rfl
    clear hz h0
    go_enter Tryz.func62, Tryz.ntmps62
    go_wp2_with (go_at_call 88; with_reducible refine cu.out.mono ?_; rintro e w1 ⟨rfl, hb⟩; have HB := Lib.hid hb; clear hb)
    go_ret2
    exact ⟨rfl, HB.out⟩
  subst h0
  by_cases h1 : turn < 1
  · rw [if_pos (.inr (.inl h1))]
    have t1 : (turn : Int) < 1 := by omega
    clear hz h1
    go_enter Tryz.func62, Tryz.ntmps62
    go_wp2_with (go_at_call 88; with_reducible refine cu.out.mono ?_; rintro e w1 ⟨rfl, hb⟩; have HB := Lib.hid hb; clear hb)
    go_ret2
    exact ⟨rfl, HB.out⟩
  have t1 : (1 : Int) ≤ (turn : Int) := by omega
  obtain ⟨m, hm⟩ : ∃ m, m = more.size := ⟨_, rfl⟩
  have hk1 : ∀ w : World, (Instr.makeSlice 79 (.int .i64 (more.size : Int)) (.int .i64 (more.size : Int))).run Tryz.prog w = .ok (.slice (some ⟨w.heap.size, 0, none⟩) more.size more.size) (w.alloc (.cells (zerosC more.size) 5)) := fun w => make_zeros w more.size (by omega)
  have hk2 : ∀ w : World, (convert 79 9 (.slice (some ⟨w.heap.size, 0, none⟩) more.size more.size)).run Tryz.prog (w.alloc (.cells (zerosC more.size) 5)) = .ok (.string (zeroB more.size)) (w.alloc (.cells (zerosC more.size) 5)) := fun w => conv_zeros _ _ _ (Blk.new w _ _)
  by_cases h2 : more = zeroB more.size
  case neg =>
    rw [if_pos (.inr (.inr h2))]
    have t2 : (more.toList == (zeroB more.size).toList) = false := beq_list_false h2
    generalize zeroB more.size = z at hk2 t2
    clear hz h1 h2 hm
    go_enter Tryz.func62, Tryz.ntmps62
    go_wp2_with (go_at_call 88; with_reducible refine cu.out.mono ?_; rintro e w1 ⟨rfl, hb⟩; have HB := Lib.hid hb; clear hb)
    go_ret2
    exact ⟨rfl, below_alloc' HB.out _⟩
  rw [if_neg (by intro h; rcases h with h | h | h; exact h rfl; exact h1 h; exact h h2)]
  have t2 : (more.toList == (zeroB more.size).toList) = true := by rw [← h2]; simp
  generalize zeroB more.size = z at hk2 t2
  have ct := Lib.hid (fun W => rTake_any b (by omega) W)
  unfold rTakePost at ct
  generalize numS b = r2 at ct ⊢
  obtain ⟨hf, off, c2⟩ := r2
  simp only at ct ⊢
  generalize dropB b off = rest at ct ⊢
  clear hz h1 h2 hm
  by_cases h3 : c2 = 0
  case neg =>
    rw [if_pos (.inl h3)]
    have t3 : (c2 == 0) = false := beq_eq_false_iff_ne.2 h3
    have t3' : (c2 != 0) = true := by rw [bne, t3]; rfl
    clear h3
    go_enter Tryz.func62, Tryz.ntmps62
    go_wp2_with (first
      | (go_at_call 88; with_reducible refine cu.out.mono ?_; rintro e w1 ⟨rfl, hb⟩; have HB := Lib.hid hb; clear hb)
      | (go_at_call 89; with_reducible refine (ct.out _).mono ?_; rintro e w2 ⟨rfl, hb⟩; have HB2 := Lib.hid (below_step (below_alloc' HB.out _) hb); clear hb))
    go_ret2
    exact ⟨rfl, HB2.out⟩
  subst h3
  by_cases h4 : rest = ⟨#[]⟩
  case neg =>
    rw [if_pos (.inr (.inl h4))]
    have t4 : (rest.toList == []) = false := by
      have := beq_list_false h4
      rw [show (⟨#[]⟩ : ByteArray).toList = [] by rw [ByteArray.toList_eq]] at this
      exact this
    clear h4
    go_enter Tryz.func62, Tryz.ntmps62
    go_wp2_with (first
      | (go_at_call 88; with_reducible refine cu.out.mono ?_; rintro e w1 ⟨rfl, hb⟩; have HB := Lib.hid hb; clear hb)
      | (go_at_call 89; with_reducible refine (ct.out _).mono ?_; rintro e w2 ⟨rfl, hb⟩; have HB2 := Lib.hid (below_step (below_alloc' HB.out _) hb); clear hb))
    go_ret2
    exact ⟨rfl, HB2.out⟩
  subst h4
  by_cases h5 : 1 < hf
  · rw [if_pos (.inr (.inr h5))]
    have t5 : (1 : Int) < (hf : Int) := by omega
    clear h5
    go_enter Tryz.func62, Tryz.ntmps62
    go_wp2_with (first
      | (go_at_call 88; with_reducible refine cu.out.mono ?_; rintro e w1 ⟨rfl, hb⟩; have HB := Lib.hid hb; clear hb)
      | (go_at_call 89; with_reducible refine (ct.out _).mono ?_; rintro e w2 ⟨rfl, hb⟩; have HB2 := Lib.hid (below_step (below_alloc' HB.out _) hb); clear hb))
    go_ret2
    exact ⟨rfl, HB2.out⟩
  · rw [if_neg (by intro h; rcases h with h | h | h; exact h rfl; exact h rfl; exact h5 h)]
    have t5 : (hf : Int) ≤ 1 := by omega
    clear h5
    go_enter Tryz.func62, Tryz.ntmps62
    go_wp2_with (first
      | (go_at_call 88; with_reducible refine cu.out.mono ?_; rintro e w1 ⟨rfl, hb⟩; have HB := Lib.hid hb; clear hb)
      | (go_at_call 89; with_reducible refine (ct.out _).mono ?_; rintro e w2 ⟨rfl, hb⟩; have HB2 := Lib.hid (below_step (below_alloc' HB.out _) hb); clear hb))
    go_ret2
    exact ⟨rfl, HB2.out⟩
end Go.Proofs.YtjincmagbbpooaaGreatDoor
end
