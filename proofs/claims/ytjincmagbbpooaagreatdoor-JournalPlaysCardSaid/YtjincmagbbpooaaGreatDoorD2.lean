import Derived.Test.YtjincmagbbpooaaGreatDoorD1
set_option linter.unusedVariables false
set_option linter.unusedSimpArgs false
namespace Go.Proofs.YtjincmagbbpooaaGreatDoor
open Go.RowKit

theorem zeros_repeat (n : Nat) : (⟨(Lib.repeatL (⟨#[0]⟩ : ByteArray).data.toList n).toArray⟩ : ByteArray) = zeroB n := by
  unfold zeroB
  have := Lib.repeatL_replicate 0 1 n
  rw [Nat.mul_one] at this
  rw [← this]
  rfl
theorem Repeat_zeros (n : Nat) (hn : n ≤ 64) (w : World) : Calls Tryz.prog 35 #[.string ⟨#[0]⟩, .int .i64 (n : Int)] w fun e w' => e = .returned (.string (zeroB n)) ∧ Below w.heap.size w w' := by
  have := Tryz.strings_Repeat ⟨#[0]⟩ n w (by omega) (by show 1 * n ≤ _; omega)
  rw [zeros_repeat] at this
  exact this
theorem errV_ne' {c : Int} (h : c ≠ 0) : errV c = .iface 34 (.int .i64 c) := by unfold errV; rw [if_neg h]
theorem Tryz.infoW : (Tryz.prog.info? 96).map (fun i => (i.zero, i.size, i.bytes)) = some (some (.agg #[.int .i64 0, .string ByteArray.empty]), 2, 24) := by kernel_rfl

set_option maxHeartbeats 8000000 in
set_option maxRecDepth 100000 in
theorem Write_no (w : World) (F : Nat → Prop) (p : Nat) (D : DS) (i : Int) (b : ByteArray) (h : Dsk w F p D) (h0 : D.writeC i b ≠ 0) :
    Calls Tryz.prog 11 #[.pointer (some ⟨p, 0, none⟩), .int .i64 i, .string b] w fun e w' => e = .returned (errV (D.writeC i b)) ∧ DskPost F p w (D.write i b) w' := by
  have cm := may_any w F p D i h
  have hw : D.write i b = if D.may i = 0 ∧ b.size ≤ 64 then { D with dead := true } else D := by unfold DS.write; rw [if_neg h0]
  rw [hw]
  unfold DS.writeC at h0 ⊢
  clear hw
  by_cases h1 : D.may i = 0
  · rw [if_neg (by simpa using h1)] at h0 ⊢
    rw [h1] at cm
    have cm : Calls Tryz.prog 48 #[.pointer (some ⟨p, 0, none⟩), .int .i64 i] w fun e w' => e = .returned .nilIface ∧ w = w' := cm
    by_cases h2 : 64 < b.size
    · rw [if_pos h2, if_neg (by omega)]
      have t2 : decide ((64 : Int) < (b.size : Int)) = true := decide_eq_true (by omega)
      have t2' : decide (64 < b.size) = true := decide_eq_true h2
      replace cm := Lib.hid cm
      have H := Lib.hid h
      clear h h0 h1 h2
      go_enter Tryz.func11, Tryz.ntmps11
      go_wp2_with ((go_at_call 48; with_reducible refine cm.out.mono ?_; rintro e w1 ⟨rfl, rfl⟩))
      go_ret
      exact ⟨rfl, Save.refl _ _, H.out.mono fun _ _ => .inl⟩
    · rw [if_neg h2] at h0 ⊢
      have hc : D.may i = 0 ∧ b.size ≤ 64 := ⟨h1, by omega⟩
      rw [if_pos hc]
      have h3 : D.left = 0 := by
        by_cases h3 : D.left = 0
        · exact h3
        · rw [if_neg h3] at h0; exact absurd rfl h0
      rw [if_pos h3]
      have t2 : decide ((64 : Int) < (b.size : Int)) = false := decide_eq_false (by omega)
      have t2' : decide (64 < b.size) = false := decide_eq_false h2
      obtain ⟨g, lv, hd, f1, f2, f3⟩ := h
      obtain ⟨-, -, c2, -, c4, fr⟩ := hd.cells
      rw [h3] at c2
      have fr4 := fr 4
      replace cm := Lib.hid cm
      have HD := Lib.hid hd
      have HF1 := Lib.hid f1
      have HF2 := Lib.hid f2
      have HF3 := Lib.hid f3
      clear hd f1 f2 f3 fr h0 h1 h2 h3
      go_enter Tryz.func11, Tryz.ntmps11
      go_wp2_with ((go_at_call 48; with_reducible refine cm.out.mono ?_; rintro e w1 ⟨rfl, rfl⟩))
      go_ret
      exact ⟨rfl, (Save.refl _ _).setCell (.inl HF1.out) _, g, lv, HD.out.setDead true, .inl HF1.out, .inl HF2.out, fun q hq => .inl (HF3.out q hq)⟩
  · rw [if_pos h1, if_neg (fun h => h1 h.1)]
    rw [errV_ne' h1] at cm ⊢
    replace cm := Lib.hid cm
    have H := Lib.hid h
    clear h h0 h1
    go_enter Tryz.func11, Tryz.ntmps11
    go_wp2_with ((go_at_call 48; with_reducible refine cm.out.mono ?_; rintro e w1 ⟨rfl, rfl⟩))
    go_ret
    exact ⟨rfl, Save.refl _ _, H.out.mono fun _ _ => .inl⟩

theorem put_close {w W0 w1 w2 : World} {F : Nat → Prop} {p g g2 cap d i : Nat} {lv : Value} {D : DS} {l : Int} {b : ByteArray} (o : Obj)
    (HS0 : Save F w W0) (HD0 : DskAt W0 p g lv { D with left := l, done := d }) (HB : Below W0.heap.size W0 w1) (HG2 : (w1.alloc o).grownBy w2 lv.ownBlock)
    (HO2 : w2.ownsRow 0 96 2 (.slice (some ⟨g2, 0, none⟩) (D.loose.length + 1) cap) (D.loose.length + 1) (looseC D.loose ++ [.int .i64 (i : Int), .string b]))
    (HA2 : lv.ownBlock = some g2 ∨ g2 = (w1.alloc o).heap.size) (HLT2 : g2 < w2.heap.size) (HF1 : F p) (HF2 : F g) (HF3 : ∀ k, lv.ownBlock = some k → F k)
    (hok : DS.ok { D with left := l, done := d, loose := D.loose ++ [(i, b)] }) :
    DskPost F p w { D with left := l, done := d, loose := D.loose ++ [(i, b)] } (w2.setCell ⟨p, 1, none⟩ (.slice (some ⟨g2, 0, none⟩) (D.loose.length + 1) cap)) := by
  have hs : Save F w w2 := ((HS0.belowStep HB).alloc o).grown HG2 (fun k hk => .inl (HF3 k hk))
  have hs' := hs.setCell (p := ⟨p, 1, none⟩) (.inl HF1) (.slice (some ⟨g2, 0, none⟩) (D.loose.length + 1) cap)
  obtain ⟨n1, n2, n3⟩ := HD0.ne
  have hp : p < w1.heap.size := Nat.lt_of_lt_of_le HD0.own.lt HB.size
  have hne : g2 ≠ p := by
    rcases HA2 with h | h
    · intro e; subst e; exact n2 h.symm
    · intro e
      have : (w1.alloc o).heap.size = w1.heap.size + 1 := by simp
      omega
  have hlen : (D.loose ++ [(i, b)]).length = D.loose.length + 1 := by simp
  refine ⟨hs', g, .slice (some ⟨g2, 0, none⟩) (D.loose.length + 1) cap, ⟨?_, ?_, ?_, hok⟩, .inl HF1, .inl HF2, ?_⟩
  · exact (((HD0.own.below HB).alloc o).grown HG2 n2).set_ 1 _
  · exact (((HD0.row.below HB).alloc o).grown HG2 n3).far n1.symm _
  · show World.ownsRow _ 0 96 2 _ (D.loose ++ [(i, b)]).length (looseC (D.loose ++ [(i, b)]))
    rw [hlen, looseC_append]
    refine own_same HO2 fun k hk => Below.heap_setCell _ _ _ _ ?_
    have : g2 = k := by simpa [Value.ownBlock] using hk
    subst this
    exact hne
  · intro k hk
    have : g2 = k := by simpa [Value.ownBlock] using hk
    subst this
    rcases HA2 with h | h
    · exact .inl (HF3 _ h)
    · right
      have h1 : (w1.alloc o).heap.size = w1.heap.size + 1 := by simp
      have h2 := HS0.size
      have h3 := HB.size
      exact ⟨by omega, by simp [World.setCell]; exact HLT2⟩

set_option maxHeartbeats 8000000 in
set_option maxRecDepth 100000 in
theorem Write_yes (w : World) (F : Nat → Prop) (p : Nat) (D : DS) (i : Nat) (b : ByteArray) (h : Dsk w F p D) (h0 : D.writeC i b = 0) (hdone : D.done < 1099511627776) :
    Calls Tryz.prog 11 #[.pointer (some ⟨p, 0, none⟩), .int .i64 (i : Int), .string b] w fun e w' => e = .returned .nilIface ∧ DskPost F p w (D.put i b) w' := by
  have cm := may_any w F p D i h
  obtain ⟨h1, h2, h3⟩ := DS.writeC_zero.1 h0
  have h4 := DS.may_zero.1 h1
  rw [h1] at cm
  have cm : Calls Tryz.prog 48 #[.pointer (some ⟨p, 0, none⟩), .int .i64 (i : Int)] w fun e w' => e = .returned .nilIface ∧ w = w' := cm
  have hok := h.ok.put (i := i) (by omega) h2 hdone
  obtain ⟨g, lv, hd, f1, f2, f3⟩ := h
  obtain ⟨c0, c1, c2, c3, c4, fr⟩ := hd.cells
  have t2 : decide ((64 : Int) < (b.size : Int)) = false := decide_eq_false (by omega)
  have t2' : decide (64 < b.size) = false := decide_eq_false (by omega)
  have t3 : (D.left == 0) = false := by rw [beq_eq_false_iff_ne]; exact h3
  have fr2 := fr 2
  have fr3 := fr 3
  have fr1 := fr 1
  obtain ⟨n, hn⟩ : ∃ n, n = 64 - b.size := ⟨_, rfl⟩
  have hn1 : IntKind.i64.wrap (64 - (b.size : Int)) = (n : Int) := by rw [IntKind.wrap_i64]; omega
  have cr := Lib.hid (Repeat_zeros n (by omega))
  have hz : b.size + (zeroB n).size ≤ 9223372036854775807 := by rw [zeroB_size]; omega
  have hz' : ¬ 9223372036854775807 < b.size + (zeroB n).size := by omega
  have hfb : b ++ zeroB n = fillB b := by unfold fillB; rw [hn]
  obtain ⟨i0, hi, hz0, hz1, hz2⟩ := info_parts Tryz.infoW
  have HI := Lib.hid hi
  have HZ0 := Lib.hid hz0
  have HZ1 := Lib.hid hz1
  have HZ2 := Lib.hid hz2
  have HFB := Lib.hid hfb
  have hl : D.left ≤ 9223372036854775807 := hd.ok.left.2
  have hl0 : -1 ≤ D.left := hd.ok.left.1
  have hfew := hd.ok.few
  replace cm := Lib.hid cm
  have HD := Lib.hid hd
  have HF1 := Lib.hid f1
  have HF2 := Lib.hid f2
  have HF3 := Lib.hid f3
  clear hd f1 f2 f3 fr h0 h1 h2 h3 h4 hi hz0 hz1 hz2 hfb hn c0 c4
  obtain ⟨l, hll⟩ : ∃ l, l = D.left := ⟨_, rfl⟩
  obtain ⟨d, hdd⟩ : ∃ d, d = D.done := ⟨_, rfl⟩
  rw [← hll] at c2 t3 hl hl0
  rw [← hdd] at c3 hdone hfew
  have HL := Lib.hid hll
  have HDD := Lib.hid hdd
  clear hll hdd
  have HOK := Lib.hid hok
  clear hok
  have hok1 : DS.ok { D with left := (if 0 < l then l - 1 else l), done := d + 1 } := ⟨HD.out.ok.one, HD.out.ok.most, HD.out.ok.size, HD.out.ok.lies, by have := HD.out.ok.few; have := HDD.out; show D.loose.length ≤ d + 1; omega, by show d + 1 ≤ _; omega, by show -1 ≤ (if 0 < l then l - 1 else l) ∧ (if 0 < l then l - 1 else l) ≤ _; split <;> omega⟩
  have HOK1 := Lib.hid hok1
  clear hok1
  have hm0 : (l : Int) = D.left := HL.out
  have hn0 : ((d : Nat) : Int) + 1 = ((d + 1 : Nat) : Int) := by omega
  have HN0 := Lib.hid hn0
  have HM0 := Lib.hid hm0
  clear hm0 hn0
  by_cases h0 : 0 < l
  · have t4 : decide (0 < l) = true := decide_eq_true h0
    rw [if_pos h0] at HOK1
    have HPUT : Hid (D.put i b = { D with left := l - 1, done := d + 1, loose := D.loose ++ [(i, fillB b)] }) := by
      have h1 := HL.out
      have h2 := HDD.out
      subst h1 h2
      unfold DS.put
      rw [if_pos h0]
      exact rfl
    have HOK3 : Hid (DS.ok { D with left := l - 1, done := d + 1, loose := D.loose ++ [(i, b ++ zeroB n)] }) := by
      have := HOK.out
      rw [HPUT.out, ← HFB.out] at this
      exact this
    go_enter Tryz.func11, Tryz.ntmps11
    go_wp2_with ((go_at_call 48; with_reducible refine cm.out.mono ?_; rintro e w1 ⟨rfl, rfl⟩))
    have HS0 : Save F w ((w.setCell ⟨p, 2, none⟩ (.int .i64 (l - 1))).setCell ⟨p, 3, none⟩ (.int .i64 ((d : Int) + 1))) := ((Save.refl _ _).setCell (.inl HF1.out) _).setCell (.inl HF1.out) _
    have HD0 := HD.out.setTwo (l - 1) (d + 1) HOK1
    rw [← HN0.out] at HD0
    generalize ((w.setCell ⟨p, 2, none⟩ (.int .i64 (l - 1))).setCell ⟨p, 3, none⟩ (.int .i64 ((d : Int) + 1))) = W0 at *
    replace HS0 := Lib.hid HS0
    replace HD0 := Lib.hid HD0
    clear c1 c2 c3 fr1 fr2 fr3
    have c1 := HD0.out.cells.2.1
    have fr1 := HD0.out.cells.2.2.2.2.2 1
    have HOW := Lib.hid HD0.out.loose
    have HNP := Lib.hid HD0.out.ne
    go_region_law (first
      | ((refine step_append_lies _ (by rfl) (.tmp 58) (.tmp 67) 72 (by rfl) 0 96 i0 (.agg #[.int .i64 0, .string ByteArray.empty]) 2 24 Tryz.underlying72 HI.out HZ0.out HZ1.out HZ2.out (by rfl) (by decide) lv D.loose.length (looseC D.loose) (by rfl) (by first | exact HO1.out.alloc _ | exact HO1.out) _ 1 1 [.int .i64 (i : Int), .string (b ++ zeroB n)] (by rfl) (by rfl)
                (by first | exact World.news_of_block (heap_alloc_new _ _) | fail) (by simp [Value.oneCell']) (by decide) (by unfold maxLen; omega) (by omega) (Nat.zero_le _) _ rfl ?_);
              (intro g2 cap w2 ho hg ha hlt2);
              (have HG2 := Lib.hid hg);
              (have c1' := (HG2.out.cell_far ⟨p, 1, none⟩ (by have := HB.out.size; have := HD0.out.own.lt; simp; omega) HNP.out.2.1).trans ((World.cell?_alloc_lt _ _ ⟨p, 1, none⟩ (by have := HB.out.size; have := HD0.out.own.lt; show p < _; omega)).trans ((HB.out.cell (p := ⟨p, 1, none⟩) HD0.out.own.lt).trans c1)));
              (have fr1' := (HG2.out.frozen_far ⟨p, 1, none⟩ (by have := HB.out.size; have := HD0.out.own.lt; simp; omega) HNP.out.2.1).trans ((World.frozen?_alloc_old _ _ ⟨p, 1, none⟩ (by have := HB.out.size; have := HD0.out.own.lt; show p ≠ _; omega)).trans ((HB.out.frozen (p := ⟨p, 1, none⟩) HD0.out.own.lt).trans fr1)));
              (have HO2 := Lib.hid ho); (have HA2 := Lib.hid ha); (have HLT2 := Lib.hid hlt2); (clear ho hg ha hlt2))
      | ((refine step_call Tryz.func35 (by kernel_rfl) rfl #[.string ⟨#[0]⟩, .int .i64 (n : Int)] rfl rfl (by first | rfl | (simp [Act.eval, Act.put, hn1]; done)) ?_); (refine (cr.out _).mono ?_); (rintro e w1 ⟨rfl, hb⟩); (refine ⟨_, rfl, ?_⟩);
              (have HB := Lib.hid ((show Below W0.heap.size W0 W0.drew from ⟨rfl, rfl, rfl, Nat.le_refl _, fun _ _ => rfl⟩).trans hb)); (have HO1 := Lib.hid (own_same HOW.out (fun k hk => HB.out.block k (HOW.out.lt k hk).2))); (have c1' := (HB.out.cell (p := ⟨p, 1, none⟩) HD0.out.own.lt).trans c1); (have c1'' := (World.cell?_alloc_lt w1 (.cells #[.int .i64 (i : Int), .string (b ++ zeroB n)] 96) ⟨p, 1, none⟩ (Nat.lt_of_lt_of_le HD0.out.own.lt HB.out.size)).trans c1'); (clear hb)))
    all_goals go_wp2
    all_goals go_ret
    all_goals (
      have hc := put_close _ HS0.out HD0.out HB.out HG2.out HO2.out HA2.out HLT2.out HF1.out HF2.out HF3.out HOK3.out
      rw [HFB.out, ← HPUT.out] at hc
      exact ⟨rfl, hc⟩)
  · have t4 : decide (0 < l) = false := decide_eq_false h0
    rw [if_neg h0] at HOK1
    have HPUT : Hid (D.put i b = { D with left := l, done := d + 1, loose := D.loose ++ [(i, fillB b)] }) := by
      have h1 := HL.out
      have h2 := HDD.out
      subst h1 h2
      unfold DS.put
      rw [if_neg h0]
      exact rfl
    have HOK3 : Hid (DS.ok { D with left := l, done := d + 1, loose := D.loose ++ [(i, b ++ zeroB n)] }) := by
      have := HOK.out
      rw [HPUT.out, ← HFB.out] at this
      exact this
    go_enter Tryz.func11, Tryz.ntmps11
    go_wp2_with ((go_at_call 48; with_reducible refine cm.out.mono ?_; rintro e w1 ⟨rfl, rfl⟩))
    have HS0 : Save F w (w.setCell ⟨p, 3, none⟩ (.int .i64 ((d : Int) + 1))) := (Save.refl _ _).setCell (.inl HF1.out) _
    have HD0 : DskAt (w.setCell ⟨p, 3, none⟩ (.int .i64 ((d + 1 : Nat) : Int))) p g lv { D with left := l, done := d + 1 } := by
      have h1 := HL.out
      subst h1
      exact HD.out.setDone (d + 1) HOK1
    rw [← HN0.out] at HD0
    generalize (w.setCell ⟨p, 3, none⟩ (.int .i64 ((d : Int) + 1))) = W0 at *
    replace HS0 := Lib.hid HS0
    replace HD0 := Lib.hid HD0
    clear c1 c2 c3 fr1 fr2 fr3
    have c1 := HD0.out.cells.2.1
    have fr1 := HD0.out.cells.2.2.2.2.2 1
    have HOW := Lib.hid HD0.out.loose
    have HNP := Lib.hid HD0.out.ne
    go_region_law (first
      | ((refine step_append_lies _ (by rfl) (.tmp 58) (.tmp 67) 72 (by rfl) 0 96 i0 (.agg #[.int .i64 0, .string ByteArray.empty]) 2 24 Tryz.underlying72 HI.out HZ0.out HZ1.out HZ2.out (by rfl) (by decide) lv D.loose.length (looseC D.loose) (by rfl) (by first | exact HO1.out.alloc _ | exact HO1.out) _ 1 1 [.int .i64 (i : Int), .string (b ++ zeroB n)] (by rfl) (by rfl)
                (by first | exact World.news_of_block (heap_alloc_new _ _) | fail) (by simp [Value.oneCell']) (by decide) (by unfold maxLen; omega) (by omega) (Nat.zero_le _) _ rfl ?_);
              (intro g2 cap w2 ho hg ha hlt2);
              (have HG2 := Lib.hid hg);
              (have c1' := (HG2.out.cell_far ⟨p, 1, none⟩ (by have := HB.out.size; have := HD0.out.own.lt; simp; omega) HNP.out.2.1).trans ((World.cell?_alloc_lt _ _ ⟨p, 1, none⟩ (by have := HB.out.size; have := HD0.out.own.lt; show p < _; omega)).trans ((HB.out.cell (p := ⟨p, 1, none⟩) HD0.out.own.lt).trans c1)));
              (have fr1' := (HG2.out.frozen_far ⟨p, 1, none⟩ (by have := HB.out.size; have := HD0.out.own.lt; simp; omega) HNP.out.2.1).trans ((World.frozen?_alloc_old _ _ ⟨p, 1, none⟩ (by have := HB.out.size; have := HD0.out.own.lt; show p ≠ _; omega)).trans ((HB.out.frozen (p := ⟨p, 1, none⟩) HD0.out.own.lt).trans fr1)));
              (have HO2 := Lib.hid ho); (have HA2 := Lib.hid ha); (have HLT2 := Lib.hid hlt2); (clear ho hg ha hlt2))
      | ((refine step_call Tryz.func35 (by kernel_rfl) rfl #[.string ⟨#[0]⟩, .int .i64 (n : Int)] rfl rfl (by first | rfl | (simp [Act.eval, Act.put, hn1]; done)) ?_); (refine (cr.out _).mono ?_); (rintro e w1 ⟨rfl, hb⟩); (refine ⟨_, rfl, ?_⟩);
              (have HB := Lib.hid ((show Below W0.heap.size W0 W0.drew from ⟨rfl, rfl, rfl, Nat.le_refl _, fun _ _ => rfl⟩).trans hb)); (have HO1 := Lib.hid (own_same HOW.out (fun k hk => HB.out.block k (HOW.out.lt k hk).2))); (have c1' := (HB.out.cell (p := ⟨p, 1, none⟩) HD0.out.own.lt).trans c1); (have c1'' := (World.cell?_alloc_lt w1 (.cells #[.int .i64 (i : Int), .string (b ++ zeroB n)] 96) ⟨p, 1, none⟩ (Nat.lt_of_lt_of_le HD0.out.own.lt HB.out.size)).trans c1'); (clear hb)))
    all_goals go_wp2
    all_goals go_ret
    all_goals (
      have hc := put_close _ HS0.out HD0.out HB.out HG2.out HO2.out HA2.out HLT2.out HF1.out HF2.out HF3.out HOK3.out
      rw [HFB.out, ← HPUT.out] at hc
      exact ⟨rfl, hc⟩)
end Go.Proofs.YtjincmagbbpooaaGreatDoor
