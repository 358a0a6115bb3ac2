import Derived.Test.YtfmgafpgajlddaaDoorV3
set_option linter.unusedVariables false
set_option linter.unusedSimpArgs false
namespace Go.Proofs.YtfmgafpgajlddaaDoor
open Go.RowKit
attribute [local go_sem] max2_int max_two min2_int min_two

set_option maxHeartbeats 4000000 in
set_option maxRecDepth 100000 in
theorem rFlush_any (w : World) (F : Nat → Prop) (p : Nat) (D : DS) (h : Ref w F p D) :
    Calls Tryd.prog 32 #[.pointer (some ⟨p, 0, none⟩)] w fun e w' => e = .returned (.int .i64 D.flushC) ∧ RefPost F p w D.flush w' := by
  unfold DS.flushC DS.flush
  by_cases hd : D.dead = true
  · rw [if_pos hd, if_pos hd]
    have H := Lib.hid h
    obtain ⟨sv, av, bv, hr, -⟩ := h
    have c5 := hr.cells.2.2.2.2.2.1
    rw [hd] at c5
    clear hr hd
    go_enter Tryd.func32, Tryd.ntmps32
    go_wp2
    go_ret
    exact ⟨rfl, Save.refl _ _, H.out.mono fun _ _ => .inl⟩
  · rw [if_neg hd, if_neg hd]
    exact rFlush_yes w F p D h (by simpa using hd)

set_option maxHeartbeats 8000000 in
set_option maxRecDepth 100000 in
theorem rNew_any (w : World) (k : Int) (n : Nat) (hn : mnI (mxI k 1) 2000 = (n : Int)) (h1 : 1 ≤ n) (h2 : n ≤ 2000) :
    Calls Tryd.prog 27 #[.int .i64 k] w fun e w' => ∃ p, e = .returned (.pointer (some ⟨p, 0, none⟩)) ∧ RefPost (fun _ => False) p w (newD n) w' := by
  have hk2 : mxI 1 (mnI k 2000) = (n : Int) := by unfold mnI mxI at hn ⊢; split at hn <;> split at hn <;> split <;> split <;> omega
  have e1 : Builtin.min_ #[3, 3] 3 #[.int .i64 k, .int .i64 2000] = (pure (.int .i64 (mnI k 2000)) : Sem Value) := by rw [min_two, min2_int]; rfl
  have e2 : Builtin.max_ #[3, 3] 3 #[.int .i64 1, .int .i64 (mnI k 2000)] = (pure (.int .i64 (n : Int)) : Sem Value) := by rw [max_two, max2_int, hk2]; rfl
  have he : fillB ⟨#[]⟩ = zeroB 64 := by decide
  have cf := filled_any ⟨#[]⟩ (by decide)
  rw [he] at cf
  replace cf := Lib.hid cf
  obtain ⟨i0, hi, hz0, hz1, hz2⟩ := info_parts Tryd.infoS1
  have HI := Lib.hid hi
  have HZ0 := Lib.hid hz0
  have HZ1 := Lib.hid hz1
  have HZ2 := Lib.hid hz2
  clear hn hk2 he hi hz0 hz1 hz2
  go_enter Tryd.func27, Tryd.ntmps27
  go_wp2
  have hb1 := Lib.hid (Blk.new w 68 #[.slice none 0 0, .slice none 0 0, .slice none 0 0, .int .i64 0, .int .i64 (-1), .bool false])
  have hbb := Lib.hid ((Below.refl w.heap.size w).alloc (Nat.le_refl _) (.cells #[.slice none 0 0, .slice none 0 0, .slice none 0 0, .int .i64 0, .int .i64 (-1), .bool false] 68))
  go_loopw [4] (fun v4 wr => ∃ (i : Nat) (sv : Value), v4 = .int .i64 (i : Int) ∧ i ≤ n ∧ Hid (Below w.heap.size w wr) ∧ Hid (Blk wr w.heap.size 68 #[sv, .slice none 0 0, .slice none 0 0, .int .i64 0, .int .i64 (-1), .bool false]) ∧ Hid (wr.ownsRow (w.heap.size + 1) 9 1 sv i (List.replicate i (.string (zeroB 64))))) (fun v4 _ => n - (intOf v4).toNat)
  case atStart => exact ⟨0, .slice none 0 0, rfl, Nat.zero_le _, hbb, hb1, World.ownsRow_nil _ _ _ _⟩
  case round =>
    clear hb1 hbb
    obtain ⟨i, sv, rfl, hi, HB, HP, HO⟩ := hrel
    by_cases hlt : i < n
    · have c0 := HP.out.cell 0
      have f0 := HP.out.frozen 0
      change wr.cell? ⟨w.heap.size, 0, none⟩ = some sv at c0
      have hp0 := HP.out.lt
      have hpn := own_blk_ne HO.out HP.out (by decide)
      have HPN := Lib.hid hpn
      have HP0 := Lib.hid hp0
      clear hpn
      go_wp2_with (fail)
      go_region_law (first
        | ((refine step_append_lies _ (by rfl) (.tmp 18) (.tmp 20) 37 (by rfl) (w.heap.size + 1) 9 i0 (.string ⟨#[]⟩) 1 16 Tryd.underlying37 HI.out HZ0.out HZ1.out HZ2.out (by rfl) (by decide) sv i (List.replicate i (.string (zeroB 64))) (by rfl) (by first | exact HO1.out.alloc _ | fail) _ 1 1 [.string (zeroB 64)] (by rfl) (by rfl)
              (by first | exact World.news_of_block (heap_alloc_new _ _) | fail) (by simp [Value.oneCell']) (by decide) (by unfold maxLen; omega) (by omega) (by have := HB1.out.size; have := HP0.out; simp; omega) _ rfl ?_);
            (intro g2 cap w2 ho hg ha hlt2); (have HG2 := Lib.hid hg); (have HO2 := Lib.hid ho);
            (have c0' := (HG2.out.cell_far ⟨w.heap.size, 0, none⟩ (by have := HB1.out.size; have := HP0.out; simp; omega) HPN.out).trans ((World.cell?_alloc_lt _ _ ⟨w.heap.size, 0, none⟩ (by have := HB1.out.size; have := HP0.out; show w.heap.size < _; omega)).trans ((HB1.out.cell (p := ⟨w.heap.size, 0, none⟩) HP0.out).trans c0)));
            (have f0' := (HG2.out.frozen_far ⟨w.heap.size, 0, none⟩ (by have := HB1.out.size; have := HP0.out; simp; omega) HPN.out).trans ((World.frozen?_alloc_old _ _ ⟨w.heap.size, 0, none⟩ (by have := HB1.out.size; have := HP0.out; show w.heap.size ≠ _; omega)).trans ((HB1.out.frozen (p := ⟨w.heap.size, 0, none⟩) HP0.out).trans f0)));
            (clear ho hg ha hlt2))
        | ((refine step_call Tryd.func51 (by kernel_rfl) rfl #[.string ⟨#[]⟩] rfl rfl (by first | rfl | (simp [Act.eval, Act.put]; done)) ?_); (refine (cf.out _).mono ?_); (rintro e w1 ⟨rfl, hb⟩); (refine ⟨_, rfl, ?_⟩);
            (have HB1 := Lib.hid ((show Below wr.heap.size wr wr.drew from ⟨rfl, rfl, rfl, Nat.le_refl _, fun _ _ => rfl⟩).trans hb)); (have HO1 := Lib.hid (own_same HO.out (fun k hk => HB1.out.block k (HO.out.lt k hk).2))); (have c0' := (HB1.out.cell (p := ⟨w.heap.size, 0, none⟩) HP0.out).trans c0);
            (have c0'' := (World.cell?_alloc_lt w1 (.cells #[.string (zeroB 64)] 9) ⟨w.heap.size, 0, none⟩ (Nat.lt_of_lt_of_le HP0.out HB1.out.size)).trans c0'); (clear hb)))
      all_goals go_wp2
      all_goals go_roundw
      all_goals (first
        | (simp [intOf]; omega)
        | (refine ⟨i + 1, .slice (some ⟨g2, 0, none⟩) (i + 1) cap, by go_num, by omega, ?_, ?_, ?_⟩
           · exact ((((HB.out.trans (HB1.out.mono (Nat.le_of_lt HP0.out))).alloc (by have := HB1.out.size; have := HP0.out; omega) _).grown HG2.out (by have := HB1.out.size; have := HP0.out; simp; omega) (fun k hk => by have := (HO.out.lt k hk).1; omega))).setCell (Nat.le_refl _) _
           · exact (((HP.out.below HB1.out).alloc _).grown HG2.out HPN.out).set_ 0 _
           · have := HO2.out
             rw [← List.replicate_succ'] at this
             refine own_same this fun k hk => Below.heap_setCell _ _ _ _ fun e => ?_
             have h3 := (HO2.out.lt k hk).1
             change k = w.heap.size at e
             omega))
    · obtain rfl : i = n := by omega
      go_wp2
      go_ret
      refine ⟨w.heap.size, rfl, Save.of_below HB.out, sv, .slice none 0 0, .slice none 0 0, ⟨HP.out, ?_, World.ownsRow_nil _ _ _ _, World.ownsRow_nil _ _ _ _, newD_ok i h1 h2⟩, ?_⟩
      · have := own_base HO.out
        unfold strC newD
        simpa using this
      · refine ⟨.inr ⟨Nat.le_refl _, HP.out.lt⟩, fun k hk => .inr ?_, (fun k hk => by cases hk), (fun k hk => by cases hk)⟩
        have := HO.out.lt k hk
        omega
end Go.Proofs.YtfmgafpgajlddaaDoor
