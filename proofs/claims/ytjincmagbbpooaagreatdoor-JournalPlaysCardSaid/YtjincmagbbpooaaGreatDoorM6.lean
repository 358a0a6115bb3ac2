import Derived.Test.YtjincmagbbpooaaGreatDoorV3
import Derived.Test.YtjincmagbbpooaaGreatDoorWLast

section
set_option linter.unusedVariables false
set_option linter.unusedSimpArgs false
namespace Go.Proofs.YtjincmagbbpooaaGreatDoor
open Go.RowKit
attribute [local go_sem] max2_int max_two min2_int min_two

set_option maxHeartbeats 4000000 in
set_option maxRecDepth 100000 in
theorem rFlush_any (w : World) (F : Nat → Prop) (p : Nat) (D : DS) (h : Ref w F p D) :
    Calls Tryz.prog 60 #[.pointer (some ⟨p, 0, none⟩)] w fun e w' => e = .returned (.int .i64 D.flushC) ∧ RefPost F p w D.flush w' := by
  unfold DS.flushC DS.flush
  by_cases hd : D.dead = true
  · rw [if_pos hd, if_pos hd]
    have H := Lib.hid h
    obtain ⟨sv, av, bv, hr, -⟩ := h
    have c5 := hr.cells.2.2.2.2.2.1
    rw [hd] at c5
    clear hr hd
    go_enter Tryz.func60, Tryz.ntmps60
    go_wp2
    go_ret
    exact ⟨rfl, Save.refl _ _, H.out.mono fun _ _ => .inl⟩
  · rw [if_neg hd, if_neg hd]
    exact rFlush_yes w F p D h (by simpa using hd)

set_option maxHeartbeats 8000000 in
set_option maxRecDepth 100000 in
theorem rNew_any (w : World) (k : Int) (n : Nat) (hn : mnI (mxI k 1) 2000 = (n : Int)) (h1 : 1 ≤ n) (h2 : n ≤ 2000) :
    Calls Tryz.prog 23 #[.int .i64 k] w fun e w' => ∃ p, e = .returned (.pointer (some ⟨p, 0, none⟩)) ∧ RefPost (fun _ => False) p w (newD n) w' := by
  have hk2 : mxI 1 (mnI k 2000) = (n : Int) := by unfold mnI mxI at hn ⊢; split at hn <;> split at hn <;> split <;> split <;> omega
  have e1 : Builtin.min_ #[3, 3] 3 #[.int .i64 k, .int .i64 2000] = (pure (.int .i64 (mnI k 2000)) : Sem Value) := by rw [min_two, min2_int]; rfl
  have e2 : Builtin.max_ #[3, 3] 3 #[.int .i64 1, .int .i64 (mnI k 2000)] = (pure (.int .i64 (n : Int)) : Sem Value) := by rw [max_two, max2_int, hk2]; rfl
  have he : fillB ⟨#[]⟩ = zeroB 64 := by decide
  have cf := filled_any ⟨#[]⟩ (by decide)
  rw [he] at cf
  replace cf := Lib.hid cf
  obtain ⟨i0, hi, hz0, hz1, hz2⟩ := info_parts Tryz.infoS1
  have HI := Lib.hid hi
  have HZ0 := Lib.hid hz0
  have HZ1 := Lib.hid hz1
  have HZ2 := Lib.hid hz2
  clear hn hk2 he hi hz0 hz1 hz2
  go_enter Tryz.func23, Tryz.ntmps23
  go_wp2
  have hb1 := Lib.hid (Blk.new w 66 #[.slice none 0 0, .slice none 0 0, .slice none 0 0, .int .i64 0, .int .i64 (-1), .bool false])
  have hbb := Lib.hid ((Below.refl w.heap.size w).alloc (Nat.le_refl _) (.cells #[.slice none 0 0, .slice none 0 0, .slice none 0 0, .int .i64 0, .int .i64 (-1), .bool false] 66))
  go_loopw [4] (fun v4 wr => ∃ (i : Nat) (sv : Value), v4 = .int .i64 (i : Int) ∧ i ≤ n ∧ Hid (Below w.heap.size w wr) ∧ Hid (Blk wr w.heap.size 66 #[sv, .slice none 0 0, .slice none 0 0, .int .i64 0, .int .i64 (-1), .bool false]) ∧ Hid (wr.ownsRow (w.heap.size + 1) 9 1 sv i (List.replicate i (.string (zeroB 64))))) (fun v4 _ => n - (intOf v4).toNat)
  case atStart => exact ⟨0, .slice none 0 0, rfl, Nat.zero_le _, hbb, hb1, World.ownsRow_nil _ _ _ _⟩
  case round =>
    clear hb1 hbb
    obtain ⟨i, sv, rfl, hi, HB, HP, HO⟩ := hrel
    by_cases hlt : i < n
    · have c0 := HP.out.cell 0
      have f0 := HP.out.frozen 0
      change wr.cell? ⟨w.heap.size, 0, none⟩ = some sv at c0
      have hp0 := HP.out.lt
      have hpn := own_blk_ne HO.out HP.out (by decide)
      have HPN := Lib.hid hpn
      have HP0 := Lib.hid hp0
      clear hpn
      go_wp2_with (fail)
      go_region_law (first
        | ((refine step_append_lies _ (by rfl) (.tmp 18) (.tmp 20) 26 (by rfl) (w.heap.size + 1) 9 i0 (.string ⟨#[]⟩) 1 16 Tryz.underlying26 HI.out HZ0.out HZ1.out HZ2.out (by rfl) (by decide) sv i (List.replicate i (.string (zeroB 64))) (by rfl) (by first | exact HO1.out.alloc _ | fail) _ 1 1 [.string (zeroB 64)] (by rfl) (by rfl)
              (by first | exact World.news_of_block (heap_alloc_new _ _) | fail) (by simp [Value.oneCell']) (by decide) (by unfold maxLen; omega) (by omega) (by have := HB1.out.size; have := HP0.out; simp; omega) _ rfl ?_);
            (intro g2 cap w2 ho hg ha hlt2); (have HG2 := Lib.hid hg); (have HO2 := Lib.hid ho);
            (have c0' := (HG2.out.cell_far ⟨w.heap.size, 0, none⟩ (by have := HB1.out.size; have := HP0.out; simp; omega) HPN.out).trans ((World.cell?_alloc_lt _ _ ⟨w.heap.size, 0, none⟩ (by have := HB1.out.size; have := HP0.out; show w.heap.size < _; omega)).trans ((HB1.out.cell (p := ⟨w.heap.size, 0, none⟩) HP0.out).trans c0)));
            (have f0' := (HG2.out.frozen_far ⟨w.heap.size, 0, none⟩ (by have := HB1.out.size; have := HP0.out; simp; omega) HPN.out).trans ((World.frozen?_alloc_old _ _ ⟨w.heap.size, 0, none⟩ (by have := HB1.out.size; have := HP0.out; show w.heap.size ≠ _; omega)).trans ((HB1.out.frozen (p := ⟨w.heap.size, 0, none⟩) HP0.out).trans f0)));
            (clear ho hg ha hlt2))
        | ((refine step_call Tryz.func56 (by kernel_rfl) rfl #[.string ⟨#[]⟩] rfl rfl (by first | rfl | (simp [Act.eval, Act.put]; done)) ?_); (refine (cf.out _).mono ?_); (rintro e w1 ⟨rfl, hb⟩); (refine ⟨_, rfl, ?_⟩);
            (have HB1 := Lib.hid ((show Below wr.heap.size wr wr.drew from ⟨rfl, rfl, rfl, Nat.le_refl _, fun _ _ => rfl⟩).trans hb)); (have HO1 := Lib.hid (own_same HO.out (fun k hk => HB1.out.block k (HO.out.lt k hk).2))); (have c0' := (HB1.out.cell (p := ⟨w.heap.size, 0, none⟩) HP0.out).trans c0);
            (have c0'' := (World.cell?_alloc_lt w1 (.cells #[.string (zeroB 64)] 9) ⟨w.heap.size, 0, none⟩ (Nat.lt_of_lt_of_le HP0.out HB1.out.size)).trans c0'); (clear hb)))
      all_goals go_wp2
      all_goals go_roundw
      all_goals (first
        | (simp [intOf]; omega)
        | (refine ⟨i + 1, .slice (some ⟨g2, 0, none⟩) (i + 1) cap, by go_num, by omega, ?_, ?_, ?_⟩
           · exact ((((HB.out.trans (HB1.out.mono (Nat.le_of_lt HP0.out))).alloc (by have := HB1.out.size; have := HP0.out; omega) _).grown HG2.out (by have := HB1.out.size; have := HP0.out; simp; omega) (fun k hk => by have := (HO.out.lt k hk).1; omega))).setCell (Nat.le_refl _) _
           · exact (((HP.out.below HB1.out).alloc _).grown HG2.out HPN.out).set_ 0 _
           · have := HO2.out
             rw [← List.replicate_succ'] at this
             refine own_same this fun k hk => Below.heap_setCell _ _ _ _ fun e => ?_
             have h3 := (HO2.out.lt k hk).1
             change k = w.heap.size at e
             omega))
    · obtain rfl : i = n := by omega
      go_wp2
      go_ret
      refine ⟨w.heap.size, rfl, Save.of_below HB.out, sv, .slice none 0 0, .slice none 0 0, ⟨HP.out, ?_, World.ownsRow_nil _ _ _ _, World.ownsRow_nil _ _ _ _, newD_ok i h1 h2⟩, ?_⟩
      · have := own_base HO.out
        unfold strC newD
        simpa using this
      · refine ⟨.inr ⟨Nat.le_refl _, HP.out.lt⟩, fun k hk => .inr ?_, (fun k hk => by cases hk), (fun k hk => by cases hk)⟩
        have := HO.out.lt k hk
        omega
end Go.Proofs.YtjincmagbbpooaaGreatDoor
end

section
set_option linter.unusedVariables false
namespace Go.Proofs.YtjincmagbbpooaaGreatDoor
open YtjincmagbbpooaaGreatDoorW.PrintLast

/-! ### a region that draws its order, with several conditions: each is kept by all operations but its own last ones -/
section
variable {P : Program} {ops : Array Oper} {Q : Exit → Act → World → Prop} {md : Region.Mode} {S : Nat → World → Prop} {ds : Nat → List Nat}

def wpFam (P : Program) (md : Region.Mode) (ops : Array Oper) (Q : Exit → Act → World → Prop) (S : Nat → World → Prop) (ds : Nat → List Nat) : Nat → Array Bool → Act → World → Prop
  | 0, listed, a, w => Region.ready md ops listed = [] ∧ Q .normal a w
  | fuel + 1, listed, a, w =>
    (Region.ready md ops listed = [] → Q .normal a w) ∧
    ∀ i ∈ Region.ready md ops listed, wpOp P ops Q i (fun a' w' => (∀ q, i ∉ ds q → S q w → S q w') ∧ wpFam P md ops Q S ds fuel (listed.setIfInBounds i true) a' w') a w

theorem wpAny_of_fam : ∀ (fuel : Nat) (listed : Array Bool) (a : Act) (w : World), wpFam P md ops Q S ds fuel listed a w → wpAny P md ops Q fuel listed a w
  | 0, _, _, _, h => h
  | fuel + 1, _, _, _, h => ⟨h.1, fun i hi => wpOp_mono (fun a' w' h' => wpAny_of_fam fuel _ a' w' h'.2) (h.2 i hi)⟩

theorem wpFam_first {i q : Nat} {oi : Oper} {v : Value} (hi : ops[i]? = some oi) (hsel : ∀ (j : Nat) (o : Oper) cs b, ops[j]? = some o → o.op ≠ .select cs b)
    (hQ : ∀ c a w, Q (.panic c) (a.put oi.dst v) w → Q (.panic c) a w) (n : Nat) :
    ∀ (fuel : Nat) (listed : Array Bool) (a : Act) (w : World),
      (∀ j oj, ops[j]? = some oj → j ≠ i → listed.getD j true = false → (∀ e ∈ oj.after, Region.binds md e = true → e.on ≠ i) → oi.apart ops oj = true) →
      ListedClosed md ops listed → (∀ d ∈ ds q, listed.getD d true = false → Region.reachB md ops i n d = true) →
      i ∈ Region.ready md ops listed → YieldsIf P ops (S q) oi v a → S q w →
      wpFam P md ops Q S ds fuel (listed.setIfInBounds i true) (a.put oi.dst v) w → wpFam P md ops Q S ds (fuel + 1) listed a w := by
  intro fuel
  induction fuel with
  | zero =>
    intro listed a w _ _ _ hr hy hS H
    refine ⟨fun h => (by rw [h] at hr; cases hr), fun j hj => ?_⟩
    by_cases hji : j = i
    · subst hji; exact hy.wpOp hi hS ⟨fun _ _ h => h, H⟩
    · have := ready_mono hj hji
      rw [H.1] at this
      cases this
  | succ fuel ih =>
    intro listed a w hfree hc hd hr hy hS H
    refine ⟨fun h => (by rw [h] at hr; cases hr), fun j hj => ?_⟩
    by_cases hji : j = i
    · subst hji; exact hy.wpOp hi hS ⟨fun _ _ h => h, H⟩
    · have h1 := H.2 j (ready_mono hj hji)
      obtain ⟨hjun, oj, hoj, hall⟩ := mem_ready.1 hj
      have hiun := (mem_ready.1 hr).1
      have hnot : ∀ e ∈ oj.after, Region.binds md e = true → e.on ≠ i := fun e he hb heq => by
        have h1 := hall e he hb
        rw [heq] at h1
        rcases Nat.lt_or_ge i listed.size with h' | h'
        · simp [h'] at hiun h1; rw [hiun] at h1; cases h1
        · simp [Array.getElem?_eq_none h'] at h1
      have hjd : j ∉ ds q := fun hm => Region.reach_not_ready hc (hd j hm hjun) hiun hj
      have h2 := wpOp_putIf hoj (hfree j oj hoj hji hjun hnot) (fun cs b => hsel i oi cs b hi) (fun cs b => hsel j oj cs b hoj) hQ hy h1
      have hfree' : ∀ k ok, ops[k]? = some ok → k ≠ i → (listed.setIfInBounds j true).getD k true = false →
          (∀ e ∈ ok.after, Region.binds md e = true → e.on ≠ i) → oi.apart ops ok = true := fun k ok hk hki hun hno => by
        refine hfree k ok hk hki ?_ hno
        by_cases hjk : j = k
        · subst hjk; exact hjun
        · rw [getD_set_ne true hjk] at hun; exact hun
      have hd' : ∀ d ∈ ds q, (listed.setIfInBounds j true).getD d true = false → Region.reachB md ops i n d = true := fun d hm hun => by
        refine hd d hm ?_
        by_cases hjk : j = d
        · subst hjk; exact hjun
        · rw [getD_set_ne true hjk] at hun; exact hun
      refine wpOp_mono (fun a' w' h3 => ⟨h3.2.1, ih (listed.setIfInBounds j true) a' w' hfree' (hc.set hj) hd' (ready_mono hr (Ne.symm hji)) h3.1 (h3.2.1 q hjd hS) ?_⟩) h2
      rw [Array.setIfInBounds_comm _ _ hji]
      exact h3.2.2

/-- Take number 'i' first, by condition q. -/
theorem wpFam_take {i : Nat} (q : Nat) (N : Option Tmp) {oi : Oper} {v : Value} {fuel : Nat} {listed : Array Bool} {a : Act} {w : World} (hi : ops[i]? = some oi)
    (hs : Region.noSelect ops = true) (hf : Region.free md ops listed i = true) (hr : (Region.ready md ops listed).contains i = true)
    (hc : Region.closedB md ops listed = true) (hl : Region.lastB md ops listed (ds q) i = true)
    (hQ : ∀ c a w, Q (.panic c) (a.put oi.dst v) w → Q (.panic c) a w) (hN : oi.dst = N) (hy : YieldsIf P ops (S q) oi v a) (hS : S q w)
    (h : wpFam P md ops Q S ds fuel (listed.setIfInBounds i true) (a.put N v) w) : wpFam P md ops Q S ds (fuel + 1) listed a w := by
  subst hN
  exact wpFam_first hi (Region.noSelect_spec hs) hQ ops.size fuel listed a w (Region.free_spec hi hf) (Region.closedB_spec hc)
    (fun d hm hun => by have := List.all_eq_true.1 hl d hm; rw [hun] at this; simpa using this) (by simpa using hr) hy hS h

theorem wpFam_done {listed : Array Bool} {a : Act} {w : World} (hr : Region.ready md ops listed = []) (h : Q .normal a w) :
    ∀ fuel, wpFam P md ops Q S ds fuel listed a w
  | 0 => ⟨hr, h⟩
  | _ + 1 => ⟨fun _ => h, by rw [hr]; simp⟩

theorem wp_region_fam {id : Nat} {a : Act} {w : World} (hm : P.follows .mixedOrders = true)
    (h : wpFam P .any ops Q S ds ops.size (Array.replicate ops.size false) a w.drew) : (Code.region id ops true).wp P Q a w :=
  wp_region_any hm (wpAny_of_fam _ _ _ _ h)

def AllReadyF (P : Program) (md : Region.Mode) (ops : Array Oper) (Q : Exit → Act → World → Prop) (S : Nat → World → Prop) (ds : Nat → List Nat) (fuel : Nat) (listed : Array Bool) (a : Act) (w : World) (rs : List Nat) : Prop :=
  ∀ i ∈ rs, wpOp P ops Q i (fun a' w' => (∀ q, i ∉ ds q → S q w → S q w') ∧ wpFam P md ops Q S ds fuel (listed.setIfInBounds i true) a' w') a w
theorem AllReadyF.nil {fuel : Nat} {listed : Array Bool} {a : Act} {w : World} : AllReadyF P md ops Q S ds fuel listed a w [] := fun _ h => by cases h
theorem AllReadyF.cons {fuel : Nat} {listed : Array Bool} {a : Act} {w : World} {i : Nat} {o : Oper} {rs : List Nat} (ho : ops[i]? = some o)
    (h : ∀ K' : Act → World → Prop, Shut (∀ a w', (∀ q, i ∉ ds q → S q w → S q w') → wpFam P md ops Q S ds fuel (listed.setIfInBounds i true) a w' → K' a w') → if Region.wanted o (yielded ops a.tmps) = true then Oper.wp P o a w K' Q else K' (a.put o.dst undef) w)
    (hs : AllReadyF P md ops Q S ds fuel listed a w rs) : AllReadyF P md ops Q S ds fuel listed a w (i :: rs) := fun j hj => by
  rcases List.mem_cons.1 hj with rfl | hj
  · exact wpOp_step ho (fun K' hK => h K' (fun a w' hS hW => hK a w' ⟨hS, hW⟩))
  · exact hs j hj
theorem wpFam_ready {rs : List Nat} {fuel : Nat} {listed : Array Bool} {a : Act} {w : World} (hr : Region.ready md ops listed = rs) (hne : rs ≠ [])
    (h : AllReadyF P md ops Q S ds fuel listed a w rs) : wpFam P md ops Q S ds (fuel + 1) listed a w :=
  ⟨fun h0 => absurd (hr ▸ h0) hne, hr ▸ h⟩
end
end Go.Proofs.YtjincmagbbpooaaGreatDoor
end
