-- PRINTED BY print.sh 35421559b90ae4d0a3588c463048766b98c2df88dd9212a6774a882060cdf62d: not written by this session
import Derived.Test.YtlmkcdebchahpaaDoorPLexTellsx0
import Derived.Test.YtlmkcdebchahpaaDoorPLexTellsx2
namespace Go.Proofs.YtlmkcdebchahpaaDoor.PLexTells
open Go.RowKit Go.Proofs.YtlmkcdebchahpaaDoorW.PrintWords Go.Proofs.YtlmkcdebchahpaaDoorW.PrintLast Go.Proofs.YtlmkcdebchahpaaDoorW.PrintMore
attribute [local go_sem] max2_int min2_int max_two min_two max_three min_three max_four min_four   -- for this text's walks alone
set_option linter.unusedVariables false
set_option linter.unusedSimpArgs false

/-! ### vademecumref9_Words: function 11 -/
mutual
def vademecumref9_Words.l0 : Nat → ByteArray → List ByteArray → Int → Option (List ByteArray × Int)
  | 0, _, _, _ => none
  | k + 1, x0, x4, x5 => if x5 < (x0.size : Int) then (if 0 ≤ x5 then (if (bt x0 x5) = 32 then (vademecumref9_Words.j1 k x0 x4 x5 true) else (if (bt x0 x5) = 9 then (vademecumref9_Words.j1 k x0 x4 x5 true) else (if (bt x0 x5) = 10 then (vademecumref9_Words.j1 k x0 x4 x5 true) else (vademecumref9_Words.j1 k x0 x4 x5 ((bt x0 x5) == 13))))) else (none)) else (some (x4, 0))
def vademecumref9_Words.j1 : Nat → ByteArray → List ByteArray → Int → Bool → Option (List ByteArray × Int)
  | 0, _, _, _, _ => none
  | k + 1, x0, x4, x5, x35 => if x35 = true then (vademecumref9_Words.l0 k x0 x4 (wrap64 (x5 + 1))) else (vademecumref9_Words.l1 k x0 x4 x5 x5)
def vademecumref9_Words.j3 : Nat → ByteArray → List ByteArray → Int → Int → Option (List ByteArray × Int)
  | 0, _, _, _, _ => none
  | k + 1, x0, x4, x5, x6 => if x6 = x5 then (if 0 ≤ x5 then (if x5 ≤ (x0.size : Int) then ((vademecumref9_symbol.f k (x0.extract (x5 : Int).toNat x0.size)).bind fun t115 => (if (wrap64 (x5 + t115)) = x5 then (some (([] : List ByteArray), 10)) else (if x5 ≤ (wrap64 (x5 + t115)) then (if (wrap64 (x5 + t115)) ≤ (x0.size : Int) then (if x4.length < 8796093022208 then (vademecumref9_Words.l0 k x0 (x4 ++ [x0.extract (x5 : Int).toNat ((wrap64 (x5 + t115)) : Int).toNat]) (wrap64 (x5 + t115))) else (none)) else (none)) else (none)))) else (none)) else (none)) else (if 0 ≤ x5 then (if x5 ≤ x6 then (if x6 ≤ (x0.size : Int) then (if x4.length < 8796093022208 then (vademecumref9_Words.l0 k x0 (x4 ++ [x0.extract (x5 : Int).toNat (x6 : Int).toNat]) x6) else (none)) else (none)) else (none)) else (none))
def vademecumref9_Words.l1 : Nat → ByteArray → List ByteArray → Int → Int → Option (List ByteArray × Int)
  | 0, _, _, _, _ => none
  | k + 1, x0, x4, x5, x6 => if x6 < (x0.size : Int) then (if 0 ≤ x6 then ((vademecumref9_run.f (bt x0 x6)).bind fun t112 => (if t112 = true then (vademecumref9_Words.l1 k x0 x4 x5 (wrap64 (x6 + 1))) else (if (bt x0 x6) = 46 then (if x6 > x5 then (if 0 ≤ (wrap64 (x6 - 1)) then (if (wrap64 (x6 - 1)) < (x0.size : Int) then ((vademecumref9_run.f (bt x0 (wrap64 (x6 - 1)))).bind fun t113 => (if t113 = true then (if (wrap64 (x6 + 1)) < (x0.size : Int) then (if 0 ≤ (wrap64 (x6 + 1)) then ((vademecumref9_run.f (bt x0 (wrap64 (x6 + 1)))).bind fun t114 => (if t114 = true then (vademecumref9_Words.l1 k x0 x4 x5 (wrap64 (x6 + 1))) else (vademecumref9_Words.j3 k x0 x4 x5 x6))) else (none)) else (vademecumref9_Words.j3 k x0 x4 x5 x6)) else (vademecumref9_Words.j3 k x0 x4 x5 x6))) else (none)) else (none)) else (vademecumref9_Words.j3 k x0 x4 x5 x6)) else (vademecumref9_Words.j3 k x0 x4 x5 x6)))) else (none)) else (vademecumref9_Words.j3 k x0 x4 x5 x6)
end
def vademecumref9_Words.f (k : Nat) (a0 : ByteArray) : Option (List ByteArray × Int) := if (a0.size : Int) > 2000 then (some (([] : List ByteArray), 13)) else (vademecumref9_Words.l0 k a0 ([] : List ByteArray) 0)
theorem vademecumref9_Words.mono_l : ∀ k, (∀ y0 y1 y2, LeO (vademecumref9_Words.l0 k y0 y1 y2) (vademecumref9_Words.l0 (k + 1) y0 y1 y2)) ∧ (∀ y0 y1 y2 y3, LeO (vademecumref9_Words.j1 k y0 y1 y2 y3) (vademecumref9_Words.j1 (k + 1) y0 y1 y2 y3)) ∧ (∀ y0 y1 y2 y3, LeO (vademecumref9_Words.j3 k y0 y1 y2 y3) (vademecumref9_Words.j3 (k + 1) y0 y1 y2 y3)) ∧ (∀ y0 y1 y2 y3, LeO (vademecumref9_Words.l1 k y0 y1 y2 y3) (vademecumref9_Words.l1 (k + 1) y0 y1 y2 y3))
  | 0 => ⟨fun _ _ _ r h => by simp [vademecumref9_Words.l0] at h, fun _ _ _ _ r h => by simp [vademecumref9_Words.j1] at h, fun _ _ _ _ r h => by simp [vademecumref9_Words.j3] at h, fun _ _ _ _ r h => by simp [vademecumref9_Words.l1] at h⟩
  | k + 1 => by
    obtain ⟨ih0, ih1, ih2, ih3⟩ := vademecumref9_Words.mono_l k
    refine ⟨?_, ?_, ?_, ?_⟩
    · intro y0 y1 y2
      unfold vademecumref9_Words.l0
      repeat' first
      | (with_reducible exact ih0 _ _ _)
      | (with_reducible exact ih1 _ _ _ _)
      | (with_reducible exact ih2 _ _ _ _)
      | (with_reducible exact ih3 _ _ _ _)
      | (with_reducible exact vademecumref9_symbol.mono _ _)
      | (with_reducible exact LeO.refl _)
      | (with_reducible exact LeO.none _)
      | (with_reducible refine LeO.ite ?_ ?_)
      | (with_reducible refine LeO.bind ?_ (fun _ => ?_))
      | exact ih0 _ _ _
      | exact ih1 _ _ _ _
      | exact ih2 _ _ _ _
      | exact ih3 _ _ _ _
      | exact vademecumref9_symbol.mono _ _
      | exact LeO.none _
      | refine LeO.ite ?_ ?_
      | refine LeO.bind ?_ (fun _ => ?_)
    · intro y0 y1 y2 y3
      unfold vademecumref9_Words.j1
      repeat' first
      | (with_reducible exact ih0 _ _ _)
      | (with_reducible exact ih1 _ _ _ _)
      | (with_reducible exact ih2 _ _ _ _)
      | (with_reducible exact ih3 _ _ _ _)
      | (with_reducible exact vademecumref9_symbol.mono _ _)
      | (with_reducible exact LeO.refl _)
      | (with_reducible exact LeO.none _)
      | (with_reducible refine LeO.ite ?_ ?_)
      | (with_reducible refine LeO.bind ?_ (fun _ => ?_))
      | exact ih0 _ _ _
      | exact ih1 _ _ _ _
      | exact ih2 _ _ _ _
      | exact ih3 _ _ _ _
      | exact vademecumref9_symbol.mono _ _
      | exact LeO.none _
      | refine LeO.ite ?_ ?_
      | refine LeO.bind ?_ (fun _ => ?_)
    · intro y0 y1 y2 y3
      unfold vademecumref9_Words.j3
      repeat' first
      | (with_reducible exact ih0 _ _ _)
      | (with_reducible exact ih1 _ _ _ _)
      | (with_reducible exact ih2 _ _ _ _)
      | (with_reducible exact ih3 _ _ _ _)
      | (with_reducible exact vademecumref9_symbol.mono _ _)
      | (with_reducible exact LeO.refl _)
      | (with_reducible exact LeO.none _)
      | (with_reducible refine LeO.ite ?_ ?_)
      | (with_reducible refine LeO.bind ?_ (fun _ => ?_))
      | exact ih0 _ _ _
      | exact ih1 _ _ _ _
      | exact ih2 _ _ _ _
      | exact ih3 _ _ _ _
      | exact vademecumref9_symbol.mono _ _
      | exact LeO.none _
      | refine LeO.ite ?_ ?_
      | refine LeO.bind ?_ (fun _ => ?_)
    · intro y0 y1 y2 y3
      unfold vademecumref9_Words.l1
      repeat' first
      | (with_reducible exact ih0 _ _ _)
      | (with_reducible exact ih1 _ _ _ _)
      | (with_reducible exact ih2 _ _ _ _)
      | (with_reducible exact ih3 _ _ _ _)
      | (with_reducible exact vademecumref9_symbol.mono _ _)
      | (with_reducible exact LeO.refl _)
      | (with_reducible exact LeO.none _)
      | (with_reducible refine LeO.ite ?_ ?_)
      | (with_reducible refine LeO.bind ?_ (fun _ => ?_))
      | exact ih0 _ _ _
      | exact ih1 _ _ _ _
      | exact ih2 _ _ _ _
      | exact ih3 _ _ _ _
      | exact vademecumref9_symbol.mono _ _
      | exact LeO.none _
      | refine LeO.ite ?_ ?_
      | refine LeO.bind ?_ (fun _ => ?_)
theorem vademecumref9_Words.mono : ∀ a0 k, LeO (vademecumref9_Words.f k a0) (vademecumref9_Words.f (k + 1) a0) := by
  intro a0 k
  obtain ⟨ih0, ih1, ih2, ih3⟩ := vademecumref9_Words.mono_l k
  unfold vademecumref9_Words.f
  repeat' first
      | (with_reducible exact ih0 _ _ _)
      | (with_reducible exact ih1 _ _ _ _)
      | (with_reducible exact ih2 _ _ _ _)
      | (with_reducible exact ih3 _ _ _ _)
      | (with_reducible exact vademecumref9_symbol.mono _ _)
      | (with_reducible exact LeO.refl _)
      | (with_reducible exact LeO.none _)
      | (with_reducible refine LeO.ite ?_ ?_)
      | (with_reducible refine LeO.bind ?_ (fun _ => ?_))
      | exact ih0 _ _ _
      | exact ih1 _ _ _ _
      | exact ih2 _ _ _ _
      | exact ih3 _ _ _ _
      | exact vademecumref9_symbol.mono _ _
      | exact LeO.none _
      | refine LeO.ite ?_ ?_
      | refine LeO.bind ?_ (fun _ => ?_)
set_option maxHeartbeats 8000000 in
set_option maxRecDepth 100000 in
theorem vademecumref9_Words.calls (k : Nat) (a0 : ByteArray) (r1 : List ByteArray) (r2 : Int) (w : World) (h : vademecumref9_Words.f k a0 = some (r1, r2)) :
    Calls Tryd.prog 11 #[.string a0] w fun e w' => ∃ v0_ : Value, e = .returned (.tuple #[v0_, .int .i64 r2]) ∧ Kd.R Kd.string 9 w' w.heap.size (fun _ => True) v0_ r1 ∧ Below w.heap.size w w' := by
  have HB := Aside0.mk (Below.refl w.heap.size w)
  have H : (if (a0.size : Int) > 2000 then (some (([] : List ByteArray), 13)) else (vademecumref9_Words.l0 k a0 ([] : List ByteArray) 0)) = some (r1, r2) := h
  clear h
  by_cases c2 : (a0.size : Int) > 2000
  · rw [if_pos c2] at H
    have c2b0 : decide (2000 < (a0.size : Int)) = true := decide_eq_true c2
    have c2b1 : decide (2000 < a0.size) = true := decide_eq_true (by omega)
    clear c2
    simp only [Option.some.injEq, Prod.mk.injEq] at H
    obtain ⟨rfl, rfl⟩ := H
    go_enter Tryd.func11, Tryd.ntmps11
    go_wp2
    go_ret2
    exact ⟨_, by first | rfl | (simp [errW_none, errW_some] <;> rfl) | (simp [*, errW_none, errW_some] <;> rfl), by first | exact Kd.R_nil _ _ _ _ _ | exact Kd.N_nil _ _ _ _ _ | exact Kd.V_nil _ _ _ _ _ | exact Kd.Q_nil _ _ _ _ _ | exact Kd.S_nil _ _ _ _ _, by repeat (first | (with_reducible first | exact HB.out | apply below_alloc | apply pw_below_drewN | apply below_drew1) | exact HB.out)⟩
  · rw [if_neg c2] at H
    have c2b0 : decide (2000 < (a0.size : Int)) = false := decide_eq_false c2
    have c2b1 : decide (2000 < a0.size) = false := decide_eq_false (by omega)
    clear c2
    have H' := Aside0.mk H
    clear H
    go_enter Tryd.func11, Tryd.ntmps11
    go_wp2
    go_loopg [4, 5] k (fun kq v4 v5 w' => ∃ (x4_1 : List ByteArray) (x5_1 : Int), v5 = .int .i64 x5_1 ∧ Aside0 (vademecumref9_Words.l0 kq a0 x4_1 x5_1 = some (r1, r2)) ∧ Aside0 (kq ≤ k) ∧ Aside0 (Kd.R Kd.string 9 w' w.heap.size (fun _ => True) v4 x4_1) ∧ Aside0 (Below w.heap.size w w'))
    case atStart => exact ⟨(([] : List ByteArray)), (0), (by first | rfl | (simp; done) | (simp [*]; done)), H', ⟨Nat.le_refl _⟩, ⟨by first | exact Kd.R_nil _ _ _ _ _ | exact Kd.N_nil _ _ _ _ _ | exact Kd.V_nil _ _ _ _ _ | exact Kd.Q_nil _ _ _ _ _ | exact Kd.S_nil _ _ _ _ _⟩, ⟨by repeat (first | (with_reducible first | exact HB.out | apply below_alloc | apply pw_below_drewN | apply below_drew1) | exact HB.out)⟩⟩
    case round =>
      clear H'
      try clear c1
      try clear c2
      try clear c2b0
      try clear c2b1
      try clear p2
      obtain ⟨x4_1, x5_1, rfl, HA, HK1, HO_4, HB⟩ := hrel
      cases gk with
      | zero => exact absurd HA.out (by simp [vademecumref9_Words.l0])
      | succ k1 =>
        have H := HA.out
        clear HA
        simp only [vademecumref9_Words.l0] at H
        by_cases c3 : x5_1 < (a0.size : Int)
        · rw [if_pos c3] at H
          have c3b0 : decide (x5_1 < (a0.size : Int)) = true := decide_eq_true c3
          clear c3
          have HC4 := Aside0.mk H
          clear H
          go_upto_region 6 with (fail)
          go_cut [35] (fun v35 wc => ∃ (kq : Nat) (x35_3 : Bool), v35 = .bool x35_3 ∧ Aside0 (vademecumref9_Words.j1 kq a0 x4_1 x5_1 x35_3 = some (r1, r2)) ∧ Aside0 (kq ≤ k1) ∧ Aside0 (Kd.R Kd.string 9 wc w.heap.size (fun _ => True) u4 x4_1) ∧ Aside0 (Below w.heap.size w wc))
          case first =>
            have H := HC4.out
            clear HC4
            by_cases c5 : 0 ≤ x5_1
            · rw [if_pos c5] at H
              have c5b0 : decide (0 ≤ x5_1) = true := decide_eq_true c5
              clear c5
              (first | rw [c5b0] | (simp only [i64_w, i32_w]; rw [c5b0]) | skip)
              by_cases c7 : (bt a0 x5_1) = 32
              · rw [if_pos c7] at H
                have c7b0 : ((bt a0 x5_1) == 32) = true := beq_iff_eq.mpr c7
                have c7b1 : ((bt a0 x5_1) != 32) = false := bne_eq_false_iff_eq.mpr c7
                clear c7
                have H' := Aside0.mk H
                clear H
                have p6 : 0 ≤ (x5_1 : Int) := of_decide_eq_true (by first | (with_reducible assumption) | assumption)
                have q6 : x5_1 < (a0.size : Int) := of_decide_eq_true (by first | (with_reducible assumption) | assumption)
                have hx6 := bt_at a0 x5_1
                replace p6 := eq_true p6
                replace q6 := eq_true q6
                go_wp2
                go_meet
                case rel => exact ⟨_, (true), (by first | rfl | (simp; done) | (simp [*]; done)), H', ⟨by have := HK1.out; first | omega | exact Nat.le_refl _⟩, ⟨by (with_reducible repeat (first | apply Kd.R_alloc | apply Kd.R_drewN | apply Kd.R_drew)); exact HO_4.out⟩, ⟨by repeat (first | (with_reducible first | exact HB.out | apply below_alloc | apply pw_below_drewN | apply below_drew1) | exact HB.out)⟩⟩
              · rw [if_neg c7] at H
                have c7b0 : ((bt a0 x5_1) == 32) = false := beq_eq_false_iff_ne.mpr c7
                have c7b1 : ((bt a0 x5_1) != 32) = true := bne_iff_ne.mpr c7
                by_cases c9 : (bt a0 x5_1) = 9
                · rw [if_pos c9] at H
                  have c9b0 : ((bt a0 x5_1) == 9) = true := beq_iff_eq.mpr c9
                  have c9b1 : ((bt a0 x5_1) != 9) = false := bne_eq_false_iff_eq.mpr c9
                  clear c9
                  have H' := Aside0.mk H
                  clear H
                  have p6 : 0 ≤ (x5_1 : Int) := of_decide_eq_true (by first | (with_reducible assumption) | assumption)
                  have q6 : x5_1 < (a0.size : Int) := of_decide_eq_true (by first | (with_reducible assumption) | assumption)
                  have hx6 := bt_at a0 x5_1
                  replace p6 := eq_true p6
                  replace q6 := eq_true q6
                  have p8 : 0 ≤ (x5_1 : Int) := of_decide_eq_true (by first | (with_reducible assumption) | assumption)
                  have q8 : x5_1 < (a0.size : Int) := of_decide_eq_true (by first | (with_reducible assumption) | assumption)
                  have hx8 := bt_at a0 x5_1
                  replace p8 := eq_true p8
                  replace q8 := eq_true q8
                  go_wp2
                  go_meet
                  case rel => exact ⟨_, (true), (by first | rfl | (simp; done) | (simp [*]; done)), H', ⟨by have := HK1.out; first | omega | exact Nat.le_refl _⟩, ⟨by (with_reducible repeat (first | apply Kd.R_alloc | apply Kd.R_drewN | apply Kd.R_drew)); exact HO_4.out⟩, ⟨by repeat (first | (with_reducible first | exact HB.out | apply below_alloc | apply pw_below_drewN | apply below_drew1) | exact HB.out)⟩⟩
                · rw [if_neg c9] at H
                  have c9b0 : ((bt a0 x5_1) == 9) = false := beq_eq_false_iff_ne.mpr c9
                  have c9b1 : ((bt a0 x5_1) != 9) = true := bne_iff_ne.mpr c9
                  by_cases c11 : (bt a0 x5_1) = 10
                  · rw [if_pos c11] at H
                    have c11b0 : ((bt a0 x5_1) == 10) = true := beq_iff_eq.mpr c11
                    have c11b1 : ((bt a0 x5_1) != 10) = false := bne_eq_false_iff_eq.mpr c11
                    clear c11
                    have H' := Aside0.mk H
                    clear H
                    have p6 : 0 ≤ (x5_1 : Int) := of_decide_eq_true (by first | (with_reducible assumption) | assumption)
                    have q6 : x5_1 < (a0.size : Int) := of_decide_eq_true (by first | (with_reducible assumption) | assumption)
                    have hx6 := bt_at a0 x5_1
                    replace p6 := eq_true p6
                    replace q6 := eq_true q6
                    have p8 : 0 ≤ (x5_1 : Int) := of_decide_eq_true (by first | (with_reducible assumption) | assumption)
                    have q8 : x5_1 < (a0.size : Int) := of_decide_eq_true (by first | (with_reducible assumption) | assumption)
                    have hx8 := bt_at a0 x5_1
                    replace p8 := eq_true p8
                    replace q8 := eq_true q8
                    have p10 : 0 ≤ (x5_1 : Int) := of_decide_eq_true (by first | (with_reducible assumption) | assumption)
                    have q10 : x5_1 < (a0.size : Int) := of_decide_eq_true (by first | (with_reducible assumption) | assumption)
                    have hx10 := bt_at a0 x5_1
                    replace p10 := eq_true p10
                    replace q10 := eq_true q10
                    go_wp2
                    go_meet
                    case rel => exact ⟨_, (true), (by first | rfl | (simp; done) | (simp [*]; done)), H', ⟨by have := HK1.out; first | omega | exact Nat.le_refl _⟩, ⟨by (with_reducible repeat (first | apply Kd.R_alloc | apply Kd.R_drewN | apply Kd.R_drew)); exact HO_4.out⟩, ⟨by repeat (first | (with_reducible first | exact HB.out | apply below_alloc | apply pw_below_drewN | apply below_drew1) | exact HB.out)⟩⟩
                  · rw [if_neg c11] at H
                    have c11b0 : ((bt a0 x5_1) == 10) = false := beq_eq_false_iff_ne.mpr c11
                    have c11b1 : ((bt a0 x5_1) != 10) = true := bne_iff_ne.mpr c11
                    have H' := Aside0.mk H
                    clear H
                    have p6 : 0 ≤ (x5_1 : Int) := of_decide_eq_true (by first | (with_reducible assumption) | assumption)
                    have q6 : x5_1 < (a0.size : Int) := of_decide_eq_true (by first | (with_reducible assumption) | assumption)
                    have hx6 := bt_at a0 x5_1
                    replace p6 := eq_true p6
                    replace q6 := eq_true q6
                    have p8 : 0 ≤ (x5_1 : Int) := of_decide_eq_true (by first | (with_reducible assumption) | assumption)
                    have q8 : x5_1 < (a0.size : Int) := of_decide_eq_true (by first | (with_reducible assumption) | assumption)
                    have hx8 := bt_at a0 x5_1
                    replace p8 := eq_true p8
                    replace q8 := eq_true q8
                    have p10 : 0 ≤ (x5_1 : Int) := of_decide_eq_true (by first | (with_reducible assumption) | assumption)
                    have q10 : x5_1 < (a0.size : Int) := of_decide_eq_true (by first | (with_reducible assumption) | assumption)
                    have hx10 := bt_at a0 x5_1
                    replace p10 := eq_true p10
                    replace q10 := eq_true q10
                    have p12 : 0 ≤ (x5_1 : Int) := of_decide_eq_true (by first | (with_reducible assumption) | assumption)
                    have q12 : x5_1 < (a0.size : Int) := of_decide_eq_true (by first | (with_reducible assumption) | assumption)
                    have hx12 := bt_at a0 x5_1
                    replace p12 := eq_true p12
                    replace q12 := eq_true q12
                    go_wp2
                    go_meet
                    case rel => exact ⟨_, (((bt a0 x5_1) == 13)), (by first | rfl | (simp; done) | (simp [*]; done)), H', ⟨by have := HK1.out; first | omega | exact Nat.le_refl _⟩, ⟨by (with_reducible repeat (first | apply Kd.R_alloc | apply Kd.R_drewN | apply Kd.R_drew)); exact HO_4.out⟩, ⟨by repeat (first | (with_reducible first | exact HB.out | apply below_alloc | apply pw_below_drewN | apply below_drew1) | exact HB.out)⟩⟩
            · rw [if_neg c5] at H
              exact absurd H (by simp)
          case rest =>
            clear HC4
            try clear c1
            try clear p1
            try clear q1
            try clear hx1
            try clear c2
            try clear c2b0
            try clear c2b1
            try clear p2
            try clear c3
            try clear c3b0
            try clear c5
            try clear c5b0
            try clear p6
            try clear q6
            try clear hx6
            try clear c7
            try clear c7b0
            try clear c7b1
            try clear p8
            try clear q8
            try clear hx8
            try clear c9
            try clear c9b0
            try clear c9b1
            try clear p10
            try clear q10
            try clear hx10
            try clear c11
            try clear c11b0
            try clear c11b1
            try clear p12
            try clear q12
            try clear hx12
            try clear p10
            try clear p12
            try clear p2
            try clear p6
            try clear p8
            try clear q10
            try clear q12
            try clear q6
            try clear q8
            obtain ⟨kq, x35_3, rfl, HA, HJ3, HO_4, HB⟩ := hcut
            cases kq with
            | zero => exact absurd HA.out (by simp [vademecumref9_Words.j1])
            | succ kj3 =>
              have H := HA.out
              clear HA
              simp only [vademecumref9_Words.j1] at H
              by_cases c13 : x35_3 = true
              · subst c13
                have H1 : (vademecumref9_Words.l0 kj3 a0 x4_1 (wrap64 (x5_1 + 1))) = some (r1, r2) := by rw [if_pos rfl] at H; exact H
                clear H
                have H := H1
                clear H1
                have H' := Aside0.mk H
                clear H
                go_wp2
                go_roundg kj3
                case measure => have := HK1.out; have := HJ3.out; omega
                case rel => exact ⟨(x4_1), (wrap64 (x5_1 + 1)), (by first | rfl | (simp; done) | (simp [*]; done)), H', ⟨by have := HK1.out; have := HJ3.out; omega⟩, ⟨by (with_reducible repeat (first | apply Kd.R_alloc | apply Kd.R_drewN | apply Kd.R_drew)); exact HO_4.out⟩, ⟨by repeat (first | (with_reducible first | exact HB.out | apply below_alloc | apply pw_below_drewN | apply below_drew1) | exact HB.out)⟩⟩
              · replace c13 := Bool.eq_false_iff.mpr c13
                subst c13
                have H1 : (vademecumref9_Words.l1 kj3 a0 x4_1 x5_1 x5_1) = some (r1, r2) := by rw [if_neg (show ¬ (false = true) by decide)] at H; exact H
                clear H
                have H := H1
                clear H1
                have HC14 := Aside0.mk H
                clear H
                go_upto_block 2 with (fail)
                go_cut [6] (fun v6 wc => ∃ (kq : Nat) (x6_13 : Int), v6 = .int .i64 x6_13 ∧ Aside0 (vademecumref9_Words.j3 kq a0 x4_1 x5_1 x6_13 = some (r1, r2)) ∧ Aside0 (kq ≤ kj3) ∧ Aside0 (Kd.R Kd.string 9 wc w.heap.size (fun _ => True) u4 x4_1) ∧ Aside0 (Below w.heap.size w wc))
                case first =>
                  have H := HC14.out
                  clear HC14
                  have H' := Aside0.mk H
                  clear H
                  go_wp2
                  go_loopg [6] kj3 (fun kq v6 w' => ∃ (x6_3 : Int), v6 = .int .i64 x6_3 ∧ Aside0 (vademecumref9_Words.l1 kq a0 x4_1 x5_1 x6_3 = some (r1, r2)) ∧ Aside0 (kq ≤ kj3) ∧ Aside0 (Kd.R Kd.string 9 w' w.heap.size (fun _ => True) u4 x4_1) ∧ Aside0 (Below w.heap.size w w'))
                  case atStart => exact ⟨(x5_1), (by first | rfl | (simp; done) | (simp [*]; done)), H', ⟨Nat.le_refl _⟩, ⟨by (with_reducible repeat (first | apply Kd.R_alloc | apply Kd.R_drewN | apply Kd.R_drew)); exact HO_4.out⟩, ⟨by repeat (first | (with_reducible first | exact HB.out | apply below_alloc | apply pw_below_drewN | apply below_drew1) | exact HB.out)⟩⟩
                  case round =>
                    clear H'
                    try clear c1
                    try clear p1
                    try clear q1
                    try clear hx1
                    try clear c2
                    try clear c2b0
                    try clear c2b1
                    try clear p2
                    try clear c3
                    try clear c3b0
                    try clear c5
                    try clear c5b0
                    try clear p6
                    try clear q6
                    try clear hx6
                    try clear c7
                    try clear c7b0
                    try clear c7b1
                    try clear p8
                    try clear q8
                    try clear hx8
                    try clear c9
                    try clear c9b0
                    try clear c9b1
                    try clear p10
                    try clear q10
                    try clear hx10
                    try clear c11
                    try clear c11b0
                    try clear c11b1
                    try clear p12
                    try clear q12
                    try clear hx12
                    try clear c13
                    try clear p1
                    try clear p10
                    try clear p12
                    try clear p2
                    try clear p6
                    try clear p8
                    try clear q1
                    try clear q10
                    try clear q12
                    try clear q6
                    try clear q8
                    obtain ⟨x6_3, rfl, HA, HK3, HO_4, HB⟩ := hrel
                    cases gk with
                    | zero => exact absurd HA.out (by simp [vademecumref9_Words.l1])
                    | succ k3 =>
                      have H := HA.out
                      clear HA
                      simp only [vademecumref9_Words.l1] at H
                      by_cases c15 : x6_3 < (a0.size : Int)
                      · rw [if_pos c15] at H
                        have c15b0 : decide (x6_3 < (a0.size : Int)) = true := decide_eq_true c15
                        clear c15
                        (first | rw [c15b0] | (simp only [i64_w, i32_w]; rw [c15b0]) | skip)
                        by_cases c16 : 0 ≤ x6_3
                        · rw [if_pos c16] at H
                          have c16b0 : decide (0 ≤ x6_3) = true := decide_eq_true c16
                          clear c16
                          replace H := Option.bind_eq_some_iff.mp H
                          obtain ⟨t112, A180, H⟩ := H
                          replace H : (if t112 = true then (vademecumref9_Words.l1 k3 a0 x4_1 x5_1 (wrap64 (x6_3 + 1))) else (if (bt a0 x6_3) = 46 then (if x6_3 > x5_1 then (if 0 ≤ (wrap64 (x6_3 - 1)) then (if (wrap64 (x6_3 - 1)) < (a0.size : Int) then ((vademecumref9_run.f (bt a0 (wrap64 (x6_3 - 1)))).bind fun t113 => (if t113 = true then (if (wrap64 (x6_3 + 1)) < (a0.size : Int) then (if 0 ≤ (wrap64 (x6_3 + 1)) then ((vademecumref9_run.f (bt a0 (wrap64 (x6_3 + 1)))).bind fun t114 => (if t114 = true then (vademecumref9_Words.l1 k3 a0 x4_1 x5_1 (wrap64 (x6_3 + 1))) else (vademecumref9_Words.j3 k3 a0 x4_1 x5_1 x6_3))) else (none)) else (vademecumref9_Words.j3 k3 a0 x4_1 x5_1 x6_3)) else (vademecumref9_Words.j3 k3 a0 x4_1 x5_1 x6_3))) else (none)) else (none)) else (vademecumref9_Words.j3 k3 a0 x4_1 x5_1 x6_3)) else (vademecumref9_Words.j3 k3 a0 x4_1 x5_1 x6_3))) = some (r1, r2) := H
                          have A18 := Aside0.mk A180
                          clear A180
                          by_cases c19 : t112 = true
                          · subst c19
                            have H1 : (vademecumref9_Words.l1 k3 a0 x4_1 x5_1 (wrap64 (x6_3 + 1))) = some (r1, r2) := by rw [if_pos rfl] at H; exact H
                            clear H
                            have H := H1
                            clear H1
                            have H' := Aside0.mk H
                            clear H
                            have p17 : 0 ≤ (x6_3 : Int) := of_decide_eq_true (by first | (with_reducible assumption) | assumption)
                            have q17 : x6_3 < (a0.size : Int) := of_decide_eq_true (by first | (with_reducible assumption) | assumption)
                            have hx17 := bt_at a0 x6_3
                            replace p17 := eq_true p17
                            replace q17 := eq_true q17
                            go_wp2_with (first | (go_at_call 17; (with_reducible refine (vademecumref9_run.calls (bt a0 x6_3) true _ A18.out).mono ?_); rintro e w' ⟨rfl, ⟨nd, rfl⟩⟩))
                            go_roundg k3
                            case measure => have := HK1.out; have := HJ3.out; have := HK3.out; omega
                            case rel => exact ⟨(wrap64 (x6_3 + 1)), (by first | rfl | (simp; done) | (simp [*]; done)), H', ⟨by have := HK1.out; have := HJ3.out; have := HK3.out; omega⟩, ⟨by (with_reducible repeat (first | apply Kd.R_alloc | apply Kd.R_drewN | apply Kd.R_drew)); exact HO_4.out⟩, ⟨by repeat (first | (with_reducible first | exact HB.out | apply below_alloc | apply pw_below_drewN | apply below_drew1) | exact HB.out)⟩⟩
                          · replace c19 := Bool.eq_false_iff.mpr c19
                            subst c19
                            have H1 : (if (bt a0 x6_3) = 46 then (if x6_3 > x5_1 then (if 0 ≤ (wrap64 (x6_3 - 1)) then (if (wrap64 (x6_3 - 1)) < (a0.size : Int) then ((vademecumref9_run.f (bt a0 (wrap64 (x6_3 - 1)))).bind fun t113 => (if t113 = true then (if (wrap64 (x6_3 + 1)) < (a0.size : Int) then (if 0 ≤ (wrap64 (x6_3 + 1)) then ((vademecumref9_run.f (bt a0 (wrap64 (x6_3 + 1)))).bind fun t114 => (if t114 = true then (vademecumref9_Words.l1 k3 a0 x4_1 x5_1 (wrap64 (x6_3 + 1))) else (vademecumref9_Words.j3 k3 a0 x4_1 x5_1 x6_3))) else (none)) else (vademecumref9_Words.j3 k3 a0 x4_1 x5_1 x6_3)) else (vademecumref9_Words.j3 k3 a0 x4_1 x5_1 x6_3))) else (none)) else (none)) else (vademecumref9_Words.j3 k3 a0 x4_1 x5_1 x6_3)) else (vademecumref9_Words.j3 k3 a0 x4_1 x5_1 x6_3)) = some (r1, r2) := by rw [if_neg (show ¬ (false = true) by decide)] at H; exact H
                            clear H
                            have H := H1
                            clear H1
                            by_cases c21 : (bt a0 x6_3) = 46
                            · rw [if_pos c21] at H
                              have c21b0 : ((bt a0 x6_3) == 46) = true := beq_iff_eq.mpr c21
                              have c21b1 : ((bt a0 x6_3) != 46) = false := bne_eq_false_iff_eq.mpr c21
                              clear c21
                              by_cases c22 : x6_3 > x5_1
                              · rw [if_pos c22] at H
                                have c22b0 : decide (x5_1 < x6_3) = true := decide_eq_true c22
                                clear c22
                                obtain ⟨ji23, hji23⟩ : ∃ j_ : Int, (wrap64 (x6_3 - 1)) = j_ := ⟨_, rfl⟩
                                replace H : (if 0 ≤ (ji23) then (if (ji23) < (a0.size : Int) then ((vademecumref9_run.f (bt a0 (ji23))).bind fun t113 => (if t113 = true then (if (wrap64 (x6_3 + 1)) < (a0.size : Int) then (if 0 ≤ (wrap64 (x6_3 + 1)) then ((vademecumref9_run.f (bt a0 (wrap64 (x6_3 + 1)))).bind fun t114 => (if t114 = true then (vademecumref9_Words.l1 k3 a0 x4_1 x5_1 (wrap64 (x6_3 + 1))) else (vademecumref9_Words.j3 k3 a0 x4_1 x5_1 x6_3))) else (none)) else (vademecumref9_Words.j3 k3 a0 x4_1 x5_1 x6_3)) else (vademecumref9_Words.j3 k3 a0 x4_1 x5_1 x6_3))) else (none)) else (none)) = some (r1, r2) := by first | (rw [hji23] at H; exact H) | (simp only [hji23] at H ⊢; exact H)
                                (try rw [hji23] at A18)
                                have hji23w : (IntKind.i64.wrap (x6_3 - 1)) = ji23 := (i64_w _).trans hji23
                                by_cases c24 : 0 ≤ (ji23)
                                · rw [if_pos c24] at H
                                  have c24b0 : decide (0 ≤ (ji23)) = true := decide_eq_true c24
                                  clear c24
                                  by_cases c25 : (ji23) < (a0.size : Int)
                                  · rw [if_pos c25] at H
                                    have c25b0 : decide ((ji23) < (a0.size : Int)) = true := decide_eq_true c25
                                    clear c25
                                    replace H := Option.bind_eq_some_iff.mp H
                                    obtain ⟨t113, A270, H⟩ := H
                                    replace H : (if t113 = true then (if (wrap64 (x6_3 + 1)) < (a0.size : Int) then (if 0 ≤ (wrap64 (x6_3 + 1)) then ((vademecumref9_run.f (bt a0 (wrap64 (x6_3 + 1)))).bind fun t114 => (if t114 = true then (vademecumref9_Words.l1 k3 a0 x4_1 x5_1 (wrap64 (x6_3 + 1))) else (vademecumref9_Words.j3 k3 a0 x4_1 x5_1 x6_3))) else (none)) else (vademecumref9_Words.j3 k3 a0 x4_1 x5_1 x6_3)) else (vademecumref9_Words.j3 k3 a0 x4_1 x5_1 x6_3)) = some (r1, r2) := H
                                    have A27 := Aside0.mk A270
                                    clear A270
                                    by_cases c28 : t113 = true
                                    · subst c28
                                      have H1 : (if (wrap64 (x6_3 + 1)) < (a0.size : Int) then (if 0 ≤ (wrap64 (x6_3 + 1)) then ((vademecumref9_run.f (bt a0 (wrap64 (x6_3 + 1)))).bind fun t114 => (if t114 = true then (vademecumref9_Words.l1 k3 a0 x4_1 x5_1 (wrap64 (x6_3 + 1))) else (vademecumref9_Words.j3 k3 a0 x4_1 x5_1 x6_3))) else (none)) else (vademecumref9_Words.j3 k3 a0 x4_1 x5_1 x6_3)) = some (r1, r2) := by rw [if_pos rfl] at H; exact H
                                      clear H
                                      have H := H1
                                      clear H1
                                      by_cases c29 : (wrap64 (x6_3 + 1)) < (a0.size : Int)
                                      · rw [if_pos c29] at H
                                        have c29b0 : decide ((wrap64 (x6_3 + 1)) < (a0.size : Int)) = true := decide_eq_true c29
                                        clear c29
                                        obtain ⟨ji30, hji30⟩ : ∃ j_ : Int, (wrap64 (x6_3 + 1)) = j_ := ⟨_, rfl⟩
                                        replace H : (if 0 ≤ (ji30) then ((vademecumref9_run.f (bt a0 (ji30))).bind fun t114 => (if t114 = true then (vademecumref9_Words.l1 k3 a0 x4_1 x5_1 ji30) else (vademecumref9_Words.j3 k3 a0 x4_1 x5_1 x6_3))) else (none)) = some (r1, r2) := by first | (rw [hji30] at H; exact H) | (simp only [hji30] at H ⊢; exact H)
                                        (try rw [hji30] at c29b0)
                                        (try rw [hji30] at A18)
                                        (try rw [hji30] at A27)
                                        have hji30w : (IntKind.i64.wrap (x6_3 + 1)) = ji30 := (i64_w _).trans hji30
                                        by_cases c31 : 0 ≤ (ji30)
                                        · rw [if_pos c31] at H
                                          have c31b0 : decide (0 ≤ (ji30)) = true := decide_eq_true c31
                                          clear c31
                                          replace H := Option.bind_eq_some_iff.mp H
                                          obtain ⟨t114, A330, H⟩ := H
                                          replace H : (if t114 = true then (vademecumref9_Words.l1 k3 a0 x4_1 x5_1 ji30) else (vademecumref9_Words.j3 k3 a0 x4_1 x5_1 x6_3)) = some (r1, r2) := H
                                          have A33 := Aside0.mk A330
                                          clear A330
                                          by_cases c34 : t114 = true
                                          · subst c34
                                            have H1 : (vademecumref9_Words.l1 k3 a0 x4_1 x5_1 ji30) = some (r1, r2) := by rw [if_pos rfl] at H; exact H
                                            clear H
                                            have H := H1
                                            clear H1
                                            have H' := Aside0.mk H
                                            clear H
                                            have p17 : 0 ≤ (x6_3 : Int) := of_decide_eq_true (by first | (with_reducible assumption) | assumption)
                                            have q17 : x6_3 < (a0.size : Int) := of_decide_eq_true (by first | (with_reducible assumption) | assumption)
                                            have hx17 := bt_at a0 x6_3
                                            replace p17 := eq_true p17
                                            replace q17 := eq_true q17
                                            go_wp2_with (first | (go_at_call 17; (with_reducible refine (vademecumref9_run.calls (bt a0 x6_3) false _ A18.out).mono ?_); rintro e w' ⟨rfl, ⟨nd, rfl⟩⟩; have p20 : 0 ≤ (x6_3 : Int) := of_decide_eq_true (by first | (with_reducible assumption) | assumption); have q20 : x6_3 < (a0.size : Int) := of_decide_eq_true (by first | (with_reducible assumption) | assumption); have hx20 := bt_at a0 x6_3; replace p20 := eq_true p20; replace q20 := eq_true q20; have p26 : 0 ≤ ((ji23) : Int) := of_decide_eq_true (by first | (with_reducible assumption) | assumption); have q26 : (ji23) < (a0.size : Int) := of_decide_eq_true (by first | (with_reducible assumption) | assumption); have hx26 := bt_at a0 (ji23); replace p26 := eq_true p26; replace q26 := eq_true q26) | (go_at_call 17; (with_reducible refine (vademecumref9_run.calls (bt a0 (ji23)) true _ A27.out).mono ?_); rintro e w' ⟨rfl, ⟨nd, rfl⟩⟩; have p32 : 0 ≤ ((ji30) : Int) := of_decide_eq_true (by first | (with_reducible assumption) | assumption); have q32 : (ji30) < (a0.size : Int) := of_decide_eq_true (by first | (with_reducible assumption) | assumption); have hx32 := bt_at a0 (ji30); replace p32 := eq_true p32; replace q32 := eq_true q32) | (go_at_call 17; (with_reducible refine (vademecumref9_run.calls (bt a0 (ji30)) true _ A33.out).mono ?_); rintro e w' ⟨rfl, ⟨nd, rfl⟩⟩))
                                            go_roundg k3
                                            case measure => have := HK1.out; have := HJ3.out; have := HK3.out; omega
                                            case rel => exact ⟨(ji30), (by first | rfl | (simp; done) | (simp only [← hji30] <;> (first | rfl | simp)) | (simp [*]; done)), H', ⟨by have := HK1.out; have := HJ3.out; have := HK3.out; omega⟩, ⟨by (with_reducible repeat (first | apply Kd.R_alloc | apply Kd.R_drewN | apply Kd.R_drew)); exact HO_4.out⟩, ⟨by repeat (first | (with_reducible first | exact HB.out | apply below_alloc | apply pw_below_drewN | apply below_drew1) | exact HB.out)⟩⟩
                                          · replace c34 := Bool.eq_false_iff.mpr c34
                                            subst c34
                                            have H1 : (vademecumref9_Words.j3 k3 a0 x4_1 x5_1 x6_3) = some (r1, r2) := by rw [if_neg (show ¬ (false = true) by decide)] at H; exact H
                                            clear H
                                            have H := H1
                                            clear H1
                                            have H' := Aside0.mk H
                                            clear H
                                            have p17 : 0 ≤ (x6_3 : Int) := of_decide_eq_true (by first | (with_reducible assumption) | assumption)
                                            have q17 : x6_3 < (a0.size : Int) := of_decide_eq_true (by first | (with_reducible assumption) | assumption)
                                            have hx17 := bt_at a0 x6_3
                                            replace p17 := eq_true p17
                                            replace q17 := eq_true q17
                                            go_wp2_with (first | (go_at_call 17; (with_reducible refine (vademecumref9_run.calls (bt a0 x6_3) false _ A18.out).mono ?_); rintro e w' ⟨rfl, ⟨nd, rfl⟩⟩; have p20 : 0 ≤ (x6_3 : Int) := of_decide_eq_true (by first | (with_reducible assumption) | assumption); have q20 : x6_3 < (a0.size : Int) := of_decide_eq_true (by first | (with_reducible assumption) | assumption); have hx20 := bt_at a0 x6_3; replace p20 := eq_true p20; replace q20 := eq_true q20; have p26 : 0 ≤ ((ji23) : Int) := of_decide_eq_true (by first | (with_reducible assumption) | assumption); have q26 : (ji23) < (a0.size : Int) := of_decide_eq_true (by first | (with_reducible assumption) | assumption); have hx26 := bt_at a0 (ji23); replace p26 := eq_true p26; replace q26 := eq_true q26) | (go_at_call 17; (with_reducible refine (vademecumref9_run.calls (bt a0 (ji23)) true _ A27.out).mono ?_); rintro e w' ⟨rfl, ⟨nd, rfl⟩⟩; have p32 : 0 ≤ ((ji30) : Int) := of_decide_eq_true (by first | (with_reducible assumption) | assumption); have q32 : (ji30) < (a0.size : Int) := of_decide_eq_true (by first | (with_reducible assumption) | assumption); have hx32 := bt_at a0 (ji30); replace p32 := eq_true p32; replace q32 := eq_true q32) | (go_at_call 17; (with_reducible refine (vademecumref9_run.calls (bt a0 (ji30)) false _ A33.out).mono ?_); rintro e w' ⟨rfl, ⟨nd, rfl⟩⟩))
                                            go_meet
                                            case rel => exact ⟨_, (x6_3), (by first | rfl | (simp; done) | (simp [*]; done)), H', ⟨by have := HK1.out; have := HJ3.out; have := HK3.out; first | omega | exact Nat.le_refl _⟩, ⟨by (with_reducible repeat (first | apply Kd.R_alloc | apply Kd.R_drewN | apply Kd.R_drew)); exact HO_4.out⟩, ⟨by repeat (first | (with_reducible first | exact HB.out | apply below_alloc | apply pw_below_drewN | apply below_drew1) | exact HB.out)⟩⟩
                                        · rw [if_neg c31] at H
                                          exact absurd H (by simp)
                                      · rw [if_neg c29] at H
                                        have c29b0 : decide ((wrap64 (x6_3 + 1)) < (a0.size : Int)) = false := decide_eq_false c29
                                        clear c29
                                        have H' := Aside0.mk H
                                        clear H
                                        have p17 : 0 ≤ (x6_3 : Int) := of_decide_eq_true (by first | (with_reducible assumption) | assumption)
                                        have q17 : x6_3 < (a0.size : Int) := of_decide_eq_true (by first | (with_reducible assumption) | assumption)
                                        have hx17 := bt_at a0 x6_3
                                        replace p17 := eq_true p17
                                        replace q17 := eq_true q17
                                        go_wp2_with (first | (go_at_call 17; (with_reducible refine (vademecumref9_run.calls (bt a0 x6_3) false _ A18.out).mono ?_); rintro e w' ⟨rfl, ⟨nd, rfl⟩⟩; have p20 : 0 ≤ (x6_3 : Int) := of_decide_eq_true (by first | (with_reducible assumption) | assumption); have q20 : x6_3 < (a0.size : Int) := of_decide_eq_true (by first | (with_reducible assumption) | assumption); have hx20 := bt_at a0 x6_3; replace p20 := eq_true p20; replace q20 := eq_true q20; have p26 : 0 ≤ ((ji23) : Int) := of_decide_eq_true (by first | (with_reducible assumption) | assumption); have q26 : (ji23) < (a0.size : Int) := of_decide_eq_true (by first | (with_reducible assumption) | assumption); have hx26 := bt_at a0 (ji23); replace p26 := eq_true p26; replace q26 := eq_true q26) | (go_at_call 17; (with_reducible refine (vademecumref9_run.calls (bt a0 (ji23)) true _ A27.out).mono ?_); rintro e w' ⟨rfl, ⟨nd, rfl⟩⟩))
                                        go_meet
                                        case rel => exact ⟨_, (x6_3), (by first | rfl | (simp; done) | (simp [*]; done)), H', ⟨by have := HK1.out; have := HJ3.out; have := HK3.out; first | omega | exact Nat.le_refl _⟩, ⟨by (with_reducible repeat (first | apply Kd.R_alloc | apply Kd.R_drewN | apply Kd.R_drew)); exact HO_4.out⟩, ⟨by repeat (first | (with_reducible first | exact HB.out | apply below_alloc | apply pw_below_drewN | apply below_drew1) | exact HB.out)⟩⟩
                                    · replace c28 := Bool.eq_false_iff.mpr c28
                                      subst c28
                                      have H1 : (vademecumref9_Words.j3 k3 a0 x4_1 x5_1 x6_3) = some (r1, r2) := by rw [if_neg (show ¬ (false = true) by decide)] at H; exact H
                                      clear H
                                      have H := H1
                                      clear H1
                                      have H' := Aside0.mk H
                                      clear H
                                      have p17 : 0 ≤ (x6_3 : Int) := of_decide_eq_true (by first | (with_reducible assumption) | assumption)
                                      have q17 : x6_3 < (a0.size : Int) := of_decide_eq_true (by first | (with_reducible assumption) | assumption)
                                      have hx17 := bt_at a0 x6_3
                                      replace p17 := eq_true p17
                                      replace q17 := eq_true q17
                                      go_wp2_with (first | (go_at_call 17; (with_reducible refine (vademecumref9_run.calls (bt a0 x6_3) false _ A18.out).mono ?_); rintro e w' ⟨rfl, ⟨nd, rfl⟩⟩; have p20 : 0 ≤ (x6_3 : Int) := of_decide_eq_true (by first | (with_reducible assumption) | assumption); have q20 : x6_3 < (a0.size : Int) := of_decide_eq_true (by first | (with_reducible assumption) | assumption); have hx20 := bt_at a0 x6_3; replace p20 := eq_true p20; replace q20 := eq_true q20; have p26 : 0 ≤ ((ji23) : Int) := of_decide_eq_true (by first | (with_reducible assumption) | assumption); have q26 : (ji23) < (a0.size : Int) := of_decide_eq_true (by first | (with_reducible assumption) | assumption); have hx26 := bt_at a0 (ji23); replace p26 := eq_true p26; replace q26 := eq_true q26) | (go_at_call 17; (with_reducible refine (vademecumref9_run.calls (bt a0 (ji23)) false _ A27.out).mono ?_); rintro e w' ⟨rfl, ⟨nd, rfl⟩⟩))
                                      go_meet
                                      case rel => exact ⟨_, (x6_3), (by first | rfl | (simp; done) | (simp [*]; done)), H', ⟨by have := HK1.out; have := HJ3.out; have := HK3.out; first | omega | exact Nat.le_refl _⟩, ⟨by (with_reducible repeat (first | apply Kd.R_alloc | apply Kd.R_drewN | apply Kd.R_drew)); exact HO_4.out⟩, ⟨by repeat (first | (with_reducible first | exact HB.out | apply below_alloc | apply pw_below_drewN | apply below_drew1) | exact HB.out)⟩⟩
                                  · rw [if_neg c25] at H
                                    exact absurd H (by simp)
                                · rw [if_neg c24] at H
                                  exact absurd H (by simp)
                              · rw [if_neg c22] at H
                                have c22b0 : decide (x5_1 < x6_3) = false := decide_eq_false c22
                                clear c22
                                have H' := Aside0.mk H
                                clear H
                                have p17 : 0 ≤ (x6_3 : Int) := of_decide_eq_true (by first | (with_reducible assumption) | assumption)
                                have q17 : x6_3 < (a0.size : Int) := of_decide_eq_true (by first | (with_reducible assumption) | assumption)
                                have hx17 := bt_at a0 x6_3
                                replace p17 := eq_true p17
                                replace q17 := eq_true q17
                                go_wp2_with (first | (go_at_call 17; (with_reducible refine (vademecumref9_run.calls (bt a0 x6_3) false _ A18.out).mono ?_); rintro e w' ⟨rfl, ⟨nd, rfl⟩⟩; have p20 : 0 ≤ (x6_3 : Int) := of_decide_eq_true (by first | (with_reducible assumption) | assumption); have q20 : x6_3 < (a0.size : Int) := of_decide_eq_true (by first | (with_reducible assumption) | assumption); have hx20 := bt_at a0 x6_3; replace p20 := eq_true p20; replace q20 := eq_true q20))
                                go_meet
                                case rel => exact ⟨_, (x6_3), (by first | rfl | (simp; done) | (simp [*]; done)), H', ⟨by have := HK1.out; have := HJ3.out; have := HK3.out; first | omega | exact Nat.le_refl _⟩, ⟨by (with_reducible repeat (first | apply Kd.R_alloc | apply Kd.R_drewN | apply Kd.R_drew)); exact HO_4.out⟩, ⟨by repeat (first | (with_reducible first | exact HB.out | apply below_alloc | apply pw_below_drewN | apply below_drew1) | exact HB.out)⟩⟩
                            · rw [if_neg c21] at H
                              have c21b0 : ((bt a0 x6_3) == 46) = false := beq_eq_false_iff_ne.mpr c21
                              have c21b1 : ((bt a0 x6_3) != 46) = true := bne_iff_ne.mpr c21
                              have H' := Aside0.mk H
                              clear H
                              have p17 : 0 ≤ (x6_3 : Int) := of_decide_eq_true (by first | (with_reducible assumption) | assumption)
                              have q17 : x6_3 < (a0.size : Int) := of_decide_eq_true (by first | (with_reducible assumption) | assumption)
                              have hx17 := bt_at a0 x6_3
                              replace p17 := eq_true p17
                              replace q17 := eq_true q17
                              go_wp2_with (first | (go_at_call 17; (with_reducible refine (vademecumref9_run.calls (bt a0 x6_3) false _ A18.out).mono ?_); rintro e w' ⟨rfl, ⟨nd, rfl⟩⟩; have p20 : 0 ≤ (x6_3 : Int) := of_decide_eq_true (by first | (with_reducible assumption) | assumption); have q20 : x6_3 < (a0.size : Int) := of_decide_eq_true (by first | (with_reducible assumption) | assumption); have hx20 := bt_at a0 x6_3; replace p20 := eq_true p20; replace q20 := eq_true q20))
                              go_meet
                              case rel => exact ⟨_, (x6_3), (by first | rfl | (simp; done) | (simp [*]; done)), H', ⟨by have := HK1.out; have := HJ3.out; have := HK3.out; first | omega | exact Nat.le_refl _⟩, ⟨by (with_reducible repeat (first | apply Kd.R_alloc | apply Kd.R_drewN | apply Kd.R_drew)); exact HO_4.out⟩, ⟨by repeat (first | (with_reducible first | exact HB.out | apply below_alloc | apply pw_below_drewN | apply below_drew1) | exact HB.out)⟩⟩
                        · rw [if_neg c16] at H
                          exact absurd H (by simp)
                      · rw [if_neg c15] at H
                        have c15b0 : decide (x6_3 < (a0.size : Int)) = false := decide_eq_false c15
                        clear c15
                        (first | rw [c15b0] | (simp only [i64_w, i32_w]; rw [c15b0]) | skip)
                        have H' := Aside0.mk H
                        clear H
                        go_wp2
                        go_meet
                        case rel => exact ⟨_, (x6_3), (by first | rfl | (simp; done) | (simp [*]; done)), H', ⟨by have := HK1.out; have := HJ3.out; have := HK3.out; first | omega | exact Nat.le_refl _⟩, ⟨by (with_reducible repeat (first | apply Kd.R_alloc | apply Kd.R_drewN | apply Kd.R_drew)); exact HO_4.out⟩, ⟨by repeat (first | (with_reducible first | exact HB.out | apply below_alloc | apply pw_below_drewN | apply below_drew1) | exact HB.out)⟩⟩
                case rest =>
                  clear HC14
                  try clear c1
                  try clear p1
                  try clear q1
                  try clear hx1
                  try clear c2
                  try clear c2b0
                  try clear c2b1
                  try clear p2
                  try clear q2
                  try clear hx2
                  try clear c3
                  try clear c3b0
                  try clear p3
                  try clear q3
                  try clear hx3
                  try clear c5
                  try clear c5b0
                  try clear p6
                  try clear q6
                  try clear hx6
                  try clear c7
                  try clear c7b0
                  try clear c7b1
                  try clear p8
                  try clear q8
                  try clear hx8
                  try clear c9
                  try clear c9b0
                  try clear c9b1
                  try clear p10
                  try clear q10
                  try clear hx10
                  try clear c11
                  try clear c11b0
                  try clear c11b1
                  try clear p12
                  try clear q12
                  try clear hx12
                  try clear c13
                  try clear c15
                  try clear c15b0
                  try clear c16
                  try clear c16b0
                  try clear p17
                  try clear q17
                  try clear hx17
                  try clear c19
                  try clear p20
                  try clear q20
                  try clear hx20
                  try clear c21
                  try clear c21b0
                  try clear c21b1
                  try clear c22
                  try clear c22b0
                  try clear c24
                  try clear c24b0
                  try clear c25
                  try clear c25b0
                  try clear p26
                  try clear q26
                  try clear hx26
                  try clear c28
                  try clear c29
                  try clear c29b0
                  try clear c31
                  try clear c31b0
                  try clear p32
                  try clear q32
                  try clear hx32
                  try clear c34
                  try clear p1
                  try clear p10
                  try clear p12
                  try clear p17
                  try clear p2
                  try clear p20
                  try clear p26
                  try clear p32
                  try clear p6
                  try clear p8
                  try clear q1
                  try clear q10
                  try clear q12
                  try clear q17
                  try clear q20
                  try clear q26
                  try clear q32
                  try clear q6
                  try clear q8
                  obtain ⟨kq, x6_13, rfl, HA, HJ13, HO_4, HB⟩ := hcut
                  cases kq with
                  | zero => exact absurd HA.out (by simp [vademecumref9_Words.j3])
                  | succ kj13 =>
                    have H := HA.out
                    clear HA
                    simp only [vademecumref9_Words.j3] at H
                    by_cases c35 : x6_13 = x5_1
                    · rw [if_pos c35] at H
                      have c35b0 : (x6_13 == x5_1) = true := beq_iff_eq.mpr c35
                      have c35b1 : (x6_13 != x5_1) = false := bne_eq_false_iff_eq.mpr c35
                      clear c35
                      by_cases c36 : 0 ≤ x5_1
                      · rw [if_pos c36] at H
                        have c36b0 := eq_true c36
                        have c36b1 : decide (0 ≤ x5_1) = true := decide_eq_true c36
                        clear c36
                        by_cases c37 : x5_1 ≤ (a0.size : Int)
                        · rw [if_pos c37] at H
                          have c37b0 := eq_true c37
                          have c37b1 : decide (x5_1 ≤ (a0.size : Int)) = true := decide_eq_true c37
                          clear c37
                          replace H := Option.bind_eq_some_iff.mp H
                          obtain ⟨t115, A380, H⟩ := H
                          replace H : (if (wrap64 (x5_1 + t115)) = x5_1 then (some (([] : List ByteArray), 10)) else (if x5_1 ≤ (wrap64 (x5_1 + t115)) then (if (wrap64 (x5_1 + t115)) ≤ (a0.size : Int) then (if x4_1.length < 8796093022208 then (vademecumref9_Words.l0 kj13 a0 (x4_1 ++ [a0.extract (x5_1 : Int).toNat ((wrap64 (x5_1 + t115)) : Int).toNat]) (wrap64 (x5_1 + t115))) else (none)) else (none)) else (none))) = some (r1, r2) := H
                          have A38 := Aside0.mk A380
                          clear A380
                          by_cases c39 : (wrap64 (x5_1 + t115)) = x5_1
                          · rw [if_pos c39] at H
                            have c39b0 : ((wrap64 (x5_1 + t115)) == x5_1) = true := beq_iff_eq.mpr c39
                            have c39b1 : ((wrap64 (x5_1 + t115)) != x5_1) = false := bne_eq_false_iff_eq.mpr c39
                            clear c39
                            simp only [Option.some.injEq, Prod.mk.injEq] at H
                            obtain ⟨rfl, rfl⟩ := H
                            go_wp2_with (first | ((with_reducible refine gate_callee (f := 18) rfl ?_); refine goesL_ (some 90) rfl rfl Tryd.func18 (by kernel_rfl) rfl #[.string (a0.extract (x5_1 : Int).toNat a0.size)] rfl (by (try simp only [List.map_toArray, List.map_cons, List.map_nil]); first | done | rfl | (simp only [List.length_drop, List.length_take]; rfl)) ?_; (with_reducible refine (vademecumref9_symbol.calls kj13 (a0.extract (x5_1 : Int).toNat a0.size) t115 _ A38.out).mono ?_); rintro e w' ⟨rfl, ⟨nd, rfl⟩⟩; refine ⟨_, rfl, ?_⟩))
                            go_ret2
                            exact ⟨_, by first | rfl | (simp [errW_none, errW_some] <;> rfl) | (simp [*, errW_none, errW_some] <;> rfl), by first | exact Kd.R_nil _ _ _ _ _ | exact Kd.N_nil _ _ _ _ _ | exact Kd.V_nil _ _ _ _ _ | exact Kd.Q_nil _ _ _ _ _ | exact Kd.S_nil _ _ _ _ _, by repeat (first | (with_reducible first | exact HB.out | apply below_alloc | apply pw_below_drewN | apply below_drew1) | exact HB.out)⟩
                          · rw [if_neg c39] at H
                            have c39b0 : ((wrap64 (x5_1 + t115)) == x5_1) = false := beq_eq_false_iff_ne.mpr c39
                            have c39b1 : ((wrap64 (x5_1 + t115)) != x5_1) = true := bne_iff_ne.mpr c39
                            have c40b0 := eq_true (of_decide_eq_true (by first | (with_reducible assumption) | assumption) : 0 ≤ x5_1)
                            by_cases c41 : x5_1 ≤ (wrap64 (x5_1 + t115))
                            · rw [if_pos c41] at H
                              have c41b0 := eq_true c41
                              have c41b1 : decide (x5_1 ≤ (wrap64 (x5_1 + t115))) = true := decide_eq_true c41
                              by_cases c42 : (wrap64 (x5_1 + t115)) ≤ (a0.size : Int)
                              · rw [if_pos c42] at H
                                have c42b0 := eq_true c42
                                have c42b1 : decide ((wrap64 (x5_1 + t115)) ≤ (a0.size : Int)) = true := decide_eq_true c42
                                by_cases c43 : x4_1.length < 8796093022208
                                · rw [if_pos c43] at H
                                  have LMc43 := Aside0.mk c43
                                  clear c43
                                  obtain ⟨y116, hy116⟩ : ∃ y_ : List ByteArray, y_ = (x4_1 ++ [a0.extract (x5_1 : Int).toNat ((wrap64 (x5_1 + t115)) : Int).toNat]) := ⟨_, rfl⟩
                                  replace H : (vademecumref9_Words.l0 kj13 a0 y116 (wrap64 (x5_1 + t115))) = some (r1, r2) := by first | (rw [hy116]; with_reducible exact H) | (have H2_ := (Option.bind_some _ _).symm.trans H; rw [hy116]; with_reducible exact H2_) | (have H2_ := (Option.bind_some _ _).symm.trans H; with_reducible exact H2_) | with_reducible exact H | (rw [hy116]; exact H) | exact H
                                  have Ny116 := Aside0.mk hy116
                                  clear hy116
                                  have H' := Aside0.mk H
                                  clear H
                                  go_wp2_with (first | ((with_reducible refine gate_callee (f := 18) rfl ?_); refine goesL_ (some 90) rfl rfl Tryd.func18 (by kernel_rfl) rfl #[.string (a0.extract (x5_1 : Int).toNat a0.size)] rfl (by (try simp only [List.map_toArray, List.map_cons, List.map_nil]); first | done | rfl | (simp only [List.length_drop, List.length_take]; rfl)) ?_; (with_reducible refine (vademecumref9_symbol.calls kj13 (a0.extract (x5_1 : Int).toNat a0.size) t115 _ A38.out).mono ?_); rintro e w' ⟨rfl, ⟨nd, rfl⟩⟩; refine ⟨_, rfl, ?_⟩) | ((with_reducible refine gate_builtin (b := .append) (xs := #[.tmp 95, .tmp 100]) rfl ?_); (try (refine gate_guard (by rfl) ?_; dsimp only)); at_builtin; refine Kd.R_append Kd.string (w0 := w) w.heap.size rfl (.tmp 95) (.tmp 100) 24 9 (.string ⟨#[]⟩) 16 rfl Tryd.underlying24 info9 rfl (by decide) (by omega) u4 x4_1 (a0.extract (x5_1 : Int).toNat ((wrap64 (x5_1 + t115)) : Int).toNat) [.string (a0.extract (x5_1 : Int).toNat ((wrap64 (x5_1 + t115)) : Int).toNat)] (fun _ => True) (fun _ => False) rfl rfl ?aP (fun _ hk => hk.elim) ?aF ?aO ?aB ?aS ?aL ?_; (case aP => exact rfl); (case aB => exact (by repeat (first | (with_reducible first | exact HB.out | apply below_alloc | apply pw_below_drewN | apply below_drew1) | exact HB.out))); (case aF => exact (fun _ _ => trivial)); (case aO => exact (by (with_reducible repeat (first | apply Kd.R_alloc | apply Kd.R_drewN | apply Kd.R_drew)); exact HO_4.out)); (case aS => exact (below_size (by repeat (first | (with_reducible first | exact HB.out | apply below_alloc | apply pw_below_drewN | apply below_drew1) | exact HB.out)))); (case aL => have := LMc43.out; omega); intro v117 w44 ho hb hg hat; rw [← Ny116.out] at ho; have n0_ := Aside0.mk (hb); have n1_ := Aside0.mk (ho); clear HB; clear HO_4; have HB := n0_; have HO118 := n1_; clear n0_ n1_; clear ho hb hg hat))
                                  go_roundg kj13
                                  case measure => have := HK1.out; have := HJ3.out; have := HJ13.out; omega
                                  case rel => exact ⟨(y116), (wrap64 (x5_1 + t115)), (by first | rfl | (simp; done) | (simp [*]; done)), H', ⟨by have := HK1.out; have := HJ3.out; have := HJ13.out; omega⟩, ⟨by (with_reducible repeat (first | apply Kd.R_alloc | apply Kd.R_drewN | apply Kd.R_drew)); exact HO118.out⟩, ⟨by repeat (first | (with_reducible first | exact HB.out | apply below_alloc | apply pw_below_drewN | apply below_drew1) | exact HB.out)⟩⟩
                                · rw [if_neg c43] at H
                                  exact absurd H (by simp)
                              · rw [if_neg c42] at H
                                exact absurd H (by simp)
                            · rw [if_neg c41] at H
                              exact absurd H (by simp)
                        · rw [if_neg c37] at H
                          exact absurd H (by simp)
                      · rw [if_neg c36] at H
                        exact absurd H (by simp)
                    · rw [if_neg c35] at H
                      have c35b0 : (x6_13 == x5_1) = false := beq_eq_false_iff_ne.mpr c35
                      have c35b1 : (x6_13 != x5_1) = true := bne_iff_ne.mpr c35
                      by_cases c45 : 0 ≤ x5_1
                      · rw [if_pos c45] at H
                        have c45b0 := eq_true c45
                        have c45b1 : decide (0 ≤ x5_1) = true := decide_eq_true c45
                        clear c45
                        by_cases c46 : x5_1 ≤ x6_13
                        · rw [if_pos c46] at H
                          have c46b0 := eq_true c46
                          have c46b1 : decide (x5_1 ≤ x6_13) = true := decide_eq_true c46
                          clear c46
                          by_cases c47 : x6_13 ≤ (a0.size : Int)
                          · rw [if_pos c47] at H
                            have c47b0 := eq_true c47
                            have c47b1 : decide (x6_13 ≤ (a0.size : Int)) = true := decide_eq_true c47
                            clear c47
                            by_cases c48 : x4_1.length < 8796093022208
                            · rw [if_pos c48] at H
                              have LMc48 := Aside0.mk c48
                              clear c48
                              obtain ⟨y119, hy119⟩ : ∃ y_ : List ByteArray, y_ = (x4_1 ++ [a0.extract (x5_1 : Int).toNat (x6_13 : Int).toNat]) := ⟨_, rfl⟩
                              replace H : (vademecumref9_Words.l0 kj13 a0 y119 x6_13) = some (r1, r2) := by first | (rw [hy119]; with_reducible exact H) | (have H2_ := (Option.bind_some _ _).symm.trans H; rw [hy119]; with_reducible exact H2_) | (have H2_ := (Option.bind_some _ _).symm.trans H; with_reducible exact H2_) | with_reducible exact H | (rw [hy119]; exact H) | exact H
                              have Ny119 := Aside0.mk hy119
                              clear hy119
                              have H' := Aside0.mk H
                              clear H
                              go_wp2_with (first | ((with_reducible refine gate_builtin (b := .append) (xs := #[.tmp 95, .tmp 100]) rfl ?_); (try (refine gate_guard (by rfl) ?_; dsimp only)); at_builtin; refine Kd.R_append Kd.string (w0 := w) w.heap.size rfl (.tmp 95) (.tmp 100) 24 9 (.string ⟨#[]⟩) 16 rfl Tryd.underlying24 info9 rfl (by decide) (by omega) u4 x4_1 (a0.extract (x5_1 : Int).toNat (x6_13 : Int).toNat) [.string (a0.extract (x5_1 : Int).toNat (x6_13 : Int).toNat)] (fun _ => True) (fun _ => False) rfl rfl ?aP (fun _ hk => hk.elim) ?aF ?aO ?aB ?aS ?aL ?_; (case aP => exact rfl); (case aB => exact (by repeat (first | (with_reducible first | exact HB.out | apply below_alloc | apply pw_below_drewN | apply below_drew1) | exact HB.out))); (case aF => exact (fun _ _ => trivial)); (case aO => exact (by (with_reducible repeat (first | apply Kd.R_alloc | apply Kd.R_drewN | apply Kd.R_drew)); exact HO_4.out)); (case aS => exact (below_size (by repeat (first | (with_reducible first | exact HB.out | apply below_alloc | apply pw_below_drewN | apply below_drew1) | exact HB.out)))); (case aL => have := LMc48.out; omega); intro v120 w49 ho hb hg hat; rw [← Ny119.out] at ho; have n0_ := Aside0.mk (hb); have n1_ := Aside0.mk (ho); clear HB; clear HO_4; have HB := n0_; have HO121 := n1_; clear n0_ n1_; clear ho hb hg hat))
                              go_roundg kj13
                              case measure => have := HK1.out; have := HJ3.out; have := HJ13.out; omega
                              case rel => exact ⟨(y119), (x6_13), (by first | rfl | (simp; done) | (simp [*]; done)), H', ⟨by have := HK1.out; have := HJ3.out; have := HJ13.out; omega⟩, ⟨by (with_reducible repeat (first | apply Kd.R_alloc | apply Kd.R_drewN | apply Kd.R_drew)); exact HO121.out⟩, ⟨by repeat (first | (with_reducible first | exact HB.out | apply below_alloc | apply pw_below_drewN | apply below_drew1) | exact HB.out)⟩⟩
                            · rw [if_neg c48] at H
                              exact absurd H (by simp)
                          · rw [if_neg c47] at H
                            exact absurd H (by simp)
                        · rw [if_neg c46] at H
                          exact absurd H (by simp)
                      · rw [if_neg c45] at H
                        exact absurd H (by simp)
        · rw [if_neg c3] at H
          have c3b0 : decide (x5_1 < (a0.size : Int)) = false := decide_eq_false c3
          clear c3
          simp only [Option.some.injEq, Prod.mk.injEq] at H
          obtain ⟨rfl, rfl⟩ := H
          go_wp2
          go_ret2
          exact ⟨_, by first | rfl | (simp [errW_none, errW_some] <;> rfl) | (simp [*, errW_none, errW_some] <;> rfl), by (with_reducible repeat (first | apply Kd.R_alloc | apply Kd.R_drewN | apply Kd.R_drew)); exact HO_4.out, by repeat (first | (with_reducible first | exact HB.out | apply below_alloc | apply pw_below_drewN | apply below_drew1) | exact HB.out)⟩

-- NOT PRINTED: function 28 (reflectlite_ValueOf)

-- NOT PRINTED: function 29 (reflectlite_Value_Type)

-- NOT PRINTED: function 30 (reflectlite_Value_IsNil)

-- NOT PRINTED: function 39 (reflectlite_Value_Elem)

-- NOT PRINTED: function 40 (reflectlite_Value_Set)

-- NOT PRINTED: function 31 (errors_as)

-- NOT PRINTED: function 19 (errors_As)

-- NOT PRINTED: function 12 (vademecumlaw9_code)

-- NOT PRINTED: function 6 (vademecumlaw9_LexTells)

end Go.Proofs.YtlmkcdebchahpaaDoor.PLexTells
