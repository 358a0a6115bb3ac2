import Derived.Test.YtghebjgkdfbmeaaGreatDoorCT
set_option linter.unusedVariables false
set_option linter.unusedSimpArgs false
namespace Go.Proofs.YtghebjgkdfbmeaaGreatDoor
open Go.RowKit

/-! ### how many nodes -/
def sizeT : Tm → Nat
  | .nil => 0
  | .node _ _ _ a b c => sizeT a + sizeT b + sizeT c + 1
def sizeM : Tm → Int → Int
  | .nil, _ => 0
  | .node _ _ _ a b c, m => if m ≤ 0 then 0 else
      1 + sizeM a (m - 1) + sizeM b (m - (1 + sizeM a (m - 1))) + sizeM c (m - (1 + sizeM a (m - 1) + sizeM b (m - (1 + sizeM a (m - 1)))))
theorem sizeM_min : ∀ (t : Tm) (m : Int), 0 ≤ m → sizeM t m = mnI (sizeT t : Int) m
  | .nil, m, h => by unfold sizeM mnI sizeT; split <;> omega
  | .node k n s a b c, m, h => by
    unfold sizeM sizeT
    by_cases hm : m ≤ 0
    · rw [if_pos hm]
      unfold mnI
      split <;> omega
    · rw [if_neg hm]
      have e1 := sizeM_min a (m - 1) (by omega)
      obtain ⟨x, hx⟩ : ∃ x, sizeM a (m - 1) = x := ⟨_, rfl⟩
      rw [hx] at e1 ⊢
      have hx1 : 0 ≤ x ∧ x ≤ m - 1 := by rw [e1]; unfold mnI; split <;> omega
      have e2 := sizeM_min b (m - (1 + x)) (by omega)
      obtain ⟨y, hy⟩ : ∃ y, sizeM b (m - (1 + x)) = y := ⟨_, rfl⟩
      rw [hy] at e2 ⊢
      have hy1 : 0 ≤ y ∧ y ≤ m - (1 + x) := by rw [e2]; unfold mnI; split <;> omega
      have e3 := sizeM_min c (m - (1 + x + y)) (by omega)
      rw [e3]
      clear hx hy e3
      unfold mnI at *
      split at e1 <;> split at e2 <;> split <;> split <;> omega
theorem sizeM_bnd (t : Tm) (m : Int) : 0 ≤ sizeM t m ∧ (sizeM t m ≤ m ∨ sizeM t m = 0) := by
  by_cases h : 0 ≤ m
  · rw [sizeM_min t m h]
    unfold mnI
    split <;> omega
  · cases t with
    | nil => exact ⟨Int.le_refl _, .inr rfl⟩
    | node k n s a b c =>
      unfold sizeM
      rw [if_pos (by omega)]
      exact ⟨Int.le_refl _, .inr rfl⟩

set_option maxHeartbeats 16000000 in
set_option maxRecDepth 100000 in
theorem size_any : ∀ (t : Tm) (p : Option Addr) (m : Int) (B : Nat) (w : World), PIn B w t p → -1000000 ≤ m → m ≤ 1000000 →
    Calls Tryz.prog 52 #[.pointer p, .int .i64 m] w (fun e w' => e = .returned (.int .i64 (sizeM t m)) ∧ w = w') := by
  intro t
  induction t with
  | nil =>
    intro p m B w hp h1 h2
    obtain rfl : p = none := hp
    go_enter Tryz.func52, Tryz.ntmps52
    go_wp2
    go_ret
    exact ⟨rfl, rfl⟩
  | node k n s a b c iha ihb ihc =>
    intro p m B w hp h1 h2
    obtain ⟨g, pa, pb, pc, rfl, -, hb, h1', h2', h3'⟩ := hp
    unfold sizeM
    by_cases hm : m ≤ 0
    · have t0 : decide (m ≤ 0) = true := decide_eq_true hm
      rw [if_pos hm]
      clear hm h1 h2 iha ihb ihc hb
      go_enter Tryz.func52, Tryz.ntmps52
      go_wp2
      go_ret
      exact ⟨rfl, rfl⟩
    · have t0 : decide (m ≤ 0) = false := decide_eq_false hm
      rw [if_neg hm]
      have x3 := hb.cell 3
      have x4 := hb.cell 4
      have x5 := hb.cell 5
      simp [tmCells] at x3 x4 x5
      have b1 := sizeM_bnd a (m - 1)
      have ca := Lib.hid (iha pa (m - 1) B w h1' (by omega) (by omega))
      generalize sizeM a (m - 1) = x at *
      have b2 := sizeM_bnd b (m - (1 + x))
      have cb := Lib.hid (ihb pb (m - (1 + x)) B w h2' (by omega) (by omega))
      generalize sizeM b (m - (1 + x)) = y at *
      have b3 := sizeM_bnd c (m - (1 + x + y))
      have cc := Lib.hid (ihc pc (m - (1 + x + y)) B w h3' (by omega) (by omega))
      generalize sizeM c (m - (1 + x + y)) = z at *
      obtain ⟨b10, b11⟩ := b1
      obtain ⟨b20, b21⟩ := b2
      obtain ⟨b30, b31⟩ := b3
      have e1 : x ≤ 1000000 := by omega
      have e2 : y ≤ 1000000 := by omega
      have e3 : z ≤ 1000000 := by omega
      clear iha ihb ihc hb b11 b21 b31 hm
      go_enter Tryz.func52, Tryz.ntmps52
      go_wp2_with (first
        | (go_at_call 52; (with_reducible refine ca.out.mono ?_); rintro e w1 ⟨rfl, rfl⟩)
        | (go_at_call 52; (with_reducible refine cb.out.mono ?_); rintro e w1 ⟨rfl, rfl⟩)
        | (go_at_call 52; (with_reducible refine cc.out.mono ?_); rintro e w1 ⟨rfl, rfl⟩))
      go_ret
      exact ⟨rfl, rfl⟩
theorem Size_any (t : Tm) (p : Option Addr) (B : Nat) (w : World) (h : PIn B w t p) :
    Calls Tryz.prog 36 #[.pointer p] w (fun e w' => e = .returned (.int .i64 (mnI (sizeT t : Int) 3001)) ∧ w = w') := by
  have c := size_any t p 3001 B w h (by omega) (by omega)
  rw [sizeM_min t 3001 (by omega)] at c
  replace c := Lib.hid c
  go_enter Tryz.func36, Tryz.ntmps36
  go_wp2_with ((go_at_call 52; (with_reducible refine c.out.mono ?_); rintro e w1 ⟨rfl, rfl⟩))
  go_ret
  exact ⟨rfl, rfl⟩
end Go.Proofs.YtghebjgkdfbmeaaGreatDoor
