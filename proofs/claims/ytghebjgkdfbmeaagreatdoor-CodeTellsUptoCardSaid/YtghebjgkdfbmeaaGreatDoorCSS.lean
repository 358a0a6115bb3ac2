import Derived.Test.YtghebjgkdfbmeaaGreatDoorCT
set_option linter.unusedVariables false
set_option linter.unusedSimpArgs false
namespace Go.Proofs.YtghebjgkdfbmeaaGreatDoor
open Go.RowKit

/-! ### whether two terms are the same -/
def sameT : Tm → Tm → Bool
  | .nil, .nil => true
  | .nil, .node .. => false
  | .node .., .nil => false
  | .node k n s a b c, .node k' n' s' a' b' c' => (k == k') && (n == n') && (s.toList == s'.toList) && sameT a a' && sameT b b' && sameT c c'
theorem sameT_iff : ∀ {t u : Tm}, sameT t u = true ↔ t = u
  | .nil, .nil => ⟨fun _ => rfl, fun _ => rfl⟩
  | .nil, .node .. => ⟨fun h => (by cases h), fun h => (by cases h)⟩
  | .node .., .nil => ⟨fun h => (by cases h), fun h => (by cases h)⟩
  | .node k n s a b c, .node k' n' s' a' b' c' => by
    unfold sameT
    simp only [Bool.and_eq_true, beq_iff_eq]
    constructor
    · rintro ⟨⟨⟨⟨⟨rfl, rfl⟩, h3⟩, h4⟩, h5⟩, h6⟩
      rw [list_injB h3, sameT_iff.1 h4, sameT_iff.1 h5, sameT_iff.1 h6]
    · intro h
      injection h with h1 h2 h3 h4 h5 h6
      subst h1 h2 h3 h4 h5 h6
      exact ⟨⟨⟨⟨⟨rfl, rfl⟩, rfl⟩, sameT_iff.2 rfl⟩, sameT_iff.2 rfl⟩, sameT_iff.2 rfl⟩
theorem quiet_is {P : Program} {f : FuncId} {args : Array Value} {w : World} {n : Nat} {v : Value} (h : Calls P f args (w.drewN n) (Quiet v (w.drewN n))) : Calls P f args (w.drewN n) fun e w'' => e = .returned v ∧ ∃ m, w'' = w.drewN m :=
  h.mono fun _ _ ⟨he, k, hk⟩ => ⟨he, n + k, by rw [hk, World.drewN_drewN]⟩
theorem sameT_rfl (t : Tm) : sameT t t = true := sameT_iff.2 rfl

set_option maxHeartbeats 16000000 in
set_option maxRecDepth 100000 in
theorem Same_any : ∀ (t u : Tm) (p q : Option Addr) (B B' : Nat) (w : World), PIn B w t p → PIn B' w u q →
    Calls Tryz.prog 10 #[.pointer p, .pointer q] w (Quiet (.bool (sameT t u)) w) := by
  intro t
  induction t with
  | nil =>
    intro u p q B B' w hp hq
    cases u with
    | nil =>
      obtain rfl : p = none := hp
      obtain rfl : q = none := hq
      go_enter Tryz.func10, Tryz.ntmps10
      go_wp2
      go_ret
      exact ⟨rfl, 0, rfl⟩
    | node k n s a b c =>
      obtain rfl : p = none := hp
      obtain ⟨g, _, _, _, rfl, -⟩ := hq
      go_enter Tryz.func10, Tryz.ntmps10
      go_wp2
      go_ret
      exact ⟨rfl, 0, rfl⟩
  | node k n s a b c iha ihb ihc =>
    intro u p q B B' w hp hq
    cases u with
    | nil =>
      obtain rfl : q = none := hq
      obtain ⟨g, _, _, _, rfl, -⟩ := hp
      go_enter Tryz.func10, Tryz.ntmps10
      go_wp2
      go_ret
      exact ⟨rfl, 0, rfl⟩
    | node k' n' s' a' b' c' =>
      obtain ⟨g, pa, pb, pc, rfl, -, hb, h1, h2, h3⟩ := hp
      obtain ⟨g', pa', pb', pc', rfl, -, hb', h1', h2', h3'⟩ := hq
      have ca := Lib.hid (fun m => iha a' pa pa' B B' (w.drewN m) (h1.drewN m) (h1'.drewN m))
      have cb := Lib.hid (fun m => ihb b' pb pb' B B' (w.drewN m) (h2.drewN m) (h2'.drewN m))
      have cc := Lib.hid (fun m => ihc c' pc pc' B B' (w.drewN m) (h3.drewN m) (h3'.drewN m))
      have x0 := hb.cell 0
      have x1 := hb.cell 1
      have x2 := hb.cell 2
      have x3 := hb.cell 3
      have x4 := hb.cell 4
      have x5 := hb.cell 5
      have y0 := hb'.cell 0
      have y1 := hb'.cell 1
      have y2 := hb'.cell 2
      have y3 := hb'.cell 3
      have y4 := hb'.cell 4
      have y5 := hb'.cell 5
      simp [tmCells] at x0 x1 x2 x3 x4 x5 y0 y1 y2 y3 y4 y5
      clear hb hb' h1 h2 h3 h1' h2' h3' iha ihb ihc
      unfold sameT
      obtain ⟨b1, e1⟩ : ∃ bb, (k == k') = bb := ⟨_, rfl⟩
      obtain ⟨b2, e2⟩ : ∃ bb, (n == n') = bb := ⟨_, rfl⟩
      obtain ⟨b3, e3⟩ : ∃ bb, (s.toList == s'.toList) = bb := ⟨_, rfl⟩
      obtain ⟨b4, e4⟩ : ∃ bb, sameT a a' = bb := ⟨_, rfl⟩
      obtain ⟨b5, e5⟩ : ∃ bb, sameT b b' = bb := ⟨_, rfl⟩
      obtain ⟨b6, e6⟩ : ∃ bb, sameT c c' = bb := ⟨_, rfl⟩
      rw [e4] at ca
      rw [e5] at cb
      rw [e6] at cc
      rw [e1, e2, e3, e4, e5, e6]
      clear e4 e5 e6
      rcases b1 with _ | _
      case' true => rcases b2 with _ | _
      case' true.true => rcases b3 with _ | _
      case' true.true.true => rcases b4 with _ | _
      case' true.true.true.true => rcases b5 with _ | _
      all_goals
        go_enter Tryz.func10, Tryz.ntmps10
        go_upto_region 3 with fail
        simp only [List.append_eq, List.cons_append, List.nil_append, List.append]
        go_quiet (first
          | (go_at_call 10; with_reducible exact (quiet_is (ca.out _)))
          | (go_at_call 10; with_reducible exact (quiet_is (cb.out _)))
          | (go_at_call 10; with_reducible exact (quiet_is (cc.out _))))
        go_wp2
        go_ret
        exact ⟨rfl, _, rfl⟩
end Go.Proofs.YtghebjgkdfbmeaaGreatDoor
