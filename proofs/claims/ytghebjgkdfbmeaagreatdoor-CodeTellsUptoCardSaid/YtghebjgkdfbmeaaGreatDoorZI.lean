import Derived.Test.YtghebjgkdfbmeaaGreatDoorZB
import Derived.Test.YtghebjgkdfbmeaaGreatDoorCL1
import Derived.Test.YtghebjgkdfbmeaaGreatDoorE2
set_option linter.unusedVariables false
set_option linter.unusedSimpArgs false
namespace Go.Proofs.YtghebjgkdfbmeaaGreatDoor
open Go.RowKit

/-! ### the document's Is -/
theorem isNil_none {B : Nat} {w : World} {t : Tm} {p : Option Addr} (h : PIn B w t p) : t.isNil = p.isNone := by
  cases p with
  | none => rw [h.nil_iff.1 rfl]; rfl
  | some a =>
    cases t with
    | nil => exact absurd (h.nil_iff.2 rfl) (by simp)
    | node => rfl
theorem good_none {B : Nat} {w : World} {t : Tm} (h : PIn B w t none) : goodT t = false := by
  rw [h.nil_iff.1 rfl]; rfl

set_option maxHeartbeats 64000000 in
set_option maxRecDepth 100000 in
theorem is6_any : ∀ (t : Tm) (p : Option Addr) (B : Nat) (w : World), PIn B w t p → t.small →
    Calls Tryz.prog 37 #[.pointer p] w (fun e w' => e = .returned (.bool (goodT t)) ∧ w = w') := by
  intro t
  induction t with
  | nil =>
    intro p B w hp _
    obtain rfl : p = none := hp
    go_enter Tryz.func37, Tryz.ntmps37
    go_wp2
    go_ret
    exact ⟨rfl, rfl⟩
  | node k n s a b c iha ihb ihc =>
    intro p B w hp hsm
    obtain ⟨g, pa, pb, pc, rfl, -, hb, h1, h2, h3⟩ := hp
    obtain ⟨hs, hsa, hsb, hsc⟩ := hsm
    have cl := Lib.hid (leaf_any g k n s pa pb pc w hb (by omega))
    have x0 := hb.cell 0
    have x3 := hb.cell 3
    have x4 := hb.cell 4
    have x5 := hb.cell 5
    simp [tmCells] at x0 x3 x4 x5
    have hg : goodT (.node k n s a b c) = (leafB k n s && partG (goodT a) 0 (partsN k) a.isNil && partG (goodT b) 1 (partsN k) b.isNil && partG (goodT c) 2 (partsN k) c.isNil) := rfl
    rw [isNil_none h1, isNil_none h2, isNil_none h3] at hg
    have ca := Lib.hid (iha pa B w h1 hsa)
    have cb := Lib.hid (ihb pb B w h2 hsb)
    have cc := Lib.hid (ihc pc B w h3 hsc)
    have ga0 : pa = none → goodT a = false := fun e => good_none (e ▸ h1)
    have gb0 : pb = none → goodT b = false := fun e => good_none (e ▸ h2)
    have gc0 : pc = none → goodT c = false := fun e => good_none (e ▸ h3)
    have cp := Lib.hid (rparts_any k w)
    cases hl : leafB k n s
    · rw [hl] at cl hg
      simp only [Bool.false_and] at hg
      rw [hg]
      clear hg ca cb cc ga0 gb0 gc0 cp h1 h2 h3 hsa hsb hsc hs hb hl iha ihb ihc
      go_enter Tryz.func37, Tryz.ntmps37
      go_wp2_with (go_at_call 31; (with_reducible refine cl.out.mono ?_); rintro e w1 ⟨rfl, rfl⟩)
      go_ret
      exact ⟨rfl, rfl⟩
    rw [hl] at cl hg
    have hN := partsN_cases k
    generalize goodT (.node k n s a b c) = v at hg
    generalize goodT a = ga at hg ca ga0
    generalize goodT b = gb at hg cb gb0
    generalize goodT c = gc at hg cc gc0
    generalize partsN k = N at hN hg cp
    clear h1 h2 h3 hsa hsb hsc hs hb hl iha ihb ihc
    rcases hN with rfl | rfl | rfl
    · have hv : v = (pa.isNone && pb.isNone && pc.isNone) := hg
      clear hg ca cb cc ga0 gb0 gc0
      cases pa <;> cases pb <;> cases pc
      all_goals
        simp only [Option.isNone, Bool.true_and, Bool.and_true, Bool.false_and, Bool.and_false] at hv
        subst hv
        go_enter Tryz.func37, Tryz.ntmps37
        go_wp2_with (first
          | (go_at_call 31; (with_reducible refine cl.out.mono ?_); rintro e w1 ⟨rfl, rfl⟩)
          | (go_at_call 32; (with_reducible refine cp.out.mono ?_); rintro e w1 ⟨rfl, rfl⟩))
        go_ret
        exact ⟨rfl, rfl⟩
    · have hv : v = (ga && gb && pc.isNone) := hg
      clear hg cc gc0
      cases pa <;> (try obtain rfl := ga0 rfl) <;> clear ga0 <;> cases pb <;> (try obtain rfl := gb0 rfl) <;> clear gb0 <;> cases pc <;> (try cases ga) <;> (try cases gb)
      all_goals
        simp only [Option.isNone, Bool.true_and, Bool.and_true, Bool.false_and, Bool.and_false] at hv
        subst hv
        go_enter Tryz.func37, Tryz.ntmps37
        go_wp2_with (first
          | (go_at_call 31; (with_reducible refine cl.out.mono ?_); rintro e w1 ⟨rfl, rfl⟩)
          | (go_at_call 32; (with_reducible refine cp.out.mono ?_); rintro e w1 ⟨rfl, rfl⟩)
          | (go_at_call 37; (with_reducible refine ca.out.mono ?_); rintro e w1 ⟨rfl, rfl⟩)
          | (go_at_call 37; (with_reducible refine cb.out.mono ?_); rintro e w1 ⟨rfl, rfl⟩))
        go_ret
        exact ⟨rfl, rfl⟩
    · have hv : v = (ga && gb && gc) := hg
      clear hg
      cases pa <;> (try obtain rfl := ga0 rfl) <;> clear ga0 <;> cases pb <;> (try obtain rfl := gb0 rfl) <;> clear gb0 <;> cases pc <;> (try obtain rfl := gc0 rfl) <;> clear gc0 <;> (try cases ga) <;> (try cases gb) <;> (try cases gc)
      all_goals
        simp only [Bool.true_and, Bool.and_true, Bool.false_and, Bool.and_false] at hv
        subst hv
        go_enter Tryz.func37, Tryz.ntmps37
        go_wp2_with (first
          | (go_at_call 31; (with_reducible refine cl.out.mono ?_); rintro e w1 ⟨rfl, rfl⟩)
          | (go_at_call 32; (with_reducible refine cp.out.mono ?_); rintro e w1 ⟨rfl, rfl⟩)
          | (go_at_call 37; (with_reducible refine ca.out.mono ?_); rintro e w1 ⟨rfl, rfl⟩)
          | (go_at_call 37; (with_reducible refine cb.out.mono ?_); rintro e w1 ⟨rfl, rfl⟩)
          | (go_at_call 37; (with_reducible refine cc.out.mono ?_); rintro e w1 ⟨rfl, rfl⟩))
        go_ret
        exact ⟨rfl, rfl⟩

theorem mn_le {z : Nat} : mnI (z : Int) 3001 ≤ 3000 ↔ z ≤ 3000 := by unfold mnI; split <;> omega
set_option maxHeartbeats 8000000 in
/-- vademecumref6.Bytes answers just as the program's. -/
theorem rBytes_any (t : Tm) (p : Option Addr) (B : Nat) (w : World) (hp : PIn B w t p) (hs : t.small) :
    Calls Tryz.prog 9 #[.pointer p] w (fun e w' => e = .returned (.string (if (allF t 3000).1 = true then bytesT t else ⟨#[]⟩)) ∧ Below w.heap.size w w') := by
  have hI : Calls Tryz.prog 22 #[.pointer p] w (fun e w' => e = .returned (.bool (allF t 3000).1) ∧ w = w') := by
    have cs := Lib.hid (Size_any t p B w hp)
    have ci := Lib.hid (is6_any t p B w hp hs)
    have hiff := (allF_spec t 3000).1
    obtain ⟨x, hx⟩ : ∃ x, mnI (sizeT t : Int) 3001 = x := ⟨_, rfl⟩
    have hxl : x ≤ 3000 ↔ sizeT t ≤ 3000 := by rw [← hx]; exact mn_le
    rw [hx] at cs
    clear hx hp hs
    generalize goodT t = gd at ci hiff
    generalize (allF t 3000).1 = v at hiff ⊢
    by_cases hle : x ≤ 3000
    · have t1 : decide (x ≤ 3000) = true := decide_eq_true hle
      have hv : v = gd := by
        have := hxl.1 hle
        cases v <;> cases gd <;> simp_all
      subst hv
      clear hle hxl hiff
      go_enter Tryz.func22, Tryz.ntmps22
      go_wp2_with (first
        | (go_at_call 36; (with_reducible refine cs.out.mono ?_); rintro e w1 ⟨rfl, rfl⟩)
        | (go_at_call 37; (with_reducible refine ci.out.mono ?_); rintro e w1 ⟨rfl, rfl⟩))
      go_ret
      exact ⟨rfl, rfl⟩
    · have t1 : decide (x ≤ 3000) = false := decide_eq_false hle
      have hv : v = false := by
        cases v
        · rfl
        · exact absurd (hxl.2 (hiff.1 rfl).2) hle
      subst hv
      clear hle hxl hiff
      go_enter Tryz.func22, Tryz.ntmps22
      go_wp2_with (first
        | (go_at_call 36; (with_reducible refine cs.out.mono ?_); rintro e w1 ⟨rfl, rfl⟩))
      go_ret
      exact ⟨rfl, rfl⟩
  have ci := Lib.hid hI
  clear hI
  have hok := (allF_spec t 3000).1
  cases h : (allF t 3000).1
  · rw [h] at ci
    rw [if_neg (by decide)]
    clear hp hs h hok
    go_enter Tryz.func9, Tryz.ntmps9
    go_wp2_with (go_at_call 22; (with_reducible refine ci.out.mono ?_); rintro e w2 ⟨rfl, rfl⟩)
    go_ret
    exact ⟨rfl, Below.refl _ _⟩
  · rw [h] at ci
    rw [if_pos rfl]
    obtain ⟨h1, h2⟩ := hok.1 h
    have cb := Lib.hid (rbytes_any t p B w hp (good_ok t h1).1 (by omega))
    clear hp hs h h1 h2 hok
    go_enter Tryz.func9, Tryz.ntmps9
    go_wp2_with (first
      | (go_at_call 22; (with_reducible refine ci.out.mono ?_); rintro e w2 ⟨rfl, rfl⟩)
      | (go_at_call 23; (with_reducible refine cb.out.mono ?_); rintro e w3 ⟨rfl, hb⟩; have HB2 := Lib.hid hb; clear hb))
    go_ret
    exact ⟨rfl, HB2.out⟩

/-! ### the error's number -/
theorem num8_any (c : Int) (w : World) (hg : ErrVar w) : Calls Tryz.prog 11 #[errV c] w fun e w' => e = .returned (.int .i64 c) ∧ Below w.heap.size w w' := by
  by_cases h0 : c = 0
  · subst h0
    rw [errV_zero]
    go_enter Tryz.func11, Tryz.ntmps11
    go_wp2
    go_ret
    exact ⟨rfl, (Below.refl _ _).alloc (Nat.le_refl _) _⟩
  · rw [errV_ne h0]
    have hg1 : ErrVar (w.alloc (.cells #[.int .i64 0] 40)) := ErrVar.below (w := w) hg ((Below.refl _ _).alloc (Nat.le_refl _) _)
    replace hg1 := Lib.hid hg1
    clear hg h0
    go_enter Tryz.func11, Tryz.ntmps11
    go_wp2_with ((go_at_call 24; refine (as_hit ⟨w.heap.size, 0, none⟩ c (.int .i64 0) _ hg1.out (new_cell w _ _ 0) (new_frozen w _ _ 0)).mono ?_; rintro e w2 ⟨rfl, w1, hb, rfl, ⟨old, ho⟩, hl⟩; have hcell : (w1.setCell ⟨w.heap.size, 0, none⟩ (.int .i64 c)).cell? ⟨w.heap.size, 0, none⟩ = some (.int .i64 c) := World.cell?_setCell_same' _ _ _ (by rw [ho]; rfl); have hb1 := Lib.hid hb; clear hb ho))
    go_ret
    refine ⟨rfl, ?_⟩
    exact (((Below.refl _ _).alloc (Nat.le_refl _) _).trans (hb1.out.mono (by simp))).setCell (Nat.le_refl _) _
end Go.Proofs.YtghebjgkdfbmeaaGreatDoor
