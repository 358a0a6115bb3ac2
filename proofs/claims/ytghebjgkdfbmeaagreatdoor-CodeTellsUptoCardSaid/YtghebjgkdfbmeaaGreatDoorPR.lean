import Derived.Test.YtghebjgkdfbmeaaGreatDoorCB
import Derived.Test.YtghebjgkdfbmeaaGreatDoorCW
set_option linter.unusedVariables false
set_option linter.unusedSimpArgs false
namespace Go.Proofs.YtghebjgkdfbmeaaGreatDoor
open Go.RowKit

/-! ### the program's reader -/
def pCells (r : RS) : Array Value := #[.string r.s, .int .i64 (r.n : Int), errV r.e]
def PNumPost (rb : Nat) (r : RS) (w : World) (e : Ending) (w' : World) : Prop := e = .returned (.int .i64 r.num.1) ∧ Blk w' rb 50 (pCells r.num.2) ∧ Save (· = rb) w w'
def RS.name (r : RS) : ByteArray × RS := if r.e ≠ 0 then (⟨#[]⟩, r) else ((textR r.s 24).1, ⟨(textR r.s 24).2.1, r.n, (textR r.s 24).2.2⟩)
def PNamePost (rb : Nat) (r : RS) (w : World) (e : Ending) (w' : World) : Prop := e = .returned (.string r.name.1) ∧ Blk w' rb 50 (pCells r.name.2) ∧ Save (· = rb) w w'
theorem name_zero {r : RS} (h : r.e = 0) : r.name = ((textR r.s 24).1, ⟨(textR r.s 24).2.1, r.n, (textR r.s 24).2.2⟩) := by unfold RS.name; rw [if_neg (fun h' => h' h)]
theorem name_err {r : RS} (h : r.e ≠ 0) : r.name = (⟨#[]⟩, r) := by unfold RS.name; rw [if_pos h]

set_option maxHeartbeats 8000000 in
set_option maxRecDepth 100000 in
theorem pnum_any (rb : Nat) (r : RS) (w : World) (h : Blk w rb 50 (pCells r)) (hs : r.s.size ≤ 9223372036854775807) :
    Calls Tryz.prog 27 #[.pointer (some ⟨rb, 0, none⟩)] w (PNumPost rb r w) := by
  have c0 := h.cell 0
  have c2 := h.cell 2
  simp [pCells] at c0 c2
  by_cases h0 : r.e = 0
  · unfold PNumPost
    rw [num_zero h0]
    obtain ⟨s, n, e⟩ := r
    simp only at h0 hs c0 c2
    subst h0
    rw [errV_zero] at c2
    have ct := Lib.hid (Take_any s hs w)
    unfold TakePost at ct
    simp only
    generalize (numS s).1 = v at ct ⊢
    generalize dropB s (numS s).2.1 = rest at ct ⊢
    generalize (numS s).2.2 = er at ct ⊢
    have HBl := Lib.hid h
    clear h
    by_cases he : er = 0
    · subst he
      rw [errV_zero] at ct
      go_enter Tryz.func27, Tryz.ntmps27
      go_upto_region 4 with (go_at_call 44; (with_reducible refine ct.out.mono ?_); rintro e w1 ⟨rfl, m, hm⟩; have hb : Below w.heap.size w w1 := (by rw [hm]; exact below_drewN' _ _); have HB := Lib.hid hb; clear hb hm)
      have hB1 := HBl.out.below HB.out
      have x0 := hB1.cell 0
      have x2 := hB1.cell 2
      have f0 := hB1.frozen 0
      have f2 := hB1.frozen 2
      have HB1 := Lib.hid hB1
      simp [pCells, errV_zero] at x0 x2
      clear hB1 c0 c2
      go_wp2
      go_ret
      refine ⟨rfl, ?_, ((Save.of_below (F := fun k => k = rb) HB.out).setCell (.inl rfl) _).setCell (.inl rfl) _⟩
      exact (HB1.out.set_ 0 _).set_ 2 _
    · rw [errV_ne he] at ct
      have HE := Lib.hid (errV_ne he)
      clear he
      go_enter Tryz.func27, Tryz.ntmps27
      go_upto_region 4 with (go_at_call 44; (with_reducible refine ct.out.mono ?_); rintro e w1 ⟨rfl, m, hm⟩; have hb : Below w.heap.size w w1 := (by rw [hm]; exact below_drewN' _ _); have HB := Lib.hid hb; clear hb hm)
      have hB1 := HBl.out.below HB.out
      have x0 := hB1.cell 0
      have x2 := hB1.cell 2
      have f0 := hB1.frozen 0
      have f2 := hB1.frozen 2
      have HB1 := Lib.hid hB1
      simp [pCells, errV_zero] at x0 x2
      clear hB1 c0 c2
      go_wp2
      go_ret
      refine ⟨rfl, ?_, ((Save.of_below (F := fun k => k = rb) HB.out).setCell (.inl rfl) _).setCell (.inl rfl) _⟩
      show Blk _ _ _ #[_, _, errV er]
      rw [HE.out]
      exact (HB1.out.set_ 0 _).set_ 2 _
  · unfold PNumPost
    rw [num_err h0]
    rw [errV_ne h0] at c2
    have HBl := Lib.hid h
    clear h h0 hs
    go_enter Tryz.func27, Tryz.ntmps27
    go_wp2
    go_ret
    exact ⟨rfl, HBl.out, Save.refl _ _⟩
set_option maxHeartbeats 8000000 in
set_option maxRecDepth 100000 in
theorem pname_any (rb : Nat) (r : RS) (w : World) (h : Blk w rb 50 (pCells r)) (hs : r.s.size ≤ 9223372036854775807) (hg : ErrVar w) :
    Calls Tryz.prog 28 #[.pointer (some ⟨rb, 0, none⟩)] w (PNamePost rb r w) := by
  have c0 := h.cell 0
  have c2 := h.cell 2
  simp [pCells] at c0 c2
  by_cases h0 : r.e = 0
  · unfold PNamePost
    rw [name_zero h0]
    obtain ⟨s, n, e⟩ := r
    simp only at h0 hs c0 c2
    subst h0
    rw [errV_zero] at c2
    have ct := Lib.hid (TakeText_any s 24 hs w hg)
    unfold TextPost at ct
    simp only
    generalize (textR s 24).1 = v at ct ⊢
    generalize (textR s 24).2.1 = rest at ct ⊢
    generalize (textR s 24).2.2 = er at ct ⊢
    have HBl := Lib.hid h
    clear h hg
    by_cases he : er = 0
    · subst he
      rw [errV_zero] at ct
      go_enter Tryz.func28, Tryz.ntmps28
      go_upto_region 4 with (go_at_call 45; (with_reducible refine ct.out.mono ?_); rintro e w1 ⟨rfl, hb⟩; have HB := Lib.hid hb; clear hb)
      have hB1 := HBl.out.below HB.out
      have x0 := hB1.cell 0
      have x2 := hB1.cell 2
      have f0 := hB1.frozen 0
      have f2 := hB1.frozen 2
      have HB1 := Lib.hid hB1
      simp [pCells, errV_zero] at x0 x2
      clear hB1 c0 c2
      go_wp2
      go_ret
      refine ⟨rfl, ?_, ((Save.of_below (F := fun k => k = rb) HB.out).setCell (.inl rfl) _).setCell (.inl rfl) _⟩
      exact (HB1.out.set_ 0 _).set_ 2 _
    · rw [errV_ne he] at ct
      have HE := Lib.hid (errV_ne he)
      clear he
      go_enter Tryz.func28, Tryz.ntmps28
      go_upto_region 4 with (go_at_call 45; (with_reducible refine ct.out.mono ?_); rintro e w1 ⟨rfl, hb⟩; have HB := Lib.hid hb; clear hb)
      have hB1 := HBl.out.below HB.out
      have x0 := hB1.cell 0
      have x2 := hB1.cell 2
      have f0 := hB1.frozen 0
      have f2 := hB1.frozen 2
      have HB1 := Lib.hid hB1
      simp [pCells, errV_zero] at x0 x2
      clear hB1 c0 c2
      go_wp2
      go_ret
      refine ⟨rfl, ?_, ((Save.of_below (F := fun k => k = rb) HB.out).setCell (.inl rfl) _).setCell (.inl rfl) _⟩
      show Blk _ _ _ #[_, _, errV er]
      rw [HE.out]
      exact (HB1.out.set_ 0 _).set_ 2 _
  · unfold PNamePost
    rw [name_err h0]
    rw [errV_ne h0] at c2
    have HBl := Lib.hid h
    clear h h0 hs hg
    go_enter Tryz.func28, Tryz.ntmps28
    go_wp2
    go_ret
    exact ⟨rfl, HBl.out, Save.refl _ _⟩
end Go.Proofs.YtghebjgkdfbmeaaGreatDoor
