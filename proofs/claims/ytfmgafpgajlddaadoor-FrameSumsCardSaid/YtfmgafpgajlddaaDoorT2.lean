import Derived.Test.YtfmgafpgajlddaaDoorT3
set_option linter.unusedVariables false
set_option linter.unusedSimpArgs false
namespace Go.Proofs.YtfmgafpgajlddaaDoor
open Go.RowKit

theorem xor8 (a b : Nat) (ha : a < 256) (hb : b < 256) : bits .xor .u8 (a : Int) (b : Int) = ((a ^^^ b : Nat) : Int) := by
  have hx : a ^^^ b < 2 ^ 8 := Nat.xor_lt_two_pow (by omega) (by omega)
  have h1 : (BitVec.ofInt 8 (a : Int)).toNat = a := by
    rw [BitVec.ofInt_natCast, BitVec.toNat_ofNat]; exact Nat.mod_eq_of_lt (by omega)
  have h2 : (BitVec.ofInt 8 (b : Int)).toNat = b := by
    rw [BitVec.ofInt_natCast, BitVec.toNat_ofNat]; exact Nat.mod_eq_of_lt (by omega)
  show IntKind.u8.wrap ((BitVec.ofInt 8 (a : Int) ^^^ BitVec.ofInt 8 (b : Int)).toNat : Int) = _
  rw [BitVec.toNat_xor, h1, h2, IntKind.wrap_u8]
  omega

set_option maxHeartbeats 8000000 in
set_option maxRecDepth 100000 in
theorem FrameSums_any (s : ByteArray) (cut by_ : Nat) (hcut : cut < 256) (hby : by_ < 256) (w : World) (hg : ErrVar w) :
    Calls Tryd.prog 9 #[.string s, .int .u8 (cut : Int), .int .u8 (by_ : Int)] w fun e w' => e = .returned (.bool true) ∧ Below w.heap.size w w' := by
  have ck := Lib.hid (known3_any w hg)
  by_cases h1 : s.size < 2
  · have t1 : decide ((s.size : Int) < 2) = true := decide_eq_true (by omega)
    have t1' : decide (s.size < 2) = true := decide_eq_true h1
    clear h1
    go_enter Tryd.func9, Tryd.ntmps9
    go_wp2_with ((go_at_call 17; with_reducible refine ck.out.mono ?_; rintro e w1 ⟨rfl, hb⟩; have HB := Lib.hid hb; clear hb))
    go_ret
    exact ⟨rfl, HB.out⟩
  by_cases h2 : 200 < s.size
  · have t1 : decide ((s.size : Int) < 2) = false := decide_eq_false (by omega)
    have t1' : decide (s.size < 2) = false := decide_eq_false h1
    have t2 : decide ((200 : Int) < (s.size : Int)) = true := decide_eq_true (by omega)
    have t2' : decide (200 < s.size) = true := decide_eq_true h2
    clear h1 h2
    go_enter Tryd.func9, Tryd.ntmps9
    go_wp2_with ((go_at_call 17; with_reducible refine ck.out.mono ?_; rintro e w1 ⟨rfl, hb⟩; have HB := Lib.hid hb; clear hb))
    go_ret
    exact ⟨rfl, HB.out⟩
  have t1 : decide ((s.size : Int) < 2) = false := decide_eq_false (by omega)
  have t1' : decide (s.size < 2) = false := decide_eq_false h1
  have t2 : decide ((200 : Int) < (s.size : Int)) = false := decide_eq_false (by omega)
  have t2' : decide (200 < s.size) = false := decide_eq_false h2
  obtain ⟨j, hj⟩ : ∃ j, cut % (s.size - 1) = j := ⟨_, rfl⟩
  have hjlt : j < s.size - 1 := by rw [← hj]; exact Nat.mod_lt _ (by omega)
  have hj1 : (cut : Int) % ((s.size : Int) - 1) = (j : Int) := by rw [← hj]; have : (s.size : Int) - 1 = ((s.size - 1 : Nat) : Int) := by omega
                                                                  rw [this]; simp
  obtain ⟨x, hx⟩ : ∃ x, x = bt s j := ⟨_, rfl⟩
  obtain ⟨y, hy⟩ : ∃ y, y = bt s (j + 1) := ⟨_, rfl⟩
  have hx256 : x < 256 := by rw [hx]; exact bt_lt s j
  obtain ⟨v, hv⟩ : ∃ v, v = x ^^^ by_ := ⟨_, rfl⟩
  have hv1 : bits .xor .u8 (x : Int) (by_ : Int) = (v : Int) := by rw [xor8 x by_ hx256 hby, hv]
  have q1 : (0 : Int) ≤ (j : Int) := by omega
  have q2 : (j : Int) < (s.size : Int) := by omega
  have hjs : j < s.size := by omega
  have hks : j + 1 < s.size := by omega
  have hw1 : IntKind.i64.wrap ((j : Int) + 1) = (j : Int) + 1 := by rw [IntKind.wrap_i64]; omega
  have q3 : (0 : Int) ≤ (j : Int) + 1 := by omega
  have q4 : (j : Int) + 1 < (s.size : Int) := by omega
  have hy256 : y < 256 := by rw [hy]; exact bt_lt s (j + 1)
  have hv256 : v < 256 := by rw [hv]; exact Nat.xor_lt_two_pow (n := 8) (by omega) (by omega)
  have hgx : s[j].toNat = x := by rw [hx]; exact bt_get s j hjs
  have hgy : s[j + 1].toNat = y := by rw [hy]; exact bt_get s (j + 1) hks
  obtain ⟨sb, hsb⟩ : ∃ z, z = strN ((bys s).set j v) := ⟨_, rfl⟩
  obtain ⟨sc, hsc⟩ : ∃ z, z = strN (((bys s).set j y).set (j + 1) x) := ⟨_, rfl⟩
  have hsplit : bys s = (bys s).take j ++ x :: y :: (bys s).drop (j + 2) := by
    have e1 := bt_bys s j hjs
    have e2 := bt_bys s (j + 1) hks
    rw [← hx] at e1
    rw [← hy] at e2
    obtain ⟨l1, f1⟩ := List.getElem?_eq_some_iff.1 e1
    obtain ⟨l2, f2⟩ := List.getElem?_eq_some_iff.1 e2
    conv => lhs; rw [← List.take_append_drop j (bys s)]
    rw [List.drop_eq_getElem_cons l1, List.drop_eq_getElem_cons l2, f1, f2]
  have hpre : ∀ z ∈ (bys s).take j, z < 256 := fun z hz => bys_lt s z (List.mem_of_mem_take hz)
  have hpost : ∀ z ∈ (bys s).drop (j + 2), z < 256 := fun z hz => bys_lt s z (List.mem_of_mem_drop hz)
  have hlj : ((bys s).take j).length = j := by rw [List.length_take, bys_length]; omega
  have es : (bys s).set j v = (bys s).take j ++ v :: y :: (bys s).drop (j + 2) := by
    conv => lhs; rw [hsplit]
    rw [List.set_append_right _ _ (by omega), hlj, Nat.sub_self, List.set_cons_zero]
  have ec : ((bys s).set j y).set (j + 1) x = (bys s).take j ++ y :: x :: (bys s).drop (j + 2) := by
    conv => lhs; rw [hsplit]
    rw [List.set_append_right _ _ (by omega), hlj, Nat.sub_self, List.set_cons_zero, List.set_append_right _ _ (by omega), hlj, show j + 1 - j = 1 by omega, List.set_cons_succ, List.set_cons_zero]
  have sums1 : sumS sb = sumS s ↔ by_ = 0 := by
    have eb : bys sb = (bys s).take j ++ v :: y :: (bys s).drop (j + 2) := by
      rw [hsb, es]
      refine bys_strN fun z hz => ?_
      rcases List.mem_append.1 hz with h | h
      · exact hpre z h
      · rcases List.mem_cons.1 h with rfl | h
        · exact hv256
        · rcases List.mem_cons.1 h with rfl | h
          · exact hy256
          · exact hpost z h
    constructor
    · intro h
      have h := sumS_eq h
      rw [eb] at h
      generalize hP : (bys s).take j = P at *
      generalize hR : (bys s).drop (j + 2) = R at *
      rw [hsplit] at h
      have hvx := sum_changed hpre (r := y :: R) (fun z hz => (List.mem_cons.1 hz).elim (fun e => by rw [e]; exact hy256) (hpost z)) hv256 hx256 (by omega) h
      rw [hv] at hvx
      have e2 : x ^^^ (x ^^^ by_) = by_ := by rw [← Nat.xor_assoc, Nat.xor_self, Nat.zero_xor]
      rw [hvx, Nat.xor_self] at e2
      exact e2.symm
    · intro h
      rw [h, Nat.xor_zero] at hv
      have : sb = s := bys_inj (by rw [eb, hv, ← hsplit])
      rw [this]
  have sums2 : sumS sc = sumS s ↔ x = y := by
    have eb : bys sc = (bys s).take j ++ y :: x :: (bys s).drop (j + 2) := by
      rw [hsc, ec]
      refine bys_strN fun z hz => ?_
      rcases List.mem_append.1 hz with h | h
      · exact hpre z h
      · rcases List.mem_cons.1 h with rfl | h
        · exact hy256
        · rcases List.mem_cons.1 h with rfl | h
          · exact hx256
          · exact hpost z h
    constructor
    · intro h
      have h := sumS_eq h
      rw [eb] at h
      generalize hP : (bys s).take j = P at *
      generalize hR : (bys s).drop (j + 2) = R at *
      rw [hsplit] at h
      exact (sum_swapped hpre hpost hy256 hx256 (by omega) h).symm
    · intro h
      subst h
      have : sc = s := bys_inj (by rw [eb, ← hsplit])
      rw [this]
  have zb : sb.size ≤ 9223372036854775807 := by rw [hsb, strN_size, List.length_set, bys_length]; omega
  have zc : sc.size ≤ 9223372036854775807 := by rw [hsc, strN_size, List.length_set, List.length_set, bys_length]; omega
  have cs0 := Lib.hid (Sum_any s (by omega))
  have cs1 := Lib.hid (Sum_any sb zb)
  have cs2 := Lib.hid (Sum_any sc zc)
  have HX := Lib.hid hx
  have HY := Lib.hid hy
  have HV := Lib.hid hv
  clear hx hy hv
  go_enter Tryd.func9, Tryd.ntmps9
  go_wp2_with (fail)
  go_at_call 17
  with_reducible refine ck.out.mono ?_
  rintro e w1 ⟨rfl, hb⟩
  have HB := Lib.hid hb
  clear hb
  obtain ⟨p1, W1, e1, b1, z1, hc1, hf1⟩ := bytes_new s w1
  obtain ⟨p2, W2, e2, b2, z2, hc2, hf2⟩ := bytes_new s W1
  have cx : W2.cell? ⟨w1.heap.size, j, none⟩ = some (.int .u8 (x : Int)) := (by rw [HX.out]; exact cell_keep b2 (hc1 j hjs))
  have fx : W2.frozen? ⟨w1.heap.size, j, none⟩ = false := (by rw [b2.frozen (by show w1.heap.size < _; omega)]; exact hf1 j hjs)
  have cx2 : W2.cell? ⟨w1.heap.size + 1, j, none⟩ = some (.int .u8 (x : Int)) := (by rw [HX.out, ← z1]; exact hc2 j hjs)
  have fx2 : W2.frozen? ⟨w1.heap.size + 1, j, none⟩ = false := (by rw [← z1]; exact hf2 j hjs)
  have cy2 : W2.cell? ⟨w1.heap.size + 1, j + 1, none⟩ = some (.int .u8 (y : Int)) := (by rw [HY.out, ← z1]; exact hc2 (j + 1) (by omega))
  have fy2 : W2.frozen? ⟨w1.heap.size + 1, j + 1, none⟩ = false := (by rw [← z1]; exact hf2 (j + 1) (by omega))
  have R1 : RowB W2 w1.heap.size (bys s) := (fun i x hx => by have hi := (List.getElem?_eq_some_iff.1 hx).1; rw [bys_length] at hi; have := bt_bys s i hi; rw [hx] at this; cases this; exact cell_keep b2 (hc1 i hi))
  have R2 : RowB W2 (w1.heap.size + 1) (bys s) := (fun i x hx => by have hi := (List.getElem?_eq_some_iff.1 hx).1; rw [bys_length] at hi; have := bt_bys s i hi; rw [hx] at this; cases this; rw [← z1]; exact hc2 i hi)
  replace R1 := Lib.hid R1
  replace R2 := Lib.hid R2
  replace b1 := Lib.hid b1
  replace b2 := Lib.hid b2
  replace hc1 := Lib.hid hc1
  replace hc2 := Lib.hid hc2
  replace hf1 := Lib.hid hf1
  replace hf2 := Lib.hid hf2
  go_wp2
  go_big_region
  have RB1 : RowB ((((W2.setCell ⟨w1.heap.size, j, none⟩ (.int .u8 (v : Int))).setCell ⟨w1.heap.size + 1, j, none⟩ (.int .u8 (y : Int))).setCell ⟨w1.heap.size + 1, j + 1, none⟩ (.int .u8 (x : Int))).drew) w1.heap.size ((bys s).set j v) := (((R1.out.set (j := j) (v := v) (by rw [bys_length]; omega)).other (b' := w1.heap.size + 1) (j := j) (v := .int .u8 (y : Int)) (by omega)).other (b' := w1.heap.size + 1) (j := j + 1) (v := .int .u8 (x : Int)) (by omega)).drewN 1
  have RB2 : RowB ((((W2.setCell ⟨w1.heap.size, j, none⟩ (.int .u8 (v : Int))).setCell ⟨w1.heap.size + 1, j, none⟩ (.int .u8 (y : Int))).setCell ⟨w1.heap.size + 1, j + 1, none⟩ (.int .u8 (x : Int))).drew) (w1.heap.size + 1) (((bys s).set j y).set (j + 1) x) := (((R2.out.other (b' := w1.heap.size) (j := j) (v := .int .u8 (v : Int)) (by omega)).set (j := j) (v := y) (by rw [bys_length]; omega)).set (j := j + 1) (v := x) (by rw [List.length_set, bys_length]; omega)).drewN 1
  have HB9 : Below w.heap.size w ((((W2.setCell ⟨w1.heap.size, j, none⟩ (.int .u8 (v : Int))).setCell ⟨w1.heap.size + 1, j, none⟩ (.int .u8 (y : Int))).setCell ⟨w1.heap.size + 1, j + 1, none⟩ (.int .u8 (x : Int))).drew) :=
    ((((below_step (below_step HB.out b1.out) b2.out).setCell (show w.heap.size ≤ w1.heap.size from HB.out.size) _).setCell (by have := HB.out.size; show w.heap.size ≤ w1.heap.size + 1; omega) _).setCell (by have := HB.out.size; show w.heap.size ≤ w1.heap.size + 1; omega) _).trans (below_drewN _ 1)
  generalize ((((W2.setCell ⟨w1.heap.size, j, none⟩ (.int .u8 (v : Int))).setCell ⟨w1.heap.size + 1, j, none⟩ (.int .u8 (y : Int))).setCell ⟨w1.heap.size + 1, j + 1, none⟩ (.int .u8 (x : Int))).drew) = W9 at *
  have cv1 : ∀ n, (convert 48 9 (.slice (some ⟨w1.heap.size, 0, none⟩) s.size p1)).run Tryd.prog (W9.drewN n) = .ok (.string sb) (W9.drewN n) := fun n => by
    have := (RB1.drewN n).conv (cap := p1)
    rw [List.length_set, bys_length] at this
    rw [hsb]; exact this
  have cv2 : ∀ n, (convert 48 9 (.slice (some ⟨w1.heap.size + 1, 0, none⟩) s.size p2)).run Tryd.prog (W9.drewN n) = .ok (.string sc) (W9.drewN n) := fun n => by
    have := (RB2.drewN n).conv (cap := p2)
    rw [List.length_set, List.length_set, bys_length] at this
    rw [hsc]; exact this
  clear RB1 RB2 R1 R2 b1 b2 hc1 hc2 hf1 hf2 cx fx cx2 fx2 cy2 fy2 e1 e2 hpre hpost hlj es ec hsplit
  replace hsb := Lib.hid hsb
  replace hsc := Lib.hid hsc
  replace HB9 := Lib.hid HB9
  generalize sumS sb = n1 at *
  generalize sumS sc = n2 at *
  generalize sumS s = n0 at *
  obtain ⟨B1, k1, k2⟩ : ∃ B1 : Bool, ((n1 : Int) == (n0 : Int)) = B1 ∧ ((by_ : Int) == 0) = B1 := by
    by_cases h : by_ = 0
    · exact ⟨true, by rw [sums1.2 h, beq_self_eq_true], by rw [h]; rfl⟩
    · exact ⟨false, by rw [beq_eq_false_iff_ne]; intro h'; exact h (sums1.1 (by omega)), by rw [beq_eq_false_iff_ne]; omega⟩
  obtain ⟨B2, k3, k4⟩ : ∃ B2 : Bool, ((n2 : Int) == (n0 : Int)) = B2 ∧ ((x : Int) == (y : Int)) = B2 := by
    by_cases h : x = y
    · exact ⟨true, by rw [sums2.2 h, beq_self_eq_true], by rw [h, beq_self_eq_true]⟩
    · exact ⟨false, by rw [beq_eq_false_iff_ne]; intro h'; exact h (sums2.1 (by omega)), by rw [beq_eq_false_iff_ne]; omega⟩
  clear sums1 sums2 hv1 hj
  cases B1 <;> cases B2
  all_goals
    go_wp2_with (fail)
    go_quiet (first | (go_at_call 20; with_reducible exact quiet_eq (cs1.out _)) | (go_at_call 20; with_reducible exact quiet_eq (cs2.out _)) | (go_at_call 20; with_reducible exact quiet_eq (cs0.out _)))
    go_wp2
    go_ret
    exact ⟨rfl, HB9.out.trans (below_drewN _ _)⟩
end Go.Proofs.YtfmgafpgajlddaaDoor
