import Derived.Test.YtfmgafpgajlddaaDoorU1
import Derived.Test.YtfmgafpgajlddaaDoorT3
set_option linter.unusedVariables false
set_option linter.unusedSimpArgs false
namespace Go.Proofs.YtfmgafpgajlddaaDoor
open Go.RowKit

theorem xor8 (a b : Nat) (ha : a < 256) (hb : b < 256) : bits .xor .u8 (a : Int) (b : Int) = ((a ^^^ b : Nat) : Int) := by
  have hx : a ^^^ b < 2 ^ 8 := Nat.xor_lt_two_pow (by omega) (by omega)
  have h1 : (BitVec.ofInt 8 (a : Int)).toNat = a := by
    rw [BitVec.ofInt_natCast, BitVec.toNat_ofNat]; exact Nat.mod_eq_of_lt (by omega)
  have h2 : (BitVec.ofInt 8 (b : Int)).toNat = b := by
    rw [BitVec.ofInt_natCast, BitVec.toNat_ofNat]; exact Nat.mod_eq_of_lt (by omega)
  show IntKind.u8.wrap ((BitVec.ofInt 8 (a : Int) ^^^ BitVec.ofInt 8 (b : Int)).toNat : Int) = _
  rw [BitVec.toNat_xor, h1, h2, IntKind.wrap_u8]
  omega

/-- Four places set are a piece in the middle. -/
theorem set4 (l : List Nat) (K : Nat) (h : K + 4 ≤ l.length) (m : Nat) :
    ((((l.set K (l.getD K 0 ^^^ m % 256)).set (K + 1) (l.getD (K + 1) 0 ^^^ m / 256 % 256)).set (K + 2) (l.getD (K + 2) 0 ^^^ m / 65536 % 256)).set (K + 3) (l.getD (K + 3) 0 ^^^ m / 16777216 % 256))
      = l.take K ++ (xorL ((l.drop K).take 4) (maskL m) ++ l.drop (K + 4)) := by
  obtain ⟨p, a, b, c, d, r, rfl, hp⟩ : ∃ p a b c d r, l = p ++ a :: b :: c :: d :: r ∧ p.length = K := by
    refine ⟨l.take K, l[K], l[K + 1], l[K + 2], l[K + 3], l.drop (K + 4), ?_, by rw [List.length_take]; omega⟩
    conv => lhs; rw [← List.take_append_drop K l]
    rw [List.drop_eq_getElem_cons (by omega : K < l.length), List.drop_eq_getElem_cons (by omega : K + 1 < l.length), List.drop_eq_getElem_cons (by omega : K + 1 + 1 < l.length), List.drop_eq_getElem_cons (by omega : K + 1 + 1 + 1 < l.length)]
  subst hp
  have g : ∀ i, (p ++ a :: b :: c :: d :: r).getD (p.length + i) 0 = (a :: b :: c :: d :: r).getD i 0 := fun i => by
    rw [List.getD_eq_getElem?_getD, List.getD_eq_getElem?_getD, List.getElem?_append_right (by omega), Nat.add_sub_cancel_left]
  have s : ∀ (q : List Nat) (i x : Nat), (p ++ q).set (p.length + i) x = p ++ q.set i x := fun q i x => by
    rw [List.set_append_right _ _ (by omega), Nat.add_sub_cancel_left]
  have g0 := g 0
  have s0 := fun q => s q 0
  rw [Nat.add_zero] at g0
  simp only [Nat.add_zero] at s0
  rw [g0, g 1, g 2, g 3, s0, s, s, s, List.take_left, List.drop_left, List.drop_append, List.drop_eq_nil_of_le (by omega : p.length ≤ p.length + 4), List.nil_append, Nat.add_sub_cancel_left]
  rfl
theorem wrapS_ge (k : Nat) (s : ByteArray) : s.size + 6 ≤ (wrapS k s).size := by
  unfold wrapS textS
  have h1 := List.length_pos_iff.2 (numB_ne (strN (numB k) ++ s).size)
  have h2 := List.length_pos_iff.2 (numB_ne k)
  generalize numB (strN (numB k) ++ s).size = l at *
  rw [ByteArray.size_append, ByteArray.size_append, ByteArray.size_append, sumB_size, strN_size, strN_size]
  omega

set_option maxHeartbeats 8000000 in
set_option maxRecDepth 100000 in
theorem FrameTurned_any (s : ByteArray) (q at_ m o : Nat) (hq : q < 65536) (hat : at_ < 65536) (hm : m < 4294967296) (ho : o < 65536) (w : World) (hg : ErrVar w) :
    Calls Tryd.prog 7 #[.string s, .int .u16 (q : Int), .int .u16 (at_ : Int), .int .u32 (m : Int), .int .u16 (o : Int)] w fun e w' => e = .returned (.bool true) ∧ Below w.heap.size w w' := by
  have ck := Lib.hid (known3_any w hg)
  by_cases h1 : s.size < 6
  · have t1 : decide ((s.size : Int) < 6) = true := decide_eq_true (by omega)
    have t1' : decide (s.size < 6) = true := decide_eq_true h1
    clear h1
    go_enter Tryd.func7, Tryd.ntmps7
    go_wp2_with ((go_at_call 17; with_reducible refine ck.out.mono ?_; rintro e w1 ⟨rfl, hb⟩; have HB := Lib.hid hb; clear hb))
    go_ret
    exact ⟨rfl, HB.out⟩
  by_cases h2 : 100 < s.size
  · have t1 : decide ((s.size : Int) < 6) = false := decide_eq_false (by omega)
    have t1' : decide (s.size < 6) = false := decide_eq_false h1
    have t2 : decide ((100 : Int) < (s.size : Int)) = true := decide_eq_true (by omega)
    have t2' : decide (100 < s.size) = true := decide_eq_true h2
    clear h1 h2
    go_enter Tryd.func7, Tryd.ntmps7
    go_wp2_with ((go_at_call 17; with_reducible refine ck.out.mono ?_; rintro e w1 ⟨rfl, hb⟩; have HB := Lib.hid hb; clear hb))
    go_ret
    exact ⟨rfl, HB.out⟩
  have t1 : decide ((s.size : Int) < 6) = false := decide_eq_false (by omega)
  have t1' : decide (s.size < 6) = false := decide_eq_false h1
  have t2 : decide ((100 : Int) < (s.size : Int)) = false := decide_eq_false (by omega)
  have t2' : decide (100 < s.size) = false := decide_eq_false h2
  by_cases h3 : m = 0
  · have t3 : ((m : Int) == 0) = true := by rw [h3]; rfl
    clear h1 h2 h3
    go_enter Tryd.func7, Tryd.ntmps7
    go_wp2_with ((go_at_call 17; with_reducible refine ck.out.mono ?_; rintro e w1 ⟨rfl, hb⟩; have HB := Lib.hid hb; clear hb))
    go_ret
    exact ⟨rfl, HB.out⟩
  have t3 : ((m : Int) == 0) = false := by rw [beq_eq_false_iff_ne]; omega
  have cw := Wrap_any q s (by omega) (by omega)
  have zl := wrapS_ge q s
  have zu := wrapS_size q s (by omega) (by omega)
  obtain ⟨j, hj⟩ : ∃ j, at_ % (s.size - 4) = j := ⟨_, rfl⟩
  have hjlt : j < s.size - 4 := by rw [← hj]; exact Nat.mod_lt _ (by omega)
  have hj1 : (at_ : Int) % ((s.size : Int) - 4) = (j : Int) := by
    rw [← hj]; have : (s.size : Int) - 4 = ((s.size - 4 : Nat) : Int) := by omega
    rw [this]; simp
  have hcut := fun c hc => openR_cut q s c q (by omega) (by omega) hc
  have hturn := fun hle b hb => openR_turned q s j m hq (by omega) hle hm h3 q b hb
  have hsame := openR_same q s ByteArray.empty (by omega) (by omega)
  have hother := fun h => openR_other q s ByteArray.empty o (by omega) (by omega) h
  rw [append_empty] at hsame hother
  generalize wrapS q s = W at *
  obtain ⟨z, hz⟩ : ∃ z, W.size = z := ⟨_, rfl⟩
  rw [hz] at zl zu hturn hcut
  obtain ⟨f, hf⟩ : ∃ f, z - 4 - s.size = f := ⟨_, rfl⟩
  have hf1 : (z : Int) - 4 - (s.size : Int) = (f : Int) := by omega
  obtain ⟨K, hK⟩ : ∃ K, f + j = K := ⟨_, rfl⟩
  have hK1 : (f : Int) + (j : Int) = (K : Int) := by omega
  rw [hf, hK] at hturn
  obtain ⟨c, hc⟩ : ∃ c, at_ % z = c := ⟨_, rfl⟩
  have hclt : c < z := by rw [← hc]; exact Nat.mod_lt _ (by omega)
  have hc1 : (at_ : Int) % (z : Int) = (c : Int) := by rw [← hc]; simp
  have hKz : K + 4 ≤ z := by omega
  obtain ⟨x0, hx0⟩ : ∃ x, x = (bys W).getD K 0 := ⟨_, rfl⟩
  obtain ⟨x1, hx1⟩ : ∃ x, x = (bys W).getD (K + 1) 0 := ⟨_, rfl⟩
  obtain ⟨x2, hx2⟩ : ∃ x, x = (bys W).getD (K + 2) 0 := ⟨_, rfl⟩
  obtain ⟨x3, hx3⟩ : ∃ x, x = (bys W).getD (K + 3) 0 := ⟨_, rfl⟩
  have hgd : ∀ i, i < z → (bys W)[i]? = some ((bys W).getD i 0) ∧ (bys W).getD i 0 = bt W i := fun i hi => by
    have := bt_bys W i (by omega)
    rw [List.getD_eq_getElem?_getD, this]; exact ⟨rfl, rfl⟩
  have l0 : x0 < 256 := by rw [hx0, (hgd K (by omega)).2]; exact bt_lt _ _
  have l1 : x1 < 256 := by rw [hx1, (hgd (K + 1) (by omega)).2]; exact bt_lt _ _
  have l2 : x2 < 256 := by rw [hx2, (hgd (K + 2) (by omega)).2]; exact bt_lt _ _
  have l3 : x3 < 256 := by rw [hx3, (hgd (K + 3) (by omega)).2]; exact bt_lt _ _
  obtain ⟨v0, hv0⟩ : ∃ v, v = x0 ^^^ m % 256 := ⟨_, rfl⟩
  obtain ⟨v1, hv1⟩ : ∃ v, v = x1 ^^^ m / 256 % 256 := ⟨_, rfl⟩
  obtain ⟨v2, hv2⟩ : ∃ v, v = x2 ^^^ m / 65536 % 256 := ⟨_, rfl⟩
  obtain ⟨v3, hv3⟩ : ∃ v, v = x3 ^^^ m / 16777216 % 256 := ⟨_, rfl⟩
  have e0 : bits .xor .u8 (x0 : Int) ((m : Int) % 256) = (v0 : Int) := by
    have := xor8 x0 (m % 256) l0 (by omega); rw [← hv0] at this; exact this
  have e1 : bits .xor .u8 (x1 : Int) ((m : Int) / 256 % 256) = (v1 : Int) := by
    have := xor8 x1 (m / 256 % 256) l1 (by omega); rw [← hv1] at this; exact this
  have e2 : bits .xor .u8 (x2 : Int) ((m : Int) / 65536 % 256) = (v2 : Int) := by
    have := xor8 x2 (m / 65536 % 256) l2 (by omega); rw [← hv2] at this; exact this
  have e3 : bits .xor .u8 (x3 : Int) ((m : Int) / 16777216) = (v3 : Int) := by
    have := xor8 x3 (m / 16777216 % 256) l3 (by omega); rw [← hv3] at this
    rw [← this]; congr 1; omega
  obtain ⟨sb, hsb⟩ : ∃ z, z = strN (((((bys W).set K v0).set (K + 1) v1).set (K + 2) v2).set (K + 3) v3) := ⟨_, rfl⟩
  have hopen : openR sb q = (ByteArray.empty, sb, 12) := by
    rw [hsb]
    refine hturn (by omega) _ ?_
    rw [hv0, hv1, hv2, hv3, hx0, hx1, hx2, hx3]
    exact set4 (bys W) K (by rw [bys_length]; omega) m
  have zb : sb.size = z := by rw [hsb, strN_size, List.length_set, List.length_set, List.length_set, List.length_set, bys_length, hz]
  have co1 := Lib.hid (Open_is sb q ⟨#[]⟩ sb 12 (.iface 34 (.int .i64 12)) rfl (by omega) hopen)
  have co2 := Lib.hid (Open_is (W.extract 0 c) q ⟨#[]⟩ (W.extract 0 c) 11 (.iface 34 (.int .i64 11)) rfl (by rw [ByteArray.size_extract]; omega) (hcut c hclt))
  replace cw := Lib.hid cw
  have KB : (K : Int) + 4 ≤ (z : Int) := by omega
  have zb1 : z ≤ 120 := by omega
  have u1 : (4 : Int) + (s.size : Int) ≤ (z : Int) := by omega
  have u2 : (6 : Int) ≤ (s.size : Int) := by omega
  have u3 : (s.size : Int) ≤ 100 := by omega
  have t4 : decide ((z : Int) < (s.size : Int) + 6) = false := decide_eq_false (by omega)
  have t4' : decide (z < s.size + 6) = false := decide_eq_false (by omega)
  clear zl zu
  have HX0 := Lib.hid hx0
  have HX1 := Lib.hid hx1
  have HX2 := Lib.hid hx2
  have HX3 := Lib.hid hx3
  have HGD := Lib.hid hgd
  have HZ := Lib.hid hz
  have HSB := Lib.hid hsb
  clear hx0 hx1 hx2 hx3 hv0 hv1 hv2 hv3 hgd hsb hopen hturn hcut hj hf hK hc h1 h2 h3
  have HG := Lib.hid hg
  clear hg
  have HB := Lib.hid (Below.refl w.heap.size w)
  have HG0 := HG
  go_enter Tryd.func7, Tryd.ntmps7
  have hz := HZ.out
  go_wp2_with (first
    | (go_at_call 17; with_reducible refine ck.out.mono ?_; rintro e w1 ⟨rfl, hb⟩; replace HG := Lib.hid (HG.out.below hb); replace HB := Lib.hid (below_step HB.out hb); clear hb))
  go_at_call 22
  with_reducible refine (cw.out _).mono ?_
  rintro e w2 ⟨rfl, hb⟩
  replace HG := Lib.hid (HG.out.below hb)
  replace HB := Lib.hid (below_step HB.out hb)
  clear hb
  obtain ⟨cap, W1, ec, b1, z1, hcl, hfr⟩ := bytes_new W w2
  rw [hz] at ec
  have hx : ∀ i x, i < z → x = (bys W).getD i 0 → W1.cell? ⟨w2.heap.size, i, none⟩ = some (.int .u8 (x : Int)) := fun i x hi hx => by rw [hx, (HGD.out i hi).2]; exact hcl i (by omega)
  have c0 := hx K x0 (by omega) HX0.out
  have c1 := hx (K + 1) x1 (by omega) HX1.out
  have c2 := hx (K + 2) x2 (by omega) HX2.out
  have c3 := hx (K + 3) x3 (by omega) HX3.out
  have f0 := hfr K (by omega)
  have f1 := hfr (K + 1) (by omega)
  have f2 := hfr (K + 2) (by omega)
  have f3 := hfr (K + 3) (by omega)
  have R1 : Hid (RowB W1 w2.heap.size (bys W)) := (fun i x hx => by have hi := (List.getElem?_eq_some_iff.1 hx).1; rw [bys_length] at hi; have := bt_bys W i hi; rw [hx] at this; cases this; exact hcl i hi)
  replace HG := Lib.hid (HG.out.below b1)
  have HB1 := Lib.hid (below_step HB.out b1)
  clear hcl hfr hx b1 z1
  go_wp2_with (fail)
  refine wp_loop_rounds 5 ?_
  rw [rounds_succ]
  go_wp2
  rw [rounds_succ]
  go_wp2
  rw [rounds_succ]
  go_wp2
  rw [rounds_succ]
  go_wp2
  rw [rounds_succ]
  go_wp2_with (fail)
  have RB : RowB ((((W1.setCell ⟨w2.heap.size, K, none⟩ (.int .u8 (v0 : Int))).setCell ⟨w2.heap.size, K + 1, none⟩ (.int .u8 (v1 : Int))).setCell ⟨w2.heap.size, K + 2, none⟩ (.int .u8 (v2 : Int))).setCell ⟨w2.heap.size, K + 3, none⟩ (.int .u8 (v3 : Int))) w2.heap.size (((((bys W).set K v0).set (K + 1) v1).set (K + 2) v2).set (K + 3) v3) :=
    (((R1.out.set (j := K) (v := v0) (by rw [bys_length]; omega)).set (j := K + 1) (v := v1) (by rw [List.length_set, bys_length]; omega)).set (j := K + 2) (v := v2) (by rw [List.length_set, List.length_set, bys_length]; omega)).set (j := K + 3) (v := v3) (by rw [List.length_set, List.length_set, List.length_set, bys_length]; omega)
  have hle := HB.out.size
  have HB9 : Below w.heap.size w ((((W1.setCell ⟨w2.heap.size, K, none⟩ (.int .u8 (v0 : Int))).setCell ⟨w2.heap.size, K + 1, none⟩ (.int .u8 (v1 : Int))).setCell ⟨w2.heap.size, K + 2, none⟩ (.int .u8 (v2 : Int))).setCell ⟨w2.heap.size, K + 3, none⟩ (.int .u8 (v3 : Int))) :=
    (((HB1.out.setCell (p := ⟨w2.heap.size, K, none⟩) hle _).setCell (p := ⟨w2.heap.size, K + 1, none⟩) hle _).setCell (p := ⟨w2.heap.size, K + 2, none⟩) hle _).setCell (p := ⟨w2.heap.size, K + 3, none⟩) hle _
  have HG9 : ErrVar ((((W1.setCell ⟨w2.heap.size, K, none⟩ (.int .u8 (v0 : Int))).setCell ⟨w2.heap.size, K + 1, none⟩ (.int .u8 (v1 : Int))).setCell ⟨w2.heap.size, K + 2, none⟩ (.int .u8 (v2 : Int))).setCell ⟨w2.heap.size, K + 3, none⟩ (.int .u8 (v3 : Int))) := HG0.out.below HB9
  clear c0 c1 c2 c3 f0 f1 f2 f3 ec R1
  generalize ((((W1.setCell ⟨w2.heap.size, K, none⟩ (.int .u8 (v0 : Int))).setCell ⟨w2.heap.size, K + 1, none⟩ (.int .u8 (v1 : Int))).setCell ⟨w2.heap.size, K + 2, none⟩ (.int .u8 (v2 : Int))).setCell ⟨w2.heap.size, K + 3, none⟩ (.int .u8 (v3 : Int))) = W9 at *
  have cv : (convert 48 9 (.slice (some ⟨w2.heap.size, 0, none⟩) z cap)).run Tryd.prog W9 = .ok (.string sb) W9 := by
    have := RB.conv (cap := cap)
    simp only [List.length_set, bys_length, hz] at this
    rw [HSB.out]; exact this
  clear RB
  rw [cv]
  replace HG := Lib.hid HG9
  replace HB := Lib.hid HB9
  clear HG9 HB9 HB1 hle
  have d1 : (0 : Int) ≤ (c : Int) := by omega
  have d2 : (c : Int) ≤ (z : Int) := by omega
  by_cases ho1 : o = q
  · have co3 := Lib.hid (Open_is W o s ⟨#[]⟩ 0 .nilIface rfl (by rw [hz]; omega) (by rw [ho1]; exact hsame))
    have t5 : ((q : Int) == (o : Int)) = true := by rw [ho1, beq_self_eq_true]
    clear hsame hother ho1
    go_wp2_with (first
      | (go_at_call 18; with_reducible refine (co1.out _ HG.out).mono ?_; rintro e w1 ⟨rfl, hb⟩; replace HG := Lib.hid (HG.out.below hb); replace HB := Lib.hid (below_step HB.out hb); clear hb)
      | (go_at_call 18; with_reducible refine (co2.out _ HG.out).mono ?_; rintro e w1 ⟨rfl, hb⟩; replace HG := Lib.hid (HG.out.below hb); replace HB := Lib.hid (below_step HB.out hb); clear hb)
      | (go_at_call 18; with_reducible refine (co3.out _ HG.out).mono ?_; rintro e w1 ⟨rfl, hb⟩; replace HG := Lib.hid (HG.out.below hb); replace HB := Lib.hid (below_step HB.out hb); clear hb)
      | (go_at_call 16; with_reducible refine (is_yes 12 _).mono ?_; rintro e w1 ⟨rfl, rfl⟩)
      | (go_at_call 16; with_reducible refine (is_yes 11 _).mono ?_; rintro e w1 ⟨rfl, rfl⟩))
    go_ret
    exact ⟨rfl, HB.out⟩
  · have co3 := Lib.hid (Open_is W o ⟨#[]⟩ W 10 (.iface 34 (.int .i64 10)) rfl (by rw [hz]; omega) (hother (by omega)))
    have t5 : ((q : Int) == (o : Int)) = false := by rw [beq_eq_false_iff_ne]; omega
    clear hsame hother ho1
    go_wp2_with (first
      | (go_at_call 18; with_reducible refine (co1.out _ HG.out).mono ?_; rintro e w1 ⟨rfl, hb⟩; replace HG := Lib.hid (HG.out.below hb); replace HB := Lib.hid (below_step HB.out hb); clear hb)
      | (go_at_call 18; with_reducible refine (co2.out _ HG.out).mono ?_; rintro e w1 ⟨rfl, hb⟩; replace HG := Lib.hid (HG.out.below hb); replace HB := Lib.hid (below_step HB.out hb); clear hb)
      | (go_at_call 18; with_reducible refine (co3.out _ HG.out).mono ?_; rintro e w1 ⟨rfl, hb⟩; replace HG := Lib.hid (HG.out.below hb); replace HB := Lib.hid (below_step HB.out hb); clear hb)
      | (go_at_call 16; with_reducible refine (is_yes 12 _).mono ?_; rintro e w1 ⟨rfl, rfl⟩)
      | (go_at_call 16; with_reducible refine (is_yes 11 _).mono ?_; rintro e w1 ⟨rfl, rfl⟩))
    go_ret
    exact ⟨rfl, HB.out⟩

theorem FrameTurned_walk (s : ByteArray) (a b c d : Int) (w1 : (Lit.int .u16 a).wf = true) (w2 : (Lit.int .u16 b).wf = true) (w3 : (Lit.int .u32 c).wf = true) (w4 : (Lit.int .u16 d).wf = true) (w : World) (hg : ErrVar w) :
    Calls Tryd.prog 7 #[.string s, .int .u16 a, .int .u16 b, .int .u32 c, .int .u16 d] w fun e w' => e = .returned (.bool true) ∧ Below w.heap.size w w' := by
  have b1 : 0 ≤ a ∧ a ≤ 65535 := by simpa [Lit.wf, IntKind.min, IntKind.max, IntKind.signed, IntKind.bits] using w1
  have b2 : 0 ≤ b ∧ b ≤ 65535 := by simpa [Lit.wf, IntKind.min, IntKind.max, IntKind.signed, IntKind.bits] using w2
  have b3 : 0 ≤ c ∧ c ≤ 4294967295 := by simpa [Lit.wf, IntKind.min, IntKind.max, IntKind.signed, IntKind.bits] using w3
  have b4 : 0 ≤ d ∧ d ≤ 65535 := by simpa [Lit.wf, IntKind.min, IntKind.max, IntKind.signed, IntKind.bits] using w4
  obtain ⟨n1, rfl⟩ : ∃ k : Nat, a = (k : Int) := ⟨a.toNat, by omega⟩
  obtain ⟨n2, rfl⟩ : ∃ k : Nat, b = (k : Int) := ⟨b.toNat, by omega⟩
  obtain ⟨n3, rfl⟩ : ∃ k : Nat, c = (k : Int) := ⟨c.toNat, by omega⟩
  obtain ⟨n4, rfl⟩ : ∃ k : Nat, d = (k : Int) := ⟨d.toNat, by omega⟩
  exact FrameTurned_any s n1 n2 n3 n4 (by omega) (by omega) (by omega) (by omega) w hg
end Go.Proofs.YtfmgafpgajlddaaDoor
