import Derived.Test.YtjincmagbbpooaaGreatDoorM4

section
set_option linter.unusedVariables false
set_option linter.unusedSimpArgs false
namespace Go.Proofs.YtjincmagbbpooaaGreatDoor
open Go.RowKit

set_option maxHeartbeats 4000000 in
set_option maxRecDepth 100000 in
theorem filled_any (b : ByteArray) (hb : b.size ≤ 64) (w : World) :
    Calls Tryz.prog 56 #[.string b] w fun e w' => e = .returned (.string (fillB b)) ∧ Below w.heap.size w w' := by
  obtain ⟨n, hn⟩ : ∃ n, n = 64 - b.size := ⟨_, rfl⟩
  have hf : fillB b = b ++ zeroB n := by rw [hn]; rfl
  have e1 : Builtin.max_ #[3, 3] 3 #[.int .i64 0, .int .i64 (n : Int)] = (pure (.int .i64 (n : Int)) : Sem Value) := by
    rw [max_two, max2_int, show mxI 0 (n : Int) = (n : Int) by unfold mxI; split <;> omega]; rfl
  have hn2 : (64 : Int) - (b.size : Int) = (n : Int) := by omega
  have hmk := make_zeros w n (by omega)
  have hcv := conv_zeros (w.alloc (.cells (zerosC n) 5)) w.heap.size n (Blk.new w _ _)
  have hz2 : b.size + (zeroB n).size ≤ 9223372036854775807 := by rw [zeroB_size]; omega
  rw [hf]
  clear hf hn
  go_enter Tryz.func56, Tryz.ntmps56
  go_wp2
  go_ret
  exact ⟨rfl, (Below.refl _ _).alloc (Nat.le_refl _) _⟩

/-- A row's cells. -/
theorem own_cell {w : World} {e : TypeId} {v : Value} {n : Nat} {xs : List Value} (h : w.ownsRow 0 e 1 v n xs) (hn : 0 < n) :
    ∃ g cap, v = .slice (some ⟨g, 0, none⟩) n cap ∧ n ≤ cap ∧ g < w.heap.size ∧ (∀ i u, xs[i]? = some u → w.cell? ⟨g, i, none⟩ = some u) ∧ ∀ i, w.frozen? ⟨g, i, none⟩ = false := by
  have h0 := h
  obtain ⟨g, cap, hv, _, hlt⟩ := h.form hn
  rcases h0.2 with ⟨rfl, rfl⟩ | ⟨g', cap', cur, hv', _, hh, hc, _⟩
  · omega
  · rw [hv] at hv'
    injection hv' with e1 e2 e3
    have e4 : g = g' := by injection e1 with e1; injection e1
    subst e3 e4
    refine ⟨g, cap, hv, hc, hlt, fun i u hu => ?_, fun i => by simp [World.frozen?, hh]⟩
    have hc := h.cells (g := g) (by rw [hv]; rfl) i u hu
    have ha : (⟨g, 0, none⟩ : Addr).add i = ⟨g, i, none⟩ := by unfold Addr.add; split <;> simp_all
    rw [ha] at hc
    exact hc

set_option maxHeartbeats 8000000 in
set_option maxRecDepth 100000 in
theorem rRead_no (w : World) (F : Nat → Prop) (p : Nat) (D : DS) (i : Int) (h : Ref w F p D) (h0 : D.may i ≠ 0) :
    Calls Tryz.prog 34 #[.pointer (some ⟨p, 0, none⟩), .int .i64 i] w fun e w' => e = .returned (.tuple #[.string (D.readS i), .int .i64 (D.may i)]) ∧ w = w' := by
  unfold DS.readS
  rw [if_pos h0]
  unfold DS.may at h0 ⊢
  obtain ⟨sv, av, bv, hd, -⟩ := h
  obtain ⟨c0, -, -, -, -, c5, -⟩ := hd.cells
  obtain ⟨a, c, rfl⟩ := own_len hd.s
  clear hd
  obtain ⟨n, hn⟩ : ∃ n, n = D.sure.length := ⟨_, rfl⟩
  obtain ⟨b, hb⟩ : ∃ b, b = D.dead := ⟨_, rfl⟩
  rw [← hn] at c0 h0 ⊢
  rw [← hb] at c5 h0 ⊢
  clear hn hb
  cases b
  · rw [if_neg (by decide)] at h0 ⊢
    by_cases h1 : i < 0
    · rw [if_pos (.inl h1)]
      have t1 : decide (i < 0) = true := decide_eq_true h1
      clear h0
      go_enter Tryz.func34, Tryz.ntmps34
      go_wp2
      go_ret2
      exact ⟨rfl, rfl⟩
    · have t1 : decide (i < 0) = false := decide_eq_false h1
      by_cases h2 : (n : Int) ≤ i
      · rw [if_pos (.inr h2)]
        have t2 : decide ((n : Int) ≤ i) = true := decide_eq_true h2
        clear h0
        go_enter Tryz.func34, Tryz.ntmps34
        go_wp2
        go_ret2
        exact ⟨rfl, rfl⟩
      · rw [if_neg (by omega)] at h0
        exact absurd rfl h0
  · rw [if_pos rfl]
    clear h0
    go_enter Tryz.func34, Tryz.ntmps34
    go_wp2
    go_ret2
    exact ⟨rfl, rfl⟩

set_option maxHeartbeats 8000000 in
set_option maxRecDepth 100000 in
theorem rRead_yes (w : World) (F : Nat → Prop) (p : Nat) (D : DS) (i : Nat) (h : Ref w F p D) (h0 : D.may i = 0) :
    Calls Tryz.prog 34 #[.pointer (some ⟨p, 0, none⟩), .int .i64 (i : Int)] w fun e w' => e = .returned (.tuple #[.string (lastW D.loose i (D.sure.getD i ⟨#[]⟩)), .int .i64 0]) ∧ w = w' := by
  obtain ⟨h4, h5, h6⟩ := DS.may_zero.1 h0
  obtain ⟨sv, av, bv, hd, -⟩ := h
  obtain ⟨c0, c1, c2, -, -, c5, -⟩ := hd.cells
  have hone := hd.ok.one
  obtain ⟨gs, cs, rfl, -, -, hsc, -⟩ := own_cell hd.s (by omega)
  have cs0 := hsc i (.string (D.sure.getD i ⟨#[]⟩)) (by unfold strC; rw [List.getElem?_map, List.getElem?_eq_getElem (by omega), List.getD_eq_getElem?_getD, List.getElem?_eq_getElem (by omega)]; rfl)
  have hfew := hd.ok.few
  have hdone := hd.ok.done
  obtain ⟨n, hn⟩ : ∃ n, n = D.loose.length := ⟨_, rfl⟩
  obtain ⟨N, hN⟩ : ∃ n, n = D.sure.length := ⟨_, rfl⟩
  obtain ⟨s0, hs0⟩ : ∃ s, s = D.sure.getD i ⟨#[]⟩ := ⟨_, rfl⟩
  rw [← hN] at c0
  rw [← hs0] at cs0 ⊢
  rw [h4] at c5
  have q1 : (i : Int) < (N : Int) := by omega
  have q0 : (0 : Int) ≤ (i : Int) := by omega
  have t1 : decide ((i : Int) < 0) = false := decide_eq_false (by omega)
  have t2 : decide ((N : Int) ≤ (i : Int)) = false := decide_eq_false (by omega)
  have t2' : decide (N ≤ i) = false := decide_eq_false (by omega)
  have zn : n ≤ 1099511627776 := by omega
  obtain ⟨a1, k1, ea⟩ := own_len hd.a
  obtain ⟨a2, k2, eb⟩ := own_len hd.b
  rw [← hn] at ea eb
  obtain ⟨L, hL⟩ : ∃ L, L = D.loose := ⟨_, rfl⟩
  have hcell : ∀ k x, L[k]? = some x → ∃ g1 g2, a1 = some ⟨g1, 0, none⟩ ∧ a2 = some ⟨g2, 0, none⟩ ∧ w.cell? ⟨g1, k, none⟩ = some (.int .i64 (x.1 : Int)) ∧ w.cell? ⟨g2, k, none⟩ = some (.string x.2) := by
    intro k x hx
    rw [hL] at hx
    have hl := (List.getElem?_eq_some_iff.1 hx).1
    obtain ⟨g1, p1, e1, -, -, q1, -⟩ := own_cell hd.a (by omega)
    obtain ⟨g2, p2, e2, -, -, q2, -⟩ := own_cell hd.b (by omega)
    rw [ea] at e1
    rw [eb] at e2
    injection e1 with e1
    injection e2 with e2
    exact ⟨g1, g2, e1, e2, q1 k _ (by unfold atsC; rw [List.getElem?_map, hx]; rfl), q2 k _ (by unfold bsC; rw [List.getElem?_map, hx]; rfl)⟩
  subst ea eb
  rw [← hL] at hn ⊢
  have HC := Lib.hid hcell
  have HN := Lib.hid hn
  clear hd h0 h4 h5 h6 hn hN hs0 hL hcell hfew hdone hsc hone
  go_enter Tryz.func34, Tryz.ntmps34
  go_wp2
  go_loop [6, 7] (fun v6 v7 => ∃ k : Nat, v7 = .int .i64 (k : Int) ∧ k ≤ n ∧ v6 = .string (lastW (L.take k) i s0)) (fun _ v7 => n - (intOf v7).toNat)
  case atStart => exact ⟨0, rfl, Nat.zero_le _, rfl⟩
  case round =>
    obtain ⟨k, rfl, hk, rfl⟩ := hrel
    by_cases hlt : k < n
    · have hkl : k < L.length := by rw [← HN.out]; exact hlt
      obtain ⟨x, hx⟩ : ∃ x, L[k]? = some x := ⟨_, List.getElem?_eq_getElem hkl⟩
      obtain ⟨g1, g2, rfl, rfl, ca, cb⟩ := HC.out k x hx
      have hst : lastW (L.take (k + 1)) i s0 = if x.1 = i then x.2 else lastW (L.take k) i s0 := by
        rw [List.take_succ_eq_append_getElem hkl, lastW_snoc]
        rw [List.getElem?_eq_getElem hkl] at hx
        cases hx
        rfl
      have b0 : (0 : Int) ≤ (k : Int) := by omega
      have b1 : (k : Int) < (n : Int) := by omega
      by_cases he : x.1 = i
      · have t3 : ((x.1 : Int) == (i : Int)) = true := by rw [he, beq_self_eq_true]
        rw [if_pos he] at hst
        have HW := Lib.hid hst
        clear hst he hx hkl
        go_wp2
        go_round
        case rel => exact ⟨k + 1, by go_num, by omega, by rw [HW.out]⟩
        case measure => simp [intOf]; omega
      · have t3 : ((x.1 : Int) == (i : Int)) = false := by rw [beq_eq_false_iff_ne]; omega
        rw [if_neg he] at hst
        have HW := Lib.hid hst
        clear hst he hx hkl
        go_wp2
        go_round
        case rel => exact ⟨k + 1, by go_num, by omega, by rw [HW.out]⟩
        case measure => simp [intOf]; omega
    · obtain rfl : k = n := by omega
      have hfin : L.take k = L := by rw [HN.out, List.take_length]
      have HW := Lib.hid hfin
      clear hfin
      go_wp2
      go_ret2
      exact ⟨by rw [HW.out]; rfl, rfl⟩

theorem rRead_any (w : World) (F : Nat → Prop) (p : Nat) (D : DS) (i : Int) (h : Ref w F p D) :
    Calls Tryz.prog 34 #[.pointer (some ⟨p, 0, none⟩), .int .i64 i] w fun e w' => e = .returned (.tuple #[.string (D.readS i), .int .i64 (D.may i)]) ∧ w = w' := by
  by_cases h0 : D.may i = 0
  · have h1 := DS.may_zero.1 h0
    obtain ⟨k, rfl⟩ : ∃ k : Nat, i = (k : Int) := ⟨i.toNat, by omega⟩
    have := rRead_yes w F p D k h h0
    unfold DS.readS
    rw [if_neg (by simpa using h0), h0]
    exact this
  · exact rRead_no w F p D i h h0
end Go.Proofs.YtjincmagbbpooaaGreatDoor
end

section
set_option linter.unusedVariables false
set_option linter.unusedSimpArgs false
namespace Go.Proofs.YtjincmagbbpooaaGreatDoor
open Go.RowKit

theorem own_form {w : World} {base : Nat} {e : TypeId} {v : Value} {n : Nat} {xs : List Value} (h : w.ownsRow base e 1 v n xs) (hn : 0 < n) :
    ∃ g cap, v = .slice (some ⟨g, 0, none⟩) n cap ∧ n ≤ cap ∧ base ≤ g ∧ g < w.heap.size := by
  obtain ⟨g, cap, hv, hb, hlt⟩ := h.form hn
  obtain ⟨g', cap', hv', hc, -⟩ := own_cell (own_base h) hn
  rw [hv] at hv'
  injection hv' with e1 e2 e3
  subst e3
  exact ⟨g, cap, hv, hc, hb, hlt⟩
/-- One element of an owned row set. -/
theorem own_set {w : World} {base : Nat} {e : TypeId} {g n cap k : Nat} {xs : List Value} (h : w.ownsRow base e 1 (.slice (some ⟨g, 0, none⟩) n cap) n xs) (u : Value) :
    (w.setCell ⟨g, k, none⟩ u).ownsRow base e 1 (.slice (some ⟨g, 0, none⟩) n cap) n (xs.set k u) := by
  refine ⟨by rw [List.length_set]; exact h.1, ?_⟩
  rcases h.2 with ⟨h0, _⟩ | ⟨g', cap', cur, hv, hb, hh, h1, h2, h3, h4⟩
  · cases h0
  · injection hv with e1 e2 e3
    have e4 : g = g' := by injection e1 with e1; injection e1
    subst e3 e4
    refine .inr ⟨g, cap, cur.setIfInBounds k u, rfl, hb, ?_, h1, h2, by simpa using h3, ?_⟩
    · simp [World.setCell, Array.getElem?_modify, hh]
    · rw [← h4, Array.toList_setIfInBounds, List.take_set]
theorem own_below {w w' : World} {base B : Nat} {e : TypeId} {v : Value} {n : Nat} {xs : List Value} (h : w.ownsRow base e 1 v n xs) (hb : Below B w w') (hB : ∀ k, v.ownBlock = some k → k < B) : w'.ownsRow base e 1 v n xs :=
  own_same h fun k hk => hb.block k (hB k hk)

set_option maxHeartbeats 8000000 in
set_option maxRecDepth 100000 in
theorem rFlush_yes (w : World) (F : Nat → Prop) (p : Nat) (D : DS) (h : Ref w F p D) (h0 : D.dead = false) :
    Calls Tryz.prog 60 #[.pointer (some ⟨p, 0, none⟩)] w fun e w' => e = .returned (.int .i64 0) ∧ RefPost F p w (D.keeps (fun _ => true) (-1)) w' := by
  obtain ⟨sv, av, bv, hd, hf⟩ := h
  obtain ⟨c0, c1, c2, c3, c4, c5, fr⟩ := hd.cells
  rw [h0] at c5
  have fr0 := fr 0
  have fr1 := fr 1
  have fr2 := fr 2
  have hone := hd.ok.one
  have hmost := hd.ok.most
  have hfew := hd.ok.few
  have hdone := hd.ok.done
  have hokk := hd.ok.keeps (fun _ => true) (-1)
  obtain ⟨a0, k0, es⟩ := own_len hd.s
  obtain ⟨a1, k1, ea⟩ := own_len hd.a
  obtain ⟨a2, k2, eb⟩ := own_len hd.b
  obtain ⟨n, hn⟩ : ∃ n, n = D.loose.length := ⟨_, rfl⟩
  obtain ⟨N, hN⟩ : ∃ n, n = D.sure.length := ⟨_, rfl⟩
  have hrd : Reads w w.heap.size 1 a0 N (strC D.sure) := by
    have := hd.s
    rw [es, ← hN] at this
    exact Reads.of_own (own_base this)
  rw [← hN] at es
  rw [← hn] at ea eb
  obtain ⟨i0, hi, hz0, hz1, hz2⟩ := info_parts Tryz.infoS1
  have HI := Lib.hid hi
  have HZ0 := Lib.hid hz0
  have HZ1 := Lib.hid hz1
  have HZ2 := Lib.hid hz2
  have HR := Lib.hid hrd
  have HD := Lib.hid hd
  have HF := Lib.hid hf
  have HN := Lib.hid hn
  have HNN := Lib.hid hN
  have HES := Lib.hid es
  have HEA := Lib.hid ea
  have HEB := Lib.hid eb
  have HOKK := Lib.hid hokk
  have zn : n ≤ 1099511627776 := by omega
  have zN : N ≤ 2000 := by omega
  have zN1 : 1 ≤ N := by omega
  rw [es] at c0
  rw [ea] at c1
  rw [eb] at c2
  clear hd hf fr hn hN es ea eb hi hz0 hz1 hz2 hrd hone hmost hfew hdone hokk h0
  go_enter Tryz.func60, Tryz.ntmps60
  go_wp2_with (at_builtin; refine wpList_append_any _ rfl (.const (.slice none 0 0)) (.tmp 12) 26 rfl w.heap.size 9 i0 (.string ⟨#[]⟩) 1 16 Tryz.underlying26 HI.out HZ0.out HZ1.out HZ2.out rfl (by decide) (.slice none 0 0) 0 [] rfl (World.ownsRow_nil _ _ _ _) w.heap.size a0 N k0 (strC D.sure) rfl HR.out (one_strC _) (by unfold maxLen; omega) (by omega) (Nat.le_refl _) ?_; intro v1 w1 ho hg ha; have HO := Lib.hid ho; have HG := Lib.hid hg; clear ho hg ha)
  have ho := HO.out
  rw [Nat.zero_add, List.nil_append] at ho
  obtain ⟨g, cap, hv, hcap, hbg, hlt⟩ := own_form ho (by omega)
  subst hv
  have hb1 : Below w.heap.size w w1 := ⟨HG.out.os, HG.out.tape, HG.out.output, HG.out.size, fun k hk => HG.out.block k hk (fun e => by cases e)⟩
  replace HO := Lib.hid ho
  replace HB := Lib.hid hb1
  have HBG := Lib.hid hbg
  clear ho hb1 HG hlt hcap
  clear c0 c1 c2 c3 c4 c5 fr0 fr1 fr2
  go_loopw [4] (fun v4 wr => ∃ i : Nat, v4 = .int .i64 (i : Int) ∧ i ≤ n ∧ Hid (Below w.heap.size w wr) ∧ Hid (wr.ownsRow w.heap.size 9 1 (.slice (some ⟨g, 0, none⟩) N cap) N (strC (keepN (fun _ => true) (-1) D.loose D.sure i)))) (fun v4 _ => n - (intOf v4).toNat)
  case atStart => exact ⟨0, rfl, Nat.zero_le _, HB, HO⟩
  case round =>
    clear HB HO
    obtain ⟨i, rfl, hi, HB, HO⟩ := hrel
    have HDR := Lib.hid (HD.out.below HB.out)
    have c1 := HDR.out.cells.2.1
    have c2 := HDR.out.cells.2.2.1
    rw [HEA.out] at c1
    rw [HEB.out] at c2
    have hpw := HD.out.own.lt
    by_cases hlt : i < n
    · have hlt' : i < D.loose.length := by rw [← HN.out]; exact hlt
      obtain ⟨x, hx⟩ : ∃ x, D.loose[i]? = some x := ⟨_, List.getElem?_eq_getElem hlt'⟩
      obtain ⟨g1, p1, e1, -, l1, q1, -⟩ := own_cell HDR.out.a (show 0 < D.loose.length by omega)
      obtain ⟨g2, p2, e2, -, l2, q2, -⟩ := own_cell HDR.out.b (show 0 < D.loose.length by omega)
      rw [HEA.out, ← HN.out] at e1
      rw [HEB.out, ← HN.out] at e2
      injection e1 with e1 _ e1'
      injection e2 with e2 _ e2'
      subst e1 e2 e1' e2'
      have ca := q1 i (.int .i64 (x.1 : Int)) (by unfold atsC; rw [List.getElem?_map, hx]; rfl)
      have cb := q2 i (.string x.2) (by unfold bsC; rw [List.getElem?_map, hx]; rfl)
      have hxl := HD.out.ok.lies x (List.mem_of_getElem? hx)
      have hst := keepN_succ (keep := fun _ => true) (torn := -1) (l := D.loose) (s := D.sure) hx
      unfold keepStep at hst
      rw [if_pos rfl, if_neg (by omega)] at hst
      obtain ⟨g', cap', e3, -, l3, q3, f3⟩ := own_cell (own_base HO.out) (by omega)
      injection e3 with e3 _ e3c
      subst e3c
      injection e3 with e3
      injection e3 with e3
      subst e3
      obtain ⟨S, hS⟩ : ∃ S, S = keepN (fun _ => true) (-1) D.loose D.sure i := ⟨_, rfl⟩
      have hSl : S.length = N := by rw [hS, keepN_len, HNN.out]
      rw [← hS] at q3 hst
      obtain ⟨k, hk⟩ : ∃ k, k = x.1 := ⟨_, rfl⟩
      obtain ⟨b, hb⟩ : ∃ b, b = x.2 := ⟨_, rfl⟩
      rw [← hk] at ca hst hxl
      rw [← hb] at cb hst
      have hkN : k < N := by rw [HNN.out]; exact hxl.1
      have cs := q3 k (.string (S.getD k ⟨#[]⟩)) (by unfold strC; rw [List.getElem?_map, List.getElem?_eq_getElem (by omega), List.getD_eq_getElem?_getD, List.getElem?_eq_getElem (by omega)]; rfl)
      have fs := f3 k
      have b0 : (0 : Int) ≤ (i : Int) := by omega
      have b1 : (i : Int) < (n : Int) := by omega
      have b2 : (0 : Int) ≤ (k : Int) := by omega
      have b3 : (k : Int) < (N : Int) := by omega
      have HST := Lib.hid hst
      have HS := Lib.hid hS
      clear hlt' hx hst hS hSl hk hb hxl q1 q2 q3 f3 hkN l1 l2 l3
      go_wp2
      go_big_region
      go_wp2
      go_roundw
      case rel =>
        refine ⟨i + 1, by go_num, by omega, ?_, ?_⟩
        · exact (HB.out.setCell (p := ⟨g, k, none⟩) HBG.out _).trans (below_drewN _ 1)
        · have := own_set (k := k) HO.out (.string b)
          rw [HST.out]
          rw [← HS.out] at this
          unfold strC at this ⊢
          rw [List.map_set]
          exact this
      case measure => simp [intOf]; omega
    · obtain rfl : i = n := by omega
      have c0 := HDR.out.cells.1
      have fr0 := HDR.out.cells.2.2.2.2.2.2 0
      have fr1 := HDR.out.cells.2.2.2.2.2.2 1
      have fr2 := HDR.out.cells.2.2.2.2.2.2 2
      go_wp2
      go_ret
      have hlen : (keepN (fun _ => true) (-1) D.loose D.sure D.loose.length).length = N := by rw [keepN_len, HNN.out]
      have hne : ∀ q, (Value.slice (some ⟨g, 0, none⟩) N cap).ownBlock = some q → q ≠ p := fun q hq => by
        have : g = q := by simpa [Value.ownBlock] using hq
        subst this
        have := HBG.out
        omega
      refine ⟨rfl, ?_, .slice (some ⟨g, 0, none⟩) N cap, .slice none 0 0, .slice none 0 0, ⟨?_, ?_, World.ownsRow_nil _ _ _ _, World.ownsRow_nil _ _ _ _, HOKK.out⟩, ?_⟩
      · exact (((Save.of_below HB.out).setCell (.inl HF.out.1) _).setCell (.inl HF.out.1) _).setCell (.inl HF.out.1) _
      · exact ((HDR.out.own.set_ 0 _).set_ 1 _).set_ 2 _
      · show World.ownsRow _ 0 9 1 _ (keepN (fun _ => true) (-1) D.loose D.sure D.loose.length).length (strC (keepN (fun _ => true) (-1) D.loose D.sure D.loose.length))
        rw [hlen, ← HN.out]
        exact own_base (own_same (own_same (own_same HO.out fun q hq => Below.heap_setCell _ _ _ _ (hne q hq)) fun q hq => Below.heap_setCell _ _ _ _ (hne q hq)) fun q hq => Below.heap_setCell _ _ _ _ (hne q hq))
      · refine ⟨.inl HF.out.1, fun k hk => ?_, (fun k hk => by cases hk), (fun k hk => by cases hk)⟩
        have : g = k := by simpa [Value.ownBlock] using hk
        subst this
        refine .inr ⟨HBG.out, ?_⟩
        have := (HO.out.lt g rfl).2
        simpa [World.setCell] using this
end Go.Proofs.YtjincmagbbpooaaGreatDoor
end
