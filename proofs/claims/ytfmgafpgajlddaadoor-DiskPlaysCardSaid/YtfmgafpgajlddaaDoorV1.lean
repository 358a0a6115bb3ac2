import Derived.Test.YtfmgafpgajlddaaDoorV0
import Derived.Test.YtfmgafpgajlddaaDoorDZ
set_option linter.unusedVariables false
set_option linter.unusedSimpArgs false
namespace Go.Proofs.YtfmgafpgajlddaaDoor
open Go.RowKit

set_option maxHeartbeats 4000000 in
set_option maxRecDepth 100000 in
theorem filled_any (b : ByteArray) (hb : b.size ≤ 64) (w : World) :
    Calls Tryd.prog 51 #[.string b] w fun e w' => e = .returned (.string (fillB b)) ∧ Below w.heap.size w w' := by
  obtain ⟨n, hn⟩ : ∃ n, n = 64 - b.size := ⟨_, rfl⟩
  have hf : fillB b = b ++ zeroB n := by rw [hn]; rfl
  have e1 : Builtin.max_ #[3, 3] 3 #[.int .i64 0, .int .i64 (n : Int)] = (pure (.int .i64 (n : Int)) : Sem Value) := by
    rw [max_two, max2_int, show mxI 0 (n : Int) = (n : Int) by unfold mxI; split <;> omega]; rfl
  have hn2 : (64 : Int) - (b.size : Int) = (n : Int) := by omega
  have hmk := make_zeros w n (by omega)
  have hcv := conv_zeros (w.alloc (.cells (zerosC n) 5)) w.heap.size n (Blk.new w _ _)
  have hz2 : b.size + (zeroB n).size ≤ 9223372036854775807 := by rw [zeroB_size]; omega
  rw [hf]
  clear hf hn
  go_enter Tryd.func51, Tryd.ntmps51
  go_wp2
  go_ret
  exact ⟨rfl, (Below.refl _ _).alloc (Nat.le_refl _) _⟩

/-- A row's cells. -/
theorem own_cell {w : World} {e : TypeId} {v : Value} {n : Nat} {xs : List Value} (h : w.ownsRow 0 e 1 v n xs) (hn : 0 < n) :
    ∃ g cap, v = .slice (some ⟨g, 0, none⟩) n cap ∧ n ≤ cap ∧ g < w.heap.size ∧ (∀ i u, xs[i]? = some u → w.cell? ⟨g, i, none⟩ = some u) ∧ ∀ i, w.frozen? ⟨g, i, none⟩ = false := by
  have h0 := h
  obtain ⟨g, cap, hv, _, hlt⟩ := h.form hn
  rcases h0.2 with ⟨rfl, rfl⟩ | ⟨g', cap', cur, hv', _, hh, hc, _⟩
  · omega
  · rw [hv] at hv'
    injection hv' with e1 e2 e3
    have e4 : g = g' := by injection e1 with e1; injection e1
    subst e3 e4
    refine ⟨g, cap, hv, hc, hlt, fun i u hu => ?_, fun i => by simp [World.frozen?, hh]⟩
    have hc := h.cells (g := g) (by rw [hv]; rfl) i u hu
    have ha : (⟨g, 0, none⟩ : Addr).add i = ⟨g, i, none⟩ := by unfold Addr.add; split <;> simp_all
    rw [ha] at hc
    exact hc

set_option maxHeartbeats 8000000 in
set_option maxRecDepth 100000 in
theorem rRead_no (w : World) (F : Nat → Prop) (p : Nat) (D : DS) (i : Int) (h : Ref w F p D) (h0 : D.may i ≠ 0) :
    Calls Tryd.prog 41 #[.pointer (some ⟨p, 0, none⟩), .int .i64 i] w fun e w' => e = .returned (.tuple #[.string (D.readS i), .int .i64 (D.may i)]) ∧ w = w' := by
  unfold DS.readS
  rw [if_pos h0]
  unfold DS.may at h0 ⊢
  obtain ⟨sv, av, bv, hd, -⟩ := h
  obtain ⟨c0, -, -, -, -, c5, -⟩ := hd.cells
  obtain ⟨a, c, rfl⟩ := own_len hd.s
  clear hd
  obtain ⟨n, hn⟩ : ∃ n, n = D.sure.length := ⟨_, rfl⟩
  obtain ⟨b, hb⟩ : ∃ b, b = D.dead := ⟨_, rfl⟩
  rw [← hn] at c0 h0 ⊢
  rw [← hb] at c5 h0 ⊢
  clear hn hb
  cases b
  · rw [if_neg (by decide)] at h0 ⊢
    by_cases h1 : i < 0
    · rw [if_pos (.inl h1)]
      have t1 : decide (i < 0) = true := decide_eq_true h1
      clear h0
      go_enter Tryd.func41, Tryd.ntmps41
      go_wp2
      go_ret2
      exact ⟨rfl, rfl⟩
    · have t1 : decide (i < 0) = false := decide_eq_false h1
      by_cases h2 : (n : Int) ≤ i
      · rw [if_pos (.inr h2)]
        have t2 : decide ((n : Int) ≤ i) = true := decide_eq_true h2
        clear h0
        go_enter Tryd.func41, Tryd.ntmps41
        go_wp2
        go_ret2
        exact ⟨rfl, rfl⟩
      · rw [if_neg (by omega)] at h0
        exact absurd rfl h0
  · rw [if_pos rfl]
    clear h0
    go_enter Tryd.func41, Tryd.ntmps41
    go_wp2
    go_ret2
    exact ⟨rfl, rfl⟩

set_option maxHeartbeats 8000000 in
set_option maxRecDepth 100000 in
theorem rRead_yes (w : World) (F : Nat → Prop) (p : Nat) (D : DS) (i : Nat) (h : Ref w F p D) (h0 : D.may i = 0) :
    Calls Tryd.prog 41 #[.pointer (some ⟨p, 0, none⟩), .int .i64 (i : Int)] w fun e w' => e = .returned (.tuple #[.string (lastW D.loose i (D.sure.getD i ⟨#[]⟩)), .int .i64 0]) ∧ w = w' := by
  obtain ⟨h4, h5, h6⟩ := DS.may_zero.1 h0
  obtain ⟨sv, av, bv, hd, -⟩ := h
  obtain ⟨c0, c1, c2, -, -, c5, -⟩ := hd.cells
  have hone := hd.ok.one
  obtain ⟨gs, cs, rfl, -, -, hsc, -⟩ := own_cell hd.s (by omega)
  have cs0 := hsc i (.string (D.sure.getD i ⟨#[]⟩)) (by unfold strC; rw [List.getElem?_map, List.getElem?_eq_getElem (by omega), List.getD_eq_getElem?_getD, List.getElem?_eq_getElem (by omega)]; rfl)
  have hfew := hd.ok.few
  have hdone := hd.ok.done
  obtain ⟨n, hn⟩ : ∃ n, n = D.loose.length := ⟨_, rfl⟩
  obtain ⟨N, hN⟩ : ∃ n, n = D.sure.length := ⟨_, rfl⟩
  obtain ⟨s0, hs0⟩ : ∃ s, s = D.sure.getD i ⟨#[]⟩ := ⟨_, rfl⟩
  rw [← hN] at c0
  rw [← hs0] at cs0 ⊢
  rw [h4] at c5
  have q1 : (i : Int) < (N : Int) := by omega
  have q0 : (0 : Int) ≤ (i : Int) := by omega
  have t1 : decide ((i : Int) < 0) = false := decide_eq_false (by omega)
  have t2 : decide ((N : Int) ≤ (i : Int)) = false := decide_eq_false (by omega)
  have t2' : decide (N ≤ i) = false := decide_eq_false (by omega)
  have zn : n ≤ 1099511627776 := by omega
  obtain ⟨a1, k1, ea⟩ := own_len hd.a
  obtain ⟨a2, k2, eb⟩ := own_len hd.b
  rw [← hn] at ea eb
  obtain ⟨L, hL⟩ : ∃ L, L = D.loose := ⟨_, rfl⟩
  have hcell : ∀ k x, L[k]? = some x → ∃ g1 g2, a1 = some ⟨g1, 0, none⟩ ∧ a2 = some ⟨g2, 0, none⟩ ∧ w.cell? ⟨g1, k, none⟩ = some (.int .i64 (x.1 : Int)) ∧ w.cell? ⟨g2, k, none⟩ = some (.string x.2) := by
    intro k x hx
    rw [hL] at hx
    have hl := (List.getElem?_eq_some_iff.1 hx).1
    obtain ⟨g1, p1, e1, -, -, q1, -⟩ := own_cell hd.a (by omega)
    obtain ⟨g2, p2, e2, -, -, q2, -⟩ := own_cell hd.b (by omega)
    rw [ea] at e1
    rw [eb] at e2
    injection e1 with e1
    injection e2 with e2
    exact ⟨g1, g2, e1, e2, q1 k _ (by unfold atsC; rw [List.getElem?_map, hx]; rfl), q2 k _ (by unfold bsC; rw [List.getElem?_map, hx]; rfl)⟩
  subst ea eb
  rw [← hL] at hn ⊢
  have HC := Lib.hid hcell
  have HN := Lib.hid hn
  clear hd h0 h4 h5 h6 hn hN hs0 hL hcell hfew hdone hsc hone
  go_enter Tryd.func41, Tryd.ntmps41
  go_wp2
  go_loop [6, 7] (fun v6 v7 => ∃ k : Nat, v7 = .int .i64 (k : Int) ∧ k ≤ n ∧ v6 = .string (lastW (L.take k) i s0)) (fun _ v7 => n - (intOf v7).toNat)
  case atStart => exact ⟨0, rfl, Nat.zero_le _, rfl⟩
  case round =>
    obtain ⟨k, rfl, hk, rfl⟩ := hrel
    by_cases hlt : k < n
    · have hkl : k < L.length := by rw [← HN.out]; exact hlt
      obtain ⟨x, hx⟩ : ∃ x, L[k]? = some x := ⟨_, List.getElem?_eq_getElem hkl⟩
      obtain ⟨g1, g2, rfl, rfl, ca, cb⟩ := HC.out k x hx
      have hst : lastW (L.take (k + 1)) i s0 = if x.1 = i then x.2 else lastW (L.take k) i s0 := by
        rw [List.take_succ_eq_append_getElem hkl, lastW_snoc]
        rw [List.getElem?_eq_getElem hkl] at hx
        cases hx
        rfl
      have b0 : (0 : Int) ≤ (k : Int) := by omega
      have b1 : (k : Int) < (n : Int) := by omega
      by_cases he : x.1 = i
      · have t3 : ((x.1 : Int) == (i : Int)) = true := by rw [he, beq_self_eq_true]
        rw [if_pos he] at hst
        have HW := Lib.hid hst
        clear hst he hx hkl
        go_wp2
        go_round
        case rel => exact ⟨k + 1, by go_num, by omega, by rw [HW.out]⟩
        case measure => simp [intOf]; omega
      · have t3 : ((x.1 : Int) == (i : Int)) = false := by rw [beq_eq_false_iff_ne]; omega
        rw [if_neg he] at hst
        have HW := Lib.hid hst
        clear hst he hx hkl
        go_wp2
        go_round
        case rel => exact ⟨k + 1, by go_num, by omega, by rw [HW.out]⟩
        case measure => simp [intOf]; omega
    · obtain rfl : k = n := by omega
      have hfin : L.take k = L := by rw [HN.out, List.take_length]
      have HW := Lib.hid hfin
      clear hfin
      go_wp2
      go_ret2
      exact ⟨by rw [HW.out]; rfl, rfl⟩

theorem rRead_any (w : World) (F : Nat → Prop) (p : Nat) (D : DS) (i : Int) (h : Ref w F p D) :
    Calls Tryd.prog 41 #[.pointer (some ⟨p, 0, none⟩), .int .i64 i] w fun e w' => e = .returned (.tuple #[.string (D.readS i), .int .i64 (D.may i)]) ∧ w = w' := by
  by_cases h0 : D.may i = 0
  · have h1 := DS.may_zero.1 h0
    obtain ⟨k, rfl⟩ : ∃ k : Nat, i = (k : Int) := ⟨i.toNat, by omega⟩
    have := rRead_yes w F p D k h h0
    unfold DS.readS
    rw [if_neg (by simpa using h0), h0]
    exact this
  · exact rRead_no w F p D i h h0
end Go.Proofs.YtfmgafpgajlddaaDoor
