import Derived.Test.YtjincmagbbpooaaGreatDoorD2
set_option linter.unusedVariables false
set_option linter.unusedSimpArgs false
namespace Go.Proofs.YtjincmagbbpooaaGreatDoor
open Go.RowKit

theorem Write_any (w : World) (F : Nat → Prop) (p : Nat) (D : DS) (i : Int) (b : ByteArray) (hdone : D.done < 1099511627776) (h : Dsk w F p D) :
    Calls Tryz.prog 11 #[.pointer (some ⟨p, 0, none⟩), .int .i64 i, .string b] w fun e w' => e = .returned (errV (D.writeC i b)) ∧ DskPost F p w (D.write i b) w' := by
  by_cases h0 : D.writeC i b = 0
  · have h1 := DS.may_zero.1 (DS.writeC_zero.1 h0).1
    obtain ⟨k, rfl⟩ : ∃ k : Nat, i = (k : Int) := ⟨i.toNat, by omega⟩
    have := Write_yes w F p D k b h h0 hdone
    unfold DS.write
    rw [if_pos h0, h0]
    exact this
  · exact Write_no w F p D i b h h0

/-- The writes' cells. -/
theorem DskAt.looseCells {w : World} {p g : Nat} {lv : Value} {D : DS} (h : DskAt w p g lv D) (hn : 0 < D.loose.length) :
    ∃ g2 cap, lv = .slice (some ⟨g2, 0, none⟩) D.loose.length cap ∧ g2 < w.heap.size ∧ ∀ i x, D.loose[i]? = some x → w.cell? ⟨g2, i * 2, none⟩ = some (.int .i64 (x.1 : Int)) ∧ w.cell? ⟨g2, i * 2 + 1, none⟩ = some (.string x.2) := by
  obtain ⟨g2, cap, hv, _, hlt⟩ := h.loose.form hn
  refine ⟨g2, cap, hv, hlt, fun i x hx => ?_⟩
  have hc := h.loose.cells (g := g2) (by rw [hv]; rfl)
  have ha : ∀ j, (⟨g2, 0, none⟩ : Addr).add j = ⟨g2, j, none⟩ := fun j => by unfold Addr.add; split <;> simp_all
  obtain ⟨h1, h2⟩ := looseC_get D.loose i x hx
  have e1 := hc _ _ h1
  have e2 := hc _ _ h2
  rw [ha] at e1 e2
  exact ⟨e1, e2⟩
theorem DskAt.sureCell {w : World} {p g : Nat} {lv : Value} {D : DS} (h : DskAt w p g lv D) (i : Nat) (hi : i < D.sure.length) : w.cell? ⟨g, i, none⟩ = some (.string (D.sure.getD i ⟨#[]⟩)) := by
  rw [h.row.cell i]
  simp [List.getD_eq_getElem?_getD, List.getElem?_eq_getElem hi]

set_option maxHeartbeats 4000000 in
set_option maxRecDepth 100000 in
theorem Read_no (w : World) (F : Nat → Prop) (p : Nat) (D : DS) (i : Int) (h : Dsk w F p D) (h0 : D.may i ≠ 0) :
    Calls Tryz.prog 33 #[.pointer (some ⟨p, 0, none⟩), .int .i64 i] w fun e w' => e = .returned (.tuple #[.string (D.readS i), errV (D.may i)]) ∧ w = w' := by
  have cm := may_any w F p D i h
  unfold DS.readS
  rw [if_pos h0]
  rw [errV_ne' h0] at cm ⊢
  replace cm := Lib.hid cm
  clear h0 h
  go_enter Tryz.func33, Tryz.ntmps33
  go_wp2_with ((go_at_call 48; with_reducible refine cm.out.mono ?_; rintro e w1 ⟨rfl, rfl⟩))
  go_ret2
  exact ⟨rfl, rfl⟩

set_option maxHeartbeats 8000000 in
set_option maxRecDepth 100000 in
theorem Read_yes (w : World) (F : Nat → Prop) (p : Nat) (D : DS) (i : Nat) (h : Dsk w F p D) (h0 : D.may i = 0) :
    Calls Tryz.prog 33 #[.pointer (some ⟨p, 0, none⟩), .int .i64 (i : Int)] w fun e w' => e = .returned (.tuple #[.string (lastW D.loose i (D.sure.getD i ⟨#[]⟩)), .nilIface]) ∧ w = w' := by
  have cm := may_any w F p D i h
  rw [h0] at cm
  have cm : Calls Tryz.prog 48 #[.pointer (some ⟨p, 0, none⟩), .int .i64 (i : Int)] w fun e w' => e = .returned .nilIface ∧ w = w' := cm
  have h4 := DS.may_zero.1 h0
  obtain ⟨g, lv, hd, -⟩ := h
  obtain ⟨c0, c1, -⟩ := hd.cells
  have cs := hd.sureCell i (by omega)
  have hfew := hd.ok.few
  have hdone := hd.ok.done
  obtain ⟨n, hn⟩ : ∃ n, n = D.loose.length := ⟨_, rfl⟩
  obtain ⟨N, hN⟩ : ∃ n, n = D.sure.length := ⟨_, rfl⟩
  obtain ⟨s0, hs0⟩ : ∃ s, s = D.sure.getD i ⟨#[]⟩ := ⟨_, rfl⟩
  rw [← hN] at c0
  rw [← hs0] at cs ⊢
  have q1 : (i : Int) < (N : Int) := by omega
  have q0 : (0 : Int) ≤ (i : Int) := by omega
  replace cm := Lib.hid cm
  rw [← hn] at hfew
  by_cases hz : D.loose.length = 0
  · have hl : D.loose = [] := List.eq_nil_of_length_eq_zero hz
    obtain ⟨a, c, e⟩ := own_len hd.loose
    rw [hz] at e
    subst e
    rw [hl]
    clear hd h0 h4 hn hN hs0 hl hz hfew hdone
    go_enter Tryz.func33, Tryz.ntmps33
    go_wp2_with ((go_at_call 48; with_reducible refine cm.out.mono ?_; rintro e w1 ⟨rfl, rfl⟩))
    refine wp_loop_rounds 1 ?_
    rw [rounds_succ]
    go_wp2
    go_ret2
    exact ⟨rfl, rfl⟩
  · obtain ⟨g2, cap, e, hg2, hcl⟩ := hd.looseCells (by omega)
    rw [← hn] at e hz
    subst e
    obtain ⟨L, hL⟩ : ∃ L, L = D.loose := ⟨_, rfl⟩
    rw [← hL] at hcl hn ⊢
    have HC := Lib.hid hcl
    have HN := Lib.hid hn
    have zn : n ≤ 1099511627776 := by omega
    clear hd h0 h4 hn hN hs0 hL hcl hz hfew hdone
    go_enter Tryz.func33, Tryz.ntmps33
    go_wp2_with ((go_at_call 48; with_reducible refine cm.out.mono ?_; rintro e w1 ⟨rfl, rfl⟩))
    go_loop [7] (fun v7 => ∃ k : Nat, v7 = .int .i64 ((k : Int) - 1) ∧ k ≤ n ∧ Hid (lastW L i s0 = lastW (L.take k) i s0)) (fun v7 => (intOf v7 + 1).toNat)
    case atStart => exact ⟨n, rfl, Nat.le_refl _, by rw [HN.out, List.take_length]; exact rfl⟩
    case round =>
      obtain ⟨k, rfl, hk, hw⟩ := hrel
      rcases k with _ | k
      · have e1 : ((0 : Nat) : Int) - 1 = -1 := rfl
        rw [e1]
        go_wp2
        go_ret2
        exact ⟨by rw [hw.out]; rfl, rfl⟩
      · have e1 : ((k + 1 : Nat) : Int) - 1 = (k : Int) := by omega
        rw [e1]
        have hkl : k < L.length := by rw [← HN.out]; omega
        obtain ⟨x, hx⟩ : ∃ x, L[k]? = some x := ⟨_, List.getElem?_eq_getElem hkl⟩
        obtain ⟨ca, cb⟩ := HC.out k x hx
        have hst : lastW (L.take (k + 1)) i s0 = if x.1 = i then x.2 else lastW (L.take k) i s0 := by
          rw [List.take_succ_eq_append_getElem hkl, lastW_snoc]
          rw [List.getElem?_eq_getElem hkl] at hx
          cases hx
          rfl
        have b0 : (0 : Int) ≤ (k : Int) := by omega
        have b1 : (k : Int) < (n : Int) := by omega
        by_cases he : x.1 = i
        · have t1 : ((x.1 : Int) == (i : Int)) = true := by rw [he, beq_self_eq_true]
          rw [if_pos he] at hst
          have HW := Lib.hid (hw.out.trans hst)
          clear hw hst he hx
          go_wp2
          go_ret2
          exact ⟨by rw [HW.out]; rfl, rfl⟩
        · have t1 : ((x.1 : Int) == (i : Int)) = false := by rw [beq_eq_false_iff_ne]; omega
          rw [if_neg he] at hst
          have HW := Lib.hid (hw.out.trans hst)
          clear hw hst he hx
          go_wp2
          go_round
          case rel => exact ⟨k, rfl, by omega, HW.out⟩
          case measure => simp [intOf]

theorem Read_any (w : World) (F : Nat → Prop) (p : Nat) (D : DS) (i : Int) (h : Dsk w F p D) :
    Calls Tryz.prog 33 #[.pointer (some ⟨p, 0, none⟩), .int .i64 i] w fun e w' => e = .returned (.tuple #[.string (D.readS i), errV (D.may i)]) ∧ w = w' := by
  by_cases h0 : D.may i = 0
  · have h1 := DS.may_zero.1 h0
    obtain ⟨k, rfl⟩ : ∃ k : Nat, i = (k : Int) := ⟨i.toNat, by omega⟩
    have := Read_yes w F p D k h h0
    unfold DS.readS
    rw [if_neg (by simpa using h0), h0]
    exact this
  · exact Read_no w F p D i h h0
end Go.Proofs.YtjincmagbbpooaaGreatDoor
