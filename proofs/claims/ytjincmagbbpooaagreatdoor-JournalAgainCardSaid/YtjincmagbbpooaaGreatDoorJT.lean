import Derived.Test.YtjincmagbbpooaaGreatDoorJS
set_option linter.unusedVariables false
set_option linter.unusedSimpArgs false
namespace Go.Proofs.YtjincmagbbpooaaGreatDoor
open Go.RowKit

theorem Good.same {D E : DS} {J : JS} {rs : List ByteArray} (h : Good D J rs) (ok : E.ok) (alive : E.dead = false) (hl : E.sure.length = D.sure.length) (hv : ∀ j, E.v j = D.v j) : Good E J rs where
  ok := ok
  alive := alive
  four := by rw [hl]; exact h.four
  jdead := h.jdead
  turn1 := h.turn1
  turn2 := h.turn2
  which := h.which
  n := h.n
  b := h.b
  fits := by rw [half_eq hl]; exact h.fits
  sect := fun i hi => by rw [sec_eq hl, hv]; rw [half_eq hl] at hi; exact h.sect i hi
  news := by rw [hv, hv]; exact h.news
  size := h.size
  few := h.few
def J0 : JS := ⟨1, 0, ⟨#[]⟩, 0, false⟩
theorem fill_empty : fillB ⟨#[]⟩ = zeroB 64 := by decide
theorem newer_one : newer (newer (0, 0) (1, 0)) (0, 0) = (1, 0) := by decide
theorem format_good {D : DS} (h : Live D) (h4 : 4 ≤ D.sure.length) (hd : D.done < 1099500000000) :
    D.format.2 = 0 ∧ Good D.format.1 J0 [] ∧ Live D.format.1 ∧ D.format.1.loose = [] ∧ D.format.1.sure.length = D.sure.length ∧ D.format.1.done ≤ D.done + 1010 := by
  have hhalf := half_le h.ok
  obtain ⟨c1, L1, v1, s1, d1⟩ := h.put (i := 1) (by omega) (b := ⟨#[]⟩) (by decide) (by omega)
  have l1 : (D.write ((1 : Nat) : Int) ⟨#[]⟩).sure.length = D.sure.length := by rw [s1]
  have e1 : D.write 1 ⟨#[]⟩ = D.write ((1 : Nat) : Int) ⟨#[]⟩ := rfl
  have ec : D.writeC 1 ⟨#[]⟩ = 0 := c1
  unfold DS.format
  rw [if_neg (by omega), ec, e1, if_neg (by decide)]
  generalize D.write ((1 : Nat) : Int) ⟨#[]⟩ = D1 at L1 v1 s1 d1 l1
  obtain ⟨D2, n2, e2, L2, l2, d2, v2, o2⟩ := diff_live 0 (by decide) ⟨#[]⟩ D1.half 0 0 D1 L1 (by omega) (by have := half_eq l1; omega)
  have e2' : D1.diff 0 ⟨#[]⟩ 0 = (D2, n2, 0) := by unfold DS.diff; rw [Nat.sub_zero]; exact e2
  rw [e2']
  simp only
  rw [if_neg (by decide)]
  obtain ⟨L3, v3, lo3, c3, l3, d3⟩ := L2.flush
  rw [c3, if_neg (by decide)]
  generalize D2.flush = D3 at L3 v3 lo3 l3 d3
  have hlen3 : D3.sure.length = D.sure.length := l3.trans (l2.trans l1)
  obtain ⟨c4, L4, v4, lo4, l4, d4⟩ := super_live L3 0 1 0 (by omega) (by decide) (by decide) (by rw [half_eq l1] at d2; omega)
  have hlen : (D3.super 0 1 0).1.sure.length = D.sure.length := l4.trans hlen3
  refine ⟨c4, ?_, L4, lo4, hlen, by rw [half_eq l1] at d2; omega⟩
  refine ⟨L4.ok, L4.alive, by rw [hlen]; exact h4, rfl, by decide, by decide, by decide, rfl, rfl, Nat.zero_le _, fun i hi => ?_, ?_, fun r hr => (by cases hr), by decide⟩
  · rw [half_eq (hlen.trans l1.symm)] at hi
    rw [sec_eq (hlen.trans l1.symm), v4, if_neg (by have := sec_two (D := D1) J0.which i; omega), v3]
    exact v2 i (Nat.zero_le _) (by omega)
  · have x0 : (D3.super 0 1 0).1.v 0 = fillB (superB 1 0) := by rw [v4, if_pos rfl]
    have x1 : (D3.super 0 1 0).1.v 1 = zeroB 64 := by
      rw [v4, if_neg (by decide), v3, o2 1 (fun t ht1 ht2 => by have := sec_two (D := D1) 0 t; omega), v1, if_pos rfl, fill_empty]
    rw [x0, x1, super_read 1 0 (by decide) (by decide) (by decide), zero_read, newer_one]
    rfl

theorem part_none {b : ByteArray} {i : Nat} (h : b.size ≤ i) : partB b i 64 = ⟨#[]⟩ := by
  apply bys_inj
  rw [part_bys, List.drop_eq_nil_of_le (by rw [bys_length]; exact h)]
  rfl
theorem part_append {b x : ByteArray} {i : Nat} (h : i + 64 ≤ b.size) : partB (b ++ x) i 64 = partB b i 64 := by
  apply bys_inj
  rw [part_bys, part_bys, bys_append, List.drop_append_of_le_length (by rw [bys_length]; omega), List.take_append_of_le_length (by rw [List.length_drop, bys_length]; omega)]
theorem putF_live (which : Nat) (hw : which ≤ 1) (b : ByteArray) : ∀ (f i : Nat) (D : DS), Live D → (∀ t, i ≤ t → t * 64 < b.size → t < D.half) → b.size < (f + i) * 64 → D.done + (D.half - i) < 1099511627776 →
    ∃ D', putF which b f i D = (D', 0) ∧ Live D' ∧ D'.sure = D.sure ∧ D'.done ≤ D.done + (D.half - i) ∧ (∀ t, i ≤ t → t * 64 < b.size → D'.v (D.sec which t) = fillB (partB b (t * 64) 64)) ∧
      (∀ j, (∀ t, i ≤ t → t * 64 < b.size → j ≠ D.sec which t) → D'.v j = D.v j)
  | 0, i, D, h, _, hf, _ => ⟨D, rfl, h, rfl, Nat.le_add_right _ _, fun t h1 h2 => by omega, fun j _ => rfl⟩
  | f + 1, i, D, h, hi, hf, hd => by
    unfold putF
    by_cases hb : b.size ≤ i * 64
    · rw [if_pos hb]
      exact ⟨D, rfl, h, rfl, Nat.le_add_right _ _, fun t h1 h2 => by omega, fun j _ => rfl⟩
    rw [if_neg hb]
    have hlt := hi i (Nat.le_refl _) (by omega)
    have hsl := sec_lt (D := D) hw hlt
    obtain ⟨hc, hL, hv, hsu, hdo⟩ := h.put hsl (b := partB b (i * 64) 64) (partB_size _ _ _) (by omega)
    have hlen1 : (D.write (D.sec which i : Int) (partB b (i * 64) 64)).sure.length = D.sure.length := by rw [hsu]
    rw [if_neg (by rw [hc]; decide)]
    obtain ⟨D', e, hl, hs', hdn, h1, h2⟩ := putF_live which hw b f (i + 1) _ hL (fun t ht1 ht2 => by rw [half_eq hlen1]; exact hi t (by omega) ht2) (by omega) (by rw [half_eq hlen1]; omega)
    rw [half_eq hlen1] at hdn
    refine ⟨D', e, hl, hs'.trans hsu, by omega, fun t ht1 ht2 => ?_, fun j hj => ?_⟩
    · by_cases hti : t = i
      · subst hti
        rw [h2 _ (fun t' h3 h4 e' => by
          rw [sec_eq hlen1] at e'
          have := (sec_inj hw hw hlt (hi t' (by omega) h4) e').2
          omega), hv, if_pos rfl]
      · have := h1 t (by omega) ht2
        rw [sec_eq hlen1] at this
        exact this
    · rw [h2 j (fun t ht1 ht2 => by rw [sec_eq hlen1]; exact hj t (by omega) ht2), hv, if_neg (hj i (Nat.le_refl _) (by omega))]

theorem add_good {D : DS} {J : JS} {rs : List ByteArray} {r : ByteArray} (h : Good D J rs) (hl : Live D) (hr : r.size ≤ 1000) (hf : (framesB J.turn 0 (rs ++ [r])).size ≤ D.half * 64) (hn : rs.length + 1 ≤ 1000) (hd : D.done < 1099500000000) :
    ∃ D', addJ D J r = (D', ⟨J.turn, J.which, framesB J.turn 0 (rs ++ [r]), rs.length + 1, false⟩, 0) ∧ Good D' ⟨J.turn, J.which, framesB J.turn 0 (rs ++ [r]), rs.length + 1, false⟩ (rs ++ [r]) ∧ Live D' ∧ D'.sure = D.sure ∧ D'.done ≤ D.done + 1000 := by
  have hhalf := half_le h.ok
  have hb : J.b ++ framesB J.turn J.n [r] = framesB J.turn 0 (rs ++ [r]) := by
    rw [framesB_snoc, Nat.zero_add, h.b, h.n]
    congr 1
    exact append_empty _
  have hcat : framesB J.turn 0 (rs ++ [r]) = J.b ++ wrapS (J.turn * 1000000 + (0 + rs.length)) r := by rw [framesB_snoc, h.b]
  have hbz : J.b.size ≤ (framesB J.turn 0 (rs ++ [r])).size := by rw [hcat, ByteArray.size_append]; omega
  have hpa : ∀ i, i + 64 ≤ J.b.size → partB (framesB J.turn 0 (rs ++ [r])) i 64 = partB J.b i 64 := fun i hi => by rw [hcat]; exact part_append hi
  have hx : wrapJ (D.half * 64) J.turn J.n [r] J.b = (framesB J.turn 0 (rs ++ [r]), 0) := by
    unfold wrapJ
    rw [hb, if_neg (by omega)]
  unfold addJ
  rw [if_neg (by rw [h.jdead]; decide)]
  simp only
  rw [hx]
  simp only
  rw [if_neg (by decide)]
  obtain ⟨B, hB⟩ : ∃ B, B = framesB J.turn 0 (rs ++ [r]) := ⟨_, rfl⟩
  rw [← hB] at hf hbz hpa ⊢
  obtain ⟨D', e, hl', hs', hdn, h1, h2⟩ := putF_live J.which h.which B (B.size + 1) (J.b.size / 64) D hl (fun t ht1 ht2 => by omega) (by omega) (by omega)
  rw [e]
  simp only
  rw [if_neg (by decide)]
  have hlen : D'.sure.length = D.sure.length := by rw [hs']
  refine ⟨D', by rw [h.n, h.jdead], ?_, hl', hs', by omega⟩
  refine ⟨hl'.ok, hl'.alive, by rw [hlen]; exact h.four, rfl, h.turn1, h.turn2, h.which, by simp, by rw [hB], by rw [half_eq hlen]; exact hf, fun i hi => ?_, ?_, fun x hx => ?_, by simp; omega⟩
  · rw [half_eq hlen] at hi
    rw [sec_eq hlen]
    simp only
    by_cases hge : B.size ≤ i * 64
    · rw [h2 _ (fun t ht1 ht2 e' => by
        have := (sec_inj h.which h.which hi (by omega) e').2
        omega), h.sect i hi, part_none (show J.b.size ≤ i * 64 by omega), part_none hge]
    · by_cases hlo : J.b.size / 64 ≤ i
      · exact h1 i hlo (by omega)
      · rw [h2 _ (fun t ht1 ht2 e' => by
          have := (sec_inj h.which h.which hi (by omega) e').2
          omega), h.sect i hi, hpa _ (by omega)]
  · simp only
    rw [h2 0 (fun t _ _ e' => by have := sec_two (D := D) J.which t; omega), h2 1 (fun t _ _ e' => by have := sec_two (D := D) J.which t; omega)]
    exact h.news
  · rcases List.mem_append.1 hx with hx | hx
    · exact h.size x hx
    · obtain rfl := List.mem_singleton.1 hx
      exact hr
theorem sync_good {D : DS} {J : JS} {rs : List ByteArray} (h : Good D J rs) (hl : Live D) : syncJ D J = (D.flush, J, 0) ∧ Good D.flush J rs ∧ Live D.flush ∧ D.flush.loose = [] ∧ D.flush.done = D.done ∧ D.flush.sure.length = D.sure.length := by
  obtain ⟨f1, f2, f3, f4, f5, f6⟩ := hl.flush
  refine ⟨?_, h.same f1.ok f1.alive f5 f2, f1, f3, f6, f5⟩
  unfold syncJ JS.fail
  rw [if_neg (by rw [h.jdead]; decide), f4, if_pos rfl]
theorem crash_live {D : DS} (h : D.ok) (hl : D.loose = []) (keep : Nat → Bool) (torn : Int) : Live (D.crash keep torn) :=
  ⟨h.crash keep torn, rfl, rfl⟩
theorem crash_good {D : DS} {J : JS} {rs : List ByteArray} (h : Good D J rs) (hl : D.loose = []) (keep : Nat → Bool) (torn : Int) : Good (D.crash keep torn) J rs :=
  h.same (h.ok.crash keep torn) rfl (by rw [(v_crash hl keep torn 0).2.2.2.2]) (fun j => (v_crash hl keep torn j).1)
theorem keep_none (torn : Int) (l : List (Nat × ByteArray)) (s : List ByteArray) : ∀ n, keepN (keepOf []) torn l s n = s
  | 0 => rfl
  | n + 1 => by
    have : keepN (keepOf []) torn l s (n + 1) = keepStep (keepOf []) torn n (l.getD n (0, ⟨#[]⟩)) (keepN (keepOf []) torn l s n) := rfl
    rw [this, keep_none torn l s n]
    unfold keepStep keepOf
    rw [if_neg (by simp)]
/-- What waited is lost. -/
theorem crash_back {D E : DS} {J : JS} {rs : List ByteArray} (h : Good D J rs) (hl : D.loose = []) (ok : E.ok) (hs : E.sure = D.sure) (torn : Int) : Good (E.crash (keepOf []) torn) J rs := by
  have e : (E.crash (keepOf []) torn).sure = D.sure := by
    show keepN _ _ _ _ _ = _
    rw [keep_none, hs]
  refine h.same (ok.crash _ _) rfl (by rw [e]) (fun j => ?_)
  show lastW [] j ((E.crash (keepOf []) torn).sure.getD j ⟨#[]⟩) = D.v j
  rw [e]
  unfold DS.v
  rw [hl]
theorem new_live (n : Nat) (h1 : 1 ≤ n) (h2 : n ≤ 2000) : Live (newD n) := ⟨newD_ok n h1 h2, rfl, rfl⟩
end Go.Proofs.YtjincmagbbpooaaGreatDoor
