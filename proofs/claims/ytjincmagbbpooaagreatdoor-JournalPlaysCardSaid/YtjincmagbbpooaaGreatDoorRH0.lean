import Derived.Test.YtjincmagbbpooaaGreatDoorRG
set_option linter.unusedVariables false
set_option linter.unusedSimpArgs false
namespace Go.Proofs.YtjincmagbbpooaaGreatDoor
open Go.RowKit

/-! ### plain law: sectors that were written without an error -/
theorem write_ok {D : DS} {i : Nat} {b : ByteArray} (h : D.writeC (i : Int) b = 0) :
    (D.write (i : Int) b).dead = false ∧ D.dead = false ∧ (∀ j, (D.write (i : Int) b).v j = if j = i then fillB b else D.v j) ∧ (D.write (i : Int) b).sure = D.sure := by
  obtain ⟨h1, h2, h3⟩ := DS.writeC_zero.1 h
  obtain ⟨m1, m2, m3⟩ := DS.may_zero.1 h1
  obtain ⟨h0, hw⟩ := write_live (D := D) m1 h3 (i := i) (by omega) h2
  refine ⟨?_, m1, ?_, ?_⟩
  · rw [hw]; exact m1
  · rw [hw]; exact fun j => v_put D i j b
  · rw [hw]; rfl
/-- putF, where there was no error. -/
theorem putF_ok (which : Nat) (hw : which ≤ 1) (b : ByteArray) : ∀ (f i : Nat) (D : DS), D.dead = false → b.size ≤ D.half * 64 → (putF which b f i D).2 = 0 → b.size < (f + i) * 64 →
    (putF which b f i D).1.dead = false ∧ (putF which b f i D).1.sure.length = D.sure.length ∧ (∀ t, i ≤ t → t * 64 < b.size → (putF which b f i D).1.v (D.sec which t) = fillB (partB b (t * 64) 64)) ∧
      (∀ j, (∀ t, i ≤ t → t * 64 < b.size → j ≠ D.sec which t) → (putF which b f i D).1.v j = D.v j)
  | 0, i, D, hd, _, _, hf => ⟨hd, rfl, fun t h1 h2 => by omega, fun j _ => rfl⟩
  | f + 1, i, D, hd, hb, h, hf => by
    unfold putF at h ⊢
    by_cases h1 : b.size ≤ i * 64
    · rw [if_pos h1] at h ⊢
      exact ⟨hd, rfl, fun t h2 h3 => by omega, fun j _ => rfl⟩
    rw [if_neg h1] at h ⊢
    by_cases h2 : D.writeC (D.sec which i : Int) (partB b (i * 64) 64) ≠ 0
    · rw [if_pos h2] at h
      exact absurd h h2
    rw [if_neg h2] at h ⊢
    obtain ⟨w1, w2, w3, w4⟩ := write_ok (Classical.byContradiction h2)
    have hl : (D.write (D.sec which i : Int) (partB b (i * 64) 64)).sure.length = D.sure.length := by rw [w4]
    obtain ⟨g1, g2, g3, g4⟩ := putF_ok which hw b f (i + 1) _ w1 (by rw [half_eq hl]; exact hb) h (by omega)
    refine ⟨g1, g2.trans hl, fun t ht1 ht2 => ?_, fun j hj => ?_⟩
    · by_cases hti : t = i
      · subst hti
        rw [g4 _ (fun t' h3 h4 e' => by
          rw [sec_eq hl] at e'
          have := (sec_inj hw hw (by omega) (by omega) e').2
          omega), w3, if_pos rfl]
      · have := g3 t (by omega) ht2
        rw [sec_eq hl] at this
        exact this
    · rw [g4 j (fun t ht1 ht2 => by rw [sec_eq hl]; exact hj t (by omega) ht2), w3, if_neg (hj i (Nat.le_refl _) (by omega))]
/-- fillF, where there was no error. -/
theorem fillF_ok (which : Nat) (hw : which ≤ 1) (b : ByteArray) : ∀ (f i : Nat) (D : DS), D.dead = false → i + f ≤ D.half → (fillF which b f i D).2 = 0 →
    (fillF which b f i D).1.dead = false ∧ (fillF which b f i D).1.sure.length = D.sure.length ∧ (∀ t, i ≤ t → t < i + f → (fillF which b f i D).1.v (D.sec which t) = fillB (partB b (t * 64) 64)) ∧
      (∀ j, (∀ t, i ≤ t → t < i + f → j ≠ D.sec which t) → (fillF which b f i D).1.v j = D.v j)
  | 0, i, D, hd, _, _ => ⟨hd, rfl, fun t h1 h2 => by omega, fun j _ => rfl⟩
  | f + 1, i, D, hd, hb, h => by
    unfold fillF at h ⊢
    by_cases h2 : D.writeC (D.sec which i : Int) (partB b (i * 64) 64) ≠ 0
    · rw [if_pos h2] at h
      exact absurd h h2
    rw [if_neg h2] at h ⊢
    obtain ⟨w1, w2, w3, w4⟩ := write_ok (Classical.byContradiction h2)
    have hl : (D.write (D.sec which i : Int) (partB b (i * 64) 64)).sure.length = D.sure.length := by rw [w4]
    obtain ⟨g1, g2, g3, g4⟩ := fillF_ok which hw b f (i + 1) _ w1 (by rw [half_eq hl]; omega) h
    refine ⟨g1, g2.trans hl, fun t ht1 ht2 => ?_, fun j hj => ?_⟩
    · by_cases hti : t = i
      · subst hti
        rw [g4 _ (fun t' h3 h4 e' => by
          rw [sec_eq hl] at e'
          have := (sec_inj hw hw (by omega) (by omega) e').2
          omega), w3, if_pos rfl]
      · have := g3 t (by omega) (by omega)
        rw [sec_eq hl] at this
        exact this
    · rw [g4 j (fun t ht1 ht2 => by rw [sec_eq hl]; exact hj t (by omega) (by omega)), w3, if_neg (hj i (Nat.le_refl _) (by omega))]
/-- diffF, where there was no error. -/
theorem diffF_ok (which : Nat) (hw : which ≤ 1) (b : ByteArray) : ∀ (f i n : Nat) (D : DS), D.dead = false → i + f ≤ D.half → (diffF which b f i n D).2.2 = 0 →
    (diffF which b f i n D).1.dead = false ∧ (diffF which b f i n D).1.sure.length = D.sure.length ∧ (∀ t, i ≤ t → t < i + f → (diffF which b f i n D).1.v (D.sec which t) = fillB (partB b (t * 64) 64)) ∧
      (∀ j, (∀ t, i ≤ t → t < i + f → j ≠ D.sec which t) → (diffF which b f i n D).1.v j = D.v j)
  | 0, i, n, D, hd, _, _ => ⟨hd, rfl, fun t h1 h2 => by omega, fun j _ => rfl⟩
  | f + 1, i, n, D, hd, hb, h => by
    have hlt : i < D.half := by omega
    have hm := may_sec hd hw hlt
    have hz : (partB b (i * 64) 64).size ≤ 64 := partB_size _ _ _
    have hff : fillB (fillB (partB b (i * 64) 64)) = fillB (partB b (i * 64) 64) := fill_fill hz
    unfold diffF at h ⊢
    rw [if_neg (by rw [hm]; decide), readS_v hm] at h ⊢
    by_cases hs : D.v (D.sec which i) = fillB (partB b (i * 64) 64)
    · rw [if_pos hs] at h ⊢
      obtain ⟨g1, g2, g3, g4⟩ := diffF_ok which hw b f (i + 1) n D hd (by omega) h
      refine ⟨g1, g2, fun t ht1 ht2 => ?_, fun j hj => g4 j (fun t ht1 ht2 => hj t (by omega) (by omega))⟩
      by_cases hti : t = i
      · subst hti
        rw [g4 _ (fun t' h3 h4 e' => by
          have := (sec_inj hw hw hlt (by omega) e').2
          omega)]
        exact hs
      · exact g3 t (by omega) (by omega)
    · rw [if_neg hs] at h ⊢
      by_cases h2 : D.writeC (D.sec which i : Int) (fillB (partB b (i * 64) 64)) ≠ 0
      · rw [if_pos h2] at h
        exact absurd h h2
      rw [if_neg h2] at h ⊢
      obtain ⟨w1, w2, w3, w4⟩ := write_ok (Classical.byContradiction h2)
      have hl : (D.write (D.sec which i : Int) (fillB (partB b (i * 64) 64))).sure.length = D.sure.length := by rw [w4]
      obtain ⟨g1, g2, g3, g4⟩ := diffF_ok which hw b f (i + 1) (n + 1) _ w1 (by rw [half_eq hl]; omega) h
      refine ⟨g1, g2.trans hl, fun t ht1 ht2 => ?_, fun j hj => ?_⟩
      · by_cases hti : t = i
        · subst hti
          rw [g4 _ (fun t' h3 h4 e' => by
            rw [sec_eq hl] at e'
            have := (sec_inj hw hw (by omega) (by omega) e').2
            omega), w3, if_pos rfl, hff]
        · have := g3 t (by omega) (by omega)
          rw [sec_eq hl] at this
          exact this
      · rw [g4 j (fun t ht1 ht2 => by rw [sec_eq hl]; exact hj t (by omega) (by omega)), w3, if_neg (hj i (Nat.le_refl _) (by omega))]

/-- What lays comes to, as the document says it. -/
def laysR (D : DS) (J : JS) (sup : Nat) (b : ByteArray) : DS × Int :=
  if (fillF (1 - J.which) b D.half 0 D).2 ≠ 0 then fillF (1 - J.which) b D.half 0 D
  else if (fillF (1 - J.which) b D.half 0 D).1.flushC ≠ 0 then ((fillF (1 - J.which) b D.half 0 D).1.flush, (fillF (1 - J.which) b D.half 0 D).1.flushC)
  else (fillF (1 - J.which) b D.half 0 D).1.flush.super (1 - sup) (J.turn + 1) (1 - J.which)
theorem lays_doc {D : DS} {J : JS} {sup : Nat} {b : ByteArray} (hok : D.ok) (hd : D.dead = false) (h2 : 2 ≤ D.sure.length) (hw : J.which ≤ 1) (hsup : (readB (D.v 0)).1 = J.turn ↔ sup = 0) (hs1 : sup ≤ 1) (hdone : D.done < 1099510000000) : laysJ D J b = laysR D J sup b := by
  unfold laysJ laysR
  simp only
  by_cases h0 : (fillF (1 - J.which) b D.half 0 D).2 ≠ 0
  · rw [if_pos h0, if_pos h0]
  rw [if_neg h0, if_neg h0]
  obtain ⟨g1, g2, g3, g4⟩ := fillF_ok (1 - J.which) (by omega) b D.half 0 D hd (by omega) (Classical.byContradiction h0)
  have hv0 : (fillF (1 - J.which) b D.half 0 D).1.v 0 = D.v 0 := g4 0 (fun t _ _ e => by have := sec_two (D := D) (1 - J.which) t; omega)
  have hok2 : (fillF (1 - J.which) b D.half 0 D).1.ok := by
    have : ∀ (f i : Nat) (E : DS), E.ok → E.done + f < 1099511627776 → (fillF (1 - J.which) b f i E).1.ok := by
      intro f
      induction f with
      | zero => exact fun i E h _ => h
      | succ f ih =>
        intro i E h hd2
        unfold fillF
        have hk := h.write (E.sec (1 - J.which) i : Int) (partB b (i * 64) 64) (by omega)
        split
        · exact hk
        · exact ih _ _ hk (by have := E.write_done (E.sec (1 - J.which) i : Int) (partB b (i * 64) 64); omega)
    exact this _ _ _ hok (by have := half_le hok; omega)
  generalize (fillF (1 - J.which) b D.half 0 D).1 = E at g1 g2 hv0 hok2 ⊢
  by_cases h1 : E.flushC ≠ 0
  · rw [if_pos h1, if_pos h1]
  rw [if_neg h1, if_neg h1]
  obtain ⟨v0, _, vd, _⟩ := v_flush hok2 g1 0
  have hm : E.flush.may 0 = 0 := may_live (i := 0) vd (by rw [DS.flush_len, g2]; omega)
  rw [if_neg (by rw [hm]; decide)]
  have hr : E.flush.readS 0 = D.v 0 := (readS_v (i := 0) hm).trans (v0.trans hv0)
  rw [hr]
  by_cases hs : sup = 0
  · rw [if_pos (hsup.2 hs), hs]
  · rw [if_neg (fun h => hs (hsup.1 h)), show sup = 1 by omega]
theorem empty_app (a : ByteArray) : (⟨#[]⟩ : ByteArray) ++ a = a := by apply bys_inj; rw [bys_append]; rfl
theorem compact_doc (D : DS) (J : JS) (rs : List ByteArray) (h : J.dead = false) : compactJ D J rs =
    if D.half * 64 < (framesB (J.turn + 1) 0 rs).size then (D, J, 14)
    else if (laysJ D J (framesB (J.turn + 1) 0 rs)).2 ≠ 0 then ((laysJ D J (framesB (J.turn + 1) 0 rs)).1, { J with dead := true }, (laysJ D J (framesB (J.turn + 1) 0 rs)).2)
    else ((laysJ D J (framesB (J.turn + 1) 0 rs)).1, ⟨J.turn + 1, 1 - J.which, framesB (J.turn + 1) 0 rs, rs.length, false⟩, 0) := by
  unfold compactJ
  rw [if_neg (by rw [h]; decide)]
  unfold wrapJ
  rw [empty_app]
  by_cases h1 : D.half * 64 < (framesB (J.turn + 1) 0 rs).size
  · rw [if_pos h1, if_pos h1]
    simp
  · rw [if_neg h1, if_neg h1]
    simp
/-- What a round of the first loop of the document's Compact loads. -/
def rAL (q turn : Nat) (a : Addr) (r : ByteArray) : Nat → World → Prop := fun i w' => match i with
  | 1 => w'.cell? ⟨q, 1, none⟩ = some (.int .i64 (turn : Int))
  | 2 => w'.cell? a = some (.string r)
  | _ => True
theorem rAL_of {q p : Nat} {R : RS} {w : World} {t : TypeId} {a : Addr} {r : ByteArray} (h : Blk w q t (rjCells p R)) (ha : w.cell? a = some (.string r)) (i : Nat) : rAL q R.turn a r i w := by
  match i with
  | 0 => exact trivial
  | 1 => exact h.cell 1
  | 2 => exact ha
  | _ + 3 => exact trivial
def rD28 : Nat → List Nat
  | 0 => []
  | _ + 1 => [26, 29, 32, 35, 38]
end Go.Proofs.YtjincmagbbpooaaGreatDoor
