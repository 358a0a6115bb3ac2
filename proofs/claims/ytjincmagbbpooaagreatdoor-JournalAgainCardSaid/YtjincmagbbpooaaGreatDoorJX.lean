import Derived.Test.YtjincmagbbpooaaGreatDoorJT
set_option linter.unusedVariables false
set_option linter.unusedSimpArgs false
namespace Go.Proofs.YtjincmagbbpooaaGreatDoor
open Go.RowKit

/-! ### plain law: compaction, whole or cut off -/
theorem Good.same2 {D E : DS} {J : JS} {rs : List ByteArray} (h : Good D J rs) (ok : E.ok) (alive : E.dead = false) (hl : E.sure.length = D.sure.length) (hv : ∀ j, (j ≤ 1 ∨ ∃ i, i < D.half ∧ j = D.sec J.which i) → E.v j = D.v j) : Good E J rs where
  ok := ok
  alive := alive
  four := by rw [hl]; exact h.four
  jdead := h.jdead
  turn1 := h.turn1
  turn2 := h.turn2
  which := h.which
  n := h.n
  b := h.b
  fits := by rw [half_eq hl]; exact h.fits
  sect := fun i hi => by rw [half_eq hl] at hi; rw [sec_eq hl, hv _ (.inr ⟨i, hi, rfl⟩)]; exact h.sect i hi
  news := by rw [hv 0 (.inl (by decide)), hv 1 (.inl (by decide))]; exact h.news
  size := h.size
  few := h.few
theorem put_step {D : DS} (ok : D.ok) (h : D.dead = false) (hl : D.left ≠ 0) {i : Nat} (hi : i < D.sure.length) {b : ByteArray} (hb : b.size ≤ 64) (hd : D.done < 1099511627776) :
    D.writeC (i : Int) b = 0 ∧ (D.write (i : Int) b).ok ∧ (D.write (i : Int) b).dead = false ∧ (D.write (i : Int) b).left = (if 0 < D.left then D.left - 1 else D.left) ∧ (∀ j, (D.write (i : Int) b).v j = if j = i then fillB b else D.v j) ∧
      (D.write (i : Int) b).sure = D.sure ∧ (D.write (i : Int) b).done = D.done + 1 ∧ (D.write (i : Int) b).loose = D.loose ++ [(i, fillB b)] := by
  obtain ⟨h0, hw⟩ := write_live h hl hi hb
  refine ⟨h0, ok.write _ _ hd, ?_, ?_, ?_, ?_, ?_, ?_⟩ <;> rw [hw]
  · exact h
  · rfl
  · exact fun j => v_put D i j b
  · rfl
  · rfl
  · rfl
theorem fill_ok (which : Nat) (hw : which ≤ 1) (b : ByteArray) : ∀ (f i : Nat) (D : DS), D.ok → D.dead = false → (D.left < 0 ∨ (f : Int) ≤ D.left) → i + f ≤ D.half → D.done + f < 1099511627776 →
    ∃ D', fillF which b f i D = (D', 0) ∧ D'.ok ∧ D'.dead = false ∧ D'.left = (if D.left < 0 then D.left else D.left - f) ∧ D'.sure = D.sure ∧ D'.done = D.done + f ∧
      (∀ t, i ≤ t → t < i + f → D'.v (D.sec which t) = fillB (partB b (t * 64) 64)) ∧ (∀ j, (∀ t, i ≤ t → t < i + f → j ≠ D.sec which t) → D'.v j = D.v j)
  | 0, i, D, ok, h, hl, _, _ => ⟨D, rfl, ok, h, by split <;> simp, rfl, rfl, fun t h1 h2 => by omega, fun j _ => rfl⟩
  | f + 1, i, D, ok, h, hl, hi, hd => by
    have hlt : i < D.half := by omega
    have hsl := sec_lt (D := D) hw hlt
    obtain ⟨p0, pok, pd, pl, pv, ps, pn, -⟩ := put_step ok h (by rcases hl with hl | hl <;> omega) hsl (b := partB b (i * 64) 64) (partB_size _ _ _) (by omega)
    have hlen1 : (D.write (D.sec which i : Int) (partB b (i * 64) 64)).sure.length = D.sure.length := by rw [ps]
    have hl1 : (D.write (D.sec which i : Int) (partB b (i * 64) 64)).left < 0 ∨ (f : Int) ≤ (D.write (D.sec which i : Int) (partB b (i * 64) 64)).left := by
      rw [pl]
      rcases hl with hl | hl
      · left; rw [if_neg (by omega)]; exact hl
      · right; rw [if_pos (by omega)]; omega
    unfold fillF
    rw [if_neg (by rw [p0]; decide)]
    obtain ⟨D', e, k1, k2, k3, k4, k5, k6, k7⟩ := fill_ok which hw b f (i + 1) _ pok pd hl1 (by rw [half_eq hlen1]; omega) (by rw [pn]; omega)
    refine ⟨D', e, k1, k2, ?_, k4.trans ps, by rw [k5, pn]; omega, fun t ht1 ht2 => ?_, fun j hj => ?_⟩
    · rw [k3, pl]
      rcases hl with hl | hl
      · rw [if_pos hl, if_neg (show ¬ 0 < D.left by omega), if_pos hl]
      · rw [if_neg (show ¬ D.left < 0 by omega), if_pos (show 0 < D.left by omega), if_neg (by omega)]; omega
    · by_cases hti : t = i
      · subst hti
        rw [k7 _ (fun t' h3 h4 e' => by
          rw [sec_eq hlen1] at e'
          have := (sec_inj hw hw hlt (by omega) e').2
          omega), pv, if_pos rfl]
      · have := k6 t (by omega) (by omega)
        rw [sec_eq hlen1] at this
        exact this
    · rw [k7 j (fun t ht1 ht2 => by rw [sec_eq hlen1]; exact hj t (by omega) (by omega)), pv, if_neg (hj i (Nat.le_refl _) (by omega))]
theorem cut_step {D : DS} (ok : D.ok) (h : D.dead = false) (hl : D.left = 0) {i : Nat} (hi : i < D.sure.length) {b : ByteArray} (hb : b.size ≤ 64) : D.writeC (i : Int) b = 25 ∧ D.write (i : Int) b = { D with dead := true } := by
  have hm := may_live h hi
  have hc : D.writeC (i : Int) b = 25 := by unfold DS.writeC; rw [if_neg (by rw [hm]; decide), if_neg (by omega), if_pos hl]
  refine ⟨hc, ?_⟩
  unfold DS.write
  rw [if_neg (by rw [hc]; decide), if_pos ⟨hm, hb⟩]
theorem dead_ok {D : DS} (h : D.ok) : ({ D with dead := true } : DS).ok := ⟨h.one, h.most, h.size, h.lies, h.few, h.done, h.left⟩
theorem fill_cut (which : Nat) (hw : which ≤ 1) (b : ByteArray) : ∀ (f i : Nat) (D : DS), D.ok → D.dead = false → 0 ≤ D.left → D.left < (f : Int) → i + f ≤ D.half → D.done + f < 1099511627776 →
    ∃ D', fillF which b f i D = (D', 25) ∧ D'.ok ∧ D'.sure = D.sure ∧ D'.done ≤ D.done + f ∧ ∀ x ∈ D'.loose, x ∈ D.loose ∨ ∃ t, t < D.half ∧ x.1 = D.sec which t
  | 0, i, D, ok, h, h0, h1, _, _ => by omega
  | f + 1, i, D, ok, h, h0, h1, hi, hd => by
    have hlt : i < D.half := by omega
    have hsl := sec_lt (D := D) hw hlt
    unfold fillF
    by_cases hz : D.left = 0
    · obtain ⟨c1, c2⟩ := cut_step ok h hz hsl (b := partB b (i * 64) 64) (partB_size _ _ _)
      rw [if_pos (by rw [c1]; decide), c1, c2]
      exact ⟨_, rfl, dead_ok ok, rfl, Nat.le_add_right _ _, fun x hx => .inl hx⟩
    · obtain ⟨p0, pok, pd, pl, pv, ps, pn, plo⟩ := put_step ok h hz hsl (b := partB b (i * 64) 64) (partB_size _ _ _) (by omega)
      have hlen1 : (D.write (D.sec which i : Int) (partB b (i * 64) 64)).sure.length = D.sure.length := by rw [ps]
      rw [if_pos (by omega)] at pl
      rw [if_neg (by rw [p0]; decide)]
      obtain ⟨D', e, k1, k2, k3, k4⟩ := fill_cut which hw b f (i + 1) _ pok pd (by rw [pl]; omega) (by rw [pl]; omega) (by rw [half_eq hlen1]; omega) (by rw [pn]; omega)
      refine ⟨D', e, k1, k2.trans ps, by rw [pn] at k3; omega, fun x hx => ?_⟩
      rcases k4 x hx with hx | ⟨t, ht, hx⟩
      · rw [plo] at hx
        rcases List.mem_append.1 hx with hx | hx
        · exact .inl hx
        · obtain rfl := List.mem_singleton.1 hx
          exact .inr ⟨i, hlt, rfl⟩
      · exact .inr ⟨t, by rw [← half_eq hlen1]; exact ht, by rw [← sec_eq hlen1]; exact hx⟩
/-- What a crash does to a sector that waits for nothing. -/
theorem keep_other {keep : Nat → Bool} {torn : Int} {l : List (Nat × ByteArray)} {s : List ByteArray} (hl : ∀ x ∈ l, x.1 < s.length) {j : Nat} (hj : ∀ x ∈ l, x.1 ≠ j) : ∀ n, n ≤ l.length → (keepN keep torn l s n).length = s.length ∧ (keepN keep torn l s n).getD j ⟨#[]⟩ = s.getD j ⟨#[]⟩
  | 0, _ => ⟨rfl, rfl⟩
  | n + 1, hn => by
    obtain ⟨i1, i2⟩ := keep_other (keep := keep) (torn := torn) hl hj n (by omega)
    obtain ⟨x, hx⟩ : ∃ x, l[n]? = some x := ⟨_, List.getElem?_eq_getElem (by omega)⟩
    have hm := List.mem_of_getElem? hx
    rw [keepN_succ hx]
    generalize keepN keep torn l s n = s' at *
    unfold keepStep
    split
    · split
      · exact ⟨by rw [List.length_set]; exact i1, by rw [getD_set _ _ _ _ _ (by rw [i1]; exact hl x hm), if_neg (hj x hm)]; exact i2⟩
      · exact ⟨by rw [List.length_set]; exact i1, by rw [getD_set _ _ _ _ _ (by rw [i1]; exact hl x hm), if_neg (hj x hm)]; exact i2⟩
    · exact ⟨i1, i2⟩
theorem v_bare {D : DS} (h : D.loose = []) (j : Nat) : D.v j = D.sure.getD j ⟨#[]⟩ := by unfold DS.v; rw [h]; rfl
/-- Behind a crash a journal whose half nothing waits for is as it was. -/
theorem crash_half {D E : DS} {J : JS} {rs : List ByteArray} (h : Good D J rs) (hl : D.loose = []) (ok : E.ok) (hs : E.sure = D.sure) (hw : ∀ x ∈ E.loose, ∃ t, t < D.half ∧ x.1 = D.sec (1 - J.which) t) (keep : Nat → Bool) (torn : Int) : Good (E.crash keep torn) J rs := by
  have hlies : ∀ x ∈ E.loose, x.1 < E.sure.length := fun x hx => (ok.lies x hx).1
  have hc : (E.crash keep torn).sure = keepN keep torn E.loose E.sure E.loose.length := rfl
  have hlo : (E.crash keep torn).loose = [] := rfl
  refine h.same2 (ok.crash _ _) rfl ?_ (fun j hj => ?_)
  · rw [hc, (keepN_ok ok.lies ok.size _ (Nat.le_refl _)).1, hs]
  · rw [v_bare hlo, v_bare hl, hc, (keep_other hlies (j := j) (fun x hx e => ?_) _ (Nat.le_refl _)).2, hs]
    obtain ⟨t, ht, hx⟩ := hw x hx
    rcases hj with hj | ⟨i, hi, hj⟩
    · have := sec_two (D := D) (1 - J.which) t
      omega
    · have hwh := h.which
      have := (sec_inj (D := D) (w1 := 1 - J.which) (w2 := J.which) (by omega) hwh ht hi (by omega)).1
      omega
theorem newer_up {x0 x1 : Nat × Nat} {t w o : Nat} (h : newer (newer (0, 0) x0) x1 = (t, w)) : (newer (newer (0, 0) x0) (t + 1, o) = (t + 1, o)) ∧ newer (newer (0, 0) (t + 1, o)) x1 = (t + 1, o) := by
  have hx : ∀ x y : Nat × Nat, x.1 ≤ (newer x y).1 ∧ y.1 ≤ (newer x y).1 := by
    intro x y
    unfold newer
    split <;> omega
  have ha := hx (0, 0) x0
  have hb := hx (newer (0, 0) x0) x1
  rw [h] at hb
  simp only at hb
  have h1 : x0.1 ≤ t ∧ x1.1 ≤ t := ⟨by omega, hb.2⟩
  constructor
  · have : (newer (0, 0) x0).1 < t + 1 := by omega
    unfold newer at this ⊢
    rw [if_pos this]
  · have : newer (0, 0) (t + 1, o) = (t + 1, o) := by unfold newer; rw [if_pos (by simp)]
    rw [this]
    unfold newer
    rw [if_neg (by simp only; omega)]
/-- Where the new superblock goes. -/
def atJ (D : DS) (J : JS) : Nat := if (readB (D.v 0)).1 = J.turn then 1 else 0
theorem atJ_le (D : DS) (J : JS) : atJ D J ≤ 1 := by unfold atJ; split <;> omega
/-- The part of a compaction behind its writes. -/
theorem lays_eq {D Y : DS} {J : JS} {b : ByteArray} (hf : fillF (1 - J.which) b D.half 0 D = (Y, 0)) (ok : Y.ok) (hd : Y.dead = false) (h4 : 4 ≤ Y.sure.length) : laysJ D J b = Y.flush.super (atJ Y J) (J.turn + 1) (1 - J.which) := by
  have hfl := v_flush ok hd
  have hlen : Y.flush.sure.length = Y.sure.length := Y.flush_len
  have m0 : Y.flush.may ((0 : Nat) : Int) = 0 := may_live (hfl 0).2.2.1 (by omega)
  have r0 : Y.flush.readS 0 = Y.v 0 := (readS_v m0).trans (hfl 0).1
  unfold laysJ
  simp only
  rw [hf]
  simp only
  rw [if_neg (by decide), flushC_live hd, if_neg (by decide), show Y.flush.may 0 = 0 from m0, if_neg (by decide), r0]
  unfold atJ
  split <;> rfl
theorem Good.new {D Y : DS} {J : JS} {rs rs' : List ByteArray} (G : Good D J rs) (ok : Y.ok) (hd : Y.dead = false) (hlen : Y.sure.length = D.sure.length) (h2 : J.turn ≤ 2999)
    (hf : (framesB (J.turn + 1) 0 rs').size ≤ D.half * 64) (hs : ∀ r ∈ rs', r.size ≤ 1000) (hn : rs'.length ≤ 1000)
    (hsec : ∀ t, t < D.half → Y.v (D.sec (1 - J.which) t) = fillB (partB (framesB (J.turn + 1) 0 rs') (t * 64) 64)) (h01 : ∀ j, j ≤ 1 → Y.v j = if j = atJ D J then fillB (superB (J.turn + 1) (1 - J.which)) else D.v j) :
    Good Y ⟨J.turn + 1, 1 - J.which, framesB (J.turn + 1) 0 rs', rs'.length, false⟩ rs' where
  ok := ok
  alive := hd
  four := by rw [hlen]; exact G.four
  jdead := rfl
  turn1 := by simp
  turn2 := by simp only; omega
  which := by simp only; omega
  n := rfl
  b := rfl
  fits := by rw [half_eq hlen]; exact hf
  sect := fun i hi => by rw [half_eq hlen] at hi; rw [sec_eq hlen]; exact hsec i hi
  news := by
    have hr := super_read (J.turn + 1) (1 - J.which) (by omega) (by omega) (by omega)
    have hu := newer_up (o := 1 - J.which) G.news
    rw [h01 0 (by decide), h01 1 (by decide)]
    have ha := atJ_le D J
    have hc : atJ D J = 0 ∨ atJ D J = 1 := by omega
    rcases hc with hc | hc <;> rw [hc]
    · rw [if_pos rfl, if_neg (by decide), hr]
      exact hu.2
    · rw [if_neg (by decide), if_pos rfl, hr]
      exact hu.1
  size := hs
  few := hn
/-- A compaction that has power enough. -/
theorem compact_good {D : DS} {J : JS} {rs rs' : List ByteArray} (G : Good D J rs) (hp : D.left < 0 ∨ (D.half : Int) + 1 ≤ D.left) (h2 : J.turn ≤ 2999)
    (hf : (framesB (J.turn + 1) 0 rs').size ≤ D.half * 64) (hs : ∀ r ∈ rs', r.size ≤ 1000) (hn : rs'.length ≤ 1000) (hd : D.done < 1099500000000) :
    ∃ D', compactJ D J rs' = (D', ⟨J.turn + 1, 1 - J.which, framesB (J.turn + 1) 0 rs', rs'.length, false⟩, 0) ∧ Good D' ⟨J.turn + 1, 1 - J.which, framesB (J.turn + 1) 0 rs', rs'.length, false⟩ rs' ∧ D'.loose = [] ∧ D'.sure.length = D.sure.length ∧ D'.done ≤ D.done + 1001 ∧ (D.left = -1 → D'.left = -1) := by
  have hhalf := half_le G.ok
  have h4 := G.four
  have hx : wrapJ (D.half * 64) (J.turn + 1) 0 rs' ⟨#[]⟩ = (framesB (J.turn + 1) 0 rs', 0) := by
    have e : (⟨#[]⟩ : ByteArray) ++ framesB (J.turn + 1) 0 rs' = framesB (J.turn + 1) 0 rs' := empty_append _
    unfold wrapJ
    rw [e, if_neg (by omega)]
  obtain ⟨B, hB⟩ : ∃ B, B = framesB (J.turn + 1) 0 rs' := ⟨_, rfl⟩
  obtain ⟨Y, e, k1, k2, k3, k4, k5, k6, k7⟩ := fill_ok (1 - J.which) (by omega) B D.half 0 D G.ok G.alive (by rcases hp with h | h <;> omega) (by omega) (by omega)
  have hlen : Y.sure.length = D.sure.length := by rw [k4]
  have hl := lays_eq e k1 k2 (by rw [hlen]; exact h4)
  have hfl := v_flush k1 k2
  have hat : atJ Y J = atJ D J := by
    unfold atJ
    rw [k7 0 (fun t _ _ e' => by have := sec_two (D := D) (1 - J.which) t; omega)]
  have hal := atJ_le D J
  rw [hat] at hl
  have hflen : Y.flush.sure.length = D.sure.length := Y.flush_len.trans hlen
  have hleft : Y.flush.left = Y.left := (hfl 0).2.2.2
  have hsz : (superB (J.turn + 1) (1 - J.which)).size ≤ 64 := by have := superB_size (J.turn + 1) (1 - J.which) (by omega) (by omega); omega
  obtain ⟨p0, pok, pd, pl, pv, ps, pn, plo⟩ := put_step (D := Y.flush) k1.flush (hfl 0).2.2.1 (i := atJ D J) (by rw [hleft, k3]; split <;> rcases hp with h | h <;> omega) (by omega) hsz (by rw [Y.flush_done, k5]; omega)
  have hs2 : Y.flush.super (atJ D J) (J.turn + 1) (1 - J.which) = ((Y.flush.write (atJ D J : Int) (superB (J.turn + 1) (1 - J.which))).flush, 0) := by
    unfold DS.super
    rw [if_neg (by rw [p0]; decide), flushC_live pd]
  have hfl2 := v_flush pok pd
  rw [hs2] at hl
  refine ⟨(Y.flush.write (atJ D J : Int) (superB (J.turn + 1) (1 - J.which))).flush, ?_, ?_, (hfl2 0).2.1, ?_, ?_, fun hm => ?_⟩
  · unfold compactJ
    rw [if_neg (by rw [G.jdead]; decide)]
    simp only
    rw [hx]
    simp only
    rw [if_neg (by decide), ← hB, hl]
    simp only
    rw [if_neg (by decide)]
  · refine Good.new G pok.flush (hfl2 0).2.2.1 ?_ h2 hf hs hn (fun t ht => ?_) (fun j hj => ?_)
    · rw [DS.flush_len, ps]; exact hflen
    · have := sec_two (D := D) (1 - J.which) t
      rw [(hfl2 _).1, pv, if_neg (by omega), (hfl _).1, k6 t (Nat.zero_le _) (by omega), hB]
    · rw [(hfl2 _).1, pv, (hfl _).1, k7 j (fun t _ _ e' => by have := sec_two (D := D) (1 - J.which) t; omega)]
  · rw [DS.flush_len, ps]; exact hflen
  · rw [DS.flush_done, pn, Y.flush_done, k5]; omega
  · rw [(hfl2 0).2.2.2, pl, hleft, k3, hm]; simp
/-- A compaction that is cut off. -/
theorem compact_cut {D : DS} {J : JS} {rs rs' : List ByteArray} (G : Good D J rs) (hlo : D.loose = []) (hp0 : 0 ≤ D.left) (hp : D.left ≤ (D.half : Int)) (h2 : J.turn ≤ 2999)
    (hf : (framesB (J.turn + 1) 0 rs').size ≤ D.half * 64) (hd : D.done < 1099500000000) :
    ∃ D' J', compactJ D J rs' = (D', J', 25) ∧ D'.ok ∧ D'.done ≤ D.done + 1001 ∧ ∀ keep torn, Good (D'.crash keep torn) J rs := by
  have hhalf := half_le G.ok
  have h4 := G.four
  have hx : wrapJ (D.half * 64) (J.turn + 1) 0 rs' ⟨#[]⟩ = (framesB (J.turn + 1) 0 rs', 0) := by
    have e : (⟨#[]⟩ : ByteArray) ++ framesB (J.turn + 1) 0 rs' = framesB (J.turn + 1) 0 rs' := empty_append _
    unfold wrapJ
    rw [e, if_neg (by omega)]
  obtain ⟨B, hB⟩ : ∃ B, B = framesB (J.turn + 1) 0 rs' := ⟨_, rfl⟩
  have key : ∀ E : DS, laysJ D J B = (E, 25) → compactJ D J rs' = (E, { J with dead := true }, 25) := fun E hl => by
    unfold compactJ
    rw [if_neg (by rw [G.jdead]; decide)]
    simp only
    rw [hx]
    simp only
    rw [if_neg (by decide), ← hB, hl]
    simp only
    rw [if_pos (by decide)]
  by_cases hc : D.left < (D.half : Int)
  · obtain ⟨E, e, k1, k2, k3, k4⟩ := fill_cut (1 - J.which) (by omega) B D.half 0 D G.ok G.alive hp0 hc (by omega) (by omega)
    have hl : laysJ D J B = (E, 25) := by
      unfold laysJ
      simp only
      rw [e, if_pos (show (25 : Int) ≠ 0 by decide)]
    refine ⟨E, _, key E hl, k1, by omega, fun keep torn => crash_half G hlo k1 k2 (fun x hx => ?_) keep torn⟩
    rcases k4 x hx with h | h
    · rw [hlo] at h; cases h
    · exact h
  · obtain ⟨Y, e, k1, k2, k3, k4, k5, k6, k7⟩ := fill_ok (1 - J.which) (by omega) B D.half 0 D G.ok G.alive (by omega) (by omega) (by omega)
    have hlen : Y.sure.length = D.sure.length := by rw [k4]
    have hl := lays_eq e k1 k2 (by rw [hlen]; exact h4)
    have hfl := v_flush k1 k2
    have hal := atJ_le Y J
    have hleft : Y.flush.left = 0 := by rw [(hfl 0).2.2.2, k3]; split <;> omega
    have hsz : (superB (J.turn + 1) (1 - J.which)).size ≤ 64 := by have := superB_size (J.turn + 1) (1 - J.which) (by omega) (by omega); omega
    have hflen : Y.flush.sure.length = D.sure.length := Y.flush_len.trans hlen
    obtain ⟨c1, c2⟩ := cut_step (D := Y.flush) k1.flush (hfl 0).2.2.1 hleft (i := atJ Y J) (by omega) hsz
    have hs2 : Y.flush.super (atJ Y J) (J.turn + 1) (1 - J.which) = ({ Y.flush with dead := true }, 25) := by
      unfold DS.super
      rw [if_pos (by rw [c1]; decide), c1, c2]
    rw [hs2] at hl
    refine ⟨_, _, key _ hl, dead_ok k1.flush, by show Y.flush.done ≤ _; rw [Y.flush_done, k5]; omega, fun keep torn => ?_⟩
    have hvc := v_crash (D := { Y.flush with dead := true }) (hfl 0).2.1 keep torn
    refine G.same2 ((dead_ok k1.flush).crash _ _) rfl (by rw [(hvc 0).2.2.2.2]; exact hflen) (fun j hj => ?_)
    rw [(hvc j).1]
    show Y.flush.v j = D.v j
    rw [(hfl j).1, k7 j (fun t _ ht e' => ?_)]
    rcases hj with hj | ⟨i, hi, hj⟩
    · have := sec_two (D := D) (1 - J.which) t
      omega
    · have hwh := G.which
      have := (sec_inj (D := D) (w1 := 1 - J.which) (w2 := J.which) (i := t) (j := i) (by omega) hwh (by omega) hi (by omega)).1
      omega
theorem cut_good {D : DS} {J : JS} {rs : List ByteArray} (G : Good D J rs) (k : Int) (hk : k ≤ 9223372036854775807) : Good (D.cut k) J rs := G.same (G.ok.cut k hk) G.alive rfl (fun j => rfl)
end Go.Proofs.YtjincmagbbpooaaGreatDoor
