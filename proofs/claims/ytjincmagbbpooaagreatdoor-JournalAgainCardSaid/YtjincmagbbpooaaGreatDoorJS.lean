import Derived.Test.YtjincmagbbpooaaGreatDoorJR
set_option linter.unusedVariables false
set_option linter.unusedSimpArgs false
namespace Go.Proofs.YtjincmagbbpooaaGreatDoor
open Go.RowKit

/-! ### plain law: a disk with power, written on -/
structure Live (D : DS) : Prop where
  ok : D.ok
  alive : D.dead = false
  left : D.left = -1
theorem Live.put {D : DS} (h : Live D) {i : Nat} (hi : i < D.sure.length) {b : ByteArray} (hb : b.size ≤ 64) (hd : D.done < 1099511627776) :
    D.writeC (i : Int) b = 0 ∧ Live (D.write (i : Int) b) ∧ (∀ j, (D.write (i : Int) b).v j = if j = i then fillB b else D.v j) ∧ (D.write (i : Int) b).sure = D.sure ∧ (D.write (i : Int) b).done = D.done + 1 := by
  obtain ⟨h0, hw⟩ := write_live h.alive (by rw [h.left]; decide) hi hb
  refine ⟨h0, ⟨h.ok.write _ _ hd, ?_, ?_⟩, ?_, ?_, ?_⟩
  · rw [hw]; exact h.alive
  · rw [hw]; show (if 0 < D.left then D.left - 1 else D.left) = -1; rw [h.left]; decide
  · rw [hw]; exact fun j => v_put D i j b
  · rw [hw]; rfl
  · rw [hw]; rfl
theorem Live.flush {D : DS} (h : Live D) : Live D.flush ∧ (∀ j, D.flush.v j = D.v j) ∧ D.flush.loose = [] ∧ D.flushC = 0 ∧ D.flush.sure.length = D.sure.length ∧ D.flush.done = D.done :=
  ⟨⟨h.ok.flush, (v_flush h.ok h.alive 0).2.2.1, (v_flush h.ok h.alive 0).2.2.2.trans h.left⟩, fun j => (v_flush h.ok h.alive j).1, (v_flush h.ok h.alive 0).2.1, flushC_live h.alive, D.flush_len, D.flush_done⟩
theorem half_eq {D E : DS} (h : E.sure.length = D.sure.length) : E.half = D.half := by unfold DS.half; rw [h]
theorem sec_eq {D E : DS} (h : E.sure.length = D.sure.length) (which i : Nat) : E.sec which i = D.sec which i := by unfold DS.sec; rw [half_eq h]
theorem sec_inj {D : DS} {w1 w2 i j : Nat} (h1 : w1 ≤ 1) (h2 : w2 ≤ 1) (hi : i < D.half) (hj : j < D.half) (h : D.sec w1 i = D.sec w2 j) : w1 = w2 ∧ i = j := by
  unfold DS.sec at h
  have c1 : w1 = 0 ∨ w1 = 1 := by omega
  have c2 : w2 = 0 ∨ w2 = 1 := by omega
  rcases c1 with rfl | rfl <;> rcases c2 with rfl | rfl <;> simp only [Nat.zero_mul, Nat.one_mul] at h <;> omega
theorem sec_two {D : DS} (which i : Nat) : 2 ≤ D.sec which i := by unfold DS.sec; omega

/-- differs, where there is power. -/
theorem diff_live (which : Nat) (hw : which ≤ 1) (b : ByteArray) : ∀ (f i n : Nat) (D : DS), Live D → i + f ≤ D.half → D.done + f < 1099511627776 →
    ∃ D' n', diffF which b f i n D = (D', n', 0) ∧ Live D' ∧ D'.sure.length = D.sure.length ∧ D'.done ≤ D.done + f ∧ (∀ t, i ≤ t → t < i + f → D'.v (D.sec which t) = fillB (partB b (t * 64) 64)) ∧
      (∀ j, (∀ t, i ≤ t → t < i + f → j ≠ D.sec which t) → D'.v j = D.v j)
  | 0, i, n, D, h, _, _ => ⟨D, n, rfl, h, rfl, Nat.le_refl _, fun t h1 h2 => by omega, fun j _ => rfl⟩
  | f + 1, i, n, D, h, hi, hd => by
    have hlt : i < D.half := by omega
    have hsl := sec_lt (D := D) hw hlt
    have hm := may_live h.alive hsl
    have hz : (fillB (partB b (i * 64) 64)).size ≤ 64 := Nat.le_of_eq (fillB_size _ (partB_size _ _ _))
    have hff : fillB (fillB (partB b (i * 64) 64)) = fillB (partB b (i * 64) 64) := by
      have h1 : (fillB (partB b (i * 64) 64)).size = 64 := fillB_size _ (partB_size _ _ _)
      generalize fillB (partB b (i * 64) 64) = x at h1
      unfold fillB
      rw [h1]
      exact append_empty x
    unfold diffF
    rw [if_neg (by rw [hm]; decide), readS_v hm]
    by_cases hs : D.v (D.sec which i) = fillB (partB b (i * 64) 64)
    · rw [if_pos hs]
      obtain ⟨D', n', e, hl, hlen, hdn, h1, h2⟩ := diff_live which hw b f (i + 1) n D h (by omega) (by omega)
      refine ⟨D', n', e, hl, hlen, by omega, fun t ht1 ht2 => ?_, fun j hj => h2 j (fun t ht1 ht2 => hj t (by omega) (by omega))⟩
      by_cases hti : t = i
      · subst hti
        rw [h2 _ (fun t' h3 h4 e' => by
          have := (sec_inj hw hw hlt (by omega) e').2
          omega)]
        exact hs
      · exact h1 t (by omega) (by omega)
    · rw [if_neg hs]
      obtain ⟨hc, hL, hv, hsu, hdo⟩ := h.put hsl hz (by omega)
      have hlen1 : (D.write (D.sec which i : Int) (fillB (partB b (i * 64) 64))).sure.length = D.sure.length := by rw [hsu]
      rw [if_neg (by rw [hc]; decide)]
      obtain ⟨D', n', e, hl, hlen, hdn, h1, h2⟩ := diff_live which hw b f (i + 1) (n + 1) _ hL (by rw [half_eq hlen1]; omega) (by rw [hdo]; omega)
      refine ⟨D', n', e, hl, hlen.trans hlen1, by rw [hdo] at hdn; omega, fun t ht1 ht2 => ?_, fun j hj => ?_⟩
      · by_cases hti : t = i
        · subst hti
          rw [h2 _ (fun t' h3 h4 e' => by
            rw [sec_eq hlen1] at e'
            have := (sec_inj hw hw hlt (by omega) e').2
            omega), hv, if_pos rfl, hff]
        · have := h1 t (by omega) (by omega)
          rw [sec_eq hlen1] at this
          exact this
      · rw [h2 j (fun t ht1 ht2 => by rw [sec_eq hlen1]; exact hj t (by omega) (by omega)), hv, if_neg (hj i (Nat.le_refl _) (by omega))]
/-- A superblock is written, where there is power. -/
theorem super_live {D : DS} (h : Live D) (at_ turn which : Nat) (ha : at_ < D.sure.length) (ht : turn ≤ 4000) (hw : which ≤ 1) (hd : D.done < 1099511627776) :
    (D.super at_ turn which).2 = 0 ∧ Live (D.super at_ turn which).1 ∧ (∀ j, (D.super at_ turn which).1.v j = if j = at_ then fillB (superB turn which) else D.v j) ∧ (D.super at_ turn which).1.loose = [] ∧ (D.super at_ turn which).1.sure.length = D.sure.length ∧ (D.super at_ turn which).1.done = D.done + 1 := by
  obtain ⟨hc, hL, hv, hsu, hdo⟩ := h.put ha (b := superB turn which) (by have := superB_size turn which (by omega) hw; omega) hd
  obtain ⟨f1, f2, f3, f4, f5, f6⟩ := hL.flush
  unfold DS.super
  rw [if_neg (by rw [hc]; decide)]
  exact ⟨f4, f1, fun j => (f2 j).trans (hv j), f3, f5.trans (by rw [hsu]), f6.trans hdo⟩

/-! ### a journal as it should be -/
structure Good (D : DS) (J : JS) (rs : List ByteArray) : Prop where
  ok : D.ok
  alive : D.dead = false
  four : 4 ≤ D.sure.length
  jdead : J.dead = false
  turn1 : 1 ≤ J.turn
  turn2 : J.turn ≤ 3000
  which : J.which ≤ 1
  n : J.n = rs.length
  b : J.b = framesB J.turn 0 rs
  fits : J.b.size ≤ D.half * 64
  sect : ∀ i, i < D.half → D.v (D.sec J.which i) = fillB (partB J.b (i * 64) 64)
  news : newer (newer (0, 0) (readB (D.v 0))) (readB (D.v 1)) = (J.turn, J.which)
  size : ∀ r ∈ rs, r.size ≤ 1000
  few : rs.length ≤ 1000
theorem part_bys (b : ByteArray) (i n : Nat) : bys (partB b i n) = ((bys b).drop i).take n := by
  unfold partB
  rw [bys_extract]
  have hl := bys_length b
  apply List.ext_getElem?
  intro k
  simp only [List.getElem?_drop, List.getElem?_take]
  by_cases h1 : i + k < b.size
  · have e : min i b.size = i := by omega
    rw [e]
    by_cases h2 : k < n
    · rw [if_pos h2, if_pos (by omega)]
    · rw [if_neg h2, if_neg (by omega)]
  · have hn : (bys b)[i + k]? = none := List.getElem?_eq_none (by omega)
    have hn2 : (bys b)[min i b.size + k]? = none := List.getElem?_eq_none (by omega)
    rw [hn, hn2]
    split <;> split <;> rfl
theorem zeroB_bys (n : Nat) : bys (zeroB n) = List.replicate n 0 := by
  show List.map UInt8.toNat (List.replicate n 0) = _
  rw [List.map_replicate]
  rfl
theorem sect_bys {b : ByteArray} {H i : Nat} (hb : b.size ≤ H * 64) (hi : i < H) : bys (fillB (partB b (i * 64) 64)) = ((bys b ++ List.replicate (H * 64 - b.size) 0).drop (i * 64)).take 64 := by
  have hl := bys_length b
  have hps : (partB b (i * 64) 64).size = min 64 (b.size - i * 64) := by rw [← bys_length, part_bys, List.length_take, List.length_drop, hl]
  unfold fillB
  rw [bys_append, part_bys, zeroB_bys, List.drop_append, List.take_append, List.drop_replicate, List.take_replicate, hps, List.length_drop, hl]
  congr 2
  omega
theorem join_bys {D : DS} {b : ByteArray} {which : Nat} (hb : b.size ≤ D.half * 64) (hr : ∀ i, i < D.half → D.readS (D.sec which i : Int) = fillB (partB b (i * 64) 64)) :
    ∀ m, m ≤ D.half → bys (D.joinP which m) = (bys b ++ List.replicate (D.half * 64 - b.size) 0).take (m * 64)
  | 0, _ => by rw [Nat.zero_mul, List.take_zero]; rfl
  | m + 1, hm => by
    unfold DS.joinP
    rw [bys_append, join_bys hb hr m (by omega), hr m (by omega), sect_bys hb (by omega), show (m + 1) * 64 = m * 64 + 64 by omega, List.take_add]
theorem join_all {D : DS} {b : ByteArray} {which : Nat} (hb : b.size ≤ D.half * 64) (hr : ∀ i, i < D.half → D.readS (D.sec which i : Int) = fillB (partB b (i * 64) 64)) :
    D.joinP which D.half = b ++ zeroB (D.half * 64 - b.size) := by
  apply bys_inj
  rw [join_bys hb hr _ (Nat.le_refl _), bys_append, zeroB_bys, List.take_of_length_le]
  rw [List.length_append, List.length_replicate, bys_length]
  omega
theorem diff_none (which : Nat) (b : ByteArray) (D : DS) : ∀ (f i n : Nat), (∀ t, i ≤ t → t < i + f → D.may (D.sec which t : Int) = 0 ∧ D.readS (D.sec which t : Int) = fillB (partB b (t * 64) 64)) → diffF which b f i n D = (D, n, 0)
  | 0, i, n, _ => rfl
  | f + 1, i, n, h => by
    obtain ⟨h1, h2⟩ := h i (Nat.le_refl _) (by omega)
    unfold diffF
    rw [if_neg (by rw [h1]; decide), if_pos h2]
    exact diff_none which b D f (i + 1) n (fun t ht1 ht2 => h t (by omega) (by omega))
theorem frames_len (turn : Nat) : ∀ (rs : List ByteArray) (k : Nat), rs.length ≤ (framesB turn k rs).size
  | [], k => Nat.le_refl _
  | r :: rs, k => by
    have h := frames_len turn rs (k + 1)
    have h2 : 1 ≤ (wrapS (turn * 1000000 + k) r).size := by
      unfold wrapS
      rw [ByteArray.size_append, sumB_size]
      omega
    unfold framesB
    rw [ByteArray.size_append, List.length_cons]
    omega
theorem Good.sector {D : DS} {J : JS} {rs : List ByteArray} (h : Good D J rs) {i : Nat} (hi : i < D.half) : D.may (D.sec J.which i : Int) = 0 ∧ D.readS (D.sec J.which i : Int) = fillB (partB J.b (i * 64) 64) := by
  have hm := may_live h.alive (sec_lt (D := D) h.which hi)
  exact ⟨hm, (readS_v hm).trans (h.sect i hi)⟩
theorem Good.newest {D : DS} {J : JS} {rs : List ByteArray} (h : Good D J rs) : D.newest = (J.turn, J.which, 0) := by
  have m0 : D.may ((0 : Nat) : Int) = 0 := may_live h.alive (by have := h.four; omega)
  have m1 : D.may ((1 : Nat) : Int) = 0 := may_live h.alive (by have := h.four; omega)
  have r0 : D.readS 0 = D.v 0 := readS_v m0
  have r1 : D.readS 1 = D.v 1 := readS_v m1
  unfold DS.newest
  rw [show D.may 0 = 0 from m0, show D.may 1 = 0 from m1, if_neg (by decide), if_neg (by decide), r0, r1, h.news]
  rw [if_neg (by have := h.turn1; simp only; omega)]
/-- A journal as it should be is opened as it is. -/
theorem Good.opens {D : DS} {J : JS} {rs : List ByteArray} (h : Good D J rs) : D.opens = (D, 0, J, rs) := by
  have hn := h.newest
  have hj := join_all h.fits (fun i hi => (h.sector hi).2)
  have hfl := frames_len J.turn rs 0
  rw [← h.b] at hfl
  have hrec : recsOf J.turn (J.b ++ zeroB (D.half * 64 - J.b.size)) = (rs, zeroB (D.half * 64 - J.b.size)) := by
    unfold recsOf
    rw [ByteArray.size_append]
    conv => lhs; rw [h.b]
    rw [← h.b]
    have := recs_back J.turn (by have := h.turn2; omega) (zeroB (D.half * 64 - J.b.size)) (fun k => openR_zeros _ k) rs 0 (J.b.size + (zeroB (D.half * 64 - J.b.size)).size + 1) (by have := h.few; omega) (by omega) h.size
    rw [← h.b] at this
    exact this
  have hcut : (J.b ++ zeroB (D.half * 64 - J.b.size)).extract 0 ((J.b ++ zeroB (D.half * 64 - J.b.size)).size - (zeroB (D.half * 64 - J.b.size)).size) = J.b := by
    rw [ByteArray.size_append, Nat.add_sub_cancel]
    exact takeB_append _ _
  unfold DS.opens
  rw [if_neg (by have := h.four; omega), hn, if_neg (fun h => h rfl)]
  simp only
  rw [hj, hrec]
  simp only
  rw [hcut]
  have hdf : D.diff J.which J.b (J.b.size / 64) = (D, 0, 0) := diff_none _ _ _ _ _ _ (fun t ht1 ht2 => h.sector (by omega))
  rw [hdf]
  simp only
  rw [if_neg (by decide)]
  have hd := h.jdead
  have hnn := h.n
  obtain ⟨t, wh, b, n, dd⟩ := J
  simp only at hd hnn
  subst hd hnn
  rfl
end Go.Proofs.YtjincmagbbpooaaGreatDoor
