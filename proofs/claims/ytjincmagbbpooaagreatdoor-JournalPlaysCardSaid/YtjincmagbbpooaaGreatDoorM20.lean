import Derived.Test.YtjincmagbbpooaaGreatDoorRH
import Derived.Test.YtjincmagbbpooaaGreatDoorM19

section
set_option linter.unusedVariables false
set_option linter.unusedSimpArgs false
namespace Go.Proofs.YtjincmagbbpooaaGreatDoor
open Go.RowKit

/-! ### plain law: what lies in the first two sectors -/
def SupOK (T : Nat) (b : ByteArray) : Prop := b = zeroB 64 ∨ ∃ t w, 1 ≤ t ∧ t ≤ T ∧ w ≤ 1 ∧ b = fillB (superB t w)
theorem SupOK.mono {T U : Nat} {b : ByteArray} (h : SupOK T b) (hU : T ≤ U) : SupOK U b :=
  h.imp_right fun ⟨t, w, h1, h2, h3, h4⟩ => ⟨t, w, h1, by omega, h3, h4⟩
theorem SupOK.read {T : Nat} {b : ByteArray} (h : SupOK T b) (hT : T ≤ 4000) : (readB b).1 ≤ T := by
  rcases h with rfl | ⟨t, w, h1, h2, h3, rfl⟩
  · rw [zero_read]; exact Nat.zero_le _
  · rw [super_read t w h1 (by omega) h3]; exact h2
theorem fill_tail {s : ByteArray} (h : s.size ≤ 32) : (fillB s).extract 32 64 = zeroB 32 ∧ (fillB s).size = 64 := by
  refine ⟨?_, fillB_size _ (by omega)⟩
  apply bys_inj
  rw [bys_extract]
  unfold fillB
  rw [bys_append, zeroB_bys, zeroB_bys, List.take_of_length_le (by rw [List.length_append, List.length_replicate, bys_length]; omega), List.drop_append, bys_length, List.drop_eq_nil_of_le (by rw [bys_length]; exact h), List.nil_append, List.drop_replicate]
  congr 1
  omega
theorem SupOK.tail {T : Nat} {b : ByteArray} (h : SupOK T b) (hT : T ≤ 4000) : b.extract 32 64 = zeroB 32 ∧ b.size = 64 := by
  rcases h with rfl | ⟨t, w, h1, h2, h3, rfl⟩
  · exact ⟨by decide, by decide⟩
  · exact fill_tail (by have := superB_size t w (by omega) h3; omega)
theorem SupOK.torn {T : Nat} {a b : ByteArray} (ha : SupOK T a) (hb : SupOK T b) (hT : T ≤ 4000) : SupOK T (a.extract 0 32 ++ b.extract 32 b.size) := by
  obtain ⟨a1, a2⟩ := ha.tail hT
  obtain ⟨b1, b2⟩ := hb.tail hT
  have e : a.extract 0 32 ++ b.extract 32 b.size = a := by
    rw [b2, b1, ← a1]
    apply bys_inj
    rw [bys_append, bys_extract, bys_extract, List.drop_zero, List.take_of_length_le (i := 64) (by rw [bys_length]; omega), List.take_append_drop]
  rw [e]
  exact ha
structure Sups (T : Nat) (D : DS) : Prop where
  s0 : ∀ i, i ≤ 1 → SupOK T (D.sure.getD i ⟨#[]⟩)
  lo : ∀ x ∈ D.loose, x.1 ≤ 1 → SupOK T x.2
theorem Sups.mono {T U : Nat} {D : DS} (h : Sups T D) (hU : T ≤ U) : Sups U D := ⟨fun i hi => (h.s0 i hi).mono hU, fun x hx hi => (h.lo x hx hi).mono hU⟩
theorem lastW_prop {P : ByteArray → Prop} (i : Nat) : ∀ (l : List (Nat × ByteArray)) (s : ByteArray), P s → (∀ x ∈ l, x.1 = i → P x.2) → P (lastW l i s)
  | [], s, hs, _ => hs
  | x :: l, s, hs, hl => by
    show P (lastW l i (if x.1 = i then x.2 else s))
    refine lastW_prop i l _ ?_ (fun y hy => hl y (List.mem_cons_of_mem _ hy))
    by_cases h : x.1 = i
    · rw [if_pos h]; exact hl x (List.mem_cons_self ..) h
    · rw [if_neg h]; exact hs
theorem Sups.v {T : Nat} {D : DS} (h : Sups T D) {i : Nat} (hi : i ≤ 1) : SupOK T (D.v i) :=
  lastW_prop i D.loose _ (h.s0 i hi) (fun x hx e => h.lo x hx (by omega))
theorem Sups.same {T : Nat} {D E : DS} (h : Sups T D) (h1 : E.sure = D.sure) (h2 : E.loose = D.loose) : Sups T E := ⟨by rw [h1]; exact h.s0, by rw [h2]; exact h.lo⟩
theorem Sups.write {T : Nat} {D : DS} (h : Sups T D) (i : Int) (b : ByteArray) (hb : i ≤ 1 → SupOK T (fillB b)) : Sups T (D.write i b) := by
  unfold DS.write
  split
  · refine ⟨h.s0, fun x hx hi => ?_⟩
    rcases List.mem_append.1 hx with hx | hx
    · exact h.lo x hx hi
    · obtain rfl := List.mem_singleton.1 hx
      simp only at hi
      exact hb (by omega)
  · split
    · exact h.same rfl rfl
    · exact h
theorem Sups.keeps {T : Nat} {D : DS} (h : Sups T D) (hT : T ≤ 4000) (hl : ∀ x ∈ D.loose, x.1 < D.sure.length) (keep : Nat → Bool) (torn : Int) : Sups T (D.keeps keep torn) := by
  refine ⟨?_, fun x hx => by cases hx⟩
  have hn : ∀ n, n ≤ D.loose.length → (keepN keep torn D.loose D.sure n).length = D.sure.length ∧ ∀ i, i ≤ 1 → SupOK T ((keepN keep torn D.loose D.sure n).getD i ⟨#[]⟩) := by
    intro n
    induction n with
    | zero => exact fun _ => ⟨rfl, h.s0⟩
    | succ n ih =>
      intro hn
      obtain ⟨h1, h2⟩ := ih (by omega)
      unfold keepN keepStep
      generalize keepN keep torn D.loose D.sure n = s at h1 h2 ⊢
      obtain ⟨x, hx⟩ : ∃ x, D.loose[n]? = some x := ⟨_, List.getElem?_eq_getElem (by omega)⟩
      have hxm := List.mem_of_getElem? hx
      have hxl := hl x hxm
      rw [List.getD_eq_getElem?_getD, hx, Option.getD_some]
      split
      · split
        · refine ⟨by rw [List.length_set]; exact h1, fun i hi => ?_⟩
          rw [getD_set _ _ _ _ _ (by omega)]
          split
          · rename_i e
            have hx1 := h.lo x hxm (by omega)
            exact hx1.torn (h2 x.1 (by omega)) hT
          · exact h2 i hi
        · refine ⟨by rw [List.length_set]; exact h1, fun i hi => ?_⟩
          rw [getD_set _ _ _ _ _ (by omega)]
          split
          · rename_i e
            exact h.lo x hxm (by omega)
          · exact h2 i hi
      · exact ⟨h1, h2⟩
  exact (hn _ (Nat.le_refl _)).2
theorem Sups.flush {T : Nat} {D : DS} (h : Sups T D) (hT : T ≤ 4000) (ok : D.ok) : Sups T D.flush := by
  unfold DS.flush
  split
  · exact h
  · exact h.keeps hT (fun x hx => (ok.lies x hx).1) _ _
theorem Sups.crash {T : Nat} {D : DS} (h : Sups T D) (hT : T ≤ 4000) (ok : D.ok) (keep : Nat → Bool) (torn : Int) : Sups T (D.crash keep torn) :=
  (h.keeps hT (fun x hx => (ok.lies x hx).1) keep torn).same rfl rfl
theorem Sups.newest {T : Nat} {D : DS} (h : Sups T D) (hT : T ≤ 4000) : D.newest.1 ≤ T := by
  unfold DS.newest
  split
  · exact Nat.zero_le _
  · rename_i m0
    split
    · exact Nat.zero_le _
    · rename_i m1
      have v0 := (h.v (i := 0) (by decide)).read hT
      have v1 := (h.v (i := 1) (by decide)).read hT
      have r0 : D.readS 0 = D.v 0 := readS_v (i := 0) (Classical.byContradiction m0)
      have r1 : D.readS 1 = D.v 1 := readS_v (i := 1) (Classical.byContradiction m1)
      rw [r0, r1]
      have : (newer (newer (0, 0) (readB (D.v 0))) (readB (D.v 1))).1 ≤ T := by
        unfold newer
        (repeat' split) <;> first | exact v0 | exact v1 | exact Nat.zero_le _
      split
      · exact Nat.zero_le _
      · exact this
/-- What the walk keeps of a disk. -/
structure Pl (T m len : Nat) (D : DS) : Prop where
  sups : Sups T D
  ok : D.ok
  len : D.sure.length = len
  done : D.done ≤ m
theorem Pl.mono {T U m n len : Nat} {D : DS} (h : Pl T m len D) (hU : T ≤ U) (hn : m ≤ n) : Pl U n len D := ⟨h.sups.mono hU, h.ok, h.len, Nat.le_trans h.done hn⟩
theorem Pl.write {T m len : Nat} {D : DS} (h : Pl T m len D) (hm : m ≤ 1000000000) (i : Int) (b : ByteArray) (hb : i ≤ 1 → SupOK T (fillB b)) : Pl T (m + 1) len (D.write i b) :=
  ⟨h.sups.write i b hb, h.ok.write _ _ (by have := h.done; omega), by rw [DS.write_len]; exact h.len, by have := D.write_done i b; have := h.done; omega⟩
theorem Pl.flush {T m len : Nat} {D : DS} (h : Pl T m len D) (hT : T ≤ 4000) : Pl T m len D.flush :=
  ⟨h.sups.flush hT h.ok, h.ok.flush, by rw [DS.flush_len]; exact h.len, by rw [DS.flush_done]; exact h.done⟩
theorem Pl.super {T m len : Nat} {D : DS} (h : Pl T m len D) (hT : T ≤ 4000) (hm : m ≤ 1000000000) (at_ t w : Nat) (h1 : 1 ≤ t) (h2 : t ≤ T) (h3 : w ≤ 1) : Pl T (m + 1) len (D.super at_ t w).1 := by
  have hw := h.write hm (at_ : Int) (superB t w) (fun _ => .inr ⟨t, w, h1, h2, h3, rfl⟩)
  unfold DS.super
  split
  · exact hw
  · exact hw.flush hT
theorem Pl.diffF {T len : Nat} (which : Nat) (b : ByteArray) : ∀ (f i n m : Nat) (D : DS), Pl T m len D → m + f ≤ 1000000000 → Pl T (m + f) len (diffF which b f i n D).1
  | 0, i, n, m, D, h, _ => h
  | f + 1, i, n, m, D, h, hm => by
    unfold Proofs.YtjincmagbbpooaaGreatDoor.diffF
    have hw := h.write (by omega) (D.sec which i : Int) (fillB (partB b (i * 64) 64)) (fun h => by have := sec_two (D := D) which i; omega)
    split
    · exact h.mono (Nat.le_refl _) (by omega)
    · split
      · exact (Pl.diffF which b f (i + 1) n m D h (by omega)).mono (Nat.le_refl _) (by omega)
      · split
        · exact hw.mono (Nat.le_refl _) (by omega)
        · have := Pl.diffF which b f (i + 1) (n + 1) (m + 1) _ hw (by omega)
          rw [show m + (f + 1) = m + 1 + f by omega]
          exact this
theorem Pl.putF {T len : Nat} (which : Nat) (b : ByteArray) : ∀ (f i m : Nat) (D : DS), Pl T m len D → m + f ≤ 1000000000 → Pl T (m + f) len (putF which b f i D).1
  | 0, i, m, D, h, _ => h
  | f + 1, i, m, D, h, hm => by
    unfold Proofs.YtjincmagbbpooaaGreatDoor.putF
    have hw := h.write (by omega) (D.sec which i : Int) (partB b (i * 64) 64) (fun h => by have := sec_two (D := D) which i; omega)
    split
    · exact h.mono (Nat.le_refl _) (by omega)
    · split
      · exact hw.mono (Nat.le_refl _) (by omega)
      · have := Pl.putF which b f (i + 1) (m + 1) _ hw (by omega)
        rw [show m + (f + 1) = m + 1 + f by omega]
        exact this
theorem Pl.fillF {T len : Nat} (which : Nat) (b : ByteArray) : ∀ (f i m : Nat) (D : DS), Pl T m len D → m + f ≤ 1000000000 → Pl T (m + f) len (fillF which b f i D).1
  | 0, i, m, D, h, _ => h
  | f + 1, i, m, D, h, hm => by
    unfold Proofs.YtjincmagbbpooaaGreatDoor.fillF
    have hw := h.write (by omega) (D.sec which i : Int) (partB b (i * 64) 64) (fun h => by have := sec_two (D := D) which i; omega)
    split
    · exact hw.mono (Nat.le_refl _) (by omega)
    · have := Pl.fillF which b f (i + 1) (m + 1) _ hw (by omega)
      rw [show m + (f + 1) = m + 1 + f by omega]
      exact this
theorem Pl.cut {T m len : Nat} {D : DS} (h : Pl T m len D) (k : Int) (hk : (D.cut k).ok) : Pl T m len (D.cut k) := ⟨h.sups.same rfl rfl, hk, h.len, h.done⟩
theorem Pl.crash {T m len : Nat} {D : DS} (h : Pl T m len D) (hT : T ≤ 4000) (keep : Nat → Bool) (torn : Int) (hk : (D.crash keep torn).ok) (hl : (D.crash keep torn).sure.length = D.sure.length) : Pl T m len (D.crash keep torn) :=
  ⟨h.sups.crash hT h.ok keep torn, hk, hl.trans h.len, h.done⟩
theorem Pl.format {T m len : Nat} {D : DS} (h : Pl T m len D) (hT : T ≤ 4000) (h1 : 1 ≤ T) (hm : m ≤ 900000000) : Pl T (m + 2000) len D.format.1 := by
  have hz : SupOK T (fillB ⟨#[]⟩) := .inl fill_empty
  have w1 := h.write (by omega) 1 ⟨#[]⟩ (fun _ => hz)
  have hh : (D.write 1 ⟨#[]⟩).half ≤ 999 := half_le w1.ok
  have d1 : Pl T (m + 1 + ((D.write 1 ⟨#[]⟩).half - 0)) len ((D.write 1 ⟨#[]⟩).diff 0 ⟨#[]⟩ 0).1 := Pl.diffF 0 ⟨#[]⟩ _ 0 0 _ _ w1 (by omega)
  have f1 := d1.flush hT
  have s1 := f1.super hT (by omega) 0 1 0 (Nat.le_refl _) h1 (by decide)
  unfold DS.format
  split
  · exact h.mono (Nat.le_refl _) (by omega)
  · split
    · exact w1.mono (Nat.le_refl _) (by omega)
    · split
      · exact d1.mono (Nat.le_refl _) (by omega)
      · split
        · exact f1.mono (Nat.le_refl _) (by omega)
        · exact s1.mono (Nat.le_refl _) (by omega)
end Go.Proofs.YtjincmagbbpooaaGreatDoor
end

section
set_option linter.unusedVariables false
set_option linter.unusedSimpArgs false
namespace Go.Proofs.YtjincmagbbpooaaGreatDoor
open Go.RowKit

/-! ### plain law: a journal as both have it -/
structure JInv (T : Nat) (D : DS) (J : JS) (sup : Nat) : Prop where
  turn : J.turn ≤ T
  which : J.which ≤ 1
  b : J.b.size ≤ D.half * 64
  n : J.n ≤ 64000 + T
  sup1 : sup ≤ 1
  alive : J.dead = false → D.dead = false
  front : J.dead = false → 0 < J.b.size % 64 → takeB (D.v (D.sec J.which (J.b.size / 64))) (J.b.size % 64) = dropB J.b (J.b.size / 64 * 64)
  supr : J.dead = false → ((readB (D.v 0)).1 = J.turn ↔ sup = 0)
theorem JInv.mono {T U : Nat} {D : DS} {J : JS} {sup : Nat} (h : JInv T D J sup) (hU : T ≤ U) : JInv U D J sup :=
  ⟨Nat.le_trans h.turn hU, h.which, h.b, by have := h.n; omega, h.sup1, h.alive, h.front, h.supr⟩
theorem JInv.dies {T : Nat} {D E : DS} {J : JS} {sup : Nat} (h : JInv T D J sup) (hl : E.sure.length = D.sure.length) : JInv T E { J with dead := true } sup :=
  ⟨h.turn, h.which, by rw [half_eq hl]; exact h.b, h.n, h.sup1, fun h => (by cases h), fun h => (by cases h), fun h => (by cases h)⟩
theorem JInv.cut {T : Nat} {D : DS} {J : JS} {sup : Nat} (h : JInv T D J sup) (k : Int) : JInv T (D.cut k) J sup := ⟨h.turn, h.which, h.b, h.n, h.sup1, h.alive, h.front, h.supr⟩
theorem JInv.same {T : Nat} {D E : DS} {J : JS} {sup : Nat} (h : JInv T D J sup) (hl : E.sure.length = D.sure.length) (ha : E.dead = false) (hv : ∀ j, E.v j = D.v j) : JInv T E J sup :=
  ⟨h.turn, h.which, by rw [half_eq hl]; exact h.b, h.n, h.sup1, fun _ => ha, fun h1 h2 => by rw [sec_eq hl, hv]; exact h.front h1 h2, fun h1 => by rw [hv]; exact h.supr h1⟩
theorem JInv.read {T : Nat} {D : DS} {J : JS} {sup : Nat} (h : JInv T D J sup) (hd : J.dead = false) (hm : 0 < J.b.size % 64) : takeB (D.readS (D.sec J.which (J.b.size / 64) : Int)) (J.b.size % 64) = dropB J.b (J.b.size / 64 * 64) := by
  have hb := h.b
  rw [readS_v (may_sec (h.alive hd) h.which (by omega))]
  exact h.front hd hm
/-- The front of the sector that a journal ends in. -/
theorem front_of {s b : ByteArray} (h : s = fillB (partB b (b.size / 64 * 64) 64)) : takeB s (b.size % 64) = dropB b (b.size / 64 * 64) := by
  subst h
  apply bys_inj
  have hp : (bys (partB b (b.size / 64 * 64) 64)) = (bys b).drop (b.size / 64 * 64) := by
    rw [part_bys, List.take_of_length_le (by rw [List.length_drop, bys_length]; omega)]
  rw [bys_takeB, bys_dropB]
  unfold fillB
  rw [bys_append, hp, List.take_append, List.length_drop, bys_length, show b.size % 64 - (b.size - b.size / 64 * 64) = 0 by omega, List.take_zero, List.append_nil, List.take_of_length_le (by rw [List.length_drop, bys_length]; omega)]
theorem JInv.sync {T : Nat} {D : DS} {J : JS} {sup : Nat} (h : JInv T D J sup) (ok : D.ok) : JInv T (syncJ D J).1 (syncJ D J).2.1 sup := by
  unfold syncJ
  split
  · exact h
  · rename_i hd
    rw [Bool.not_eq_true] at hd
    have ha := h.alive hd
    obtain ⟨_, _, fd, _⟩ := v_flush ok ha 0
    have := h.same (E := D.flush) D.flush_len fd (fun j => (v_flush ok ha j).1)
    rw [flushC_live ha]
    exact ⟨this.turn, this.which, this.b, this.n, this.sup1, fun _ => fd, fun _ => this.front hd, fun _ => this.supr hd⟩
theorem putF_len (which : Nat) (b : ByteArray) : ∀ (f i : Nat) (D : DS), (putF which b f i D).1.sure.length = D.sure.length
  | 0, i, D => rfl
  | f + 1, i, D => by
    unfold putF
    split
    · rfl
    · split
      · exact DS.write_len _ _ _
      · exact (putF_len which b f (i + 1) _).trans (DS.write_len _ _ _)
theorem JInv.add {T : Nat} {D : DS} {J : JS} {sup : Nat} (h : JInv T D J sup) (r : ByteArray) : JInv (T + 1) (addJ D J r).1 (addJ D J r).2.1 sup := by
  by_cases hdd : J.dead = true
  · have : addJ D J r = (D, J, 25) := by unfold addJ; rw [if_pos hdd]
    rw [this]
    exact h.mono (by omega)
  rw [Bool.not_eq_true] at hdd
  rw [add_eq D J r hdd]
  have hl := putF_len J.which (J.b ++ wrapS (J.turn * 1000000 + J.n) r) ((J.b ++ wrapS (J.turn * 1000000 + J.n) r).size + 1) (J.b.size / 64) D
  have hp := putF_ok J.which h.which (J.b ++ wrapS (J.turn * 1000000 + J.n) r) ((J.b ++ wrapS (J.turn * 1000000 + J.n) r).size + 1) (J.b.size / 64) D (h.alive hdd)
  by_cases h1 : D.half * 64 < J.b.size + (wrapS (J.turn * 1000000 + J.n) r).size
  · rw [if_pos h1]
    exact h.mono (by omega)
  rw [if_neg h1]
  have hbz : (J.b ++ wrapS (J.turn * 1000000 + J.n) r).size = J.b.size + (wrapS (J.turn * 1000000 + J.n) r).size := ByteArray.size_append
  generalize J.b ++ wrapS (J.turn * 1000000 + J.n) r = b at hl hp hbz ⊢
  split
  · exact (h.dies hl).mono (by omega)
  · rename_i h2
    obtain ⟨g1, g2, g3, g4⟩ := hp (by omega) (Classical.byContradiction h2) (by omega)
    refine ⟨Nat.le_succ_of_le h.turn, h.which, by rw [half_eq hl]; simp only; omega, by have := h.n; simp only; omega, h.sup1, fun _ => g1, fun _ hm => ?_, fun _ => ?_⟩
    · simp only at hm ⊢
      rw [sec_eq hl]
      exact front_of (g3 _ (Nat.div_le_div_right (by omega)) (by omega))
    · rw [g4 0 (fun t _ _ e => by have := sec_two (D := D) J.which t; omega)]
      exact h.supr hdd
theorem super_ok {D : DS} (ok : D.ok) {at_ t w : Nat} (hd : D.done < 1099510000000) (h : (D.super at_ t w).2 = 0) :
    (D.super at_ t w).1.dead = false ∧ (∀ j, (D.super at_ t w).1.v j = if j = at_ then fillB (superB t w) else D.v j) ∧ (D.super at_ t w).1.sure.length = D.sure.length := by
  unfold DS.super at h ⊢
  by_cases h1 : D.writeC (at_ : Int) (superB t w) ≠ 0
  · rw [if_pos h1] at h
    exact absurd h h1
  rw [if_neg h1]
  obtain ⟨w1, w2, w3, w4⟩ := write_ok (Classical.byContradiction h1)
  have ok2 := ok.write (at_ : Int) (superB t w) (by omega)
  refine ⟨(v_flush ok2 w1 0).2.2.1, fun j => ((v_flush ok2 w1 j).1).trans (w3 j), ?_⟩
  simp only
  rw [DS.flush_len, w4]
theorem JInv.compact {T m len : Nat} {D : DS} {J : JS} {sup : Nat} (h : JInv T D J sup) (hP : Pl T m len D) (hT : T + 1 ≤ 4000) (hm : m ≤ 900000000) (h2 : 2 ≤ D.sure.length) (rs : List ByteArray) (hr : rs.length ≤ 1000) :
    JInv (T + 1) (compactJ D J rs).1 (compactJ D J rs).2.1 (if (compactJ D J rs).2.2 = 0 then 1 - sup else sup) ∧ Pl (T + 1) (m + 2000) len (compactJ D J rs).1 := by
  have hw := h.which
  have hs1 := h.sup1
  by_cases hdd : J.dead = true
  · have : compactJ D J rs = (D, J, 25) := by unfold compactJ; rw [if_pos hdd]
    rw [this]
    simp only
    rw [if_neg (by decide)]
    exact ⟨h.mono (by omega), hP.mono (by omega) (by omega)⟩
  rw [Bool.not_eq_true] at hdd
  rw [compact_doc D J rs hdd]
  by_cases h1 : D.half * 64 < (framesB (J.turn + 1) 0 rs).size
  · rw [if_pos h1]
    simp only
    rw [if_neg (by decide)]
    exact ⟨h.mono (by omega), hP.mono (by omega) (by omega)⟩
  rw [if_neg h1]
  generalize framesB (J.turn + 1) 0 rs = b at h1 ⊢
  rw [lays_doc hP.ok (h.alive hdd) h2 hw (h.supr hdd) hs1 (by have := hP.done; omega)]
  have hhz := half_le hP.ok
  have pf := Pl.fillF (1 - J.which) b D.half 0 m D hP (by omega)
  have ff := fillF_ok (1 - J.which) (by omega) b D.half 0 D (h.alive hdd) (by omega)
  unfold laysR
  by_cases c0 : (fillF (1 - J.which) b D.half 0 D).2 ≠ 0
  · simp only [if_pos c0]
    rw [if_neg c0]
    exact ⟨(h.dies (pf.len.trans hP.len.symm)).mono (by omega), pf.mono (by omega) (by omega)⟩
  simp only [if_neg c0]
  obtain ⟨g1, g2, g3, g4⟩ := ff (Classical.byContradiction c0)
  have pl := pf.flush (by omega)
  have fl := fun j => v_flush pf.ok g1 j
  have fc := flushC_live g1
  generalize (fillF (1 - J.which) b D.half 0 D).1 = E at g1 g2 g3 g4 pf pl fl fc ⊢
  rw [fc]
  simp only [ne_eq, not_true, if_false]
  have ps := (pl.mono (U := T + 1) (n := m + D.half) (by omega) (Nat.le_refl _)).super (by omega) (by omega) (1 - sup) (J.turn + 1) (1 - J.which) (by omega) (by have := h.turn; omega) (by omega)
  by_cases c1 : (E.flush.super (1 - sup) (J.turn + 1) (1 - J.which)).2 = 0
  · rw [if_neg (fun h => h c1)]
    simp only [if_true]
    obtain ⟨s1, s2, s3⟩ := super_ok pl.ok (by have := pl.done; omega) c1
    have hl : (E.flush.super (1 - sup) (J.turn + 1) (1 - J.which)).1.sure.length = D.sure.length := by rw [s3, DS.flush_len, g2]
    refine ⟨⟨by have := h.turn; simp only; omega, by simp only; omega, by rw [half_eq hl]; simp only; omega, by simp only; omega, by omega, fun _ => s1, fun _ hm0 => ?_, fun _ => ?_⟩, ps.mono (by omega) (by omega)⟩
    · simp only at hm0 ⊢
      rw [sec_eq hl]
      refine front_of ?_
      rw [s2, if_neg (by have := sec_two (D := D) (1 - J.which) (b.size / 64); omega), (fl _).1]
      exact g3 _ (Nat.zero_le _) (by omega)
    · simp only
      rw [s2]
      by_cases hs : sup = 0
      · subst hs
        rw [if_neg (by decide), (fl 0).1, g4 0 (fun t _ _ e => by have := sec_two (D := D) (1 - J.which) t; omega)]
        have := (h.supr hdd).2 rfl
        constructor
        · intro h; omega
        · intro h; omega
      · have hs' : sup = 1 := by omega
        subst hs'
        rw [if_pos rfl, super_read _ _ (by omega) (by have := h.turn; omega) (by omega)]
        simp
  · rw [if_pos c1]
    simp only
    rw [if_neg c1]
    exact ⟨(h.dies (ps.len.trans hP.len.symm)).mono (by omega), ps.mono (by omega) (by omega)⟩
theorem recsF_len (turn : Nat) : ∀ (f k : Nat) (s : ByteArray), (recsF turn f k s).1.length + (recsF turn f k s).2.size ≤ s.size
  | 0, k, s => by unfold recsF; simp
  | f + 1, k, s => by
    unfold recsF
    by_cases h : (openR s ((turn * 1000000 + k : Nat) : Int)).2.2 ≠ 0
    · rw [if_pos h]; simp
    · rw [if_neg h]
      have h1 := openR_more (Classical.byContradiction h)
      have h2 := recsF_len turn f (k + 1) (openR s ((turn * 1000000 + k : Nat) : Int)).2.1
      simp only [List.length_cons]
      omega
/-- What the document's Open takes for the superblock that counts. -/
def supOf (D : DS) : Nat := if (blockR (D.readS 0)).1 < (blockR (D.readS 1)).1 then 1 else 0
theorem open_inv {T m len : Nat} {D : DS} (hP : Pl T m len D) (hT : T ≤ 4000) (hm : m ≤ 900000000) :
    Pl T (m + 2000) len D.opens.1 ∧ (D.opens.2.1 = 0 → JInv T D.opens.1 D.opens.2.2.1 (supOf D) ∧ 4 ≤ len) := by
  have hnt := hP.sups.newest hT
  have hnb := newest_half D
  unfold DS.opens
  by_cases h4 : D.sure.length < 4
  · rw [if_pos h4]
    exact ⟨hP.mono (Nat.le_refl _) (by omega), fun h => by cases h⟩
  rw [if_neg h4]
  by_cases hne : D.newest.2.2 ≠ 0
  · rw [if_pos hne]
    exact ⟨hP.mono (Nat.le_refl _) (by omega), fun h => absurd h hne⟩
  rw [if_neg hne]
  obtain ⟨hm0, hdead⟩ := newest_ok (Classical.byContradiction hne)
  have hz0 := readS_64 hP.ok 0
  have hz1 := readS_64 hP.ok 1
  have hsup : (readB (D.v 0)).1 = D.newest.1 ↔ supOf D = 0 := by
    have m0 : D.may (0 : Nat) = 0 := may_live hdead (by omega)
    have m1 : D.may (1 : Nat) = 0 := may_live hdead (by omega)
    obtain ⟨n1, -⟩ := newer_block hz0 hz1
    have hne' := Classical.byContradiction hne
    have hnew : D.newest.1 = (newer (newer (0, 0) (readB (D.readS 0))) (readB (D.readS 1))).1 := by
      unfold DS.newest at hne' ⊢
      rw [if_neg (show ¬ (D.may 0 ≠ 0) from fun h => h m0), if_neg (show ¬ (D.may 1 ≠ 0) from fun h => h m1)] at hne' ⊢
      split at hne'
      · cases hne'
      · rename_i h; rw [if_neg h]
    rw [hnew, n1]
    have hr0 : (readB (D.v 0)).1 = (blockR (D.readS 0)).1 := by
      rw [(block_read _ hz0).1]
      exact congrArg (fun x => (readB x).1) (readS_v (i := 0) m0).symm
    rw [hr0]
    unfold supOf
    split <;> constructor <;> intro h <;> omega
  have hhz := half_le hP.ok
  have hjs := joinP_size hP.ok D.newest.2.1 D.half
  have hrl := recsF_len D.newest.1 ((D.joinP D.newest.2.1 D.half).size + 1) 0 (D.joinP D.newest.2.1 D.half)
  have hrl' : (recsOf D.newest.1 (D.joinP D.newest.2.1 D.half)).1.length + (recsOf D.newest.1 (D.joinP D.newest.2.1 D.half)).2.size ≤ (D.joinP D.newest.2.1 D.half).size := hrl
  clear hrl
  simp only
  generalize D.joinP D.newest.2.1 D.half = all at hjs hrl' ⊢
  generalize recsOf D.newest.1 all = r at hrl' ⊢
  have hbz : (all.extract 0 (all.size - r.2.size)).size ≤ all.size := by rw [ByteArray.size_extract]; omega
  generalize all.extract 0 (all.size - r.2.size) = b at hbz ⊢
  have pd : Pl T (m + (D.half - b.size / 64)) len (D.diff D.newest.2.1 b (b.size / 64)).1 := Pl.diffF _ b _ _ 0 m D hP (by omega)
  have dk := fun h => diffF_ok D.newest.2.1 hnb b (D.half - b.size / 64) (b.size / 64) 0 D hdead (by omega) h
  have pf := pd.flush hT
  have hbase : ∀ E : DS, E.dead = false → E.sure.length = D.sure.length → (∀ t, b.size / 64 ≤ t → t < b.size / 64 + (D.half - b.size / 64) → E.v (D.sec D.newest.2.1 t) = fillB (partB b (t * 64) 64)) → (∀ j, (∀ t, b.size / 64 ≤ t → t < b.size / 64 + (D.half - b.size / 64) → j ≠ D.sec D.newest.2.1 t) → E.v j = D.v j) → JInv T E ⟨D.newest.1, D.newest.2.1, b, r.1.length, false⟩ (supOf D) := by
    intro E e1 e2 e3 e4
    refine ⟨hnt, hnb, by rw [half_eq e2]; simp only; omega, by simp only; omega, by unfold supOf; split <;> omega, fun _ => e1, fun _ hm0 => ?_, fun _ => ?_⟩
    · simp only at hm0 ⊢
      rw [sec_eq e2]
      exact front_of (e3 _ (Nat.le_refl _) (by omega))
    · rw [e4 0 (fun t _ _ e => by have := sec_two (D := D) D.newest.2.1 t; omega)]
      exact hsup
  by_cases hc : (D.diff D.newest.2.1 b (b.size / 64)).2.2 = 0 ∧ 0 < (D.diff D.newest.2.1 b (b.size / 64)).2.1
  · rw [if_pos hc]
    obtain ⟨g1, g2, g3, g4⟩ := dk hc.1
    refine ⟨pf.mono (Nat.le_refl _) (by omega), fun _ => ⟨hbase _ (v_flush pd.ok g1 0).2.2.1 (by rw [DS.flush_len]; exact g2) (fun t h1 h2 => ((v_flush pd.ok g1 _).1).trans (g3 t h1 h2)) (fun j hj => ((v_flush pd.ok g1 _).1).trans (g4 j hj)), by have := hP.len; omega⟩⟩
  · rw [if_neg hc]
    refine ⟨pd.mono (Nat.le_refl _) (by omega), fun h => ?_⟩
    obtain ⟨g1, g2, g3, g4⟩ := dk h
    exact ⟨hbase _ g1 g2 g3 g4, by have := hP.len; omega⟩
theorem add_keep {T m len : Nat} {D : DS} {J : JS} (hP : Pl T m len D) (r : ByteArray) (hb : J.b.size ≤ D.half * 64) (hm : m ≤ 900000000) : Pl T (m + 65000) len (addJ D J r).1 := by
  have hhz := half_le hP.ok
  by_cases hdd : J.dead = true
  · have : addJ D J r = (D, J, 25) := by unfold addJ; rw [if_pos hdd]
    rw [this]
    exact hP.mono (Nat.le_refl _) (by omega)
  rw [Bool.not_eq_true] at hdd
  rw [add_eq D J r hdd]
  by_cases h1 : D.half * 64 < J.b.size + (wrapS (J.turn * 1000000 + J.n) r).size
  · rw [if_pos h1]
    exact hP.mono (Nat.le_refl _) (by omega)
  rw [if_neg h1]
  have hbz : (J.b ++ wrapS (J.turn * 1000000 + J.n) r).size = J.b.size + (wrapS (J.turn * 1000000 + J.n) r).size := ByteArray.size_append
  generalize J.b ++ wrapS (J.turn * 1000000 + J.n) r = b at hbz ⊢
  have := Pl.putF J.which b (b.size + 1) (J.b.size / 64) m D hP (by omega)
  split
  · exact this.mono (Nat.le_refl _) (by omega)
  · exact this.mono (Nat.le_refl _) (by omega)
theorem sync_keep {T m len : Nat} {D : DS} {J : JS} (hP : Pl T m len D) (hT : T ≤ 4000) : Pl T m len (syncJ D J).1 := by
  unfold syncJ
  split
  · exact hP
  · exact hP.flush hT
theorem new_keep (k : Nat) (h1 : 2 ≤ k) (h2 : k ≤ 2000) : Pl 1 0 k (newD k) := by
  refine ⟨⟨fun i hi => ?_, fun x hx => by cases hx⟩, newD_ok k (by omega) h2, by unfold newD; simp, Nat.le_refl _⟩
  unfold newD
  simp only
  rw [List.getD_eq_getElem?_getD, List.getElem?_replicate]
  rw [if_pos (by omega)]
  exact .inl rfl
end Go.Proofs.YtjincmagbbpooaaGreatDoor
end

section
set_option linter.unusedVariables false
set_option linter.unusedSimpArgs false
namespace Go.Proofs.YtjincmagbbpooaaGreatDoor
open Go.RowKit

/-! ### what the statements themselves call -/
def longB (l : List ByteArray) : Bool := l.any fun s => decide (150 < s.size)
theorem longB_no {l : List ByteArray} (h : longB l = false) : ∀ s ∈ l, s.size ≤ 150 := by
  intro s hs
  have := List.any_eq_false.1 h s hs
  simpa using this
/-- A row that lies below a block. -/
def LowSl (B : Nat) (w : World) (a : Option Addr) (l : List ByteArray) : Prop := ∀ j x, l[j]? = some x → ∃ b off, a = some ⟨b, off, none⟩ ∧ b < B ∧ w.cell? ⟨b, off + j, none⟩ = some (.string x)
theorem LowSl.keep {B : Nat} {w w' : World} {a : Option Addr} {l : List ByteArray} (h : LowSl B w a l) (hb : Below B w w') : LowSl B w' a l := fun j x hj => by
  obtain ⟨b, off, e, hB, hc⟩ := h j x hj
  exact ⟨b, off, e, hB, (World.cell?_of_block (hb.block _ hB)).trans hc⟩
theorem LowSl.sl {B : Nat} {w : World} {a : Option Addr} {l : List ByteArray} (h : LowSl B w a l) : SlOf mkS w a l := fun j x hj => by
  obtain ⟨b, off, e, hB, hc⟩ := h j x hj
  exact ⟨b, off, e, hc⟩
theorem LowSl.of_sl {w : World} {a : Option Addr} {l : List ByteArray} (h : SlOf mkS w a l) : LowSl w.heap.size w a l := fun j x hj => by
  obtain ⟨b, off, e, hc⟩ := h j x hj
  exact ⟨b, off, e, cell_lt hc, hc⟩
theorem LowSl.mono {B C : Nat} {w : World} {a : Option Addr} {l : List ByteArray} (h : LowSl B w a l) (hB : B ≤ C) : LowSl C w a l := fun j x hj => by
  obtain ⟨b, off, e, h1, hc⟩ := h j x hj
  exact ⟨b, off, e, by omega, hc⟩
theorem sl_own {w : World} {base : Nat} {v : Value} {l : List ByteArray} (h : w.ownsRow base 9 1 v l.length (strsV l)) : ∃ a c, v = .slice a l.length c ∧ SlOf mkS w a l := by
  rcases Nat.eq_zero_or_pos l.length with h0 | h0
  · obtain ⟨a, c, rfl⟩ := own_len h
    refine ⟨a, c, rfl, fun j x hj => ?_⟩
    have := (List.getElem?_eq_some_iff.1 hj).1
    omega
  · obtain ⟨g, c, rfl, -⟩ := h.form h0
    refine ⟨_, c, rfl, fun j x hj => ⟨g, 0, rfl, ?_⟩⟩
    have hjl := (List.getElem?_eq_some_iff.1 hj).1
    rw [Nat.zero_add, h.cellAt j (by omega)]
    unfold strsV
    rw [List.getElem?_map, hj]
    rfl

set_option maxHeartbeats 16000000 in
set_option maxRecDepth 100000 in
theorem long_any (a : Option Addr) (c : Nat) (l : List ByteArray) (n : Nat) (hn : n = l.length) (hl : n ≤ 9223372036854775807) (w : World) (ha : SlOf mkS w a l) :
    Calls Tryz.prog 13 #[.slice a n c] w fun e w' => e = .returned (.bool (longB l)) ∧ w = w' := by
  have HA := Lib.hid (And.intro hn ha)
  clear ha hn
  obtain ⟨R, hR⟩ : ∃ R, R = longB l := ⟨_, rfl⟩
  have HR := Lib.hid hR
  rw [← hR]
  clear hR
  go_enter Tryz.func13, Tryz.ntmps13
  go_upto_region 2 with fail
  go_loopw [3] (fun v3 wr => ∃ k : Nat, v3 = .int .i64 (k : Int) ∧ k ≤ n ∧ Hid (∀ s ∈ l.take k, s.size ≤ 150) ∧ w = wr) (fun v3 _ => n - (intOf v3).toNat)
  case atStart => exact ⟨0, rfl, Nat.zero_le _, Lib.hid (fun s hs => by simp at hs), rfl⟩
  case round =>
    obtain ⟨k, rfl, hk, hs, rfl⟩ := hrel
    by_cases hlt : k < n
    · obtain ⟨r, hr⟩ : ∃ r, l[k]? = some r := ⟨_, List.getElem?_eq_getElem (by rw [← HA.out.1]; exact hlt)⟩
      obtain ⟨ab, ao, rfl, c0⟩ := HA.out.2 k r hr
      simp only [mkS] at c0
      have q0 : (0 : Int) ≤ (k : Int) := by omega
      have q1 : (k : Int) < (n : Int) := by omega
      by_cases hz : (150 : Int) < (r.size : Int)
      · obtain rfl : R = true := HR.out.trans <| List.any_eq_true.2 ⟨r, List.mem_of_getElem? hr, by simp; omega⟩
        clear hr
        go_wp2
        go_ret
        exact ⟨rfl, rfl⟩
      · have hs' : Hid (∀ s ∈ l.take (k + 1), s.size ≤ 150) := Lib.hid (fun s hs1 => by
          rw [List.take_add_one, hr] at hs1
          rcases List.mem_append.1 hs1 with h | h
          · exact hs.out s h
          · obtain rfl : s = r := by simpa using h
            omega)
        clear hr
        go_wp2
        go_roundw
        case rel => exact ⟨k + 1, by go_num, by omega, hs', trivial⟩
        case measure => simp [intOf]; omega
    · obtain rfl : k = n := by omega
      obtain rfl : R = false := HR.out.trans <| by
        refine List.any_eq_false.2 fun s h => ?_
        have := hs.out s (by rw [HA.out.1, List.take_length]; exact h)
        simp; omega
      go_wp2
      go_ret
      exact ⟨rfl, rfl⟩

set_option maxHeartbeats 16000000 in
set_option maxRecDepth 100000 in
theorem same_any (a a' : Option Addr) (c c' : Nat) (l l' : List ByteArray) (n n' : Nat) (hn : n = l.length) (hn' : n' = l'.length) (hl : n ≤ 9223372036854775807) (w : World) (ha : SlOf mkS w a l) (ha' : SlOf mkS w a' l') :
    Calls Tryz.prog 19 #[.slice a n c, .slice a' n' c'] w fun e w' => e = .returned (.bool (decide (l = l'))) ∧ Below w.heap.size w w' := by
  have HA := Lib.hid (And.intro hn ha)
  have HA' := Lib.hid (And.intro hn' ha')
  clear ha hn ha' hn'
  obtain ⟨R, hR⟩ : ∃ R, R = decide (l = l') := ⟨_, rfl⟩
  have HR := Lib.hid hR
  rw [← hR]
  clear hR
  by_cases hne : n = n'
  case neg =>
    obtain rfl : R = false := HR.out.trans <| decide_eq_false (fun e => hne (by rw [HA.out.1, HA'.out.1, e]))
    have hne' : ¬ ((n : Int) = (n' : Int)) := by omega
    go_enter Tryz.func19, Tryz.ntmps19
    go_wp2
    go_ret
    exact ⟨rfl, Below.refl _ _⟩
  subst hne
  go_enter Tryz.func19, Tryz.ntmps19
  go_upto_region 4 with fail
  go_loopw [5] (fun v5 wr => ∃ (k : Nat), v5 = .int .i64 (k : Int) ∧ k ≤ n ∧ Hid (l.take k = l'.take k) ∧ Hid (Below w.heap.size w wr)) (fun v5 _ => n - (intOf v5).toNat)
  case atStart => exact ⟨0, rfl, Nat.zero_le _, Lib.hid (by simp), Lib.hid (Below.refl _ _)⟩
  case round =>
    obtain ⟨k, rfl, hk, hs, HB⟩ := hrel
    by_cases hlt : k < n
    · obtain ⟨r, hr⟩ : ∃ r, l[k]? = some r := ⟨_, List.getElem?_eq_getElem (by rw [← HA.out.1]; exact hlt)⟩
      obtain ⟨r', hr'⟩ : ∃ r', l'[k]? = some r' := ⟨_, List.getElem?_eq_getElem (by rw [← HA'.out.1]; exact hlt)⟩
      obtain ⟨ab, ao, rfl, c0⟩ := (HA.out.2.below HB.out) k r hr
      obtain ⟨ab', ao', rfl, c0'⟩ := (HA'.out.2.below HB.out) k r' hr'
      simp only [mkS] at c0 c0'
      have q0 : (0 : Int) ≤ (k : Int) := by omega
      have q1 : (k : Int) < (n : Int) := by omega
      have hlt1 := (List.getElem?_eq_some_iff.1 hr).1
      have hlt2 := (List.getElem?_eq_some_iff.1 hr').1
      by_cases hz : r = r'
      · subst hz
        have hb : (r.toList == r.toList) = true := by simp
        have hs' : Hid (l.take (k + 1) = l'.take (k + 1)) := Lib.hid (by rw [List.take_add_one, List.take_add_one, hs.out, hr, hr'])
        clear hr hr' hlt1 hlt2
        go_upto_region 6 with fail
        go_quiet (fail)
        go_wp2
        go_roundw
        case rel => exact ⟨k + 1, by go_num, by omega, hs', Lib.hid (HB.out.trans (below_drewN _ _))⟩
        case measure => simp [intOf]; omega
      · have hb : (r.toList == r'.toList) = false := by
          rw [beq_eq_false_iff_ne]
          intro e
          refine hz ?_
          rw [ByteArray.toList_eq, ByteArray.toList_eq] at e
          exact ByteArray.ext (Array.ext' e)
        obtain rfl : R = false := HR.out.trans <| decide_eq_false (fun e => by
          rw [e] at hr
          exact hz (Option.some.inj (hr.symm.trans hr')))
        clear hr hr' hlt1 hlt2
        go_upto_region 6 with fail
        go_quiet (fail)
        go_wp2
        go_ret
        exact ⟨rfl, HB.out.trans (below_drewN _ _)⟩
    · obtain rfl : k = n := by omega
      obtain rfl : R = true := HR.out.trans <| decide_eq_true (by
        have := hs.out
        rw [HA.out.1] at this
        rw [List.take_length, show l.length = l'.length from HA.out.1.symm.trans HA'.out.1, List.take_length] at this
        exact this)
      go_wp2
      go_ret
      exact ⟨rfl, HB.out⟩
end Go.Proofs.YtjincmagbbpooaaGreatDoor
end

section
set_option linter.unusedVariables false
set_option linter.unusedSimpArgs false
namespace Go.Proofs.YtjincmagbbpooaaGreatDoor
open Go.RowKit

/-! ### two disks, and a block beside them -/
structure TwoAt (B : Nat) (w : World) (p q : Nat) (D1 D2 : DS) (X F G : Nat → Prop) : Prop where
  d : Dsk w F p D1
  r : Ref w G q D2
  fB : ∀ k, F k → B ≤ k ∧ k < w.heap.size
  gB : ∀ k, G k → B ≤ k ∧ k < w.heap.size
  fg : ∀ k, F k → ¬ G k
  x : ∀ k, X k → k < w.heap.size
  fx : ∀ k, X k → ¬ F k
  gx : ∀ k, X k → ¬ G k
  base : B ≤ w.heap.size
  ev : ErrVar w
  evB : 0 < B
def Two (B : Nat) (w : World) (p q : Nat) (D1 D2 : DS) (X : Nat → Prop) : Prop := ∃ F G : Nat → Prop, TwoAt B w p q D1 D2 X F G
/-- What a call leaves of all else: below B, and the block. -/
def Left (B : Nat) (X : Nat → Prop) (w w' : World) : Prop := Below B w w' ∧ ∀ k, X k → w'.heap[k]? = w.heap[k]?
theorem Left.refl (B : Nat) (X : Nat → Prop) (w : World) : Left B X w w := ⟨Below.refl _ _, fun _ _ => rfl⟩
theorem Left.trans {B : Nat} {X : Nat → Prop} {a b c : World} (h : Left B X a b) (k : Left B X b c) : Left B X a c := ⟨h.1.trans k.1, fun x hx => (k.2 x hx).trans (h.2 x hx)⟩
theorem ErrVar.keep {B : Nat} {w w' : World} (h : ErrVar w) (hB : 0 < B) (hb : Below B w w') : ErrVar w' := (hb.cell (p := ⟨0, 0, none⟩) hB).trans h
section
variable {B : Nat} {w w' : World} {p q : Nat} {D1 D2 D' : DS} {X F G : Nat → Prop}
theorem TwoAt.setD (h : TwoAt B w p q D1 D2 X F G) (hp : DskPost F p w D' w') : Left B X w w' ∧ Two B w' p q D' D2 X := by
  obtain ⟨hs, hd⟩ := hp
  have hb : Below B w w' := ⟨hs.os, hs.tape, hs.output, hs.size, fun k hk => hs.block k (by have := h.base; omega) (fun hf => by have := (h.fB k hf).1; omega)⟩
  refine ⟨⟨hb, fun k hk => hs.block k (h.x k hk) (h.fx k hk)⟩, Plus F w w', G, hd, h.r.save hs (fun k hg hf => h.fg k hf hg), fun k hk => ?_, fun k hk => ?_, fun k hk hg => ?_, ?_, ?_, h.gx, ?_, h.ev.keep h.evB hb, h.evB⟩
  · rcases hk with hk | hk
    · exact ⟨(h.fB k hk).1, Nat.lt_of_lt_of_le (h.fB k hk).2 hs.size⟩
    · exact ⟨by have := h.base; omega, hk.2⟩
  · exact ⟨(h.gB k hk).1, Nat.lt_of_lt_of_le (h.gB k hk).2 hs.size⟩
  · rcases hk with hk | hk
    · exact h.fg k hk hg
    · have := (h.gB k hg).2; omega
  · exact fun k hk => Nat.lt_of_lt_of_le (h.x k hk) hs.size
  · exact fun k hk hx => hx.elim (h.fx k hk) (fun hx => by have := h.x k hk; omega)
  · exact Nat.le_trans h.base hs.size
theorem TwoAt.setR (h : TwoAt B w p q D1 D2 X F G) (hp : RefPost G q w D' w') : Left B X w w' ∧ Two B w' p q D1 D' X := by
  obtain ⟨hs, hd⟩ := hp
  have hb : Below B w w' := ⟨hs.os, hs.tape, hs.output, hs.size, fun k hk => hs.block k (by have := h.base; omega) (fun hf => by have := (h.gB k hf).1; omega)⟩
  refine ⟨⟨hb, fun k hk => hs.block k (h.x k hk) (h.gx k hk)⟩, F, Plus G w w', h.d.save hs (fun k hf hg => h.fg k hf hg), hd, fun k hk => ?_, fun k hk => ?_, fun k hk hg => ?_, ?_, h.fx, ?_, ?_, h.ev.keep h.evB hb, h.evB⟩
  · exact ⟨(h.fB k hk).1, Nat.lt_of_lt_of_le (h.fB k hk).2 hs.size⟩
  · rcases hk with hk | hk
    · exact ⟨(h.gB k hk).1, Nat.lt_of_lt_of_le (h.gB k hk).2 hs.size⟩
    · exact ⟨by have := h.base; omega, hk.2⟩
  · rcases hg with hg | hg
    · exact h.fg k hk hg
    · have := (h.fB k hk).2; omega
  · exact fun k hk => Nat.lt_of_lt_of_le (h.x k hk) hs.size
  · exact fun k hk hx => hx.elim (h.gx k hk) (fun hx => by have := h.x k hk; omega)
  · exact Nat.le_trans h.base hs.size
theorem Two.below (h : Two B w p q D1 D2 X) (hb : Below w.heap.size w w') : Left B X w w' ∧ Two B w' p q D1 D2 X := by
  obtain ⟨F, G, h⟩ := h
  exact ⟨⟨hb.mono h.base, fun k hk => hb.block k (h.x k hk)⟩, F, G, h.d.below hb, h.r.below hb, fun k hk => ⟨(h.fB k hk).1, Nat.lt_of_lt_of_le (h.fB k hk).2 hb.size⟩, fun k hk => ⟨(h.gB k hk).1, Nat.lt_of_lt_of_le (h.gB k hk).2 hb.size⟩, h.fg, fun k hk => Nat.lt_of_lt_of_le (h.x k hk) hb.size, h.fx, h.gx, Nat.le_trans h.base hb.size, h.ev.below hb, h.evB⟩
theorem Two.ok (h : Two B w p q D1 D2 X) : D1.ok := by obtain ⟨F, G, h⟩ := h; exact h.d.ok
theorem Two.drew (h : Two B w p q D1 D2 X) : Two B w.drew p q D1 D2 X := (h.below (Below.refl _ _).drew).2
theorem Left.drew {w0 : World} (h : Left B X w0 w) : Left B X w0 w.drew := ⟨h.1.drew, h.2⟩
end

/-- The document's disk as its cells show it. -/
theorem Two.cells {B : Nat} {w : World} {p q : Nat} {D1 D2 : DS} {X : Nat → Prop} (h : Two B w p q D1 D2 X) : ∃ a1 c1 a2 c2, w.cell? ⟨q, 0, none⟩ = some (.slice a1 D2.sure.length c1) ∧ w.cell? ⟨q, 1, none⟩ = some (.slice a2 D2.loose.length c2) ∧
    w.cell? ⟨q, 3, none⟩ = some (.int .i64 (D2.done : Int)) ∧ w.cell? ⟨q, 5, none⟩ = some (.bool D2.dead) := by
  obtain ⟨F, G, h⟩ := h
  obtain ⟨sv, av, bv, hd, -⟩ := h.r
  obtain ⟨c0, c1, -, c3, -, c5, -⟩ := hd.cells
  obtain ⟨a1, k1, rfl⟩ := own_len hd.s
  obtain ⟨a2, k2, rfl⟩ := own_len hd.a
  exact ⟨a1, k1, a2, k2, c0, c1, c3, c5⟩
/-- Both disks, made one behind the other. -/
theorem two_new {w w1 w2 : World} {p q : Nat} {D1 D2 : DS} (hg : ErrVar w) (hgB : 0 < w.heap.size) (h1 : DskPost (fun _ => False) p w D1 w1) (h2 : RefPost (fun _ => False) q w1 D2 w2) : Below w.heap.size w w2 ∧ Two w.heap.size w2 p q D1 D2 (fun _ => False) := by
  obtain ⟨s1, d1⟩ := h1
  obtain ⟨s2, d2⟩ := h2
  have b1 : Below w.heap.size w w1 := ⟨s1.os, s1.tape, s1.output, s1.size, fun k hk => s1.block k hk (fun h => h)⟩
  have b2 : Below w1.heap.size w1 w2 := ⟨s2.os, s2.tape, s2.output, s2.size, fun k hk => s2.block k hk (fun h => h)⟩
  have hb := b1.trans (b2.mono s1.size)
  refine ⟨hb, Plus (fun _ => False) w w1, Plus (fun _ => False) w1 w2, d1.save s2 (fun _ _ h => h), d2, fun k hk => ?_, fun k hk => ?_, fun k hk hg => ?_, fun _ h => h.elim, fun _ h => h.elim, fun _ h => h.elim, hb.size, hg.keep hgB hb, hgB⟩
  · rcases hk with hk | hk
    · exact hk.elim
    · exact ⟨hk.1, Nat.lt_of_lt_of_le hk.2 s2.size⟩
  · rcases hk with hk | hk
    · exact hk.elim
    · exact ⟨Nat.le_trans s1.size hk.1, hk.2⟩
  · rcases hk with hk | hk
    · exact hk
    · rcases hg with hg | hg
      · exact hg
      · omega

theorem Two.drewN {B : Nat} {w : World} {p q : Nat} {D1 D2 : DS} {X : Nat → Prop} (h : Two B w p q D1 D2 X) (n : Nat) : Two B (w.drewN n) p q D1 D2 X := (h.below (below_drewN _ _)).2
theorem Left.drewN {B : Nat} {X : Nat → Prop} {w0 w : World} (h : Left B X w0 w) (n : Nat) : Left B X w0 (w.drewN n) := ⟨h.1.trans (below_drewN _ _), h.2⟩
theorem Left.cell {B : Nat} {X : Nat → Prop} {w w' : World} (h : Left B X w w') {x j : Nat} (hx : X x) {v : Value} (hc : w.cell? ⟨x, j, none⟩ = some v) : w'.cell? ⟨x, j, none⟩ = some v :=
  (World.cell?_of_block (w := w) (a := ⟨x, j, none⟩) (h.2 x hx)).trans hc

/-! ### the two journals beside them -/
structure QuadAt (B : Nat) (w : World) (p q : Nat) (D1 D2 : DS) (X : Nat → Prop) (pj : Nat) (J1 : JS) (qj : Nat) (R2 : RS) (F G : Nat → Prop) : Prop where
  two : TwoAt B w p q D1 D2 X F G
  jb : Blk w pj 87 (jCells p J1)
  rb : Blk w qj 63 (rjCells q R2)
  jB : B ≤ pj
  rB : B ≤ qj
  jF : ¬ F pj
  jG : ¬ G pj
  rF : ¬ F qj
  rG : ¬ G qj
  jX : ¬ X pj
  rX : ¬ X qj
def Quad (B : Nat) (w : World) (p q : Nat) (D1 D2 : DS) (X : Nat → Prop) (pj : Nat) (J1 : JS) (qj : Nat) (R2 : RS) : Prop := ∃ F G : Nat → Prop, QuadAt B w p q D1 D2 X pj J1 qj R2 F G
section
variable {B : Nat} {w w' : World} {p q : Nat} {D1 D2 D' : DS} {pj qj : Nat} {J1 J' : JS} {R2 R' : RS} {X F G : Nat → Prop}
theorem Quad.toTwo (h : Quad B w p q D1 D2 X pj J1 qj R2) : Two B w p q D1 D2 X := by obtain ⟨F, G, h⟩ := h; exact ⟨F, G, h.two⟩
theorem Quad.below (h : Quad B w p q D1 D2 X pj J1 qj R2) (hb : Below w.heap.size w w') : Left B X w w' ∧ Quad B w' p q D1 D2 X pj J1 qj R2 := by
  obtain ⟨F, G, h⟩ := h
  have t := h.two
  refine ⟨⟨hb.mono t.base, fun k hk => hb.block k (t.x k hk)⟩, F, G, ⟨t.d.below hb, t.r.below hb, fun k hk => ⟨(t.fB k hk).1, Nat.lt_of_lt_of_le (t.fB k hk).2 hb.size⟩, fun k hk => ⟨(t.gB k hk).1, Nat.lt_of_lt_of_le (t.gB k hk).2 hb.size⟩, t.fg, fun k hk => Nat.lt_of_lt_of_le (t.x k hk) hb.size, t.fx, t.gx, Nat.le_trans t.base hb.size, t.ev.below hb, t.evB⟩, h.jb.below hb, h.rb.below hb, h.jB, h.rB, h.jF, h.jG, h.rF, h.rG, h.jX, h.rX⟩
theorem Quad.drewN (h : Quad B w p q D1 D2 X pj J1 qj R2) (n : Nat) : Quad B (w.drewN n) p q D1 D2 X pj J1 qj R2 := (h.below (below_drewN _ _)).2
theorem Quad.drew (h : Quad B w p q D1 D2 X pj J1 qj R2) : Quad B w.drew p q D1 D2 X pj J1 qj R2 := (h.below (Below.refl _ _).drew).2
/-- Another block beside them: one that is made now. -/
theorem Quad.block (h : Quad B w p q D1 D2 X pj J1 qj R2) (o : Obj) : Quad B (w.alloc o) p q D1 D2 (fun k => X k ∨ k = w.heap.size) pj J1 qj R2 := by
  have hb : Below w.heap.size w (w.alloc o) := (Below.refl _ _).alloc (Nat.le_refl _) _
  obtain ⟨F, G, h⟩ := h
  have t := h.two
  have hs : w.heap.size < (w.alloc o).heap.size := heap_lt (heap_alloc_new w o)
  refine ⟨F, G, ⟨t.d.below hb, t.r.below hb, fun k hk => ⟨(t.fB k hk).1, Nat.lt_of_lt_of_le (t.fB k hk).2 hb.size⟩, fun k hk => ⟨(t.gB k hk).1, Nat.lt_of_lt_of_le (t.gB k hk).2 hb.size⟩, t.fg, fun k hk => ?_, fun k hk hx => ?_, fun k hk hx => ?_, Nat.le_trans t.base hb.size, t.ev.below hb, t.evB⟩, h.jb.below hb, h.rb.below hb, h.jB, h.rB, h.jF, h.jG, h.rF, h.rG, fun hk => ?_, fun hk => ?_⟩
  · rcases hk with hk | hk
    · exact Nat.lt_of_lt_of_le (t.x k hk) hb.size
    · omega
  · rcases hk with hk | hk
    · exact t.fx k hk hx
    · have := (t.fB _ hx).2; omega
  · rcases hk with hk | hk
    · exact t.gx k hk hx
    · have := (t.gB _ hx).2; omega
  · rcases hk with hk | hk
    · exact h.jX hk
    · have := h.jb.lt; omega
  · rcases hk with hk | hk
    · exact h.rX hk
    · have := h.rb.lt; omega
/-- The program's disk and journal change. -/
theorem QuadAt.setJ (h : QuadAt B w p q D1 D2 X pj J1 qj R2 F G) (hp : JPost F p pj w D' J' w') : Left B X w w' ∧ Quad B w' p q D' D2 X pj J' qj R2 := by
  obtain ⟨hs, hd, hb⟩ := hp
  have t := h.two
  have jl := h.jb.lt
  have rl := h.rb.lt
  have ne : qj ≠ pj := h.rb.ne_ h.jb (by decide)
  have hbl : Below B w w' := ⟨hs.os, hs.tape, hs.output, hs.size, fun k hk => hs.block k (by have := t.base; omega) (fun hf => by
    rcases hf with hf | hf
    · have := (t.fB k hf).1; omega
    · have := h.jB; omega)⟩
  refine ⟨⟨hbl, fun k hk => hs.block k (t.x k hk) (fun hf => hf.elim (t.fx k hk) (fun e => h.jX (e ▸ hk)))⟩, Plus F w w', G, ⟨hd, t.r.save hs (fun k hg hf => hf.elim (fun hf => t.fg k hf hg) (fun e => h.jG (e ▸ hg))), fun k hk => ?_, fun k hk => ?_, fun k hk hg => ?_, ?_, ?_, t.gx, ?_, t.ev.keep t.evB hbl, t.evB⟩, hb, h.rb.save hs (fun hf => hf.elim h.rF ne), h.jB, h.rB, fun hk => ?_, h.jG, fun hk => ?_, h.rG, h.jX, h.rX⟩
  · rcases hk with hk | hk
    · exact ⟨(t.fB k hk).1, Nat.lt_of_lt_of_le (t.fB k hk).2 hs.size⟩
    · exact ⟨by have := t.base; omega, hk.2⟩
  · exact ⟨(t.gB k hk).1, Nat.lt_of_lt_of_le (t.gB k hk).2 hs.size⟩
  · rcases hk with hk | hk
    · exact t.fg k hk hg
    · have := (t.gB k hg).2; omega
  · exact fun k hk => Nat.lt_of_lt_of_le (t.x k hk) hs.size
  · exact fun k hk hx => hx.elim (t.fx k hk) (fun hx => by have := t.x k hk; omega)
  · exact Nat.le_trans t.base hs.size
  · exact hk.elim h.jF (fun hk => by omega)
  · exact hk.elim h.rF (fun hk => by omega)
/-- The document's disk and journal change. -/
theorem QuadAt.setR (h : QuadAt B w p q D1 D2 X pj J1 qj R2 F G) (hp : RJPost G q qj w D' R' w') : Left B X w w' ∧ Quad B w' p q D1 D' X pj J1 qj R' := by
  obtain ⟨hs, hd, hb⟩ := hp
  have t := h.two
  have jl := h.jb.lt
  have rl := h.rb.lt
  have ne : pj ≠ qj := h.jb.ne_ h.rb (by decide)
  have hbl : Below B w w' := ⟨hs.os, hs.tape, hs.output, hs.size, fun k hk => hs.block k (by have := t.base; omega) (fun hf => by
    rcases hf with hf | hf
    · have := (t.gB k hf).1; omega
    · have := h.rB; omega)⟩
  refine ⟨⟨hbl, fun k hk => hs.block k (t.x k hk) (fun hf => hf.elim (t.gx k hk) (fun e => h.rX (e ▸ hk)))⟩, F, Plus G w w', ⟨t.d.save hs (fun k hf hg => hg.elim (fun hg => t.fg k hf hg) (fun e => h.rF (e ▸ hf))), hd, fun k hk => ?_, fun k hk => ?_, fun k hk hg => ?_, ?_, t.fx, ?_, ?_, t.ev.keep t.evB hbl, t.evB⟩, h.jb.save hs (fun hf => hf.elim h.jG ne), hb, h.jB, h.rB, h.jF, fun hk => ?_, h.rF, fun hk => ?_, h.jX, h.rX⟩
  · exact ⟨(t.fB k hk).1, Nat.lt_of_lt_of_le (t.fB k hk).2 hs.size⟩
  · rcases hk with hk | hk
    · exact ⟨(t.gB k hk).1, Nat.lt_of_lt_of_le (t.gB k hk).2 hs.size⟩
    · exact ⟨by have := t.base; omega, hk.2⟩
  · rcases hg with hg | hg
    · exact t.fg k hk hg
    · have := (t.fB k hk).2; omega
  · exact fun k hk => Nat.lt_of_lt_of_le (t.x k hk) hs.size
  · exact fun k hk hx => hx.elim (t.gx k hk) (fun hx => by have := t.x k hk; omega)
  · exact Nat.le_trans t.base hs.size
  · exact hk.elim h.jG (fun hk => by omega)
  · exact hk.elim h.rG (fun hk => by omega)
theorem QuadAt.setD (h : QuadAt B w p q D1 D2 X pj J1 qj R2 F G) (hp : DskPost F p w D' w') : Left B X w w' ∧ Quad B w' p q D' D2 X pj J1 qj R2 := by
  have hs := hp.1
  have hj : Blk w' pj 87 (jCells p J1) := h.jb.save hs h.jF
  exact h.setJ ⟨hs.mono fun k _ hk => .inl hk, hp.2, hj⟩
theorem QuadAt.setD2 (h : QuadAt B w p q D1 D2 X pj J1 qj R2 F G) (hp : RefPost G q w D' w') : Left B X w w' ∧ Quad B w' p q D1 D' X pj J1 qj R2 := by
  have hs := hp.1
  have hj : Blk w' qj 63 (rjCells q R2) := h.rb.save hs h.rG
  exact h.setR ⟨hs.mono fun k _ hk => .inl hk, hp.2, hj⟩
end
/-! ### what Open leaves -/
structure TriAt (B : Nat) (w : World) (p q : Nat) (D1 D2 : DS) (X : Nat → Prop) (pj : Nat) (J1 : JS) (v : Value) (l : List ByteArray) (F G : Nat → Prop) : Prop where
  two : TwoAt B w p q D1 D2 X F G
  jb : Blk w pj 87 (jCells p J1)
  jB : B ≤ pj
  jF : ¬ F pj
  jG : ¬ G pj
  jX : ¬ X pj
  row : w.ownsRow B 9 1 v l.length (strsV l)
  vF : ∀ g, v.ownBlock = some g → ¬ F g
  vG : ∀ g, v.ownBlock = some g → ¬ G g
def Tri (B : Nat) (w : World) (p q : Nat) (D1 D2 : DS) (X : Nat → Prop) (pj : Nat) (J1 : JS) (v : Value) (l : List ByteArray) : Prop := ∃ F G : Nat → Prop, TriAt B w p q D1 D2 X pj J1 v l F G
section
variable {B : Nat} {w w' : World} {p q : Nat} {D1 D2 D' : DS} {pj qj : Nat} {J1 J' : JS} {R2 R' : RS} {X F G : Nat → Prop}
theorem own_lower {w : World} {base base' : Nat} {e : TypeId} {size n : Nat} {v : Value} {xs : List Value} (h : w.ownsRow base e size v n xs) (hb : base' ≤ base) : w.ownsRow base' e size v n xs := by
  rcases h with ⟨h1, h2 | ⟨g, cap, cur, h3, h4, h5⟩⟩
  · exact ⟨h1, .inl h2⟩
  · exact ⟨h1, .inr ⟨g, cap, cur, h3, Nat.le_trans hb h4, h5⟩⟩
theorem opens_dead (D : DS) : D.opens.2.2.1.dead = false := by
  unfold DS.opens
  split
  · rfl
  · split
    · rfl
    · rfl
theorem tOpen_d (R : DS × Int × JS × List ByteArray) (hR : R = D1.opens) (hd : D1.done < 1099510000000) (ht : D1.newest.1 ≤ 1000000) (h0 : R.2.1 = 0) (h : Two B w p q D1 D2 X) :
    Calls Tryz.prog 9 #[.pointer (some ⟨p, 0, none⟩)] w fun e w' => ∃ pj v, e = .returned (.tuple #[.pointer (some ⟨pj, 0, none⟩), v, .nilIface]) ∧ Left B X w w' ∧ Tri B w' p q R.1 D2 X pj R.2.2.1 v R.2.2.2 := by
  obtain ⟨F, G, t⟩ := h
  have hb := t.base
  subst hR
  refine (jOpen_any F p D1 w t.d t.ev (fun k hk => (t.fB k hk).2) (fun hf => by have := (t.fB _ hf).1; have := t.evB; omega) (cell_lt t.ev) hd ht).mono ?_
  rintro e w' ⟨⟨hs, -⟩, hr⟩
  rcases hr with ⟨h1, -⟩ | ⟨-, pj, v, he, hq, hblk, hrow, F', hF, hF1, hF2, hF3⟩
  · exact absurd h0 h1
  have hbl : Below B w w' := ⟨hs.os, hs.tape, hs.output, hs.size, fun k hk => hs.block k (by omega) (fun hf => by have := (t.fB k hf).1; omega)⟩
  refine ⟨pj, v, he, ⟨hbl, fun k hk => hs.block k (t.x k hk) (t.fx k hk)⟩, F', G, ⟨hF, t.r.save hs (fun k hg hf => t.fg k hf hg), fun k hk => ?_, fun k hk => ⟨(t.gB k hk).1, Nat.lt_of_lt_of_le (t.gB k hk).2 hs.size⟩, fun k hk hg => ?_, fun k hk => Nat.lt_of_lt_of_le (t.x k hk) hs.size, fun k hX hx => ?_, t.gx, Nat.le_trans hb hs.size, t.ev.keep t.evB hbl, t.evB⟩, hblk, by omega, hF3, fun hg => ?_, fun hx => ?_, own_lower hrow hb, hF2, fun g hg hgg => ?_⟩
  · rcases hF1 k hk with hk | hk
    · exact ⟨(t.fB k hk).1, Nat.lt_of_lt_of_le (t.fB k hk).2 hs.size⟩
    · exact ⟨by omega, hk.2⟩
  · rcases hF1 k hk with hk | hk
    · exact t.fg k hk hg
    · have := (t.gB k hg).2; omega
  · rcases hF1 k hx with hk | hk
    · exact t.fx k hX hk
    · have := t.x k hX; omega
  · have := (t.gB _ hg).2; omega
  · have := t.x _ hx; omega
  · have := (t.gB _ hgg).2
    have := (hrow.lt g hg).1
    omega
theorem tOpenErr_d (R : DS × Int × JS × List ByteArray) (hR : R = D1.opens) (hd : D1.done < 1099510000000) (ht : D1.newest.1 ≤ 1000000) (h0 : R.2.1 ≠ 0) (h : Two B w p q D1 D2 X) :
    Calls Tryz.prog 9 #[.pointer (some ⟨p, 0, none⟩)] w fun e w' => e = .returned (.tuple #[.pointer none, .slice none 0 0, errV R.2.1]) ∧ Left B X w w' ∧ Two B w' p q R.1 D2 X := by
  obtain ⟨F, G, t⟩ := h
  subst hR
  refine (jOpen_any F p D1 w t.d t.ev (fun k hk => (t.fB k hk).2) (fun hf => by have := (t.fB _ hf).1; have := t.evB; omega) (cell_lt t.ev) hd ht).mono ?_
  rintro e w' ⟨hp, hr⟩
  rcases hr with ⟨-, he⟩ | ⟨h1, -⟩
  · exact ⟨he, t.setD hp⟩
  · exact absurd h1 h0
theorem tOpenErr_r (R : DS × Int × JS × List ByteArray) (hR : R = D2.opens) (hd : D2.done < 1099510000000) (ht : D2.newest.1 ≤ 1000000) (h0 : R.2.1 ≠ 0) (h : Two B w p q D1 D2 X) :
    Calls Tryz.prog 26 #[.pointer (some ⟨q, 0, none⟩)] w fun e w' => e = .returned (.tuple #[.pointer none, .slice none 0 0, .int .i64 R.2.1]) ∧ Left B X w w' ∧ Two B w' p q D1 R.1 X := by
  obtain ⟨F, G, t⟩ := h
  subst hR
  refine (rJOpen_any G q D2 w t.r (fun k hk => (t.gB k hk).2) hd ht).mono ?_
  rintro e w' ⟨hp, hr⟩
  rcases hr with ⟨-, he⟩ | ⟨h1, -⟩
  · exact ⟨he, t.setR hp⟩
  · exact absurd h1 h0
theorem tOpen_r {v : Value} {l : List ByteArray} (R : DS × Int × JS × List ByteArray) (hR : R = D2.opens) (hd : D2.done < 1099510000000) (ht : D2.newest.1 ≤ 1000000) (h0 : R.2.1 = 0) (h : Tri B w p q D1 D2 X pj J1 v l) :
    Calls Tryz.prog 26 #[.pointer (some ⟨q, 0, none⟩)] w fun e w' => ∃ qj u, e = .returned (.tuple #[.pointer (some ⟨qj, 0, none⟩), u, .int .i64 0]) ∧ Left B X w w' ∧ Quad B w' p q D1 R.1 X pj J1 qj (rOf (supOf D2) R.2.2.1) ∧
      w'.ownsRow B 9 1 v l.length (strsV l) ∧ w'.ownsRow B 9 1 u R.2.2.2.length (strsV R.2.2.2) := by
  obtain ⟨F, G, h⟩ := h
  have t := h.two
  have hb := t.base
  have hrof : rOf (supOf D2) R.2.2.1 = ⟨R.2.2.1.turn, R.2.2.1.which, supOf D2, R.2.2.1.b.size, R.2.2.1.n, false⟩ := by
    unfold rOf
    rw [hR, opens_dead]
  rw [hrof]
  subst hR
  refine (rJOpen_any G q D2 w t.r (fun k hk => (t.gB k hk).2) hd ht).mono ?_
  rintro e w' ⟨⟨hs, -⟩, hr⟩
  rcases hr with ⟨h1, -⟩ | ⟨-, qj, u, he, hq, hblk, hrow, G', hG, hG1, hG2, hG3⟩
  · exact absurd h0 h1
  have hbl : Below B w w' := ⟨hs.os, hs.tape, hs.output, hs.size, fun k hk => hs.block k (by omega) (fun hf => by have := (t.gB k hf).1; omega)⟩
  refine ⟨qj, u, he, ⟨hbl, fun k hk => hs.block k (t.x k hk) (t.gx k hk)⟩, ⟨F, G', ⟨t.d.save hs (fun k hf hg => t.fg k hf hg), hG, fun k hk => ⟨(t.fB k hk).1, Nat.lt_of_lt_of_le (t.fB k hk).2 hs.size⟩, fun k hk => ?_, fun k hk hg => ?_, fun k hk => Nat.lt_of_lt_of_le (t.x k hk) hs.size, t.fx, fun k hX hx => ?_, Nat.le_trans hb hs.size, t.ev.keep t.evB hbl, t.evB⟩, h.jb.save hs h.jG, hblk, h.jB, by omega, h.jF, fun hg => ?_, fun hf => ?_, hG3, h.jX, fun hx => ?_⟩, own_same h.row (fun g hg => hs.block g (h.row.lt g hg).2 (h.vG g hg)), own_lower hrow hb⟩
  · rcases hG1 k hk with hk | hk
    · exact ⟨(t.gB k hk).1, Nat.lt_of_lt_of_le (t.gB k hk).2 hs.size⟩
    · exact ⟨by omega, hk.2⟩
  · rcases hG1 k hg with hg | hg
    · exact t.fg k hk hg
    · have := (t.fB k hk).2; omega
  · rcases hG1 k hx with hk | hk
    · exact t.gx k hX hk
    · have := t.x k hX; omega
  · rcases hG1 pj hg with hk | hk
    · exact h.jG hk
    · have := h.jb.lt; omega
  · have := (t.fB _ hf).2; omega
  · have := t.x _ hx; omega
end
end Go.Proofs.YtjincmagbbpooaaGreatDoor
end

section
set_option linter.unusedVariables false
set_option linter.unusedSimpArgs false
namespace Go.Proofs.YtjincmagbbpooaaGreatDoor
open Go.RowKit

/-! ### calls where both disks and both journals lie -/
def QPost (B : Nat) (w : World) (p q : Nat) (D1 D2 : DS) (X : Nat → Prop) (pj : Nat) (J1 : JS) (qj : Nat) (R2 : RS) (v : Value) (e : Ending) (w' : World) : Prop := e = .returned v ∧ Left B X w w' ∧ Quad B w' p q D1 D2 X pj J1 qj R2
def TPost (B : Nat) (w : World) (p q : Nat) (D1 D2 : DS) (X : Nat → Prop) (v : Value) (e : Ending) (w' : World) : Prop := e = .returned v ∧ Left B X w w' ∧ Two B w' p q D1 D2 X
theorem rsync_of (sup : Nat) (D : DS) (J : JS) : rsyncJ D (rOf sup J) = ((syncJ D J).1, rOf sup (syncJ D J).2.1, (syncJ D J).2.2) := by
  unfold rsyncJ syncJ
  have hd : (rOf sup J).dead = J.dead := rfl
  rw [hd]
  by_cases h : J.dead = true
  · rw [if_pos h, if_pos h]
  · rw [if_neg h, if_neg h]
    simp only
    rw [Bool.not_eq_true] at h
    congr 2
    unfold RS.dies JS.fail rOf
    by_cases hc : D.flushC = 0
    · rw [if_pos hc]
      simp [hc, h]
    · rw [if_neg hc]
      simp [hc]
section
variable {B : Nat} {w w' : World} {p q : Nat} {D1 D2 : DS} {X : Nat → Prop} {pj qj : Nat} {J : JS} {R2 : RS}
theorem qAdd_d (r : ByteArray) (h2 : 2 ≤ D1.sure.length) (ht : J.turn ≤ 4000) (hwh : J.which ≤ 1) (hnn : J.n ≤ 100000) (hb : J.b.size ≤ 1000000) (hr : r.size ≤ 1000) (hd : D1.done < 1099510000000) (h : Quad B w p q D1 D2 X pj J qj R2) :
    Calls Tryz.prog 27 #[.pointer (some ⟨pj, 0, none⟩), .string r] w (QPost B w p q (addJ D1 J r).1 D2 X pj (addJ D1 J r).2.1 qj R2 (errV (addJ D1 J r).2.2)) := by
  obtain ⟨F, G, h⟩ := h
  have t := h.two
  exact (jAdd_any F p pj D1 J r w t.d h.jb h.jF t.ev (fun hf => by have := (t.fB _ hf).1; have := t.evB; omega) h2 ht hwh hnn hb hr hd).mono fun e w' ⟨he, hp⟩ => ⟨he, h.setJ hp⟩
theorem qAdd_r {T sup : Nat} {J1 : JS} (r : ByteArray) (I : JInv T D2 J sup) (hT : T ≤ 3000) (h2 : 2 ≤ D2.sure.length) (hr : r.size ≤ 1000) (hd : D2.done < 1099510000000) (h : Quad B w p q D1 D2 X pj J1 qj (rOf sup J)) :
    Calls Tryz.prog 28 #[.pointer (some ⟨qj, 0, none⟩), .string r] w (QPost B w p q D1 (addJ D2 J r).1 X pj J1 qj (rOf sup (addJ D2 J r).2.1) (.int .i64 (addJ D2 J r).2.2)) := by
  obtain ⟨F, G, h⟩ := h
  have t := h.two
  exact (rAdd_any G q qj sup D2 J r w t.r h.rb h.rG h2 (by have := I.turn; omega) I.which (by have := I.n; omega) I.b hr hd I.alive (fun hdd hm => I.read hdd hm)).mono fun e w' ⟨he, hp⟩ => ⟨he, h.setR hp⟩
theorem qSync_d (h : Quad B w p q D1 D2 X pj J qj R2) :
    Calls Tryz.prog 15 #[.pointer (some ⟨pj, 0, none⟩)] w (QPost B w p q (syncJ D1 J).1 D2 X pj (syncJ D1 J).2.1 qj R2 (errV (syncJ D1 J).2.2)) := by
  obtain ⟨F, G, h⟩ := h
  exact (jSync_any F p pj D1 J w h.two.d h.jb h.jF).mono fun e w' ⟨he, hp⟩ => ⟨he, h.setJ hp⟩
theorem qSync_r {sup : Nat} {J1 : JS} (h : Quad B w p q D1 D2 X pj J1 qj (rOf sup J)) :
    Calls Tryz.prog 29 #[.pointer (some ⟨qj, 0, none⟩)] w (QPost B w p q D1 (syncJ D2 J).1 X pj J1 qj (rOf sup (syncJ D2 J).2.1) (.int .i64 (syncJ D2 J).2.2)) := by
  obtain ⟨F, G, h⟩ := h
  have := rSync_any G q qj D2 (rOf sup J) w h.two.r h.rb h.rG
  rw [rsync_of] at this
  exact this.mono fun e w' ⟨he, hp⟩ => ⟨he, h.setR hp⟩
theorem qCompact_d (a : Option Addr) (c n : Nat) (rs : List ByteArray) (hn : n = rs.length) (hg : SlOf mkS w a rs) (h2 : 2 ≤ D1.sure.length) (ht : J.turn ≤ 3000) (hwh : J.which ≤ 1) (hl : rs.length ≤ 100) (hs : ∀ r ∈ rs, r.size ≤ 1000) (hd : D1.done < 1099510000000) (h : Quad B w p q D1 D2 X pj J qj R2) :
    Calls Tryz.prog 17 #[.pointer (some ⟨pj, 0, none⟩), .slice a n c] w (QPost B w p q (compactJ D1 J rs).1 D2 X pj (compactJ D1 J rs).2.1 qj R2 (errV (compactJ D1 J rs).2.2)) := by
  subst hn
  obtain ⟨F, G, h⟩ := h
  have t := h.two
  exact (jCompact_any F p pj D1 J a c rs w t.d h.jb h.jF t.ev (fun hf => by have := (t.fB _ hf).1; have := t.evB; omega) h2 ht hwh hl hs hg hd).mono fun e w' ⟨he, hp⟩ => ⟨he, h.setJ hp⟩
theorem qCompact_r {T sup : Nat} {J1 : JS} (a : Option Addr) (c n : Nat) (rs : List ByteArray) (hn : n = rs.length) (hg : SlOf mkS w a rs) (I : JInv T D2 J sup) (hT : T ≤ 3000) (h2 : 2 ≤ D2.sure.length) (hl : rs.length ≤ 100) (hs : ∀ r ∈ rs, r.size ≤ 1000) (hd : D2.done < 1099510000000 - 1000) (h : Quad B w p q D1 D2 X pj J1 qj (rOf sup J)) :
    Calls Tryz.prog 30 #[.pointer (some ⟨qj, 0, none⟩), .slice a n c] w (QPost B w p q D1 (compactJ D2 J rs).1 X pj J1 qj (rOf (if (compactJ D2 J rs).2.2 = 0 then 1 - sup else sup) (compactJ D2 J rs).2.1) (.int .i64 (compactJ D2 J rs).2.2)) := by
  subst hn
  obtain ⟨F, G, h⟩ := h
  have t := h.two
  exact (rCompact_any G q qj sup D2 J a c rs w t.r h.rb h.rG h2 (by have := I.turn; omega) I.which hl hs hg hd I.alive I.supr I.sup1).mono fun e w' ⟨he, hp⟩ => ⟨he, h.setR hp⟩
theorem qCut_d (k : Int) (hk : k ≤ 9223372036854775807) (h : Quad B w p q D1 D2 X pj J qj R2) :
    Calls Tryz.prog 16 #[.pointer (some ⟨p, 0, none⟩), .int .i64 k] w (QPost B w p q (D1.cut k) D2 X pj J qj R2 (.tuple #[])) := by
  obtain ⟨F, G, h⟩ := h
  exact (Cut_any w F p D1 k hk h.two.d).mono fun e w' ⟨he, hp⟩ => ⟨he, h.setD hp⟩
theorem qCut_r (k : Int) (hk : k ≤ 9223372036854775807) (h : Quad B w p q D1 D2 X pj J qj R2) :
    Calls Tryz.prog 32 #[.pointer (some ⟨q, 0, none⟩), .int .i64 k] w (QPost B w p q D1 (D2.cut k) X pj J qj R2 (.tuple #[])) := by
  obtain ⟨F, G, h⟩ := h
  exact (rCut_any w G q D2 k hk h.two.r).mono fun e w' ⟨he, hp⟩ => ⟨he, h.setD2 hp⟩
theorem tCrash_d (a : Option Addr) (n c : Nat) (l : List Bool) (torn : Int) (hn : l.length = n) (hl : n ≤ 1000000) (hb : BoolsAt w a l) (hf : 0 < l.length → ∀ b off, a = some ⟨b, off, none⟩ → b < B) (h : Two B w p q D1 D2 X) :
    Calls Tryz.prog 18 #[.pointer (some ⟨p, 0, none⟩), .slice a n c, .int .i64 torn] w (TPost B w p q (D1.crash (keepOf l) torn) D2 X (.tuple #[])) := by
  subst hn
  obtain ⟨F, G, h⟩ := h
  exact (Crash_any w F p D1 a c l torn (by omega) h.d hb (fun hl b off e hF => by have := hf hl b off e; have := (h.fB b hF).1; omega) (fun k hk => (h.fB k hk).2)).mono fun e w' ⟨he, hp⟩ => ⟨he, h.setD hp⟩
theorem tCrash_r (a : Option Addr) (n c : Nat) (l : List Bool) (torn : Int) (hn : l.length = n) (hl : n ≤ 1000000) (hb : BoolsAt w a l) (h : Two B w p q D1 D2 X) :
    Calls Tryz.prog 31 #[.pointer (some ⟨q, 0, none⟩), .slice a n c, .int .i64 torn] w (TPost B w p q D1 (D2.crash (keepOf l) torn) X (.tuple #[])) := by
  subst hn
  obtain ⟨F, G, h⟩ := h
  exact (rCrash_any w G q D2 a c l torn hl hb h.r).mono fun e w' ⟨he, hp⟩ => ⟨he, h.setR hp⟩
theorem tFormat_d (hd : D1.done < 1099510000000) (h : Two B w p q D1 D2 X) :
    Calls Tryz.prog 10 #[.pointer (some ⟨p, 0, none⟩)] w (TPost B w p q D1.format.1 D2 X (errV D1.format.2)) := by
  obtain ⟨F, G, h⟩ := h
  exact (Format_any F p D1 w h.d hd).mono fun e w' ⟨he, hp⟩ => ⟨he, h.setD hp⟩
theorem tFormat_r (hd : D2.done < 1099510000000) (h : Two B w p q D1 D2 X) :
    Calls Tryz.prog 25 #[.pointer (some ⟨q, 0, none⟩)] w (TPost B w p q D1 D2.format.1 X (.int .i64 D2.format.2)) := by
  obtain ⟨F, G, h⟩ := h
  exact (rFormat_any G q D2 w h.r hd).mono fun e w' ⟨he, hp⟩ => ⟨he, h.setR hp⟩
theorem tCode (c : Int) (h : Two B w p q D1 D2 X) :
    Calls Tryz.prog 24 #[errV c] w (TPost B w p q D1 D2 X (.int .i64 c)) := by
  obtain ⟨F, G, h'⟩ := id h
  exact (code4_any c w h'.ev).mono fun e w' ⟨he, hb⟩ => ⟨he, h.below hb⟩
theorem qCode (c : Int) (h : Quad B w p q D1 D2 X pj J qj R2) :
    Calls Tryz.prog 24 #[errV c] w (QPost B w p q D1 D2 X pj J qj R2 (.int .i64 c)) := by
  obtain ⟨F, G, h'⟩ := id h
  exact (code4_any c w h'.two.ev).mono fun e w' ⟨he, hb⟩ => ⟨he, h.below hb⟩
theorem tRead_d (i : Int) (h : Two B w p q D1 D2 X) :
    Calls Tryz.prog 33 #[.pointer (some ⟨p, 0, none⟩), .int .i64 i] w fun e w' => e = .returned (.tuple #[.string (D1.readS i), errV (D1.may i)]) ∧ w = w' := by
  obtain ⟨F, G, h⟩ := h
  exact Read_any w F p D1 i h.d
theorem tRead_r (i : Int) (h : Two B w p q D1 D2 X) :
    Calls Tryz.prog 34 #[.pointer (some ⟨q, 0, none⟩), .int .i64 i] w fun e w' => e = .returned (.tuple #[.string (D2.readS i), .int .i64 (D2.may i)]) ∧ w = w' := by
  obtain ⟨F, G, h⟩ := h
  exact rRead_any w G q D2 i h.r
theorem tWrites (h : Two B w p q D1 D2 X) :
    Calls Tryz.prog 21 #[.pointer (some ⟨p, 0, none⟩)] w fun e w' => e = .returned (.int .i64 (D1.done : Int)) ∧ w = w' := by
  obtain ⟨F, G, h⟩ := h
  exact Writes_any w F p D1 h.d
theorem qLen (h : Quad B w p q D1 D2 X pj J qj R2) :
    Calls Tryz.prog 22 #[.pointer (some ⟨pj, 0, none⟩)] w fun e w' => e = .returned (.int .i64 (J.n : Int)) ∧ w = w' := by
  obtain ⟨F, G, h⟩ := h
  exact jLen_any pj p J w h.jb
end

/-- What the walk keeps at the end of each step: one disk twice, one journal twice, or none. -/
def St (B : Nat) (w : World) (p q : Nat) (v8 v11 : Value) (T m len : Nat) (D : DS) (X : Nat → Prop) : Prop :=
  Pl T m len D ∧ ((v8 = .pointer none ∧ v11 = .pointer none ∧ Two B w p q D D X) ∨
    (∃ pj qj J sup, v8 = .pointer (some ⟨pj, 0, none⟩) ∧ v11 = .pointer (some ⟨qj, 0, none⟩) ∧ JInv T D J sup ∧ 4 ≤ len ∧ Quad B w p q D D X pj J qj (rOf sup J)))
theorem St.two {B : Nat} {w : World} {p q : Nat} {v8 v11 : Value} {T m len : Nat} {D : DS} {X : Nat → Prop} (h : St B w p q v8 v11 T m len D X) : Two B w p q D D X := by
  rcases h.2 with ⟨-, -, h⟩ | ⟨_, _, _, _, -, -, -, -, h⟩
  · exact h
  · exact h.toTwo
theorem St.below {B : Nat} {w w' : World} {p q : Nat} {v8 v11 : Value} {T m len : Nat} {D : DS} {X : Nat → Prop} (h : St B w p q v8 v11 T m len D X) (hb : Below w.heap.size w w') : St B w' p q v8 v11 T m len D X := by
  refine ⟨h.1, ?_⟩
  rcases h.2 with ⟨h1, h2, h⟩ | ⟨pj, qj, J, sup, h1, h2, h3, h4, h⟩
  · exact .inl ⟨h1, h2, (h.below hb).2⟩
  · exact .inr ⟨pj, qj, J, sup, h1, h2, h3, h4, (h.below hb).2⟩

theorem stCode {B : Nat} {w : World} {p q : Nat} {v8 v11 : Value} {T m len : Nat} {D : DS} {X : Nat → Prop} (c : Int) (h : St B w p q v8 v11 T m len D X) :
    Calls Tryz.prog 24 #[errV c] w fun e w' => e = .returned (.int .i64 c) ∧ Left B X w w' ∧ St B w' p q v8 v11 T m len D X := by
  obtain ⟨F, G, h'⟩ := h.two
  exact (code4_any c w h'.ev).mono fun e w' ⟨he, hb⟩ => ⟨he, ⟨hb.mono h'.base, fun k hk => hb.block k (h'.x k hk)⟩, h.below hb⟩

theorem opens_n {D : DS} (h : D.opens.2.1 = 0) : D.opens.2.2.1.n = D.opens.2.2.2.length := by
  unfold DS.opens at h ⊢
  split
  · rename_i h4; rw [if_pos h4] at h; cases h
  · split
    · rfl
    · rfl
theorem Quad.ev {B : Nat} {w : World} {p q : Nat} {D1 D2 : DS} {X : Nat → Prop} {pj qj : Nat} {J : JS} {R2 : RS} (h : Quad B w p q D1 D2 X pj J qj R2) : ErrVar w := by obtain ⟨F, G, h⟩ := h; exact h.two.ev
theorem same_yes (a a' : Option Addr) (c c' n : Nat) (l : List ByteArray) (hn : n = l.length) (hl : n ≤ 9223372036854775807) (w : World) (ha : SlOf mkS w a l) (ha' : SlOf mkS w a' l) :
    Calls Tryz.prog 19 #[.slice a n c, .slice a' n c'] w fun e w' => e = .returned (.bool true) ∧ Below w.heap.size w w' :=
  (same_any a a' c c' l l n n hn hn hl w ha ha').mono fun e w' ⟨he, hb⟩ => ⟨by rw [he, decide_eq_true rfl], hb⟩
structure StepD where
  what : Int
  at_ : Int
  b : ByteArray
  keep : List Bool
  adr : Option Addr
  cap : Nat
/-- A step as its four cells show it. -/
structure StepAt (w : World) (b k : Nat) (s : StepD) : Prop where
  c0 : w.cell? ⟨b, k, none⟩ = some (.int .i64 s.what)
  c1 : w.cell? ⟨b, k + 1, none⟩ = some (.int .i64 s.at_)
  c2 : w.cell? ⟨b, k + 2, none⟩ = some (.string s.b)
  c3 : w.cell? ⟨b, k + 3, none⟩ = some (.slice s.adr s.keep.length s.cap)
  keep : BoolsAt w s.adr s.keep
  most : s.at_ ≤ 9223372036854775807
def StepsAt (w : World) (a : Option Addr) (l : List StepD) : Prop := ∀ j s, l[j]? = some s → ∃ b off, a = some ⟨b, off, none⟩ ∧ StepAt w b (off + j * 4) s
theorem BoolsAt.below {w w' : World} {a : Option Addr} {l : List Bool} (h : BoolsAt w a l) (hb : Below w.heap.size w w') : BoolsAt w' a l :=
  fun j x hj => by
    obtain ⟨b, off, e, hc⟩ := h j x hj
    exact ⟨b, off, e, cell_keep hb hc⟩
theorem StepAt.below {w w' : World} {b k : Nat} {s : StepD} (h : StepAt w b k s) (hb : Below w.heap.size w w') : StepAt w' b k s :=
  ⟨cell_keep hb h.c0, cell_keep hb h.c1, cell_keep hb h.c2, cell_keep hb h.c3, h.keep.below hb, h.most⟩
theorem BoolsAt.off {w : World} {a : Option Addr} {l : List Bool} (h : BoolsAt w a l) {B : Nat} (hB : w.heap.size ≤ B) : 0 < l.length → ∀ b off, a = some ⟨b, off, none⟩ → b < B := by
  intro hl q off e
  obtain ⟨x, hx⟩ : ∃ x, l[0]? = some x := ⟨_, List.getElem?_eq_getElem hl⟩
  obtain ⟨q', off', e', hc⟩ := h 0 x hx
  rw [e] at e'
  cases e'
  have := cell_lt hc
  simp only at this
  omega
end Go.Proofs.YtjincmagbbpooaaGreatDoor
end
