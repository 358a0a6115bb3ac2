import Derived.Test.YtghebjgkdfbmeaaGreatDoorCB
import Derived.Test.YtghebjgkdfbmeaaGreatDoorPD
set_option linter.unusedVariables false
set_option linter.unusedSimpArgs false
namespace Go.Proofs.YtghebjgkdfbmeaaGreatDoor
open Go.RowKit

/-! ### which terms are right -/
def partG (good : Bool) (i : Nat) (N : Int) (z : Bool) : Bool := if (i : Int) < N then good else z
def goodT : Tm → Bool
  | .nil => false
  | .node k n s a b c => leafB k n s && partG (goodT a) 0 (partsN k) a.isNil && partG (goodT b) 1 (partsN k) b.isNil && partG (goodT c) 2 (partsN k) c.isNil
theorem isNil_iff {t : Tm} : t.isNil = true ↔ t = .nil := by
  cases t with
  | nil => exact ⟨fun _ => rfl, fun _ => rfl⟩
  | node => exact ⟨fun h => (by cases h), fun h => (by cases h)⟩
theorem step_spec {q : Tm} (hq : ∀ m, ((allF q m).1 = true ↔ goodT q = true ∧ sizeT q ≤ m) ∧ ((allF q m).1 = true → (allF q m).2 + sizeT q = m)) (i : Nat) (N : Int) (x : Bool × Nat) :
    ((stepA (allF q) i N q.isNil x).1 = true ↔ x.1 = true ∧ partG (goodT q) i N q.isNil = true ∧ sizeT q ≤ x.2) ∧ ((stepA (allF q) i N q.isNil x).1 = true → (stepA (allF q) i N q.isNil x).2 + sizeT q = x.2) := by
  obtain ⟨ok, m⟩ := x
  unfold stepA partG
  simp only
  by_cases h1 : ok = true
  · rw [if_pos h1]
    by_cases h2 : (i : Int) < N
    · rw [if_pos h2, if_pos h2]
      exact ⟨⟨fun h => ⟨h1, (hq m).1.1 h⟩, fun h => (hq m).1.2 h.2⟩, (hq m).2⟩
    · rw [if_neg h2, if_neg h2]
      simp only
      refine ⟨⟨fun h => ⟨h1, h, ?_⟩, fun h => h.2.1⟩, fun h => ?_⟩
      · rw [isNil_iff.1 h]; exact Nat.zero_le _
      · rw [isNil_iff.1 h]; rfl
  · rw [if_neg h1]
    exact ⟨⟨fun h => (by cases h), fun h => absurd h.1 h1⟩, fun h => (by cases h)⟩
theorem allF_spec : ∀ (t : Tm) (m : Nat), ((allF t m).1 = true ↔ goodT t = true ∧ sizeT t ≤ m) ∧ ((allF t m).1 = true → (allF t m).2 + sizeT t = m)
  | .nil, m => ⟨⟨fun h => (by cases h), fun h => (by cases h.1)⟩, fun h => (by cases h)⟩
  | .node k n s a b c, m => by
    unfold allF goodT sizeT
    by_cases h0 : m = 0
    · rw [if_pos h0]
      exact ⟨⟨fun h => (by cases h), fun h => by omega⟩, fun h => (by cases h)⟩
    rw [if_neg h0]
    have ha := step_spec (allF_spec a) 0 (partsN k) (leafB k n s, m - 1)
    generalize stepA (allF a) 0 (partsN k) a.isNil (leafB k n s, m - 1) = xa at ha ⊢
    have hb := step_spec (allF_spec b) 1 (partsN k) xa
    generalize stepA (allF b) 1 (partsN k) b.isNil xa = xb at hb ⊢
    have hc := step_spec (allF_spec c) 2 (partsN k) xb
    generalize stepA (allF c) 2 (partsN k) c.isNil xb = xc at hc ⊢
    simp only at ha
    have e : (leafB k n s && partG (goodT a) 0 (partsN k) a.isNil && partG (goodT b) 1 (partsN k) b.isNil && partG (goodT c) 2 (partsN k) c.isNil) = true ↔ leafB k n s = true ∧ partG (goodT a) 0 (partsN k) a.isNil = true ∧ partG (goodT b) 1 (partsN k) b.isNil = true ∧ partG (goodT c) 2 (partsN k) c.isNil = true := by
      simp only [Bool.and_eq_true, and_assoc]
    rw [e]
    refine ⟨⟨fun h => ?_, fun h => ?_⟩, fun h => ?_⟩
    · obtain ⟨h1, h2, h3⟩ := hc.1.1 h
      obtain ⟨h4, h5, h6⟩ := hb.1.1 h1
      obtain ⟨h7, h8, h9⟩ := ha.1.1 h4
      have := hb.2 h1
      have := ha.2 h4
      exact ⟨⟨h7, h8, h5, h2⟩, by omega⟩
    · obtain ⟨⟨h1, h2, h3, h4⟩, h5⟩ := h
      have xa1 := ha.1.2 ⟨h1, h2, by omega⟩
      have := ha.2 xa1
      have xb1 := hb.1.2 ⟨xa1, h3, by omega⟩
      have := hb.2 xb1
      exact hc.1.2 ⟨xb1, h4, by omega⟩
    · obtain ⟨h1, h2, h3⟩ := hc.1.1 h
      obtain ⟨h4, h5, h6⟩ := hb.1.1 h1
      have := hc.2 h
      have := hb.2 h1
      have := ha.2 h4
      have := (ha.1.1 h4).2.2
      omega
theorem leafB_bnd {k n : Int} {s : ByteArray} (h : leafB k n s = true) : 1 ≤ k ∧ k ≤ 7 ∧ 0 ≤ n ∧ n ≤ 100000 ∧ s.size ≤ 24 := by
  have hs0 : ∀ {s : ByteArray}, eqL s [] = true → s.size = 0 := fun h => by rw [eqL_iff.1 h]; rfl
  unfold leafB at h
  repeat' split at h
  all_goals simp only [Bool.and_eq_true, decide_eq_true_eq, beq_iff_eq] at h
  · obtain ⟨⟨h1, h2⟩, h3⟩ := h
    have := hs0 h1
    omega
  · obtain ⟨⟨h1, h2⟩, h3⟩ := h
    have := hs0 h1
    omega
  · obtain ⟨⟨⟨⟨h1, h2⟩, h3⟩, h4⟩, h5⟩ := h
    unfold nameS at h1
    simp only [Bool.and_eq_true, decide_eq_true_eq] at h1
    omega
  · obtain ⟨⟨⟨h1, h2⟩, h3⟩, h4⟩ := h
    have := hs0 h1
    omega
theorem good_ok : ∀ t : Tm, goodT t = true → okB t ∧ t.small
  | .nil, h => by cases h
  | .node k n s a b c, h => by
    unfold goodT at h
    simp only [Bool.and_eq_true] at h
    obtain ⟨⟨⟨h1, h2⟩, h3⟩, h4⟩ := h
    obtain ⟨b1, b2, b3, b4, b5⟩ := leafB_bnd h1
    have part : ∀ (q : Tm) (i : Nat), (goodT q = true → okB q ∧ q.small) → partG (goodT q) i (partsN k) q.isNil = true → okB q ∧ q.small := by
      intro q i ih hp
      unfold partG at hp
      split at hp
      · exact ih hp
      · rw [isNil_iff.1 hp]; exact ⟨trivial, trivial⟩
    have pa := part a 0 (good_ok a) h2
    have pb := part b 1 (good_ok b) h3
    have pc := part c 2 (good_ok c) h4
    exact ⟨⟨by omega, by omega, by omega, pa.1, pb.1, pc.1⟩, ⟨by omega, pa.2, pb.2, pc.2⟩⟩

/-! ### what the document's reader gives -/
theorem leafErr_zero {k n : Int} {s : ByteArray} {r : RS} (h : (leafErr k n s r).e = 0) : r.e = 0 ∧ leafB k n s = true ∧ leafErr k n s r = r := by
  unfold leafErr at h ⊢
  split at h
  · cases h
  · rename_i h1
    refine ⟨h, ?_, by rw [if_neg h1]⟩
    cases hl : leafB k n s
    · exact absurd ⟨h, hl⟩ h1
    · rfl
theorem partR_zero {go : RS → Tm × RS} {p j : Int} {r : RS} (h : (partR go p j r).2.e = 0) : r.e = 0 ∧ partR go p j r = if j < p then go r else (.nil, r) := by
  unfold partR at h ⊢
  split at h
  · rename_i h1
    exact ⟨h1.1, by rw [if_pos h1, if_pos h1.2]⟩
  · rename_i h1
    exact ⟨h, by rw [if_neg h1, if_neg (fun h2 => h1 ⟨h, h2⟩)]⟩
theorem rTerm_good : ∀ (f : Nat) (r : RS), r.e = 0 → 1 ≤ f → 3001 ≤ r.n + f → (rTerm f r).2.e = 0 → goodT (rTerm f r).1 = true ∧ (rTerm f r).2.n = r.n + sizeT (rTerm f r).1
  | 0, r, _, hf, _, _ => by omega
  | f + 1, r, he, _, hf, h => by
    unfold rTerm at h ⊢
    by_cases h1 : 3000 < r.n + 1
    · rw [if_pos h1] at h; cases h
    rw [if_neg h1] at h ⊢
    by_cases h2 : (⟨r.s, r.n + 1, r.e⟩ : RS).num.2.e ≠ 0
    · rw [if_pos h2] at h; exact absurd h h2
    rw [if_neg h2] at h ⊢
    simp only at h ⊢
    generalize hk : (⟨r.s, r.n + 1, r.e⟩ : RS).num.1 = k at h ⊢
    have hn0 : (⟨r.s, r.n + 1, r.e⟩ : RS).num.2.n = r.n + 1 := num_n _
    generalize (⟨r.s, r.n + 1, r.e⟩ : RS).num.2 = r1 at h hn0 ⊢
    have hn1 := leafStep_n k r1
    generalize (leafStep k r1).1 = ln at h ⊢
    generalize (leafStep k r1).2.1 = nm at h ⊢
    generalize (leafStep k r1).2.2 = r2 at h hn1 ⊢
    obtain ⟨hy, ez⟩ := partR_zero h
    obtain ⟨hx, ey⟩ := partR_zero hy
    obtain ⟨h3, ex⟩ := partR_zero hx
    obtain ⟨h4, hlf, el⟩ := leafErr_zero h3
    rw [el] at h hy hx ex ey ez ⊢
    generalize partR (rTerm f) (partsN k) 0 r2 = x at h hy hx ex ey ez ⊢
    generalize partR (rTerm f) (partsN k) 1 x.2 = y at h hy ey ez ⊢
    generalize partR (rTerm f) (partsN k) 2 y.2 = z at h ez ⊢
    have hf1 : 1 ≤ f := by omega
    have step : ∀ (j : Nat) (q : RS) (u : Tm × RS), q.e = 0 → r.n + 1 ≤ q.n → u = (if ((j : Nat) : Int) < partsN k then rTerm f q else (.nil, q)) → u.2.e = 0 → partG (goodT u.1) j (partsN k) u.1.isNil = true ∧ u.2.n = q.n + sizeT u.1 := by
      intro j q u hq hqn hu hue
      unfold partG
      by_cases hj : ((j : Nat) : Int) < partsN k
      · rw [if_pos hj] at hu
        rw [if_pos hj]
        subst hu
        exact rTerm_good f q hq hf1 (by omega) hue
      · rw [if_neg hj] at hu
        rw [if_neg hj]
        subst hu
        exact ⟨rfl, rfl⟩
    have sx := step 0 r2 x h4 (by omega) ex hx
    have sy := step 1 x.2 y hx (by omega) ey hy
    have sz := step 2 y.2 z hy (by omega) ez h
    refine ⟨?_, ?_⟩
    · unfold goodT
      rw [hlf, sx.1, sy.1, sz.1]
      rfl
    · unfold sizeT
      have := sx.2
      have := sy.2
      have := sz.2
      omega
theorem termT_good {s : ByteArray} (h : termT s ≠ .nil) : goodT (termT s) = true ∧ sizeT (termT s) ≤ 3000 := by
  unfold termT at h ⊢
  split at h
  · exact absurd rfl h
  · rename_i h1
    rw [if_neg h1]
    unfold rRead at h h1 ⊢
    split at h
    · exact absurd rfl h
    · rename_i h2
      rw [if_neg h2]
      have he : (rTerm 3001 ⟨s, 0, 0⟩).2.e = 0 := Classical.byContradiction h2
      have hg := rTerm_good 3001 ⟨s, 0, 0⟩ rfl (by omega) (by simp) he
      have hb := (rTerm_goes 3001 ⟨s, 0, 0⟩ rfl (Nat.zero_le _)).e he
      refine ⟨hg.1, ?_⟩
      have := hg.2
      simp only at this
      show sizeT (rTerm 3001 ⟨s, 0, 0⟩).1 ≤ 3000
      omega
end Go.Proofs.YtghebjgkdfbmeaaGreatDoor
