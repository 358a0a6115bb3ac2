import Derived.Test.YtghebjgkdfbmeaaGreatDoorKN
set_option linter.unusedVariables false
set_option linter.unusedSimpArgs false
namespace Go.Proofs.YtghebjgkdfbmeaaGreatDoor
open Go.RowKit

/-! ### both readers read alike -/
theorem pTerm_err (f : Nat) (r : RS) (h : r.e ≠ 0) : (pTerm (f + 1) r).2.e = r.e := by
  have hm : r.more.e = r.e := by
    unfold RS.more
    simp only
    rw [if_neg (fun h' => h h'.1)]
  have hn : r.more.num = (0, r.more) := num_err (by rw [hm]; exact h)
  rw [pTerm_eq, hn]
  simp only
  unfold pBody
  rw [if_pos (by rw [hm]; exact h)]
  exact hm
theorem leafB_part {k : Int} (h : k = 4 ∨ k = 5 ∨ k = 6 ∨ k = 7) : leafB k 0 ⟨#[]⟩ = true := by
  rcases h with rfl | rfl | rfl | rfl <;> decide +kernel
def okE (e : Int) : Prop := e = 0 ∨ e = 10 ∨ e = 11 ∨ e = 13
theorem numL_ok : ∀ (f i n a : Nat) (l : List Nat), okE (numL l f i n a).2.2
  | 0, i, n, a, l => by cases l <;> exact .inr (.inl rfl)
  | f + 1, i, n, a, [] => .inr (.inr (.inl rfl))
  | f + 1, i, n, a, b :: r => by
    have e : numL (b :: r) (f + 1) i n a = (if b = 0 ∧ 0 < i then (0, 0, 10) else if b < 128 then (n + b % 128 * a, i + 1, 0) else numL r f (i + 1) (n + b % 128 * a) (a * 128)) := rfl
    rw [e]
    split
    · exact .inr (.inl rfl)
    · split
      · exact .inl rfl
      · exact numL_ok _ _ _ _ _
theorem numS_ok (s : ByteArray) : okE (numS s).2.2 := by rw [numS_L]; exact numL_ok _ _ _ _ _
theorem textR_ok (s : ByteArray) (m : Int) : okE (textR s m).2.2 := by
  unfold textR
  split
  · exact numS_ok s
  · split
    · exact .inr (.inr (.inr rfl))
    · split
      · exact .inr (.inr (.inl rfl))
      · exact .inl rfl
theorem num_ok {r : RS} (h : okE r.e) : okE r.num.2.e := by
  unfold RS.num
  split
  · exact h
  · exact numS_ok _
theorem name_ok {r : RS} (h : okE r.e) : okE r.name.2.e := by
  unfold RS.name
  split
  · exact h
  · exact textR_ok _ _
theorem leafErr_ok {k n : Int} {s : ByteArray} {r : RS} (h : okE r.e) : okE (leafErr k n s r).e := by
  unfold leafErr
  split
  · exact .inr (.inl rfl)
  · exact h
theorem pTerm_ok : ∀ (f : Nat) (r : RS), okE r.e → okE (pTerm f r).2.e
  | 0, r, h => h
  | f + 1, r, h => by
    have hm : okE r.more.e := by
      unfold RS.more
      simp only
      split
      · exact .inr (.inr (.inr rfl))
      · exact h
    have h1 := num_ok hm
    rw [pTerm_eq]
    generalize r.more.num.2 = r1 at h1 ⊢
    generalize r.more.num.1 = k
    unfold pBody
    split
    · exact h1
    split
    · refine leafErr_ok ?_
      unfold pLeaf
      split
      · exact num_ok (name_ok h1)
      · exact num_ok h1
    split
    · exact pTerm_ok f _ (pTerm_ok f _ (pTerm_ok f _ h1))
    split
    · exact pTerm_ok f _ (pTerm_ok f _ h1)
    · exact .inr (.inl rfl)
theorem leafStep_pLeaf {k : Int} {r : RS} (h : r.e = 0) (hk : k = 1 ∨ k = 2 ∨ k = 3) : leafStep k r = pLeaf k r := by
  unfold leafStep pLeaf
  rw [name_zero h]
  by_cases k3 : k = 3
  · rw [if_pos k3, if_pos k3]
  · rw [if_neg k3, if_neg k3, if_pos (by omega)]
theorem partR_out {go : RS → Tm × RS} {p j : Int} {r : RS} (h : r.e ≠ 0) : partR go p j r = (.nil, r) := by
  unfold partR
  rw [if_neg (fun h' => h h'.1)]
theorem partR_none {go : RS → Tm × RS} {p j : Int} {r : RS} (h : ¬ j < p) : partR go p j r = (.nil, r) := by
  unfold partR
  rw [if_neg (fun h' => h h'.2)]
theorem partR_in {go : RS → Tm × RS} {p j : Int} {r : RS} (h : r.e = 0) (hj : j < p) : partR go p j r = go r := by
  unfold partR
  rw [if_pos ⟨h, hj⟩]
theorem pKeep {f : Nat} {r : RS} (hf : 1 ≤ f) (h : r.e ≠ 0) : (pTerm f r).2.e = r.e := by
  obtain ⟨g, rfl⟩ : ∃ g, f = g + 1 := ⟨f - 1, by omega⟩
  exact pTerm_err g r h
theorem pr_eq : ∀ (f : Nat) (r : RS), r.e = 0 → r.n ≤ 3000 → 1 ≤ f → 3001 ≤ r.n + f → (pTerm f r).2.e = (rTerm f r).2.e ∧ ((rTerm f r).2.e = 0 → pTerm f r = rTerm f r)
  | 0, r, _, _, h, _ => by omega
  | f + 1, ⟨s, n, e⟩, he, hn, _, hf => by
    simp only at he hn hf
    subst he
    by_cases h1 : 3000 < n + 1
    · have hm : (⟨s, n, 0⟩ : RS).more = ⟨s, n + 1, 13⟩ := by unfold RS.more; rw [if_pos ⟨rfl, h1⟩]
      have h13 : (pTerm (f + 1) ⟨s, n, 0⟩).2.e = 13 := by
        rw [pTerm_eq, hm, num_err (show (13 : Int) ≠ 0 by decide)]
        rfl
      have h13' : (rTerm (f + 1) ⟨s, n, 0⟩).2.e = 13 := by
        unfold rTerm
        rw [if_pos h1]
      rw [h13, h13']
      exact ⟨rfl, fun h => by cases h⟩
    have hm : (⟨s, n, 0⟩ : RS).more = ⟨s, n + 1, 0⟩ := by
      unfold RS.more
      rw [if_neg]
      rintro ⟨_, h⟩
      exact h1 h
    rw [pTerm_eq, hm]
    unfold rTerm
    rw [if_neg h1]
    simp only
    have hn1 : (⟨s, n + 1, 0⟩ : RS).num.2.n = n + 1 := num_n _
    generalize (⟨s, n + 1, 0⟩ : RS).num.1 = k
    generalize (⟨s, n + 1, 0⟩ : RS).num.2 = r1 at hn1 ⊢
    by_cases h2 : r1.e ≠ 0
    · rw [if_pos h2]
      unfold pBody
      rw [if_pos h2]
      exact ⟨rfl, fun h => absurd h h2⟩
    rw [if_neg h2]
    have hz : r1.e = 0 := Classical.byContradiction h2
    have hf1 : 1 ≤ f := by omega
    unfold pBody
    rw [if_neg h2]
    by_cases hk : k = 1 ∨ k = 2 ∨ k = 3
    · have hp : partsN k = 0 := by unfold partsN; rw [if_neg (by omega), if_neg (by omega)]
      rw [if_pos hk, leafStep_pLeaf hz hk, hp]
      simp only [partR_none (show ¬ (0 : Int) < 0 by decide), partR_none (show ¬ (1 : Int) < 0 by decide), partR_none (show ¬ (2 : Int) < 0 by decide)]
      exact ⟨trivial, fun _ => trivial⟩
    rw [if_neg hk]
    have hls : leafStep k r1 = (0, ⟨#[]⟩, r1) := by unfold leafStep; rw [if_neg (by omega), if_neg (by omega)]
    rw [hls]
    simp only
    by_cases k7 : k = 7
    · have hp : partsN k = 3 := by unfold partsN; rw [if_neg (by omega), if_pos k7]
      have hle : leafErr k 0 ⟨#[]⟩ r1 = r1 := by unfold leafErr; rw [if_neg (fun h => by rw [leafB_part (by omega)] at h; exact absurd h.2 (by decide))]
      rw [if_pos k7, hp, hle, partR_in hz (by decide)]
      obtain ⟨a1, a2⟩ := pr_eq f r1 hz (by omega) hf1 (by omega)
      by_cases z1 : (rTerm f r1).2.e = 0
      · rw [partR_in z1 (by decide), a2 z1]
        have g1 := rTerm_goes f r1 hz (by omega)
        have n1 := g1.n
        have n1' := g1.e z1
        generalize rTerm f r1 = X at z1 n1 n1' ⊢
        obtain ⟨b1, b2⟩ := pr_eq f X.2 z1 n1' hf1 (by omega)
        by_cases z2 : (rTerm f X.2).2.e = 0
        · rw [partR_in z2 (by decide), b2 z2]
          have g2 := rTerm_goes f X.2 z1 n1'
          have n2 := g2.n
          have n2' := g2.e z2
          generalize rTerm f X.2 = Y at z2 n2 n2' ⊢
          obtain ⟨c1, c2⟩ := pr_eq f Y.2 z2 n2' hf1 (by omega)
          exact ⟨c1, fun h => by rw [c2 h]⟩
        · rw [partR_out z2, pKeep hf1 (by rw [b1]; exact z2), b1]
          exact ⟨rfl, fun h => absurd h z2⟩
      · have q1 : (pTerm f r1).2.e ≠ 0 := by rw [a1]; exact z1
        have q2 : (pTerm f (pTerm f r1).2).2.e = (pTerm f r1).2.e := pKeep hf1 q1
        rw [partR_out z1]
        simp only
        rw [partR_out z1, pKeep hf1 (by rw [q2]; exact q1), q2, a1]
        exact ⟨rfl, fun h => absurd h z1⟩
    rw [if_neg k7]
    by_cases k4 : k = 4 ∨ k = 5 ∨ k = 6
    · have hp : partsN k = 2 := by unfold partsN; rw [if_pos k4]
      have hle : leafErr k 0 ⟨#[]⟩ r1 = r1 := by unfold leafErr; rw [if_neg (fun h => by rw [leafB_part (by omega)] at h; exact absurd h.2 (by decide))]
      rw [if_pos k4, hp, hle, partR_in hz (by decide), partR_none (show ¬ (2 : Int) < 2 by decide)]
      obtain ⟨a1, a2⟩ := pr_eq f r1 hz (by omega) hf1 (by omega)
      by_cases z1 : (rTerm f r1).2.e = 0
      · rw [partR_in z1 (by decide), a2 z1]
        have g1 := rTerm_goes f r1 hz (by omega)
        have n1 := g1.n
        have n1' := g1.e z1
        generalize rTerm f r1 = X at z1 n1 n1' ⊢
        obtain ⟨b1, b2⟩ := pr_eq f X.2 z1 n1' hf1 (by omega)
        exact ⟨b1, fun h => by rw [b2 h]⟩
      · have q1 : (pTerm f r1).2.e ≠ 0 := by rw [a1]; exact z1
        rw [partR_out z1, pKeep hf1 q1, a1]
        exact ⟨rfl, fun h => absurd h z1⟩
    · have hl : leafB k 0 ⟨#[]⟩ = false := by
        unfold leafB
        rw [if_neg (by omega), if_neg (by omega), if_neg (by omega)]
        rw [Bool.and_eq_false_iff, Bool.and_eq_false_iff]
        by_cases h4 : 4 ≤ k
        · exact .inr (decide_eq_false (by omega))
        · exact .inl (.inr (decide_eq_false h4))
      have hp : partsN k = 0 := by unfold partsN; rw [if_neg k4, if_neg k7]
      have hle : leafErr k 0 ⟨#[]⟩ r1 = ⟨r1.s, r1.n, 10⟩ := by unfold leafErr; rw [if_pos ⟨hz, hl⟩]
      rw [if_neg k4, hp, hle]
      simp only [partR_none (show ¬ (0 : Int) < 0 by decide), partR_none (show ¬ (1 : Int) < 0 by decide), partR_none (show ¬ (2 : Int) < 0 by decide)]
      exact ⟨trivial, fun _ => trivial⟩
theorem pRead_rRead (s : ByteArray) : pRead s = rRead s := by
  obtain ⟨h1, h2⟩ := pr_eq 3001 ⟨s, 0, 0⟩ rfl (Nat.zero_le _) (by omega) (by simp)
  have hk := pTerm_ok 3001 ⟨s, 0, 0⟩ (.inl rfl)
  unfold pRead rRead
  rw [h1] at hk ⊢
  by_cases h0 : (rTerm 3001 ⟨s, 0, 0⟩).2.e = 0
  · rw [h2 h0, if_neg (by rw [h0]; omega), if_neg (fun h => h h0)]
  · have : (rTerm 3001 ⟨s, 0, 0⟩).2.e = 11 ∨ (rTerm 3001 ⟨s, 0, 0⟩).2.e = 10 ∨ (rTerm 3001 ⟨s, 0, 0⟩).2.e = 13 := by unfold okE at hk; omega
    rw [if_pos this, if_pos h0]
end Go.Proofs.YtghebjgkdfbmeaaGreatDoor
