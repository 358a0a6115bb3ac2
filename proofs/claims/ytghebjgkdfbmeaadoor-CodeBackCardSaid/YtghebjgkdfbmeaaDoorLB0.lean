import Derived.Test.YtghebjgkdfbmeaaDoorLD0
set_option linter.unusedVariables false
set_option linter.unusedSimpArgs false
namespace Go.Proofs.YtghebjgkdfbmeaaDoor
open Go.RowKit

/-! ### what is read has just those bytes -/
theorem numL_sound : ∀ (f i n a : Nat) (l : List Nat), (∀ x ∈ l, x < 256) → (numL l f i n a).2.2 = 0 →
    ∃ m, (0 < i → 0 < m) ∧ numL l f i n a = (n + m * a, i + (numB m).length, 0) ∧ l = numB m ++ l.drop (numB m).length
  | 0, i, n, a, l, _, h => by cases l <;> cases h
  | f + 1, i, n, a, [], _, h => by cases h
  | f + 1, i, n, a, b :: r, hl, h => by
    have hb : b < 256 := hl b (List.mem_cons_self ..)
    have e : numL (b :: r) (f + 1) i n a = (if b = 0 ∧ 0 < i then (0, 0, 10) else if b < 128 then (n + b % 128 * a, i + 1, 0) else numL r f (i + 1) (n + b % 128 * a) (a * 128)) := rfl
    rw [e] at h ⊢
    by_cases h1 : b = 0 ∧ 0 < i
    · rw [if_pos h1] at h; cases h
    rw [if_neg h1] at h ⊢
    by_cases h2 : b < 128
    · rw [if_pos h2]
      refine ⟨b, by omega, ?_, ?_⟩
      · rw [numB_small h2, Nat.mod_eq_of_lt h2]; rfl
      · rw [numB_small h2]; rfl
    · rw [if_neg h2] at h ⊢
      obtain ⟨m, p1, p2, p3⟩ := numL_sound f (i + 1) _ _ r (fun x hx => hl x (List.mem_cons_of_mem _ hx)) h
      have hm := p1 (by omega)
      have d1 : (b % 128 + 128 * m) % 128 = b % 128 := by omega
      have d2 : (b % 128 + 128 * m) / 128 = m := by omega
      have d3 : b % 128 + 128 = b := by omega
      have d4 : n + b % 128 * a + m * (a * 128) = n + (b % 128 + 128 * m) * a := by
        rw [Nat.add_mul, Nat.add_assoc, Nat.mul_comm a 128, ← Nat.mul_assoc, Nat.mul_comm m 128]
      refine ⟨b % 128 + 128 * m, by omega, ?_, ?_⟩
      · rw [p2, numB_great (show ¬ b % 128 + 128 * m < 128 by omega), d2, List.length_cons, d4]
        congr 2
        omega
      · rw [numB_great (show ¬ b % 128 + 128 * m < 128 by omega), d1, d2, d3, List.length_cons, List.drop_succ_cons, List.cons_append, ← p3]
theorem numS_sound {s : ByteArray} (h : (numS s).2.2 = 0) : s = strN (numB (numS s).1) ++ dropB s (numS s).2.1 := by
  rw [numS_L] at h ⊢
  obtain ⟨m, _, p2, p3⟩ := numL_sound 8 0 0 1 (bys s) (bys_lt s) h
  rw [p2]
  apply bys_inj
  simp only [Nat.zero_add, Nat.mul_one]
  rw [bys_append, bys_strN (numB_lt m), bys_dropB]
  exact p3
theorem numI_nat (n : Nat) : numI (n : Int) = strN (numB n) := by
  unfold numI mxI
  rw [if_neg (by omega)]
  rfl
theorem num_sound {r : RS} (h : r.num.2.e = 0) : r.e = 0 ∧ r.s = numI r.num.1 ++ r.num.2.s := by
  have h0 := num_e h
  refine ⟨h0, ?_⟩
  rw [num_zero h0] at h ⊢
  simp only at h ⊢
  rw [numI_nat]
  exact numS_sound h
theorem textR_sound {s : ByteArray} {m : Int} (h : (textR s m).2.2 = 0) : s = textS (textR s m).1 ++ (textR s m).2.1 := by
  unfold textR at h ⊢
  by_cases h1 : (numS s).2.2 ≠ 0
  · rw [if_pos h1] at h; exact absurd h h1
  rw [if_neg h1] at h ⊢
  by_cases h2 : m < ((numS s).1 : Int)
  · rw [if_pos h2] at h; cases h
  rw [if_neg h2] at h ⊢
  by_cases h3 : (dropB s (numS s).2.1).size < (numS s).1
  · rw [if_pos h3] at h; cases h
  rw [if_neg h3]
  have hs := numS_sound (Classical.byContradiction h1)
  simp only
  generalize dropB s (numS s).2.1 = d at hs h3 ⊢
  generalize (numS s).1 = k at hs h3 ⊢
  have e : (takeB d k).size = k := by unfold takeB; rw [ByteArray.size_extract]; omega
  unfold textS
  rw [e, append_assocB]
  have : takeB d k ++ dropB d k = d := by
    apply bys_inj
    rw [bys_append, bys_takeB, bys_dropB, List.take_append_drop]
  rw [this]
  exact hs
theorem name_sound {r : RS} (h : r.name.2.e = 0) : r.e = 0 ∧ r.s = textS r.name.1 ++ r.name.2.s := by
  have h0 := name_e h
  refine ⟨h0, ?_⟩
  rw [name_zero h0] at h ⊢
  exact textR_sound h
theorem pErr {f : Nat} {r : RS} (hf : 1 ≤ f) (h : (pTerm f r).2.e = 0) : r.e = 0 := by
  obtain ⟨g, rfl⟩ : ∃ g, f = g + 1 := ⟨f - 1, by omega⟩
  refine Classical.byContradiction fun hr => ?_
  rw [pTerm_err g r hr] at h
  exact hr h
theorem leafB_part {k : Int} (h : k = 4 ∨ k = 5 ∨ k = 6 ∨ k = 7) : leafB k 0 ⟨#[]⟩ = true := by
  rcases h with rfl | rfl | rfl | rfl <;> decide +kernel
theorem pTerm_sound : ∀ (f : Nat) (r : RS), 1 ≤ f → 3001 ≤ r.n + f → (pTerm f r).2.e = 0 →
    goodT (pTerm f r).1 = true ∧ (pTerm f r).2.n = r.n + sizeT (pTerm f r).1 ∧ r.s = bytesT (pTerm f r).1 ++ (pTerm f r).2.s
  | 0, r, h1, _, _ => by omega
  | f + 1, r, _, hf, h => by
    have hmn : r.more.num.2.n = r.n + 1 := by rw [num_n]; rfl
    rw [pTerm_eq] at h ⊢
    by_cases h0 : r.more.num.2.e ≠ 0
    · unfold pBody at h; rw [if_pos h0] at h; exact absurd h h0
    obtain ⟨q1, q2⟩ := num_sound (Classical.byContradiction h0)
    obtain ⟨q3, q4⟩ := more_e q1
    change r.s = _ at q2
    have hz : r.more.num.2.e = 0 := Classical.byContradiction h0
    generalize r.more.num.2 = r1 at h hmn h0 q2 hz ⊢
    generalize r.more.num.1 = k at h q2 ⊢
    have hf1 : 1 ≤ f := by omega
    unfold pBody at h ⊢
    rw [if_neg h0] at h ⊢
    by_cases hk : k = 1 ∨ k = 2 ∨ k = 3
    · rw [if_pos hk] at h ⊢
      simp only at h ⊢
      obtain ⟨e1, e2, e3⟩ := leafErr_zero h
      rw [e3]
      have hp : partsN k = 0 := by unfold partsN; rw [if_neg (by omega), if_neg (by omega)]
      refine ⟨?_, ?_, ?_⟩
      · unfold goodT partG
        rw [e2, hp]
        rfl
      · rw [pLeaf_n, hmn]; rfl
      · unfold bytesT headB
        simp only [bytesT, append_empty]
        rw [q2]
        by_cases k3 : k = 3
        · rw [if_pos k3]
          unfold pLeaf at e1 ⊢
          rw [if_pos k3] at e1 ⊢
          simp only at e1 ⊢
          obtain ⟨a1, a2⟩ := num_sound e1
          obtain ⟨a3, a4⟩ := name_sound a1
          rw [append_assocB, append_assocB, ← a2, ← a4]
        · rw [if_neg k3, if_pos (by omega)]
          unfold pLeaf at e1 ⊢
          rw [if_neg k3] at e1 ⊢
          simp only at e1 ⊢
          obtain ⟨a1, a2⟩ := num_sound e1
          rw [append_assocB, ← a2]
    rw [if_neg hk] at h ⊢
    by_cases k7 : k = 7
    · rw [if_pos k7] at h ⊢
      simp only at h ⊢
      have z2 := pErr hf1 h
      have z1 := pErr hf1 z2
      obtain ⟨g1, n1, s1⟩ := pTerm_sound f r1 hf1 (by omega) z1
      obtain ⟨g2, n2, s2⟩ := pTerm_sound f (pTerm f r1).2 hf1 (by omega) z2
      obtain ⟨g3, n3, s3⟩ := pTerm_sound f (pTerm f (pTerm f r1).2).2 hf1 (by omega) h
      refine ⟨?_, ?_, ?_⟩
      · subst k7
        unfold goodT partG
        rw [g1, g2, g3, leafB_part (by omega), (by decide : partsN 7 = 3)]
        rfl
      · simp only [sizeT]; omega
      · unfold bytesT headB
        rw [if_neg (by omega), if_neg (by omega), append_assocB, append_assocB, append_assocB, ← s3, ← s2, ← s1]
        exact q2
    rw [if_neg k7] at h ⊢
    by_cases k4 : k = 4 ∨ k = 5 ∨ k = 6
    · rw [if_pos k4] at h ⊢
      simp only at h ⊢
      have z1 := pErr hf1 h
      obtain ⟨g1, n1, s1⟩ := pTerm_sound f r1 hf1 (by omega) z1
      obtain ⟨g2, n2, s2⟩ := pTerm_sound f (pTerm f r1).2 hf1 (by omega) h
      have hp : partsN k = 2 := by unfold partsN; rw [if_pos k4]
      refine ⟨?_, ?_, ?_⟩
      · unfold goodT partG
        rw [g1, g2, leafB_part (by omega), hp]
        rfl
      · simp only [sizeT]; omega
      · unfold bytesT headB
        rw [if_neg (by omega), if_neg (by omega), show bytesT .nil = (⟨#[]⟩ : ByteArray) from rfl, append_empty, append_assocB, append_assocB, ← s2, ← s1]
        exact q2
    · rw [if_neg k4] at h
      cases h
def okE (e : Int) : Prop := e = 0 ∨ e = 10 ∨ e = 11 ∨ e = 13
theorem numL_ok : ∀ (f i n a : Nat) (l : List Nat), okE (numL l f i n a).2.2
  | 0, i, n, a, l => by cases l <;> exact .inr (.inl rfl)
  | f + 1, i, n, a, [] => .inr (.inr (.inl rfl))
  | f + 1, i, n, a, b :: r => by
    have e : numL (b :: r) (f + 1) i n a = (if b = 0 ∧ 0 < i then (0, 0, 10) else if b < 128 then (n + b % 128 * a, i + 1, 0) else numL r f (i + 1) (n + b % 128 * a) (a * 128)) := rfl
    rw [e]
    split
    · exact .inr (.inl rfl)
    · split
      · exact .inl rfl
      · exact numL_ok _ _ _ _ _
theorem numS_ok (s : ByteArray) : okE (numS s).2.2 := by rw [numS_L]; exact numL_ok _ _ _ _ _
theorem textR_ok (s : ByteArray) (m : Int) : okE (textR s m).2.2 := by
  unfold textR
  split
  · exact numS_ok s
  · split
    · exact .inr (.inr (.inr rfl))
    · split
      · exact .inr (.inr (.inl rfl))
      · exact .inl rfl
theorem num_ok {r : RS} (h : okE r.e) : okE r.num.2.e := by
  unfold RS.num
  split
  · exact h
  · exact numS_ok _
theorem name_ok {r : RS} (h : okE r.e) : okE r.name.2.e := by
  unfold RS.name
  split
  · exact h
  · exact textR_ok _ _
theorem leafErr_ok {k n : Int} {s : ByteArray} {r : RS} (h : okE r.e) : okE (leafErr k n s r).e := by
  unfold leafErr
  split
  · exact .inr (.inl rfl)
  · exact h
theorem pTerm_ok : ∀ (f : Nat) (r : RS), okE r.e → okE (pTerm f r).2.e
  | 0, r, h => h
  | f + 1, r, h => by
    have hm : okE r.more.e := by
      unfold RS.more
      simp only
      split
      · exact .inr (.inr (.inr rfl))
      · exact h
    have h1 := num_ok hm
    rw [pTerm_eq]
    generalize r.more.num.2 = r1 at h1 ⊢
    generalize r.more.num.1 = k
    unfold pBody
    split
    · exact h1
    split
    · refine leafErr_ok ?_
      unfold pLeaf
      split
      · exact num_ok (name_ok h1)
      · exact num_ok h1
    split
    · exact pTerm_ok f _ (pTerm_ok f _ (pTerm_ok f _ h1))
    split
    · exact pTerm_ok f _ (pTerm_ok f _ h1)
    · exact .inr (.inl rfl)
theorem pRead_sound {s : ByteArray} (h : (pRead s).2.2 = 0) : goodT (pRead s).1 = true ∧ sizeT (pRead s).1 ≤ 3000 ∧ s = bytesT (pRead s).1 ++ (pRead s).2.1 := by
  have hk := pTerm_ok 3001 ⟨s, 0, 0⟩ (.inl rfl)
  unfold pRead at h ⊢
  by_cases h1 : (pTerm 3001 ⟨s, 0, 0⟩).2.e = 11 ∨ (pTerm 3001 ⟨s, 0, 0⟩).2.e = 10 ∨ (pTerm 3001 ⟨s, 0, 0⟩).2.e = 13
  · rw [if_pos h1] at h
    simp only at h
    omega
  · rw [if_neg h1]
    have h0 : (pTerm 3001 ⟨s, 0, 0⟩).2.e = 0 := by unfold okE at hk; omega
    obtain ⟨g, n, q⟩ := pTerm_sound 3001 ⟨s, 0, 0⟩ (by omega) (by simp) h0
    have hb := (pTerm_goes 3001 ⟨s, 0, 0⟩ (by omega) (fun _ => ⟨Nat.zero_le _, by simp⟩)).e h0
    simp only at n
    exact ⟨g, by simp only; omega, q⟩
theorem pRead_err {s : ByteArray} (h : (pRead s).2.2 ≠ 0) : pRead s = (.nil, s, (pRead s).2.2) := by
  unfold pRead at h ⊢
  split
  · rfl
  · rename_i h1
    rw [if_neg h1] at h
    exact absurd rfl h

/-! ### what is cut off lacks -/
theorem takeB_lt {A B : ByteArray} {j : Nat} (h : j ≤ A.size) : takeB (A ++ B) j = takeB A j := by
  apply bys_inj
  rw [bys_takeB, bys_takeB, bys_append, List.take_append_of_le_length (by rw [bys_length]; exact h)]
theorem takeB_ge {A B : ByteArray} {j : Nat} (h : A.size ≤ j) : takeB (A ++ B) j = A ++ takeB B (j - A.size) := by
  apply bys_inj
  rw [bys_takeB, bys_append, bys_append, bys_takeB, List.take_append, List.take_of_length_le (by rw [bys_length]; exact h), bys_length]
theorem num_short {z : Int} (h0 : 0 ≤ z) (h1 : z ≤ 1000000) {j : Nat} (hj : j < (numI z).size) (n : Nat) : (⟨takeB (numI z) j, n, 0⟩ : RS).num.2.e = 11 := by
  rw [num_zero rfl]
  obtain ⟨m, rfl⟩ : ∃ m : Nat, z = (m : Int) := ⟨z.toNat, by omega⟩
  rw [numI_nat] at hj ⊢
  rw [strN_size] at hj
  simp only
  rw [numS_short m j (by omega) hj]
theorem name_short {s : ByteArray} (h : s.size ≤ 24) {j : Nat} (hj : j < (textS s).size) (n : Nat) : (⟨takeB (textS s) j, n, 0⟩ : RS).name.2.e = 11 := by
  rw [name_zero rfl]
  exact textR_short s 24 j (by omega) (by omega) hj
theorem num_keep {r : RS} (h : r.e ≠ 0) : r.num.2.e = r.e := by rw [num_err h]
theorem pTerm_keep {f : Nat} {r : RS} (hf : 1 ≤ f) (h : r.e = 11) : (pTerm f r).2.e = 11 := by
  obtain ⟨g, rfl⟩ : ∃ g, f = g + 1 := ⟨f - 1, by omega⟩
  rw [pTerm_err g r (by rw [h]; decide), h]
theorem leafErr_keep {k n : Int} {s : ByteArray} {r : RS} (h : r.e = 11) : (leafErr k n s r).e = 11 := by
  unfold leafErr
  rw [if_neg (fun h' => by rw [h] at h'; exact absurd h'.1 (by decide))]
  exact h
theorem pTerm_short : ∀ (t : Tm) (f n j : Nat), goodT t = true → n + sizeT t ≤ 3000 → 3001 ≤ n + f → j < (bytesT t).size → (pTerm f ⟨takeB (bytesT t) j, n, 0⟩).2.e = 11
  | .nil, f, n, j, h, _, _, _ => by cases h
  | .node k nn s a b c, 0, n, j, _, hn, hf, _ => by unfold sizeT at hn; omega
  | .node k nn s a b c, f + 1, n, j, hg, hn, hf, hj => by
    unfold goodT at hg
    simp only [Bool.and_eq_true] at hg
    obtain ⟨⟨⟨hl, ha⟩, hb⟩, hc⟩ := hg
    obtain ⟨b1, b2, b3, b4, b5⟩ := leafB_bnd hl
    unfold sizeT at hn
    have hmore : ∀ X : ByteArray, (⟨X, n, 0⟩ : RS).more = ⟨X, n + 1, 0⟩ := by
      intro X
      unfold RS.more
      rw [if_neg]
      rintro ⟨_, h⟩
      simp only at h
      omega
    have hf1 : 1 ≤ f := by omega
    -- the kind's number is cut
    have hcut : ∀ X : ByteArray, j < (numI k).size → (pTerm (f + 1) ⟨takeB (numI k ++ X) j, n, 0⟩).2.e = 11 := by
      intro X hj
      rw [pTerm_eq, hmore, takeB_lt (Nat.le_of_lt hj)]
      have := num_short (show 0 ≤ k by omega) (by omega) hj (n + 1)
      generalize (⟨takeB (numI k) j, n + 1, 0⟩ : RS).num = x at this ⊢
      unfold pBody
      rw [if_pos (by rw [this]; decide)]
      exact this
    have hwhole : ∀ X : ByteArray, (numI k).size ≤ j → pTerm (f + 1) ⟨takeB (numI k ++ X) j, n, 0⟩ = pBody (pTerm f) k ⟨takeB X (j - (numI k).size), n + 1, 0⟩ := by
      intro X hj
      rw [pTerm_eq, hmore, takeB_ge hj, num_back k (by omega) (by omega)]
    by_cases k3 : k = 3
    · have hp : partsN k = 0 := by rw [k3]; decide
      unfold partG at ha hb hc
      rw [hp] at ha hb hc
      rw [if_neg (by decide)] at ha hb hc
      have hB : bytesT (.node k nn s a b c) = numI k ++ (textS s ++ numI nn) := by
        rw [isNil_iff.1 ha, isNil_iff.1 hb, isNil_iff.1 hc]
        unfold bytesT headB
        simp only [bytesT, append_empty]
        rw [if_pos k3, append_assocB]
      rw [hB] at hj ⊢
      simp only [ByteArray.size_append] at hj
      by_cases c1 : j < (numI k).size
      · exact hcut _ c1
      rw [hwhole _ (by omega)]
      generalize hi : j - (numI k).size = i
      unfold pBody
      rw [if_neg (fun h => h rfl), if_pos (.inr (.inr k3))]
      refine leafErr_keep ?_
      unfold pLeaf
      rw [if_pos k3]
      simp only
      by_cases c2 : i < (textS s).size
      · rw [takeB_lt (Nat.le_of_lt c2)]
        have := name_short b5 c2 (n + 1)
        rw [num_keep (by rw [this]; decide), this]
      · rw [takeB_ge (by omega), name_back s b5]
        exact num_short b3 (by omega) (by omega) _
    by_cases k12 : k = 1 ∨ k = 2
    · have hp : partsN k = 0 := by unfold partsN; rw [if_neg (by omega), if_neg (by omega)]
      unfold partG at ha hb hc
      rw [hp] at ha hb hc
      rw [if_neg (by decide)] at ha hb hc
      have hB : bytesT (.node k nn s a b c) = numI k ++ numI nn := by
        rw [isNil_iff.1 ha, isNil_iff.1 hb, isNil_iff.1 hc]
        unfold bytesT headB
        simp only [bytesT, append_empty]
        rw [if_neg k3, if_pos k12]
      rw [hB] at hj ⊢
      simp only [ByteArray.size_append] at hj
      by_cases c1 : j < (numI k).size
      · exact hcut _ c1
      rw [hwhole _ (by omega)]
      unfold pBody
      rw [if_neg (fun h => h rfl), if_pos (by omega)]
      refine leafErr_keep ?_
      unfold pLeaf
      rw [if_neg k3]
      exact num_short b3 (by omega) (by omega) _
    have hh : headB k nn s = numI k := by unfold headB; rw [if_neg k3, if_neg k12]
    by_cases k7 : k = 7
    · have hp : partsN k = 3 := by rw [k7]; decide
      unfold partG at ha hb hc
      rw [hp] at ha hb hc
      rw [if_pos (by decide)] at ha hb hc
      have hB : bytesT (.node k nn s a b c) = numI k ++ (bytesT a ++ (bytesT b ++ bytesT c)) := by
        show headB k nn s ++ bytesT a ++ bytesT b ++ bytesT c = _
        rw [hh]
        simp only [append_assocB]
      rw [hB] at hj ⊢
      simp only [ByteArray.size_append] at hj
      by_cases c1 : j < (numI k).size
      · exact hcut _ c1
      rw [hwhole _ (by omega)]
      obtain ⟨i, hi⟩ : ∃ i, i = j - (numI k).size := ⟨_, rfl⟩
      rw [← hi]
      unfold pBody
      rw [if_neg (fun h => h rfl), if_neg (by omega), if_pos k7]
      simp only
      by_cases c2 : i < (bytesT a).size
      · rw [takeB_lt (Nat.le_of_lt c2)]
        exact pTerm_keep hf1 (pTerm_keep hf1 (pTerm_short a f (n + 1) i ha (by omega) (by omega) c2))
      rw [takeB_ge (by omega), pTerm_back a f (n + 1) _ ha (by omega) (by omega)]
      simp only
      obtain ⟨i2, hi2⟩ : ∃ i2, i2 = i - (bytesT a).size := ⟨_, rfl⟩
      rw [← hi2]
      by_cases c3 : i2 < (bytesT b).size
      · rw [takeB_lt (Nat.le_of_lt c3)]
        exact pTerm_keep hf1 (pTerm_short b f (n + 1 + sizeT a) i2 hb (by omega) (by omega) c3)
      rw [takeB_ge (by omega), pTerm_back b f (n + 1 + sizeT a) _ hb (by omega) (by omega)]
      exact pTerm_short c f (n + 1 + sizeT a + sizeT b) _ hc (by omega) (by omega) (by omega)
    · have hp : partsN k = 2 := by unfold partsN; rw [if_pos (by omega)]
      unfold partG at ha hb hc
      rw [hp] at ha hb hc
      rw [if_pos (by decide)] at ha hb
      rw [if_neg (by decide)] at hc
      have hB : bytesT (.node k nn s a b c) = numI k ++ (bytesT a ++ bytesT b) := by
        rw [isNil_iff.1 hc]
        show headB k nn s ++ bytesT a ++ bytesT b ++ ⟨#[]⟩ = _
        rw [hh]
        simp only [append_assocB, append_empty]
      rw [hB] at hj ⊢
      simp only [ByteArray.size_append] at hj
      by_cases c1 : j < (numI k).size
      · exact hcut _ c1
      rw [hwhole _ (by omega)]
      obtain ⟨i, hi⟩ : ∃ i, i = j - (numI k).size := ⟨_, rfl⟩
      rw [← hi]
      unfold pBody
      rw [if_neg (fun h => h rfl), if_neg (by omega), if_neg k7, if_pos (by omega)]
      simp only
      by_cases c2 : i < (bytesT a).size
      · rw [takeB_lt (Nat.le_of_lt c2)]
        exact pTerm_keep hf1 (pTerm_short a f (n + 1) i ha (by omega) (by omega) c2)
      rw [takeB_ge (by omega), pTerm_back a f (n + 1) _ ha (by omega) (by omega)]
      exact pTerm_short b f (n + 1 + sizeT a) _ hb (by omega) (by omega) (by omega)
theorem pRead_short (t : Tm) (j : Nat) (hg : goodT t = true) (hn : sizeT t ≤ 3000) (hj : j < (bytesT t).size) : pRead (takeB (bytesT t) j) = (.nil, takeB (bytesT t) j, 11) := by
  have h := pTerm_short t 3001 0 j hg (by omega) (by omega) hj
  unfold pRead
  rw [h, if_pos (.inl rfl)]
theorem bytesT_inj {t u : Tm} (ht : goodT t = true) (htn : sizeT t ≤ 3000) (hu : goodT u = true) (hun : sizeT u ≤ 3000) (h : bytesT t = bytesT u) : t = u := by
  have h1 := pRead_back t ⟨#[]⟩ ht htn
  rw [h, pRead_back u ⟨#[]⟩ hu hun] at h1
  exact (congrArg Prod.fst h1).symm
theorem bytesT_pos {t : Tm} (h : goodT t = true) : 0 < (bytesT t).size := by
  cases t with
  | nil => cases h
  | node k n s a b c =>
    have hh : 0 < (headB k n s).size := by
      have : ∀ z : Int, 0 < (numI z).size := fun z => by
        unfold numI
        rw [strN_size]
        exact List.length_pos_iff.2 (numB_ne _)
      have := this k
      unfold headB
      split
      · simp only [ByteArray.size_append]; omega
      split
      · simp only [ByteArray.size_append]; omega
      · exact this
    show 0 < (headB k n s ++ bytesT a ++ bytesT b ++ bytesT c).size
    simp only [ByteArray.size_append]
    omega
end Go.Proofs.YtghebjgkdfbmeaaDoor
