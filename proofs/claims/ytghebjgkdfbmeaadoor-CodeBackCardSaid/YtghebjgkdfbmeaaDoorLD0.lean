import Derived.Test.YtghebjgkdfbmeaaDoorLP
set_option linter.unusedVariables false
set_option linter.unusedSimpArgs false
namespace Go.Proofs.YtghebjgkdfbmeaaDoor
open Go.RowKit

/-! ### a term of more nodes than are left -/
theorem pTerm_err (f : Nat) (r : RS) (h : r.e ≠ 0) : (pTerm (f + 1) r).2.e = r.e := by
  have hm : r.more.e = r.e := by
    unfold RS.more
    simp only
    rw [if_neg (fun h' => h h'.1)]
  have hn : r.more.num = (0, r.more) := num_err (by rw [hm]; exact h)
  rw [pTerm_eq, hn]
  simp only
  unfold pBody
  rw [if_pos (by rw [hm]; exact h)]
  exact hm
theorem pTerm_large : ∀ (t : Tm) (f n : Nat) (more : ByteArray), goodT t = true → n ≤ 3000 → 3000 < n + sizeT t → 3001 ≤ n + f → (pTerm f ⟨bytesT t ++ more, n, 0⟩).2.e = 13
  | .nil, f, n, more, h, _, _, _ => by cases h
  | .node k nn s a b c, 0, n, more, _, h1, _, h2 => by omega
  | .node k nn s a b c, f + 1, n, more, hg, h1, h2, h3 => by
    by_cases hbig : 3000 < n + 1
    · have hm : (⟨bytesT (.node k nn s a b c) ++ more, n, 0⟩ : RS).more = ⟨bytesT (.node k nn s a b c) ++ more, n + 1, 13⟩ := by
        unfold RS.more
        rw [if_pos ⟨rfl, hbig⟩]
      rw [pTerm_eq, hm, num_err (show (13 : Int) ≠ 0 by decide)]
      rfl
    unfold goodT at hg
    simp only [Bool.and_eq_true] at hg
    obtain ⟨⟨⟨hl, ha⟩, hb⟩, hc⟩ := hg
    obtain ⟨b1, b2, b3, b4, b5⟩ := leafB_bnd hl
    unfold sizeT at h2
    have hmore : ∀ X : ByteArray, (⟨X, n, 0⟩ : RS).more = ⟨X, n + 1, 0⟩ := by
      intro X
      unfold RS.more
      rw [if_neg]
      rintro ⟨_, h⟩
      exact hbig h
    obtain ⟨g, rfl⟩ : ∃ g, f = g + 1 := ⟨f - 1, by omega⟩
    have nilsz : ∀ {q : Tm} {i : Nat}, ¬ ((i : Int) < partsN k) → partG (goodT q) i (partsN k) q.isNil = true → sizeT q = 0 := by
      intro q i hi hq
      unfold partG at hq
      rw [if_neg hi] at hq
      rw [isNil_iff.1 hq]; rfl
    by_cases hleaf : k = 1 ∨ k = 2 ∨ k = 3
    · have hp : partsN k = 0 := by unfold partsN; rw [if_neg (by omega), if_neg (by omega)]
      have := nilsz (i := 0) (by rw [hp]; decide) ha
      have := nilsz (i := 1) (by rw [hp]; decide) hb
      have := nilsz (i := 2) (by rw [hp]; decide) hc
      omega
    have hh : headB k nn s = numI k := by unfold headB; rw [if_neg (fun h => hleaf (.inr (.inr h))), if_neg (fun h => hleaf (h.elim .inl (fun h => .inr (.inl h))))]
    have hB : bytesT (.node k nn s a b c) ++ more = numI k ++ (bytesT a ++ (bytesT b ++ (bytesT c ++ more))) := by
      show headB k nn s ++ bytesT a ++ bytesT b ++ bytesT c ++ more = _
      rw [hh]
      simp only [append_assocB]
    rw [pTerm_eq, hB, hmore, num_back k (by omega) (by omega)]
    simp only
    unfold pBody
    rw [if_neg (fun h => h rfl), if_neg hleaf]
    by_cases k7 : k = 7
    · have hp : partsN k = 3 := by unfold partsN; rw [if_neg (by omega), if_pos k7]
      unfold partG at ha hb hc
      rw [hp, if_pos (by decide)] at ha hb hc
      rw [if_pos k7]
      simp only
      by_cases fa : n + 1 + sizeT a ≤ 3000
      · rw [pTerm_back a (g + 1) (n + 1) _ ha fa (by omega)]
        simp only
        by_cases fb : n + 1 + sizeT a + sizeT b ≤ 3000
        · rw [pTerm_back b (g + 1) (n + 1 + sizeT a) _ hb fb (by omega)]
          simp only
          exact pTerm_large c (g + 1) (n + 1 + sizeT a + sizeT b) more hc fb (by omega) (by omega)
        · have e := pTerm_large b (g + 1) (n + 1 + sizeT a) (bytesT c ++ more) hb fa (by omega) (by omega)
          rw [pTerm_err g _ (by rw [e]; decide)]
          exact e
      · have e := pTerm_large a (g + 1) (n + 1) (bytesT b ++ (bytesT c ++ more)) ha (by omega) (by omega) (by omega)
        have e2 := pTerm_err g _ (show (pTerm (g + 1) ⟨bytesT a ++ (bytesT b ++ (bytesT c ++ more)), n + 1, 0⟩).2.e ≠ 0 by rw [e]; decide)
        rw [pTerm_err g _ (by rw [e2, e]; decide), e2]
        exact e
    · have hp : partsN k = 2 := by unfold partsN; rw [if_pos (by omega)]
      have zc := nilsz (i := 2) (by rw [hp]; decide) hc
      unfold partG at ha hb
      rw [hp, if_pos (by decide)] at ha hb
      rw [if_neg k7, if_pos (by omega)]
      simp only
      by_cases fa : n + 1 + sizeT a ≤ 3000
      · rw [pTerm_back a (g + 1) (n + 1) _ ha fa (by omega)]
        simp only
        exact pTerm_large b (g + 1) (n + 1 + sizeT a) (bytesT c ++ more) hb fa (by omega) (by omega)
      · have e := pTerm_large a (g + 1) (n + 1) (bytesT b ++ (bytesT c ++ more)) ha (by omega) (by omega) (by omega)
        rw [pTerm_err g _ (by rw [e]; decide)]
        exact e
theorem pRead_large (t : Tm) (more : ByteArray) (hg : goodT t = true) (hn : 3000 < sizeT t) : pRead (bytesT t ++ more) = (.nil, bytesT t ++ more, 13) := by
  have h := pTerm_large t 3001 0 more hg (by omega) (by omega) (by omega)
  unfold pRead
  rw [h, if_pos (.inr (.inr rfl))]
end Go.Proofs.YtghebjgkdfbmeaaDoor
