import Derived.Test.YtghebjgkdfbmeaaGreatDoorPT
import Derived.Test.YtghebjgkdfbmeaaGreatDoorCL1
set_option linter.unusedVariables false
set_option linter.unusedSimpArgs false
namespace Go.Proofs.YtghebjgkdfbmeaaGreatDoor
open Go.RowKit

theorem num_back (z : Int) (h0 : 0 ≤ z) (h1 : z ≤ 1000000) (R : ByteArray) (n : Nat) : (⟨numI z ++ R, n, 0⟩ : RS).num = (z, ⟨R, n, 0⟩) := by
  rw [num_zero rfl]
  have hz : mxI z 0 = z := by unfold mxI; rw [if_neg (by omega)]
  simp only
  unfold numI
  rw [hz, numS_back z.toNat R (by omega)]
  simp only
  rw [← strN_size, dropB_append]
  have : ((z.toNat : Nat) : Int) = z := by omega
  rw [this]
theorem name_back (s : ByteArray) (h : s.size ≤ 24) (R : ByteArray) (n : Nat) : (⟨textS s ++ R, n, 0⟩ : RS).name = (s, ⟨R, n, 0⟩) := by
  rw [name_zero rfl]
  simp only
  rw [textR_back s R 24 (by omega) (by omega)]
theorem empty_append (a : ByteArray) : (⟨#[]⟩ : ByteArray) ++ a = a := by
  apply bys_inj
  rw [bys_append]
  rfl
theorem append_empty (a : ByteArray) : a ++ (⟨#[]⟩ : ByteArray) = a := by
  apply bys_inj
  rw [bys_append]
  show bys a ++ [] = bys a
  rw [List.append_nil]
theorem pTerm_back : ∀ (t : Tm) (f n : Nat) (more : ByteArray), goodT t = true → n + sizeT t ≤ 3000 → sizeT t ≤ f → pTerm f ⟨bytesT t ++ more, n, 0⟩ = (t, ⟨more, n + sizeT t, 0⟩)
  | .nil, f, n, more, h, _, _ => by cases h
  | .node k nn s a b c, 0, n, more, _, _, hf => by unfold sizeT at hf; omega
  | .node k nn s a b c, f + 1, n, more, hg, hn, hf => by
    unfold goodT at hg
    simp only [Bool.and_eq_true] at hg
    obtain ⟨⟨⟨hl, ha⟩, hb⟩, hc⟩ := hg
    obtain ⟨b1, b2, b3, b4, b5⟩ := leafB_bnd hl
    unfold sizeT at hn hf
    have hmore : ∀ X : ByteArray, (⟨X, n, 0⟩ : RS).more = ⟨X, n + 1, 0⟩ := by
      intro X
      unfold RS.more
      rw [if_neg]
      rintro ⟨_, h⟩
      simp only at h
      omega
    rw [pTerm_eq, hmore]
    unfold bytesT headB
    by_cases k3 : k = 3
    · subst k3
      have hp : partsN 3 = 0 := by decide
      unfold partG at ha hb hc
      rw [hp] at ha hb hc
      rw [if_neg (by decide)] at ha hb hc
      rw [isNil_iff.1 ha, isNil_iff.1 hb, isNil_iff.1 hc]
      unfold bytesT
      rw [if_pos rfl, append_empty, append_empty, append_empty, append_assocB, append_assocB, num_back 3 (by decide) (by decide)]
      simp only
      unfold pBody
      rw [if_neg (fun h => h rfl), if_pos (by decide)]
      have hpl : pLeaf 3 ⟨textS s ++ (numI nn ++ more), n + 1, 0⟩ = (nn, s, ⟨more, n + 1, 0⟩) := by
        unfold pLeaf
        rw [if_pos rfl, name_back s b5]
        simp only
        rw [num_back nn b3 (by omega)]
      rw [hpl]
      simp only
      unfold leafErr
      rw [if_neg (fun h => by rw [hl] at h; exact absurd h.2 (by decide))]
      rfl
    by_cases k12 : k = 1 ∨ k = 2
    · have hp : partsN k = 0 := by unfold partsN; rw [if_neg (by omega), if_neg (by omega)]
      unfold partG at ha hb hc
      rw [hp] at ha hb hc
      rw [if_neg (by decide)] at ha hb hc
      rw [isNil_iff.1 ha, isNil_iff.1 hb, isNil_iff.1 hc]
      unfold bytesT
      rw [if_neg k3, if_pos k12, append_empty, append_empty, append_empty, append_assocB, num_back k (by omega) (by omega)]
      simp only
      unfold pBody
      rw [if_neg (fun h => h rfl), if_pos (by omega)]
      have hpl : pLeaf k ⟨numI nn ++ more, n + 1, 0⟩ = (nn, ⟨#[]⟩, ⟨more, n + 1, 0⟩) := by
        unfold pLeaf
        rw [if_neg k3, num_back nn b3 (by omega)]
      rw [hpl]
      simp only
      have hs : s = ⟨#[]⟩ := by
        unfold leafB at hl
        rcases k12 with rfl | rfl
        · rw [if_pos rfl] at hl
          simp only [Bool.and_eq_true] at hl
          exact eqL_iff.1 hl.1.1
        · rw [if_neg (by decide), if_pos rfl] at hl
          simp only [Bool.and_eq_true] at hl
          exact eqL_iff.1 hl.1.1
      subst hs
      unfold leafErr
      rw [if_neg (fun h => by rw [hl] at h; exact absurd h.2 (by decide))]
      rfl
    have hsn : s = ⟨#[]⟩ ∧ nn = 0 := by
      unfold leafB at hl
      rw [if_neg (fun h => k12 (.inl h)), if_neg (fun h => k12 (.inr h)), if_neg k3] at hl
      simp only [Bool.and_eq_true, beq_iff_eq] at hl
      exact ⟨eqL_iff.1 hl.1.1.1, hl.1.1.2⟩
    obtain ⟨rfl, rfl⟩ := hsn
    rw [if_neg k3, if_neg k12]
    by_cases k7 : k = 7
    · subst k7
      have hp : partsN 7 = 3 := by decide
      unfold partG at ha hb hc
      rw [hp] at ha hb hc
      rw [if_pos (by decide)] at ha hb hc
      rw [append_assocB, append_assocB, append_assocB, num_back 7 (by decide) (by decide)]
      simp only
      unfold pBody
      rw [if_neg (fun h => h rfl), if_neg (by decide), if_pos rfl]
      have e1 := pTerm_back a f (n + 1) (bytesT b ++ (bytesT c ++ more)) ha (by omega) (by omega)
      have e2 := pTerm_back b f (n + 1 + sizeT a) (bytesT c ++ more) hb (by omega) (by omega)
      have e3 := pTerm_back c f (n + 1 + sizeT a + sizeT b) more hc (by omega) (by omega)
      rw [e1]
      simp only
      rw [e2]
      simp only
      rw [e3]
      simp only [sizeT]
      congr 2
      omega
    · have hp : partsN k = 2 := by unfold partsN; rw [if_pos (by omega)]
      unfold partG at ha hb hc
      rw [hp] at ha hb hc
      rw [if_pos (by decide)] at ha hb
      rw [if_neg (by decide)] at hc
      rw [isNil_iff.1 hc, show bytesT .nil = (⟨#[]⟩ : ByteArray) from rfl]
      rw [append_empty, append_assocB, append_assocB, num_back k (by omega) (by omega)]
      simp only
      unfold pBody
      rw [if_neg (fun h => h rfl), if_neg (by omega), if_neg k7, if_pos (by omega)]
      have e1 := pTerm_back a f (n + 1) (bytesT b ++ more) ha (by omega) (by omega)
      have e2 := pTerm_back b f (n + 1 + sizeT a) more hb (by omega) (by omega)
      rw [e1]
      simp only
      rw [e2]
      simp only [sizeT]
      congr 2
      omega
end Go.Proofs.YtghebjgkdfbmeaaGreatDoor
