import Derived.Test.YtjincmagbbpooaaGreatDoorQ3
set_option linter.unusedVariables false
set_option linter.unusedSimpArgs false
namespace Go.Proofs.YtjincmagbbpooaaGreatDoor
open Go.RowKit

theorem text_wrap (k : Nat) (s more : ByteArray) (hk : k < 4294967296) (hs : s.size ≤ 1000) :
    textR (wrapS k s ++ more) 2020 = (strN (numB k) ++ s, sumB (textS (strN (numB k) ++ s)) ++ more, 0) := by
  unfold wrapS
  rw [append_assocB]
  have := num_size k hk
  exact textR_back _ _ 2020 (by rw [ByteArray.size_append]; omega) (by rw [ByteArray.size_append]; omega)
theorem openR_head (k : Nat) (s more : ByteArray) (seq : Int) (hk : k < 4294967296) (hs : s.size ≤ 1000) :
    openR (wrapS k s ++ more) seq = if (k : Int) ≠ seq then (ByteArray.empty, wrapS k s ++ more, 10) else (s, more, 0) := by
  unfold openR
  rw [text_wrap k s more hk hs]
  have hT : takeB (wrapS k s ++ more) ((wrapS k s ++ more).size - (sumB (textS (strN (numB k) ++ s)) ++ more).size) = textS (strN (numB k) ++ s) := by
    unfold wrapS
    rw [append_assocB, ByteArray.size_append (a := textS _), Nat.add_sub_cancel]
    exact takeB_append _ _
  have hz := sumB_size (textS (strN (numB k) ++ s))
  have h4 : takeB (sumB (textS (strN (numB k) ++ s)) ++ more) 4 = sumB (textS (strN (numB k) ++ s)) := by
    have := takeB_append (sumB (textS (strN (numB k) ++ s))) more
    rw [hz] at this
    exact this
  have h5 : dropB (sumB (textS (strN (numB k) ++ s)) ++ more) 4 = more := by
    have := dropB_append (sumB (textS (strN (numB k) ++ s))) more
    rw [hz] at this
    exact this
  have h6 : dropB (strN (numB k) ++ s) (numB k).length = s := by rw [← strN_size (numB k)]; exact dropB_append _ _
  rw [if_neg (by simp), if_neg (by rw [ByteArray.size_append]; omega)]
  simp only [hT, h4, numS_back k s (by omega), h5, h6]
  simp
theorem openR_same (k : Nat) (s more : ByteArray) (hk : k < 4294967296) (hs : s.size ≤ 1000) : openR (wrapS k s ++ more) k = (s, more, 0) := by
  rw [openR_head k s more k hk hs, if_neg (by simp)]
theorem openR_other (k : Nat) (s more : ByteArray) (seq : Int) (hk : k < 4294967296) (hs : s.size ≤ 1000) (h : (k : Int) ≠ seq) : openR (wrapS k s ++ more) seq = (ByteArray.empty, wrapS k s ++ more, 10) := by
  rw [openR_head k s more seq hk hs, if_pos h]
theorem numF_one (s : ByteArray) : ∀ (f i n a : Nat), (numF s f i n a).2.2 = 0 → 1 ≤ (numF s f i n a).2.1 ∧ 1 ≤ s.size
  | 0, _, _, _, h => by simp [numF] at h
  | f + 1, i, n, a, h => by
    unfold numF at h ⊢
    split
    · rename_i h1; rw [if_pos h1] at h; simp at h
    · rename_i h1
      rw [if_neg h1] at h
      split
      · rename_i h2; rw [if_pos h2] at h; simp at h
      · rename_i h2
        rw [if_neg h2] at h
        split
        · exact ⟨by simp, by omega⟩
        · rename_i h3
          rw [if_neg h3] at h
          exact numF_one s f _ _ _ h
theorem openR_junk (s : ByteArray) (seq : Int) (h : s.size ≤ 4) : (openR s seq).2.1 = s ∧ ((openR s seq).2.2 = 10 ∨ (openR s seq).2.2 = 11 ∨ (openR s seq).2.2 = 13) := by
  have hc : (textR s 2020).2.2 = 0 → (textR s 2020).2.1.size < 4 := by
    unfold textR
    intro h0
    have hn := numF_one s 8 0 0 1
    split
    · rename_i h1; rw [if_pos h1] at h0; exact absurd h0 h1
    · rename_i h1
      have := hn (Decidable.not_not.1 h1)
      rw [if_neg h1] at h0
      split
      · rename_i h2; rw [if_pos h2] at h0; simp at h0
      · rename_i h2
        rw [if_neg h2] at h0
        split
        · rename_i h3; rw [if_pos h3] at h0; simp at h0
        · rw [dropB_size, dropB_size]
          have h4 : 1 ≤ (numS s).2.1 := this.1
          omega
  have hcodes : (textR s 2020).2.2 = 0 ∨ (textR s 2020).2.2 = 10 ∨ (textR s 2020).2.2 = 11 ∨ (textR s 2020).2.2 = 13 := by
    have := numF_codes s 8 0 0 1
    unfold textR
    split
    · rcases this with h | h | h
      · exact .inl h
      · exact .inr (.inl h)
      · exact .inr (.inr (.inl h))
    · split
      · exact .inr (.inr (.inr rfl))
      · split
        · exact .inr (.inr (.inl rfl))
        · exact .inl rfl
  unfold openR
  by_cases h0 : (textR s 2020).2.2 = 0
  · rw [if_neg (by simpa using h0), if_pos (hc h0)]
    exact ⟨rfl, .inr (.inl rfl)⟩
  · rw [if_pos h0]
    refine ⟨rfl, ?_⟩
    rcases hcodes with h | h | h | h
    · exact absurd h h0
    · exact .inl h
    · exact .inr (.inl h)
    · exact .inr (.inr h)

theorem Open_is (s : ByteArray) (seq : Int) (a b : ByteArray) (c : Int) (er : Value) (he : errV c = er) (hs : s.size ≤ 1000000) (h : openR s seq = (a, b, c)) (w : World) (hg : ErrVar w) :
    Calls Tryz.prog 42 #[.string s, .int .i64 seq] w fun e w' => e = .returned (.tuple #[.string a, .string b, er]) ∧ Below w.heap.size w w' := by
  have := Open_any s seq hs w hg
  unfold OpenPost at this
  rw [h] at this
  rw [← he]
  exact this
theorem wrapS_size (k : Nat) (s : ByteArray) (hk : k < 4294967296) (hs : s.size ≤ 1000) : (wrapS k s).size ≤ s.size + 20 := by
  unfold wrapS
  have := num_size k hk
  have h2 := textS_size2 (strN (numB k) ++ s) (by rw [ByteArray.size_append]; omega)
  rw [ByteArray.size_append] at h2
  rw [ByteArray.size_append, sumB_size]
  omega
theorem Sum_is (s : ByteArray) (n : Int) (hs : s.size ≤ 9223372036854775807) (h : (sumS s : Int) = n) (w : World) : Calls Tryz.prog 98 #[.string s] w fun e w' => e = .returned (.int .u32 n) ∧ w = w' := by
  have := Sum_any s hs w
  rw [h] at this
  exact this
end Go.Proofs.YtjincmagbbpooaaGreatDoor
