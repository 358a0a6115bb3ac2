import Derived.Lib.Hide
set_option linter.unusedVariables false
set_option linter.unusedSimpArgs false
namespace Go.Proofs.YtlmkcdebchahpaaDoor

/-! ### words of bytes: the plain law, no program in sight -/
/-- A byte of a run. -/
def runB (b : Nat) : Bool := (decide (97 ≤ b) && decide (b ≤ 122)) || (decide (65 ≤ b) && decide (b ≤ 90)) || (decide (48 ≤ b) && decide (b ≤ 57)) || b == 95 || b == 64
def blankB (b : Nat) : Bool := b == 32 || b == 9 || b == 10 || b == 13
def symB (b : Nat) : Bool := b == 40 || b == 41 || b == 123 || b == 125 || b == 58 || b == 44 || b == 59 || b == 46
def headRun : List Nat → Bool
  | c :: _ => runB c
  | [] => false
/-- How many bytes of a run there are, behind one of a run or not. -/
def runG : Bool → List Nat → Nat
  | _, [] => 0
  | p, b :: r => if runB b = true then runG true r + 1 else if (b == 46 && p && headRun r) = true then runG false r + 1 else 0
def twoG : List Nat → Bool
  | a :: b :: _ => (a == 58 && b == 61) || (a == 61 && b == 62) || (a == 45 && b == 62)
  | _ => false
def symG : List Nat → Nat
  | [] => 0
  | a :: r => if twoG (a :: r) = true then 2 else if symB a = true then 1 else 0
theorem symG_cons (a : Nat) (r : List Nat) : symG (a :: r) = if twoG (a :: r) = true then 2 else if symB a = true then 1 else 0 := rfl
def nextG (l : List Nat) : Nat := if symG l = 0 then runG false l else symG l
def skipG : List Nat → List Nat
  | [] => []
  | b :: r => if blankB b = true then skipG r else b :: r
/-- The words. -/
def wordsG : Nat → List Nat → Option (List (List Nat))
  | 0, _ => some []
  | f + 1, l => if skipG l = [] then some [] else if nextG (skipG l) = 0 then none else (wordsG f ((skipG l).drop (nextG (skipG l)))).map ((skipG l).take (nextG (skipG l)) :: ·)

theorem runG_le : ∀ (l : List Nat) (p : Bool), runG p l ≤ l.length
  | [], _ => Nat.le_refl _
  | b :: r, p => by
    unfold runG
    have h1 := runG_le r true
    have h2 := runG_le r false
    simp only [List.length_cons]
    split
    · omega
    · split <;> omega
theorem twoG_len {l : List Nat} (h : twoG l = true) : 2 ≤ l.length := by
  match l with
  | [] => simp [twoG] at h
  | [_] => simp [twoG] at h
  | _ :: _ :: _ => simp
theorem symG_le (l : List Nat) : symG l ≤ l.length := by
  match l with
  | [] => exact Nat.le_refl _
  | a :: r =>
    rw [symG_cons]
    split
    · rename_i h; exact twoG_len h
    · split <;> simp
theorem nextG_le (l : List Nat) : nextG l ≤ l.length := by
  unfold nextG
  split
  · exact runG_le l false
  · exact symG_le l
theorem skipG_le : ∀ (l : List Nat), (skipG l).length ≤ l.length
  | [] => Nat.le_refl _
  | b :: r => by
    unfold skipG
    have := skipG_le r
    split
    · simp only [List.length_cons]; omega
    · exact Nat.le_refl _
theorem skipG_head : ∀ (l : List Nat) {b : Nat} {r : List Nat}, skipG l = b :: r → blankB b = false
  | [], _, _, h => by simp [skipG] at h
  | c :: l, b, r, h => by
    unfold skipG at h
    by_cases hc : blankB c = true
    · rw [if_pos hc] at h; exact skipG_head l h
    · rw [if_neg hc] at h
      cases h
      simpa using hc
theorem skipG_idem {b : Nat} {r : List Nat} (h : blankB b = false) : skipG (b :: r) = b :: r := by
  unfold skipG
  rw [if_neg (by rw [h]; exact Bool.false_ne_true)]
theorem skipG_blank {b : Nat} (r : List Nat) (h : blankB b = true) : skipG (b :: r) = skipG r := by
  conv => lhs; unfold skipG
  rw [if_pos h]
theorem wordsG_skip (f : Nat) (l : List Nat) : wordsG f (skipG l) = wordsG f l := by
  cases f with
  | zero => rfl
  | succ f =>
    have : skipG (skipG l) = skipG l := by
      cases h : skipG l with
      | nil => rfl
      | cons b r => exact skipG_idem (skipG_head l h)
    unfold wordsG
    rw [this]
theorem wordsG_blank {b : Nat} (f : Nat) (r : List Nat) (h : blankB b = true) : wordsG f (b :: r) = wordsG f r := by
  rw [← wordsG_skip f (b :: r), skipG_blank r h, wordsG_skip]
theorem wordsG_nil (f : Nat) : wordsG f [] = some [] := by cases f <;> simp [wordsG, skipG]
theorem wordsG_none {f b : Nat} {r : List Nat} (hb : blankB b = false) (h : nextG (b :: r) = 0) : wordsG (f + 1) (b :: r) = none := by
  unfold wordsG
  rw [skipG_idem hb, if_neg (List.cons_ne_nil _ _), if_pos h]
theorem wordsG_cons {f b : Nat} {r : List Nat} (hb : blankB b = false) (h : nextG (b :: r) ≠ 0) : wordsG (f + 1) (b :: r) = (wordsG f ((b :: r).drop (nextG (b :: r)))).map ((b :: r).take (nextG (b :: r)) :: ·) := by
  conv => lhs; unfold wordsG
  rw [skipG_idem hb, if_neg (List.cons_ne_nil _ _), if_neg h]

/-! A run's first byte is no symbol's. -/
theorem run_not_sym {a : Nat} (h : runB a = true) : symB a = false ∧ a ≠ 58 ∧ a ≠ 61 ∧ a ≠ 45 := by
  simp [runB] at h
  simp [symB]
  omega
theorem blank_not {c : Nat} (h : blankB c = true) : runB c = false ∧ c ≠ 46 ∧ c ≠ 61 ∧ c ≠ 62 := by
  simp [blankB] at h
  simp [runB]
  omega
theorem symG_run {a : Nat} {r : List Nat} (h : runB a = true) : symG (a :: r) = 0 := by
  obtain ⟨h1, h2, h3, h4⟩ := run_not_sym h
  have ht : twoG (a :: r) = false := by
    cases r with
    | nil => rfl
    | cons b r => simp [twoG, h2, h3, h4]
  rw [symG_cons, if_neg (by rw [ht]; exact Bool.false_ne_true), if_neg (by rw [h1]; exact Bool.false_ne_true)]
theorem runG_head {a : Nat} {r : List Nat} (h : runG false (a :: r) ≠ 0) : runB a = true := by
  unfold runG at h
  by_cases hr : runB a = true
  · exact hr
  · rw [if_neg hr, if_neg (by simp)] at h; exact absurd rfl h
theorem nextG_run {l : List Nat} (h : runG false l ≠ 0) : nextG l = runG false l := by
  cases l with
  | nil => exact absurd rfl h
  | cons a r => unfold nextG; rw [symG_run (runG_head h), if_pos rfl]
theorem nextG_sym {l : List Nat} (h : runG false l = 0) : nextG l = symG l := by
  unfold nextG
  split
  · rename_i h1; rw [h, h1]
  · rfl

/-! ### a word stays one, a blank behind it -/
theorem run_cut (c : Nat) (rest : List Nat) (hc : blankB c = true) : ∀ (l : List Nat) (p : Bool), runG p (l.take (runG p l) ++ c :: rest) = runG p l
  | [], p => by
    obtain ⟨h1, h2, _⟩ := blank_not hc
    show runG p (c :: rest) = 0
    unfold runG
    rw [if_neg (by rw [h1]; exact Bool.false_ne_true), if_neg (by simp [h2])]
  | b :: r, p => by
    have stop : ∀ p, runG p (c :: rest) = 0 := fun p => by
      obtain ⟨h1, h2, _⟩ := blank_not hc
      unfold runG
      rw [if_neg (by rw [h1]; exact Bool.false_ne_true), if_neg (by simp [h2])]
    by_cases h1 : runB b = true
    · have e : runG p (b :: r) = runG true r + 1 := by conv => lhs; unfold runG; rw [if_pos h1]
      rw [e, List.take_succ_cons, List.cons_append]
      conv => lhs; unfold runG
      rw [if_pos h1, run_cut c rest hc r true]
    · by_cases h2 : (b == 46 && p && headRun r) = true
      · have e : runG p (b :: r) = runG false r + 1 := by conv => lhs; unfold runG; rw [if_neg h1, if_pos h2]
        have h3 : headRun r = true := by simp at h2; exact h2.2
        have h4 : headRun (r.take (runG false r) ++ c :: rest) = true := by
          cases r with
          | nil => simp [headRun] at h3
          | cons d r =>
            have h3' : runB d = true := h3
            have : runG false (d :: r) = runG true r + 1 := by conv => lhs; unfold runG; rw [if_pos h3']
            rw [this, List.take_succ_cons, List.cons_append]
            exact h3
        rw [e, List.take_succ_cons, List.cons_append]
        conv => lhs; unfold runG
        rw [if_neg h1, if_pos (by rw [h4]; rw [h3] at h2; exact h2), run_cut c rest hc r false]
      · have e : runG p (b :: r) = 0 := by conv => lhs; unfold runG; rw [if_neg h1, if_neg h2]
        rw [e, List.take_zero, List.nil_append]
        exact stop p
theorem take_head {l : List Nat} {a : Nat} {r : List Nat} {n : Nat} (h : l = a :: r) (hn : n ≠ 0) : l.take n = a :: r.take (n - 1) := by
  obtain ⟨m, rfl⟩ : ∃ m, n = m + 1 := ⟨n - 1, by omega⟩
  rw [h, List.take_succ_cons]; rfl
/-- What is a word alone. -/
def Word (w : List Nat) : Prop := (∃ a r, w = a :: r ∧ blankB a = false) ∧ ∀ c rest, blankB c = true → nextG (w ++ c :: rest) = w.length
theorem word_of {a : Nat} {r : List Nat} (ha : blankB a = false) (hn : nextG (a :: r) ≠ 0) : Word ((a :: r).take (nextG (a :: r))) := by
  refine ⟨⟨a, _, take_head rfl hn, ha⟩, fun c rest hc => ?_⟩
  have hlen : ((a :: r).take (nextG (a :: r))).length = nextG (a :: r) := by rw [List.length_take]; exact Nat.min_eq_left (nextG_le _)
  rw [hlen]
  by_cases h0 : runG false (a :: r) = 0
  · have e := nextG_sym h0
    have hs : symG (a :: r) ≠ 0 := by rw [← e]; exact hn
    rw [e]
    have e2 : symG ((a :: r).take (symG (a :: r)) ++ c :: rest) = symG (a :: r) := by
      by_cases ht : twoG (a :: r) = true
      · have e3 : symG (a :: r) = 2 := by rw [symG_cons, if_pos ht]
        rw [e3]
        cases r with
        | nil => simp [twoG] at ht
        | cons b r =>
          show symG (a :: b :: (c :: rest)) = 2
          rw [symG_cons, if_pos (by exact ht)]
      · have hsy : symB a = true := by
          rw [symG_cons, if_neg ht] at hs
          by_cases h : symB a = true
          · exact h
          · rw [if_neg h] at hs; exact absurd rfl hs
        have e3 : symG (a :: r) = 1 := by rw [symG_cons, if_neg ht, if_pos hsy]
        rw [e3]
        show symG (a :: c :: rest) = 1
        obtain ⟨_, _, h3, h4⟩ := blank_not hc
        rw [symG_cons, if_neg (by simp [twoG, h3, h4]), if_pos hsy]
    unfold nextG
    rw [e2, if_neg hs]
  · have e := nextG_run h0
    rw [e]
    have hc2 := run_cut c rest hc (a :: r) false
    rw [nextG_run (by rw [hc2]; exact h0), hc2]
theorem words_word : ∀ (f : Nat) (l : List Nat) {ws : List (List Nat)}, wordsG f l = some ws → ∀ w ∈ ws, Word w
  | 0, _, ws, h, w, hw => by simp [wordsG] at h; subst h; cases hw
  | f + 1, l, ws, h, w, hw => by
    rw [← wordsG_skip] at h
    cases hs : skipG l with
    | nil => rw [hs, wordsG_nil] at h; cases h; cases hw
    | cons a r =>
      have ha := skipG_head l hs
      rw [hs] at h
      by_cases hn : nextG (a :: r) = 0
      · rw [wordsG_none ha hn] at h; cases h
      · rw [wordsG_cons ha hn] at h
        obtain ⟨v, hv, rfl⟩ := Option.map_eq_some_iff.1 h
        rcases List.mem_cons.1 hw with rfl | hw
        · exact word_of ha hn
        · exact words_word f _ hv w hw
/-- How long the words are. -/
def sumLen : List (List Nat) → Nat
  | [] => 0
  | w :: ws => w.length + sumLen ws
theorem words_len : ∀ (f : Nat) (l : List Nat) {ws : List (List Nat)}, wordsG f l = some ws → sumLen ws ≤ l.length ∧ ws.length ≤ l.length
  | 0, _, ws, h => by simp [wordsG] at h; subst h; simp [sumLen]
  | f + 1, l, ws, h => by
    have hle := skipG_le l
    rw [← wordsG_skip] at h
    cases hs : skipG l with
    | nil => rw [hs, wordsG_nil] at h; cases h; simp [sumLen]
    | cons a r =>
      have ha := skipG_head l hs
      rw [hs] at h hle
      by_cases hn : nextG (a :: r) = 0
      · rw [wordsG_none ha hn] at h; cases h
      · rw [wordsG_cons ha hn] at h
        obtain ⟨v, hv, rfl⟩ := Option.map_eq_some_iff.1 h
        obtain ⟨h1, h2⟩ := words_len f _ hv
        have h3 := nextG_le (a :: r)
        simp only [sumLen, List.length_cons, List.length_take, List.length_drop] at *
        omega
/-- Words, each with blanks behind it. -/
def joinG : List (List Nat × List Nat) → List Nat
  | [] => []
  | (w, b) :: r => w ++ b ++ joinG r
theorem wordsG_blanks (f : Nat) : ∀ (b : List Nat) (l : List Nat), (∀ c ∈ b, blankB c = true) → wordsG f (b ++ l) = wordsG f l
  | [], _, _ => rfl
  | c :: b, l, h => by
    rw [List.cons_append, wordsG_blank f _ (h c (by simp))]
    exact wordsG_blanks f b l (fun d hd => h d (by simp [hd]))
theorem words_join : ∀ (ps : List (List Nat × List Nat)) (f : Nat), (joinG ps).length < f → (∀ p ∈ ps, Word p.1 ∧ p.2 ≠ [] ∧ ∀ c ∈ p.2, blankB c = true) → wordsG f (joinG ps) = some (ps.map Prod.fst)
  | [], f, _, _ => wordsG_nil f
  | (w, b) :: r, f, hf, h => by
    obtain ⟨⟨⟨a, t, hat, ha⟩, hw⟩, hb, hbl⟩ := h (w, b) (by simp)
    simp only at hat hw hb hbl
    subst hat
    obtain ⟨c, b', rfl⟩ : ∃ c b', b = c :: b' := by cases b with | nil => exact absurd rfl hb | cons c b' => exact ⟨c, b', rfl⟩
    obtain ⟨f', rfl⟩ : ∃ f', f = f' + 1 := ⟨f - 1, by omega⟩
    have hn : nextG ((a :: t) ++ (c :: (b' ++ joinG r))) = (a :: t).length := hw c _ (hbl c (by simp))
    have e : joinG ((a :: t, c :: b') :: r) = (a :: t) ++ (c :: (b' ++ joinG r)) := by simp [joinG]
    rw [e] at hf ⊢
    rw [show (a :: t) ++ (c :: (b' ++ joinG r)) = a :: (t ++ (c :: (b' ++ joinG r))) from rfl] at hn ⊢
    rw [wordsG_cons ha (by rw [hn]; simp), hn]
    have e1 : (a :: (t ++ (c :: (b' ++ joinG r)))).drop (a :: t).length = c :: (b' ++ joinG r) := by
      rw [show a :: (t ++ (c :: (b' ++ joinG r))) = (a :: t) ++ (c :: (b' ++ joinG r)) from rfl, List.drop_left]
    have e2 : (a :: (t ++ (c :: (b' ++ joinG r)))).take (a :: t).length = a :: t := by
      rw [show a :: (t ++ (c :: (b' ++ joinG r))) = (a :: t) ++ (c :: (b' ++ joinG r)) from rfl, List.take_left]
    rw [e1, e2, show c :: (b' ++ joinG r) = (c :: b') ++ joinG r from rfl, wordsG_blanks f' (c :: b') _ hbl]
    rw [words_join r f' (by simp at hf; omega) (fun p hp => h p (by simp [hp]))]
    rfl

/-! ### by counting -/
theorem points_all : ((List.range 26).all fun a => (List.range 10).all fun b =>
    (wordsG 4 [97 + a, 46, 48 + b] == some [[97 + a, 46, 48 + b]]) && (wordsG 5 [97 + a, 32, 46, 48 + b] == some [[97 + a], [46], [48 + b]]) &&
    (wordsG 5 [97 + a, 46, 32, 48 + b] == some [[97 + a], [46], [48 + b]]) && (wordsG 6 [97 + a, 32, 46, 32, 48 + b] == some [[97 + a], [46], [48 + b]])) = true := by decide +kernel
theorem points_at (a : Nat) (ha : a < 26) (b : Nat) (hb : b < 10) :
    wordsG 4 [97 + a, 46, 48 + b] = some [[97 + a, 46, 48 + b]] ∧ wordsG 5 [97 + a, 32, 46, 48 + b] = some [[97 + a], [46], [48 + b]] ∧
    wordsG 5 [97 + a, 46, 32, 48 + b] = some [[97 + a], [46], [48 + b]] ∧ wordsG 6 [97 + a, 32, 46, 32, 48 + b] = some [[97 + a], [46], [48 + b]] := by
  have h := List.all_eq_true.1 (List.all_eq_true.1 points_all a (List.mem_range.2 ha)) b (List.mem_range.2 hb)
  simp only [Bool.and_eq_true, beq_iff_eq] at h
  exact ⟨h.1.1.1, h.1.1.2, h.1.2, h.2⟩
def goodB (b : Nat) : Bool := runB b || blankB b || symB b
theorem bytes_at : ∀ b, b < 256 → (wordsG 6 [97, 32, b, 32, 98]).isSome = goodB b := by decide +kernel
def someG : List (List Nat) := [[97], [120, 46, 121], [58, 61], [61, 62], [45, 62], [40], [41], [46], [110, 97, 116, 46, 114, 101, 99, 64, 48], [95, 49], [58], [49, 50]]
theorem some_word : ∀ w ∈ someG, Word w := by
  have h : ∀ w ∈ someG, ∃ l, wordsG 12 l = some [w] := by
    intro w hw
    simp only [someG, List.mem_cons, List.mem_nil_iff, or_false] at hw
    rcases hw with rfl | rfl | rfl | rfl | rfl | rfl | rfl | rfl | rfl | rfl | rfl | rfl 
    · exact ⟨[97], by decide +kernel⟩
    · exact ⟨[120, 46, 121], by decide +kernel⟩
    · exact ⟨[58, 61], by decide +kernel⟩
    · exact ⟨[61, 62], by decide +kernel⟩
    · exact ⟨[45, 62], by decide +kernel⟩
    · exact ⟨[40], by decide +kernel⟩
    · exact ⟨[41], by decide +kernel⟩
    · exact ⟨[46], by decide +kernel⟩
    · exact ⟨[110, 97, 116, 46, 114, 101, 99, 64, 48], by decide +kernel⟩
    · exact ⟨[95, 49], by decide +kernel⟩
    · exact ⟨[58], by decide +kernel⟩
    · exact ⟨[49, 50], by decide +kernel⟩
  intro w hw
  obtain ⟨l, hl⟩ := h w hw
  exact words_word 12 l hl w (by simp)
end Go.Proofs.YtlmkcdebchahpaaDoor
