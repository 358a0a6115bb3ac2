import Derived.Test.YtlmkcdebchahpaaDoorLX7
set_option linter.unusedVariables false
set_option linter.unusedSimpArgs false
namespace Go.Proofs.YtlmkcdebchahpaaDoor
open Go.RowKit

/-! ### words joined: the plain law -/
theorem skipG_mem : ∀ (l : List Nat) {x : Nat}, x ∈ skipG l → x ∈ l
  | [], _, h => h
  | b :: r, x, h => by
    unfold skipG at h
    by_cases hb : blankB b = true
    · rw [if_pos hb] at h; exact List.mem_cons_of_mem _ (skipG_mem r h)
    · rw [if_neg hb] at h; exact h
theorem words_bytes : ∀ (f : Nat) (l : List Nat) {ws : List (List Nat)}, wordsG f l = some ws → ∀ w ∈ ws, ∀ x ∈ w, x ∈ l
  | 0, _, ws, h, w, hw, x, hx => by simp [wordsG] at h; subst h; cases hw
  | f + 1, l, ws, h, w, hw, x, hx => by
    have hm := @skipG_mem l
    rw [← wordsG_skip] at h
    cases hs : skipG l with
    | nil => rw [hs, wordsG_nil] at h; cases h; cases hw
    | cons a r =>
      have ha := skipG_head l hs
      rw [hs] at h hm
      by_cases hn : nextG (a :: r) = 0
      · rw [wordsG_none ha hn] at h; cases h
      · rw [wordsG_cons ha hn] at h
        obtain ⟨v, hv, rfl⟩ := Option.map_eq_some_iff.1 h
        rcases List.mem_cons.1 hw with rfl | hw
        · exact hm (List.mem_of_mem_take hx)
        · exact hm (List.mem_of_mem_drop (words_bytes f _ hv w hw x hx))
def piece (p : List Nat × List Nat) : ByteArray := strN p.1 ++ strN p.2
theorem bys_flat : ∀ (ps : List (List Nat × List Nat)), (∀ p ∈ ps, (∀ x ∈ p.1, x < 256) ∧ ∀ x ∈ p.2, x < 256) → bys (flatB (ps.map piece)) = joinG ps
  | [], _ => rfl
  | (a, b) :: r, h => by
    obtain ⟨h1, h2⟩ := h (a, b) (by simp)
    show bys ((strN a ++ strN b) ++ flatB (r.map piece)) = a ++ b ++ joinG r
    rw [bys_append, bys_append, bys_strN h1, bys_strN h2, bys_flat r (fun p hp => h p (by simp [hp]))]
theorem joined (ps : List (List Nat × List Nat)) (h1 : ∀ p ∈ ps, (∀ x ∈ p.1, x < 256) ∧ ∀ x ∈ p.2, x < 256) (h2 : ∀ p ∈ ps, Word p.1 ∧ p.2 ≠ [] ∧ ∀ c ∈ p.2, blankB c = true) (hl : (joinG ps).length ≤ 2000) :
    wordsR (flatB (ps.map piece)) = (ps.map fun p => strN p.1, 0) := by
  refine wordsR_of (bys_flat ps h1) hl (words_join ps _ (by omega) h2) ?_
  rw [List.map_map]; rfl
def sepG (i : Nat) : List Nat := if i % 3 = 0 then [32] else if i % 3 = 1 then [10] else [9, 32]
theorem sepG_ok (i : Nat) : (∀ x ∈ sepG i, x < 256) ∧ sepG i ≠ [] ∧ (∀ c ∈ sepG i, blankB c = true) ∧ (sepG i).length ≤ 2 := by
  unfold sepG
  split
  · exact ⟨by decide, by decide, by decide, by decide⟩
  · split
    · exact ⟨by decide, by decide, by decide, by decide⟩
    · exact ⟨by decide, by decide, by decide, by decide⟩
def ps1 (ws : List (List Nat)) : List (List Nat × List Nat) := ws.zipIdx.map fun p => (p.1, sepG p.2)
theorem join_len : ∀ (ps : List (List Nat × List Nat)), (∀ p ∈ ps, p.2.length ≤ 2) → (joinG ps).length ≤ sumLen (ps.map Prod.fst) + 2 * ps.length
  | [], _ => Nat.le_refl _
  | (a, b) :: r, h => by
    have h1 := h (a, b) (by simp)
    have h2 := join_len r (fun p hp => h p (by simp [hp]))
    simp only [joinG, List.map_cons, sumLen, List.length_append, List.length_cons] at *
    omega
theorem ps1_fst (ws : List (List Nat)) : (ps1 ws).map Prod.fst = ws := by
  unfold ps1
  rw [List.map_map]
  have : (Prod.fst ∘ fun p : List Nat × Nat => (p.1, sepG p.2)) = Prod.fst := rfl
  rw [this, List.zipIdx_map_fst]
/-- What is told again. -/
theorem again (s : ByteArray) (hs : s.size ≤ 600) (l : List ByteArray) (h : wordsR s = (l, 0)) :
    ∃ P : List ByteArray, P.length = l.length ∧ l.length ≤ 600 ∧ (∀ (k : Nat) x, l[k]? = some x → P[k]? = some (x ++ strN (sepG k)) ∧ x.size ≤ 600) ∧ wordsR (flatB P) = (l, 0) := by
  unfold wordsR at h
  rw [if_neg (by omega)] at h
  cases hw : wordsG (s.size + 1) (bys s) with
  | none => rw [hw] at h; simp [finR] at h
  | some ws =>
    rw [hw] at h
    have hl : ws.map strN = l := by simp [finR] at h; exact h
    obtain ⟨hn1, hn2⟩ := words_len _ _ hw
    rw [bys_length] at hn1 hn2
    have hfst := ps1_fst ws
    have hmem : ∀ p ∈ ps1 ws, p.1 ∈ ws ∧ ∃ i, p.2 = sepG i := fun p hp => by
      have h1 : p.1 ∈ (ps1 ws).map Prod.fst := List.mem_map_of_mem hp
      rw [hfst] at h1
      unfold ps1 at hp
      obtain ⟨q, _, rfl⟩ := List.mem_map.1 hp
      exact ⟨h1, q.2, rfl⟩
    have hb : ∀ w ∈ ws, ∀ x ∈ w, x < 256 := fun w hw' x hx => bys_lt s x (words_bytes _ _ hw w hw' x hx)
    have hlen : (ps1 ws).length = ws.length := by unfold ps1; simp
    have hj := joined (ps1 ws) (fun p hp => by
        obtain ⟨h1, i, h2⟩ := hmem p hp
        exact ⟨hb _ h1, by rw [h2]; exact (sepG_ok i).1⟩) (fun p hp => by
        obtain ⟨h1, i, h2⟩ := hmem p hp
        exact ⟨words_word _ _ hw _ h1, by rw [h2]; exact (sepG_ok i).2.1, by rw [h2]; exact (sepG_ok i).2.2.1⟩) (by
        have := join_len (ps1 ws) (fun p hp => by obtain ⟨_, i, h2⟩ := hmem p hp; rw [h2]; exact (sepG_ok i).2.2.2)
        rw [hfst, hlen] at this
        omega)
    refine ⟨(ps1 ws).map piece, by rw [List.length_map, hlen, ← hl, List.length_map], by rw [← hl, List.length_map]; omega, fun k x hk => ?_, ?_⟩
    · rw [← hl, List.getElem?_map] at hk
      obtain ⟨w, hw1, rfl⟩ := Option.map_eq_some_iff.1 hk
      have hz : (ps1 ws)[k]? = some (w, sepG k) := by
        unfold ps1
        rw [List.getElem?_map, List.getElem?_zipIdx, hw1]
        simp
      refine ⟨by rw [List.getElem?_map, hz]; rfl, ?_⟩
      rw [strN_size]
      have hwm : w ∈ ws := List.mem_of_getElem? hw1
      have : ∀ (vs : List (List Nat)), w ∈ vs → w.length ≤ sumLen vs := by
        intro vs
        induction vs with
        | nil => intro h; cases h
        | cons v vs ih =>
          intro h
          rcases List.mem_cons.1 h with rfl | h
          · simp only [sumLen]; omega
          · have := ih h; simp only [sumLen]; omega
      have := this ws hwm
      omega
    · rw [hj]
      have : ((ps1 ws).map fun p => strN p.1) = ((ps1 ws).map Prod.fst).map strN := by rw [List.map_map]; rfl
      rw [this, hfst, hl]
def someB : List ByteArray := [⟨#[97]⟩, ⟨#[120, 46, 121]⟩, ⟨#[58, 61]⟩, ⟨#[61, 62]⟩, ⟨#[45, 62]⟩, ⟨#[40]⟩, ⟨#[41]⟩, ⟨#[46]⟩, ⟨#[110, 97, 116, 46, 114, 101, 99, 64, 48]⟩, ⟨#[95, 49]⟩, ⟨#[58]⟩, ⟨#[49, 50]⟩]
theorem someB_eq : someG.map strN = someB := by decide +kernel
def someW (x : Nat) : ByteArray := someB.getD (x % 12) ByteArray.empty
def ps2 (q : List Nat) : List (List Nat × List Nat) := q.map fun x => (someG.getD (x % 12) [], [32])
theorem someG_at (x : Nat) : someG.getD (x % 12) [] ∈ someG ∧ strN (someG.getD (x % 12) []) = someW x ∧ (someG.getD (x % 12) []).length ≤ 9 := by
  have h : x % 12 < someG.length := Nat.mod_lt _ (by decide)
  have e : someG.getD (x % 12) [] = someG[x % 12] := by rw [List.getD_eq_getElem?_getD, List.getElem?_eq_getElem h]; rfl
  have hm : someG[x % 12] ∈ someG := List.getElem_mem h
  refine ⟨by rw [e]; exact hm, ?_, ?_⟩
  · unfold someW
    rw [← someB_eq, List.getD_eq_getElem?_getD, List.getD_eq_getElem?_getD, List.getElem?_map, List.getElem?_eq_getElem h]
    rfl
  · rw [e]
    have : ∀ w ∈ someG, w.length ≤ 9 := by decide
    exact this _ hm
/-- What is put together is told. -/
theorem together (q : List Nat) (hq : q.length ≤ 60) :
    ∃ P : List ByteArray, P.length = q.length ∧ (∀ (k : Nat) x, q[k]? = some x → P[k]? = some (someW x ++ ⟨#[32]⟩)) ∧ wordsR (flatB P) = (q.map someW, 0) := by
  have h32 : strN [32] = ⟨#[32]⟩ := strN_32
  have hmem : ∀ p ∈ ps2 q, p.1 ∈ someG ∧ p.2 = [32] ∧ p.1.length ≤ 9 := fun p hp => by
    obtain ⟨x, _, rfl⟩ := List.mem_map.1 hp
    exact ⟨(someG_at x).1, rfl, (someG_at x).2.2⟩
  have hby : ∀ w ∈ someG, ∀ x ∈ w, x < 256 := by decide
  have hlen : (ps2 q).length = q.length := by unfold ps2; simp
  have hsum : ∀ (ps : List (List Nat × List Nat)), (∀ p ∈ ps, p.1.length ≤ 9) → sumLen (ps.map Prod.fst) ≤ 9 * ps.length := by
    intro ps
    induction ps with
    | nil => intro _; exact Nat.le_refl _
    | cons p ps ih =>
      intro h
      have h1 := h p (by simp)
      have h2 := ih (fun p hp => h p (by simp [hp]))
      simp only [List.map_cons, sumLen, List.length_cons] at *
      omega
  have hj := joined (ps2 q) (fun p hp => ⟨hby _ (hmem p hp).1, by rw [(hmem p hp).2.1]; decide⟩) (fun p hp => ⟨some_word _ (hmem p hp).1, by rw [(hmem p hp).2.1]; decide, by rw [(hmem p hp).2.1]; decide⟩) (by
    have h1 := join_len (ps2 q) (fun p hp => by rw [(hmem p hp).2.1]; decide)
    have h2 := hsum (ps2 q) (fun p hp => (hmem p hp).2.2)
    rw [hlen] at h1 h2
    omega)
  refine ⟨(ps2 q).map piece, by rw [List.length_map, hlen], fun k x hk => ?_, ?_⟩
  · unfold ps2
    rw [List.getElem?_map, List.getElem?_map, hk]
    show some (strN _ ++ strN [32]) = _
    rw [(someG_at x).2.1, h32]
  · rw [hj]
    unfold ps2
    rw [List.map_map]
    congr 1
    exact List.map_congr_left fun x _ => (someG_at x).2.1
theorem someW_size (x : Nat) : (someW x).size ≤ 9 := by
  rw [← (someG_at x).2.1, strN_size]; exact (someG_at x).2.2
end Go.Proofs.YtlmkcdebchahpaaDoor
