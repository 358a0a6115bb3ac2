import Derived.Test.YtghebjgkdfbmeaaGreatDoorPR
set_option linter.unusedVariables false
set_option linter.unusedSimpArgs false
namespace Go.Proofs.YtghebjgkdfbmeaaGreatDoor
open Go.RowKit

def pLeaf (k : Int) (r : RS) : Int × ByteArray × RS :=
  if k = 3 then (r.name.2.num.1, r.name.1, r.name.2.num.2) else (r.num.1, ⟨#[]⟩, r.num.2)
def RS.more (r : RS) : RS := ⟨r.s, r.n + 1, if r.e = 0 ∧ 3000 < r.n + 1 then 13 else r.e⟩
def pBody (go : RS → Tm × RS) (k : Int) (r1 : RS) : Tm × RS :=
  if r1.e ≠ 0 then (.node k 0 ⟨#[]⟩ .nil .nil .nil, r1)
  else if k = 1 ∨ k = 2 ∨ k = 3 then (.node k (pLeaf k r1).1 (pLeaf k r1).2.1 .nil .nil .nil, leafErr k (pLeaf k r1).1 (pLeaf k r1).2.1 (pLeaf k r1).2.2)
  else if k = 7 then (.node k 0 ⟨#[]⟩ (go r1).1 (go (go r1).2).1 (go (go (go r1).2).2).1, (go (go (go r1).2).2).2)
  else if k = 4 ∨ k = 5 ∨ k = 6 then (.node k 0 ⟨#[]⟩ (go r1).1 (go (go r1).2).1 .nil, (go (go r1).2).2)
  else (.node k 0 ⟨#[]⟩ .nil .nil .nil, ⟨r1.s, r1.n, 10⟩)
def pTerm : Nat → RS → Tm × RS
  | 0, r => (.nil, r)
  | f + 1, r => pBody (pTerm f) r.more.num.1 r.more.num.2
theorem pTerm_eq (f : Nat) (r : RS) : pTerm (f + 1) r = pBody (pTerm f) r.more.num.1 r.more.num.2 := rfl
theorem name_n (r : RS) : r.name.2.n = r.n := by unfold RS.name; split <;> rfl
theorem name_s (r : RS) : r.name.2.s.size ≤ r.s.size := by
  unfold RS.name
  split
  · exact Nat.le_refl _
  · exact textR_s _ _
theorem textR_24 (s : ByteArray) : (textR s 24).1.size ≤ 24 := by
  unfold textR
  repeat' split
  all_goals first | exact Nat.zero_le _ | (unfold takeB; rw [ByteArray.size_extract]; simp only [dropB_size]; omega)
theorem name_24 (r : RS) : r.name.1.size ≤ 24 := by
  unfold RS.name
  split
  · exact Nat.zero_le _
  · exact textR_24 _
theorem num_e {r : RS} (h : r.num.2.e = 0) : r.e = 0 := by
  unfold RS.num at h
  split at h
  · exact h
  · rename_i h1
    exact Classical.byContradiction h1
theorem name_e {r : RS} (h : r.name.2.e = 0) : r.e = 0 := by
  unfold RS.name at h
  split at h
  · exact h
  · rename_i h1
    exact Classical.byContradiction h1
theorem pLeaf_n (k : Int) (r : RS) : (pLeaf k r).2.2.n = r.n := by unfold pLeaf; split <;> simp only [num_n, name_n]
theorem pLeaf_s (k : Int) (r : RS) : (pLeaf k r).2.2.s.size ≤ r.s.size := by
  unfold pLeaf
  split
  · exact Nat.le_trans (num_s _) (name_s _)
  · exact num_s _
theorem more_e {r : RS} (h : r.more.e = 0) : r.e = 0 ∧ r.n + 1 ≤ 3000 := by
  unfold RS.more at h
  simp only at h
  split at h
  · cases h
  · rename_i h1
    exact ⟨h, by
      have := fun h2 => h1 ⟨h, h2⟩
      omega⟩
structure PG (f : Nat) (r r' : RS) : Prop where
  s : r'.s.size ≤ r.s.size
  n : r.n < r'.n
  e : r'.e = 0 → r'.n ≤ 3000 ∧ r.e = 0
  t0 : r.e = 0 → r'.n ≤ 3001 + 2 * f
  t1 : r.e ≠ 0 → r'.n = r.n + 1
theorem leafErr_e {k n : Int} {s : ByteArray} {r : RS} (h : (leafErr k n s r).e = 0) : r.e = 0 := by
  unfold leafErr at h
  split at h
  · cases h
  · exact h
theorem pTerm_goes : ∀ (f : Nat) (r : RS), 1 ≤ f → (r.e = 0 → r.n ≤ 3000 ∧ 3001 ≤ r.n + f) → PG f r (pTerm f r).2
  | 0, r, h, _ => by omega
  | f + 1, r, _, h => by
    have hmn : r.more.num.2.n = r.n + 1 := by rw [num_n]; rfl
    have hms : r.more.num.2.s.size ≤ r.s.size := num_s _
    have hme : r.more.num.2.e = 0 → r.e = 0 ∧ r.n + 1 ≤ 3000 := fun h => more_e (num_e h)
    rw [pTerm_eq]
    unfold pBody
    generalize r.more.num.1 = k
    generalize r.more.num.2 = r1 at hmn hms hme
    by_cases h1 : r1.e ≠ 0
    · rw [if_pos h1]
      exact ⟨hms, by simp only; omega, fun h => absurd h h1, fun h0 => by have := (h h0).1; simp only; omega, fun _ => hmn⟩
    rw [if_neg h1]
    have h1' : r1.e = 0 := Classical.byContradiction h1
    obtain ⟨he, hn⟩ := hme h1'
    obtain ⟨hn0, hf⟩ := h he
    have hf1 : 1 ≤ f := by omega
    by_cases h2 : k = 1 ∨ k = 2 ∨ k = 3
    · rw [if_pos h2]
      have e1 := leafErr_n k (pLeaf k r1).1 (pLeaf k r1).2.1 (pLeaf k r1).2.2
      have e2 := pLeaf_n k r1
      refine ⟨?_, by simp only; omega, fun _ => ⟨by simp only; omega, he⟩, fun _ => by simp only; omega, fun h => absurd he h⟩
      simp only
      rw [leafErr_s]
      exact Nat.le_trans (pLeaf_s _ _) hms
    rw [if_neg h2]
    have ga := pTerm_goes f r1 hf1 (fun _ => ⟨by omega, by omega⟩)
    have gb := pTerm_goes f (pTerm f r1).2 hf1 (fun h => ⟨(ga.e h).1, by have := ga.n; omega⟩)
    have a0 := ga.t0 h1'
    have an := ga.n
    have bn := gb.n
    have hb : (pTerm f (pTerm f r1).2).2.n ≤ 3001 + 2 * f + 1 := by
      by_cases h : (pTerm f r1).2.e = 0
      · have := gb.t0 h; omega
      · have := gb.t1 h; omega
    by_cases h3 : k = 7
    · rw [if_pos h3]
      have gc := pTerm_goes f (pTerm f (pTerm f r1).2).2 hf1 (fun h => ⟨(gb.e h).1, by have := gb.n; omega⟩)
      have cn := gc.n
      have hc : (pTerm f (pTerm f (pTerm f r1).2).2).2.n ≤ 3001 + 2 * f + 2 := by
        by_cases h : (pTerm f (pTerm f r1).2).2.e = 0
        · have := gc.t0 h; omega
        · have := gc.t1 h; omega
      exact ⟨Nat.le_trans gc.s (Nat.le_trans gb.s (Nat.le_trans ga.s hms)), by simp only; omega, fun h => ⟨(gc.e h).1, he⟩, fun _ => by simp only; omega, fun h => absurd he h⟩
    rw [if_neg h3]
    by_cases h4 : k = 4 ∨ k = 5 ∨ k = 6
    · rw [if_pos h4]
      exact ⟨Nat.le_trans gb.s (Nat.le_trans ga.s hms), by simp only; omega, fun h => ⟨(gb.e h).1, he⟩, fun _ => by simp only; omega, fun h => absurd he h⟩
    rw [if_neg h4]
    exact ⟨hms, by simp only; omega, fun h => (by cases h), fun _ => by simp only; omega, fun h => absurd he h⟩
theorem leaf_all (k n : Int) (s : ByteArray) (hk : k = 1 ∨ k = 2 ∨ k = 3) : (allF (.node k n s .nil .nil .nil) 3000).1 = leafB k n s := by
  have hp : partsN k = 0 := by
    unfold partsN
    rw [if_neg (by omega), if_neg (by omega)]
  unfold allF
  rw [if_neg (by decide), hp]
  cases leafB k n s <;> rfl
theorem ErrVar.save {lb : Nat} {w w' : World} (h : ErrVar w) (hs : Save (· = lb) w w') (hn : 0 ≠ lb) : ErrVar w' := by
  have hlt : 0 < w.heap.size := by
    rcases Nat.lt_or_ge 0 w.heap.size with h' | h'
    · exact h'
    · unfold ErrVar at h
      simp [World.cell?, Array.getElem?_eq_none h'] at h
  exact (World.cell?_of_block (w := w) (a := ⟨0, 0, none⟩) (hs.block _ hlt hn)).trans h
/-- What the reader leans on. -/
structure Leans (rb : Nat) (w : World) : Prop where
  g : ErrVar w
  m : MaxV w
  hg : 0 ≠ rb
  hm : 1 ≠ rb
theorem Leans.save {rb : Nat} {w w' : World} (h : Leans rb w) (hs : Save (· = rb) w w') : Leans rb w' := ⟨h.g.save hs h.hg, h.m.save hs h.hm, h.hg, h.hm⟩
def PTermPost (rb : Nat) (x : Tm × RS) (w : World) (e : Ending) (w' : World) : Prop :=
  ∃ p, e = .returned (.pointer p) ∧ PIn w.heap.size w' x.1 p ∧ Blk w' rb 50 (pCells x.2) ∧ Save (· = rb) w w'

/-- The contract, at so much fuel. -/
def PTermC (f : Nat) : Prop := ∀ (rb : Nat) (r : RS) (w : World), Blk w rb 50 (pCells r) → 1 ≤ f → (r.e = 0 → r.n ≤ 3000 ∧ 3001 ≤ r.n + f) → f ≤ 3001 → r.n ≤ 100000 → r.s.size ≤ 9223372036854775807 → Leans rb w →
    Calls Tryz.prog 18 #[.pointer (some ⟨rb, 0, none⟩)] w (PTermPost rb (pTerm f r) w)
end Go.Proofs.YtghebjgkdfbmeaaGreatDoor
