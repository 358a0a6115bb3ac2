import Derived.Test.YtjincmagbbpooaaGreatDoorRE
set_option linter.unusedVariables false
set_option linter.unusedSimpArgs false
namespace Go.Proofs.YtjincmagbbpooaaGreatDoor
open Go.RowKit

/-- What the cells of the document's journal hold, one condition each. -/
def rA (q p : Nat) (R : RS) : Nat → World → Prop := fun i w' => match i with
  | 1 => w'.cell? ⟨q, 0, none⟩ = some (.pointer (some ⟨p, 0, none⟩))
  | 2 => w'.cell? ⟨q, 1, none⟩ = some (.int .i64 (R.turn : Int))
  | 3 => w'.cell? ⟨q, 2, none⟩ = some (.int .i64 (R.half : Int))
  | 4 => w'.cell? ⟨q, 3, none⟩ = some (.int .i64 (R.super : Int))
  | 5 => w'.cell? ⟨q, 4, none⟩ = some (.int .i64 (R.fin : Int))
  | 6 => w'.cell? ⟨q, 5, none⟩ = some (.int .i64 (R.n : Int))
  | 7 => w'.cell? ⟨q, 6, none⟩ = some (.bool R.dead)
  | _ => True
theorem rA_of {q p : Nat} {R : RS} {w : World} {t : TypeId} (h : Blk w q t (rjCells p R)) (i : Nat) : rA q p R i w := by
  match i with
  | 0 => exact trivial
  | 1 => exact h.cell 0
  | 2 => exact h.cell 1
  | 3 => exact h.cell 2
  | 4 => exact h.cell 3
  | 5 => exact h.cell 4
  | 6 => exact h.cell 5
  | 7 => exact h.cell 6
  | _ + 8 => exact trivial
theorem drop_drop (s : ByteArray) (a b : Nat) : dropB (dropB s a) b = dropB s (a + b) := by
  apply bys_inj
  rw [bys_dropB, bys_dropB, bys_dropB, List.drop_drop]
theorem drop_norm (s : ByteArray) (m : Nat) : dropB s (s.size - (dropB s m).size) = dropB s m := by
  apply bys_inj
  rw [bys_dropB, bys_dropB, dropB_size]
  rcases Nat.le_total m s.size with h | h
  · rw [show s.size - (s.size - m) = m by omega]
  · rw [show s.size - (s.size - m) = s.size by omega, List.drop_eq_nil_of_le (by rw [bys_length]; exact Nat.le_refl _), List.drop_eq_nil_of_le (by rw [bys_length]; exact h)]
/-- What is behind a frame that was opened is a last part of the bytes. -/
theorem openR_rest {s : ByteArray} {k : Int} (h : (openR s k).2.2 = 0) : ∃ m, (openR s k).2.1 = dropB s m := by
  unfold openR at h ⊢
  by_cases h1 : (textR s 2020).2.2 ≠ 0
  · rw [if_pos h1] at h; exact absurd h h1
  rw [if_neg h1] at h ⊢
  by_cases h2 : (textR s 2020).2.1.size < 4
  · rw [if_pos h2] at h; cases h
  rw [if_neg h2] at h ⊢
  by_cases h3 : sumB (takeB s (s.size - (textR s 2020).2.1.size)) ≠ takeB (textR s 2020).2.1 4
  · rw [if_pos h3] at h; cases h
  rw [if_neg h3] at h ⊢
  by_cases h4 : (numS (textR s 2020).1).2.2 ≠ 0
  · rw [if_pos h4] at h; exact absurd h h4
  rw [if_neg h4] at h ⊢
  by_cases h5 : ((numS (textR s 2020).1).1 : Int) ≠ k
  · rw [if_pos h5] at h; cases h
  rw [if_neg h5] at h ⊢
  have ht : ∃ m, (textR s 2020).2.1 = dropB s m := by
    unfold textR at h1 ⊢
    by_cases g1 : (numS s).2.2 ≠ 0
    · rw [if_pos g1] at h1; exact absurd g1 h1
    rw [if_neg g1] at h1 ⊢
    by_cases g2 : (2020 : Int) < ((numS s).1 : Int)
    · rw [if_pos g2] at h1; exact absurd (by simp) h1
    rw [if_neg g2] at h1 ⊢
    by_cases g3 : (dropB s (numS s).2.1).size < (numS s).1
    · rw [if_pos g3] at h1; exact absurd (by simp) h1
    rw [if_neg g3] at h1 ⊢
    exact ⟨_, drop_drop _ _ _⟩
  obtain ⟨m, hm⟩ := ht
  exact ⟨m + 4, by simp only; rw [hm, drop_drop]⟩
theorem openR_fin {all : ByteArray} {fin : Nat} {k : Int} (h : (openR (dropB all fin) k).2.2 = 0) : dropB all (all.size - (openR (dropB all fin) k).2.1.size) = (openR (dropB all fin) k).2.1 := by
  obtain ⟨m, hm⟩ := openR_rest h
  rw [hm, drop_drop, drop_norm]
/-- What the document's Open leaves. -/
def ROpenPost (F : Nat → Prop) (p : Nat) (sup : Nat) (R : DS × Int × JS × List ByteArray) (w : World) (e : Ending) (w' : World) : Prop :=
  RefPost F p w R.1 w' ∧ ((R.2.1 ≠ 0 ∧ e = .returned (.tuple #[.pointer none, .slice none 0 0, .int .i64 R.2.1])) ∨
    (R.2.1 = 0 ∧ ∃ q v, e = .returned (.tuple #[.pointer (some ⟨q, 0, none⟩), v, .int .i64 0]) ∧ w.heap.size ≤ q ∧ Blk w' q 63 (rjCells p ⟨R.2.2.1.turn, R.2.2.1.which, sup, R.2.2.1.b.size, R.2.2.1.n, false⟩) ∧ w'.ownsRow w.heap.size 9 1 v R.2.2.2.length (strsV R.2.2.2) ∧
      ∃ G : Nat → Prop, Ref w' G p R.1 ∧ (∀ k, G k → F k ∨ (w.heap.size ≤ k ∧ k < w'.heap.size)) ∧ (∀ g, v.ownBlock = some g → ¬ G g) ∧ ¬ G q))
theorem RefPost.after {F : Nat → Prop} {p : Nat} {w w1 w2 : World} {D2 : DS} (hb : Below w.heap.size w w1) (h : RefPost F p w1 D2 w2) : RefPost F p w D2 w2 := by
  refine ⟨((Save.of_below hb).trans (h.1.mono fun _ _ hk => .inl hk)), h.2.mono fun k hk hp => ?_⟩
  have := hb.size
  rcases hp with hp | hp
  · exact .inl hp
  · exact .inr ⟨by omega, hp.2⟩
theorem RefPost.far {F : Nat → Prop} {p q : Nat} {w wm w' : World} {D : DS} {e : TypeId} {s n : Nat} {v : Value} {xs : List Value} (h : Ref w' (Plus F wm w') p D) (hF : ∀ k, F k → k < w.heap.size) (hb : Below w.heap.size w wm) (ho : wm.ownsRow w.heap.size e s v n xs) (hq0 : w.heap.size ≤ q) (hq : q < wm.heap.size) :
    ∃ G : Nat → Prop, Ref w' G p D ∧ (∀ k, G k → F k ∨ (w.heap.size ≤ k ∧ k < w'.heap.size)) ∧ (∀ g, v.ownBlock = some g → ¬ G g) ∧ ¬ G q := by
  refine ⟨Plus F wm w', h, fun k hk => hk.imp_right fun h => ⟨by have := hb.size; omega, h.2⟩, fun g hg hk => ?_, fun hk => ?_⟩
  · have := ho.lt g hg
    rcases hk with hk | hk
    · have := hF g hk; omega
    · omega
  · rcases hk with hk | hk
    · have := hF q hk; omega
    · omega
end Go.Proofs.YtjincmagbbpooaaGreatDoor
