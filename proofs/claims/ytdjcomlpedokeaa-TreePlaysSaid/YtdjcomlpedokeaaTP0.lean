import Derived.Test.YtdjcomlpedokeaaGT
set_option linter.unusedVariables false
set_option linter.unusedSimpArgs false
namespace Go.Proofs.Ytdjcomlpedokeaa
open Go.RowKit

/-! ### what the law's model does with a step -/
def insAt (d : Bool) (key k : ByteArray) : Bool := !d && !(blt k key)
def doneG (key : ByteArray) (n : Int) : Bool → List (ByteArray × Int) → List (ByteArray × Int)
  | d, [] => if d = true then [] else [(key, n)]
  | d, (k, m) :: r => (if insAt d key k = true then [(key, n)] else []) ++ (if k = key then [] else [(k, m)]) ++ doneG key n (d || insAt d key k) r
theorem doneG_true (key : ByteArray) (n : Int) : ∀ l : List (ByteArray × Int), doneG key n true l = delL key l
  | [] => rfl
  | (k, m) :: r => by
    unfold doneG
    rw [show insAt true key k = false from rfl]
    simp only [Bool.true_or]
    rw [doneG_true key n r]
    unfold delL
    by_cases h : k = key
    · subst h; simp
    · simp [h]
theorem doneG_false (key : ByteArray) (n : Int) : ∀ l : List (ByteArray × Int), Rise l → doneG key n false l = insL key n l
  | [], _ => rfl
  | (k, m) :: r, h => by
    have hr : Rise r := (List.pairwise_cons.1 h).2
    have hk : ∀ x ∈ r, blt k x.1 = true := (List.pairwise_cons.1 h).1
    unfold doneG insL
    by_cases h1 : blt k key = true
    · have h2 : ¬ blt key k = true := blt_asymm h1
      have h3 : ¬ key = k := fun e => blt_ne h1 e.symm
      have h4 : ¬ k = key := fun e => h3 e.symm
      rw [if_neg h2, if_neg h3, if_neg h4]
      have hi : insAt false key k = false := by simp [insAt, h1]
      rw [hi]
      simp only [Bool.or_self]
      rw [doneG_false key n r hr]
      rfl
    · have hi : insAt false key k = true := by simp [insAt, h1]
      rw [hi, if_pos rfl, Bool.or_true, doneG_true]
      have hd : delL key r = r := delL_none (fun a ha e => by
        have := hk a ha
        rw [e] at this
        exact h1 this)
      rw [hd]
      by_cases h2 : blt key k = true
      · have h4 : ¬ k = key := fun e => blt_ne h2 e.symm
        rw [if_pos h2, if_neg h4]
        rfl
      · have h3 : key = k := by
          by_cases e : k = key
          · exact e.symm
          · exact absurd (blt_total h1 e) h2
        rw [if_neg h2, if_pos h3, if_pos h3.symm]
        rfl
def keysV (l : List (ByteArray × Int)) : List Value := l.map fun x => .string x.1
def numsV (l : List (ByteArray × Int)) : List Value := l.map fun x => .int .i64 x.2
/-- A model: two rows. -/
structure MdIn (w : World) (B : Nat) (kv nv : Value) (l : List (ByteArray × Int)) : Prop where
  k : w.ownsRow B 9 1 kv l.length (keysV l)
  n : w.ownsRow B 3 1 nv l.length (numsV l)
theorem MdIn.same {w w' : World} {B : Nat} {kv nv : Value} {l : List (ByteArray × Int)} (h : MdIn w B kv nv l) (hs : ∀ k, kv.ownBlock = some k ∨ nv.ownBlock = some k → w'.heap[k]? = w.heap[k]?) : MdIn w' B kv nv l :=
  ⟨own_same h.k fun k hk => hs k (.inl hk), own_same h.n fun k hk => hs k (.inr hk)⟩
theorem MdIn.below {w w' : World} {B : Nat} {kv nv : Value} {l : List (ByteArray × Int)} (h : MdIn w B kv nv l) (hb : Below w.heap.size w w') : MdIn w' B kv nv l :=
  h.same fun k hk => hb.block k (hk.elim (fun e => (h.k.lt k e).2) (fun e => (h.n.lt k e).2))
theorem MdIn.base {w : World} {B : Nat} {kv nv : Value} {l : List (ByteArray × Int)} (h : MdIn w B kv nv l) : MdIn w 0 kv nv l := ⟨own_base h.k, own_base h.n⟩
theorem MdIn.at_ {w : World} {B : Nat} {kv nv : Value} {l : List (ByteArray × Int)} (h : MdIn w B kv nv l) {i : Nat} {x : ByteArray × Int} (hi : l[i]? = some x) :
    ∃ g1 c1 g2 c2, kv = .slice (some ⟨g1, 0, none⟩) l.length c1 ∧ nv = .slice (some ⟨g2, 0, none⟩) l.length c2 ∧ w.cell? ⟨g1, i, none⟩ = some (.string x.1) ∧ w.cell? ⟨g2, i, none⟩ = some (.int .i64 x.2) := by
  have hl : 0 < l.length := by have := (List.getElem?_eq_some_iff.1 hi).1; omega
  obtain ⟨g1, c1, e1, -, -, -, h1⟩ := own_form h.k hl
  obtain ⟨g2, c2, e2, -, -, -, h2⟩ := own_form h.n hl
  exact ⟨g1, c1, g2, c2, e1, e2, h1 i _ (by simp [keysV, hi]), h2 i _ (by simp [numsV, hi])⟩
theorem MdIn.form {w : World} {B : Nat} {kv nv : Value} {l : List (ByteArray × Int)} (h : MdIn w B kv nv l) : ∃ a c a' c', kv = .slice a l.length c ∧ nv = .slice a' l.length c' := by
  have own_len : ∀ {e : TypeId} {size n : Nat} {v : Value} {xs : List Value}, w.ownsRow B e size v n xs → ∃ a c, v = .slice a n c := by
    intro e size n v xs h
    rcases h.2 with ⟨rfl, h1⟩ | ⟨g', cap, cur, rfl, _⟩
    · have := h.1
      first | exact ⟨none, 0, by simp_all⟩ | (obtain ⟨rfl, rfl⟩ := h1; exact ⟨none, 0, rfl⟩) | (subst h1; exact ⟨none, 0, rfl⟩)
    · exact ⟨_, _, rfl⟩
  obtain ⟨a, c, h1⟩ := own_len h.k
  obtain ⟨a', c', h2⟩ := own_len h.n
  exact ⟨a, c, a', c', h1, h2⟩
end Go.Proofs.Ytdjcomlpedokeaa
