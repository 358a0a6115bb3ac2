import Derived.Test.YtjincmagbbpooaaGreatDoorP4
set_option linter.unusedVariables false
set_option linter.unusedSimpArgs false
namespace Go.Proofs.YtjincmagbbpooaaGreatDoor
open Go.RowKit


/-! ### the contracts at given answers -/
theorem Take_is (s : ByteArray) (z : Int) (n : Nat) (r : ByteArray) (c : Int) (er : Value) (hz : (n : Int) = z) (he : errV c = er) (hs : s.size ≤ 9223372036854775807) (h : numS s = (n, s.size - r.size, c) ∧ dropB s (s.size - r.size) = r) (w : World) :
    Calls Tryz.prog 77 #[.string s] w fun e w' => e = .returned (.tuple #[.int .i64 z, .string r, er]) ∧ Below w.heap.size w w' := by
  refine (Take_any s hs w).mono ?_
  rintro e w' ⟨rfl, m, rfl⟩
  rw [h.1, ← hz, ← he]
  rw [show dropB s (n, s.size - r.size, c).2.1 = r from h.2]
  exact ⟨rfl, below_drewN w m⟩
theorem TakeText_is (s : ByteArray) (most : Int) (a b : ByteArray) (c : Int) (er : Value) (he : errV c = er) (hs : s.size ≤ 9223372036854775807) (h : textR s most = (a, b, c)) (w : World) (hg : ErrVar w) :
    Calls Tryz.prog 75 #[.string s, .int .i64 most] w fun e w' => e = .returned (.tuple #[.string a, .string b, er]) ∧ Below w.heap.size w w' := by
  have := TakeText_any s most hs w hg
  rw [h] at this
  rw [← he]
  exact this
theorem strN_128 : strN (numB 128) = ⟨#[128, 1]⟩ := by
  rw [numB_great (by decide), numB_small (by decide)]
  rfl
theorem take_num (m : Nat) (more : ByteArray) (h : m < 72057594037927936) : numS (strN (numB m) ++ more) = (m, (strN (numB m) ++ more).size - more.size, 0) ∧ dropB (strN (numB m) ++ more) ((strN (numB m) ++ more).size - more.size) = more := by
  have e : (strN (numB m) ++ more).size - more.size = (strN (numB m)).size := by rw [ByteArray.size_append]; omega
  rw [e, numS_back m more h, strN_size]
  exact ⟨rfl, by rw [← strN_size (numB m)]; exact dropB_append _ _⟩

theorem is_same (c : Int) (hc : c ≠ 0) (w : World) : Calls Tryz.prog 12 #[.iface 34 (.int .i64 c), .iface 34 (.int .i64 c)] w fun e w' => e = .returned (.bool true) ∧ w = w' := is_yes c w



theorem dropB_zero (s : ByteArray) : dropB s 0 = s := by apply bys_inj; rw [bys_dropB, List.drop_zero]
theorem short_num (m j : Nat) (h : m < 72057594037927936) (hj : j < (strN (numB m)).size) :
    numS (takeB (strN (numB m)) j) = (0, (takeB (strN (numB m)) j).size - (takeB (strN (numB m)) j).size, 11) ∧ dropB (takeB (strN (numB m)) j) ((takeB (strN (numB m)) j).size - (takeB (strN (numB m)) j).size) = takeB (strN (numB m)) j := by
  rw [Nat.sub_self, dropB_zero]
  rw [strN_size] at hj
  exact ⟨numS_short m j h hj, rfl⟩
theorem takeB_size (s : ByteArray) (j : Nat) (h : j ≤ s.size) : (takeB s j).size = j := by unfold takeB; rw [ByteArray.size_extract]; omega
theorem numB_len : ∀ (k m : Nat), m < 128 ^ (k + 1) → (numB m).length ≤ k + 1
  | 0, m, h => by rw [numB_small (by simpa using h)]; simp
  | k + 1, m, h => by
    by_cases h1 : m < 128
    · rw [numB_small h1]; simp
    · rw [numB_great h1]
      have := numB_len k (m / 128) (by rw [Nat.pow_succ] at h; omega)
      simp; omega
theorem beq_list (l : List UInt8) : (l == l) = true := beq_self_eq_true l



theorem list_inj {a b : ByteArray} (h : a.toList = b.toList) : a = b := by
  rw [ByteArray.toList_eq, ByteArray.toList_eq] at h
  exact ByteArray.ext (Array.toList_inj.mp h)
theorem beq_list_false {a b : ByteArray} (h : ¬ a = b) : (a.toList == b.toList) = false := by
  rw [beq_eq_false_iff_ne]; exact fun e => h (list_inj e)
theorem numB_mono : ∀ (n m : Nat), m ≤ n → (numB m).length ≤ (numB n).length := by
  intro n
  induction n using Nat.strongRecOn with
  | ind n ih =>
    intro m hm
    by_cases h : m < 128
    · rw [numB_small h]
      exact List.length_pos_iff.2 (numB_ne n)
    · rw [numB_great h, numB_great (n := n) (by omega)]
      have := ih (n / 128) (by omega) (m / 128) (by omega)
      simp; exact this
theorem numB_inj {n m : Nat} (hn : n < 72057594037927936) (hm : m < 72057594037927936) (h : strN (numB n) = strN (numB m)) : n = m := by
  have h1 := numS_back n ByteArray.empty hn
  have h2 := numS_back m ByteArray.empty hm
  rw [h, h2] at h1
  exact (Prod.mk.inj h1).1.symm
theorem numB_lengthS {n : Nat} (h : ¬ n < 128) : (numB n).length = (numB (n / 128)).length + 1 := by rw [numB_great h]; rfl
theorem numB_length1 {n : Nat} (h : n < 128) : (numB n).length = 1 := by rw [numB_small h]; rfl



/-- A slice's places: of any kind of thing. -/
def SlOf {α : Type} (mk : α → Value) (W : World) (a : Option Addr) (l : List α) : Prop := ∀ j x, l[j]? = some x → ∃ b off, a = some ⟨b, off, none⟩ ∧ W.cell? ⟨b, off + j, none⟩ = some (mk x)
theorem SlOf.below {α : Type} {mk : α → Value} {W W' : World} {a : Option Addr} {l : List α} (h : SlOf mk W a l) (hb : Below W.heap.size W W') : SlOf mk W' a l := by
  intro j x hj
  obtain ⟨b, off, e, hc⟩ := h j x hj
  exact ⟨b, off, e, cell_keep hb hc⟩
def mkS : ByteArray → Value := .string
def mkU : Nat → Value := fun n => .int .u32 (n : Int)

/-! ### bytes one behind the other -/
def pieces (ns : List Nat) (ss : List ByteArray) : List ByteArray := (List.range ns.length).map fun i => strN (numB (ns.getD i 0)) ++ (if i < ss.length then textS (ss.getD i ByteArray.empty) else ByteArray.empty)
def flatB : List ByteArray → ByteArray
  | [] => ByteArray.empty
  | x :: r => x ++ flatB r
theorem append_empty (a : ByteArray) : a ++ ByteArray.empty = a := by apply bys_inj; rw [bys_append]; show bys a ++ [] = _; simp
theorem empty_append (a : ByteArray) : ByteArray.empty ++ a = a := by apply bys_inj; rw [bys_append]; show [] ++ bys a = _; simp
theorem flatB_append (l r : List ByteArray) : flatB (l ++ r) = flatB l ++ flatB r := by
  induction l with
  | nil => exact (empty_append _).symm
  | cons x l ih => show x ++ flatB (l ++ r) = x ++ flatB l ++ flatB r; rw [ih, append_assocB]
theorem pieces_length (ns ss) : (pieces ns ss).length = ns.length := by simp [pieces]
theorem pieces_get (ns : List Nat) (ss : List ByteArray) (i : Nat) (h : i < ns.length) : (pieces ns ss)[i]? = some (strN (numB (ns.getD i 0)) ++ (if i < ss.length then textS (ss.getD i ByteArray.empty) else ByteArray.empty)) := by
  unfold pieces
  rw [List.getElem?_map, List.getElem?_range h]
  rfl
theorem up_succ (l : List ByteArray) (i : Nat) (p : ByteArray) (h : l[i]? = some p) : flatB (l.take (i + 1)) = flatB (l.take i) ++ p := by
  obtain ⟨hi, he⟩ := List.getElem?_eq_some_iff.1 h
  rw [List.take_succ_eq_append_getElem hi, flatB_append, he]
  show _ ++ (p ++ ByteArray.empty) = _
  rw [append_empty]
theorem down_succ (l : List ByteArray) (i : Nat) (p : ByteArray) (h : l[i]? = some p) : flatB (l.drop i) = p ++ flatB (l.drop (i + 1)) := by
  obtain ⟨hi, he⟩ := List.getElem?_eq_some_iff.1 h
  rw [List.drop_eq_getElem_cons hi, he]
  rfl
theorem flatB_size (l : List ByteArray) (k : Nat) (h : ∀ p ∈ l, p.size ≤ k) : (flatB l).size ≤ l.length * k := by
  induction l with
  | nil => simp [flatB]
  | cons x l ih =>
    have h1 := h x (by simp)
    have h2 := ih (fun p hp => h p (by simp [hp]))
    show (x ++ flatB l).size ≤ _
    rw [ByteArray.size_append, List.length_cons, Nat.succ_mul]
    omega
theorem textS_size (s : ByteArray) (h : s.size ≤ 300) : (textS s).size ≤ 310 := by
  unfold textS; rw [ByteArray.size_append, strN_size]; have := numB_len 7 s.size (by rw [pow8]; omega); omega
theorem num_size (n : Nat) (h : n < 4294967296) : (strN (numB n)).size ≤ 8 := by rw [strN_size]; exact numB_len 7 n (by rw [pow8]; omega)

/-- The first of these texts are not long. -/
def Few (ss : List ByteArray) (k : Nat) : Prop := ∀ j s, j < k → ss[j]? = some s → s.size ≤ 60
theorem Few.step {ss : List ByteArray} {k : Nat} (h : Few ss k) {s : ByteArray} (hs : ss[k]? = some s) (hz : s.size ≤ 60) : Few ss (k + 1) := by
  intro j t hj ht
  by_cases e : j = k
  · subst e; rw [hs] at ht; cases ht; exact hz
  · exact h j t (by omega) ht
theorem Few.past {ss : List ByteArray} {k : Nat} (h : Few ss k) (hk : ss.length ≤ k) : Few ss (k + 1) := by
  intro j t hj ht
  have := (List.getElem?_eq_some_iff.1 ht).1
  exact h j t (by omega) ht

end Go.Proofs.YtjincmagbbpooaaGreatDoor
