import Derived.Test.YtjincmagbbpooaaGreatDoorP2
set_option linter.unusedVariables false
set_option linter.unusedSimpArgs false
namespace Go.Proofs.YtjincmagbbpooaaGreatDoor
open Go.RowKit

theorem errV_ne {c : Int} (h : c ≠ 0) : errV c = .iface 34 (.int .i64 c) := by unfold errV; rw [if_neg h]
theorem errV_zero : errV 0 = .nilIface := rfl

/-! ### pack.TakeText -/
def textR (s : ByteArray) (most : Int) : ByteArray × ByteArray × Int :=
  if (numS s).2.2 ≠ 0 then (ByteArray.empty, s, (numS s).2.2)
  else if most < ((numS s).1 : Int) then (ByteArray.empty, s, 13)
  else if (dropB s (numS s).2.1).size < (numS s).1 then (ByteArray.empty, s, 11)
  else (takeB (dropB s (numS s).2.1) (numS s).1, dropB (dropB s (numS s).2.1) (numS s).1, 0)

def TextPost (r : ByteArray × ByteArray × Int) (w : World) (e : Ending) (w' : World) : Prop := e = .returned (.tuple #[.string r.1, .string r.2.1, errV r.2.2]) ∧ Below w.heap.size w w'

theorem numF_val (s : ByteArray) : ∀ (f i n a : Nat), n < a → (numF s f i n a).1 < a * 128 ^ f
  | 0, _, _, _, h => by show 0 < _; simp; omega
  | f + 1, i, n, a, h => by
    have hp : 0 < a * 128 ^ (f + 1) := Nat.mul_pos (by omega) (Nat.pow_pos (by decide))
    unfold numF
    split
    · exact hp
    · split
      · exact hp
      · split
        · show n + bt s i % 128 * a < _
          have h1 : bt s i % 128 * a ≤ 127 * a := Nat.mul_le_mul_right _ (by omega)
          have h2 : a * 128 ≤ a * 128 ^ (f + 1) := Nat.mul_le_mul_left _ (by rw [Nat.pow_succ]; exact Nat.le_mul_of_pos_left _ (Nat.pow_pos (by decide)))
          omega
        · have h1 : bt s i % 128 * a ≤ 127 * a := Nat.mul_le_mul_right _ (by omega)
          have := numF_val s f (i + 1) (n + bt s i % 128 * a) (a * 128) (by omega)
          rw [Nat.pow_succ, Nat.mul_comm (128 ^ f) 128, ← Nat.mul_assoc]
          exact this
theorem numS_val (s : ByteArray) : (numS s).1 < 72057594037927936 := by
  have := numF_val s 8 0 0 1 (by omega)
  exact this

theorem extract_size (s : ByteArray) (a b : Nat) (h : b ≤ s.size) (hab : a ≤ b) : (s.extract a b).size = b - a := by
  rw [ByteArray.size_extract]; omega
theorem dropB_size (s : ByteArray) (k : Nat) : (dropB s k).size = s.size - k := by unfold dropB; rw [ByteArray.size_extract]; omega

set_option maxHeartbeats 8000000 in
set_option maxRecDepth 100000 in
theorem TakeText_any (s : ByteArray) (most : Int) (hs : s.size ≤ 9223372036854775807) (w : World) (hg : ErrVar w) : Calls Tryz.prog 75 #[.string s, .int .i64 most] w (TextPost (textR s most) w) := by
  have hc := Lib.hid (Take_any s hs w)
  have hle := numS_le s
  have hval := numS_val s
  unfold textR
  unfold TakePost at hc
  generalize hr : numS s = r at hc hle hval ⊢
  obtain ⟨n, k, c⟩ := r
  simp only at hle hval hc ⊢
  clear hr
  obtain ⟨rest, hrest⟩ : ∃ x, x = dropB s k := ⟨_, rfl⟩
  have hrs : rest.size ≤ 9223372036854775807 := by rw [hrest, dropB_size]; omega
  rw [← hrest] at hc ⊢
  clear hrest
  by_cases h0 : c = 0
  · subst h0
    rw [if_neg (by simp)]
    have e0 := errV_zero
    by_cases h1 : most < (n : Int)
    · rw [if_pos h1]
      have t1 : decide (most < (n : Int)) = true := decide_eq_true h1
      clear h1
      go_enter Tryz.func75, Tryz.ntmps75
      go_wp2_with (first
        | (go_at_call 77; refine hc.out.mono ?_; rintro e w1 ⟨rfl, m, rfl⟩; simp only [errV_zero])
        | (go_at_call 57; refine (as_nil _ _).mono ?_; rintro e w1 ⟨rfl, rfl⟩))
      go_ret3
      exact ⟨rfl, (below_drewN w m).alloc (Nat.le_refl _) _⟩
    · rw [if_neg h1]
      have t1 : decide (most < (n : Int)) = false := decide_eq_false h1
      clear h1
      by_cases h2 : rest.size < n
      · rw [if_pos h2]
        have t2 : decide ((rest.size : Int) < (n : Int)) = true := decide_eq_true (by omega)
        have t3 : decide (rest.size < n) = true := decide_eq_true h2
        clear h2
        go_enter Tryz.func75, Tryz.ntmps75
        go_wp2_with (first
          | (go_at_call 77; refine hc.out.mono ?_; rintro e w1 ⟨rfl, m, rfl⟩; simp only [errV_zero])
          | (go_at_call 57; refine (as_nil _ _).mono ?_; rintro e w1 ⟨rfl, rfl⟩))
        go_ret3
        exact ⟨rfl, (below_drewN w m).alloc (Nat.le_refl _) _⟩
      · rw [if_neg h2]
        have t2 : decide ((rest.size : Int) < (n : Int)) = false := decide_eq_false (by omega)
        have t3 : decide (rest.size < n) = false := decide_eq_false h2
        have q0 : (0 : Int) ≤ (n : Int) := by omega
        have q1 : (n : Int) ≤ (rest.size : Int) := by omega
        clear h2
        go_enter Tryz.func75, Tryz.ntmps75
        go_wp2_with (first
          | (go_at_call 77; refine hc.out.mono ?_; rintro e w1 ⟨rfl, m, rfl⟩; simp only [errV_zero])
          | (go_at_call 57; refine (as_nil _ _).mono ?_; rintro e w1 ⟨rfl, rfl⟩))
        go_quiet (fail)
        go_wp2
        go_ret3
        exact ⟨rfl, ((below_drewN w m).alloc (Nat.le_refl _) _).trans (below_drewN _ _)⟩
  · rw [if_pos h0]
    have he := errV_ne h0
    have hg1 : ∀ m, ErrVar ((w.drewN m).alloc (.cells #[.int .i64 0] 34)) := fun m => ErrVar.below (w := w) hg ((below_drewN w m).alloc (Nat.le_refl _) _)
    replace hg1 := Lib.hid hg1
    rw [he] at hc
    have HE := Lib.hid he
    clear he h0
    go_enter Tryz.func75, Tryz.ntmps75
    go_wp2_with ((go_at_call 77; refine hc.out.mono ?_; rintro e w1 ⟨rfl, m, rfl⟩; simp only))
    go_at_call 57
    refine (as_hit ⟨w.heap.size, 0, none⟩ c (.int .i64 0) _ (hg1.out m) (new_cell (w.drewN m) _ _ 0) (new_frozen (w.drewN m) _ _ 0)).mono ?_
    rintro e w2 ⟨rfl, w1, hb, rfl, ⟨old, ho⟩, hl⟩
    have hcell : (w1.setCell ⟨w.heap.size, 0, none⟩ (.int .i64 c)).cell? ⟨w.heap.size, 0, none⟩ = some (.int .i64 c) := World.cell?_setCell_same' _ _ _ (by rw [ho]; rfl)
    have hb1 := Lib.hid hb
    clear hb ho
    go_wp2
    go_quiet (fail)
    go_wp2
    go_ret3
    refine ⟨by simp only []; rw [HE.out]; rfl, ?_⟩
    exact ((((below_drewN w m).alloc (Nat.le_refl _) _).trans (hb1.out.mono (by simp))).setCell (Nat.le_refl _) _).trans (below_drewN _ _)
end Go.Proofs.YtjincmagbbpooaaGreatDoor
