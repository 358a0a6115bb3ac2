import Derived.Test.YtjincmagbbpooaaGreatDoorJC
import Derived.Test.YtjincmagbbpooaaGreatDoorSRT
set_option linter.unusedVariables false
set_option linter.unusedSimpArgs false
namespace Go.Proofs.YtjincmagbbpooaaGreatDoor
open Go.RowKit

theorem dropWhile_nil {α : Type} (f : α → Bool) : ∀ l : List α, l.dropWhile f = [] ↔ l.all f = true
  | [] => ⟨fun _ => rfl, fun _ => rfl⟩
  | a :: l => by
    have := dropWhile_nil f l
    cases h : f a
    · simp [h]
    · rw [List.dropWhile_cons_of_pos h, List.all_cons, h, Bool.true_and]; exact this
theorem dropWhile_head {α : Type} (f : α → Bool) : ∀ l : List α, ∀ a r, l.dropWhile f = a :: r → f a = false
  | [], a, r, h => by cases h
  | b :: l, a, r, h => by
    cases hb : f b
    · rw [List.dropWhile_cons_of_neg (by rw [hb]; decide)] at h
      cases h
      exact hb
    · rw [List.dropWhile_cons_of_pos hb] at h
      exact dropWhile_head f l a r h
theorem trim_nil (l : List UInt8) (c : UInt8) : Lib.trimB l c = [] ↔ l.all (· == c) = true := by
  unfold Lib.trimB Lib.trimLeftB Lib.trimRightB
  rw [dropWhile_nil]
  constructor
  · intro h
    rw [List.all_reverse] at h
    cases hd : l.reverse.dropWhile (· == c) with
    | nil =>
      have := (dropWhile_nil _ _).1 hd
      rw [List.all_reverse] at this
      exact this
    | cons a r =>
      have h1 := dropWhile_head _ _ _ _ hd
      rw [hd, List.all_cons, h1] at h
      cases h
  · intro h
    have : l.reverse.dropWhile (· == c) = [] := (dropWhile_nil _ _).2 (by rw [List.all_reverse]; exact h)
    rw [this]
    rfl
theorem trim_zeros (r : ByteArray) : ((⟨(Lib.trimB r.data.toList 0).toArray⟩ : ByteArray).toList == []) = zerosB r := by
  rw [ByteArray.toList_eq]
  show ((Lib.trimB r.data.toList 0) == []) = zerosB r
  unfold zerosB
  rw [Bool.eq_iff_iff, beq_iff_eq]
  exact trim_nil _ _

theorem openR_sizes (s : ByteArray) (seq : Int) : (openR s seq).1.size ≤ s.size ∧ (openR s seq).2.1.size ≤ s.size := by
  have h0 : (ByteArray.empty).size = 0 := rfl
  have h1 := textR_sizes s 2020
  unfold openR
  generalize textR s 2020 = r at h1 ⊢
  by_cases q1 : r.2.2 ≠ 0
  · rw [if_pos q1]; exact ⟨by simp only [h0]; omega, Nat.le_refl _⟩
  rw [if_neg q1]
  by_cases q2 : r.2.1.size < 4
  · rw [if_pos q2]; exact ⟨by simp only [h0]; omega, Nat.le_refl _⟩
  rw [if_neg q2]
  by_cases q3 : sumB (takeB s (s.size - r.2.1.size)) ≠ takeB r.2.1 4
  · rw [if_pos q3]; exact ⟨by simp only [h0]; omega, Nat.le_refl _⟩
  rw [if_neg q3]
  by_cases q4 : (numS r.1).2.2 ≠ 0
  · rw [if_pos q4]; exact ⟨by simp only [h0]; omega, Nat.le_refl _⟩
  rw [if_neg q4]
  by_cases q5 : ((numS r.1).1 : Int) ≠ seq
  · rw [if_pos q5]; exact ⟨by simp only [h0]; omega, Nat.le_refl _⟩
  rw [if_neg q5]
  simp only [dropB_size]
  omega
theorem ErrVar.below' {w w' : World} (h : ErrVar w) (hb : Below w.heap.size w w') : ErrVar w' := ErrVar.below h hb

set_option maxHeartbeats 16000000 in
set_option maxRecDepth 100000 in
theorem read_any (b : ByteArray) (hb : b.size ≤ 1000000) (w : World) (hg : ErrVar w) :
    Calls Tryz.prog 73 #[.string b] w fun e w' => e = .returned (.tuple #[.int .i64 ((readB b).1 : Int), .int .i64 ((readB b).2 : Int)]) ∧ Below w.heap.size w w' := by
  have HG := Lib.hid hg
  have c1 := Lib.hid (TakeText_any b 64 (by omega) w hg)
  unfold TextPost at c1
  have hz1 := (textR_sizes b 64).1
  unfold readB
  generalize (textR b 64).1 = t at c1 hz1 ⊢
  generalize (textR b 64).2.1 = r1 at c1
  generalize (textR b 64).2.2 = e1 at c1 ⊢
  have c2 := Lib.hid (fun W => Take_any t (by omega) W)
  unfold TakePost at c2
  generalize dropB t (numS t).2.1 = r2 at c2
  generalize (numS t).1 = turn at c2 ⊢
  generalize (numS t).2.2 = e2 at c2 ⊢
  by_cases he1 : e1 ≠ 0
  · rw [if_pos (.inl he1)]
    rw [errV_ne he1] at c1
    clear he1 hg hz1 hb
    by_cases he2 : e2 = 0
    · subst he2
      rw [errV_zero] at c2
      go_enter Tryz.func73, Tryz.ntmps73
      go_wp2_with (first
        | (go_at_call 75; (with_reducible refine c1.out.mono ?_); rintro e w1 ⟨rfl, hb⟩; have HB1 := Lib.hid hb; clear hb)
        | (go_at_call 77; (with_reducible refine (c2.out _).mono ?_); rintro e w2 ⟨rfl, m, hm⟩; have hb : Below w1.heap.size w1 w2 := (by rw [hm]; exact below_drewN _ _); have HB2 := Lib.hid (below_step HB1.out hb); clear hb hm))
      go_ret2
      exact ⟨rfl, HB2.out⟩
    · rw [errV_ne he2] at c2
      clear he2
      go_enter Tryz.func73, Tryz.ntmps73
      go_wp2_with (first
        | (go_at_call 75; (with_reducible refine c1.out.mono ?_); rintro e w1 ⟨rfl, hb⟩; have HB1 := Lib.hid hb; clear hb)
        | (go_at_call 77; (with_reducible refine (c2.out _).mono ?_); rintro e w2 ⟨rfl, m, hm⟩; have hb : Below w1.heap.size w1 w2 := (by rw [hm]; exact below_drewN _ _); have HB2 := Lib.hid (below_step HB1.out hb); clear hb hm))
      go_ret2
      exact ⟨rfl, HB2.out⟩
  obtain rfl : e1 = 0 := Classical.byContradiction he1
  rw [errV_zero] at c1
  by_cases he2 : e2 ≠ 0
  · rw [if_pos (.inr he2)]
    rw [errV_ne he2] at c2
    clear he2 hg hz1 hb
    go_enter Tryz.func73, Tryz.ntmps73
    go_wp2_with (first
      | (go_at_call 75; (with_reducible refine c1.out.mono ?_); rintro e w1 ⟨rfl, hb⟩; have HB1 := Lib.hid hb; clear hb)
      | (go_at_call 77; (with_reducible refine (c2.out _).mono ?_); rintro e w2 ⟨rfl, m, hm⟩; have hb : Below w1.heap.size w1 w2 := (by rw [hm]; exact below_drewN _ _); have HB2 := Lib.hid (below_step HB1.out hb); clear hb hm))
    go_ret2
    exact ⟨rfl, HB2.out⟩
  obtain rfl : e2 = 0 := Classical.byContradiction he2
  rw [errV_zero] at c2
  rw [if_neg (by simp)]
  have c3 := Lib.hid (fun W hG => Open_any b (turn : Int) hb W hG)
  unfold OpenPost at c3
  have hz3 := (openR_sizes b (turn : Int)).1
  have hz3' := (openR_sizes b (turn : Int)).2
  generalize (openR b (turn : Int)).1 = s at c3 hz3 ⊢
  generalize (openR b (turn : Int)).2.1 = r3 at c3 hz3' ⊢
  generalize (openR b (turn : Int)).2.2 = e3 at c3 ⊢
  have c4 := Lib.hid (fun W => Take_any s (by omega) W)
  unfold TakePost at c4
  generalize dropB s (numS s).2.1 = more at c4 ⊢
  generalize (numS s).1 = which at c4 ⊢
  generalize (numS s).2.2 = e4 at c4 ⊢
  have c5 := Lib.hid (fun W => Tryz.strings_Trim_one r3 0 (by decide) W (by omega))
  have htz := trim_zeros r3
  generalize (⟨(Lib.trimB r3.data.toList 0).toArray⟩ : ByteArray) = tz at c5 htz
  generalize zerosB r3 = z at htz ⊢
  by_cases he3 : e3 ≠ 0
  · rw [if_pos (.inl he3)]
    rw [errV_ne he3] at c3
    clear he3 hg hz1 hb hz3 hz3' htz
    by_cases he4 : e4 = 0
    · subst he4
      rw [errV_zero] at c4
      go_enter Tryz.func73, Tryz.ntmps73
      go_wp2_with (first
        | (go_at_call 75; (with_reducible refine c1.out.mono ?_); rintro e w1 ⟨rfl, hb⟩; have HB1 := Lib.hid hb; clear hb)
        | (go_at_call 77; (with_reducible refine (c2.out _).mono ?_); rintro e w2 ⟨rfl, m, hm⟩; have hb : Below w1.heap.size w1 w2 := (by rw [hm]; exact below_drewN _ _); have HB2 := Lib.hid (below_step HB1.out hb); clear hb hm)
        | (go_at_call 42; (with_reducible refine (c3.out _ (ErrVar.below HG.out HB2.out)).mono ?_); rintro e w3 ⟨rfl, hb⟩; have HB3 := Lib.hid (below_step HB2.out hb); clear hb)
        | (go_at_call 77; (with_reducible refine (c4.out _).mono ?_); rintro e w4 ⟨rfl, m, hm⟩; have hb : Below w3.heap.size w3 w4 := (by rw [hm]; exact below_drewN _ _); have HB4 := Lib.hid (below_step HB3.out hb); clear hb hm))
      go_ret2
      exact ⟨rfl, HB4.out⟩
    · rw [errV_ne he4] at c4
      clear he4
      go_enter Tryz.func73, Tryz.ntmps73
      go_wp2_with (first
        | (go_at_call 75; (with_reducible refine c1.out.mono ?_); rintro e w1 ⟨rfl, hb⟩; have HB1 := Lib.hid hb; clear hb)
        | (go_at_call 77; (with_reducible refine (c2.out _).mono ?_); rintro e w2 ⟨rfl, m, hm⟩; have hb : Below w1.heap.size w1 w2 := (by rw [hm]; exact below_drewN _ _); have HB2 := Lib.hid (below_step HB1.out hb); clear hb hm)
        | (go_at_call 42; (with_reducible refine (c3.out _ (ErrVar.below HG.out HB2.out)).mono ?_); rintro e w3 ⟨rfl, hb⟩; have HB3 := Lib.hid (below_step HB2.out hb); clear hb)
        | (go_at_call 77; (with_reducible refine (c4.out _).mono ?_); rintro e w4 ⟨rfl, m, hm⟩; have hb : Below w3.heap.size w3 w4 := (by rw [hm]; exact below_drewN _ _); have HB4 := Lib.hid (below_step HB3.out hb); clear hb hm))
      go_ret2
      exact ⟨rfl, HB4.out⟩
  obtain rfl : e3 = 0 := Classical.byContradiction he3
  rw [errV_zero] at c3
  by_cases he4 : e4 ≠ 0
  · rw [if_pos (.inr (.inl he4))]
    rw [errV_ne he4] at c4
    clear he4 hg hz1 hb hz3 hz3' htz
    go_enter Tryz.func73, Tryz.ntmps73
    go_wp2_with (first
      | (go_at_call 75; (with_reducible refine c1.out.mono ?_); rintro e w1 ⟨rfl, hb⟩; have HB1 := Lib.hid hb; clear hb)
      | (go_at_call 77; (with_reducible refine (c2.out _).mono ?_); rintro e w2 ⟨rfl, m, hm⟩; have hb : Below w1.heap.size w1 w2 := (by rw [hm]; exact below_drewN _ _); have HB2 := Lib.hid (below_step HB1.out hb); clear hb hm)
      | (go_at_call 42; (with_reducible refine (c3.out _ (ErrVar.below HG.out HB2.out)).mono ?_); rintro e w3 ⟨rfl, hb⟩; have HB3 := Lib.hid (below_step HB2.out hb); clear hb)
      | (go_at_call 77; (with_reducible refine (c4.out _).mono ?_); rintro e w4 ⟨rfl, m, hm⟩; have hb : Below w3.heap.size w3 w4 := (by rw [hm]; exact below_drewN _ _); have HB4 := Lib.hid (below_step HB3.out hb); clear hb hm))
    go_ret2
    exact ⟨rfl, HB4.out⟩
  obtain rfl : e4 = 0 := Classical.byContradiction he4
  rw [errV_zero] at c4
  obtain ⟨mb, hmb⟩ : ∃ mb, (more.toList == []) = mb := ⟨_, rfl⟩
  have hmb2 : more.toList.isEmpty = mb := by rw [← hmb]; cases more.toList <;> rfl
  have hmz : more = ⟨#[]⟩ ↔ mb = true := by
    rw [← hmb, beq_iff_eq]
    exact ⟨fun h => by rw [h]; rw [ByteArray.toList_eq], fun h => list_inj (h.trans (by rw [ByteArray.toList_eq]))⟩
  have htz2 : tz.toList.isEmpty = z := by rw [← htz]; cases tz.toList <;> rfl
  clear hg hz1 hb hz3 hz3'
  cases mb
  · rw [if_pos (.inr (.inr (.inl (fun h => by have := hmz.1 h; cases this))))]
    clear hmz htz htz2
    go_enter Tryz.func73, Tryz.ntmps73
    go_wp2_with (first
      | (go_at_call 75; (with_reducible refine c1.out.mono ?_); rintro e w1 ⟨rfl, hb⟩; have HB1 := Lib.hid hb; clear hb)
      | (go_at_call 77; (with_reducible refine (c2.out _).mono ?_); rintro e w2 ⟨rfl, m, hm⟩; have hb : Below w1.heap.size w1 w2 := (by rw [hm]; exact below_drewN _ _); have HB2 := Lib.hid (below_step HB1.out hb); clear hb hm)
      | (go_at_call 42; (with_reducible refine (c3.out _ (ErrVar.below HG.out HB2.out)).mono ?_); rintro e w3 ⟨rfl, hb⟩; have HB3 := Lib.hid (below_step HB2.out hb); clear hb)
      | (go_at_call 77; (with_reducible refine (c4.out _).mono ?_); rintro e w4 ⟨rfl, m, hm⟩; have hb : Below w3.heap.size w3 w4 := (by rw [hm]; exact below_drewN _ _); have HB4 := Lib.hid (below_step HB3.out hb); clear hb hm))
    go_ret2
    exact ⟨rfl, HB4.out⟩
  have hm := hmz.2 rfl
  clear hmz hmb hmb2
  subst hm
  have hx : ((⟨#[]⟩ : ByteArray).toList == []) = true := by rw [ByteArray.toList_eq]; rfl
  by_cases hw : 1 < which
  · rw [if_pos (.inr (.inr (.inr (.inl hw))))]
    have t1 : (1 : Int) < (which : Int) := by omega
    clear hw htz htz2
    go_enter Tryz.func73, Tryz.ntmps73
    go_wp2_with (first
      | (go_at_call 75; (with_reducible refine c1.out.mono ?_); rintro e w1 ⟨rfl, hb⟩; have HB1 := Lib.hid hb; clear hb)
      | (go_at_call 77; (with_reducible refine (c2.out _).mono ?_); rintro e w2 ⟨rfl, m, hm⟩; have hb : Below w1.heap.size w1 w2 := (by rw [hm]; exact below_drewN _ _); have HB2 := Lib.hid (below_step HB1.out hb); clear hb hm)
      | (go_at_call 42; (with_reducible refine (c3.out _ (ErrVar.below HG.out HB2.out)).mono ?_); rintro e w3 ⟨rfl, hb⟩; have HB3 := Lib.hid (below_step HB2.out hb); clear hb)
      | (go_at_call 77; (with_reducible refine (c4.out _).mono ?_); rintro e w4 ⟨rfl, m, hm⟩; have hb : Below w3.heap.size w3 w4 := (by rw [hm]; exact below_drewN _ _); have HB4 := Lib.hid (below_step HB3.out hb); clear hb hm))
    go_ret2
    exact ⟨rfl, HB4.out⟩
  have t1 : (which : Int) ≤ 1 := by omega
  cases z
  · rw [if_pos (.inr (.inr (.inr (.inr rfl))))]
    clear hw
    go_enter Tryz.func73, Tryz.ntmps73
    go_wp2_with (first
      | (go_at_call 75; (with_reducible refine c1.out.mono ?_); rintro e w1 ⟨rfl, hb⟩; have HB1 := Lib.hid hb; clear hb)
      | (go_at_call 77; (with_reducible refine (c2.out _).mono ?_); rintro e w2 ⟨rfl, m, hm⟩; have hb : Below w1.heap.size w1 w2 := (by rw [hm]; exact below_drewN _ _); have HB2 := Lib.hid (below_step HB1.out hb); clear hb hm)
      | (go_at_call 42; (with_reducible refine (c3.out _ (ErrVar.below HG.out HB2.out)).mono ?_); rintro e w3 ⟨rfl, hb⟩; have HB3 := Lib.hid (below_step HB2.out hb); clear hb)
      | (go_at_call 77; (with_reducible refine (c4.out _).mono ?_); rintro e w4 ⟨rfl, m, hm⟩; have hb : Below w3.heap.size w3 w4 := (by rw [hm]; exact below_drewN _ _); have HB4 := Lib.hid (below_step HB3.out hb); clear hb hm)
      | (go_at_call 96; (refine (c5.out _).mono ?_); rintro e w5 ⟨rfl, hw5⟩; have hb : Below w4.heap.size w4 w5 := (by rcases hw5 with rfl | rfl; exact Below.refl _ _; exact (Below.refl _ _).drew); have HB5 := Lib.hid (below_step HB4.out hb); clear hb hw5))
    go_ret2
    exact ⟨rfl, HB5.out⟩
  · rw [if_neg (by simp; omega)]
    clear hw
    go_enter Tryz.func73, Tryz.ntmps73
    go_wp2_with (first
      | (go_at_call 75; (with_reducible refine c1.out.mono ?_); rintro e w1 ⟨rfl, hb⟩; have HB1 := Lib.hid hb; clear hb)
      | (go_at_call 77; (with_reducible refine (c2.out _).mono ?_); rintro e w2 ⟨rfl, m, hm⟩; have hb : Below w1.heap.size w1 w2 := (by rw [hm]; exact below_drewN _ _); have HB2 := Lib.hid (below_step HB1.out hb); clear hb hm)
      | (go_at_call 42; (with_reducible refine (c3.out _ (ErrVar.below HG.out HB2.out)).mono ?_); rintro e w3 ⟨rfl, hb⟩; have HB3 := Lib.hid (below_step HB2.out hb); clear hb)
      | (go_at_call 77; (with_reducible refine (c4.out _).mono ?_); rintro e w4 ⟨rfl, m, hm⟩; have hb : Below w3.heap.size w3 w4 := (by rw [hm]; exact below_drewN _ _); have HB4 := Lib.hid (below_step HB3.out hb); clear hb hm)
      | (go_at_call 96; (refine (c5.out _).mono ?_); rintro e w5 ⟨rfl, hw5⟩; have hb : Below w4.heap.size w4 w5 := (by rcases hw5 with rfl | rfl; exact Below.refl _ _; exact (Below.refl _ _).drew); have HB5 := Lib.hid (below_step HB4.out hb); clear hb hw5))
    go_ret2
    exact ⟨rfl, HB5.out⟩
end Go.Proofs.YtjincmagbbpooaaGreatDoor
