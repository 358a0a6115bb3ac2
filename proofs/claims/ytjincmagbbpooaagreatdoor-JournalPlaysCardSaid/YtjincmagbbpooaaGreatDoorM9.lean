import Derived.Test.YtjincmagbbpooaaGreatDoorM8

section
set_option linter.unusedVariables false
set_option linter.unusedSimpArgs false
namespace Go.Proofs.YtjincmagbbpooaaGreatDoor
open Go.RowKit

theorem sumB_size (s : ByteArray) : (sumB s).size = 4 := by unfold sumB; rw [strN_size]; rfl
def wrapS (k : Nat) (s : ByteArray) : ByteArray := textS (strN (numB k) ++ s) ++ sumB (textS (strN (numB k) ++ s))
theorem textS_size2 (s : ByteArray) (h : s.size ≤ 100000) : (textS s).size ≤ s.size + 8 ∧ s.size < (textS s).size := by
  unfold textS; rw [ByteArray.size_append, strN_size]
  have := numB_len 7 s.size (by rw [pow8]; omega)
  have := List.length_pos_iff.2 (numB_ne s.size)
  omega
set_option maxHeartbeats 8000000 in
set_option maxRecDepth 100000 in
theorem Wrap_any (k : Nat) (s : ByteArray) (hk : k < 4294967296) (hs : s.size ≤ 1000) (w : World) : Calls Tryz.prog 80 #[.int .i64 (k : Int), .string s] w fun e w' => e = .returned (.string (wrapS k s)) ∧ Below w.heap.size w w' := by
  have cn := Num_any (k : Int) k (by unfold mxI; rw [if_neg (by omega)]) (by omega)
  have zn := num_size k hk
  unfold wrapS
  generalize strN (numB k) = s1 at *
  have ct := Text_any (s1 ++ s) (by rw [ByteArray.size_append]; omega)
  have zt := textS_size2 (s1 ++ s) (by rw [ByteArray.size_append]; omega)
  rw [ByteArray.size_append] at zt
  generalize textS (s1 ++ s) = s2 at *
  have cs := sum_any s2 (by omega)
  have zs := sumB_size s2
  generalize sumB s2 = s3 at *
  have h1 : s1.size + s.size ≤ 9223372036854775807 := by omega
  have h2 : s2.size + s3.size ≤ 9223372036854775807 := by omega
  replace cn := Lib.hid cn
  replace ct := Lib.hid ct
  replace cs := Lib.hid cs
  have HB := Lib.hid (Below.refl w.heap.size w)
  go_enter Tryz.func80, Tryz.ntmps80
  go_wp2_with (first
    | (go_at_call 81; with_reducible refine (cn.out _).mono ?_; rintro e w1 ⟨rfl, hb⟩; replace HB := Lib.hid (below_step HB.out hb); clear hb)
    | (go_at_call 100; with_reducible refine (ct.out _).mono ?_; rintro e w1 ⟨rfl, hb⟩; replace HB := Lib.hid (below_step HB.out hb); clear hb)
    | (go_at_call 76; with_reducible refine (cs.out _).mono ?_; rintro e w1 ⟨rfl, hb⟩; replace HB := Lib.hid (below_step HB.out hb); clear hb))
  go_ret
  exact ⟨rfl, HB.out⟩

/-! ### frame.Open -/
def openR (s : ByteArray) (seq : Int) : ByteArray × ByteArray × Int :=
  if (textR s 2020).2.2 ≠ 0 then (ByteArray.empty, s, (textR s 2020).2.2)
  else if (textR s 2020).2.1.size < 4 then (ByteArray.empty, s, 11)
  else if sumB (takeB s (s.size - (textR s 2020).2.1.size)) ≠ takeB (textR s 2020).2.1 4 then (ByteArray.empty, s, 12)
  else if (numS (textR s 2020).1).2.2 ≠ 0 then (ByteArray.empty, s, (numS (textR s 2020).1).2.2)
  else if ((numS (textR s 2020).1).1 : Int) ≠ seq then (ByteArray.empty, s, 10)
  else (dropB (textR s 2020).1 (numS (textR s 2020).1).2.1, dropB (textR s 2020).2.1 4, 0)
theorem numF_codes (s : ByteArray) : ∀ (f i n a : Nat), (numF s f i n a).2.2 = 0 ∨ (numF s f i n a).2.2 = 10 ∨ (numF s f i n a).2.2 = 11
  | 0, _, _, _ => .inr (.inl rfl)
  | f + 1, i, n, a => by
    unfold numF
    split
    · exact .inr (.inr rfl)
    · split
      · exact .inr (.inl rfl)
      · split
        · exact .inl rfl
        · exact numF_codes s f _ _ _
theorem textR_sizes (s : ByteArray) (m : Int) : (textR s m).1.size ≤ s.size ∧ (textR s m).2.1.size ≤ s.size := by
  have h0 : (ByteArray.empty).size = 0 := rfl
  unfold textR
  split
  · exact ⟨by rw [h0]; omega, Nat.le_refl _⟩
  · split
    · exact ⟨by rw [h0]; omega, Nat.le_refl _⟩
    · split
      · exact ⟨by rw [h0]; omega, Nat.le_refl _⟩
      · rename_i h1 h2 h3
        rw [takeB_size _ _ (by omega), dropB_size, dropB_size] 
        rw [dropB_size] at h3
        omega
theorem below_drew {B : Nat} (w : World) : Below B w w.drew := ⟨rfl, rfl, rfl, Nat.le_refl _, fun _ _ => rfl⟩
def OpenPost (r : ByteArray × ByteArray × Int) (w : World) (e : Ending) (w' : World) : Prop := e = .returned (.tuple #[.string r.1, .string r.2.1, errV r.2.2]) ∧ Below w.heap.size w w'

set_option maxHeartbeats 8000000 in
set_option maxRecDepth 100000 in
theorem Open_any (s : ByteArray) (seq : Int) (hs : s.size ≤ 1000000) (w : World) (hg : ErrVar w) : Calls Tryz.prog 42 #[.string s, .int .i64 seq] w (OpenPost (openR s seq) w) := by
  have cT := TakeText_any s 2020 (by omega) w hg
  have hz := textR_sizes s 2020
  unfold openR
  unfold TextPost at cT
  generalize textR s 2020 = r at *
  obtain ⟨t, rest, c⟩ := r
  simp only at cT hz ⊢
  replace cT := Lib.hid cT
  clear hg
  by_cases h0 : c = 0
  · subst h0
    rw [errV_zero] at cT
    rw [if_neg (by simp)]
    by_cases h1 : rest.size < 4
    · rw [if_pos h1]
      have t1 : decide ((rest.size : Int) < 4) = true := decide_eq_true (by omega)
      have t1' : decide (rest.size < 4) = true := decide_eq_true h1
      clear h1
      go_enter Tryz.func42, Tryz.ntmps42
      go_wp2_with ((go_at_call 75; with_reducible refine cT.out.mono ?_; rintro e w1 ⟨rfl, hb⟩; have HB := Lib.hid hb; clear hb))
      go_quiet (fail)
      go_wp2
      go_ret3
      exact ⟨rfl, HB.out.trans (below_drewN _ _)⟩
    · rw [if_neg h1]
      have t1 : decide ((rest.size : Int) < 4) = false := decide_eq_false (by omega)
      have t1' : decide (rest.size < 4) = false := decide_eq_false h1
      have q0 : (4 : Int) ≤ (rest.size : Int) := by omega
      obtain ⟨p, hp⟩ : ∃ p, p = s.size - rest.size := ⟨_, rfl⟩
      have hp1 : (s.size : Int) - (rest.size : Int) = (p : Int) := by omega
      have hp2 : IntKind.i64.wrap ((s.size : Int) - (rest.size : Int)) = (p : Int) := by rw [hp1, IntKind.wrap_i64]; omega
      have hp3 : wrap64 ((s.size : Int) - (rest.size : Int)) = (p : Int) := by unfold wrap64; omega
      have q1 : (0 : Int) ≤ (p : Int) := by omega
      have q2 : (p : Int) ≤ (s.size : Int) := by omega
      rw [← hp]
      have hps : p ≤ s.size := by omega
      clear h1 hp hp1 hp3
      have cS := Lib.hid (sum_any (takeB s p) (by rw [takeB_size _ _ hps]; omega))
      unfold takeB at cS ⊢
      generalize sumB (s.extract 0 p) = s3 at *
      have cK := Take_any t (by omega)
      unfold TakePost at cK
      have hcodes := numF_codes t 8 0 0 1
      change (numS t).2.2 = 0 ∨ (numS t).2.2 = 10 ∨ (numS t).2.2 = 11 at hcodes
      generalize numS t = r at *
      obtain ⟨n, k, c⟩ := r
      simp only at cK hcodes ⊢
      replace cK := Lib.hid cK
      generalize dropB t k = inner at *
      by_cases h2 : s3 = rest.extract 0 4
      · rw [if_neg (by simpa using h2)]
        have t2 : (s3.toList == (rest.extract 0 4).toList) = true := by rw [h2]; exact beq_self_eq_true _
        have t2' : (s3.toList != (rest.extract 0 4).toList) = false := by rw [bne, t2]; rfl
        replace h2 := Lib.hid h2
        rcases hcodes with rfl | rfl | rfl
        · rw [if_neg (by simp)]
          by_cases h3 : (n : Int) = seq
          · rw [if_neg (by simpa using h3)]
            have t3 : ((n : Int) == seq) = true := beq_iff_eq.2 h3
            have t3' : ((n : Int) != seq) = false := by rw [bne, t3]; rfl
            replace h3 := Lib.hid h3
            unfold dropB
            go_enter Tryz.func42, Tryz.ntmps42
            go_wp2_with ((go_at_call 75; with_reducible refine cT.out.mono ?_; rintro e w1 ⟨rfl, hb⟩; have HB := Lib.hid hb; clear hb))
            go_region_held3 (fun w' => Below w.heap.size w w') (first | go_keep | assumption | exact HB4 | exact HB.out | exact HB.out.trans (below_drew _) | exact HB.out.trans (below_drewN _ _) | exact Below.trans (by assumption) (below_drew _) | exact Below.trans (by assumption) (below_drewN _ _))
              ((go_at_call_of 76 (Value.string (s.extract 0 p)); refine (cS.out _).mono ?_; rintro e w3 ⟨rfl, hb⟩; have HB4 : Below w.heap.size w w3 := (below_step (by first | assumption | exact HB.out | exact HB.out.trans (below_drewN _ _) | simp [*]) hb); clear hb))
            all_goals go_wp2_with (first | (go_at_call 77; with_reducible refine (cK.out _).mono ?_; rintro e w4 ⟨rfl, m, rfl⟩; simp only [errV_zero]) | (go_at_call 12; with_reducible refine (is_nil _ _).mono ?_; rintro e w5 ⟨rfl, rfl⟩))
            go_quiet (fail)
            go_wp2
            go_ret3
            refine ⟨rfl, ?_⟩
            exact Below.trans (by assumption) ((below_drewN _ _).trans (below_drewN _ _))
          · rw [if_pos h3]
            have t3 : ((n : Int) == seq) = false := beq_eq_false_iff_ne.2 h3
            have t3' : ((n : Int) != seq) = true := by rw [bne, t3]; rfl
            replace h3 := Lib.hid h3
            go_enter Tryz.func42, Tryz.ntmps42
            go_wp2_with ((go_at_call 75; with_reducible refine cT.out.mono ?_; rintro e w1 ⟨rfl, hb⟩; have HB := Lib.hid hb; clear hb))
            go_region_held3 (fun w' => Below w.heap.size w w') (first | go_keep | assumption | exact HB4 | exact HB.out | exact HB.out.trans (below_drew _) | exact HB.out.trans (below_drewN _ _) | exact Below.trans (by assumption) (below_drew _) | exact Below.trans (by assumption) (below_drewN _ _))
              ((go_at_call_of 76 (Value.string (s.extract 0 p)); refine (cS.out _).mono ?_; rintro e w3 ⟨rfl, hb⟩; have HB4 : Below w.heap.size w w3 := (below_step (by first | assumption | exact HB.out | exact HB.out.trans (below_drewN _ _) | simp [*]) hb); clear hb))
            all_goals go_wp2_with (first | (go_at_call 77; with_reducible refine (cK.out _).mono ?_; rintro e w4 ⟨rfl, m, rfl⟩; simp only [errV_zero]) | (go_at_call 12; with_reducible refine (is_nil _ _).mono ?_; rintro e w5 ⟨rfl, rfl⟩))
            go_ret3
            refine ⟨rfl, ?_⟩
            exact Below.trans (by assumption) (below_drewN _ _)
        · rw [if_pos (by decide)]
          rw [errV_ne (by decide)] at cK
          go_enter Tryz.func42, Tryz.ntmps42
          go_wp2_with ((go_at_call 75; with_reducible refine cT.out.mono ?_; rintro e w1 ⟨rfl, hb⟩; have HB := Lib.hid hb; clear hb))
          go_region_held3 (fun w' => Below w.heap.size w w') (first | go_keep | assumption | exact HB4 | exact HB.out | exact HB.out.trans (below_drew _) | exact HB.out.trans (below_drewN _ _) | exact Below.trans (by assumption) (below_drew _) | exact Below.trans (by assumption) (below_drewN _ _))
            ((go_at_call_of 76 (Value.string (s.extract 0 p)); refine (cS.out _).mono ?_; rintro e w3 ⟨rfl, hb⟩; have HB4 : Below w.heap.size w w3 := (below_step (by first | assumption | exact HB.out | exact HB.out.trans (below_drewN _ _) | simp [*]) hb); clear hb))
          all_goals go_wp2_with (first | (go_at_call 77; with_reducible refine (cK.out _).mono ?_; rintro e w4 ⟨rfl, m, rfl⟩; simp only [errV_zero]) | (go_at_call 12; with_reducible refine (is_no 10 11 (by decide) _).mono ?_; rintro e w5 ⟨rfl, rfl⟩) | (go_at_call 12; with_reducible refine (is_yes 10 _).mono ?_; rintro e w5 ⟨rfl, rfl⟩))
          go_ret3
          refine ⟨rfl, ?_⟩
          exact Below.trans (by assumption) (below_drewN _ _)
        · rw [if_pos (by decide)]
          rw [errV_ne (by decide)] at cK
          go_enter Tryz.func42, Tryz.ntmps42
          go_wp2_with ((go_at_call 75; with_reducible refine cT.out.mono ?_; rintro e w1 ⟨rfl, hb⟩; have HB := Lib.hid hb; clear hb))
          go_region_held3 (fun w' => Below w.heap.size w w') (first | go_keep | assumption | exact HB4 | exact HB.out | exact HB.out.trans (below_drew _) | exact HB.out.trans (below_drewN _ _) | exact Below.trans (by assumption) (below_drew _) | exact Below.trans (by assumption) (below_drewN _ _))
            ((go_at_call_of 76 (Value.string (s.extract 0 p)); refine (cS.out _).mono ?_; rintro e w3 ⟨rfl, hb⟩; have HB4 : Below w.heap.size w w3 := (below_step (by first | assumption | exact HB.out | exact HB.out.trans (below_drewN _ _) | simp [*]) hb); clear hb))
          all_goals go_wp2_with (first | (go_at_call 77; with_reducible refine (cK.out _).mono ?_; rintro e w4 ⟨rfl, m, rfl⟩; simp only [errV_zero]) | (go_at_call 12; with_reducible refine (is_yes 11 _).mono ?_; rintro e w5 ⟨rfl, rfl⟩))
          go_ret3
          refine ⟨rfl, ?_⟩
          exact Below.trans (by assumption) (below_drewN _ _)
      · rw [if_pos h2]
        have t2 := beq_list_false h2
        have t2' : (s3.toList != (rest.extract 0 4).toList) = true := by rw [bne, t2]; rfl
        replace h2 := Lib.hid h2
        go_enter Tryz.func42, Tryz.ntmps42
        go_wp2_with ((go_at_call 75; with_reducible refine cT.out.mono ?_; rintro e w1 ⟨rfl, hb⟩; have HB := Lib.hid hb; clear hb))
        go_region_held3 (fun w' => Below w.heap.size w w') (first | go_keep | assumption | exact HB4 | exact HB.out | exact HB.out.trans (below_drew _) | exact HB.out.trans (below_drewN _ _) | exact Below.trans (by assumption) (below_drew _) | exact Below.trans (by assumption) (below_drewN _ _))
          ((go_at_call_of 76 (Value.string (s.extract 0 p)); refine (cS.out _).mono ?_; rintro e w3 ⟨rfl, hb⟩; have HB4 : Below w.heap.size w w3 := (below_step (by first | assumption | exact HB.out | exact HB.out.trans (below_drewN _ _) | simp [*]) hb); clear hb))
        all_goals go_wp2
        go_ret3
        exact ⟨rfl, by assumption⟩
  · rw [if_pos h0]
    have he := errV_ne h0
    rw [he] at cT
    have HE := Lib.hid he
    clear he
    go_enter Tryz.func42, Tryz.ntmps42
    go_wp2_with ((go_at_call 75; with_reducible refine cT.out.mono ?_; rintro e w1 ⟨rfl, hb⟩; have HB := Lib.hid hb; clear hb))
    go_quiet (fail)
    go_wp2
    go_ret3
    exact ⟨by simp only []; rw [HE.out]; rfl, HB.out.trans (below_drewN _ _)⟩
end Go.Proofs.YtjincmagbbpooaaGreatDoor
end

section
set_option linter.unusedVariables false
set_option linter.unusedSimpArgs false
namespace Go.Proofs.YtjincmagbbpooaaGreatDoor
open Go.RowKit

theorem text_wrap (k : Nat) (s more : ByteArray) (hk : k < 4294967296) (hs : s.size ≤ 1000) :
    textR (wrapS k s ++ more) 2020 = (strN (numB k) ++ s, sumB (textS (strN (numB k) ++ s)) ++ more, 0) := by
  unfold wrapS
  rw [append_assocB]
  have := num_size k hk
  exact textR_back _ _ 2020 (by rw [ByteArray.size_append]; omega) (by rw [ByteArray.size_append]; omega)
theorem openR_head (k : Nat) (s more : ByteArray) (seq : Int) (hk : k < 4294967296) (hs : s.size ≤ 1000) :
    openR (wrapS k s ++ more) seq = if (k : Int) ≠ seq then (ByteArray.empty, wrapS k s ++ more, 10) else (s, more, 0) := by
  unfold openR
  rw [text_wrap k s more hk hs]
  have hT : takeB (wrapS k s ++ more) ((wrapS k s ++ more).size - (sumB (textS (strN (numB k) ++ s)) ++ more).size) = textS (strN (numB k) ++ s) := by
    unfold wrapS
    rw [append_assocB, ByteArray.size_append (a := textS _), Nat.add_sub_cancel]
    exact takeB_append _ _
  have hz := sumB_size (textS (strN (numB k) ++ s))
  have h4 : takeB (sumB (textS (strN (numB k) ++ s)) ++ more) 4 = sumB (textS (strN (numB k) ++ s)) := by
    have := takeB_append (sumB (textS (strN (numB k) ++ s))) more
    rw [hz] at this
    exact this
  have h5 : dropB (sumB (textS (strN (numB k) ++ s)) ++ more) 4 = more := by
    have := dropB_append (sumB (textS (strN (numB k) ++ s))) more
    rw [hz] at this
    exact this
  have h6 : dropB (strN (numB k) ++ s) (numB k).length = s := by rw [← strN_size (numB k)]; exact dropB_append _ _
  rw [if_neg (by simp), if_neg (by rw [ByteArray.size_append]; omega)]
  simp only [hT, h4, numS_back k s (by omega), h5, h6]
  simp
theorem openR_same (k : Nat) (s more : ByteArray) (hk : k < 4294967296) (hs : s.size ≤ 1000) : openR (wrapS k s ++ more) k = (s, more, 0) := by
  rw [openR_head k s more k hk hs, if_neg (by simp)]
theorem openR_other (k : Nat) (s more : ByteArray) (seq : Int) (hk : k < 4294967296) (hs : s.size ≤ 1000) (h : (k : Int) ≠ seq) : openR (wrapS k s ++ more) seq = (ByteArray.empty, wrapS k s ++ more, 10) := by
  rw [openR_head k s more seq hk hs, if_pos h]
theorem numF_one (s : ByteArray) : ∀ (f i n a : Nat), (numF s f i n a).2.2 = 0 → 1 ≤ (numF s f i n a).2.1 ∧ 1 ≤ s.size
  | 0, _, _, _, h => by simp [numF] at h
  | f + 1, i, n, a, h => by
    unfold numF at h ⊢
    split
    · rename_i h1; rw [if_pos h1] at h; simp at h
    · rename_i h1
      rw [if_neg h1] at h
      split
      · rename_i h2; rw [if_pos h2] at h; simp at h
      · rename_i h2
        rw [if_neg h2] at h
        split
        · exact ⟨by simp, by omega⟩
        · rename_i h3
          rw [if_neg h3] at h
          exact numF_one s f _ _ _ h
theorem openR_junk (s : ByteArray) (seq : Int) (h : s.size ≤ 4) : (openR s seq).2.1 = s ∧ ((openR s seq).2.2 = 10 ∨ (openR s seq).2.2 = 11 ∨ (openR s seq).2.2 = 13) := by
  have hc : (textR s 2020).2.2 = 0 → (textR s 2020).2.1.size < 4 := by
    unfold textR
    intro h0
    have hn := numF_one s 8 0 0 1
    split
    · rename_i h1; rw [if_pos h1] at h0; exact absurd h0 h1
    · rename_i h1
      have := hn (Decidable.not_not.1 h1)
      rw [if_neg h1] at h0
      split
      · rename_i h2; rw [if_pos h2] at h0; simp at h0
      · rename_i h2
        rw [if_neg h2] at h0
        split
        · rename_i h3; rw [if_pos h3] at h0; simp at h0
        · rw [dropB_size, dropB_size]
          have h4 : 1 ≤ (numS s).2.1 := this.1
          omega
  have hcodes : (textR s 2020).2.2 = 0 ∨ (textR s 2020).2.2 = 10 ∨ (textR s 2020).2.2 = 11 ∨ (textR s 2020).2.2 = 13 := by
    have := numF_codes s 8 0 0 1
    unfold textR
    split
    · rcases this with h | h | h
      · exact .inl h
      · exact .inr (.inl h)
      · exact .inr (.inr (.inl h))
    · split
      · exact .inr (.inr (.inr rfl))
      · split
        · exact .inr (.inr (.inl rfl))
        · exact .inl rfl
  unfold openR
  by_cases h0 : (textR s 2020).2.2 = 0
  · rw [if_neg (by simpa using h0), if_pos (hc h0)]
    exact ⟨rfl, .inr (.inl rfl)⟩
  · rw [if_pos h0]
    refine ⟨rfl, ?_⟩
    rcases hcodes with h | h | h | h
    · exact absurd h h0
    · exact .inl h
    · exact .inr (.inl h)
    · exact .inr (.inr h)

theorem Open_is (s : ByteArray) (seq : Int) (a b : ByteArray) (c : Int) (er : Value) (he : errV c = er) (hs : s.size ≤ 1000000) (h : openR s seq = (a, b, c)) (w : World) (hg : ErrVar w) :
    Calls Tryz.prog 42 #[.string s, .int .i64 seq] w fun e w' => e = .returned (.tuple #[.string a, .string b, er]) ∧ Below w.heap.size w w' := by
  have := Open_any s seq hs w hg
  unfold OpenPost at this
  rw [h] at this
  rw [← he]
  exact this
theorem wrapS_size (k : Nat) (s : ByteArray) (hk : k < 4294967296) (hs : s.size ≤ 1000) : (wrapS k s).size ≤ s.size + 20 := by
  unfold wrapS
  have := num_size k hk
  have h2 := textS_size2 (strN (numB k) ++ s) (by rw [ByteArray.size_append]; omega)
  rw [ByteArray.size_append] at h2
  rw [ByteArray.size_append, sumB_size]
  omega
theorem Sum_is (s : ByteArray) (n : Int) (hs : s.size ≤ 9223372036854775807) (h : (sumS s : Int) = n) (w : World) : Calls Tryz.prog 98 #[.string s] w fun e w' => e = .returned (.int .u32 n) ∧ w = w' := by
  have := Sum_any s hs w
  rw [h] at this
  exact this
end Go.Proofs.YtjincmagbbpooaaGreatDoor
end
