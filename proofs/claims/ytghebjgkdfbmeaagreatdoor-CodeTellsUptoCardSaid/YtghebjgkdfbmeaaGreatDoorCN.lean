import Derived.Test.YtghebjgkdfbmeaaGreatDoorP4
import Derived.Deep.DeepCutAuto
import Derived.Deep.CutBlock
import Derived.IntWalk
set_option linter.unusedVariables false
set_option linter.unusedSimpArgs false
namespace Go.Proofs.YtghebjgkdfbmeaaGreatDoor
open Go.RowKit

/-- A call that changes nothing but which orders were drawn. -/
def Quiet (v : Value) (w : World) (e : Ending) (w' : World) : Prop := e = .returned v ∧ ∃ m, w' = w.drewN m

/-! ### bytes of names -/
def letB (c : Nat) : Bool := (decide ((97 : Int) ≤ (c : Int)) && decide ((c : Int) ≤ 122)) || (decide ((65 : Int) ≤ (c : Int)) && decide ((c : Int) ≤ 90))
def digB (c : Nat) : Bool := decide ((48 : Int) ≤ (c : Int)) && decide ((c : Int) ≤ 57)
def plaB (c : Nat) : Bool := letB c || digB c || ((c : Int) == 95)

set_option maxHeartbeats 4000000 in
theorem letter_any (c : Nat) (w : World) : Calls Tryz.prog 56 #[.int .u8 (c : Int)] w (fun e w' => e = .returned (.bool (letB c)) ∧ w = w') := by
  unfold letB
  cases h1 : decide ((97 : Int) ≤ (c : Int)) <;> cases h2 : decide ((c : Int) ≤ 122) <;> cases h3 : decide ((65 : Int) ≤ (c : Int)) <;> cases h4 : decide ((c : Int) ≤ 90)
  all_goals
    go_enter Tryz.func56, Tryz.ntmps56
    go_wp2
    go_ret
    exact ⟨rfl, rfl⟩
set_option maxHeartbeats 4000000 in
theorem Plain_any (c : Nat) (w : World) : Calls Tryz.prog 57 #[.int .u8 (c : Int)] w (fun e w' => e = .returned (.bool (plaB c)) ∧ w = w') := by
  unfold plaB digB
  have cl := Lib.hid (letter_any c w)
  cases h0 : letB c <;> cases h1 : decide ((48 : Int) ≤ (c : Int)) <;> cases h2 : decide ((c : Int) ≤ 57) <;> cases h3 : ((c : Int) == 95)
  all_goals
    rw [h0] at cl
    go_enter Tryz.func57, Tryz.ntmps57
    go_wp2_with ((go_at_call 56; (with_reducible refine cl.out.mono ?_); rintro e w1 ⟨rfl, rfl⟩))
    go_ret
    exact ⟨rfl, rfl⟩

/-! ### names -/
def nameL : Bool → List Nat → Bool
  | st, [] => !st
  | true, c :: r => letB c && nameL false r
  | false, c :: r => if c = 46 then nameL true r else plaB c && nameL false r
def nameS (s : ByteArray) : Bool := decide (s.size ≤ 24) && nameL true (bys s)
theorem nameL_cons (st : Bool) (c : Nat) (r : List Nat) : nameL st (c :: r) = if st = true then letB c && nameL false r else if c = 46 then nameL true r else plaB c && nameL false r := by cases st <;> rfl
theorem nameL_last : ∀ (l : List Nat) (st : Bool), nameL st (l ++ [46]) = false
  | [], true => rfl
  | [], false => rfl
  | c :: r, st => by
    rw [List.cons_append, nameL_cons, nameL_last r false, nameL_last r true]
    split
    · simp
    · split <;> simp
theorem nameS_empty : nameS ⟨#[]⟩ = false := by decide
/-- Whether a letter must stand there. -/
def at0 (s : ByteArray) (i : Nat) : Bool := decide (i = 0) || decide (bt s (i - 1) = 46)
theorem bys_drop (s : ByteArray) (i : Nat) (h : i < s.size) : (bys s).drop i = bt s i :: (bys s).drop (i + 1) := by
  have h1 := bt_bys s i h
  rw [List.getElem?_eq_some_iff] at h1
  obtain ⟨hl, h1⟩ := h1
  rw [List.drop_eq_getElem_cons hl, h1]
theorem at0_succ (s : ByteArray) (i : Nat) : at0 s (i + 1) = decide (bt s i = 46) := by
  unfold at0
  rw [show decide (i + 1 = 0) = false from decide_eq_false (by omega), Nat.add_sub_cancel, Bool.false_or]
theorem beq46 (n : Nat) : ((n : Int) == 46) = decide (n = 46) := by by_cases h : n = 46 <;> simp [h] <;> omega
theorem let46 : letB 46 = false := by decide

set_option maxHeartbeats 8000000 in
set_option maxRecDepth 100000 in
theorem IsName_any (s : ByteArray) (w : World) : Calls Tryz.prog 48 #[.string s] w (fun e w' => e = .returned (.bool (nameS s)) ∧ w = w') := by
  by_cases h1 : s.size < 1
  · have hs : s = ⟨#[]⟩ := by
      apply ByteArray.ext
      apply Array.eq_empty_of_size_eq_zero
      have : s.data.size = s.size := rfl
      omega
    subst hs
    rw [nameS_empty]
    go_enter Tryz.func48, Tryz.ntmps48
    go_wp2
    go_ret
    exact ⟨rfl, rfl⟩
  have t1 : decide ((s.size : Int) < 1) = false := decide_eq_false (by omega)
  have t1' : decide (s.size < 1) = false := decide_eq_false h1
  have t1'' : (s.size == 0) = false := by simp; intro e; rw [e] at h1; exact h1 (by simp)
  by_cases h2 : 24 < s.size
  · have t2 : decide ((24 : Int) < (s.size : Int)) = true := decide_eq_true (by omega)
    have t2' : decide (24 < s.size) = true := decide_eq_true h2
    have hn : nameS s = false := by unfold nameS; rw [decide_eq_false (by omega)]; rfl
    rw [hn]
    clear hn h1 h2
    go_enter Tryz.func48, Tryz.ntmps48
    go_wp2
    go_ret
    exact ⟨rfl, rfl⟩
  have t2 : decide ((24 : Int) < (s.size : Int)) = false := decide_eq_false (by omega)
  have t2' : decide (24 < s.size) = false := decide_eq_false h2
  obtain ⟨p, hp⟩ : ∃ p, s.size = p + 1 := ⟨s.size - 1, by omega⟩
  have hlt : p < s.size := by omega
  have hm : (s.size : Int) - 1 = (p : Int) := by omega
  have q0 : (0 : Int) ≤ (p : Int) := by omega
  have q1 : (p : Int) < (s.size : Int) := by omega
  have hget := bt_get s p hlt
  have HP := Lib.hid hp
  have hp24 : p ≤ 24 := by omega
  have hs24 : s.size ≤ 24 := by omega
  have H24 : Hid (s.size ≤ 24) := by show s.size ≤ 24; omega
  have hlast : bys s = (bys s).take p ++ [bt s p] := by
    have h3 := bys_drop s p hlt
    rw [List.drop_eq_nil_of_le (show (bys s).length ≤ p + 1 by rw [bys_length]; omega)] at h3
    rw [← h3, List.take_append_drop]
  clear h1 h2
  by_cases h3 : bt s p = 46
  · have t3 : ((bt s p : Int) == 46) = true := by rw [h3]; rfl
    have hn : nameS s = false := by unfold nameS; rw [hlast, h3, nameL_last]; simp
    rw [hn]
    clear hn h3 hlast hp
    go_enter Tryz.func48, Tryz.ntmps48
    go_wp2
    go_ret
    exact ⟨rfl, rfl⟩
  have t3 : ((bt s p : Int) == 46) = false := beq_eq_false_iff_ne.2 (by omega)
  have HL := Lib.hid h3
  clear h3 hlast hp
  go_enter Tryz.func48, Tryz.ntmps48
  go_wp2
  clear t3 hm hget q0 q1 hlt hp24
  go_loopg [3] s.size (fun kq v3 wr => ∃ i : Nat, v3 = .int .i64 (i : Int) ∧ i + kq = s.size ∧ wr = w ∧ Hid (nameL (at0 s i) ((bys s).drop i) = nameL true (bys s)))
  case atStart => exact ⟨0, rfl, by omega, rfl, rfl⟩
  case round =>
    obtain ⟨i, rfl, hi, rfl, hN⟩ := hrel
    by_cases hil : i < s.size
    · have q0 : (0 : Int) ≤ (i : Int) := by omega
      have q1 : (i : Int) < (s.size : Int) := by omega
      have hget := bt_get s i hil
      have hN1 := hN.out
      rw [bys_drop s i hil, nameL_cons] at hN1
      have HN := Lib.hid hN1
      clear hN1 hN
      have cl := Lib.hid (letter_any (bt s i) wr)
      have cp := Lib.hid (Plain_any (bt s i) wr)
      have hsz : (0 : Int) < (s.size : Int) := by omega
      obtain ⟨k', rfl⟩ : ∃ k', gk = k' + 1 := ⟨gk - 1, by omega⟩
      have hi24 : i ≤ 24 := by omega
      go_upto_region 6 with fail
      go_cut [34] (fun v34 wx => v34 = .bool (at0 s i) ∧ wx = wr)
      case first =>
        by_cases h0 : i = 0
        · subst h0
          go_wp2
          go_meet
          exact ⟨by simp [at0], rfl⟩
        · obtain ⟨j, rfl⟩ : ∃ j, i = j + 1 := ⟨i - 1, by omega⟩
          have t0 : (((j + 1 : Nat) : Int) == 0) = false := beq_eq_false_iff_ne.2 (by omega)
          have t0' : ((j : Int) + 1 == 0) = false := beq_eq_false_iff_ne.2 (by omega)
          have hj : (((j + 1 : Nat) : Int) - 1) = (j : Int) := by omega
          have j0 : (0 : Int) ≤ (j : Int) := by omega
          have j1 : (j : Int) < (s.size : Int) := by omega
          have hj24 : j ≤ 24 := by omega
          have hgj := bt_get s j (by omega)
          obtain ⟨b, hb⟩ : ∃ b, ((bt s j : Int) == 46) = b := ⟨_, rfl⟩
          have HB := Lib.hid hb
          go_wp2
          go_meet
          refine ⟨?_, rfl⟩
          rw [at0_succ, ← beq46, HB.out]
      case rest =>
        obtain ⟨rfl, rfl⟩ := hcut
        cases h0 : at0 s i
        · rw [h0] at HN
          obtain ⟨b, hb⟩ : ∃ b, ((bt s i : Int) != 46) = b := ⟨_, rfl⟩
          obtain ⟨pb, hpb⟩ : ∃ pb, plaB (bt s i) = pb := ⟨_, rfl⟩
          rw [hpb] at cp
          have HB := Lib.hid (And.intro hb hpb)
          clear hpb
          go_upto_region 9 with fail
          go_cut [50] (fun v50 wx => v50 = .bool (b && !pb) ∧ wx = wc)
          case first =>
            cases b <;> cases pb
            all_goals
              go_wp2_with ((go_at_call 57; (with_reducible refine cp.out.mono ?_); rintro e w1 ⟨rfl, rfl⟩))
              go_meet
              exact ⟨rfl, rfl⟩
          case rest =>
            obtain ⟨rfl, rfl⟩ := hcut
            obtain ⟨w0, hw0⟩ : ∃ w0, w0 = wc := ⟨_, rfl⟩
            subst hw0
            have HN2 := HN.out
            rw [if_neg (by decide)] at HN2
            by_cases hbp : (b && !pb) = true
            · rw [hbp]
              have hnn : nameS s = false := by
                have h1 : b = true := by simp at hbp; exact hbp.1
                have h2 : pb = false := by simp at hbp; exact hbp.2
                have hne : ¬ bt s i = 46 := by
                  have := HB.out.1
                  rw [h1, bne, beq46] at this
                  simpa using this
                rw [if_neg hne, HB.out.2, h2, Bool.false_and] at HN2
                unfold nameS
                rw [← HN2]
                simp
              have HNN := Lib.hid hnn
              clear hnn hbp HN2 HN
              go_wp2
              go_ret
              exact ⟨by rw [HNN.out]; rfl, rfl⟩
            · have hbp' : (b && !pb) = false := by simpa using hbp
              rw [hbp']
              have hnx : nameL (at0 s (i + 1)) ((bys s).drop (i + 1)) = nameL true (bys s) := by
                rw [← HN2, at0_succ]
                by_cases h46 : bt s i = 46
                · rw [if_pos h46, decide_eq_true h46]
                · rw [if_neg h46, decide_eq_false h46]
                  have h1 : b = true := by
                    have := HB.out.1
                    rw [bne, beq46, decide_eq_false h46] at this
                    rw [← this]
                    rfl
                  have h2 : pb = true := by rw [h1] at hbp'; simpa using hbp'
                  rw [HB.out.2, h2, Bool.true_and]
              have HNX := Lib.hid hnx
              clear hnx hbp hbp' HN2 HN
              go_wp2
              go_roundg k'
              case measure => omega
              case rel => exact ⟨i + 1, by go_num, by omega, rfl, HNX.out⟩
        · rw [h0] at HN
          have HN2 := HN.out
          rw [if_pos rfl] at HN2
          cases hlb : letB (bt s i)
          · rw [hlb] at cl HN2
            have hnn : nameS s = false := by
              rw [Bool.false_and] at HN2
              unfold nameS
              rw [← HN2]
              simp
            have HNN := Lib.hid hnn
            clear hnn HN2 HN hlb h0
            go_wp2_with ((go_at_call 56; (with_reducible refine cl.out.mono ?_); rintro e w1 ⟨rfl, rfl⟩))
            go_ret
            exact ⟨by rw [HNN.out]; rfl, rfl⟩
          · rw [hlb] at cl HN2
            have hnx : nameL (at0 s (i + 1)) ((bys s).drop (i + 1)) = nameL true (bys s) := by
              have h46 : ¬ bt s i = 46 := fun e => by rw [e, let46] at hlb; cases hlb
              rw [← HN2, at0_succ, decide_eq_false h46, Bool.true_and]
            have HNX := Lib.hid hnx
            clear hnx HN2 HN hlb h0
            go_wp2_with ((go_at_call 56; (with_reducible refine cl.out.mono ?_); rintro e w1 ⟨rfl, rfl⟩))
            go_roundg k'
            case measure => omega
            case rel => exact ⟨i + 1, by go_num, by omega, rfl, HNX.out⟩
    · have e : i = s.size := by omega
      have hN1 := hN.out
      rw [e, List.drop_eq_nil_of_le (show (bys s).length ≤ s.size by rw [bys_length]; exact Nat.le_refl _)] at hN1
      have hN2 : nameL true (bys s) = true := by
        rw [← hN1]
        show (!at0 s s.size) = true
        rw [HP.out, at0_succ, decide_eq_false HL.out]
        rfl
      have hnn : nameS s = true := by unfold nameS; rw [hN2, decide_eq_true H24.out]; rfl
      subst e
      have HNN := Lib.hid hnn
      clear hN1 hN2 hnn hN hil
      go_wp2
      go_ret
      exact ⟨by rw [HNN.out]; rfl, rfl⟩
end Go.Proofs.YtghebjgkdfbmeaaGreatDoor
