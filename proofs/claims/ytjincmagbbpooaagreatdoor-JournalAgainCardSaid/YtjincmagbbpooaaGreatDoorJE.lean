import Derived.Test.YtjincmagbbpooaaGreatDoorJD
set_option linter.unusedVariables false
set_option linter.unusedSimpArgs false
namespace Go.Proofs.YtjincmagbbpooaaGreatDoor
open Go.RowKit

theorem lastW_64 : ∀ (l : List (Nat × ByteArray)) (i : Nat) (s : ByteArray), s.size ≤ 64 → (∀ x ∈ l, x.2.size = 64) → (lastW l i s).size ≤ 64
  | [], i, s, h, _ => h
  | x :: l, i, s, h, hl => by
    show (lastW l i (if x.1 = i then x.2 else s)).size ≤ 64
    refine lastW_64 l i _ ?_ (fun y hy => hl y (List.mem_cons_of_mem _ hy))
    split
    · exact Nat.le_of_eq (hl x (List.mem_cons_self ..))
    · exact h
theorem readS_64 {D : DS} (h : D.ok) (i : Int) : (D.readS i).size ≤ 64 := by
  unfold DS.readS
  split
  · exact Nat.zero_le _
  · refine lastW_64 _ _ _ ?_ (fun x hx => (h.lies x hx).2)
    rw [List.getD_eq_getElem?_getD]
    cases hg : D.sure[i.toNat]? with
    | none => exact Nat.zero_le _
    | some s => exact Nat.le_of_eq (h.size s (List.mem_of_getElem? hg))
/-- What has been found behind so many superblocks. -/
def DS.found (D : DS) : Nat → Nat × Nat
  | 0 => (0, 0)
  | i + 1 => newer (D.found i) (readB (D.readS (i : Int)))

set_option maxHeartbeats 8000000 in
set_option maxRecDepth 100000 in
theorem newest_any (F : Nat → Prop) (p : Nat) (D : DS) (w : World) (h : Dsk w F p D) (hg : ErrVar w) :
    Calls Tryz.prog 37 #[.pointer (some ⟨p, 0, none⟩)] w fun e w' => e = .returned (.tuple #[.int .i64 (D.newest.1 : Int), .int .i64 (D.newest.2.1 : Int), errV D.newest.2.2]) ∧ Below w.heap.size w w' := by
  have HG := Lib.hid hg
  have HD := Lib.hid h
  have hR : D.newest = if D.may ((0 : Nat) : Int) ≠ 0 then (0, 0, D.may ((0 : Nat) : Int)) else if D.may ((1 : Nat) : Int) ≠ 0 then (0, 0, D.may ((1 : Nat) : Int)) else if (D.found 2).1 = 0 then (0, 0, 10) else ((D.found 2).1, (D.found 2).2, 0) := rfl
  generalize D.newest = R at hR ⊢
  have HR := Lib.hid hR
  clear hR h hg
  go_enter Tryz.func37, Tryz.ntmps37
  go_upto_region 2 with fail
  go_loopg [2, 3, 10] 2 (fun kq v2 v3 v10 wr => ∃ (i : Nat) (x : Nat × Nat), v2 = .int .i64 (x.1 : Int) ∧ v3 = .int .i64 (x.2 : Int) ∧ v10 = .int .i64 (i : Int) ∧ i + kq = 2 ∧ Hid (x = D.found i) ∧ Hid (∀ j : Nat, j < i → D.may (j : Int) = 0) ∧ Hid (Below w.heap.size w wr))
  case atStart => exact ⟨0, (0, 0), rfl, rfl, rfl, by omega, rfl, fun j hj => by omega, Below.refl _ _⟩
  case round =>
    obtain ⟨i, ⟨turn, which⟩, rfl, rfl, rfl, hi, HF, HM, HB⟩ := hrel
    have hD1 := HD.out.below HB.out
    by_cases hlt : i < 2
    · have q1 : (i : Int) < 2 := by omega
      have cr := Lib.hid (Read_any wr F p D (i : Int) hD1)
      have cx := Lib.hid (read_any (D.readS (i : Int)) (by have := readS_64 HD.out.ok (i : Int); omega) wr (ErrVar.below HG.out HB.out))
      obtain ⟨k', rfl⟩ : ∃ k', gk = k' + 1 := ⟨gk - 1, by omega⟩
      have hnx : D.found (i + 1) = newer (turn, which) (readB (D.readS (i : Int))) := by rw [HF.out]; rfl
      have HNX := Lib.hid hnx
      have hm : D.may (i : Int) = D.may (i : Int) := rfl
      generalize hmm : D.may (i : Int) = m at cr
      have HMM := Lib.hid hmm
      clear hnx hm hmm hlt hD1
      by_cases hm0 : m = 0
      · subst hm0
        rw [errV_zero] at cr
        have HM2 : Hid (∀ j : Nat, j < i + 1 → D.may (j : Int) = 0) := by
          intro j hj
          rcases Nat.lt_or_ge j i with h | h
          · exact HM.out j h
          · obtain rfl : j = i := by omega
            exact HMM.out
        generalize readB (D.readS (i : Int)) = y at cx HNX
        obtain ⟨t2, w2⟩ := y
        generalize D.readS (i : Int) = s at cr cx
        by_cases hlt2 : turn < t2
        · have q2 : (turn : Int) < (t2 : Int) := by omega
          have HN2 : Hid (D.found (i + 1) = (t2, w2)) := by
            show _ = _
            rw [HNX.out]
            unfold newer
            rw [if_pos hlt2]
          clear hlt2
          go_wp2_with (first
            | (go_at_call 33; (with_reducible refine cr.out.mono ?_); rintro e w3 ⟨rfl, rfl⟩)
            | (go_at_call 73; (with_reducible refine cx.out.mono ?_); rintro e w4 ⟨rfl, hb⟩; have HB2 := Lib.hid (below_step HB.out hb); clear hb))
          go_roundg k'
          case measure => omega
          case rel => exact ⟨i + 1, (t2, w2), rfl, rfl, by go_num, by omega, HN2.out.symm, HM2, HB2⟩
        · have q2 : (t2 : Int) ≤ (turn : Int) := by omega
          have HN2 : Hid (D.found (i + 1) = (turn, which)) := by
            show _ = _
            rw [HNX.out]
            unfold newer
            rw [if_neg hlt2]
          clear hlt2
          go_wp2_with (first
            | (go_at_call 33; (with_reducible refine cr.out.mono ?_); rintro e w3 ⟨rfl, rfl⟩)
            | (go_at_call 73; (with_reducible refine cx.out.mono ?_); rintro e w4 ⟨rfl, hb⟩; have HB2 := Lib.hid (below_step HB.out hb); clear hb))
          go_roundg k'
          case measure => omega
          case rel => exact ⟨i + 1, (turn, which), rfl, rfl, by go_num, by omega, HN2.out.symm, HM2, HB2⟩
      · rw [errV_ne hm0] at cr
        have hRv : R = (0, 0, m) := by
          rw [HR.out]
          have hi' : i = 0 ∨ i = 1 := by omega
          rcases hi' with rfl | rfl
          · rw [HMM.out, if_pos hm0]
          · rw [HM.out 0 (by omega), if_neg (by decide), HMM.out, if_pos hm0]
        have HRV := Lib.hid hRv
        have HE := Lib.hid (errV_ne hm0)
        clear hRv hm0 cx
        go_wp2_with (go_at_call 33; (with_reducible refine cr.out.mono ?_); rintro e w3 ⟨rfl, rfl⟩)
        go_ret3
        rw [HRV.out]
        exact ⟨by rw [HE.out]; rfl, HB.out⟩
    · obtain rfl : i = 2 := by omega
      have hRv : R = if turn = 0 then (0, 0, 10) else (turn, which, 0) := by
        rw [HR.out, HM.out 0 (by omega), if_neg (by decide), HM.out 1 (by omega), if_neg (by decide), ← HF.out]
      clear hlt hD1
      by_cases ht : turn = 0
      · subst ht
        rw [if_pos rfl] at hRv
        have HRV := Lib.hid hRv
        clear hRv
        go_wp2
        go_ret3
        rw [HRV.out]
        exact ⟨rfl, HB.out⟩
      · rw [if_neg ht] at hRv
        have t1 : ((turn : Int) == 0) = false := by rw [beq_eq_false_iff_ne]; omega
        have HRV := Lib.hid hRv
        clear hRv ht
        go_wp2
        go_ret3
        rw [HRV.out]
        exact ⟨rfl, HB.out⟩
end Go.Proofs.YtjincmagbbpooaaGreatDoor
