import Derived.Test.YtghebjgkdfbmeaaGreatDoorPT
set_option linter.unusedVariables false
set_option linter.unusedSimpArgs false
namespace Go.Proofs.YtghebjgkdfbmeaaGreatDoor
open Go.RowKit

/-! ### the program's Read -/
def pRead (s : ByteArray) : Tm × ByteArray × Int :=
  if (pTerm 3001 ⟨s, 0, 0⟩).2.e = 11 ∨ (pTerm 3001 ⟨s, 0, 0⟩).2.e = 10 ∨ (pTerm 3001 ⟨s, 0, 0⟩).2.e = 13 then (.nil, s, (pTerm 3001 ⟨s, 0, 0⟩).2.e) else ((pTerm 3001 ⟨s, 0, 0⟩).1, (pTerm 3001 ⟨s, 0, 0⟩).2.s, 0)
def PReadPost (x : Tm × ByteArray × Int) (w : World) (e : Ending) (w' : World) : Prop :=
  ∃ p, e = .returned (.tuple #[.pointer p, .string x.2.1, errV x.2.2]) ∧ PIn w.heap.size w' x.1 p ∧ Below w.heap.size w w'
theorem index3E (w : World) : (Instr.index 52 (.agg #[.int .i64 11, .int .i64 10, .int .i64 13]) (.int .i64 0)).run Tryz.prog w = .ok (.int .i64 11) w ∧
    (Instr.index 52 (.agg #[.int .i64 11, .int .i64 10, .int .i64 13]) (.int .i64 1)).run Tryz.prog w = .ok (.int .i64 10) w ∧
    (Instr.index 52 (.agg #[.int .i64 11, .int .i64 10, .int .i64 13]) (.int .i64 2)).run Tryz.prog w = .ok (.int .i64 13) w := by
  exact ⟨by kernel_rfl, by kernel_rfl, by kernel_rfl⟩

set_option maxHeartbeats 8000000 in
set_option maxRecDepth 100000 in
theorem Read_any (s : ByteArray) (hs : s.size ≤ 9223372036854775807) (w : World) (hg : ErrVar w) (hm : MaxV w) : Calls Tryz.prog 6 #[.string s] w (PReadPost (pRead s) w) := by
  have hl : Blk (w.alloc (.cells #[.string s, .int .i64 0, .nilIface] 50)) w.heap.size 50 (pCells ⟨s, 0, 0⟩) := Blk.new w _ _
  have hb1 : Below w.heap.size w (w.alloc (.cells #[.string s, .int .i64 0, .nilIface] 50)) := (Below.refl _ _).alloc (Nat.le_refl _) _
  have hle : Leans w.heap.size (w.alloc (.cells #[.string s, .int .i64 0, .nilIface] 50)) := by
    refine ⟨ErrVar.below hg hb1, hm.below hb1, ?_, ?_⟩
    · intro e
      unfold ErrVar at hg
      simp [World.cell?, e] at hg
    · obtain ⟨m, hm⟩ := hm
      intro e
      simp [World.cell?, e] at hm
  have c := Lib.hid (pterm_any 3001 w.heap.size ⟨s, 0, 0⟩ _ hl (by omega) (fun _ => ⟨Nat.zero_le _, by simp⟩) (Nat.le_refl _) (Nat.zero_le _) hs hle)
  unfold PTermPost at c
  have HB : Hid (Below w.heap.size w (w.alloc (.cells #[.string s, .int .i64 0, .nilIface] 50))) := hb1
  have HSZ : Hid (w.heap.size ≤ (w.alloc (.cells #[.string s, .int .i64 0, .nilIface] 50)).heap.size) := HB.out.size
  have hr : pRead s = if (pTerm 3001 ⟨s, 0, 0⟩).2.e = 11 ∨ (pTerm 3001 ⟨s, 0, 0⟩).2.e = 10 ∨ (pTerm 3001 ⟨s, 0, 0⟩).2.e = 13 then (.nil, s, (pTerm 3001 ⟨s, 0, 0⟩).2.e) else ((pTerm 3001 ⟨s, 0, 0⟩).1, (pTerm 3001 ⟨s, 0, 0⟩).2.s, 0) := rfl
  generalize pRead s = z at hr ⊢
  generalize (pTerm 3001 ⟨s, 0, 0⟩).1 = t at c hr
  generalize (pTerm 3001 ⟨s, 0, 0⟩).2 = r' at c hr
  clear hl hb1 hle hg hm hs
  have HR := Lib.hid hr
  clear hr
  have ci := Lib.hid (fun c' (hc : c' ≠ 0) W => is_any r'.e c' hc W)
  go_enter Tryz.func6, Tryz.ntmps6
  go_upto_region 4 with (go_at_call 18; (with_reducible refine c.out.mono ?_); rintro e w2 ⟨p, rfl, hP, hR, hS⟩; have x0 := hR.cell 0; have x2 := hR.cell 2; simp [pCells] at x0 x2; have HP := Lib.hid hP; have HS := Lib.hid hS; clear hP hR hS)
  have HBS : Hid (Below w.heap.size w w2) := HB.out.trans (HS.out.below (fun k hk => by have : k = w.heap.size := hk; omega) HSZ.out)
  obtain ⟨hx0, hx1, hx2⟩ := index3E w2
  clear HS c HB
  go_loopg [15] 3 (fun kq v15 wr => ∃ i : Nat, v15 = .int .i64 (i : Int) ∧ i + kq = 3 ∧ wr = w2 ∧ Hid ((1 ≤ i → r'.e ≠ 11) ∧ (2 ≤ i → r'.e ≠ 10) ∧ (3 ≤ i → r'.e ≠ 13)))
  case atStart => exact ⟨0, rfl, by omega, rfl, ⟨fun h => by omega, fun h => by omega, fun h => by omega⟩⟩
  case round =>
    obtain ⟨i, rfl, hik, rfl, HN⟩ := hrel
    match i, hik with
    | 0, hik =>
      obtain ⟨k', rfl⟩ : ∃ k', gk = k' + 1 := ⟨gk - 1, by omega⟩
      have cj := ci.out 11 (by decide) wr
      by_cases h : r'.e = 11
      · rw [beq_iff_eq.2 h] at cj
        have CJ := Lib.hid cj
        have hz := HR.out
        rw [if_pos (.inl h)] at hz
        have HZ := Lib.hid hz
        have HH := Lib.hid h
        clear cj hz h
        go_wp2_with (go_at_call 15; (with_reducible refine CJ.out.mono ?_); rintro e w5 ⟨rfl, rfl⟩)
        go_ret3
        rw [HZ.out]
        refine ⟨none, ?_, rfl, HBS.out⟩
        rw [HH.out]
        rfl
      · rw [beq_eq_false_iff_ne.2 h] at cj
        have CJ := Lib.hid cj
        have HH := Lib.hid h
        clear cj h
        go_wp2_with (go_at_call 15; (with_reducible refine CJ.out.mono ?_); rintro e w5 ⟨rfl, rfl⟩)
        go_roundg k'
        case measure => omega
        case rel => exact ⟨1, by go_num, by omega, rfl, ⟨fun _ => HH.out, fun h => by omega, fun h => by omega⟩⟩
    | 1, hik =>
      obtain ⟨k', rfl⟩ : ∃ k', gk = k' + 1 := ⟨gk - 1, by omega⟩
      have cj := ci.out 10 (by decide) wr
      by_cases h : r'.e = 10
      · rw [beq_iff_eq.2 h] at cj
        have CJ := Lib.hid cj
        have hz := HR.out
        rw [if_pos (.inr (.inl h))] at hz
        have HZ := Lib.hid hz
        have HH := Lib.hid h
        clear cj hz h
        go_wp2_with (go_at_call 15; (with_reducible refine CJ.out.mono ?_); rintro e w5 ⟨rfl, rfl⟩)
        go_ret3
        rw [HZ.out]
        refine ⟨none, ?_, rfl, HBS.out⟩
        rw [HH.out]
        rfl
      · rw [beq_eq_false_iff_ne.2 h] at cj
        have CJ := Lib.hid cj
        have HH := Lib.hid h
        clear cj h
        go_wp2_with (go_at_call 15; (with_reducible refine CJ.out.mono ?_); rintro e w5 ⟨rfl, rfl⟩)
        go_roundg k'
        case measure => omega
        case rel => exact ⟨2, by go_num, by omega, rfl, ⟨fun _ => HN.out.1 (by omega), fun _ => HH.out, fun h => by omega⟩⟩
    | 2, hik =>
      obtain ⟨k', rfl⟩ : ∃ k', gk = k' + 1 := ⟨gk - 1, by omega⟩
      have cj := ci.out 13 (by decide) wr
      by_cases h : r'.e = 13
      · rw [beq_iff_eq.2 h] at cj
        have CJ := Lib.hid cj
        have hz := HR.out
        rw [if_pos (.inr (.inr h))] at hz
        have HZ := Lib.hid hz
        have HH := Lib.hid h
        clear cj hz h
        go_wp2_with (go_at_call 15; (with_reducible refine CJ.out.mono ?_); rintro e w5 ⟨rfl, rfl⟩)
        go_ret3
        rw [HZ.out]
        refine ⟨none, ?_, rfl, HBS.out⟩
        rw [HH.out]
        rfl
      · rw [beq_eq_false_iff_ne.2 h] at cj
        have CJ := Lib.hid cj
        have HH := Lib.hid h
        clear cj h
        go_wp2_with (go_at_call 15; (with_reducible refine CJ.out.mono ?_); rintro e w5 ⟨rfl, rfl⟩)
        go_roundg k'
        case measure => omega
        case rel => exact ⟨3, by go_num, by omega, rfl, ⟨fun _ => HN.out.1 (by omega), fun _ => HN.out.2.1 (by omega), fun _ => HH.out⟩⟩
    | 3, hik =>
      obtain rfl : gk = 0 := by omega
      have hz := HR.out
      rw [if_neg (fun h => h.elim (HN.out.1 (by omega)) (fun h => h.elim (HN.out.2.1 (by omega)) (HN.out.2.2 (by omega))))] at hz
      have HZ := Lib.hid hz
      clear hz
      go_upto_region 9 with fail
      go_quiet (fail)
      go_wp2
      go_ret3
      rw [HZ.out]
      exact ⟨p, rfl, (HP.out.mono HSZ.out).drewN _, HBS.out.trans ⟨rfl, rfl, rfl, Nat.le_refl _, fun _ _ => rfl⟩⟩
    | i + 4, hik => omega
end Go.Proofs.YtghebjgkdfbmeaaGreatDoor
