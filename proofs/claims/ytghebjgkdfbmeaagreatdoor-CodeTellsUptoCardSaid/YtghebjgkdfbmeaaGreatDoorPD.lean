import Derived.Test.YtghebjgkdfbmeaaGreatDoorCW
set_option linter.unusedVariables false
set_option linter.unusedSimpArgs false
namespace Go.Proofs.YtghebjgkdfbmeaaGreatDoor
open Go.RowKit

/-! ### the document's Read, and the terms of a text -/
def rRead (s : ByteArray) : Tm × ByteArray × Int := if (rTerm 3001 ⟨s, 0, 0⟩).2.e ≠ 0 then (.nil, s, (rTerm 3001 ⟨s, 0, 0⟩).2.e) else ((rTerm 3001 ⟨s, 0, 0⟩).1, (rTerm 3001 ⟨s, 0, 0⟩).2.s, 0)
def RReadPost (x : Tm × ByteArray × Int) (w : World) (e : Ending) (w' : World) : Prop :=
  ∃ p, e = .returned (.tuple #[.pointer p, .string x.2.1, .int .i64 x.2.2]) ∧ PIn w.heap.size w' x.1 p ∧ Below w.heap.size w w'

set_option maxHeartbeats 8000000 in
set_option maxRecDepth 100000 in
theorem rRead_any (s : ByteArray) (hs : s.size ≤ 9223372036854775807) (w : World) : Calls Tryz.prog 7 #[.string s] w (RReadPost (rRead s) w) := by
  have hl : Blk (w.alloc (.cells #[.string s, .int .i64 0, .int .i64 0] 55)) w.heap.size 55 (rCells ⟨s, 0, 0⟩) := Blk.new w _ _
  have c := Lib.hid (rterm_any 3001 w.heap.size ⟨s, 0, 0⟩ _ hl rfl (Nat.zero_le _) (Nat.le_refl _) hs)
  unfold RTermPost at c
  have HB : Hid (Below w.heap.size w (w.alloc (.cells #[.string s, .int .i64 0, .int .i64 0] 55))) := (Below.refl _ _).alloc (Nat.le_refl _) _
  have HSZ : Hid (w.heap.size ≤ (w.alloc (.cells #[.string s, .int .i64 0, .int .i64 0] 55)).heap.size) := HB.out.size
  have hr : rRead s = if (rTerm 3001 ⟨s, 0, 0⟩).2.e ≠ 0 then (.nil, s, (rTerm 3001 ⟨s, 0, 0⟩).2.e) else ((rTerm 3001 ⟨s, 0, 0⟩).1, (rTerm 3001 ⟨s, 0, 0⟩).2.s, 0) := rfl
  generalize rRead s = z at hr ⊢
  generalize (rTerm 3001 ⟨s, 0, 0⟩).1 = t at c hr
  generalize (rTerm 3001 ⟨s, 0, 0⟩).2 = r' at c hr
  clear hl
  by_cases he : r'.e = 0
  · rw [if_neg (fun h => h he)] at hr
    have HR := Lib.hid hr
    clear hr hs
    go_enter Tryz.func7, Tryz.ntmps7
    go_upto_region 5 with (go_at_call 19; (with_reducible refine c.out.mono ?_); rintro e w2 ⟨p, rfl, hP, hR, hS⟩; have x0 := hR.cell 0; have x2 := hR.cell 2; simp [rCells] at x0 x2; rw [he] at x2; have HP := Lib.hid hP; have HS := Lib.hid hS; clear hP hR hS)
    go_quiet (fail)
    go_wp2
    go_ret3
    rw [HR.out]
    exact ⟨p, rfl, (HP.out.mono HSZ.out).drewN _, (HB.out.trans (HS.out.below (fun k hk => by have : k = w.heap.size := hk; omega) HSZ.out)).trans ⟨rfl, rfl, rfl, Nat.le_refl _, fun _ _ => rfl⟩⟩
  · rw [if_pos he] at hr
    have HR := Lib.hid hr
    have t0 : (r'.e != 0) = true := by rw [bne, beq_eq_false_iff_ne.2 he]; rfl
    have t0' : (r'.e == 0) = false := beq_eq_false_iff_ne.2 he
    clear hr hs he
    go_enter Tryz.func7, Tryz.ntmps7
    go_upto_region 4 with (go_at_call 19; (with_reducible refine c.out.mono ?_); rintro e w2 ⟨p, rfl, hP, hR, hS⟩; have x0 := hR.cell 0; have x2 := hR.cell 2; simp [rCells] at x0 x2; have HP := Lib.hid hP; have HS := Lib.hid hS; clear hP hR hS)
    go_quiet (fail)
    go_wp2
    go_ret3
    rw [HR.out]
    exact ⟨none, rfl, rfl, (HB.out.trans (HS.out.below (fun k hk => by have : k = w.heap.size := hk; omega) HSZ.out)).trans ⟨rfl, rfl, rfl, Nat.le_refl _, fun _ _ => rfl⟩⟩

/-- The term of a text, none where it is not one's bytes. -/
def termT (s : ByteArray) : Tm := if (rRead s).2.2 ≠ 0 ∨ eqL (rRead s).2.1 [] = false then .nil else (rRead s).1
/-! ### terms that are made -/
theorem PIn.new {B : Nat} {w : World} {a b c : Tm} {pa pb pc : Option Addr} (ha : PIn B w a pa) (hb : PIn B w b pb) (hc : PIn B w c pc) (k n : Int) (s : ByteArray) (hB : B ≤ w.heap.size) :
    PIn B (w.alloc (.cells (tmCells k n s pa pb pc) 46)) (.node k n s a b c) (some ⟨w.heap.size, 0, none⟩) :=
  ⟨_, pa, pb, pc, rfl, hB, Blk.new w _ _, ha.below ((Below.refl _ _).alloc (Nat.le_refl _) _), hb.below ((Below.refl _ _).alloc (Nat.le_refl _) _), hc.below ((Below.refl _ _).alloc (Nat.le_refl _) _)⟩
theorem Sort_any (n : Int) (w : World) : Calls Tryz.prog 14 #[.int .i64 n] w fun e w' => e = .returned (.pointer (some ⟨w.heap.size, 0, none⟩)) ∧ w' = w.alloc (.cells (tmCells 1 n ⟨#[]⟩ none none none) 46) := by
  go_enter Tryz.func14, Tryz.ntmps14
  go_wp2
  go_ret
  exact ⟨rfl, rfl⟩
theorem Const_any (s : ByteArray) (w : World) : Calls Tryz.prog 13 #[.string s] w fun e w' => e = .returned (.pointer (some ⟨w.heap.size, 0, none⟩)) ∧ w' = w.alloc (.cells (tmCells 3 0 s none none none) 46) := by
  go_enter Tryz.func13, Tryz.ntmps13
  go_wp2
  go_ret
  exact ⟨rfl, rfl⟩
theorem Pi_any (pa pb : Option Addr) (w : World) : Calls Tryz.prog 12 #[.pointer pa, .pointer pb] w fun e w' => e = .returned (.pointer (some ⟨w.heap.size, 0, none⟩)) ∧ w' = w.alloc (.cells (tmCells 4 0 ⟨#[]⟩ pa pb none) 46) := by
  go_enter Tryz.func12, Tryz.ntmps12
  go_wp2
  go_ret
  exact ⟨rfl, rfl⟩
end Go.Proofs.YtghebjgkdfbmeaaGreatDoor
