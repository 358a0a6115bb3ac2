import Derived.Test.YtlmkcdebchahpaaDoorLX5
set_option linter.unusedVariables false
set_option linter.unusedSimpArgs false
namespace Go.Proofs.YtlmkcdebchahpaaDoor
open Go.RowKit

theorem wordsR_len (s : ByteArray) : (wordsR s).1.length ≤ 2000 := by
  unfold wordsR
  by_cases h : 2000 < s.size
  · rw [if_pos h]; exact Nat.zero_le _
  · rw [if_neg h]
    cases hw : wordsG (s.size + 1) (bys s) with
    | none => exact Nat.zero_le _
    | some ws =>
      have := (words_len _ _ hw).2
      rw [bys_length] at this
      simp [finR]
      omega
theorem texts_new (w : World) (l : List ByteArray) (h : l.length ≤ 1000) : Texts (w.alloc (.cells (strs l).toArray 9)) (.slice (some ⟨w.heap.size, 0, none⟩) l.length l.length) l := by
  refine ⟨_, _, rfl, Nat.le_refl _, rfl, by omega, fun _ => ⟨⟨w.heap.size, 0, none⟩, rfl, fun j p hj => ⟨[.string p], rfl, rfl, fun i u hi => ?_⟩⟩⟩
  have hi0 : i = 0 := by
    cases i with
    | zero => rfl
    | succ i => simp at hi
  subst hi0
  simp only [List.getElem?_cons_zero, Option.some.injEq] at hi
  subst hi
  have ha : (⟨w.heap.size, 0, none⟩ : Addr).add (j * Go.Proofs.YtlmkcdebchahpaaDoorW.PrintWords.Kd.string.sz + 0) = ⟨w.heap.size, j, none⟩ := by
    show (⟨w.heap.size, 0, none⟩ : Addr).add (j * 1 + 0) = _
    unfold Addr.add
    split <;> simp_all
  rw [ha, new_cell]
  simp [strs, hj]
theorem code9_any (c : Int) (w : World) (hg : ErrVar w) : Calls Tryd.prog 12 #[errV c] w fun e w' => e = .returned (.int .i64 c) ∧ Below w.heap.size w w' := by
  by_cases h0 : c = 0
  · subst h0
    rw [errV_zero]
    go_enter Tryd.func12, Tryd.ntmps12
    go_wp2
    go_ret
    exact ⟨rfl, (Below.refl _ _).alloc (Nat.le_refl _) _⟩
  · rw [errV_ne h0]
    have hg1 : ErrVar (w.alloc (.cells #[.int .i64 0] 35)) := ErrVar.below (w := w) hg ((Below.refl _ _).alloc (Nat.le_refl _) _)
    replace hg1 := Lib.hid hg1
    clear hg h0
    go_enter Tryd.func12, Tryd.ntmps12
    go_wp2_with ((go_at_call 19; refine (as_hit ⟨w.heap.size, 0, none⟩ c (.int .i64 0) _ hg1.out (new_cell w _ _ 0) (new_frozen w _ _ 0)).mono ?_; rintro e w2 ⟨rfl, w1, hb, rfl, ⟨old, ho⟩, hl⟩; have hcell : (w1.setCell ⟨w.heap.size, 0, none⟩ (.int .i64 c)).cell? ⟨w.heap.size, 0, none⟩ = some (.int .i64 c) := World.cell?_setCell_same' _ _ _ (by rw [ho]; rfl); have hb1 := Lib.hid hb; clear hb ho))
    go_ret
    refine ⟨rfl, ?_⟩
    exact (((Below.refl _ _).alloc (Nat.le_refl _) _).trans (hb1.out.mono (by simp))).setCell (Nat.le_refl _) _
def WordsIsPost (l : List ByteArray) (er : Value) (w : World) (e : Ending) (w' : World) : Prop := ∃ v, e = .returned (.tuple #[v, er]) ∧ Texts w' v l ∧ Below w.heap.size w w'
theorem Words_is (s : ByteArray) (l : List ByteArray) (c : Int) (er : Value) (h : wordsR s = (l, c)) (he : errV c = er) (w : World) : Calls Tryd.prog 8 #[.string s] w (WordsIsPost l er w) := by
  have := Words_any s w
  unfold WordsPost at this
  rw [h, he] at this
  exact this
def k9 : List ByteArray := [⟨#[97, 46, 98]⟩, ⟨#[58, 61]⟩, ⟨#[99]⟩, ⟨#[45, 62]⟩, ⟨#[40]⟩, ⟨#[100]⟩, ⟨#[41]⟩, ⟨#[46]⟩, ⟨#[101]⟩, ⟨#[46]⟩]
theorem wk1 : wordsR ⟨#[97, 46, 98, 58, 61, 99, 45, 62, 40, 100, 41, 46, 32, 101, 46]⟩ = (k9, 0) := by decide +kernel
theorem wk2 : wordsR ⟨#[97, 61, 98]⟩ = ([], 10) := by decide +kernel
set_option maxHeartbeats 4000000 in
set_option maxRecDepth 100000 in
theorem known9_any (w : World) : Calls Tryd.prog 7 #[] w fun e w' => e = .returned (.bool true) ∧ Below w.heap.size w w' := by
  have c1 := Lib.hid (Words_is _ _ _ .nilIface wk1 rfl)
  have c2 := Lib.hid (Words_is _ _ _ (.iface 35 (.int .i64 10)) wk2 rfl)
  go_enter Tryd.func7, Tryd.ntmps7
  go_wp2_with (first
    | (go_at_call 8; (with_reducible refine (c1.out _).mono ?_); rintro e w1 ⟨v1, rfl, ht, hb⟩; have HT := Lib.hid ht; have HB := Lib.hid hb; clear ht hb)
    | (go_at_call 8; (with_reducible refine (c2.out _).mono ?_); rintro e w2 ⟨v2, rfl, ht, hb⟩; replace HT := Lib.hid (HT.out.below hb); replace HB := Lib.hid (below_step HB.out hb); clear ht hb)
    | (go_at_call 9; refine (same_any _ _ k9 k9 _ (HT.out.below ((Below.refl _ _).alloc (Nat.le_refl _) _)) (texts_new _ k9 (by decide)) (by decide)).mono ?_; rintro e w3 ⟨rfl, n, rfl⟩; rw [decide_eq_true rfl])
    | (go_at_call 10; (with_reducible refine (is_yes 10 _).mono ?_); rintro e w1 ⟨rfl, rfl⟩))
  go_ret
  exact ⟨rfl, (below_alloc' HB.out _).trans (below_drewN _ _)⟩
set_option maxHeartbeats 4000000 in
set_option maxRecDepth 100000 in
theorem LexTells_any (s : ByteArray) (w : World) (hg : ErrVar w) : Calls Tryd.prog 6 #[.string s] w fun e w' => e = .returned (.bool true) ∧ Below w.heap.size w w' := by
  have ck := Lib.hid (known9_any w)
  have c1 := Lib.hid (Words_any s)
  have c2 := Lib.hid (rWords_any s)
  have hl := wordsR_len s
  have HG := Lib.hid hg
  clear hg
  unfold WordsPost at c1
  unfold RWordsPost at c2
  generalize wordsR s = r at *
  obtain ⟨l, c⟩ := r
  have hl' : l.length < 9223372036854775807 := by simp only at hl; omega
  clear hl
  have HL := Lib.hid hl'
  clear hl'
  go_enter Tryd.func6, Tryd.ntmps6
  go_wp2_with (first
    | (go_at_call 7; (with_reducible refine ck.out.mono ?_); rintro e w1 ⟨rfl, hb⟩; have HB := Lib.hid hb; replace HG := Lib.hid (HG.out.below hb); clear hb)
    | (go_at_call 8; (with_reducible refine (c1.out _).mono ?_); rintro e w2 ⟨v1, rfl, ht, hb⟩; have HT := Lib.hid ht; replace HB := Lib.hid (below_step HB.out hb); replace HG := Lib.hid (HG.out.below hb); clear ht hb)
    | (go_at_call 11; (with_reducible refine (c2.out _).mono ?_); rintro e w3 ⟨v2, rfl, ht, hb⟩; have HT2 := Lib.hid ht; replace HT := Lib.hid (HT.out.below hb); replace HB := Lib.hid (below_step HB.out hb); replace HG := Lib.hid (HG.out.below hb); clear ht hb)
    | (go_at_call 9; (with_reducible refine (same_any _ _ _ _ _ HT.out HT2.out HL.out).mono ?_); rintro e w4 ⟨rfl, n, rfl⟩; rw [decide_eq_true rfl]; replace HG := Lib.hid (HG.out.below (below_drewN _ n)); replace HB := Lib.hid (HB.out.trans (below_drewN _ n)))
    | (go_at_call 12; (with_reducible refine (code9_any _ _ HG.out).mono ?_); rintro e w5 ⟨rfl, hb⟩; replace HB := Lib.hid (below_step HB.out hb); clear hb))
  go_ret
  exact ⟨rfl, HB.out⟩
end Go.Proofs.YtlmkcdebchahpaaDoor
