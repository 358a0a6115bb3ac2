import Derived.Test.YtjincmagbbpooaaGreatDoorD4

section
set_option linter.unusedVariables false
set_option linter.unusedSimpArgs false
namespace Go.Proofs.YtjincmagbbpooaaGreatDoor
open Go.RowKit
attribute [local go_sem] max2_int max_two min2_int min_two

set_option maxRecDepth 100000 in
theorem all_any (i : Int) (w : World) : Calls Tryz.prog 79 #[.int .i64 i] w fun e w' => e = .returned (.bool true) ∧ w = w' := by
  go_enter Tryz.func79, Tryz.ntmps79
  go_wp2
  go_ret
  exact ⟨rfl, rfl⟩

/-- A slice of bools that came in, or none. -/
def BoolsAt (w : World) (a : Option Addr) (l : List Bool) : Prop := ∀ j x, l[j]? = some x → ∃ b off, a = some ⟨b, off, none⟩ ∧ w.cell? ⟨b, off + j, none⟩ = some (.bool x)
theorem BoolsAt.keep {w w' : World} {a : Option Addr} {l : List Bool} (h : BoolsAt w a l) (hk : ∀ b off x, a = some ⟨b, off, none⟩ → 0 < l.length → w.cell? ⟨b, off + x, none⟩ ≠ none → w'.heap[b]? = w.heap[b]?) : BoolsAt w' a l := by
  intro j x hj
  obtain ⟨b, off, e, hc⟩ := h j x hj
  have hl : 0 < l.length := by have := (List.getElem?_eq_some_iff.1 hj).1; omega
  exact ⟨b, off, e, (World.cell?_of_block (w := w) (a := ⟨b, off + j, none⟩) (hk b off j e hl (by rw [hc]; simp))).trans hc⟩
theorem BoolsAt.nil (w : World) (a : Option Addr) : BoolsAt w a [] := fun j x h => by simp at h
/-- The slice lies apart from a set of blocks. -/
def OffF (F : Nat → Prop) (a : Option Addr) (l : List Bool) : Prop := 0 < l.length → ∀ b off, a = some ⟨b, off, none⟩ → ¬ F b
theorem BoolsAt.save {F : Nat → Prop} {w w' : World} {a : Option Addr} {l : List Bool} (h : BoolsAt w a l) (hs : Save F w w') (hf : OffF F a l) : BoolsAt w' a l :=
  h.keep fun b off x e hl hc => hs.block b (cell_lt (p := ⟨b, off + x, none⟩) (v := (w.cell? ⟨b, off + x, none⟩).get (by simpa [Option.isSome_iff_ne_none] using hc)) (by simp)) (hf hl b off e)

set_option maxHeartbeats 4000000 in
set_option maxRecDepth 100000 in
theorem some_any (cb : Nat) (a : Option Addr) (c : Nat) (l : List Bool) (i : Nat) (hi : i ≤ 1099511627776) (hl : l.length ≤ 9223372036854775807) (w : World) (hc : w.cell? ⟨cb, 0, none⟩ = some (.slice a l.length c)) (hb : BoolsAt w a l) :
    Calls Tryz.prog 55 #[.int .i64 (i : Int), .pointer (some ⟨cb, 0, none⟩)] w fun e w' => e = .returned (.bool (keepOf l i)) ∧ w = w' := by
  obtain ⟨n, hn⟩ : ∃ n, n = l.length := ⟨_, rfl⟩
  rw [← hn] at hc hl
  unfold keepOf
  have b0 : (0 : Int) ≤ (i : Int) := by omega
  by_cases h : i < n
  · obtain ⟨x, hx⟩ : ∃ x, l[i]? = some x := ⟨_, List.getElem?_eq_getElem (by omega)⟩
    obtain ⟨b, off, rfl, hcell⟩ := hb i x hx
    rw [List.getD_eq_getElem?_getD, hx, Option.getD_some]
    have b1 : (i : Int) < (n : Int) := by omega
    have t1 : decide ((i : Int) < (n : Int)) = true := decide_eq_true b1
    have t1' : decide (i < n) = true := decide_eq_true h
    clear hx hb hn h
    go_enter Tryz.func55, Tryz.ntmps55
    go_wp2
    go_ret
    exact ⟨rfl, rfl⟩
  · rw [List.getD_eq_getElem?_getD, List.getElem?_eq_none (by omega), Option.getD_none]
    have t1 : decide ((i : Int) < (n : Int)) = false := decide_eq_false (by omega)
    have t1' : decide (i < n) = false := decide_eq_false h
    clear hb hn h
    go_enter Tryz.func55, Tryz.ntmps55
    go_wp2
    go_ret
    exact ⟨rfl, rfl⟩

theorem may_0 {D : DS} (h : D.ok) : D.may 0 = if D.dead = true then 25 else 0 := by
  unfold DS.may
  by_cases hd : D.dead = true
  · rw [if_pos hd, if_pos hd]
  · rw [if_neg hd, if_neg hd, if_neg]
    have := h.one
    omega

set_option maxHeartbeats 4000000 in
set_option maxRecDepth 100000 in
theorem Flush_any (w : World) (F : Nat → Prop) (p : Nat) (D : DS) (h : Dsk w F p D) :
    Calls Tryz.prog 46 #[.pointer (some ⟨p, 0, none⟩)] w fun e w' => e = .returned (errV D.flushC) ∧ DskPost F p w D.flush w' := by
  have cm := may_any w F p D 0 h
  rw [may_0 h.ok] at cm
  unfold DS.flushC DS.flush
  by_cases hd : D.dead = true
  · rw [if_pos hd] at cm ⊢
    rw [if_pos hd]
    have cm : Calls Tryz.prog 48 #[.pointer (some ⟨p, 0, none⟩), .int .i64 0] w fun e w' => e = .returned (.iface 34 (.int .i64 25)) ∧ w = w' := cm
    replace cm := Lib.hid cm
    have H := Lib.hid h
    clear h hd
    go_enter Tryz.func46, Tryz.ntmps46
    go_wp2_with (first
      | (go_at_call 48; (with_reducible refine cm.out.mono ?_); rintro e w1 ⟨rfl, rfl⟩)
      | (go_at_call 12; (with_reducible refine (is_yes 25 _).mono ?_); rintro e w1 ⟨rfl, rfl⟩))
    go_ret
    exact ⟨rfl, Save.refl _ _, H.out.mono fun _ _ => .inl⟩
  · rw [if_neg hd] at cm ⊢
    rw [if_neg hd]
    have cm : Calls Tryz.prog 48 #[.pointer (some ⟨p, 0, none⟩), .int .i64 0] w fun e w' => e = .returned .nilIface ∧ w = w' := cm
    have ck := Lib.hid (keeps_all w F p D (fun _ => true) (-1) h (fun w' _ i _ => all_any i w'))
    replace cm := Lib.hid cm
    clear h hd
    go_enter Tryz.func46, Tryz.ntmps46
    go_wp2_with (first
      | (go_at_call 48; (with_reducible refine cm.out.mono ?_); rintro e w1 ⟨rfl, rfl⟩)
      | (go_at_call 54; (with_reducible refine ck.out.mono ?_); rintro e w1 ⟨rfl, hp⟩; have HP := Lib.hid hp; clear hp)
      | (go_at_call 12; (with_reducible refine (is_nil 25 _).mono ?_); rintro e w1 ⟨rfl, rfl⟩))
    go_ret
    exact ⟨rfl, HP.out⟩

set_option maxHeartbeats 4000000 in
set_option maxRecDepth 100000 in
theorem Crash_any (w : World) (F : Nat → Prop) (p : Nat) (D : DS) (a : Option Addr) (c : Nat) (l : List Bool) (torn : Int) (hl : l.length ≤ 9223372036854775807) (h : Dsk w F p D) (hb : BoolsAt w a l) (hf : OffF F a l) (hF : ∀ k, F k → k < w.heap.size) :
    Calls Tryz.prog 18 #[.pointer (some ⟨p, 0, none⟩), .slice a l.length c, .int .i64 torn] w fun e w' => e = .returned (.tuple #[]) ∧ DskPost F p w (D.crash (keepOf l) torn) w' := by
  have hnF : ¬ F w.heap.size := fun h => absurd (hF _ h) (Nat.lt_irrefl _)
  have hs0 : Save F w (w.alloc (.cells #[.slice a l.length c] 36)) := (Save.refl _ _).alloc _
  have hd1 : Dsk (w.alloc (.cells #[.slice a l.length c] 36)) F p D := h.below ((Below.refl _ _).alloc (Nat.le_refl _) _)
  have ck := keeps_some (w.alloc (.cells #[.slice a l.length c] 36)) F p D (keepOf l) torn w.heap.size hd1 (fun w' hs i hi => by
    have hd := hd1.ok
    refine some_any w.heap.size a c l i (by have := hd.few; have := hd.done; omega) hl w' ?_ ((hb.save hs0 hf).save hs hf)
    exact (World.cell?_of_block (w := w.alloc (.cells #[.slice a l.length c] 36)) (hs.block w.heap.size (by simp) hnF)).trans (new_cell w _ _ 0))
  replace ck := Lib.hid ck
  have HS0 := Lib.hid hs0
  obtain ⟨n, hn⟩ : ∃ n, n = l.length := ⟨_, rfl⟩
  rw [← hn] at ck HS0 ⊢
  clear h hb hs0 hd1 hn hf hF hnF
  go_enter Tryz.func18, Tryz.ntmps18
  go_wp2_with (go_at_call 54; (with_reducible refine ck.out.mono ?_); rintro e w1 ⟨rfl, hp⟩; obtain ⟨hs, g, lv, hd, f1, f2, f3⟩ := hp; have HS := Lib.hid hs; have HD := Lib.hid hd; have HF1 := Lib.hid f1; have HF2 := Lib.hid f2; have HF3 := Lib.hid f3; have fr2 := hd.cells.2.2.2.2.2 2; have fr4 := hd.cells.2.2.2.2.2 4; have c2 := hd.cells.2.2.1; have c4 := hd.cells.2.2.2.2.1; clear hs hd f1 f2 f3)
  go_end0
  have hss : Save F w w1 := HS0.out.then HS.out
  have hpl : ∀ k, Plus F (w.alloc (.cells #[.slice a n c] 36)) w1 k → Plus F w ((w1.setCell ⟨p, 2, none⟩ (.int .i64 (-1))).setCell ⟨p, 4, none⟩ (.bool false)) k := fun k hk => by
    rcases hk with hk | ⟨h1, h2⟩
    · exact .inl hk
    · have : (w.alloc (.cells #[.slice a n c] 36)).heap.size = w.heap.size + 1 := by simp
      exact .inr ⟨by omega, by simp [World.setCell]; exact h2⟩
  have hp : F p ∨ w.heap.size ≤ p := HF1.out.elim .inl fun h => .inr (by
    have : (w.alloc (.cells #[.slice a n c] 36)).heap.size = w.heap.size + 1 := by simp
    omega)
  exact ⟨rfl, (hss.setCell (p := ⟨p, 2, none⟩) hp _).setCell (p := ⟨p, 4, none⟩) hp _, g, lv, (HD.out.setLeft (-1) (by omega)).setDead false, hpl _ HF1.out, hpl _ HF2.out, fun k hk => hpl _ (HF3.out k hk)⟩

theorem Tryz.infoStr : (Tryz.prog.info? 9).map (fun i => (i.zero, i.size, i.bytes)) = some (some (.string ⟨#[]⟩), 1, 16) := by kernel_rfl
def rowZ (n i : Nat) : List Value := List.replicate i (.string (zeroB 64)) ++ List.replicate (n - i) (.string ⟨#[]⟩)
theorem rowZ_set (n i : Nat) (h : i < n) : (rowZ n i).set i (.string (zeroB 64)) = rowZ n (i + 1) := by
  unfold rowZ
  rw [List.set_append_right _ _ (by simp), List.length_replicate, Nat.sub_self, show n - i = (n - (i + 1)) + 1 by omega, List.replicate_succ, List.set_cons_zero, List.replicate_succ', List.append_assoc]
  rfl
theorem make_row (w : World) (n : Nat) (h2 : n ≤ 2000) : (Instr.makeSlice 26 (.int .i64 (n : Int)) (.int .i64 (n : Int))).run Tryz.prog w = .ok (.slice (some ⟨w.heap.size, 0, none⟩) n n) (w.alloc (.cells (rowZ n 0).toArray 9)) := by
  obtain ⟨i0, hi, hz0, hz1, hz2⟩ := info_parts Tryz.infoStr
  have := run_make (P := Tryz.prog) w 26 9 i0 _ Tryz.underlying26 hi hz0 .i64 .i64 n n (by omega) (by omega) (by rw [hz2]; omega) (by omega)
  rw [this]
  simp only [Int.toNat_natCast, hz1, Nat.mul_one]
  have e : madeCells (Value.string ⟨#[]⟩).cells n = (rowZ n 0).toArray := by
    unfold rowZ
    apply Array.ext'
    simp [madeCells, Value.cells]
    apply List.ext_getElem
    · simp
    · intro i h1 h2
      simp [Nat.mod_one]
  rw [e]

set_option maxHeartbeats 8000000 in
set_option maxRecDepth 100000 in
theorem New_any (w : World) (k : Int) (n : Nat) (hn : mnI (mxI k 1) 2000 = (n : Int)) (h1 : 1 ≤ n) (h2 : n ≤ 2000) :
    Calls Tryz.prog 8 #[.int .i64 k] w fun e w' => ∃ p, e = .returned (.pointer (some ⟨p, 0, none⟩)) ∧ DskPost (fun _ => False) p w (newD n) w' := by
  have e1 : Builtin.max_ #[3, 3] 3 #[.int .i64 k, .int .i64 1] = (pure (.int .i64 (mxI k 1)) : Sem Value) := by rw [max_two, max2_int]; rfl
  have e2 : Builtin.min_ #[3, 3] 3 #[.int .i64 (mxI k 1), .int .i64 2000] = (pure (.int .i64 (n : Int)) : Sem Value) := by rw [min_two, min2_int, hn]; rfl
  have hmk := make_row w n h2
  have cr : Hid (∀ w, Calls Tryz.prog 35 #[.string ⟨#[0]⟩, .int .i64 64] w fun e w' => e = .returned (.string (zeroB 64)) ∧ Below w.heap.size w w') := fun w => Repeat_zeros 64 (by omega) w
  have HN := Lib.hid hn
  clear hn
  go_enter Tryz.func8, Tryz.ntmps8
  go_wp2
  clear hmk e1 e2
  have hb1 := Blk.new (w.alloc (.cells (rowZ n 0).toArray 9)) 74 #[.slice (some ⟨w.heap.size, 0, none⟩) n n, .slice none 0 0, .int .i64 (-1), .int .i64 0, .bool false]
  have hb2 := (Blk.new w 9 (rowZ n 0).toArray).alloc (.cells #[.slice (some ⟨w.heap.size, 0, none⟩) n n, .slice none 0 0, .int .i64 (-1), .int .i64 0, .bool false] 74)
  have hsz : (w.alloc (.cells (rowZ n 0).toArray 9)).heap.size = w.heap.size + 1 := by simp
  rw [hsz] at hb1
  have hbb : Below w.heap.size w ((w.alloc (.cells (rowZ n 0).toArray 9)).alloc (.cells #[.slice (some ⟨w.heap.size, 0, none⟩) n n, .slice none 0 0, .int .i64 (-1), .int .i64 0, .bool false] 74)) := ((Below.refl _ _).alloc (Nat.le_refl _) _).alloc (by omega) _
  replace hb1 := Lib.hid hb1
  replace hb2 := Lib.hid hb2
  replace hbb := Lib.hid hbb
  clear hsz
  go_loopw [16] (fun v16 wr => ∃ i : Nat, v16 = .int .i64 (i : Int) ∧ i ≤ n ∧ Hid (Below w.heap.size w wr) ∧ Hid (Blk wr (w.heap.size + 1) 74 #[.slice (some ⟨w.heap.size, 0, none⟩) n n, .slice none 0 0, .int .i64 (-1), .int .i64 0, .bool false]) ∧ Hid (Blk wr w.heap.size 9 (rowZ n i).toArray)) (fun v16 _ => n - (intOf v16).toNat)
  case atStart => exact ⟨0, rfl, Nat.zero_le _, hbb, hb1, hb2⟩
  case round =>
    clear hb1 hb2 hbb
    obtain ⟨i, rfl, hi, HB, HP, HR⟩ := hrel
    by_cases hlt : i < n
    · have c0 := HP.out.cell 0
      have c1 := HR.out.cell i
      have f1 := HR.out.frozen i
      have hrl : (rowZ n i).length = n := by unfold rowZ; simp; omega
      obtain ⟨u, hu⟩ : ∃ u, (rowZ n i)[i]? = some u := ⟨_, List.getElem?_eq_getElem (by omega)⟩
      rw [List.getElem?_toArray, hu] at c1
      have b0 : (0 : Int) ≤ (i : Int) := by omega
      have b1 : (i : Int) < (n : Int) := by omega
      have hp0 := HP.out.lt
      have hp1 := HR.out.lt
      change wr.cell? ⟨w.heap.size + 1, 0, none⟩ = some (.slice (some ⟨w.heap.size, 0, none⟩) n n) at c0
      clear hrl hu
      go_wp2_with (fail)
      go_region_held3 (fun w' => w'.cell? ⟨w.heap.size + 1, 0, none⟩ = some (.slice (some ⟨w.heap.size, 0, none⟩) n n))
        (first | go_keep | exact (HB1.out.cell (p := ⟨w.heap.size + 1, 0, none⟩) hp0).trans c0)
        (first | (go_at_call 35; (with_reducible refine (cr.out _).mono ?_); rintro e w1 ⟨rfl, hb⟩; have HB1 := Lib.hid ((show Below wr.heap.size wr wr.drew from ⟨rfl, rfl, rfl, Nat.le_refl _, fun _ _ => rfl⟩).trans hb); have c1' := (HB1.out.cell (p := ⟨w.heap.size, i, none⟩) hp1).trans c1; have f1' := (HB1.out.frozen (p := ⟨w.heap.size, i, none⟩) hp1).trans f1; clear hb))
      go_wp2
      go_roundw
      case rel =>
        refine ⟨i + 1, by go_num, by omega, ?_, ?_, ?_⟩
        · exact ((HB.out.trans (HB1.out.mono HB.out.size)).setCell (p := ⟨w.heap.size, i, none⟩) (Nat.le_refl _) _)
        · exact (HP.out.below HB1.out).far (p := ⟨w.heap.size, i, none⟩) (by show w.heap.size + 1 ≠ w.heap.size; omega) _
        · have := (HR.out.below HB1.out).set_ i (.string (zeroB 64))
          rw [List.setIfInBounds_toArray, rowZ_set n i hlt] at this
          exact this
      case measure => simp [intOf]; omega
    · obtain rfl : i = n := by omega
      go_wp2
      go_ret
      have hr : rowZ i i = (List.replicate i (zeroB 64)).map Value.string := by unfold rowZ; simp
      refine ⟨w.heap.size + 1, rfl, Save.of_below HB.out, w.heap.size, .slice none 0 0, ⟨?_, ?_, World.ownsRow_nil _ _ _ _, newD_ok i h1 h2⟩, ?_, ?_, fun k hk => by cases hk⟩
      · have := HP.out
        show Blk _ _ _ #[.slice (some ⟨w.heap.size, 0, none⟩) (newD i).sure.length (newD i).sure.length, .slice none 0 0, .int .i64 (-1), .int .i64 0, .bool false]
        have hl : (newD i).sure.length = i := by simp [newD]
        rw [hl]
        exact this
      · have := HR.out
        rw [hr] at this
        exact this
      · exact .inr ⟨by omega, HP.out.lt⟩
      · exact .inr ⟨by omega, HR.out.lt⟩
end Go.Proofs.YtjincmagbbpooaaGreatDoor
end

section
set_option linter.unusedVariables false
set_option linter.unusedSimpArgs false
namespace Go.Proofs.YtjincmagbbpooaaGreatDoor
open Go.RowKit

/-! ### one disk alone, from block B on -/
def Own (B : Nat) (w : World) (p : Nat) (D : DS) : Prop := Dsk w (fun k => B ≤ k ∧ k < w.heap.size) p D
theorem Own.ok {B : Nat} {w : World} {p : Nat} {D : DS} (h : Own B w p D) : D.ok := Dsk.ok h
theorem Own.base {B : Nat} {w : World} {p : Nat} {D : DS} (h : Own B w p D) : B ≤ w.heap.size := by
  obtain ⟨g, lv, hd, h1, -⟩ := h
  omega
theorem DskPost.own {B : Nat} {w w' : World} {p : Nat} {D : DS} (h : DskPost (fun k => B ≤ k ∧ k < w.heap.size) p w D w') (hB : B ≤ w.heap.size) : Below B w w' ∧ Own B w' p D := by
  obtain ⟨hs, hd⟩ := h
  refine ⟨⟨hs.os, hs.tape, hs.output, hs.size, fun k hk => hs.block k (by omega) (by omega)⟩, hd.mono fun k hk hp => ⟨?_, hk⟩⟩
  rcases hp with h | h <;> omega
theorem Own.below {B : Nat} {w w' : World} {p : Nat} {D : DS} (h : Own B w p D) (hb : Below w.heap.size w w') : Own B w' p D :=
  (Dsk.below h hb).mono fun k hk hp => ⟨hp.1, hk⟩
theorem New_own (w : World) (k : Int) (n : Nat) (hn : mnI (mxI k 1) 2000 = (n : Int)) (h1 : 1 ≤ n) (h2 : n ≤ 2000) :
    Calls Tryz.prog 8 #[.int .i64 k] w fun e w' => ∃ p, e = .returned (.pointer (some ⟨p, 0, none⟩)) ∧ Below w.heap.size w w' ∧ Own w.heap.size w' p (newD n) :=
  (New_any w k n hn h1 h2).mono fun e w' ⟨p, he, hs, hd⟩ => ⟨p, he, ⟨hs.os, hs.tape, hs.output, hs.size, fun k hk => hs.block k hk (fun h => h)⟩, hd.mono fun k hk hp => hp.elim False.elim (fun h => h)⟩
theorem Write_own (B : Nat) (w : World) (p : Nat) (D : DS) (i : Int) (b : ByteArray) (D' : DS) (c : Int) (er : Value) (hc : D.writeC i b = c) (he : errV c = er) (hD : D.write i b = D') (hdone : D.done < 1099511627776) (h : Own B w p D) :
    Calls Tryz.prog 11 #[.pointer (some ⟨p, 0, none⟩), .int .i64 i, .string b] w fun e w' => e = .returned er ∧ Below B w w' ∧ Own B w' p D' := by
  subst he hc hD
  exact (Write_any w _ p D i b hdone h).mono fun e w' ⟨he, hp⟩ => ⟨he, hp.own h.base⟩
theorem Write_set (F : Nat → Prop) (w : World) (p : Nat) (D : DS) (i : Int) (b : ByteArray) (D' : DS) (c : Int) (er : Value) (hc : D.writeC i b = c) (he : errV c = er) (hD : D.write i b = D') (hdone : D.done < 1099511627776) (h : Dsk w F p D) :
    Calls Tryz.prog 11 #[.pointer (some ⟨p, 0, none⟩), .int .i64 i, .string b] w fun e w' => e = .returned er ∧ Save F w w' ∧ Dsk w' (Plus F w w') p D' := by
  subst he hc hD
  exact (Write_any w _ p D i b hdone h).mono fun e w' ⟨he, hp⟩ => ⟨he, hp⟩
/-- A set between two blocks. -/
def Mid (B C : Nat) : Nat → Prop := fun k => B ≤ k ∧ k < C
theorem Save.mid {B C : Nat} {w w' : World} (h : Save (Mid B C) w w') (hB : B ≤ w.heap.size) : Below B w w' := ⟨h.os, h.tape, h.output, h.size, fun k hk => h.block k (by omega) (fun hm => by have := hm.1; omega)⟩
theorem Dsk.mid {B C : Nat} {w w' : World} {p : Nat} {D : DS} (h : Dsk w' (Plus (Mid B C) w w') p D) (hB : B ≤ w.heap.size) : Own B w' p D :=
  h.mono fun k hk hp => ⟨hp.elim (fun h => h.1) (fun h => by omega), hk⟩
theorem Read_own (B : Nat) (w : World) (p : Nat) (D : DS) (i : Int) (s : ByteArray) (c : Int) (er : Value) (hs : D.readS i = s) (hc : D.may i = c) (he : errV c = er) (h : Own B w p D) :
    Calls Tryz.prog 33 #[.pointer (some ⟨p, 0, none⟩), .int .i64 i] w fun e w' => e = .returned (.tuple #[.string s, er]) ∧ w = w' := by
  subst he hc hs
  exact Read_any w _ p D i h
theorem Flush_own (B : Nat) (w : World) (p : Nat) (D : DS) (D' : DS) (c : Int) (er : Value) (hc : D.flushC = c) (he : errV c = er) (hD : D.flush = D') (h : Own B w p D) :
    Calls Tryz.prog 46 #[.pointer (some ⟨p, 0, none⟩)] w fun e w' => e = .returned er ∧ Below B w w' ∧ Own B w' p D' := by
  subst he hc hD
  exact (Flush_any w _ p D h).mono fun e w' ⟨he, hp⟩ => ⟨he, hp.own h.base⟩
theorem Cut_own (B : Nat) (w : World) (p : Nat) (D : DS) (k : Int) (D' : DS) (hk : k ≤ 9223372036854775807) (hD : D.cut k = D') (h : Own B w p D) :
    Calls Tryz.prog 16 #[.pointer (some ⟨p, 0, none⟩), .int .i64 k] w fun e w' => e = .returned (.tuple #[]) ∧ Below B w w' ∧ Own B w' p D' := by
  subst hD
  exact (Cut_any w _ p D k hk h).mono fun e w' ⟨he, hp⟩ => ⟨he, hp.own h.base⟩
theorem Crash_own (B : Nat) (w : World) (p : Nat) (D : DS) (a : Option Addr) (n c : Nat) (l : List Bool) (torn : Int) (D' : DS) (hn : l.length = n) (hl : n ≤ 9223372036854775807) (hD : D.crash (keepOf l) torn = D') (hb : BoolsAt w a l) (hf : 0 < l.length → ∀ b off, a = some ⟨b, off, none⟩ → b < B) (h : Own B w p D) :
    Calls Tryz.prog 18 #[.pointer (some ⟨p, 0, none⟩), .slice a n c, .int .i64 torn] w fun e w' => e = .returned (.tuple #[]) ∧ Below B w w' ∧ Own B w' p D' := by
  subst hD hn
  exact (Crash_any w _ p D a c l torn hl h hb (fun hl b off e hk => by have := hf hl b off e; omega) (fun k hk => hk.2)).mono fun e w' ⟨he, hp⟩ => ⟨he, hp.own h.base⟩
theorem Len_own (B : Nat) (w : World) (p : Nat) (D : DS) (n : Int) (hn : (D.sure.length : Int) = n) (h : Own B w p D) :
    Calls Tryz.prog 36 #[.pointer (some ⟨p, 0, none⟩)] w fun e w' => e = .returned (.int .i64 n) ∧ w = w' := by
  subst hn
  exact Len_any w _ p D h
theorem Writes_own (B : Nat) (w : World) (p : Nat) (D : DS) (n : Int) (hn : (D.done : Int) = n) (h : Own B w p D) :
    Calls Tryz.prog 21 #[.pointer (some ⟨p, 0, none⟩)] w fun e w' => e = .returned (.int .i64 n) ∧ w = w' := by
  subst hn
  exact Writes_any w _ p D h
theorem below_same {B : Nat} {a b c : World} (h : Below B a b) (k : Below B b c) : Below B a c := h.trans k

end Go.Proofs.YtjincmagbbpooaaGreatDoor
end
