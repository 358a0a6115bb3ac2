import Derived.Test.YtjincmagbbpooaaGreatDoorM14
import Derived.Lib.FrozenHead

section
set_option linter.unusedVariables false
set_option linter.unusedSimpArgs false
namespace Go.Proofs.YtjincmagbbpooaaGreatDoor
open Go.RowKit

/-! ### strings.Builder, written on -/
set_option maxHeartbeats 2000000 in
set_option maxRecDepth 100000 in
theorem bcheck_used (b : Nat) (w : World) (h0 : w.cell? ⟨b, 0, none⟩ = some (.pointer (some ⟨b, 0, none⟩))) :
    Calls Tryz.prog 74 #[.pointer (some ⟨b, 0, none⟩)] w fun e w' => e = .returned (.tuple #[]) ∧ w' = w := by
  obtain ⟨j, hj, _⟩ := Option.map_eq_some_iff.1 Tryz.Builder_Extra_169.sizeBuilder
  go_enter Tryz.func74, Tryz.ntmps74
  go_wp2
  rw [Lib.run_neq_ptr_same w _ Tryz.underlying78 hj]
  go_wp2
  go_end0
  exact ⟨rfl, rfl⟩
set_option maxHeartbeats 2000000 in
set_option maxRecDepth 100000 in
theorem bcheck_fresh (b : Nat) (w : World) (h0 : w.cell? ⟨b, 0, none⟩ = some (.pointer none)) (hsh : w.shape? b = some (81, 2)) (hfz : w.frozen? ⟨b, 0, none⟩ = false) :
    Calls Tryz.prog 74 #[.pointer (some ⟨b, 0, none⟩)] w fun e w' => e = .returned (.tuple #[]) ∧ w' = w.setCell ⟨b, 0, none⟩ (.pointer (some ⟨b, 0, none⟩)) := by
  obtain ⟨j, hj, hjs⟩ := Option.map_eq_some_iff.1 Tryz.Builder_Extra_169.sizeBuilder
  go_enter Tryz.func74, Tryz.ntmps74
  go_wp2
  rw [Lib.run_to_unsafe w ⟨b, 0, none⟩ Tryz.underlying78 Tryz.underlying135 hj (by rw [hjs]; decide) hsh (Nat.zero_lt_succ 1)]
  simp only [Result.andThen]
  rw [Oper.upon_value]
  go_wp2
  rw [run_callFunc_extern Tryz.func97 (by kernel_rfl) (by kernel_rfl) (by kernel_rfl) (e := Extern.AbiNoEscape.same) (by kernel_rfl)]
  rw [Lib.run_noEscape]
  simp only [Result.andThen]
  rw [Oper.upon_value]
  go_wp2
  rw [Lib.run_from_unsafe w ⟨b, 0, none⟩ Tryz.underlying135 Tryz.underlying78 hj hsh Tryz.Builder_Extra_169.liesBuilder]
  simp only [Result.andThen]
  rw [Oper.upon_value]
  go_wp2
  go_end0
  exact ⟨rfl, rfl⟩
theorem bcheck_any (B b : Nat) (bs : List Value) (w : World) (h : Lib.IsBuilderF 81 5 B b bs w) :
    Calls Tryz.prog 74 #[.pointer (some ⟨b, 0, none⟩)] w fun e w' => e = .returned (.tuple #[]) ∧ (Lib.BuilderAtF 81 5 B b (.pointer (some ⟨b, 0, none⟩)) bs w' ∧ Below B w w') := by
  rcases h with h | h
  · refine (bcheck_fresh b w h.cell0 h.shape h.frozen0).mono ?_
    rintro e w' ⟨rfl, rfl⟩
    exact ⟨rfl, h.used _, (Below.refl B w).setCell (p := ⟨b, 0, none⟩) h.1 _⟩
  · refine (bcheck_used b w h.cell0).mono ?_
    rintro e w' ⟨rfl, rfl⟩
    exact ⟨rfl, h, Below.refl B _⟩
set_option maxHeartbeats 4000000 in
set_option maxRecDepth 100000 in
theorem bwrite_any (B b : Nat) (bs : List Value) (s : ByteArray) (w : World) (h : Lib.IsBuilderF 81 5 B b bs w) (hlen : bs.length + s.size ≤ 140737488355328) (hBw : B ≤ w.heap.size) :
    Calls Tryz.prog 40 #[.pointer (some ⟨b, 0, none⟩), .string s] w fun e w' => e = .returned (.tuple #[.int .i64 s.size, .nilIface]) ∧ (Lib.BuilderAtF 81 5 B b (.pointer (some ⟨b, 0, none⟩)) (bs ++ Lib.strCells s) w' ∧ Below B w w') := by
  obtain ⟨i0, hi, hz0, hz1, hz2⟩ := info_parts Tryz.Builder_Extra_169.infoByte
  have cc := bcheck_any B b bs w h
  clear h
  go_enter Tryz.func40, Tryz.ntmps40
  go_wp2_with (go_at_call 74; refine cc.mono ?_)
  rintro e w1 ⟨rfl, h1, hb1⟩
  obtain ⟨hB, v, hbk, hown, hne⟩ := h1
  have c0 : w1.cell? ⟨b, 0, none⟩ = some (.pointer (some ⟨b, 0, none⟩)) := by rw [Lib.cell_of_heap hbk]; rfl
  have c1 : w1.cell? ⟨b, 1, none⟩ = some v := by rw [Lib.cell_of_heap hbk]; rfl
  go_wp2_with (at_builtin; refine Lib.wpList_append_own_stringF _ rfl _ _ 79 9 rfl B 5 i0 Tryz.underlying79 Tryz.underlying9 hi hz0 hz1 hz2 _ _ _ rfl hown s rfl ?c3 ?c4 ?c5 ?_)
  case c3 => unfold maxLen; omega
  case c4 => omega
  case c5 => have := hb1.size; omega
  intro v' w2 hown' hgrow _
  have hlt : b < w1.heap.size := by
    rcases Nat.lt_or_ge b w1.heap.size with h' | h'
    · exact h'
    · simp [Array.getElem?_eq_none h'] at hbk
  have hb2 : w2.heap[b]? = some (.cells #[.pointer (some ⟨b, 0, none⟩), v] 81 (0, 0)) := by
    rw [hgrow.block b hlt (fun e => hne e.symm)]
    exact hbk
  have d0 : w2.cell? ⟨b, 0, none⟩ = some (.pointer (some ⟨b, 0, none⟩)) := by rw [Lib.cell_of_heap hb2]; rfl
  have d1 : w2.cell? ⟨b, 1, none⟩ = some v := by rw [Lib.cell_of_heap hb2]; rfl
  have f1 : w2.frozen? ⟨b, 1, none⟩ = false := Lib.frozen_of_heap hb2 1
  obtain ⟨ao, n', cap, rfl⟩ : ∃ ao n' cap, v' = .slice ao n' cap := by
    rcases hown'.2 with ⟨hv, _⟩ | ⟨g, cap, cur, fz, hv, _⟩
    · exact ⟨_, _, _, hv⟩
    · exact ⟨_, _, _, hv⟩
  go_wp2
  go_ret2
  refine ⟨rfl, ?_, ?_⟩
  · exact Lib.BuilderAtF.put (T := 81) (e := 5) hB hb2 (bs' := bs ++ Lib.strCells s) (by simpa [Lib.strCells_length] using hown') Tryz.Builder_Extra_169.neB5
  · exact (hb1.grown hgrow (by have := hb1.size; omega) (fun k hk => (hown.lt k hk).1)).setCell (p := ⟨b, 1, none⟩) hB _
end Go.Proofs.YtjincmagbbpooaaGreatDoor
end

section
set_option linter.unusedVariables false
set_option linter.unusedSimpArgs false
namespace Go.Proofs.YtjincmagbbpooaaGreatDoor
open Go.RowKit

/-! ### what Open comes to -/
/-- All bytes of so many sectors of a half. -/
def DS.joinP (D : DS) (which : Nat) : Nat → ByteArray
  | 0 => ⟨#[]⟩
  | i + 1 => D.joinP which i ++ D.readS (D.sec which i : Int)
/-- The disk behind, the error, the journal, its records. -/
def DS.opens (D : DS) : DS × Int × JS × List ByteArray :=
  if D.sure.length < 4 then (D, 14, ⟨0, 0, ⟨#[]⟩, 0, false⟩, [])
  else if D.newest.2.2 ≠ 0 then (D, D.newest.2.2, ⟨0, 0, ⟨#[]⟩, 0, false⟩, [])
  else
    let all := D.joinP D.newest.2.1 D.half
    let r := recsOf D.newest.1 all
    let b := all.extract 0 (all.size - r.2.size)
    let x := D.diff D.newest.2.1 b (b.size / 64)
    let y : DS × Int := if x.2.2 = 0 ∧ 0 < x.2.1 then (x.1.flush, x.1.flushC) else (x.1, x.2.2)
    (y.1, y.2, ⟨D.newest.1, D.newest.2.1, b, r.1.length, false⟩, r.1)
def jCells (p : Nat) (J : JS) : Array Value := #[.pointer (some ⟨p, 0, none⟩), .int .i64 (J.turn : Int), .int .i64 (J.which : Int), .string J.b, .int .i64 (J.n : Int), .bool J.dead]
def strsV (l : List ByteArray) : List Value := l.map Value.string
def JOpenPost (F : Nat → Prop) (p : Nat) (R : DS × Int × JS × List ByteArray) (w : World) (e : Ending) (w' : World) : Prop :=
  DskPost F p w R.1 w' ∧ ((R.2.1 ≠ 0 ∧ e = .returned (.tuple #[.pointer none, .slice none 0 0, errV R.2.1])) ∨
    (R.2.1 = 0 ∧ ∃ q v, e = .returned (.tuple #[.pointer (some ⟨q, 0, none⟩), v, .nilIface]) ∧ w.heap.size ≤ q ∧ Blk w' q 87 (jCells p R.2.2.1) ∧ w'.ownsRow w.heap.size 9 1 v R.2.2.2.length (strsV R.2.2.2) ∧
      ∃ G : Nat → Prop, Dsk w' G p R.1 ∧ (∀ k, G k → F k ∨ (w.heap.size ≤ k ∧ k < w'.heap.size)) ∧ (∀ g, v.ownBlock = some g → ¬ G g) ∧ ¬ G q))

theorem readB_half (b : ByteArray) : (readB b).2 ≤ 1 := by
  unfold readB
  split
  · exact Nat.zero_le _
  split
  · exact Nat.zero_le _
  · rename_i h
    simp only
    omega
theorem newer_half {x y : Nat × Nat} (hx : x.2 ≤ 1) (hy : y.2 ≤ 1) : (newer x y).2 ≤ 1 := by unfold newer; split <;> assumption
theorem newest_half (D : DS) : D.newest.2.1 ≤ 1 := by
  unfold DS.newest
  split
  · exact Nat.zero_le _
  split
  · exact Nat.zero_le _
  split
  · exact Nat.zero_le _
  · exact newer_half (newer_half (Nat.zero_le _) (readB_half _)) (readB_half _)
theorem newest_ok {D : DS} (h : D.newest.2.2 = 0) : D.may 0 = 0 ∧ D.dead = false := by
  have h0 : D.may 0 = 0 := by
    unfold DS.newest at h
    by_cases h0 : D.may 0 ≠ 0
    · rw [if_pos h0] at h; exact h
    · exact Classical.byContradiction h0
  exact ⟨h0, (DS.may_zero.1 h0).1⟩
theorem sec_lt {D : DS} {which i : Nat} (hw : which ≤ 1) (hi : i < D.half) : D.sec which i < D.sure.length := by
  unfold DS.sec
  have hm : which * D.half ≤ 1 * D.half := Nat.mul_le_mul_right _ hw
  unfold DS.half at *
  omega
theorem may_sec {D : DS} (hd : D.dead = false) {which i : Nat} (hw : which ≤ 1) (hi : i < D.half) : D.may (D.sec which i : Int) = 0 :=
  DS.may_zero.2 ⟨hd, by omega, by have := sec_lt hw hi; omega⟩
theorem joinP_size {D : DS} (h : D.ok) (which : Nat) : ∀ i, (D.joinP which i).size ≤ i * 64
  | 0 => Nat.le_refl _
  | i + 1 => by
    have h1 := joinP_size h which i
    have h2 := readS_64 h (D.sec which i : Int)
    unfold DS.joinP
    rw [ByteArray.size_append]
    omega
theorem textR_more {s : ByteArray} {m : Int} (h : (textR s m).2.2 = 0) : (textR s m).2.1.size + 1 ≤ s.size := by
  unfold textR at h ⊢
  by_cases h1 : (numS s).2.2 ≠ 0
  · rw [if_pos h1] at h; exact absurd h h1
  rw [if_neg h1] at h ⊢
  by_cases h2 : m < ((numS s).1 : Int)
  · rw [if_pos h2] at h; cases h
  rw [if_neg h2] at h ⊢
  by_cases h3 : (dropB s (numS s).2.1).size < (numS s).1
  · rw [if_pos h3] at h; cases h
  rw [if_neg h3]
  have := numF_one s 8 0 0 1 (Classical.byContradiction h1)
  have h4 : 1 ≤ (numS s).2.1 := this.1
  have h5 : 1 ≤ s.size := this.2
  simp only [dropB_size]
  omega
theorem openR_more {s : ByteArray} {k : Int} (h : (openR s k).2.2 = 0) : (openR s k).2.1.size + 1 ≤ s.size := by
  unfold openR at h ⊢
  by_cases h1 : (textR s 2020).2.2 ≠ 0
  · rw [if_pos h1] at h; exact absurd h h1
  have h0 := textR_more (Classical.byContradiction h1)
  rw [if_neg h1] at h ⊢
  by_cases h2 : (textR s 2020).2.1.size < 4
  · rw [if_pos h2] at h; cases h
  rw [if_neg h2] at h ⊢
  by_cases h3 : sumB (takeB s (s.size - (textR s 2020).2.1.size)) ≠ takeB (textR s 2020).2.1 4
  · rw [if_pos h3] at h; cases h
  rw [if_neg h3] at h ⊢
  by_cases h4 : (numS (textR s 2020).1).2.2 ≠ 0
  · rw [if_pos h4] at h; exact absurd h h4
  rw [if_neg h4] at h ⊢
  by_cases h5 : ((numS (textR s 2020).1).1 : Int) ≠ k
  · rw [if_pos h5] at h; cases h
  rw [if_neg h5]
  simp only [dropB_size]
  omega
theorem recsF_keep (turn : Nat) : ∀ (f k : Nat) (s : ByteArray), (recsF turn f k s).2.size + (recsF turn f k s).1.length ≤ s.size
  | 0, k, s => Nat.le_refl _
  | f + 1, k, s => by
    unfold recsF
    by_cases h : (openR s ((turn * 1000000 + k : Nat) : Int)).2.2 ≠ 0
    · rw [if_pos h]; exact Nat.le_refl _
    · rw [if_neg h]
      have h1 := recsF_keep turn f (k + 1) (openR s ((turn * 1000000 + k : Nat) : Int)).2.1
      have h2 := openR_more (Classical.byContradiction h)
      simp only [List.length_cons]
      omega
end Go.Proofs.YtjincmagbbpooaaGreatDoor
end
