import Derived.Test.YtdjcomlpedokeaaT9
namespace Go.Proofs.Ytdjcomlpedokeaa
open Go.RowKit Go.Deep

/-- A Tree, its block, its root. -/
def TrIn (w : World) (tb : Nat) (T : TT) : Prop := w.heap[tb]? = some (.cells #[.pointer T.adr] 51 (0, 0)) ∧ T.In w
theorem TrIn.below {w w' : World} {tb : Nat} {T : TT} (h : TrIn w tb T) (hb : Below w.heap.size w w') : TrIn w' tb T := ⟨(hb.block _ (blk_lt h.1)).trans h.1, h.2.below hb⟩
theorem TrIn.cell {w : World} {tb : Nat} {T : TT} (h : TrIn w tb T) : w.cell? ⟨tb, 0, none⟩ = some (.pointer T.adr) := by rw [cellAt h.1]; rfl

theorem TT.adr_nil : TT.nil.adr = none := rfl
def TreePost (t : ST) (w : World) (e : Ending) (w' : World) : Prop := ∃ (tb : Nat) (T : TT), e = .returned (.pointer (some ⟨tb, 0, none⟩)) ∧ TrIn w' tb T ∧ T.strip = t ∧ Below w.heap.size w w'

theorem TrIn.new {w : World} {T : TT} (h : T.In w) : TrIn (w.alloc (.cells #[.pointer T.adr] 51)) w.heap.size T := ⟨blk_alloc_new w _, TT.In_alloc h⟩

set_option maxHeartbeats 4000000 in
set_option maxRecDepth 100000 in
theorem New_any (w : World) : Calls Try.prog 7 #[] w (TreePost .nil w) := by
  go_enter Try.func7, Try.ntmps7
  go_wp2
  go_ret
  exact ⟨w.heap.size, .nil, rfl, TrIn.new (T := .nil) trivial, rfl, (Below.refl _ w).alloc (Nat.le_refl _) _⟩

set_option maxHeartbeats 4000000 in
set_option maxRecDepth 100000 in
theorem With_any (tb : Nat) (T : TT) (key : ByteArray) (n : Int) (t : ST) (w : World) (h : TrIn w tb T) (ht : withS key n T.strip = some t) :
    Calls Try.prog 9 #[.pointer (some ⟨tb, 0, none⟩), .string key, .int .i64 n] w (TreePost t w) := by
  have f0 := h.cell
  have hT := h.2
  have HC := Lib.hid (with_any key n T w t hT ht)
  clear ht
  go_enter Try.func9, Try.ntmps9
  go_wp2_with ((go_at_call 21; refine HC.out.mono ?_; rintro e w1 ⟨Z, rfl, hZ, hs, hb⟩; have hs1 := Lib.hid hs; clear hs))
  go_ret
  exact ⟨w1.heap.size, Z, rfl, TrIn.new hZ, hs1.out, hb.alloc hb.size _⟩

set_option maxHeartbeats 4000000 in
set_option maxRecDepth 100000 in
theorem Without_none (tb : Nat) (T : TT) (key : ByteArray) (w : World) (h : TrIn w tb T) (hf : findS key T.strip = .nil) :
    Calls Try.prog 8 #[.pointer (some ⟨tb, 0, none⟩), .string key] w (TreePost T.strip w) := by
  have f0 := h.cell
  have HC := Lib.hid (find_any key T w h.2)
  have hf1 := Lib.hid hf
  clear hf
  go_enter Try.func8, Try.ntmps8
  go_wp2_with ((go_at_call 19; refine HC.out.mono ?_; rintro e w1 ⟨F, rfl, hF, hs, rfl⟩; rw [hf1.out] at hs; obtain rfl : F = .nil := (by cases F with | nil => rfl | node => cases hs); simp only [TT.adr_nil]))
  go_ret
  exact ⟨tb, T, rfl, h, rfl, Below.refl _ _⟩

set_option maxHeartbeats 4000000 in
set_option maxRecDepth 100000 in
theorem Without_some (tb : Nat) (T : TT) (key : ByteArray) (t : ST) (w : World) (h : TrIn w tb T) (hf : findS key T.strip ≠ .nil) (ht : withoutS T.strip key = some t) :
    Calls Try.prog 8 #[.pointer (some ⟨tb, 0, none⟩), .string key] w (TreePost t w) := by
  have f0 := h.cell
  have HC := Lib.hid (find_any key T w h.2)
  have HD := Lib.hid (without_any T w key t h.2 ht)
  have hf1 := Lib.hid hf
  clear hf ht
  go_enter Try.func8, Try.ntmps8
  go_wp2_with (first
    | (go_at_call 19; refine HC.out.mono ?_; rintro e w1 ⟨F, rfl, hF, hs, rfl⟩; obtain ⟨fb, hfb⟩ : ∃ a, F.adr = some a := (by cases F with | nil => exact absurd hs.symm hf1.out | node b => exact ⟨⟨b, 0, none⟩, rfl⟩); rw [hfb]; clear hfb; have hs1 := Lib.hid hs; clear hs)
    | (go_at_call 20; refine HD.out.mono ?_; rintro e w1 ⟨Z, rfl, hZ, hs, hb⟩; have hs1 := Lib.hid hs; clear hs))
  go_ret
  exact ⟨w1.heap.size, Z, rfl, TrIn.new hZ, hs1.out, hb.alloc hb.size _⟩

set_option maxHeartbeats 4000000 in
set_option maxRecDepth 100000 in
theorem Get_none (tb : Nat) (T : TT) (key : ByteArray) (w : World) (h : TrIn w tb T) (hf : findS key T.strip = .nil) :
    Calls Try.prog 14 #[.pointer (some ⟨tb, 0, none⟩), .string key] w fun e w' => e = .returned (.tuple #[.int .i64 0, .bool false]) ∧ w = w' := by
  have f0 := h.cell
  have HC := Lib.hid (find_any key T w h.2)
  have hf1 := Lib.hid hf
  clear hf
  go_enter Try.func14, Try.ntmps14
  go_wp2_with ((go_at_call 19; refine HC.out.mono ?_; rintro e w1 ⟨F, rfl, hF, hs, rfl⟩; rw [hf1.out] at hs; obtain rfl : F = .nil := (by cases F with | nil => rfl | node => cases hs); simp only [TT.adr_nil]))
  go_ret2
  exact ⟨rfl, rfl⟩

set_option maxHeartbeats 4000000 in
set_option maxRecDepth 100000 in
theorem Get_some (tb : Nat) (T : TT) (key : ByteArray) (w : World) (h : TrIn w tb T) (k : ByteArray) (n : Int) (l r : ST) (d c : Int) (hf : findS key T.strip = .node k n l r d c) :
    Calls Try.prog 14 #[.pointer (some ⟨tb, 0, none⟩), .string key] w fun e w' => e = .returned (.tuple #[.int .i64 n, .bool true]) ∧ w = w' := by
  have f0 := h.cell
  have HC := Lib.hid (find_any key T w h.2)
  have hf1 := Lib.hid hf
  clear hf
  go_enter Try.func14, Try.ntmps14
  go_wp2_with ((go_at_call 19; refine HC.out.mono ?_; rintro e w1 ⟨F, rfl, hF, hs, rfl⟩; rw [hf1.out] at hs; obtain ⟨fb, hfb, hfc⟩ : ∃ b, F.adr = some ⟨b, 0, none⟩ ∧ w.cell? ⟨b, 1, none⟩ = some (.int .i64 n) := (by cases F with | nil => cases hs | node b => simp only [TT.strip, ST.node.injEq] at hs; obtain ⟨_, rfl, _⟩ := hs; exact ⟨b, rfl, (TT.cells hF).2.1⟩); rw [hfb]; clear hfb; clear hs))
  go_ret2
  exact ⟨rfl, rfl⟩

set_option maxHeartbeats 4000000 in
set_option maxRecDepth 100000 in
theorem Len_any (tb : Nat) (T : TT) (w : World) (h : TrIn w tb T) :
    Calls Try.prog 17 #[.pointer (some ⟨tb, 0, none⟩)] w fun e w' => e = .returned (.int .i64 T.strip.count) ∧ w = w' := by
  have f0 := h.cell
  have HC := Lib.hid (many_any T w h.2)
  rw [TT.strip_count]
  go_enter Try.func17, Try.ntmps17
  go_wp2_with ((go_at_call 24; refine HC.out.mono ?_; rintro e w1 ⟨rfl, rfl⟩))
  go_ret
  exact ⟨rfl, rfl⟩

set_option maxHeartbeats 4000000 in
set_option maxRecDepth 100000 in
theorem Deep_any (tb : Nat) (T : TT) (w : World) (h : TrIn w tb T) :
    Calls Try.prog 13 #[.pointer (some ⟨tb, 0, none⟩)] w fun e w' => e = .returned (.int .i64 T.strip.deep) ∧ w = w' := by
  have f0 := h.cell
  have HC := Lib.hid (depth_any T w h.2)
  rw [TT.strip_deep]
  go_enter Try.func13, Try.ntmps13
  go_wp2_with ((go_at_call 22; refine HC.out.mono ?_; rintro e w1 ⟨rfl, rfl⟩))
  go_ret
  exact ⟨rfl, rfl⟩

end Go.Proofs.Ytdjcomlpedokeaa
