import Derived.Test.YtfmgafpgajlddaaDoorP4
set_option linter.unusedVariables false
set_option linter.unusedSimpArgs false
namespace Go.Proofs.YtfmgafpgajlddaaDoor
open Go.RowKit

/-! ### the contracts at given answers -/
theorem Take_is (s : ByteArray) (z : Int) (n : Nat) (r : ByteArray) (c : Int) (er : Value) (hz : (n : Int) = z) (he : errV c = er) (hs : s.size ≤ 9223372036854775807) (h : numS s = (n, s.size - r.size, c) ∧ dropB s (s.size - r.size) = r) (w : World) :
    Calls Tryd.prog 14 #[.string s] w fun e w' => e = .returned (.tuple #[.int .i64 z, .string r, er]) ∧ Below w.heap.size w w' := by
  refine (Take_any s hs w).mono ?_
  rintro e w' ⟨rfl, m, rfl⟩
  rw [h.1, ← hz, ← he]
  rw [show dropB s (n, s.size - r.size, c).2.1 = r from h.2]
  exact ⟨rfl, below_drewN w m⟩
theorem TakeText_is (s : ByteArray) (most : Int) (a b : ByteArray) (c : Int) (er : Value) (he : errV c = er) (hs : s.size ≤ 9223372036854775807) (h : textR s most = (a, b, c)) (w : World) (hg : ErrVar w) :
    Calls Tryd.prog 15 #[.string s, .int .i64 most] w fun e w' => e = .returned (.tuple #[.string a, .string b, er]) ∧ Below w.heap.size w w' := by
  have := TakeText_any s most hs w hg
  rw [h] at this
  rw [← he]
  exact this
theorem strN_128 : strN (numB 128) = ⟨#[128, 1]⟩ := by
  rw [numB_great (by decide), numB_small (by decide)]
  rfl
theorem take_num (m : Nat) (more : ByteArray) (h : m < 72057594037927936) : numS (strN (numB m) ++ more) = (m, (strN (numB m) ++ more).size - more.size, 0) ∧ dropB (strN (numB m) ++ more) ((strN (numB m) ++ more).size - more.size) = more := by
  have e : (strN (numB m) ++ more).size - more.size = (strN (numB m)).size := by rw [ByteArray.size_append]; omega
  rw [e, numS_back m more h, strN_size]
  exact ⟨rfl, by rw [← strN_size (numB m)]; exact dropB_append _ _⟩

theorem is_same (c : Int) (hc : c ≠ 0) (w : World) : Calls Tryd.prog 16 #[.iface 34 (.int .i64 c), .iface 34 (.int .i64 c)] w fun e w' => e = .returned (.bool true) ∧ w = w' := is_yes c w

set_option maxHeartbeats 8000000 in
set_option maxRecDepth 100000 in
theorem known_any (w : World) (hg : ErrVar w) : Calls Tryd.prog 11 #[] w fun e w' => e = .returned (.bool true) ∧ Below w.heap.size w w' := by
  have e128 := strN_128
  have c1 := Num_any 128 128 (by decide) (by omega)
  have c2 := Take_is (strN (numB 128) ++ ⟨#[120]⟩) 128 128 ⟨#[120]⟩ 0 .nilIface rfl rfl (by rw [strN_128]; decide) (take_num 128 _ (by omega))
  generalize strN (numB 128) = s1 at e128 c1 c2
  have t0 : (s1.toList == [128, 1]) = true := by rw [e128, show (⟨#[128, 1]⟩ : ByteArray).toList = [128, 1] by simp [ByteArray.toList, ByteArray.toList.loop, ByteArray.size, ByteArray.get!]]; decide
  have z1 : s1.size = 2 := by rw [e128]; rfl
  have t1 : textS ⟨#[97, 98]⟩ = ⟨#[2, 97, 98]⟩ := by unfold textS; rw [numB_small (by decide)]; decide
  have t2 : textS ⟨#[97, 98, 99]⟩ = ⟨#[3, 97, 98, 99]⟩ := by unfold textS; rw [numB_small (by decide)]; decide
  have c3 := Text_any ⟨#[97, 98]⟩ (by decide)
  have c4 := TakeText_is (textS ⟨#[97, 98]⟩ ++ ⟨#[121]⟩) 5 ⟨#[97, 98]⟩ ⟨#[121]⟩ 0 .nilIface rfl (by rw [t1]; decide) (textR_back _ _ 5 (by decide) (by decide))
  have c5 := Take_is ⟨#[]⟩ 0 0 ⟨#[]⟩ 11 (.iface 34 (.int .i64 11)) rfl rfl (by decide) ⟨by decide, by decide⟩
  have c6 := Text_any ⟨#[97, 98, 99]⟩ (by decide)
  have c7 := TakeText_is (textS ⟨#[97, 98, 99]⟩) 2 ⟨#[]⟩ (textS ⟨#[97, 98, 99]⟩) 13 (.iface 34 (.int .i64 13)) rfl (by rw [t2]; decide) (by rw [t2]; decide)
  generalize textS ⟨#[97, 98]⟩ = s2 at t1 c3 c4
  generalize textS ⟨#[97, 98, 99]⟩ = s3 at t2 c6 c7
  have z2 : s2.size = 3 := by rw [t1]; rfl
  clear e128 t1 t2
  replace c1 := Lib.hid c1
  replace c2 := Lib.hid c2
  replace c3 := Lib.hid c3
  replace c4 := Lib.hid c4
  replace c5 := Lib.hid c5
  replace c6 := Lib.hid c6
  replace c7 := Lib.hid c7
  have HG := Lib.hid hg
  clear hg
  go_enter Tryd.func11, Tryd.ntmps11
  have HB := Lib.hid (Below.refl w.heap.size w)
  go_wp2_with (first
    | (go_at_call 12; with_reducible refine (c1.out _).mono ?_; rintro e w1 ⟨rfl, hb⟩; replace HG := Lib.hid (HG.out.below hb); replace HB := Lib.hid (below_step HB.out hb); clear hb)
    | (go_at_call 14; with_reducible refine (c2.out _).mono ?_; rintro e w1 ⟨rfl, hb⟩; replace HG := Lib.hid (HG.out.below hb); replace HB := Lib.hid (below_step HB.out hb); clear hb)
    | (go_at_call 14; with_reducible refine (c5.out _).mono ?_; rintro e w1 ⟨rfl, hb⟩; replace HG := Lib.hid (HG.out.below hb); replace HB := Lib.hid (below_step HB.out hb); clear hb)
    | (go_at_call 13; with_reducible refine (c3.out _).mono ?_; rintro e w1 ⟨rfl, hb⟩; replace HG := Lib.hid (HG.out.below hb); replace HB := Lib.hid (below_step HB.out hb); clear hb)
    | (go_at_call 13; with_reducible refine (c6.out _).mono ?_; rintro e w1 ⟨rfl, hb⟩; replace HG := Lib.hid (HG.out.below hb); replace HB := Lib.hid (below_step HB.out hb); clear hb)
    | (go_at_call 15; with_reducible refine (c4.out _ HG.out).mono ?_; rintro e w1 ⟨rfl, hb⟩; replace HG := Lib.hid (HG.out.below hb); replace HB := Lib.hid (below_step HB.out hb); clear hb)
    | (go_at_call 15; with_reducible refine (c7.out _ HG.out).mono ?_; rintro e w1 ⟨rfl, hb⟩; replace HG := Lib.hid (HG.out.below hb); replace HB := Lib.hid (below_step HB.out hb); clear hb)
    | (go_at_call 16; refine (is_yes _ _).mono ?_; rintro e w1 ⟨rfl, rfl⟩))
  go_ret
  exact ⟨rfl, HB.out⟩
end Go.Proofs.YtfmgafpgajlddaaDoor
