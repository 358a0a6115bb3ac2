import Derived.Test.YtjincmagbbpooaaGreatDoorJW
import Derived.Test.YtjincmagbbpooaaGreatDoorJX
set_option linter.unusedVariables false
set_option linter.unusedSimpArgs false
namespace Go.Proofs.YtjincmagbbpooaaGreatDoor
open Go.RowKit

theorem framesB_app (turn : Nat) : ∀ (xs ys : List ByteArray) (k : Nat), framesB turn k (xs ++ ys) = framesB turn k xs ++ framesB turn (k + xs.length) ys
  | [], ys, k => by
    show framesB turn k ys = (⟨#[]⟩ : ByteArray) ++ framesB turn k ys
    exact (empty_append _).symm
  | x :: xs, ys, k => by
    show wrapS _ x ++ framesB turn (k + 1) (xs ++ ys) = (wrapS _ x ++ framesB turn (k + 1) xs) ++ _
    rw [framesB_app turn xs ys (k + 1), append_assocB, List.length_cons]
    congr 3
    omega
theorem framesB_le (turn : Nat) (xs ys : List ByteArray) : (framesB turn 0 xs).size ≤ (framesB turn 0 (xs ++ ys)).size := by
  rw [framesB_app, ByteArray.size_append]
  omega
/-- What adding comes to. -/
structure Added (D : DS) (J : JS) (rs : List ByteArray) (n : Nat) (D' : DS) (J' : JS) : Prop where
  good : Good D' J' rs
  live : Live D'
  sure : D'.sure = D.sure
  done : D'.done ≤ D.done + 1000 * n
  turn : J'.turn = J.turn

set_option maxHeartbeats 16000000 in
set_option maxRecDepth 100000 in
theorem adds_good (B p : Nat) (D : DS) (J : JS) (rs l : List ByteArray) (n : Nat) (hn : n = l.length) (G : Good D J rs) (L : Live D) (hs : ∀ r ∈ l, r.size ≤ 1000) (hf : (framesB J.turn 0 (rs ++ l)).size ≤ D.half * 64) (hr : rs.length + n ≤ 1000) (hd : D.done + 1000 * n < 1099400000000)
    (a : Option Addr) (c : Nat) (w : World) (q : Nat) (hg : ErrVar w) (hgB : 0 < B) (ho : One B w p q D J) (ha : LowSl B w a l) :
    Calls Tryz.prog 14 #[.pointer (some ⟨q, 0, none⟩), .slice a n c] w fun e w' => ∃ D' J', e = .returned (.bool true) ∧ Below B w w' ∧ One B w' p q D' J' ∧ Added D J (rs ++ l) n D' J' := by
  have HA := Lib.hid (And.intro hn (And.intro ha (And.intro hs hf)))
  have HG := Lib.hid (And.intro hg hgB)
  have HD := Lib.hid (And.intro hr hd)
  have hn1000 : n ≤ 1000 := by omega
  have HO := Lib.hid ho
  have HGL := Lib.hid (And.intro G L)
  clear hn ha hs hf hg hgB hr hd ho G L
  go_enter Tryz.func14, Tryz.ntmps14
  go_upto_region 2 with fail
  go_loopw [5] (fun v5 wr => ∃ (k : Nat) (D1 : DS) (J1 : JS), v5 = .int .i64 (k : Int) ∧ k ≤ n ∧ Hid (One B wr p q D1 J1) ∧ Hid (Added D J (rs ++ l.take k) k D1 J1) ∧ Hid (Below B w wr)) (fun v5 _ => n - (intOf v5).toNat)
  case atStart => exact ⟨0, D, J, rfl, Nat.zero_le _, HO, Lib.hid ⟨by rw [List.take_zero, List.append_nil]; exact HGL.out.1, HGL.out.2, rfl, Nat.le_add_right _ _, rfl⟩, Lib.hid (Below.refl _ _)⟩
  case round =>
    clear HO
    obtain ⟨k, D1, J1, rfl, hk, HO, HA1, HB⟩ := hrel
    by_cases hlt : k < n
    · obtain ⟨r, hr⟩ : ∃ r, l[k]? = some r := ⟨_, List.getElem?_eq_getElem (by rw [← HA.out.1]; exact hlt)⟩
      obtain ⟨ab, ao, rfl, c0⟩ := (HA.out.2.1.keep HB.out).sl k r hr
      simp only [mkS] at c0
      have q0 : (0 : Int) ≤ (k : Int) := by omega
      have q1 : (k : Int) < (n : Int) := by omega
      have hrz := HA.out.2.2.1 r (List.mem_of_getElem? hr)
      have htk : rs ++ l.take (k + 1) = (rs ++ l.take k) ++ [r] := by rw [List.take_add_one, hr, List.append_assoc]; rfl
      have hd1 := HA1.out.done
      have hd2 := HD.out
      have hhalf : D1.half = D.half := half_eq (by rw [HA1.out.sure])
      have hfit : (framesB J1.turn 0 ((rs ++ l.take k) ++ [r])).size ≤ D1.half * 64 := by
        rw [← htk, HA1.out.turn, hhalf]
        have := framesB_le J.turn (rs ++ l.take (k + 1)) (l.drop (k + 1))
        rw [List.append_assoc, List.take_append_drop] at this
        exact Nat.le_trans this HA.out.2.2.2
      have hlen : (rs ++ l.take k).length + 1 ≤ 1000 := by rw [List.length_append, List.length_take]; omega
      obtain ⟨D2, e2, G2, L2, s2, d2⟩ := add_good HA1.out.good HA1.out.live hrz hfit hlen (by omega)
      have cA := Lib.hid (jAdd_good B p D1 D2 J1 _ (rs ++ l.take k) r HA1.out.good hrz (by omega) e2 wr q (errv_own HG.out.1 HB.out HG.out.2) HG.out.2 HO.out)
      have HA2 : Hid (Added D J (rs ++ l.take (k + 1)) (k + 1) D2 ⟨J1.turn, J1.which, framesB J1.turn 0 ((rs ++ l.take k) ++ [r]), (rs ++ l.take k).length + 1, false⟩) := Lib.hid ⟨by rw [htk]; exact G2, L2, s2.trans HA1.out.sure, by omega, HA1.out.turn⟩
      generalize (JS.mk J1.turn J1.which (framesB J1.turn 0 ((rs ++ l.take k) ++ [r])) ((rs ++ l.take k).length + 1) false) = J2 at *
      clear hr htk hd1 hd2 hhalf hfit hlen e2 G2 L2 s2 d2 hrz
      go_wp2_with (first
        | (go_at_call 27; (with_reducible refine cA.out.mono ?_); rintro e w4 ⟨rfl, hb, ho⟩; have HB4 := Lib.hid (HB.out.trans hb); have HO4 := Lib.hid ho; clear hb ho))
      go_roundw
      case rel => exact ⟨k + 1, D2, J2, by go_num, by omega, HO4, HA2, HB4⟩
      case measure => simp [intOf]; omega
    · obtain rfl : k = n := by omega
      go_wp2
      go_ret
      exact ⟨D1, J1, rfl, HB.out, HO.out, by
        have := HA1.out
        rw [show l.take k = l by rw [HA.out.1, List.take_length]] at this
        exact this⟩
end Go.Proofs.YtjincmagbbpooaaGreatDoor
