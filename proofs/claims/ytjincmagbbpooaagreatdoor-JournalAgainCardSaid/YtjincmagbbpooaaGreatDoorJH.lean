import Derived.Test.YtjincmagbbpooaaGreatDoorJG
set_option linter.unusedVariables false
set_option linter.unusedSimpArgs false
namespace Go.Proofs.YtjincmagbbpooaaGreatDoor
open Go.RowKit

set_option maxHeartbeats 16000000 in
set_option maxRecDepth 100000 in
theorem wrap_any (F : Nat → Prop) (p q : Nat) (D : DS) (J : JS) (b : ByteArray) (turn k : Nat) (a : Option Addr) (cap : Nat) (rs : List ByteArray) (w : World) (h : Dsk w F p D) (hq : Blk w q 87 (jCells p J)) (h2 : 2 ≤ D.sure.length)
    (ht : turn ≤ 4000) (hk : k ≤ 100000) (hl : rs.length ≤ 100) (hs : ∀ r ∈ rs, r.size ≤ 1000) (hb : b.size ≤ 1000000) (ha : SlOf mkS w a rs) :
    Calls Tryz.prog 52 #[.pointer (some ⟨q, 0, none⟩), .string b, .int .i64 (turn : Int), .int .i64 (k : Int), .slice a rs.length cap] w fun e w' =>
      e = .returned (.tuple #[.string (wrapJ (D.half * 64) turn k rs b).1, errV (wrapJ (D.half * 64) turn k rs b).2]) ∧ Below w.heap.size w w' := by
  have HD := Lib.hid (And.intro h (And.intro hq h2))
  have HS := Lib.hid (And.intro hs ha)
  obtain ⟨n, hn⟩ : ∃ n, n = rs.length := ⟨_, rfl⟩
  have HN := Lib.hid hn
  have hfz := framesB_size turn ht rs k (by omega) hs
  unfold wrapJ
  obtain ⟨out, hout⟩ : ∃ out, out = b ++ framesB turn k rs := ⟨_, rfl⟩
  have hoz : out.size ≤ 1102000 := by rw [hout, ByteArray.size_append]; omega
  rw [← hn, ← hout]
  obtain ⟨R, hR⟩ : ∃ R : ByteArray × Int, R = (if D.half * 64 < out.size then (⟨#[]⟩, 14) else (out, 0)) := ⟨_, rfl⟩
  rw [← hR]
  have HR := Lib.hid hR
  have HOUT := Lib.hid hout
  have HBZ := Lib.hid hb
  have hnl : n ≤ 100 := by omega
  have hhz := half_le h.ok
  clear h hq h2 hs ha hn hfz hout hb hl hR
  go_enter Tryz.func52, Tryz.ntmps52
  go_upto_region 2 with fail
  go_loopg [1, 16] n (fun kq v1 v16 wr => ∃ i : Nat, v1 = .string (b ++ framesB turn k (rs.take i)) ∧ v16 = .int .i64 (i : Int) ∧ i + kq = n ∧ Hid (Below w.heap.size w wr))
  case atStart => exact ⟨0, by rw [List.take_zero]; show Value.string b = Value.string (b ++ ByteArray.empty); rw [append_empty], rfl, by omega, Below.refl _ _⟩
  case round =>
    obtain ⟨i, rfl, rfl, hi, HB⟩ := hrel
    by_cases hlt : i < n
    · obtain ⟨r, hr⟩ : ∃ r, rs[i]? = some r := ⟨_, List.getElem?_eq_getElem (by rw [← HN.out]; exact hlt)⟩
      obtain ⟨k', rfl⟩ : ∃ k', gk = k' + 1 := ⟨gk - 1, by omega⟩
      have hrz := HS.out.1 r (List.mem_of_getElem? hr)
      obtain ⟨ab, ao, rfl, c0⟩ := (HS.out.2.below HB.out) i r hr
      simp only [mkS] at c0
      have q0 : (0 : Int) ≤ (i : Int) := by omega
      have q1 : (i : Int) < (n : Int) := by omega
      have q2 : (r.size : Int) ≤ 2010 := by omega
      have hf1 := framesB_size turn ht (rs.take i) k (by rw [List.length_take]; omega) (fun x hx => HS.out.1 x (List.mem_of_mem_take hx))
      have hf2 := wrapS_size (turn * 1000000 + (k + i)) r (by omega) hrz
      rw [List.length_take] at hf1
      have hnx : b ++ framesB turn k (rs.take (i + 1)) = (b ++ framesB turn k (rs.take i)) ++ wrapS (turn * 1000000 + (k + i)) r := by
        rw [List.take_add_one, hr]
        show b ++ framesB turn k (rs.take i ++ [r]) = _
        rw [framesB_snoc, List.length_take, append_assocB]
        congr 5
        have := HN.out
        omega
      have hcz : (b ++ framesB turn k (rs.take i)).size ≤ 1102000 := by rw [ByteArray.size_append]; have := HBZ.out; omega
      have cq := Lib.hid (seq_any turn (k + i) (by omega) (by omega) wr)
      have cw := Lib.hid (fun W => Wrap_any (turn * 1000000 + (k + i)) r (by omega) hrz W)
      have e1 : ((k + i : Nat) : Int) = (k : Int) + (i : Int) := by omega
      rw [e1] at cq
      generalize turn * 1000000 + (k + i) = K at cq cw hnx hf2
      generalize wrapS K r = fr at cw hnx hf2
      generalize b ++ framesB turn k (rs.take i) = acc at hnx hcz ⊢
      have hcat : acc.size + fr.size ≤ 9223372036854775807 := by omega
      have HNX := Lib.hid hnx
      clear hnx hf1 hf2 hcz hrz hr hlt e1
      go_wp2_with (first
        | (go_at_call 43; (with_reducible refine cq.out.mono ?_); rintro e w6 ⟨rfl, rfl⟩)
        | (go_at_call 80; (with_reducible refine (cw.out _).mono ?_); rintro e w6 ⟨rfl, hb⟩; have HB6 := Lib.hid (below_step HB.out hb); clear hb))
      go_roundg k'
      case measure => omega
      case rel => exact ⟨i + 1, by rw [HNX.out], by go_num, by omega, HB6⟩
    · obtain rfl : i = n := by omega
      have htk : rs.take i = rs := by rw [HN.out, List.take_length]
      have hacc : b ++ framesB turn k (rs.take i) = out := by rw [htk, HOUT.out]
      rw [hacc]
      have cr := Lib.hid (room_any F p q D J wr (HD.out.1.below HB.out) (HD.out.2.1.below HB.out) HD.out.2.2)
      have hroom : D.half * 64 ≤ 63936 := by omega
      have hR := HR.out
      generalize D.half * 64 = room at cr hroom hR
      clear hlt hi htk hacc hhz
      by_cases hgt : room < out.size
      · rw [if_pos hgt] at hR
        have HR2 := Lib.hid hR
        clear hR
        have t1 : (room : Int) < (out.size : Int) := by omega
        clear hgt
        go_wp2_with (go_at_call 82; (with_reducible refine cr.out.mono ?_); rintro e w6 ⟨rfl, rfl⟩)
        go_ret2
        rw [HR2.out]
        exact ⟨rfl, HB.out⟩
      · rw [if_neg hgt] at hR
        have HR2 := Lib.hid hR
        clear hR
        have t1 : (out.size : Int) ≤ (room : Int) := by omega
        clear hgt
        go_wp2_with (go_at_call 82; (with_reducible refine cr.out.mono ?_); rintro e w6 ⟨rfl, rfl⟩)
        go_ret2
        rw [HR2.out]
        exact ⟨rfl, HB.out⟩
end Go.Proofs.YtjincmagbbpooaaGreatDoor
