import Derived.Test.YtjincmagbbpooaaGreatDoorJZ
set_option linter.unusedVariables false
set_option linter.unusedSimpArgs false
namespace Go.Proofs.YtjincmagbbpooaaGreatDoor
open Go.RowKit

/-- A disk of so many sectors and its journal, both as they should be, not worn, of a turn that is not too late. -/
structure Sane (len m t : Nat) (D : DS) (J : JS) (rs : List ByteArray) : Prop where
  good : Good D J rs
  live : Live D
  len : D.sure.length = len
  done : D.done ≤ m
  turn : J.turn ≤ t
/-- So many records of 150 bytes fit. -/
def FitsIn (len n : Nat) : Prop := n * 170 ≤ (len - 2) / 2 * 64
theorem sane_fit {len m t : Nat} {D : DS} {J : JS} {rs l : List ByteArray} (h : Sane len m t D J rs) (tn : Nat) (ht : tn ≤ 4000) (hl : ∀ r ∈ l, r.size ≤ 150) (hn : l.length ≤ 1000) (hf : FitsIn len l.length) : (framesB tn 0 l).size ≤ D.half * 64 := by
  have h1 := framesB_fit 150 (by decide) tn ht l 0 (by omega) hl
  have hh : D.half = (len - 2) / 2 := by unfold DS.half; rw [h.len]
  rw [hh]
  unfold FitsIn at hf
  omega
theorem Format_sane (len m : Nat) (D : DS) (L : Live D) (hl : D.sure.length = len) (h4 : 4 ≤ len) (hd : D.done ≤ m) (hm : m ≤ 1000000) (B : Nat) (w : World) (p : Nat) (h : Own B w p D) :
    Calls Tryz.prog 10 #[.pointer (some ⟨p, 0, none⟩)] w fun e w' => ∃ D', e = .returned .nilIface ∧ Below B w w' ∧ Own B w' p D' ∧ Sane len (m + 1010) 1 D' J0 [] ∧ D'.loose = [] := by
  obtain ⟨f1, G1, L1, lo1, l1, d1⟩ := format_good L (by omega) (by omega)
  exact (Format_good B w p D _ (by omega) rfl f1 h).mono fun e w' ⟨he, hb, ho⟩ => ⟨_, he, hb, ho, ⟨G1, L1, l1.trans hl, by omega, by decide⟩, lo1⟩
theorem adds_sane (len m t : Nat) (D : DS) (J : JS) (rs l : List ByteArray) (S : Sane len m t D J rs) (n : Nat) (hn : n = l.length) (hs : ∀ r ∈ l, r.size ≤ 150) (hr : ∀ r ∈ rs, r.size ≤ 150) (hrn : rs.length + n ≤ 1000) (hf : FitsIn len (rs.length + n)) (hm : m ≤ 1000000)
    (a : Option Addr) (c B p : Nat) (w : World) (q : Nat) (hg : ErrVar w) (hgB : 0 < B) (ho : One B w p q D J) (ha : LowSl B w a l) :
    Calls Tryz.prog 14 #[.pointer (some ⟨q, 0, none⟩), .slice a n c] w fun e w' => ∃ D' J', e = .returned (.bool true) ∧ Below B w w' ∧ One B w' p q D' J' ∧ Sane len (m + 1000 * n) t D' J' (rs ++ l) := by
  have hd := S.done
  have hmul : 1000 * n ≤ 1000 * 1000 := by omega
  refine (adds_good B p D J rs l n hn S.good S.live (fun r h => Nat.le_trans (hs r h) (by decide)) (sane_fit S J.turn (by have := S.good.turn2; omega) (fun r h => (List.mem_append.1 h).elim (hr r) (hs r)) (by rw [List.length_append]; omega) (by rw [List.length_append, ← hn]; exact hf)) hrn (by omega) a c w q hg hgB ho ha).mono ?_
  rintro e w' ⟨D', J', he, hb, ho', A⟩
  exact ⟨D', J', he, hb, ho', A.good, A.live, by rw [A.sure]; exact S.len, by have := A.done; omega, by rw [A.turn]; exact S.turn⟩
theorem sync_sane (len m t : Nat) (D : DS) (J : JS) (rs : List ByteArray) (S : Sane len m t D J rs) (B p : Nat) (w : World) (q : Nat) (h : One B w p q D J) :
    Calls Tryz.prog 15 #[.pointer (some ⟨q, 0, none⟩)] w fun e w' => ∃ D', e = .returned .nilIface ∧ Below B w w' ∧ One B w' p q D' J ∧ Sane len m t D' J rs := by
  obtain ⟨e0, h1, h2, h3, h4, h5⟩ := sync_good S.good S.live
  exact (jSync_good B p D _ J e0 w q h).mono fun e w' ⟨he, hb, ho⟩ => ⟨_, he, hb, ho, h1, h2, h5.trans S.len, by rw [h4]; exact S.done, S.turn⟩
theorem compact_sane (len m t : Nat) (D : DS) (J : JS) (rs l : List ByteArray) (S : Sane len m t D J rs) (n : Nat) (hn : n = l.length) (hs : ∀ r ∈ l, r.size ≤ 150) (hrn : n ≤ 100) (hf : FitsIn len n) (hm : m ≤ 1000000) (ht : t ≤ 2900)
    (a : Option Addr) (c B p : Nat) (w : World) (q : Nat) (hg : ErrVar w) (hgB : 0 < B) (ho : One B w p q D J) (ha : LowSl B w a l) :
    Calls Tryz.prog 17 #[.pointer (some ⟨q, 0, none⟩), .slice a n c] w fun e w' => ∃ D' J', e = .returned .nilIface ∧ Below B w w' ∧ One B w' p q D' J' ∧ Sane len (m + 1001) (t + 1) D' J' l := by
  have hd := S.done
  have ht2 := S.turn
  obtain ⟨D', e0, h1, h2, h3, h4, h5⟩ := compact_good (rs' := l) S.good (.inl (by rw [S.live.left]; decide)) (by omega) (sane_fit S (J.turn + 1) (by omega) hs (by omega) (by rw [← hn]; exact hf)) (fun r h => Nat.le_trans (hs r h) (by decide)) (by omega) (by omega)
  subst hn
  refine (jCompact_own B w p q D J a c l ho hg hgB (by have := S.good.four; omega) (by omega) S.good.which hrn (fun r h => Nat.le_trans (hs r h) (by decide)) ha.sl (by omega)).mono ?_
  rw [e0]
  exact fun e w' ⟨he, hb, ho'⟩ => ⟨D', _, he, hb, ho', h1, ⟨h1.ok, h1.alive, h5 S.live.left⟩, h3.trans S.len, by omega, by simp only; omega⟩

set_option maxHeartbeats 16000000 in
set_option maxRecDepth 100000 in
theorem filled_own (D : DS) (S : Sane 160 2000 1 D J0 []) (l : List ByteArray) (n : Nat) (hn : n = l.length) (hn10 : n ≤ 10) (hs : ∀ r ∈ l, r.size ≤ 150)
    (a : Option Addr) (c B p : Nat) (w : World) (hg : ErrVar w) (hgB : 0 < B) (ho : Own B w p D) (ha : LowSl B w a l) :
    Calls Tryz.prog 20 #[.pointer (some ⟨p, 0, none⟩), .slice a n c] w fun e w' => ∃ D', e = .returned (.bool true) ∧ Below B w w' ∧ Own B w' p D' ∧ Live D' ∧ D'.sure.length = 160 ∧ D'.done ≤ 50000 := by
  have hf1 : FitsIn 160 (([] : List ByteArray).length + n) := by unfold FitsIn; simp; omega
  have hf2 : FitsIn 160 n := by unfold FitsIn; omega
  have hf3 : FitsIn 160 (l.length + n) := by unfold FitsIn; omega
  have c1 := Lib.hid (fun (w : World) hg h => jOpen_good B p D J0 [] S.good (by have := S.done; omega) w hg hgB h)
  have c2 := Lib.hid (fun w q hg h hl => adds_sane 160 2000 1 D J0 [] l S n hn hs (fun r h => by cases h) (by simp; omega) hf1 (by decide) a c B p w q hg hgB h hl)
  have c3 := Lib.hid (fun D2 J2 (S2 : Sane 160 (2000 + 1000 * n) 1 D2 J2 ([] ++ l)) w q hg h hl => compact_sane 160 (2000 + 1000 * n) 1 D2 J2 ([] ++ l) l S2 n hn hs (by omega) hf2 (by omega) (by decide) a c B p w q hg hgB h hl)
  have c4 := Lib.hid (fun D3 J3 (S3 : Sane 160 (2000 + 1000 * n + 1001) (1 + 1) D3 J3 l) w q hg h hl => adds_sane 160 _ _ D3 J3 l l S3 n hn hs hs (by omega) hf3 (by omega) a c B p w q hg hgB h hl)
  have c5 := Lib.hid (fun D4 J4 (S4 : Sane 160 (2000 + 1000 * n + 1001 + 1000 * n) (1 + 1) D4 J4 (l ++ l)) w q h => sync_sane 160 _ _ D4 J4 _ S4 B p w q h)
  have HV := Lib.hid (And.intro hg hgB)
  have HO := Lib.hid (And.intro ho ha)
  have HN := Lib.hid hn10
  clear hn hs hg ho ha hf1 hf2 hf3 S hgB
  go_enter Tryz.func20, Tryz.ntmps20
  go_wp2_with (first
    | (go_at_call 9; (with_reducible refine (c1.out _ HV.out.1 HO.out.1).mono ?_); rintro e w4 ⟨q, v, rfl, hb, ho, hr⟩; have HB4 := Lib.hid hb; have HO4 := Lib.hid ho; obtain ⟨va, vc, rfl⟩ := own_len hr; clear hb ho hr)
    | (go_at_call 14; (with_reducible refine (c2.out _ _ (errv_own HV.out.1 HB4.out HV.out.2) HO4.out (HO.out.2.keep HB4.out)).mono ?_); rintro e w5 ⟨D2, J2, rfl, hb, ho, hA⟩; have HB5 := Lib.hid (HB4.out.trans hb); have HO5 := Lib.hid ho; have HA5 := Lib.hid hA; clear hb ho hA)
    | (go_at_call 17; (with_reducible refine (c3.out _ _ HA5.out _ _ (errv_own HV.out.1 HB5.out HV.out.2) HO5.out (HO.out.2.keep HB5.out)).mono ?_); rintro e w6 ⟨D3, J3, rfl, hb, ho, hA⟩; have HB6 := Lib.hid (HB5.out.trans hb); have HO6 := Lib.hid ho; have HA6 := Lib.hid hA; clear hb ho hA)
    | (go_at_call 14; (with_reducible refine (c4.out _ _ HA6.out _ _ (errv_own HV.out.1 HB6.out HV.out.2) HO6.out (HO.out.2.keep HB6.out)).mono ?_); rintro e w7 ⟨D4, J4, rfl, hb, ho, hA⟩; have HB7 := Lib.hid (HB6.out.trans hb); have HO7 := Lib.hid ho; have HA7 := Lib.hid hA; clear hb ho hA)
    | (go_at_call 15; (with_reducible refine (c5.out _ _ HA7.out _ _ HO7.out).mono ?_); rintro e w8 ⟨D5, rfl, hb, ho, hA⟩; have HB8 := Lib.hid (HB7.out.trans hb); have HO8 := Lib.hid ho; have HA8 := Lib.hid hA; clear hb ho hA))
  go_ret
  exact ⟨D5, rfl, HB8.out, HO8.out.own, HA8.out.live, HA8.out.len, by have := HA8.out.done; have := HN.out; omega⟩
end Go.Proofs.YtjincmagbbpooaaGreatDoor
