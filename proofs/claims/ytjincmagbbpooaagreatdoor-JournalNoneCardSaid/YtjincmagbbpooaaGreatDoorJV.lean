import Derived.Test.YtjincmagbbpooaaGreatDoorJU
set_option linter.unusedVariables false
set_option linter.unusedSimpArgs false
namespace Go.Proofs.YtjincmagbbpooaaGreatDoor
open Go.RowKit

theorem opens_none {D : DS} (h4 : 4 ≤ D.sure.length) (ha : D.dead = false) (h0 : readB (D.v 0) = (0, 0)) (h1 : readB (D.v 1) = (0, 0)) : D.newest = (0, 0, 10) ∧ D.opens = (D, 10, ⟨0, 0, ⟨#[]⟩, 0, false⟩, []) := by
  have m0 : D.may ((0 : Nat) : Int) = 0 := may_live ha (by omega)
  have m1 : D.may ((1 : Nat) : Int) = 0 := may_live ha (by omega)
  have r0 : D.readS 0 = D.v 0 := readS_v m0
  have r1 : D.readS 1 = D.v 1 := readS_v m1
  have hn : D.newest = (0, 0, 10) := by
    unfold DS.newest
    rw [show D.may 0 = 0 from m0, show D.may 1 = 0 from m1, if_neg (by decide), if_neg (by decide), r0, r1, h0, h1, if_pos (by decide)]
  refine ⟨hn, ?_⟩
  unfold DS.opens
  rw [if_neg (by omega), hn, if_pos (by decide)]
theorem big_read {s : ByteArray} (h0 : 0 < s.size) (h1 : bt s 0 < 128) (h2 : 64 < bt s 0) : readB s = (0, 0) := by
  have hn : numS s = (bt s 0, 1, 0) := by
    unfold numS numF
    rw [if_neg (by omega), if_neg (by omega), if_pos h1, Nat.mod_eq_of_lt h1, Nat.mul_one, Nat.zero_add]
  have ht : (textR s 64).2.2 = 13 := by
    unfold textR
    rw [hn, if_neg (by simp), if_pos (by simp only; omega)]
  unfold readB
  rw [if_pos (.inl (by rw [ht]; decide))]
theorem x_read (c : UInt8) (h1 : c.toNat < 128) (h2 : 64 < c.toNat) (a : ByteArray) : readB (fillB (⟨#[c]⟩ ++ a)) = (0, 0) := by
  have hb : bt (fillB (⟨#[c]⟩ ++ a)) 0 = c.toNat := by
    unfold bt fillB
    rw [append_assocB]
    simp [ByteArray.data_append]
  refine big_read ?_ (by rw [hb]; exact h1) (by rw [hb]; exact h2)
  unfold fillB
  rw [ByteArray.size_append, ByteArray.size_append]
  have : (⟨#[c]⟩ : ByteArray).size = 1 := rfl
  omega
theorem jOpen_none (B : Nat) (p : Nat) (D : DS) (c : Int) (X : JS × List ByteArray) (hc : c ≠ 0) (he : D.opens = (D, c, X)) (hn : D.newest.1 ≤ 1000000) (hd : D.done < 1099510000000) (w : World) (hg : ErrVar w) (hgB : 0 < B) (h : Own B w p D) :
    Calls Tryz.prog 9 #[.pointer (some ⟨p, 0, none⟩)] w fun e w' => e = .returned (.tuple #[.pointer none, .slice none 0 0, .iface 34 (.int .i64 c)]) ∧ Below B w w' ∧ Own B w' p D := by
  refine (jOpen_own B w p D h hg hgB hd hn).mono ?_
  rintro e w' ⟨hb, ho, hr⟩
  rw [he] at ho hr
  rcases hr with ⟨-, hr⟩ | ⟨h0, -⟩
  · rw [errV_ne hc] at hr
    exact ⟨hr, hb, ho⟩
  · exact absurd h0 hc

set_option maxHeartbeats 16000000 in
set_option maxRecDepth 100000 in
theorem JournalNone_any (n : Nat) (hn : n < 256) (a b : ByteArray) (w : World) (he : ErrVar w) : Calls Tryz.prog 3 #[.int .u8 (n : Int), .string a, .string b] w (fun e w' => e = .returned (.bool true) ∧ Below w.heap.size w w') := by
  have ck := Lib.hid (known4_any w he)
  have HV := Lib.hid he
  have HL := Lib.hid (cell_lt he)
  clear he
  by_cases hab : 20 < a.size ∨ 20 < b.size
  · have h1 : a.size ≤ 20 → 20 < b.size := fun h => by omega
    go_enter Tryz.func3, Tryz.ntmps3
    by_cases ha : (20 : Int) < (a.size : Int)
    · clear hab h1
      go_wp2_with (first
        | (go_at_call 7; (with_reducible refine ck.out.mono ?_); rintro e w1 ⟨rfl, hb⟩; have HB := Lib.hid hb; clear hb))
      go_ret
      exact ⟨rfl, HB.out⟩
    · have hb : (20 : Int) < (b.size : Int) := by have := h1 (by omega); omega
      clear hab h1
      go_wp2_with (first
        | (go_at_call 7; (with_reducible refine ck.out.mono ?_); rintro e w1 ⟨rfl, hb⟩; have HB := Lib.hid hb; clear hb))
      go_ret
      exact ⟨rfl, HB.out⟩
  have ha : a.size ≤ 20 := by omega
  have hb : b.size ≤ 20 := by omega
  clear hab
  obtain ⟨k, hk⟩ : ∃ k, k = n % 40 + 4 := ⟨_, rfl⟩
  have hk4 : 4 ≤ k := by omega
  have hk43 : k ≤ 43 := by omega
  have hl0 := newD_len k
  have L0 := new_live k (by omega) (by omega)
  have hv0 : ∀ j, j < k → (newD k).v j = zeroB 64 := fun j hj => by
    show lastW [] j ((List.replicate k (zeroB 64)).getD j ⟨#[]⟩) = _
    rw [List.getD_eq_getElem?_getD, List.getElem?_replicate, if_pos hj]
    rfl
  obtain ⟨n0, o0⟩ := opens_none (by rw [hl0]; omega) L0.alive (by rw [hv0 0 (by omega)]; exact zero_read) (by rw [hv0 1 (by omega)]; exact zero_read)
  obtain ⟨f1, G1, L1, lo1, l1, d1⟩ := format_good L0 (by rw [hl0]; omega) (by show 0 < _; decide)
  have c0 := Lib.hid (fun B p w hg hgB h => jOpen_none B p (newD k) 10 _ (by decide) o0 (by rw [n0]; decide) (by show 0 < _; decide) w hg hgB h)
  have c1 := Lib.hid (fun B w p h => Format_good B w p (newD k) _ (by show 0 < _; decide) rfl f1 h)
  have d0 : (newD k).done = 0 := rfl
  rw [hl0] at l1
  rw [d0] at d1
  generalize (newD k).format.1 = D1 at *
  obtain ⟨x0, L2, v2, s2, d2⟩ := L1.put (i := 0) (b := ⟨#[120]⟩ ++ a) (by omega) (by rw [ByteArray.size_append]; have : (⟨#[120]⟩ : ByteArray).size = 1 := rfl; omega) (by omega)
  have c2 := Lib.hid (fun B w p h => Write_own B w p D1 0 (⟨#[120]⟩ ++ a) _ 0 .nilIface x0 rfl rfl (by omega) h)
  have e2 : D1.write 0 (⟨#[120]⟩ ++ a) = D1.write ((0 : Nat) : Int) (⟨#[120]⟩ ++ a) := rfl
  rw [e2] at c2
  generalize D1.write ((0 : Nat) : Int) (⟨#[120]⟩ ++ a) = D2 at *
  obtain ⟨x1, L3, v3, s3, d3⟩ := L2.put (i := 1) (b := ⟨#[121]⟩ ++ b) (by rw [s2]; omega) (by rw [ByteArray.size_append]; have : (⟨#[121]⟩ : ByteArray).size = 1 := rfl; omega) (by omega)
  have c3 := Lib.hid (fun B w p h => Write_own B w p D2 1 (⟨#[121]⟩ ++ b) _ 0 .nilIface x1 rfl rfl (by omega) h)
  have e3 : D2.write 1 (⟨#[121]⟩ ++ b) = D2.write ((1 : Nat) : Int) (⟨#[121]⟩ ++ b) := rfl
  rw [e3] at c3
  generalize D2.write ((1 : Nat) : Int) (⟨#[121]⟩ ++ b) = D3 at *
  obtain ⟨n3, o3⟩ := opens_none (D := D3) (by rw [s3, s2]; omega) L3.alive (by rw [v3, if_neg (by decide), v2, if_pos rfl]; exact x_read 120 (by decide) (by decide) a) (by rw [v3, if_pos rfl]; exact x_read 121 (by decide) (by decide) b)
  have c4 := Lib.hid (fun B p w hg hgB h => jOpen_none B p D3 10 _ (by decide) o3 (by rw [n3]; decide) (by omega) w hg hgB h)
  have cn := Lib.hid (fun W => New_own W ((n : Int) % 40 + 4) k (by unfold mnI mxI; rw [if_neg (by omega), if_neg (by omega)]; omega) (by omega) (by omega))
  clear n0 o0 f1 G1 L1 l1 d1 hv0 L0 hl0 x0 L2 v2 s2 d2 e2 x1 L3 v3 s3 d3 e3 n3 o3 lo1 d0
  have s1 : ¬ 9223372036854775807 < 1 + a.size := by omega
  have s2 : ¬ 9223372036854775807 < 1 + b.size := by omega
  go_enter Tryz.func3, Tryz.ntmps3
  go_wp2_with (first
    | (go_at_call 7; (with_reducible refine ck.out.mono ?_); rintro e w1 ⟨rfl, hb⟩; have HB1 := Lib.hid hb; clear hb)
    | (go_at_call 8; (with_reducible refine (cn.out _).mono ?_); rintro e w2 ⟨p, rfl, hb, ho⟩; have HB2 := Lib.hid hb; have HO2 := Lib.hid ho; have HV2 := Lib.hid (ErrVar.below HV.out (below_step HB1.out hb)); have HL2 := Lib.hid (Nat.lt_of_lt_of_le HL.out HB1.out.size); clear hb ho)
    | (go_at_call 9; (with_reducible refine (c0.out _ _ _ HV2.out HL2.out HO2.out).mono ?_); rintro e w3 ⟨rfl, hb, ho⟩; have HB3 := Lib.hid (HB2.out.trans hb); have HO3 := Lib.hid ho; clear hb ho)
    | (go_at_call 10; (with_reducible refine (c1.out _ _ _ HO3.out).mono ?_); rintro e w4 ⟨rfl, hb, ho⟩; have HB4 := Lib.hid (HB3.out.trans hb); have HO4 := Lib.hid ho; clear hb ho)
    | (go_at_call 11; (with_reducible refine (c2.out _ _ _ HO4.out).mono ?_); rintro e w5 ⟨rfl, hb, ho⟩; have HB5 := Lib.hid (HB4.out.trans hb); have HO5 := Lib.hid ho; clear hb ho)
    | (go_at_call 11; (with_reducible refine (c3.out _ _ _ HO5.out).mono ?_); rintro e w6 ⟨rfl, hb, ho⟩; have HB6 := Lib.hid (HB5.out.trans hb); have HO6 := Lib.hid ho; clear hb ho)
    | (go_at_call 9; (with_reducible refine (c4.out _ _ _ (errv_own (ErrVar.below HV.out HB1.out) HB6.out HL2.out) HL2.out HO6.out).mono ?_); rintro e w7 ⟨rfl, hb, ho⟩; have HB7 := Lib.hid (HB6.out.trans hb); clear hb ho)
    | (go_at_call 12; (with_reducible refine (is_yes 10 _).mono ?_); rintro e w8 ⟨rfl, rfl⟩))
  go_ret
  exact ⟨rfl, below_step HB1.out HB7.out⟩
theorem JournalNone_walk (z : Int) (a b : ByteArray) (w2 : (Lit.int .u8 z).wf = true) (w : World) (he : ErrVar w) :
    Calls Tryz.prog 3 #[.int .u8 z, .string a, .string b] w fun e w' => e = .returned (.bool true) ∧ Below w.heap.size w w' := by
  have b2 : 0 ≤ z ∧ z ≤ 255 := by simpa [Lit.wf, IntKind.min, IntKind.max, IntKind.signed, IntKind.bits] using w2
  obtain ⟨n2, rfl⟩ : ∃ k : Nat, z = (k : Int) := ⟨z.toNat, by omega⟩
  exact JournalNone_any n2 (by omega) a b w he
end Go.Proofs.YtjincmagbbpooaaGreatDoor
