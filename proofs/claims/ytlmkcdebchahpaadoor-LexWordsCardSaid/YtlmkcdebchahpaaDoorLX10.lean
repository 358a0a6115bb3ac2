import Derived.Test.YtlmkcdebchahpaaDoorLX9
set_option linter.unusedVariables false
set_option linter.unusedSimpArgs false
namespace Go.Proofs.YtlmkcdebchahpaaDoor
open Go.RowKit

def mkB : Nat → Value := fun n => .int .u8 (n : Int)
theorem up_succ (l : List ByteArray) (i : Nat) (p : ByteArray) (h : l[i]? = some p) : flatB (l.take (i + 1)) = flatB (l.take i) ++ p := by
  obtain ⟨hi, he⟩ := List.getElem?_eq_some_iff.1 h
  rw [List.take_succ_eq_append_getElem hi, flatB_append, he]
  show _ ++ (p ++ ByteArray.empty) = _
  rw [append_empty]
theorem Texts.sl {w : World} {v : Value} {l : List ByteArray} (h : Texts w v l) : ∃ a c, v = .slice a l.length c ∧ l.length ≤ c ∧ SlOf mkS w a l := by
  cases l with
  | nil =>
    obtain ⟨A, c, rfl, hc, _⟩ := h
    exact ⟨A, c, rfl, hc, by intro j x h; simp at h⟩
  | cons x l =>
    obtain ⟨b, off, c, rfl, hc, hcell⟩ := h.at_ (by simp)
    exact ⟨_, c, rfl, hc, fun j y hy => ⟨b, off, rfl, hcell j y hy⟩⟩
def SomeAt (W : World) (B : Nat) : Prop := ∀ (j : Nat) x, someB[j]? = some x → W.cell? ⟨B, j, none⟩ = some (.string x)
theorem someAt_new (W : World) : SomeAt (W.alloc (.cells (strs someB).toArray 31)) W.heap.size := fun j x hj => by
  rw [new_cell]
  simp [strs, hj]
theorem SomeAt.below {W W' : World} {B : Nat} (h : SomeAt W B) (hb : Below (B + 1) W W') : SomeAt W' B := fun j x hj => (hb.cell (p := ⟨B, j, none⟩) (by show B < B + 1; omega)).trans (h j x hj)
theorem mod3 (k : Nat) : (k : Int).tmod 3 = ((k % 3 : Nat) : Int) := by rw [Int.tmod_eq_emod_of_nonneg (by omega)]; omega
theorem Tryd.sep0 (w : World) : (Instr.index 29 (.agg #[.string ⟨#[32]⟩, .string ⟨#[10]⟩, .string ⟨#[9, 32]⟩]) (.int .i64 0)).run Tryd.prog w = .ok (.string ⟨#[32]⟩) w := by kernel_rfl
theorem Tryd.sep1 (w : World) : (Instr.index 29 (.agg #[.string ⟨#[32]⟩, .string ⟨#[10]⟩, .string ⟨#[9, 32]⟩]) (.int .i64 1)).run Tryd.prog w = .ok (.string ⟨#[10]⟩) w := by kernel_rfl
theorem Tryd.sep2 (w : World) : (Instr.index 29 (.agg #[.string ⟨#[32]⟩, .string ⟨#[10]⟩, .string ⟨#[9, 32]⟩]) (.int .i64 2)).run Tryd.prog w = .ok (.string ⟨#[9, 32]⟩) w := by kernel_rfl
theorem sepB0 (k : Nat) (h : k % 3 = 0) : strN (sepG k) = ⟨#[32]⟩ := by unfold sepG; rw [if_pos h]; decide +kernel
theorem sepB1 (k : Nat) (h : k % 3 = 1) : strN (sepG k) = ⟨#[10]⟩ := by unfold sepG; rw [if_neg (by omega), if_pos h]; decide +kernel
theorem sepB2 (k : Nat) (h : k % 3 = 2) : strN (sepG k) = ⟨#[9, 32]⟩ := by unfold sepG; rw [if_neg (by omega), if_neg (by omega)]; decide +kernel

set_option maxHeartbeats 8000000 in
set_option maxRecDepth 100000 in
theorem LexWords_any (s : ByteArray) (a1 : Option Addr) (cap : Nat) (q : List Nat) (w : World) (h1 : SlOf mkB w a1 q) (hcap : q.length ≤ cap) (hm1 : q.length ≤ 9223372036854775807) :
    Calls Tryd.prog 3 #[.string s, .slice a1 q.length cap] w fun e w' => e = .returned (.bool true) ∧ Below w.heap.size w w' := by
  have ck := Lib.hid (known9_any w)
  obtain ⟨M, hM⟩ : ∃ M, M = q.length := ⟨_, rfl⟩
  rw [← hM] at hcap hm1 ⊢
  have HM := Lib.hid hM
  clear hM
  by_cases g1 : 600 < s.size
  · have t1 : decide ((600 : Int) < (s.size : Int)) = true := decide_eq_true (by omega)
    have t1' : decide (600 < s.size) = true := decide_eq_true g1
    clear g1
    go_enter Tryd.func3, Tryd.ntmps3
    go_wp2_with ((go_at_call 7; (with_reducible refine ck.out.mono ?_); rintro e w1 ⟨rfl, hb⟩; have HB := Lib.hid hb; clear hb))
    go_ret
    exact ⟨rfl, HB.out⟩
  by_cases g2 : 60 < M
  · have t1 : decide ((600 : Int) < (s.size : Int)) = false := decide_eq_false (by omega)
    have t1' : decide (600 < s.size) = false := decide_eq_false g1
    have t2 : decide ((60 : Int) < (M : Int)) = true := decide_eq_true (by omega)
    have t2' : decide (60 < M) = true := decide_eq_true g2
    clear g1 g2
    go_enter Tryd.func3, Tryd.ntmps3
    go_wp2_with ((go_at_call 7; (with_reducible refine ck.out.mono ?_); rintro e w1 ⟨rfl, hb⟩; have HB := Lib.hid hb; clear hb))
    go_ret
    exact ⟨rfl, HB.out⟩
  have t1 : decide ((600 : Int) < (s.size : Int)) = false := decide_eq_false (by omega)
  have t1' : decide (600 < s.size) = false := decide_eq_false g1
  have t2 : decide ((60 : Int) < (M : Int)) = false := decide_eq_false (by omega)
  have t2' : decide (60 < M) = false := decide_eq_false g2
  have zM : M ≤ 60 := by omega
  have zs : s.size ≤ 600 := by omega
  obtain ⟨P2, hP2l, hP2, hR2⟩ := together q (by rw [← HM.out]; exact zM)
  have HP2l := Lib.hid (hP2l.trans HM.out.symm)
  have HP2 := Lib.hid hP2
  have c3 := Lib.hid (Words_is _ _ 0 .nilIface hR2 rfl)
  have H1 := Lib.hid h1
  obtain ⟨i0, hi, hz0, hz1, hz2⟩ := info_parts Tryd.infoS
  have HI := Lib.hid hi
  have HZ0 := Lib.hid hz0
  have HZ1 := Lib.hid hz1
  have HZ2 := Lib.hid hz2
  clear hi hz0 hz1 hz2 g1 g2 hP2l hP2 hR2 h1 hcap hm1
  obtain ⟨l, c, hlc⟩ : ∃ l c, wordsR s = (l, c) := ⟨_, _, rfl⟩
  have cw := Lib.hid (Words_is s l c (errV c) hlc rfl)
  by_cases hc : c = 0
  · subst hc
    obtain ⟨P, hPl, hl6, hPk, hR⟩ := again s zs l hlc
    rw [errV_zero] at cw
    have c2 := Lib.hid (Words_is _ _ 0 .nilIface hR rfl)
    have HPl := Lib.hid hPl
    have HPk := Lib.hid hPk
    clear hlc hPl hPk hR
    go_enter Tryd.func3, Tryd.ntmps3
    go_wp2_with (first
      | (go_at_call 7; (with_reducible refine ck.out.mono ?_); rintro e w1 ⟨rfl, hb⟩; have HB := Lib.hid hb; clear hb)
      | (go_at_call 8; (with_reducible refine (cw.out _).mono ?_); rintro e w2 ⟨v1, rfl, ht, hb⟩; have HT := Lib.hid ht; replace HB := Lib.hid (below_step HB.out hb); obtain ⟨A1, tc, rfl, hc, hS⟩ := ht.sl; have HS := Lib.hid hS; clear hb hS))
    obtain ⟨K, hK⟩ : ∃ K, K = l.length := ⟨_, rfl⟩
    rw [← hK] at hc hl6 ⊢
    have HK := Lib.hid hK
    clear hK
    go_loopw [7, 8] (fun v7 v8 wr => ∃ (b : ByteArray) (k : Nat), v7 = .string b ∧ v8 = .int .i64 k ∧ k ≤ K ∧ Hid (b = flatB (P.take k)) ∧ b.size ≤ k * 602 ∧ ∃ n, wr = w2.drewN n) (fun _ v8 _ => K - (intOf v8).toNat)
    case atStart => exact ⟨ByteArray.empty, 0, rfl, rfl, Nat.zero_le _, by rfl, by decide, 0, rfl⟩
    case round =>
      obtain ⟨b, k, rfl, rfl, hk, hb, hbs, n, rfl⟩ := hrel
      by_cases hlt : k < K
      · have hlt' : k < l.length := by rw [← HK.out]; exact hlt
        obtain ⟨x, hx⟩ : ∃ n, l[k]? = some n := ⟨_, List.getElem?_eq_getElem hlt'⟩
        obtain ⟨ab, ao, rfl, hcl⟩ := HS.out k x hx
        have c0 : w2.cell? ⟨ab, ao + k, none⟩ = some (.string x) := hcl
        obtain ⟨hp, zx⟩ := HPk.out k x hx
        have tm := mod3 k
        have b1 : (0 : Int) ≤ (k : Int) := by omega
        have b2 : (k : Int) < (K : Int) := by omega
        have z1 : b.size + x.size ≤ 9223372036854775807 := by omega
        have z2 : b.size + x.size + 1 ≤ 9223372036854775807 := by omega
        have z3 : b.size + x.size + 2 ≤ 9223372036854775807 := by omega
        have s0 := Tryd.sep0
        have s1 := Tryd.sep1
        have s2 := Tryd.sep2
        have hm3 : k % 3 = 0 ∨ k % 3 = 1 ∨ k % 3 = 2 := by omega
        rcases hm3 with h3 | h3 | h3
        · rw [h3] at tm
          rw [sepB0 k h3] at hp
          have HPP := Lib.hid hp
          have tm' : (k : Int).tmod 3 = 0 := tm
          clear hp hcl hlt' hx h3 tm
          go_wp2
          go_quiet (fail)
          go_wp2
          go_roundw
          case rel => exact ⟨b ++ x ++ ⟨#[32]⟩, k + 1, rfl, by go_num, by omega, Lib.hid (by rw [up_succ P k _ HPP.out, hb.out, append_assocB]), by rw [ByteArray.size_append, ByteArray.size_append]; show b.size + x.size + 1 ≤ _; omega, _, rfl⟩
          case measure => simp [intOf]; omega
        · rw [h3] at tm
          rw [sepB1 k h3] at hp
          have HPP := Lib.hid hp
          have tm' : (k : Int).tmod 3 = 1 := tm
          clear hp hcl hlt' hx h3 tm
          go_wp2
          go_quiet (fail)
          go_wp2
          go_roundw
          case rel => exact ⟨b ++ x ++ ⟨#[10]⟩, k + 1, rfl, by go_num, by omega, Lib.hid (by rw [up_succ P k _ HPP.out, hb.out, append_assocB]), by rw [ByteArray.size_append, ByteArray.size_append]; show b.size + x.size + 1 ≤ _; omega, _, rfl⟩
          case measure => simp [intOf]; omega
        · rw [h3] at tm
          rw [sepB2 k h3] at hp
          have HPP := Lib.hid hp
          have tm' : (k : Int).tmod 3 = 2 := tm
          clear hp hcl hlt' hx h3 tm
          go_wp2
          go_quiet (fail)
          go_wp2
          go_roundw
          case rel => exact ⟨b ++ x ++ ⟨#[9, 32]⟩, k + 1, rfl, by go_num, by omega, Lib.hid (by rw [up_succ P k _ HPP.out, hb.out, append_assocB]), by rw [ByteArray.size_append, ByteArray.size_append]; show b.size + x.size + 2 ≤ _; omega, _, rfl⟩
          case measure => simp [intOf]; omega
      · obtain rfl : k = K := by omega
        have hbe : b = flatB P := by rw [hb.out, HK.out, ← HPl.out, List.take_length]
        have HTd : Hid (Texts (w2.drewN n) (.slice A1 k tc) l) := Lib.hid (by have := HT.out.below (below_drewN w2 n); rw [← HK.out] at this; exact this)
        replace HB := Lib.hid (HB.out.trans (below_drewN _ n))
        clear hlt hb
        subst hbe
        go_wp2_with (first
          | (go_at_call 8; (with_reducible refine (c2.out _).mono ?_); rintro e w3 ⟨v3, rfl, ht, hb⟩; have HT3 := Lib.hid ht; replace HTd := Lib.hid (HTd.out.below hb); replace HB := Lib.hid (below_step HB.out hb); clear ht hb)
          | (go_at_call 9; (with_reducible refine (same_any _ _ _ _ _ HTd.out HT3.out (by rw [← HK.out]; omega)).mono ?_); rintro e w4 ⟨rfl, n4, hw4⟩; rw [decide_eq_true rfl]; replace HB := Lib.hid (HB.out.trans (show Below w.heap.size w3 w4 from hw4 ▸ below_drewN _ n4)); clear hw4))
        have SA : Hid (SomeAt (w4.alloc (.cells (strs someB).toArray 31)) w4.heap.size) := Lib.hid (someAt_new _)
        have BZ : w4.heap.size + 1 ≤ (w4.alloc (.cells (strs someB).toArray 31)).heap.size := (by simp)
        have BW : w.heap.size ≤ w4.heap.size := HB.out.size
        replace HB := Lib.hid (below_alloc' HB.out (.cells (strs someB).toArray 31))
        obtain ⟨B0, hB0⟩ : ∃ B, B = w4.heap.size := ⟨_, rfl⟩
        have HB0 := Lib.hid hB0
        rw [← hB0] at SA BZ BW
        clear hB0
        go_loopw [12, 13, 14] (fun v12 v13 v14 wr => ∃ (b : ByteArray) (k : Nat), v12 = .string b ∧ v14 = .int .i64 k ∧ k ≤ M ∧ Hid (b = flatB (P2.take k)) ∧ b.size ≤ k * 20 ∧ Hid (wr.ownsRow (B0 + 1) 9 1 v13 ((q.take k).map someW).length (strs ((q.take k).map someW))) ∧ Hid (SomeAt wr B0) ∧ B0 + 1 ≤ wr.heap.size ∧ w.heap.size ≤ B0 ∧ Hid (Below w.heap.size w wr)) (fun _ _ v14 _ => M - (intOf v14).toNat)
        case atStart => exact ⟨ByteArray.empty, 0, rfl, rfl, Nat.zero_le _, by rfl, by decide, World.ownsRow_nil _ _ _ _, SA, BZ, BW, HB⟩
        case round =>
          clear HB SA BZ BW
          obtain ⟨b, k, rfl, rfl, hk, hb, hbs, ho, SA, BZ, BW, HB⟩ := hrel
          by_cases hlt : k < M
          · have hlt' : k < q.length := by rw [← HM.out]; exact hlt
            obtain ⟨x, hx⟩ : ∃ n, q[k]? = some n := ⟨_, List.getElem?_eq_getElem hlt'⟩
            obtain ⟨ab, ao, rfl, hc⟩ := H1.out k x hx
            have c0 := cell_keep HB.out hc
            unfold mkB at c0
            have hp := HP2.out k x hx
            have htk : (q.take (k + 1)).map someW = (q.take k).map someW ++ [someW x] := by
              obtain ⟨h1, h2⟩ := List.getElem?_eq_some_iff.1 hx
              rw [List.take_succ_eq_append_getElem h1, h2, List.map_append]; rfl
            have hu : x % 12 < 12 := Nat.mod_lt _ (by omega)
            have hsw : someB[x % 12]? = some (someW x) := by unfold someW; rw [List.getD_eq_getElem?_getD, List.getElem?_eq_getElem (show x % 12 < someB.length from hu)]; rfl
            have c1 := SA.out _ _ hsw
            have zs := someW_size x
            obtain ⟨u, hu1⟩ : ∃ u, u = x % 12 := ⟨_, rfl⟩
            have hu2 : (x : Int) % 12 = (u : Int) := by omega
            rw [← hu1, HB0.out] at c1
            rw [← hu1] at hu
            have b1 : (0 : Int) ≤ (k : Int) := by omega
            have b2 : (k : Int) < (M : Int) := by omega
            have b3 : (0 : Int) ≤ (u : Int) := by omega
            have b4 : (u : Int) < 12 := by omega
            obtain ⟨L, hL⟩ : ∃ L, L = (q.take k).map someW := ⟨_, rfl⟩
            have hLl : L.length = k := by rw [hL, List.length_map, List.length_take]; omega
            rw [← hL] at ho htk
            generalize someW x = sw at *
            have HTK := Lib.hid htk
            have HPP := Lib.hid hp
            have HLL := Lib.hid hLl
            have z1 : b.size + sw.size ≤ 9223372036854775807 := by omega
            have z2 : b.size + sw.size + 1 ≤ 9223372036854775807 := by omega
            have zL : L.length ≤ 60 := by omega
            clear hc hlt' hx hp htk hsw hu1 hL hLl
            go_wp2_with (at_builtin; refine wpList_append_lies _ rfl _ _ _ rfl (B0 + 1) 9 i0 (.string ⟨#[]⟩) 1 16 Tryd.underlying24 HI.out HZ0.out HZ1.out HZ2.out rfl (by decide) u13 L.length (strs L) rfl (ho.out.alloc _) _ 1 1 [.string sw] rfl rfl (World.news_of_block (heap_alloc_new _ _)) (by simp [Value.oneCell']) (by decide) (by unfold maxLen; omega) (by omega) (by simp; omega) _ rfl ?_; intro g cap w7 ho2 hg2 ha2 hlt2; have HO2 : Hid (w7.ownsRow (B0 + 1) 9 1 (.slice (some ⟨g, 0, none⟩) (L.length + 1) cap) (L ++ [sw]).length (strs (L ++ [sw]))) := (by rw [strs_append, List.length_append]; exact ho2); have HG7 := (((Below.refl (B0 + 1) wr).alloc BZ _).trans (grown_below (by simp; omega) (own_nb ho.out) hg2)); have SA2 : Hid (SomeAt w7 B0) := Lib.hid (SA.out.below HG7); have BZ2 : B0 + 1 ≤ w7.heap.size := (by have := HG7.size; omega); have HB2 := Lib.hid (HB.out.trans (HG7.mono (by omega))); clear ho2 hg2 ha2 hlt2 HG7)
            go_roundw
            case rel => exact ⟨b ++ sw ++ ⟨#[32]⟩, k + 1, rfl, by go_num, by omega, Lib.hid (by rw [up_succ P2 k _ HPP.out, hb.out, append_assocB]), by rw [ByteArray.size_append, ByteArray.size_append]; show b.size + sw.size + 1 ≤ _; omega, by rw [HTK.out]; exact HO2, SA2, BZ2, BW, HB2⟩
            case measure => simp [intOf]; omega
          · obtain rfl : k = M := by omega
            have hbe : b = flatB P2 := by rw [hb.out, ← HP2l.out, List.take_length]
            have ht := texts_own ho.out
            rw [show (q.take k).map someW = q.map someW by rw [HM.out, List.take_length]] at ht
            have HT9 := Lib.hid ht
            clear hlt hb ht
            subst hbe
            go_wp2_with (first
              | (go_at_call 8; (with_reducible refine (c3.out _).mono ?_); rintro e w8 ⟨v8, rfl, ht, hb⟩; have HT8 := Lib.hid ht; replace HT9 := Lib.hid (HT9.out.below hb); replace HB := Lib.hid (below_step HB.out hb); clear ht hb)
              | (go_at_call 9; (with_reducible refine (same_any _ _ _ _ _ HT8.out HT9.out (by rw [List.length_map, ← HM.out]; omega)).mono ?_); rintro e w9 ⟨rfl, n, rfl⟩; rw [decide_eq_true rfl]; replace HB := Lib.hid (HB.out.trans (below_drewN _ n))))
            go_ret
            exact ⟨rfl, HB.out⟩


  · have hne := errV_ne hc
    rw [hne] at cw
    clear hlc hne
    go_enter Tryd.func3, Tryd.ntmps3
    go_wp2_with (first
      | (go_at_call 7; (with_reducible refine ck.out.mono ?_); rintro e w1 ⟨rfl, hb⟩; have HB := Lib.hid hb; clear hb)
      | (go_at_call 8; (with_reducible refine (cw.out _).mono ?_); rintro e w2 ⟨v1, rfl, ht, hb⟩; replace HB := Lib.hid (below_step HB.out hb); clear ht hb))
    have SA : Hid (SomeAt (w2.alloc (.cells (strs someB).toArray 31)) w2.heap.size) := Lib.hid (someAt_new _)
    have BZ : w2.heap.size + 1 ≤ (w2.alloc (.cells (strs someB).toArray 31)).heap.size := (by simp)
    have BW : w.heap.size ≤ w2.heap.size := HB.out.size
    replace HB := Lib.hid (below_alloc' HB.out (.cells (strs someB).toArray 31))
    obtain ⟨B0, hB0⟩ : ∃ B, B = w2.heap.size := ⟨_, rfl⟩
    have HB0 := Lib.hid hB0
    rw [← hB0] at SA BZ BW
    clear hB0
    go_loopw [12, 13, 14] (fun v12 v13 v14 wr => ∃ (b : ByteArray) (k : Nat), v12 = .string b ∧ v14 = .int .i64 k ∧ k ≤ M ∧ Hid (b = flatB (P2.take k)) ∧ b.size ≤ k * 20 ∧ Hid (wr.ownsRow (B0 + 1) 9 1 v13 ((q.take k).map someW).length (strs ((q.take k).map someW))) ∧ Hid (SomeAt wr B0) ∧ B0 + 1 ≤ wr.heap.size ∧ w.heap.size ≤ B0 ∧ Hid (Below w.heap.size w wr)) (fun _ _ v14 _ => M - (intOf v14).toNat)
    case atStart => exact ⟨ByteArray.empty, 0, rfl, rfl, Nat.zero_le _, by rfl, by decide, World.ownsRow_nil _ _ _ _, SA, BZ, BW, HB⟩
    case round =>
      clear HB SA BZ BW
      obtain ⟨b, k, rfl, rfl, hk, hb, hbs, ho, SA, BZ, BW, HB⟩ := hrel
      by_cases hlt : k < M
      · have hlt' : k < q.length := by rw [← HM.out]; exact hlt
        obtain ⟨x, hx⟩ : ∃ n, q[k]? = some n := ⟨_, List.getElem?_eq_getElem hlt'⟩
        obtain ⟨ab, ao, rfl, hc⟩ := H1.out k x hx
        have c0 := cell_keep HB.out hc
        unfold mkB at c0
        have hp := HP2.out k x hx
        have htk : (q.take (k + 1)).map someW = (q.take k).map someW ++ [someW x] := by
          obtain ⟨h1, h2⟩ := List.getElem?_eq_some_iff.1 hx
          rw [List.take_succ_eq_append_getElem h1, h2, List.map_append]; rfl
        have hu : x % 12 < 12 := Nat.mod_lt _ (by omega)
        have hsw : someB[x % 12]? = some (someW x) := by unfold someW; rw [List.getD_eq_getElem?_getD, List.getElem?_eq_getElem (show x % 12 < someB.length from hu)]; rfl
        have c1 := SA.out _ _ hsw
        have zs := someW_size x
        obtain ⟨u, hu1⟩ : ∃ u, u = x % 12 := ⟨_, rfl⟩
        have hu2 : (x : Int) % 12 = (u : Int) := by omega
        rw [← hu1, HB0.out] at c1
        rw [← hu1] at hu
        have b1 : (0 : Int) ≤ (k : Int) := by omega
        have b2 : (k : Int) < (M : Int) := by omega
        have b3 : (0 : Int) ≤ (u : Int) := by omega
        have b4 : (u : Int) < 12 := by omega
        obtain ⟨L, hL⟩ : ∃ L, L = (q.take k).map someW := ⟨_, rfl⟩
        have hLl : L.length = k := by rw [hL, List.length_map, List.length_take]; omega
        rw [← hL] at ho htk
        generalize someW x = sw at *
        have HTK := Lib.hid htk
        have HPP := Lib.hid hp
        have HLL := Lib.hid hLl
        have z1 : b.size + sw.size ≤ 9223372036854775807 := by omega
        have z2 : b.size + sw.size + 1 ≤ 9223372036854775807 := by omega
        have zL : L.length ≤ 60 := by omega
        clear hc hlt' hx hp htk hsw hu1 hL hLl
        go_wp2_with (at_builtin; refine wpList_append_lies _ rfl _ _ _ rfl (B0 + 1) 9 i0 (.string ⟨#[]⟩) 1 16 Tryd.underlying24 HI.out HZ0.out HZ1.out HZ2.out rfl (by decide) u13 L.length (strs L) rfl (ho.out.alloc _) _ 1 1 [.string sw] rfl rfl (World.news_of_block (heap_alloc_new _ _)) (by simp [Value.oneCell']) (by decide) (by unfold maxLen; omega) (by omega) (by simp; omega) _ rfl ?_; intro g cap w7 ho2 hg2 ha2 hlt2; have HO2 : Hid (w7.ownsRow (B0 + 1) 9 1 (.slice (some ⟨g, 0, none⟩) (L.length + 1) cap) (L ++ [sw]).length (strs (L ++ [sw]))) := (by rw [strs_append, List.length_append]; exact ho2); have HG7 := (((Below.refl (B0 + 1) wr).alloc BZ _).trans (grown_below (by simp; omega) (own_nb ho.out) hg2)); have SA2 : Hid (SomeAt w7 B0) := Lib.hid (SA.out.below HG7); have BZ2 : B0 + 1 ≤ w7.heap.size := (by have := HG7.size; omega); have HB2 := Lib.hid (HB.out.trans (HG7.mono (by omega))); clear ho2 hg2 ha2 hlt2 HG7)
        go_roundw
        case rel => exact ⟨b ++ sw ++ ⟨#[32]⟩, k + 1, rfl, by go_num, by omega, Lib.hid (by rw [up_succ P2 k _ HPP.out, hb.out, append_assocB]), by rw [ByteArray.size_append, ByteArray.size_append]; show b.size + sw.size + 1 ≤ _; omega, by rw [HTK.out]; exact HO2, SA2, BZ2, BW, HB2⟩
        case measure => simp [intOf]; omega
      · obtain rfl : k = M := by omega
        have hbe : b = flatB P2 := by rw [hb.out, ← HP2l.out, List.take_length]
        have ht := texts_own ho.out
        rw [show (q.take k).map someW = q.map someW by rw [HM.out, List.take_length]] at ht
        have HT9 := Lib.hid ht
        clear hlt hb ht
        subst hbe
        go_wp2_with (first
          | (go_at_call 8; (with_reducible refine (c3.out _).mono ?_); rintro e w8 ⟨v8, rfl, ht, hb⟩; have HT8 := Lib.hid ht; replace HT9 := Lib.hid (HT9.out.below hb); replace HB := Lib.hid (below_step HB.out hb); clear ht hb)
          | (go_at_call 9; (with_reducible refine (same_any _ _ _ _ _ HT8.out HT9.out (by rw [List.length_map, ← HM.out]; omega)).mono ?_); rintro e w9 ⟨rfl, n, rfl⟩; rw [decide_eq_true rfl]; replace HB := Lib.hid (HB.out.trans (below_drewN _ n))))
        go_ret
        exact ⟨rfl, HB.out⟩


end Go.Proofs.YtlmkcdebchahpaaDoor
