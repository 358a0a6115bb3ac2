import Derived.Test.YtfmgafpgajlddaaDoorQ4
set_option linter.unusedVariables false
set_option linter.unusedSimpArgs false
namespace Go.Proofs.YtfmgafpgajlddaaDoor
open Go.RowKit

def frames (fr : Nat) (ss : List ByteArray) : List ByteArray := (List.range ss.length).map fun i => wrapS (fr + i) (ss.getD i ByteArray.empty)
theorem frames_length (fr ss) : (frames fr ss).length = ss.length := by simp [frames]
theorem frames_get (fr : Nat) (ss : List ByteArray) (i : Nat) (s : ByteArray) (h : ss[i]? = some s) : (frames fr ss)[i]? = some (wrapS (fr + i) s) := by
  have hi := (List.getElem?_eq_some_iff.1 h).1
  unfold frames
  rw [List.getElem?_map, List.getElem?_range hi]
  simp [List.getD_eq_getElem?_getD, h]
def Few80 (ss : List ByteArray) (k : Nat) : Prop := ∀ j s, j < k → ss[j]? = some s → s.size ≤ 80
theorem Few80.step {ss : List ByteArray} {k : Nat} (h : Few80 ss k) {s : ByteArray} (hs : ss[k]? = some s) (hz : s.size ≤ 80) : Few80 ss (k + 1) := by
  intro j t hj ht
  by_cases e : j = k
  · subst e; rw [hs] at ht; cases ht; exact hz
  · exact h j t (by omega) ht

set_option maxHeartbeats 8000000 in
set_option maxRecDepth 100000 in
theorem FrameRows_any (a1 : Option Addr) (k1 : Nat) (ss : List ByteArray) (fr : Nat) (junk : ByteArray) (hfr : fr < 65536) (w : World) (hg : ErrVar w)
    (h1 : SlOf mkS w a1 ss) (hk1 : ss.length ≤ k1) (hm1 : ss.length ≤ 9223372036854775807) :
    Calls Tryd.prog 8 #[.slice a1 ss.length k1, .int .u16 (fr : Int), .string junk] w fun e w' => e = .returned (.bool true) ∧ Below w.heap.size w w' := by
  have ck := Lib.hid (known3_any w hg)
  obtain ⟨N, hN⟩ : ∃ N, N = ss.length := ⟨_, rfl⟩
  rw [← hN] at hk1 hm1 ⊢
  have HN := Lib.hid hN
  clear hN
  by_cases c1 : 12 < N
  · have t1 : decide ((12 : Int) < (N : Int)) = true := decide_eq_true (by omega)
    have t1' : decide (12 < N) = true := decide_eq_true c1
    clear c1
    go_enter Tryd.func8, Tryd.ntmps8
    go_wp2_with ((go_at_call 17; with_reducible refine ck.out.mono ?_; rintro e w1 ⟨rfl, hb⟩; have HB := Lib.hid hb; clear hb))
    go_ret
    exact ⟨rfl, HB.out⟩
  by_cases c2 : 4 < junk.size
  · have t1 : decide ((12 : Int) < (N : Int)) = false := decide_eq_false (by omega)
    have t1' : decide (12 < N) = false := decide_eq_false c1
    have t2 : decide ((4 : Int) < (junk.size : Int)) = true := decide_eq_true (by omega)
    have t2' : decide (4 < junk.size) = true := decide_eq_true c2
    clear c1 c2
    go_enter Tryd.func8, Tryd.ntmps8
    go_wp2_with ((go_at_call 17; with_reducible refine ck.out.mono ?_; rintro e w1 ⟨rfl, hb⟩; have HB := Lib.hid hb; clear hb))
    go_ret
    exact ⟨rfl, HB.out⟩
  have t1 : decide ((12 : Int) < (N : Int)) = false := decide_eq_false (by omega)
  have t1' : decide (12 < N) = false := decide_eq_false c1
  have t2 : decide ((4 : Int) < (junk.size : Int)) = false := decide_eq_false (by omega)
  have t2' : decide (4 < junk.size) = false := decide_eq_false c2
  have zN : N ≤ 12 := by omega
  have zJ : junk.size ≤ 4 := by omega
  clear c1 c2 hk1 hm1
  obtain ⟨P, hP⟩ : ∃ P, P = frames fr ss := ⟨_, rfl⟩
  have hPl : P.length = N := by rw [hP, frames_length, HN.out]
  have HP := Lib.hid hP
  have HPl := Lib.hid hPl
  have H1 := Lib.hid h1
  clear hP hPl h1
  have HG := Lib.hid hg
  have HB := Lib.hid (Below.refl w.heap.size w)
  clear hg
  go_enter Tryd.func8, Tryd.ntmps8
  go_wp2_with (first
    | (go_at_call 17; with_reducible refine ck.out.mono ?_; rintro e w1 ⟨rfl, hb⟩; replace HB := Lib.hid (below_step HB.out hb); clear hb))
  go_loopw [7, 8] (fun v5 v6 wr => ∃ (b : ByteArray) (k : Nat), v5 = .string b ∧ v6 = .int .i64 k ∧ k ≤ N ∧ Hid (b = flatB (P.take k)) ∧ b.size ≤ k * 400 ∧ Hid (Few80 ss k) ∧ Hid (Below w.heap.size w wr)) (fun _ v6 _ => N - (intOf v6).toNat)
  case atStart => exact ⟨ByteArray.empty, 0, rfl, rfl, Nat.zero_le _, by rfl, by decide, fun j s h => absurd h (Nat.not_lt_zero _), HB⟩
  case round =>
    clear HB
    obtain ⟨b, k, rfl, rfl, hk, hb, hbs, hle, HB⟩ := hrel
    by_cases hlt : k < N
    · have hlt' : k < ss.length := by rw [← HN.out]; exact hlt
      obtain ⟨s, hs⟩ : ∃ n, ss[k]? = some n := ⟨_, List.getElem?_eq_getElem hlt'⟩
      obtain ⟨ab, ao, rfl, hc⟩ := H1.out k s hs
      have c0 := cell_keep HB.out hc
      unfold mkS at c0
      have hp := frames_get fr ss k s hs
      rw [← HP.out] at hp
      have HPp := Lib.hid hp
      have HS := Lib.hid hs
      clear hc hlt' hp hs
      have b1 : (0 : Int) ≤ (k : Int) := by omega
      have b2 : (k : Int) < (N : Int) := by omega
      by_cases hlong : 80 < s.size
      · have t3 : decide ((80 : Int) < (s.size : Int)) = true := decide_eq_true (by omega)
        have t3' : decide (80 < s.size) = true := decide_eq_true (by omega)
        go_wp2
        go_ret
        exact ⟨rfl, HB.out⟩
      · have t3 : decide ((80 : Int) < (s.size : Int)) = false := decide_eq_false (by omega)
        have t3' : decide (80 < s.size) = false := decide_eq_false (by omega)
        obtain ⟨q, hq⟩ : ∃ q, q = fr + k := ⟨_, rfl⟩
        have hq1 : (fr : Int) + (k : Int) = (q : Int) := by omega
        have cw := Lib.hid (Wrap_any q s (by omega) (by omega))
        have zw := wrapS_size q s (by omega) (by omega)
        rw [← hq] at HPp
        generalize wrapS q s = s2 at *
        have hsz2 : b.size + s2.size ≤ 9223372036854775807 := by omega
        clear hq
        go_wp2_with (first
          | (go_at_call 22; with_reducible refine (cw.out _).mono ?_; rintro e w2 ⟨rfl, hb⟩; replace HB := Lib.hid (below_step HB.out hb); clear hb c0))
        go_roundw
        case rel => exact ⟨b ++ s2, k + 1, rfl, by go_num, by omega, Lib.hid (by rw [hb.out, up_succ P k _ HPp.out]), by rw [ByteArray.size_append]; omega, hle.out.step HS.out (by omega), HB.out⟩
        case measure => simp [intOf]; omega
    · obtain rfl : k = N := by omega
      clear hlt
      have hb0 : Hid (b ++ junk = flatB (P.drop 0) ++ junk) := by
        have := hb.out
        rw [← HPl.out, List.take_length] at this
        rw [this]
        exact rfl
      have hkk := HPl.out
      have hbz : b.size + junk.size ≤ 9223372036854775807 := by omega
      clear hb
      go_wp2
      go_loopw [7, 9] (fun v5 v7 wr => ∃ (b : ByteArray) (i : Nat), v5 = .string b ∧ v7 = .int .i64 i ∧ i ≤ k ∧ Hid (b = flatB (P.drop i) ++ junk) ∧ b.size ≤ 8000 ∧ Hid (Below w.heap.size w wr)) (fun _ v7 _ => k - (intOf v7).toNat)
      case atStart => exact ⟨b ++ junk, 0, rfl, rfl, Nat.zero_le _, hb0, by rw [ByteArray.size_append]; omega, HB⟩
      case round =>
        clear HB hb0 hbz hbs
        obtain ⟨b, i, rfl, rfl, hi, hb, hbs, HB⟩ := hrel
        have HG2 := Lib.hid (HG.out.below HB.out)
        by_cases hlt : i < k
        · have hlt' : i < ss.length := by rw [← HN.out]; exact hlt
          obtain ⟨s, hs⟩ : ∃ n, ss[i]? = some n := ⟨_, List.getElem?_eq_getElem hlt'⟩
          obtain ⟨ab, ao, rfl, hc⟩ := H1.out i s hs
          have c0 : Hid (w.cell? ⟨ab, ao + i, none⟩ = some (.string s)) := hc
          have zs := hle.out i s hlt hs
          have hp := frames_get fr ss i s hs
          rw [← HP.out] at hp
          have hbb := hb.out
          rw [down_succ P i _ hp, append_assocB] at hbb
          obtain ⟨more, hmore⟩ : ∃ x, x = flatB (P.drop (i + 1)) ++ junk := ⟨_, rfl⟩
          rw [← hmore] at hbb
          obtain ⟨q, hq⟩ : ∃ q, q = fr + i := ⟨_, rfl⟩
          rw [← hq] at hbb
          have hq1 : (fr : Int) + (i : Int) = (q : Int) := by omega
          have zm : more.size ≤ b.size := by rw [hbb, ByteArray.size_append]; omega
          have co := Lib.hid (Open_is b ((q : Int) + 1) ⟨#[]⟩ b 10 (.iface 34 (.int .i64 10)) rfl (by omega) (by rw [hbb]; exact openR_other q s more ((q : Int) + 1) (by omega) (by omega) (by omega)))
          have ct := Lib.hid (Open_is b (q : Int) s more 0 .nilIface rfl (by omega) (by rw [hbb]; exact openR_same q s more (by omega) (by omega)))
          have k1 := Lib.hid (beq_list s.toList)
          have b1 : (0 : Int) ≤ (i : Int) := by omega
          have b2 : (i : Int) < (k : Int) := by omega
          have zq : q < 70000 := by omega
          have HMo := Lib.hid hmore
          clear hc hlt' hs hp hbb hmore hq
          go_wp2_with (first
            | (go_at_call 18; with_reducible refine (co.out _ HG2.out).mono ?_; rintro e w1 ⟨rfl, hb⟩; replace HG2 := Lib.hid (HG2.out.below hb); replace HB := Lib.hid (below_step HB.out hb); clear hb)
            | (go_at_call 18; with_reducible refine (ct.out _ HG2.out).mono ?_; rintro e w2 ⟨rfl, hb⟩; replace HG2 := Lib.hid (HG2.out.below hb); replace HB := Lib.hid (below_step HB.out hb); have c3 := cell_keep HB.out c0.out; clear hb))
          go_roundw
          case rel => exact ⟨more, i + 1, rfl, by go_num, by omega, HMo.out, by omega, HB.out⟩
          case measure => simp [intOf]; omega
        · obtain rfl : i = k := by omega
          have hbe : b = junk := by
            have := hb.out
            rw [← HPl.out, List.drop_length] at this
            rw [this]
            exact empty_append _
          subst hbe
          obtain ⟨q, hq⟩ : ∃ q, q = fr + i := ⟨_, rfl⟩
          have hq1 : (fr : Int) + (i : Int) = (q : Int) := by omega
          have hj := openR_junk b (q : Int) (by omega)
          generalize hr : openR b (q : Int) = r at hj
          obtain ⟨x, y, c⟩ := r
          obtain ⟨rfl, hcc⟩ := hj
          simp only at hcc hr
          have co := Lib.hid (Open_is y (q : Int) x y c (.iface 34 (.int .i64 c)) (errV_ne (by omega)) (by have : y.size ≤ 4 := zJ; omega) hr)
          have k1 := Lib.hid (beq_list y.toList)
          clear hlt hr hq hcc
          go_wp2_with (first
            | (go_at_call 18; with_reducible refine (co.out _ HG2.out).mono ?_; rintro e w1 ⟨rfl, hb⟩; replace HB := Lib.hid (below_step HB.out hb); clear hb))
          go_ret
          exact ⟨rfl, HB.out⟩
theorem FrameRows_walk (v1 : Value) (fr : Int) (junk : ByteArray) (w1 : (Lit.int .u16 fr).wf = true) (w : World) (hg : ErrVar w)
    (h1 : ∃ (a : Option Addr) (cap : Nat) (l : List ByteArray), v1 = .slice a l.length cap ∧ l.length ≤ cap ∧ l.length ≤ maxLen ∧ SlOf mkS w a l) :
    Calls Tryd.prog 8 #[v1, .int .u16 fr, .string junk] w fun e w' => e = .returned (.bool true) ∧ Below w.heap.size w w' := by
  have b0 : 0 ≤ fr ∧ fr ≤ 65535 := by simpa [Lit.wf, IntKind.min, IntKind.max, IntKind.signed, IntKind.bits] using w1
  obtain ⟨n', rfl⟩ : ∃ k : Nat, fr = (k : Int) := ⟨fr.toNat, by omega⟩
  obtain ⟨a1, c1, l1, rfl, hk1, hm1, hs1⟩ := h1
  unfold maxLen at hm1
  exact FrameRows_any a1 c1 l1 n' junk (by omega) w hg hs1 hk1 (by omega)
end Go.Proofs.YtfmgafpgajlddaaDoor
