import Derived.Test.YtfmgafpgajlddaaDoorP7
set_option linter.unusedVariables false
set_option linter.unusedSimpArgs false
namespace Go.Proofs.YtfmgafpgajlddaaDoor
open Go.RowKit

/-- A slice's places: of any kind of thing. -/
def SlOf {α : Type} (mk : α → Value) (W : World) (a : Option Addr) (l : List α) : Prop := ∀ j x, l[j]? = some x → ∃ b off, a = some ⟨b, off, none⟩ ∧ W.cell? ⟨b, off + j, none⟩ = some (mk x)
theorem SlOf.below {α : Type} {mk : α → Value} {W W' : World} {a : Option Addr} {l : List α} (h : SlOf mk W a l) (hb : Below W.heap.size W W') : SlOf mk W' a l := by
  intro j x hj
  obtain ⟨b, off, e, hc⟩ := h j x hj
  exact ⟨b, off, e, cell_keep hb hc⟩
def mkS : ByteArray → Value := .string
def mkU : Nat → Value := fun n => .int .u32 (n : Int)

/-! ### bytes one behind the other -/
def pieces (ns : List Nat) (ss : List ByteArray) : List ByteArray := (List.range ns.length).map fun i => strN (numB (ns.getD i 0)) ++ (if i < ss.length then textS (ss.getD i ByteArray.empty) else ByteArray.empty)
def flatB : List ByteArray → ByteArray
  | [] => ByteArray.empty
  | x :: r => x ++ flatB r
theorem append_empty (a : ByteArray) : a ++ ByteArray.empty = a := by apply bys_inj; rw [bys_append]; show bys a ++ [] = _; simp
theorem empty_append (a : ByteArray) : ByteArray.empty ++ a = a := by apply bys_inj; rw [bys_append]; show [] ++ bys a = _; simp
theorem flatB_append (l r : List ByteArray) : flatB (l ++ r) = flatB l ++ flatB r := by
  induction l with
  | nil => exact (empty_append _).symm
  | cons x l ih => show x ++ flatB (l ++ r) = x ++ flatB l ++ flatB r; rw [ih, append_assocB]
theorem pieces_length (ns ss) : (pieces ns ss).length = ns.length := by simp [pieces]
theorem pieces_get (ns : List Nat) (ss : List ByteArray) (i : Nat) (h : i < ns.length) : (pieces ns ss)[i]? = some (strN (numB (ns.getD i 0)) ++ (if i < ss.length then textS (ss.getD i ByteArray.empty) else ByteArray.empty)) := by
  unfold pieces
  rw [List.getElem?_map, List.getElem?_range h]
  rfl
theorem up_succ (l : List ByteArray) (i : Nat) (p : ByteArray) (h : l[i]? = some p) : flatB (l.take (i + 1)) = flatB (l.take i) ++ p := by
  obtain ⟨hi, he⟩ := List.getElem?_eq_some_iff.1 h
  rw [List.take_succ_eq_append_getElem hi, flatB_append, he]
  show _ ++ (p ++ ByteArray.empty) = _
  rw [append_empty]
theorem down_succ (l : List ByteArray) (i : Nat) (p : ByteArray) (h : l[i]? = some p) : flatB (l.drop i) = p ++ flatB (l.drop (i + 1)) := by
  obtain ⟨hi, he⟩ := List.getElem?_eq_some_iff.1 h
  rw [List.drop_eq_getElem_cons hi, he]
  rfl
theorem flatB_size (l : List ByteArray) (k : Nat) (h : ∀ p ∈ l, p.size ≤ k) : (flatB l).size ≤ l.length * k := by
  induction l with
  | nil => simp [flatB]
  | cons x l ih =>
    have h1 := h x (by simp)
    have h2 := ih (fun p hp => h p (by simp [hp]))
    show (x ++ flatB l).size ≤ _
    rw [ByteArray.size_append, List.length_cons, Nat.succ_mul]
    omega
theorem textS_size (s : ByteArray) (h : s.size ≤ 300) : (textS s).size ≤ 310 := by
  unfold textS; rw [ByteArray.size_append, strN_size]; have := numB_len 7 s.size (by rw [pow8]; omega); omega
theorem num_size (n : Nat) (h : n < 4294967296) : (strN (numB n)).size ≤ 8 := by rw [strN_size]; exact numB_len 7 n (by rw [pow8]; omega)

/-- The first of these texts are not long. -/
def Few (ss : List ByteArray) (k : Nat) : Prop := ∀ j s, j < k → ss[j]? = some s → s.size ≤ 60
theorem Few.step {ss : List ByteArray} {k : Nat} (h : Few ss k) {s : ByteArray} (hs : ss[k]? = some s) (hz : s.size ≤ 60) : Few ss (k + 1) := by
  intro j t hj ht
  by_cases e : j = k
  · subst e; rw [hs] at ht; cases ht; exact hz
  · exact h j t (by omega) ht
theorem Few.past {ss : List ByteArray} {k : Nat} (h : Few ss k) (hk : ss.length ≤ k) : Few ss (k + 1) := by
  intro j t hj ht
  have := (List.getElem?_eq_some_iff.1 ht).1
  exact h j t (by omega) ht

set_option maxHeartbeats 8000000 in
set_option maxRecDepth 100000 in
theorem PackRows_any (a1 a2 : Option Addr) (k1 k2 : Nat) (ns : List Nat) (ss : List ByteArray) (hn : ∀ x ∈ ns, x < 4294967296) (w : World) (hg : ErrVar w)
    (h1 : SlOf mkU w a1 ns) (h2 : SlOf mkS w a2 ss) (hk1 : ns.length ≤ k1) (hk2 : ss.length ≤ k2) (hm1 : ns.length ≤ 9223372036854775807) (hm2 : ss.length ≤ 9223372036854775807) :
    Calls Tryd.prog 4 #[.slice a1 ns.length k1, .slice a2 ss.length k2] w fun e w' => e = .returned (.bool true) ∧ Below w.heap.size w w' := by
  have ck := Lib.hid (known_any w hg)
  obtain ⟨N, hN⟩ : ∃ N, N = ns.length := ⟨_, rfl⟩
  obtain ⟨M, hM⟩ : ∃ M, M = ss.length := ⟨_, rfl⟩
  rw [← hN] at hk1 hm1 ⊢
  rw [← hM] at hk2 hm2 ⊢
  have HN := Lib.hid hN
  have HM := Lib.hid hM
  clear hN hM
  by_cases c1 : 20 < N
  · have t1 : decide ((20 : Int) < (N : Int)) = true := decide_eq_true (by omega)
    have t1' : decide (20 < N) = true := decide_eq_true c1
    clear c1
    go_enter Tryd.func4, Tryd.ntmps4
    go_wp2_with ((go_at_call 11; with_reducible refine ck.out.mono ?_; rintro e w1 ⟨rfl, hb⟩; have HB := Lib.hid hb; clear hb))
    go_ret
    exact ⟨rfl, HB.out⟩
  by_cases c2 : 20 < M
  · have t1 : decide ((20 : Int) < (N : Int)) = false := decide_eq_false (by omega)
    have t1' : decide (20 < N) = false := decide_eq_false c1
    have t2 : decide ((20 : Int) < (M : Int)) = true := decide_eq_true (by omega)
    have t2' : decide (20 < M) = true := decide_eq_true c2
    clear c1 c2
    go_enter Tryd.func4, Tryd.ntmps4
    go_wp2_with ((go_at_call 11; with_reducible refine ck.out.mono ?_; rintro e w1 ⟨rfl, hb⟩; have HB := Lib.hid hb; clear hb))
    go_ret
    exact ⟨rfl, HB.out⟩
  have t1 : decide ((20 : Int) < (N : Int)) = false := decide_eq_false (by omega)
  have t1' : decide (20 < N) = false := decide_eq_false c1
  have t2 : decide ((20 : Int) < (M : Int)) = false := decide_eq_false (by omega)
  have t2' : decide (20 < M) = false := decide_eq_false c2
  have zN : N ≤ 20 := by omega
  have zM : M ≤ 20 := by omega
  clear c1 c2 hk1 hk2 hm1 hm2
  obtain ⟨P, hP⟩ : ∃ P, P = pieces ns ss := ⟨_, rfl⟩
  have hPl : P.length = N := by rw [hP, pieces_length, HN.out]
  have HP := Lib.hid hP
  have HPl := Lib.hid hPl
  have H1 := Lib.hid h1
  have H2 := Lib.hid h2
  have Hn := Lib.hid hn
  clear hP hPl h1 h2 hn
  have HG := Lib.hid hg
  have HB := Lib.hid (Below.refl w.heap.size w)
  clear hg
  go_enter Tryd.func4, Tryd.ntmps4
  go_wp2_with (first
    | (go_at_call 11; with_reducible refine ck.out.mono ?_; rintro e w1 ⟨rfl, hb⟩; replace HB := Lib.hid (below_step HB.out hb); clear hb))
  go_loopw [5, 6] (fun v5 v6 wr => ∃ (b : ByteArray) (k : Nat), v5 = .string b ∧ v6 = .int .i64 k ∧ k ≤ N ∧ Hid (b = flatB (P.take k)) ∧ b.size ≤ k * 400 ∧ Hid (Few ss k) ∧ Hid (Below w.heap.size w wr)) (fun _ v6 _ => N - (intOf v6).toNat)
  case atStart => exact ⟨ByteArray.empty, 0, rfl, rfl, Nat.zero_le _, by rfl, by decide, fun j s h => absurd h (Nat.not_lt_zero _), HB⟩
  case round =>
    clear HB
    obtain ⟨b, k, rfl, rfl, hk, hb, hbs, hle, HB⟩ := hrel
    by_cases hlt : k < N
    · have hlt' : k < ns.length := by rw [← HN.out]; exact hlt
      obtain ⟨n, hn⟩ : ∃ n, ns[k]? = some n := ⟨_, List.getElem?_eq_getElem hlt'⟩
      have hn4 : n < 4294967296 := Hn.out n (List.mem_of_getElem? hn)
      obtain ⟨ab, ao, rfl, hc⟩ := H1.out k n hn
      have c0 := cell_keep HB.out hc
      unfold mkU at c0
      have hp := pieces_get ns ss k hlt'
      rw [List.getD_eq_getElem?_getD, hn, ← HP.out] at hp
      have cn := Lib.hid (Num_any (n : Int) n (by unfold mxI; rw [if_neg (by omega)]) (by omega))
      have zn := num_size n hn4
      obtain ⟨s1, hs1⟩ : ∃ s, s = strN (numB n) := ⟨_, rfl⟩
      simp only [Option.getD_some] at hp
      rw [← hs1] at hp cn zn
      clear hc hlt' hs1 hn
      have b1 : (0 : Int) ≤ (k : Int) := by omega
      have b2 : (k : Int) < (N : Int) := by omega
      have hsz : b.size + s1.size ≤ 9223372036854775807 := by omega
      by_cases hm : k < M
      · have hm' : k < ss.length := by rw [← HM.out]; exact hm
        obtain ⟨s, hs⟩ : ∃ n, ss[k]? = some n := ⟨_, List.getElem?_eq_getElem hm'⟩
        obtain ⟨sb, so, rfl, hc⟩ := H2.out k s hs
        rw [if_pos hm', List.getD_eq_getElem?_getD, hs] at hp
        simp only [Option.getD_some] at hp
        have c3 : w.cell? ⟨sb, so + k, none⟩ = some (.string s) := hc
        have HC3 := Lib.hid c3
        have HPp := Lib.hid hp
        have b3 : (k : Int) < (M : Int) := by omega
        have HS := Lib.hid hs
        clear hc hm' hs hp c3
        by_cases hlong : 60 < s.size
        · have t3 : decide ((60 : Int) < (s.size : Int)) = true := decide_eq_true (by omega)
          have t3' : decide (60 < s.size) = true := decide_eq_true (by omega)
          go_wp2_with (first
            | (go_at_call 12; with_reducible refine (cn.out _).mono ?_; rintro e w1 ⟨rfl, hb⟩; replace HB := Lib.hid (below_step HB.out hb); have c3 := cell_keep HB.out HC3.out; clear hb c0))
          go_ret
          exact ⟨rfl, HB.out⟩
        · have t3 : decide ((60 : Int) < (s.size : Int)) = false := decide_eq_false (by omega)
          have t3' : decide (60 < s.size) = false := decide_eq_false (by omega)
          have ct := Lib.hid (Text_any s (by omega))
          have zt := textS_size s (by omega)
          obtain ⟨s2, hs2⟩ : ∃ x, x = textS s := ⟨_, rfl⟩
          rw [← hs2] at ct zt HPp
          clear hs2
          have hsz2 : (b ++ s1).size + s2.size ≤ 9223372036854775807 := by rw [ByteArray.size_append]; omega
          go_wp2_with (first
            | (go_at_call 12; with_reducible refine (cn.out _).mono ?_; rintro e w1 ⟨rfl, hb⟩; replace HB := Lib.hid (below_step HB.out hb); have c3 := cell_keep HB.out HC3.out; clear hb c0)
            | (go_at_call 13; with_reducible refine (ct.out _).mono ?_; rintro e w2 ⟨rfl, hb⟩; replace HB := Lib.hid (below_step HB.out hb); clear hb c3))
          go_roundw
          case rel => exact ⟨b ++ s1 ++ s2, k + 1, rfl, by go_num, by omega, Lib.hid (by rw [hb.out, append_assocB, up_succ P k _ HPp.out]), by rw [ByteArray.size_append, ByteArray.size_append]; omega, hle.out.step HS.out (by omega), HB.out⟩
          case measure => simp [intOf]; omega
      · have hm' : ¬ k < ss.length := by rw [← HM.out]; exact hm
        rw [if_neg hm', append_empty] at hp
        have HPp := Lib.hid hp
        have b3 : decide ((k : Int) < (M : Int)) = false := decide_eq_false (by omega)
        have b3' : decide (k < M) = false := decide_eq_false (by omega)
        clear hm' hp
        go_wp2_with (first
          | (go_at_call 12; with_reducible refine (cn.out _).mono ?_; rintro e w1 ⟨rfl, hb⟩; replace HB := Lib.hid (below_step HB.out hb); clear hb c0))
        go_roundw
        case rel => exact ⟨b ++ s1, k + 1, rfl, by go_num, by omega, Lib.hid (by rw [hb.out, up_succ P k _ HPp.out]), by rw [ByteArray.size_append]; omega, hle.out.past (by rw [← HM.out]; omega), HB.out⟩
        case measure => simp [intOf]; omega
    · obtain rfl : k = N := by omega
      clear hlt
      have hb0 : Hid (b = flatB (P.drop 0)) := by
        have := hb.out
        rw [← HPl.out, List.take_length] at this
        exact this
      have hkk := HPl.out
      clear hb
      go_wp2
      go_loopw [5, 7] (fun v5 v7 wr => ∃ (b : ByteArray) (i : Nat), v5 = .string b ∧ v7 = .int .i64 i ∧ i ≤ k ∧ Hid (b = flatB (P.drop i)) ∧ b.size ≤ 8000 ∧ Hid (Below w.heap.size w wr)) (fun _ v7 _ => k - (intOf v7).toNat)
      case atStart => exact ⟨b, 0, rfl, rfl, Nat.zero_le _, hb0, by omega, HB⟩
      case round =>
        clear HB hb0 hbs
        obtain ⟨b, i, rfl, rfl, hi, hb, hbs, HB⟩ := hrel
        have HG2 := Lib.hid (HG.out.below HB.out)
        by_cases hlt : i < k
        · have hlt' : i < ns.length := by rw [← HN.out]; exact hlt
          obtain ⟨n, hn⟩ : ∃ n, ns[i]? = some n := ⟨_, List.getElem?_eq_getElem hlt'⟩
          have hn4 : n < 4294967296 := Hn.out n (List.mem_of_getElem? hn)
          obtain ⟨ab, ao, rfl, hc⟩ := H1.out i n hn
          have c0 : Hid (w.cell? ⟨ab, ao + i, none⟩ = some (.int .u32 (n : Int))) := hc
          have hp := pieces_get ns ss i hlt'
          rw [List.getD_eq_getElem?_getD, hn, ← HP.out] at hp
          simp only [Option.getD_some] at hp
          have hbb := hb.out
          rw [down_succ P i _ hp, append_assocB] at hbb
          clear hc hlt' hn
          have b1 : (0 : Int) ≤ (i : Int) := by omega
          have b2 : (i : Int) < (k : Int) := by omega
          by_cases hm : i < M
          · have hm' : i < ss.length := by rw [← HM.out]; exact hm
            obtain ⟨s, hs⟩ : ∃ n, ss[i]? = some n := ⟨_, List.getElem?_eq_getElem hm'⟩
            obtain ⟨sb, so, rfl, hc⟩ := H2.out i s hs
            have zs := hle.out i s hlt hs
            have HC3 : Hid (w.cell? ⟨sb, so + i, none⟩ = some (.string s)) := hc
            rw [if_pos hm', List.getD_eq_getElem?_getD, hs] at hbb
            simp only [Option.getD_some] at hbb
            obtain ⟨more, hmore⟩ : ∃ x, x = flatB (P.drop (i + 1)) := ⟨_, rfl⟩
            obtain ⟨rest, hrest⟩ : ∃ x, x = textS s ++ flatB (P.drop (i + 1)) := ⟨_, rfl⟩
            rw [← hrest] at hbb
            rw [← hmore] at hrest
            have zr : rest.size ≤ b.size := by rw [hbb, ByteArray.size_append]; omega
            have zm : more.size ≤ rest.size := by rw [hrest, ByteArray.size_append]; omega
            have cn := Lib.hid (Take_is b n n rest 0 .nilIface rfl rfl (by omega) (by rw [hbb]; exact take_num n rest (by omega)))
            have ct := Lib.hid (TakeText_is rest 60 s more 0 .nilIface rfl (by omega) (by rw [hrest]; exact textR_back s more 60 (by omega) (by omega)))
            have k1 := Lib.hid (beq_list s.toList)
            have b3 : (i : Int) < (M : Int) := by omega
            have HMo := Lib.hid hmore
            clear hc hm' hs hp hbb hmore hrest
            go_wp2_with (first
              | (go_at_call 14; with_reducible refine (cn.out _).mono ?_; rintro e w1 ⟨rfl, hb⟩; replace HG2 := Lib.hid (HG2.out.below hb); replace HB := Lib.hid (below_step HB.out hb); have c1 := cell_keep HB.out c0.out; clear hb)
              | (go_at_call 15; with_reducible refine (ct.out _ HG2.out).mono ?_; rintro e w2 ⟨rfl, hb⟩; replace HG2 := Lib.hid (HG2.out.below hb); replace HB := Lib.hid (below_step HB.out hb); have c3 := cell_keep HB.out HC3.out; clear hb c1))
            go_roundw
            case rel => exact ⟨more, i + 1, rfl, by go_num, by omega, HMo.out, by omega, HB.out⟩
            case measure => simp [intOf]; omega
          · have hm' : ¬ i < ss.length := by rw [← HM.out]; exact hm
            rw [if_neg hm', empty_append] at hbb
            obtain ⟨more, hmore⟩ : ∃ x, x = flatB (P.drop (i + 1)) := ⟨_, rfl⟩
            rw [← hmore] at hbb
            have zm : more.size ≤ b.size := by rw [hbb, ByteArray.size_append]; omega
            have cn := Lib.hid (Take_is b n n more 0 .nilIface rfl rfl (by omega) (by rw [hbb]; exact take_num n more (by omega)))
            have b3 : decide ((i : Int) < (M : Int)) = false := decide_eq_false (by omega)
            have b3' : decide (i < M) = false := decide_eq_false (by omega)
            have HMo := Lib.hid hmore
            clear hm' hp hbb hmore
            go_wp2_with (first
              | (go_at_call 14; with_reducible refine (cn.out _).mono ?_; rintro e w1 ⟨rfl, hb⟩; replace HG2 := Lib.hid (HG2.out.below hb); replace HB := Lib.hid (below_step HB.out hb); have c1 := cell_keep HB.out c0.out; clear hb))
            go_roundw
            case rel => exact ⟨more, i + 1, rfl, by go_num, by omega, HMo.out, by omega, HB.out⟩
            case measure => simp [intOf]; omega
        · obtain rfl : i = k := by omega
          have hbe : b = ⟨#[]⟩ := by
            have := hb.out
            rw [← HPl.out, List.drop_length] at this
            exact this
          subst hbe
          clear hlt
          go_wp2
          go_ret
          exact ⟨rfl, HB.out⟩
end Go.Proofs.YtfmgafpgajlddaaDoor
