import Derived.Test.YtlmkcdebchahpaaDoorLX2
set_option linter.unusedVariables false
set_option linter.unusedSimpArgs false
namespace Go.Proofs.YtlmkcdebchahpaaDoor
open Go.RowKit Go.Proofs.YtlmkcdebchahpaaDoor.PLexTells
open Go.Proofs.YtlmkcdebchahpaaDoorW.PrintWords (Ev LeO)

/-! ### the document's words -/
theorem two_iff (u : ByteArray) (h : 2 ≤ u.size) (p q : UInt8) : (u.extract 0 2).toList = [p, q] ↔ (bt u 0 = p.toNat ∧ bt u 1 = q.toNat) := by
  have hb : bys (u.extract 0 2) = [bt u 0, bt u 1] := by
    rw [bys_extract, List.drop_zero]
    have e0 := drop_bt u 0 (by omega)
    have e1 := drop_bt u (0 + 1) (by omega)
    rw [List.drop_zero] at e0
    rw [e0, e1]
    rfl
  rw [ByteArray.toList_eq]
  have hl : bys (u.extract 0 2) = (u.extract 0 2).data.toList.map UInt8.toNat := rfl
  constructor
  · intro e
    rw [hl, e] at hb
    simp only [List.map_cons, List.map_nil, List.cons.injEq, and_true] at hb
    exact ⟨hb.1.symm, hb.2.symm⟩
  · intro ⟨e1, e2⟩
    rw [hl, e1, e2] at hb
    refine List.map_inj_right (fun x y e => UInt8.toNat.inj e) |>.mp ?_
    rw [hb]
    rfl
def symN (u : ByteArray) : Nat := symG (bys u)
theorem sym1 (b : Nat) : (if (b : Int) = 40 then some 1 else if (b : Int) = 41 then some 1 else if (b : Int) = 123 then some 1 else if (b : Int) = 125 then some 1 else if (b : Int) = 58 then some 1 else if (b : Int) = 44 then some 1 else if (b : Int) = 59 then some 1 else if (b : Int) = 46 then some (1 : Int) else some 0) = some ((if symB b = true then 1 else 0 : Nat) : Int) := by
  by_cases h : symB b = true
  · rw [if_pos h]
    simp [symB] at h
    have : (b : Int) = 40 ∨ (b : Int) = 41 ∨ (b : Int) = 123 ∨ (b : Int) = 125 ∨ (b : Int) = 58 ∨ (b : Int) = 44 ∨ (b : Int) = 59 ∨ (b : Int) = 46 := by omega
    rcases this with h | h | h | h | h | h | h | h <;> rw [h] <;> rfl
  · rw [if_neg h]
    simp [symB] at h
    rw [if_neg (by omega), if_neg (by omega), if_neg (by omega), if_neg (by omega), if_neg (by omega), if_neg (by omega), if_neg (by omega), if_neg (by omega)]
    rfl
theorem symbol_ev (u : ByteArray) (h0 : 0 < u.size) : Ev (fun k => vademecumref9_symbol.f k u) ((symG (bys u) : Nat) : Int) := by
  have e0 := drop_bt u 0 h0
  rw [List.drop_zero] at e0
  refine ⟨1, fun k hk => ?_⟩
  obtain ⟨m, rfl⟩ : ∃ m, k = m + 1 := ⟨k - 1, by omega⟩
  have hz : (0 : Int) < (u.size : Int) := by omega
  have jt : vademecumref9_symbol.j0 (m + 1) u true = some 2 := rfl
  have jf : vademecumref9_symbol.j0 (m + 1) u false = some ((if symB (bt u 0) = true then 1 else 0 : Nat) : Int) := by
    rw [← sym1]
    simp only [vademecumref9_symbol.j0]
    rw [if_neg Bool.false_ne_true, if_pos hz]
    have := pbt u 0
    rw [Int.natCast_zero] at this
    rw [this]
  rw [e0, symG_cons]
  show vademecumref9_symbol.f (m + 1) u = _
  unfold vademecumref9_symbol.f
  by_cases h2 : 2 ≤ u.size
  · have e1 := drop_bt u (0 + 1) (by omega)
    have t1 := two_iff u h2 58 61
    have t2 := two_iff u h2 61 62
    have t3 := two_iff u h2 45 62
    rw [if_pos (by omega), if_pos (by omega), if_pos (by omega), e1]
    show (if (u.extract 0 2).toList = [58, 61] then _ else _) = some (((if ((bt u 0 == 58 && bt u (0 + 1) == 61) || (bt u 0 == 61 && bt u (0 + 1) == 62) || (bt u 0 == 45 && bt u (0 + 1) == 62)) = true then 2 else if symB (bt u 0) = true then 1 else 0 : Nat)) : Int)
    by_cases c1 : (u.extract 0 2).toList = [58, 61]
    · obtain ⟨a1, a2⟩ := t1.1 c1
      rw [if_pos c1, jt, if_pos (by rw [a1, a2]; rfl)]
      rfl
    · rw [if_neg c1]
      by_cases c2 : (u.extract 0 2).toList = [61, 62]
      · obtain ⟨a1, a2⟩ := t2.1 c2
        rw [if_pos c2, jt, if_pos (by rw [a1, a2]; rfl)]
        rfl
      · rw [if_neg c2]
        by_cases c3 : (u.extract 0 2).toList = [45, 62]
        · obtain ⟨a1, a2⟩ := t3.1 c3
          rw [beq_iff_eq.2 c3, jt, if_pos (by rw [a1, a2]; rfl)]
          rfl
        · have hno : ¬ ((bt u 0 == 58 && bt u (0 + 1) == 61) || (bt u 0 == 61 && bt u (0 + 1) == 62) || (bt u 0 == 45 && bt u (0 + 1) == 62)) = true := by
            intro hh
            simp only [Bool.or_eq_true, Bool.and_eq_true, beq_iff_eq] at hh
            rcases hh with (hh | hh) | hh
            · exact c1 (t1.2 hh)
            · exact c2 (t2.2 hh)
            · exact c3 (t3.2 hh)
          rw [beq_eq_false_iff_ne.2 c3, jf, if_neg hno]
  · have e1 := drop_end u (0 + 1) (by omega)
    have ht : twoG [bt u 0] = false := rfl
    rw [if_neg (by omega), jf, e1, ht]
    rfl

set_option maxHeartbeats 1000000 in
theorem l1_ev (s : ByteArray) (out : List ByteArray) (i : Nat) (hs : s.size < 9223372036854775807) : ∀ (d x : Nat), x + d = s.size → i ≤ x → ∀ R : List ByteArray × Int,
    Ev (fun k => vademecumref9_Words.j3 k s out (i : Int) ((x + runG (preB s i x) ((bys s).drop x) : Nat) : Int)) R → Ev (fun k => vademecumref9_Words.l1 k s out (i : Int) (x : Int)) R
  | 0, x, hd, hix, R, H => by
    have h1 : ¬ (x : Int) < (s.size : Int) := by omega
    rw [drop_end s x (by omega)] at H
    obtain ⟨K, hK⟩ := H
    refine ⟨K + 1, fun k hk => ?_⟩
    obtain ⟨m, rfl⟩ : ∃ m, k = m + 1 := ⟨k - 1, by omega⟩
    have q := hK m (by omega)
    simp only [vademecumref9_Words.l1]
    rw [if_neg h1]
    exact q
  | d + 1, x, hd, hix, R, H => by
    have hx : x < s.size := by omega
    have h1 : (x : Int) < (s.size : Int) := by omega
    have h0 : 0 ≤ (x : Int) := by omega
    have e1 := wrap_up (i := x) (by omega)
    have q1 := rrun_all (bt s x) (bt_lt s x)
    rw [drop_bt s x hx] at H
    by_cases hb : runB (bt s x) = true
    · have hp : preB s i (x + 1) = true := by unfold preB; rw [decide_eq_true (by omega), Nat.add_sub_cancel, hb]; rfl
      rw [runG_yes hb, ← hp, show x + (runG (preB s i (x + 1)) ((bys s).drop (x + 1)) + 1) = (x + 1) + runG (preB s i (x + 1)) ((bys s).drop (x + 1)) by omega] at H
      obtain ⟨K, hK⟩ := l1_ev s out i hs d (x + 1) (by omega) (by omega) R H
      refine ⟨K + 1, fun k hk => ?_⟩
      obtain ⟨m, rfl⟩ : ∃ m, k = m + 1 := ⟨k - 1, by omega⟩
      have q := hK m (by omega)
      simp only [vademecumref9_Words.l1]
      rw [if_pos h1, if_pos h0, pbt, q1, hb, Option.bind_some, if_pos rfl, e1]
      exact q
    · have hb' : runB (bt s x) = false := by simpa using hb
      have stop : (bt s x == 46 && preB s i x && headRun ((bys s).drop (x + 1))) = false → Ev (fun k => vademecumref9_Words.j3 k s out (i : Int) (x : Int)) R := fun hno => by
        rw [runG_no hb' hno, Nat.add_zero] at H
        exact H
      by_cases c1 : bt s x = 46
      · have c1' : (bt s x : Int) = 46 := by omega
        by_cases c2 : i < x
        · have c2' : (x : Int) > (i : Int) := by omega
          have e2 := wrap_down (i := x) (by omega) (by omega)
          have h3 : 0 ≤ ((x - 1 : Nat) : Int) := by omega
          have h4 : ((x - 1 : Nat) : Int) < (s.size : Int) := by omega
          have q3 := rrun_all (bt s (x - 1)) (bt_lt s (x - 1))
          by_cases c3 : runB (bt s (x - 1)) = true
          · have hp0 : preB s i x = true := by unfold preB; rw [decide_eq_true c2, c3]; rfl
            by_cases c4 : x + 1 < s.size
            · have c4' : ((x + 1 : Nat) : Int) < (s.size : Int) := by omega
              have h5 : 0 ≤ ((x + 1 : Nat) : Int) := by omega
              have q4 := rrun_all (bt s (x + 1)) (bt_lt s (x + 1))
              by_cases c5 : runB (bt s (x + 1)) = true
              · have hp : preB s i (x + 1) = false := by unfold preB; rw [Nat.add_sub_cancel, hb', Bool.and_false]
                have hd' : (bt s x == 46 && preB s i x && headRun ((bys s).drop (x + 1))) = true := by rw [hp0, headRun_drop, decide_eq_true c4, c5, c1]; rfl
                rw [runG_dot hb' hd', ← hp, show x + (runG (preB s i (x + 1)) ((bys s).drop (x + 1)) + 1) = (x + 1) + runG (preB s i (x + 1)) ((bys s).drop (x + 1)) by omega] at H
                obtain ⟨K, hK⟩ := l1_ev s out i hs d (x + 1) (by omega) (by omega) R H
                refine ⟨K + 1, fun k hk => ?_⟩
                obtain ⟨m, rfl⟩ : ∃ m, k = m + 1 := ⟨k - 1, by omega⟩
                have q := hK m (by omega)
                simp only [vademecumref9_Words.l1]
                rw [if_pos h1, if_pos h0, pbt, q1, hb', Option.bind_some, if_neg Bool.false_ne_true, if_pos c1', if_pos c2', e2, if_pos h3, if_pos h4, pbt, q3, c3, Option.bind_some, if_pos rfl, e1, if_pos c4', if_pos h5, pbt, q4, c5, Option.bind_some, if_pos rfl]
                exact q
              · have c5' : runB (bt s (x + 1)) = false := by simpa using c5
                obtain ⟨K, hK⟩ := stop (by rw [headRun_drop, c5', Bool.and_false, Bool.and_false])
                refine ⟨K + 1, fun k hk => ?_⟩
                obtain ⟨m, rfl⟩ : ∃ m, k = m + 1 := ⟨k - 1, by omega⟩
                have q := hK m (by omega)
                simp only [vademecumref9_Words.l1]
                rw [if_pos h1, if_pos h0, pbt, q1, hb', Option.bind_some, if_neg Bool.false_ne_true, if_pos c1', if_pos c2', e2, if_pos h3, if_pos h4, pbt, q3, c3, Option.bind_some, if_pos rfl, e1, if_pos c4', if_pos h5, pbt, q4, c5', Option.bind_some, if_neg Bool.false_ne_true]
                exact q
            · have c4' : ¬ ((x + 1 : Nat) : Int) < (s.size : Int) := by omega
              obtain ⟨K, hK⟩ := stop (by rw [headRun_drop, decide_eq_false (by omega), Bool.false_and, Bool.and_false])
              refine ⟨K + 1, fun k hk => ?_⟩
              obtain ⟨m, rfl⟩ : ∃ m, k = m + 1 := ⟨k - 1, by omega⟩
              have q := hK m (by omega)
              simp only [vademecumref9_Words.l1]
              rw [if_pos h1, if_pos h0, pbt, q1, hb', Option.bind_some, if_neg Bool.false_ne_true, if_pos c1', if_pos c2', e2, if_pos h3, if_pos h4, pbt, q3, c3, Option.bind_some, if_pos rfl, e1, if_neg c4']
              exact q
          · have c3' : runB (bt s (x - 1)) = false := by simpa using c3
            obtain ⟨K, hK⟩ := stop (by unfold preB; rw [c3', Bool.and_false, Bool.and_false, Bool.false_and])
            refine ⟨K + 1, fun k hk => ?_⟩
            obtain ⟨m, rfl⟩ : ∃ m, k = m + 1 := ⟨k - 1, by omega⟩
            have q := hK m (by omega)
            simp only [vademecumref9_Words.l1]
            rw [if_pos h1, if_pos h0, pbt, q1, hb', Option.bind_some, if_neg Bool.false_ne_true, if_pos c1', if_pos c2', e2, if_pos h3, if_pos h4, pbt, q3, c3', Option.bind_some, if_neg Bool.false_ne_true]
            exact q
        · have c2' : ¬ (x : Int) > (i : Int) := by omega
          obtain ⟨K, hK⟩ := stop (by unfold preB; rw [decide_eq_false c2, Bool.false_and, Bool.and_false, Bool.false_and])
          refine ⟨K + 1, fun k hk => ?_⟩
          obtain ⟨m, rfl⟩ : ∃ m, k = m + 1 := ⟨k - 1, by omega⟩
          have q := hK m (by omega)
          simp only [vademecumref9_Words.l1]
          rw [if_pos h1, if_pos h0, pbt, q1, hb', Option.bind_some, if_neg Bool.false_ne_true, if_pos c1', if_neg c2']
          exact q
      · have c1' : ¬ (bt s x : Int) = 46 := by omega
        obtain ⟨K, hK⟩ := stop (by rw [beq_eq_false_iff_ne.2 c1, Bool.false_and, Bool.false_and])
        refine ⟨K + 1, fun k hk => ?_⟩
        obtain ⟨m, rfl⟩ : ∃ m, k = m + 1 := ⟨k - 1, by omega⟩
        have q := hK m (by omega)
        simp only [vademecumref9_Words.l1]
        rw [if_pos h1, if_pos h0, pbt, q1, hb', Option.bind_some, if_neg Bool.false_ne_true, if_neg c1']
        exact q

/-- What the words come to, behind others. -/
def finR (out : List ByteArray) : Option (List (List Nat)) → List ByteArray × Int
  | none => ([], 10)
  | some ws => (out ++ ws.map strN, 0)
theorem strN_take (s : ByteArray) (i n : Nat) : strN (((bys s).drop i).take n) = s.extract i (i + n) := by
  apply bys_inj
  rw [bys_strN (fun x hx => bys_lt s x (List.mem_of_mem_drop (List.mem_of_mem_take hx))), bys_extract, List.drop_take, show i + n - i = n by omega]
theorem finR_cons (out : List ByteArray) (s : ByteArray) (i n : Nat) (o : Option (List (List Nat))) : finR out (o.map (((bys s).drop i).take n :: ·)) = finR (out ++ [s.extract i (i + n)]) o := by
  cases o with
  | none => rfl
  | some ws => simp [finR, strN_take]

set_option maxHeartbeats 1000000 in
theorem words_ev (s : ByteArray) (hs : s.size ≤ 2000) : ∀ (d i f : Nat) (out : List ByteArray), i + d = s.size → d < f → out.length ≤ i →
    Ev (fun k => vademecumref9_Words.l0 k s out (i : Int)) (finR out (wordsG f ((bys s).drop i))) := by
  intro d
  induction d using Nat.strongRecOn with
  | ind d ih =>
    intro i f out hd hf hout
    obtain ⟨f, rfl⟩ : ∃ g, f = g + 1 := ⟨f - 1, by omega⟩
    by_cases hi : i < s.size
    · have h1 : (i : Int) < (s.size : Int) := by omega
      have h0 : 0 ≤ (i : Int) := by omega
      have e1 := wrap_up (i := i) (by omega)
      have hbt := bt_lt s i
      have hdr := drop_bt s i hi
      by_cases hb : blankB (bt s i) = true
      · obtain ⟨K, hK⟩ := ih (d - 1) (by omega) (i + 1) (f + 1) out (by omega) (by omega) (by omega)
        rw [hdr, wordsG_blank _ _ hb]
        refine ⟨K + 2, fun k hk => ?_⟩
        obtain ⟨m, rfl⟩ : ∃ m, k = m + 1 + 1 := ⟨k - 2, by omega⟩
        have q := hK m (by omega)
        have jt : vademecumref9_Words.j1 (m + 1) s out (i : Int) true = some (finR out (wordsG (f + 1) ((bys s).drop (i + 1)))) := by
          simp only [vademecumref9_Words.j1]
          rw [if_pos trivial, e1]
          exact q
        simp only [vademecumref9_Words.l0]
        rw [if_pos h1, if_pos h0, pbt]
        simp [blankB] at hb
        by_cases b1 : bt s i = 32
        · rw [if_pos (by omega), jt]
        · rw [if_neg (by omega)]
          by_cases b2 : bt s i = 9
          · rw [if_pos (by omega), jt]
          · rw [if_neg (by omega)]
            by_cases b3 : bt s i = 10
            · rw [if_pos (by omega), jt]
            · rw [if_neg (by omega), beq_iff_eq.2 (by omega : (bt s i : Int) = 13), jt]
      · have hb' : blankB (bt s i) = false := by simpa using hb
        have hfin : Ev (fun k => vademecumref9_Words.j3 k s out (i : Int) ((i + runG (preB s i i) ((bys s).drop i) : Nat) : Int)) (finR out (wordsG (f + 1) ((bys s).drop i))) := by
          have hp : preB s i i = false := by unfold preB; rw [decide_eq_false (by omega)]; rfl
          have hnle := nextG_le ((bys s).drop i)
          rw [List.length_drop, bys_length] at hnle
          rw [hp]
          by_cases hr : runG false ((bys s).drop i) = 0
          · have hn := nextG_sym hr
            obtain ⟨Ks, hKs⟩ := symbol_ev (s.extract i s.size) (by rw [ByteArray.size_extract]; omega)
            have hbx : bys (s.extract i s.size) = (bys s).drop i := bys_dropB s i
            rw [hbx, ← hn] at hKs
            rw [hr, Nat.add_zero]
            by_cases hn0 : nextG ((bys s).drop i) = 0
            · have hw : finR out (wordsG (f + 1) ((bys s).drop i)) = ([], 10) := by
                rw [hdr] at hn0 ⊢
                rw [wordsG_none hb' hn0]; rfl
              rw [hw]
              refine ⟨Ks + 1, fun k hk => ?_⟩
              obtain ⟨m, rfl⟩ : ∃ m, k = m + 1 := ⟨k - 1, by omega⟩
              have q := hKs m (by omega)
              simp only at q
              simp only [vademecumref9_Words.j3]
              rw [if_pos trivial, if_pos h0, if_pos (by omega), Int.toNat_natCast, q, Option.bind_some, hn0, if_pos (by unfold wrap64; omega)]
            · have hw : finR out (wordsG (f + 1) ((bys s).drop i)) = finR (out ++ [s.extract i (i + nextG ((bys s).drop i))]) (wordsG f ((bys s).drop (i + nextG ((bys s).drop i)))) := by
                rw [← finR_cons, ← List.drop_drop]
                generalize hl : (bys s).drop i = l at *
                subst hdr
                rw [wordsG_cons hb' hn0]
              rw [hw]
              generalize nextG ((bys s).drop i) = n at *
              obtain ⟨K, hK⟩ := ih (d - n) (by omega) (i + n) f (out ++ [s.extract i (i + n)]) (by omega) (by omega) (by simp; omega)
              refine ⟨Ks + K + 1, fun k hk => ?_⟩
              obtain ⟨m, rfl⟩ : ∃ m, k = m + 1 := ⟨k - 1, by omega⟩
              have q := hKs m (by omega)
              simp only at q
              have q2 := hK m (by omega)
              have c1 : ¬ ((i + n : Nat) : Int) = (i : Int) := by omega
              have c2 : (i : Int) ≤ ((i + n : Nat) : Int) := by omega
              have c3 : ((i + n : Nat) : Int) ≤ (s.size : Int) := by omega
              have c4 : out.length < 8796093022208 := by omega
              have c5 : (i : Int) ≤ (s.size : Int) := by omega
              have e3 : wrap64 ((i : Int) + (n : Int)) = ((i + n : Nat) : Int) := by unfold wrap64; omega
              simp only [vademecumref9_Words.j3]
              rw [if_pos trivial, if_pos h0, if_pos c5, Int.toNat_natCast, q, Option.bind_some, e3, if_neg c1, if_pos c2, if_pos c3, if_pos c4, Int.toNat_natCast]
              exact q2
          · have hn := nextG_run hr
            have hn0 : nextG ((bys s).drop i) ≠ 0 := by rw [hn]; exact hr
            rw [← hn]
            have hw : finR out (wordsG (f + 1) ((bys s).drop i)) = finR (out ++ [s.extract i (i + nextG ((bys s).drop i))]) (wordsG f ((bys s).drop (i + nextG ((bys s).drop i)))) := by
              rw [← finR_cons, ← List.drop_drop]
              generalize hl : (bys s).drop i = l at *
              subst hdr
              rw [wordsG_cons hb' hn0]
            rw [hw]
            generalize nextG ((bys s).drop i) = n at *
            obtain ⟨K, hK⟩ := ih (d - n) (by omega) (i + n) f (out ++ [s.extract i (i + n)]) (by omega) (by omega) (by simp; omega)
            refine ⟨K + 1, fun k hk => ?_⟩
            obtain ⟨m, rfl⟩ : ∃ m, k = m + 1 := ⟨k - 1, by omega⟩
            have q2 := hK m (by omega)
            simp only [vademecumref9_Words.j3]
            rw [if_neg (by omega), if_pos h0, if_pos (by omega), if_pos (by omega), if_pos (by omega), Int.toNat_natCast, Int.toNat_natCast]
            exact q2
        obtain ⟨K, hK⟩ := l1_ev s out i (by omega) d i hd (Nat.le_refl _) _ hfin
        refine ⟨K + 2, fun k hk => ?_⟩
        obtain ⟨m, rfl⟩ : ∃ m, k = m + 1 + 1 := ⟨k - 2, by omega⟩
        have q := hK m (by omega)
        have jf : vademecumref9_Words.j1 (m + 1) s out (i : Int) false = some (finR out (wordsG (f + 1) ((bys s).drop i))) := by
          simp only [vademecumref9_Words.j1]
          rw [if_neg Bool.false_ne_true]
          exact q
        simp only [vademecumref9_Words.l0]
        rw [if_pos h1, if_pos h0, pbt]
        simp [blankB] at hb'
        rw [if_neg (by omega), if_neg (by omega), if_neg (by omega), beq_eq_false_iff_ne.2 (by omega : ¬ (bt s i : Int) = 13), jf]
    · have h1 : ¬ (i : Int) < (s.size : Int) := by omega
      rw [drop_end s i (by omega), wordsG_nil]
      refine ⟨1, fun k hk => ?_⟩
      obtain ⟨m, rfl⟩ : ∃ m, k = m + 1 := ⟨k - 1, by omega⟩
      simp only [vademecumref9_Words.l0]
      rw [if_neg h1]
      simp [finR]

/-- The words of a text, and what is wrong. -/
def wordsR (s : ByteArray) : List ByteArray × Int := if 2000 < s.size then ([], 13) else finR [] (wordsG (s.size + 1) (bys s))
/-- A row of texts in memory. -/
def Texts (w : World) (v : Value) (l : List ByteArray) : Prop := ∃ A c, v = .slice A l.length c ∧ l.length ≤ c ∧ Go.Proofs.YtlmkcdebchahpaaDoorW.PrintWords.Kd.string.C w A l.length l
theorem Texts.below {w w' : World} {v : Value} {l : List ByteArray} (h : Texts w v l) (hb : Below w.heap.size w w') : Texts w' v l := by
  obtain ⟨A, c, h1, h2, h3⟩ := h
  exact ⟨A, c, h1, h2, Go.Proofs.YtlmkcdebchahpaaDoorW.PrintWords.Kd.C_below h3 hb⟩
def RWordsPost (r : List ByteArray × Int) (w : World) (e : Ending) (w' : World) : Prop := ∃ v, e = .returned (.tuple #[v, .int .i64 r.2]) ∧ Texts w' v r.1 ∧ Below w.heap.size w w'
theorem rWords_any (s : ByteArray) (w : World) : Calls Tryd.prog 11 #[.string s] w (RWordsPost (wordsR s) w) := by
  have h : ∃ k, vademecumref9_Words.f k s = some (wordsR s) := by
    unfold wordsR vademecumref9_Words.f
    by_cases h : 2000 < s.size
    · exact ⟨0, by rw [if_pos h, if_pos (by omega)]⟩
    · obtain ⟨k, hk⟩ := (words_ev s (by omega) s.size 0 (s.size + 1) [] (by omega) (by omega) (Nat.le_refl _)).rounds
      rw [List.drop_zero] at hk
      exact ⟨k, by rw [if_neg h, if_neg (by omega)]; exact hk⟩
  obtain ⟨k, hk⟩ := h
  refine (vademecumref9_Words.calls k s (wordsR s).1 (wordsR s).2 w hk).mono fun e w' ⟨v, h1, h2, h3⟩ => ⟨v, h1, ?_, h3⟩
  exact Go.Proofs.YtlmkcdebchahpaaDoorW.PrintWords.Kd.R_reads h2
theorem same_ev (a b : List ByteArray) (hl : a.length = b.length) (hm : a.length < 9223372036854775807) : ∀ (d i : Nat), i + d = a.length → a.take i = b.take i →
    Ev (fun k => vademecumref1_SameTexts.l0 k a b (i : Int)) (decide (a = b))
  | 0, i, hd, ht => by
    have h1 : ¬ (i : Int) < (a.length : Int) := by omega
    have he : a = b := by rw [List.take_of_length_le (by omega), List.take_of_length_le (by omega)] at ht; exact ht
    refine ⟨1, fun k hk => ?_⟩
    obtain ⟨m, rfl⟩ : ∃ m, k = m + 1 := ⟨k - 1, by omega⟩
    simp only [vademecumref1_SameTexts.l0]
    rw [if_neg h1, decide_eq_true he]
  | d + 1, i, hd, ht => by
    have hi : i < a.length := by omega
    have hi' : i < b.length := by omega
    have h1 : (i : Int) < (a.length : Int) := by omega
    have h2 : (i : Int) < (b.length : Int) := by omega
    have h0 : 0 ≤ (i : Int) := by omega
    have ra : Go.Proofs.YtlmkcdebchahpaaDoorW.PrintWords.rdOf ByteArray.empty a (i : Int) = a[i] := by
      unfold Go.Proofs.YtlmkcdebchahpaaDoorW.PrintWords.rdOf
      rw [Int.toNat_natCast, List.getD_eq_getElem?_getD, List.getElem?_eq_getElem hi]; rfl
    have rb : Go.Proofs.YtlmkcdebchahpaaDoorW.PrintWords.rdOf ByteArray.empty b (i : Int) = b[i] := by
      unfold Go.Proofs.YtlmkcdebchahpaaDoorW.PrintWords.rdOf
      rw [Int.toNat_natCast, List.getD_eq_getElem?_getD, List.getElem?_eq_getElem hi']; rfl
    by_cases he : a[i] = b[i]
    · obtain ⟨K, hK⟩ := same_ev a b hl hm d (i + 1) (by omega) (by rw [List.take_succ_eq_append_getElem hi, List.take_succ_eq_append_getElem hi', ht, he])
      refine ⟨K + 1, fun k hk => ?_⟩
      obtain ⟨m, rfl⟩ : ∃ m, k = m + 1 := ⟨k - 1, by omega⟩
      have q := hK m (by omega)
      simp only [vademecumref1_SameTexts.l0]
      rw [if_pos h1, if_pos h0, if_pos h2, ra, rb, he, if_pos rfl, wrap_up (by omega)]
      exact q
    · have hne : ¬ a = b := fun e => he (by simp only [e])
      refine ⟨1, fun k hk => ?_⟩
      obtain ⟨m, rfl⟩ : ∃ m, k = m + 1 := ⟨k - 1, by omega⟩
      simp only [vademecumref1_SameTexts.l0]
      rw [if_pos h1, if_pos h0, if_pos h2, ra, rb, if_neg (fun e => he (list_inj e)), decide_eq_false hne]
theorem same_any (va vb : Value) (a b : List ByteArray) (w : World) (ha : Texts w va a) (hb : Texts w vb b) (hm : a.length < 9223372036854775807) :
    Calls Tryd.prog 9 #[va, vb] w fun e w' => e = .returned (.bool (decide (a = b))) ∧ ∃ n, w' = w.drewN n := by
  obtain ⟨A, c, rfl, hc, hA⟩ := ha
  obtain ⟨B, c', rfl, hc', hB⟩ := hb
  have h : ∃ k, vademecumref1_SameTexts.f k a b = some (decide (a = b)) := by
    unfold vademecumref1_SameTexts.f
    by_cases hl : a.length = b.length
    · obtain ⟨k, hk⟩ := (same_ev a b hl (by omega) a.length 0 (by omega) rfl).rounds
      exact ⟨k, by rw [if_pos (by omega)]; exact hk⟩
    · exact ⟨0, by rw [if_neg (by omega), decide_eq_false (fun e => hl (by rw [e]))]⟩
  obtain ⟨k, hk⟩ := h
  exact (vademecumref1_SameTexts.calls k A c a B c' b _ w hA hc hB hc' hk).mono fun e w' ⟨h1, h2⟩ => ⟨h1, h2.out⟩
end Go.Proofs.YtlmkcdebchahpaaDoor
