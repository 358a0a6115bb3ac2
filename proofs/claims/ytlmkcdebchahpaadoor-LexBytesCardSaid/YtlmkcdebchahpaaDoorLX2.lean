import Derived.Test.YtlmkcdebchahpaaDoorLX1
import Derived.Test.YtlmkcdebchahpaaDoorB0
import Derived.Test.YtlmkcdebchahpaaDoorPLexTellsx1
import Derived.Test.YtlmkcdebchahpaaDoorPLexTellsx3
set_option linter.unusedVariables false
set_option linter.unusedSimpArgs false
namespace Go.Proofs.YtlmkcdebchahpaaDoor
open Go.RowKit Go.Proofs.YtlmkcdebchahpaaDoor.PLexTells
open Go.Proofs.YtlmkcdebchahpaaDoorW.PrintWords (Ev LeO)

/-! ### what the printed functions come to -/
theorem pbt (s : ByteArray) (i : Nat) : Go.Proofs.YtlmkcdebchahpaaDoorW.PrintWords.bt s (i : Int) = (bt s i : Int) := by
  unfold Go.Proofs.YtlmkcdebchahpaaDoorW.PrintWords.bt bt
  rw [Int.toNat_natCast, List.getD_eq_getElem?_getD]
  by_cases h : i < s.size
  · have h' : i < s.data.toList.length := by simpa using h
    rw [dif_pos h, List.getElem?_eq_getElem h']
    rfl
  · have h' : s.data.toList.length ≤ i := by simpa using h
    rw [dif_neg h, List.getElem?_eq_none h']
    rfl
theorem drop_bt (s : ByteArray) (i : Nat) (h : i < s.size) : (bys s).drop i = bt s i :: (bys s).drop (i + 1) := by
  obtain ⟨h1, h2⟩ := List.getElem?_eq_some_iff.1 (bt_bys s i h)
  rw [List.drop_eq_getElem_cons h1, h2]
theorem drop_end (s : ByteArray) (i : Nat) (h : s.size ≤ i) : (bys s).drop i = [] := List.drop_eq_nil_of_le (by rw [bys_length]; exact h)
theorem headRun_drop (s : ByteArray) (i : Nat) : headRun ((bys s).drop i) = (decide (i < s.size) && runB (bt s i)) := by
  by_cases h : i < s.size
  · rw [drop_bt s i h, decide_eq_true h]; rfl
  · rw [drop_end s i (by omega), decide_eq_false h]; rfl
/-- Is there one of a run ahead? -/
def preB (s : ByteArray) (i k : Nat) : Bool := decide (i < k) && runB (bt s (k - 1))
theorem runG_yes {p : Bool} {b : Nat} {r : List Nat} (h : runB b = true) : runG p (b :: r) = runG true r + 1 := by
  conv => lhs; unfold runG
  rw [if_pos h]
theorem runG_dot {p : Bool} {b : Nat} {r : List Nat} (h : runB b = false) (h2 : (b == 46 && p && headRun r) = true) : runG p (b :: r) = runG false r + 1 := by
  conv => lhs; unfold runG
  rw [if_neg (by rw [h]; exact Bool.false_ne_true), if_pos h2]
theorem runG_no {p : Bool} {b : Nat} {r : List Nat} (h : runB b = false) (h2 : (b == 46 && p && headRun r) = false) : runG p (b :: r) = 0 := by
  conv => lhs; unfold runG
  rw [if_neg (by rw [h]; exact Bool.false_ne_true), if_neg (by rw [h2]; exact Bool.false_ne_true)]
theorem wrap_up {i : Nat} (h : i < 9223372036854775807) : wrap64 ((i : Int) + 1) = ((i + 1 : Nat) : Int) := by unfold wrap64; omega
theorem wrap_down {i : Nat} (h0 : 0 < i) (h : i < 9223372036854775807) : wrap64 ((i : Int) - 1) = ((i - 1 : Nat) : Int) := by unfold wrap64; omega

theorem isRun_all : ∀ b : Nat, b < 256 → lex_isRun.f 4 (b : Int) = some (runB b) := by decide +kernel
theorem isRun_ev (b : Nat) (hb : b < 256) : Ev (fun k => lex_isRun.f k (b : Int)) (runB b) := Ev.of (lex_isRun.mono _) (isRun_all b hb)
theorem rrun_all : ∀ b : Nat, b < 256 → vademecumref9_run.f (b : Int) = some (runB b) := by decide +kernel

set_option maxHeartbeats 1000000 in
theorem run_ev (s : ByteArray) (hs : s.size < 9223372036854775807) : ∀ (d i : Nat), i + d = s.size → Ev (fun k => lex_run.l0 k s (i : Int)) ((i + runG (preB s 0 i) ((bys s).drop i) : Nat) : Int)
  | 0, i, hd => by
    have h1 : ¬ (i : Int) < (s.size : Int) := by omega
    refine ⟨1, fun k hk => ?_⟩
    obtain ⟨m, rfl⟩ : ∃ m, k = m + 1 := ⟨k - 1, by omega⟩
    simp only [lex_run.l0]
    rw [if_neg h1, drop_end s i (by omega)]
    rfl
  | d + 1, i, hd => by
    have hi : i < s.size := by omega
    have h1 : (i : Int) < (s.size : Int) := by omega
    have h0 : 0 ≤ (i : Int) := by omega
    have e1 := wrap_up (i := i) (by omega)
    obtain ⟨K1, k1⟩ := isRun_ev (bt s i) (bt_lt s i)
    obtain ⟨K2, k2⟩ := run_ev s hs d (i + 1) (by omega)
    rw [drop_bt s i hi]
    by_cases hb : runB (bt s i) = true
    · refine ⟨K1 + K2 + 1, fun k hk => ?_⟩
      obtain ⟨m, rfl⟩ : ∃ m, k = m + 1 := ⟨k - 1, by omega⟩
      have q1 := k1 m (by omega)
      have q2 := k2 m (by omega)
      have hp : preB s 0 (i + 1) = true := by unfold preB; rw [decide_eq_true (by omega), Nat.add_sub_cancel, hb]; rfl
      simp only at q1 q2
      simp only [lex_run.l0]
      rw [if_pos h1, if_pos h0, pbt, q1, hb]
      rw [Option.bind_some, if_pos rfl]
      rw [e1, q2, hp, runG_yes hb]
      congr 2; omega
    · have hb' : runB (bt s i) = false := by simpa using hb
      have stop : ∀ (g : Nat → Option Int), (bt s i == 46 && preB s 0 i && headRun ((bys s).drop (i + 1))) = false → (∀ m, K1 ≤ m → (g (m + 1)) = some (i : Int)) → Ev g ((i + runG (preB s 0 i) (bt s i :: (bys s).drop (i + 1)) : Nat) : Int) := fun g hno hg => by
        refine ⟨K1 + 1, fun k hk => ?_⟩
        obtain ⟨m, rfl⟩ : ∃ m, k = m + 1 := ⟨k - 1, by omega⟩
        rw [hg m (by omega), runG_no hb' hno]
        rfl
      by_cases c1 : bt s i = 46
      · have c1' : (bt s i : Int) = 46 := by omega
        by_cases c2 : 0 < i
        · have c2' : (i : Int) > 0 := by omega
          have e2 := wrap_down c2 (by omega : i < 9223372036854775807)
          have h3 : 0 ≤ ((i - 1 : Nat) : Int) := by omega
          have h4 : ((i - 1 : Nat) : Int) < (s.size : Int) := by omega
          obtain ⟨K3, k3⟩ := isRun_ev (bt s (i - 1)) (bt_lt s (i - 1))
          by_cases c3 : runB (bt s (i - 1)) = true
          · have hp0 : preB s 0 i = true := by unfold preB; rw [decide_eq_true c2, c3]; rfl
            by_cases c4 : i + 1 < s.size
            · have c4' : ((i + 1 : Nat) : Int) < (s.size : Int) := by omega
              have h5 : 0 ≤ ((i + 1 : Nat) : Int) := by omega
              obtain ⟨K4, k4⟩ := isRun_ev (bt s (i + 1)) (bt_lt s (i + 1))
              by_cases c5 : runB (bt s (i + 1)) = true
              · refine ⟨K1 + K2 + K3 + K4 + 1, fun k hk => ?_⟩
                obtain ⟨m, rfl⟩ : ∃ m, k = m + 1 := ⟨k - 1, by omega⟩
                have q1 := k1 m (by omega)
                have q2 := k2 m (by omega)
                have q3 := k3 m (by omega)
                have q4 := k4 m (by omega)
                have hp : preB s 0 (i + 1) = false := by unfold preB; rw [Nat.add_sub_cancel, hb', Bool.and_false]
                simp only at q1 q2 q3 q4
                simp only [lex_run.l0]
                rw [if_pos h1, if_pos h0, pbt, q1, hb']
                rw [Option.bind_some, if_neg Bool.false_ne_true]
                rw [if_pos c1', if_pos c2', e2, if_pos h3, if_pos h4, pbt, q3, c3]
                rw [Option.bind_some, if_pos rfl]
                rw [e1, if_pos c4', if_pos h5, pbt, q4, c5]
                rw [Option.bind_some, if_pos rfl]
                rw [q2, hp, runG_dot hb' (by rw [hp0, headRun_drop, decide_eq_true c4, c5, c1]; rfl)]
                congr 2; omega
              · have c5' : runB (bt s (i + 1)) = false := by simpa using c5
                refine ⟨K1 + K3 + K4 + 1, fun k hk => ?_⟩
                obtain ⟨m, rfl⟩ : ∃ m, k = m + 1 := ⟨k - 1, by omega⟩
                have q1 := k1 m (by omega)
                have q3 := k3 m (by omega)
                have q4 := k4 m (by omega)
                simp only at q1 q3 q4
                simp only [lex_run.l0]
                rw [if_pos h1, if_pos h0, pbt, q1, hb']
                rw [Option.bind_some, if_neg Bool.false_ne_true]
                rw [if_pos c1', if_pos c2', e2, if_pos h3, if_pos h4, pbt, q3, c3]
                rw [Option.bind_some, if_pos rfl]
                rw [e1, if_pos c4', if_pos h5, pbt, q4, c5']
                rw [Option.bind_some, if_neg Bool.false_ne_true]
                rw [runG_no hb' (by rw [headRun_drop, c5', Bool.and_false, Bool.and_false])]
                rfl
            · have c4' : ¬ ((i + 1 : Nat) : Int) < (s.size : Int) := by omega
              refine ⟨K1 + K3 + 1, fun k hk => ?_⟩
              obtain ⟨m, rfl⟩ : ∃ m, k = m + 1 := ⟨k - 1, by omega⟩
              have q1 := k1 m (by omega)
              have q3 := k3 m (by omega)
              simp only at q1 q3
              simp only [lex_run.l0]
              rw [if_pos h1, if_pos h0, pbt, q1, hb']
              rw [Option.bind_some, if_neg Bool.false_ne_true]
              rw [if_pos c1', if_pos c2', e2, if_pos h3, if_pos h4, pbt, q3, c3]
              rw [Option.bind_some, if_pos rfl]
              rw [e1, if_neg c4', runG_no hb' (by rw [headRun_drop, decide_eq_false (by omega), Bool.false_and, Bool.and_false])]
              rfl
          · have c3' : runB (bt s (i - 1)) = false := by simpa using c3
            refine ⟨K1 + K3 + 1, fun k hk => ?_⟩
            obtain ⟨m, rfl⟩ : ∃ m, k = m + 1 := ⟨k - 1, by omega⟩
            have q1 := k1 m (by omega)
            have q3 := k3 m (by omega)
            simp only at q1 q3
            simp only [lex_run.l0]
            rw [if_pos h1, if_pos h0, pbt, q1, hb']
            rw [Option.bind_some, if_neg Bool.false_ne_true]
            rw [if_pos c1', if_pos c2', e2, if_pos h3, if_pos h4, pbt, q3, c3']
            rw [Option.bind_some, if_neg Bool.false_ne_true]
            rw [runG_no hb' (by unfold preB; rw [c3', Bool.and_false, Bool.and_false, Bool.false_and])]
            rfl
        · have c2' : ¬ (i : Int) > 0 := by omega
          refine stop _ (by unfold preB; rw [decide_eq_false c2, Bool.false_and, Bool.and_false, Bool.false_and]) fun m hm => ?_
          have q1 := k1 m (by omega)
          simp only at q1
          simp only [lex_run.l0]
          rw [if_pos h1, if_pos h0, pbt, q1, hb']
          rw [Option.bind_some, if_neg Bool.false_ne_true]
          rw [if_pos c1', if_neg c2']
      · have c1' : ¬ (bt s i : Int) = 46 := by omega
        refine stop _ (by rw [beq_eq_false_iff_ne.2 c1, Bool.false_and, Bool.false_and]) fun m hm => ?_
        have q1 := k1 m (by omega)
        simp only at q1
        simp only [lex_run.l0]
        rw [if_pos h1, if_pos h0, pbt, q1, hb']
        rw [Option.bind_some, if_neg Bool.false_ne_true]
        rw [if_neg c1']
theorem run_any (s : ByteArray) (hs : s.size < 9223372036854775807) (w : World) : Calls Tryd.prog 26 #[.string s] w fun e w' => e = .returned (.int .i64 (runG false (bys s) : Int)) ∧ ∃ n, w' = w.drewN n := by
  obtain ⟨k, hk⟩ := (run_ev s hs s.size 0 (by omega)).rounds
  rw [List.drop_zero, Nat.zero_add, show preB s 0 0 = false from rfl] at hk
  exact (lex_run.calls k s _ w hk).mono fun e w' ⟨h1, h2⟩ => ⟨h1, h2.out⟩
end Go.Proofs.YtlmkcdebchahpaaDoor
