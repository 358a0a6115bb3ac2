import Derived.Test.YtdjcomlpedokeaaT3
import Derived.Test.YtdjcomlpedokeaaT4
import Derived.Test.YtdjcomlpedokeaaT5
namespace Go.Proofs.Ytdjcomlpedokeaa
open Go.RowKit Go.Deep

theorem beq_int_true {a b : Int} (h : a = b) : (a == b) = true := by simp [h]
theorem beq_int_false {a b : Int} (h : ¬ a = b) : (a == b) = false := by simp [h]

theorem made_any : ∀ k, MadeOk k := by
  intro k
  induction k with
  | zero => intro b key n l r t w _ _ _ _ h; cases h
  | succ k ih =>
    intro b key n l r t w g0 g1 hl hr h
    unfold madeF at h
    rw [TT.strip_deep, TT.strip_deep] at h
    by_cases h2 : l.deep - r.deep = 2
    · rw [if_pos h2] at h
      cases l with
      | nil => cases h
      | node pb pk pn pl pr pd pc =>
        simp only [TT.strip] at h
        rw [TT.strip_deep, TT.strip_deep] at h
        by_cases h3 : pl.deep < pr.deep
        · rw [if_pos h3] at h
          cases pr with
          | nil => cases h
          | node mb mk mn ml mr md mc =>
            simp only [TT.strip] at h
            obtain ⟨x, hx, h⟩ := Option.bind_eq_some_iff.mp h
            obtain ⟨y, hy, h⟩ := Option.bind_eq_some_iff.mp h
            cases y with
            | nil => cases h
            | node yk yn yl yr yd yc =>
              obtain ⟨z, hz, ht⟩ := Option.bind_eq_some_iff.mp h
              exact madeA1 k ih b key n pb pk pn pl pd pc mb mk mn ml mr md mc r x yl yr yk yn yd yc z t w g0 g1 hl hr (beq_int_true h2) (decide_eq_true h3) hx hy hz ht
        · rw [if_neg h3] at h
          obtain ⟨z, hz, ht⟩ := Option.bind_eq_some_iff.mp h
          exact madeA2 k ih b key n pb pk pn pl pr pd pc r z t w g0 g1 hl hr (beq_int_true h2) (decide_eq_false h3) hz ht
    · rw [if_neg h2] at h
      by_cases h2' : l.deep - r.deep = -2
      · rw [if_pos h2'] at h
        cases r with
        | nil => cases h
        | node pb pk pn pl pr pd pc =>
          simp only [TT.strip] at h
          rw [TT.strip_deep, TT.strip_deep] at h
          by_cases h3 : pr.deep < pl.deep
          · rw [if_pos h3] at h
            cases pl with
            | nil => cases h
            | node mb mk mn ml mr md mc =>
              simp only [TT.strip] at h
              obtain ⟨x, hx, h⟩ := Option.bind_eq_some_iff.mp h
              obtain ⟨y, hy, h⟩ := Option.bind_eq_some_iff.mp h
              cases y with
              | nil => cases h
              | node yk yn yl yr yd yc =>
                obtain ⟨z, hz, ht⟩ := Option.bind_eq_some_iff.mp h
                exact madeB1 k ih b key n pb pk pn pr pd pc mb mk mn ml mr md mc l x yl yr yk yn yd yc z t w g0 g1 hr hl (beq_int_false h2) (beq_int_true h2') (decide_eq_true h3) hx hy hz ht
          · rw [if_neg h3] at h
            obtain ⟨z, hz, ht⟩ := Option.bind_eq_some_iff.mp h
            exact madeB2 k ih b key n pb pk pn pl pr pd pc l z t w g0 g1 hr hl (beq_int_false h2) (beq_int_true h2') (decide_eq_false h3) hz ht
      · rw [if_neg h2'] at h
        exact made0_any b key n l r t w g0 g1 hl hr (beq_int_false h2) (beq_int_false h2') h
end Go.Proofs.Ytdjcomlpedokeaa
