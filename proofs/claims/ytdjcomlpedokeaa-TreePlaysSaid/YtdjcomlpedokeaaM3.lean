import Derived.Test.YtdjcomlpedokeaaM2
set_option linter.unusedVariables false
namespace Go.Proofs.Ytdjcomlpedokeaa

/-- The tree in a mirror. -/
def ST.mir : ST → ST
  | .nil => .nil
  | .node k n l r d c => .node k n r.mir l.mir d c
theorem mir_deep (t : ST) : t.mir.deep = t.deep := by cases t <;> rfl
theorem mir_count (t : ST) : t.mir.count = t.count := by cases t <;> rfl
theorem mir_mir : ∀ t : ST, t.mir.mir = t
  | .nil => rfl
  | .node k n l r d c => by show ST.node k n l.mir.mir r.mir.mir d c = _; rw [mir_mir l, mir_mir r]
theorem mxI_comm (a b : Int) : mxI a b = mxI b a := by unfold mxI; split <;> split <;> omega
theorem mir_bal : ∀ {t : ST}, t.Bal → t.mir.Bal
  | .nil, _ => trivial
  | .node k n l r d c, ⟨h1, h2, h3, h4, h5, h6⟩ =>
    ⟨by rw [mir_deep, mir_deep, mxI_comm]; exact h1, by rw [mir_count, mir_count]; omega, by rw [mir_deep, mir_deep]; exact h4, by rw [mir_deep, mir_deep]; exact h3, mir_bal h6, mir_bal h5⟩
theorem mir_items : ∀ t : ST, t.mir.items = t.items.reverse
  | .nil => rfl
  | .node k n l r d c => by simp [ST.mir, ST.items, mir_items l, mir_items r]

theorem mkS_mir (key : ByteArray) (n : Int) (l r : ST) : mkS key n r.mir l.mir = (mkS key n l r).map ST.mir := by
  unfold mkS
  rw [mir_deep, mir_deep, mir_count, mir_count, mxI_comm, Int.add_comm r.count l.count]
  split <;> rfl

theorem made_mir : ∀ (k : Nat) (key : ByteArray) (n : Int) (l r : ST), madeF k key n r.mir l.mir = (madeF k key n l r).map ST.mir
  | 0, _, _, _, _ => rfl
  | k + 1, key, n, l, r => by
    have ih := made_mir k
    unfold madeF
    rw [mir_deep, mir_deep]
    by_cases h1 : l.deep - r.deep = 2
    · rw [if_neg (by omega), if_pos (by omega), if_pos h1]
      cases l with
      | nil => rfl
      | node lk ln ll lr ld lc =>
        simp only [ST.mir]
        rw [mir_deep, mir_deep]
        by_cases h2 : ll.deep < lr.deep
        · rw [if_pos h2, if_pos h2]
          cases lr with
          | nil => rfl
          | node mk mn ml mr md mc =>
            simp only [ST.mir]
            rw [ih]
            cases madeF k lk ln ll ml with
            | none => rfl
            | some x =>
              simp only [Option.map_some, Option.bind_some]
              rw [ih]
              cases madeF k mk mn x mr with
              | none => rfl
              | some y =>
                simp only [Option.map_some, Option.bind_some]
                cases y with
                | nil => rfl
                | node yk yn yl yr yd yc =>
                  simp only [ST.mir]
                  rw [ih]
                  cases madeF k key n yr r with
                  | none => rfl
                  | some z => simp only [Option.map_some, Option.bind_some]; exact ih _ _ _ _
        · rw [if_neg h2, if_neg h2]
          rw [ih]
          cases madeF k key n lr r with
          | none => rfl
          | some z => simp only [Option.map_some, Option.bind_some]; exact ih _ _ _ _
    · rw [if_neg h1]
      by_cases h1' : l.deep - r.deep = -2
      · rw [if_pos (by omega), if_pos h1']
        cases r with
        | nil => rfl
        | node lk ln ll lr ld lc =>
          simp only [ST.mir]
          rw [mir_deep, mir_deep]
          by_cases h2 : lr.deep < ll.deep
          · rw [if_pos h2, if_pos h2]
            cases ll with
            | nil => rfl
            | node mk mn ml mr md mc =>
              simp only [ST.mir]
              rw [ih]
              cases madeF k lk ln mr lr with
              | none => rfl
              | some x =>
                simp only [Option.map_some, Option.bind_some]
                rw [ih]
                cases madeF k mk mn ml x with
                | none => rfl
                | some y =>
                  simp only [Option.map_some, Option.bind_some]
                  cases y with
                  | nil => rfl
                  | node yk yn yl yr yd yc =>
                    simp only [ST.mir]
                    rw [ih]
                    cases madeF k key n l yl with
                    | none => rfl
                    | some z => simp only [Option.map_some, Option.bind_some]; exact ih _ _ _ _
          · rw [if_neg h2, if_neg h2]
            rw [ih]
            cases madeF k key n l ll with
            | none => rfl
            | some z => simp only [Option.map_some, Option.bind_some]; exact ih _ _ _ _
      · rw [if_neg (by omega), if_neg (by omega), if_neg h1']
        exact mkS_mir key n l r

theorem made_right (k : Nat) (key : ByteArray) (n : Int) (l r : ST) (hl : l.Bal) (hr : r.Bal) (h1 : l.deep - r.deep = -2) (hc : l.count + r.count + 1 ≤ topI) : MadeSpec (k + 4) key n l r := by
  obtain ⟨t, ht, hb, hi, hcn, hd1, hd2, _⟩ := made_left k key n r.mir l.mir (mir_bal hr) (mir_bal hl) (by rw [mir_deep, mir_deep]; omega) (by rw [mir_count, mir_count]; omega)
  rw [mir_count, mir_count] at hcn
  rw [mir_deep, mir_deep, mxI_comm] at hd1 hd2
  rw [made_mir] at ht
  cases hm : madeF (k + 4) key n l r with
  | none => rw [hm] at ht; cases ht
  | some u =>
    rw [hm] at ht
    obtain rfl := Option.some.inj ht
    refine ⟨u, hm, by have := mir_bal hb; rwa [mir_mir] at this, ?_, by rw [mir_count] at hcn; omega, by rwa [mir_deep] at hd1, by rwa [mir_deep] at hd2, fun _ _ => by omega⟩
    have h := congrArg List.reverse hi
    rw [mir_items, mir_items, mir_items] at h
    simpa using h

theorem made_spec (k : Nat) (key : ByteArray) (n : Int) (l r : ST) (hl : l.Bal) (hr : r.Bal) (h1 : l.deep - r.deep ≤ 2) (h2 : r.deep - l.deep ≤ 2) (hc : l.count + r.count + 1 ≤ topI) : MadeSpec (k + 4) key n l r := by
  by_cases h3 : l.deep - r.deep = 2
  · exact made_left k key n l r hl hr h3 hc
  · by_cases h4 : l.deep - r.deep = -2
    · exact made_right k key n l r hl hr h4 hc
    · exact made_near (k + 3) key n l r hl hr (by omega) (by omega) hc
end Go.Proofs.Ytdjcomlpedokeaa
