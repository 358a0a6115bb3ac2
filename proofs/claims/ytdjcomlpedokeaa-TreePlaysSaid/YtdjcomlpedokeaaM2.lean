import Derived.Test.YtdjcomlpedokeaaM1
set_option linter.unusedVariables false
namespace Go.Proofs.Ytdjcomlpedokeaa

/-- A tree that is balanced, its depths and counts right. -/
def ST.Bal : ST → Prop
  | .nil => True
  | .node _ _ l r d c => d = mxI l.deep r.deep + 1 ∧ c = l.count + r.count + 1 ∧ l.deep - r.deep ≤ 1 ∧ r.deep - l.deep ≤ 1 ∧ l.Bal ∧ r.Bal

/-- A node of two parts. -/
def nd (key : ByteArray) (n : Int) (l r : ST) : ST := .node key n l r (mxI l.deep r.deep + 1) (l.count + r.count + 1)

def ST.items : ST → List (ByteArray × Int)
  | .nil => []
  | .node key n l r _ _ => l.items ++ (key, n) :: r.items

theorem ST.Bal.bounds : ∀ {t : ST}, t.Bal → 0 ≤ t.deep ∧ t.deep ≤ t.count
  | .nil, _ => ⟨Int.le_refl _, Int.le_refl _⟩
  | .node _ _ l r _ _, ⟨hd, hc, _, _, hl, hr⟩ => by
    have := hl.bounds
    have := hr.bounds
    simp only [ST.deep, ST.count]
    unfold mxI at hd
    split at hd <;> omega

theorem ST.Bal.items_length : ∀ {t : ST}, t.Bal → (t.items.length : Int) = t.count
  | .nil, _ => rfl
  | .node _ _ l r _ _, ⟨hd, hc, _, _, hl, hr⟩ => by
    have h1 := hl.items_length
    have h2 := hr.items_length
    simp only [ST.items, ST.count, List.length_append, List.length_cons]
    omega

theorem ST.keys_items : ∀ t : ST, t.keys = t.items.map (·.1)
  | .nil => rfl
  | .node _ _ l r _ _ => by simp [ST.keys, ST.items, ST.keys_items l, ST.keys_items r]

theorem nd_bal {key : ByteArray} {n : Int} {l r : ST} (hl : l.Bal) (hr : r.Bal) (h1 : l.deep - r.deep ≤ 1) (h2 : r.deep - l.deep ≤ 1) : (nd key n l r).Bal := ⟨rfl, rfl, h1, h2, hl, hr⟩
theorem nd_deep (key : ByteArray) (n : Int) (l r : ST) : (nd key n l r).deep = mxI l.deep r.deep + 1 := rfl
theorem nd_count (key : ByteArray) (n : Int) (l r : ST) : (nd key n l r).count = l.count + r.count + 1 := rfl
theorem nd_items (key : ByteArray) (n : Int) (l r : ST) : (nd key n l r).items = l.items ++ (key, n) :: r.items := rfl
theorem node_nd {key : ByteArray} {n : Int} {l r : ST} {d c : Int} (h : (ST.node key n l r d c).Bal) : ST.node key n l r d c = nd key n l r := by
  obtain ⟨rfl, rfl, _⟩ := h; rfl

theorem mxI_l {a b : Int} (h : b ≤ a) : mxI a b = a := by unfold mxI; split <;> omega
theorem mxI_r {a b : Int} (h : a ≤ b) : mxI a b = b := by unfold mxI; split <;> omega
theorem mxI_cases (a b : Int) : (mxI a b = a ∧ b ≤ a) ∨ (mxI a b = b ∧ a ≤ b) := by unfold mxI; split <;> omega

theorem made_base (k : Nat) (key : ByteArray) (n : Int) (l r : ST) (hl : l.Bal) (hr : r.Bal) (h1 : l.deep - r.deep ≤ 1) (h2 : r.deep - l.deep ≤ 1) (hc : l.count + r.count + 1 ≤ topI) :
    madeF (k + 1) key n l r = some (nd key n l r) := by
  have := hl.bounds
  have := hr.bounds
  unfold madeF
  rw [if_neg (by omega), if_neg (by omega)]
  unfold mkS
  rw [if_pos ⟨by rcases mxI_cases l.deep r.deep with h | h <;> omega, hc⟩]
  rfl

theorem made_L0 (k : Nat) (key : ByteArray) (n : Int) (lk : ByteArray) (ln : Int) (ll lr r : ST) (h1 : (nd lk ln ll lr).deep - r.deep = 2) (h2 : ¬ ll.deep < lr.deep) :
    madeF (k + 1) key n (nd lk ln ll lr) r = (madeF k key n lr r).bind fun z => madeF k lk ln ll z := by
  conv => lhs; unfold madeF
  rw [if_pos h1]
  show (if ll.deep < lr.deep then _ else _) = _
  rw [if_neg h2]
theorem made_L1 (k : Nat) (key : ByteArray) (n : Int) (lk : ByteArray) (ln : Int) (ll : ST) (mk : ByteArray) (mn : Int) (ml mr r : ST) (h1 : (nd lk ln ll (nd mk mn ml mr)).deep - r.deep = 2) (h2 : ll.deep < (nd mk mn ml mr).deep) :
    madeF (k + 1) key n (nd lk ln ll (nd mk mn ml mr)) r = (madeF k lk ln ll ml).bind fun x => (madeF k mk mn x mr).bind fun y =>
              match y with
              | .nil => none
              | .node yk yn yl yr _ _ => (madeF k key n yr r).bind fun z => madeF k yk yn yl z := by
  conv => lhs; unfold madeF
  rw [if_pos h1]
  show (if ll.deep < (nd mk mn ml mr).deep then _ else _) = _
  rw [if_pos h2]
  rfl
theorem made_R0 (k : Nat) (key : ByteArray) (n : Int) (rk : ByteArray) (rn : Int) (l rl rr : ST) (h1 : l.deep - (nd rk rn rl rr).deep = -2) (h2 : ¬ rr.deep < rl.deep) :
    madeF (k + 1) key n l (nd rk rn rl rr) = (madeF k key n l rl).bind fun z => madeF k rk rn z rr := by
  conv => lhs; unfold madeF
  rw [if_neg (by omega), if_pos h1]
  show (if rr.deep < rl.deep then _ else _) = _
  rw [if_neg h2]
theorem made_R1 (k : Nat) (key : ByteArray) (n : Int) (rk : ByteArray) (rn : Int) (l : ST) (mk : ByteArray) (mn : Int) (ml mr rr : ST) (h1 : l.deep - (nd rk rn (nd mk mn ml mr) rr).deep = -2) (h2 : rr.deep < (nd mk mn ml mr).deep) :
    madeF (k + 1) key n l (nd rk rn (nd mk mn ml mr) rr) = (madeF k rk rn mr rr).bind fun x => (madeF k mk mn ml x).bind fun y =>
              match y with
              | .nil => none
              | .node yk yn yl yr _ _ => (madeF k key n l yl).bind fun z => madeF k yk yn z yr := by
  conv => lhs; unfold madeF
  rw [if_neg (by omega), if_pos h1]
  show (if rr.deep < (nd mk mn ml mr).deep then _ else _) = _
  rw [if_pos h2]
  rfl
theorem nd_match {α : Type} (key : ByteArray) (n : Int) (l r : ST) (f : ByteArray → Int → ST → ST → Option α) :
    (match nd key n l r with | .nil => none | .node yk yn yl yr _ _ => f yk yn yl yr) = f key n l r := rfl

theorem deep_pos {t : ST} (h : t.Bal) (hd : 0 < t.deep) : ∃ k n l r, t = nd k n l r ∧ l.Bal ∧ r.Bal ∧ l.deep - r.deep ≤ 1 ∧ r.deep - l.deep ≤ 1 := by
  cases t with
  | nil => exact absurd hd (by decide)
  | node k n l r d c => exact ⟨k, n, l, r, node_nd h, h.2.2.2.2.1, h.2.2.2.2.2, h.2.2.1, h.2.2.2.1⟩

def MadeSpec (k : Nat) (key : ByteArray) (n : Int) (l r : ST) : Prop :=
  ∃ t, madeF k key n l r = some t ∧ t.Bal ∧ t.items = l.items ++ (key, n) :: r.items ∧ t.count = l.count + r.count + 1 ∧ mxI l.deep r.deep ≤ t.deep ∧ t.deep ≤ mxI l.deep r.deep + 1 ∧
    (l.deep - r.deep ≤ 1 → r.deep - l.deep ≤ 1 → t.deep = mxI l.deep r.deep + 1)

theorem made_near (k : Nat) (key : ByteArray) (n : Int) (l r : ST) (hl : l.Bal) (hr : r.Bal) (h1 : l.deep - r.deep ≤ 1) (h2 : r.deep - l.deep ≤ 1) (hc : l.count + r.count + 1 ≤ topI) : MadeSpec (k + 1) key n l r :=
  ⟨_, made_base k key n l r hl hr h1 h2 hc, nd_bal hl hr h1 h2, rfl, rfl, by rw [nd_deep]; omega, by rw [nd_deep]; omega, fun _ _ => nd_deep _ _ _ _⟩

theorem made_left (k : Nat) (key : ByteArray) (n : Int) (l r : ST) (hl : l.Bal) (hr : r.Bal) (h1 : l.deep - r.deep = 2) (hc : l.count + r.count + 1 ≤ topI) : MadeSpec (k + 4) key n l r := by
  have br := hr.bounds
  obtain ⟨lk, ln, ll, lr, rfl, hll, hlr, b1, b2⟩ := deep_pos hl (by omega)
  have bll := hll.bounds
  have blr := hlr.bounds
  rw [nd_deep] at h1
  rw [nd_count] at hc
  by_cases h2 : ll.deep < lr.deep
  · obtain ⟨mk, mn, ml, mr, rfl, hml, hmr, b3, b4⟩ := deep_pos hlr (by omega)
    have bml := hml.bounds
    have bmr := hmr.bounds
    have e0 := h1
    rw [nd_deep] at h1 h2 b1 b2
    rw [nd_count] at hc
    have m1 := mxI_cases ll.deep (mxI ml.deep mr.deep + 1)
    have m2 := mxI_cases ml.deep mr.deep
    unfold MadeSpec
    rw [made_L1 _ _ _ _ _ _ _ _ _ _ _ (by rw [nd_deep]; exact e0) (by rw [nd_deep]; exact h2)]
    rw [made_base (k + 2) lk ln ll ml hll hml (by omega) (by omega) (by omega)]
    simp only [Option.bind_some]
    have hX : (nd lk ln ll ml).Bal := nd_bal hll hml (by omega) (by omega)
    have dX := nd_deep lk ln ll ml
    have m3 := mxI_cases ll.deep ml.deep
    have cX := nd_count lk ln ll ml
    by_cases h3 : mr.deep = r.deep
    · rw [made_base (k + 2) mk mn (nd lk ln ll ml) mr hX hmr (by omega) (by omega) (by omega)]
      simp only [Option.bind_some]
      rw [nd_match mk mn (nd lk ln ll ml) mr fun yk yn yl yr => (madeF (k + 3) key n yr r).bind fun z => madeF (k + 3) yk yn yl z]
      rw [made_base (k + 2) key n mr r hmr hr (by omega) (by omega) (by omega)]
      simp only [Option.bind_some]
      have hZ : (nd key n mr r).Bal := nd_bal hmr hr (by omega) (by omega)
      have dZ := nd_deep key n mr r
      have cZ := nd_count key n mr r
      have m4 := mxI_cases mr.deep r.deep
      rw [made_base (k + 2) mk mn (nd lk ln ll ml) (nd key n mr r) hX hZ (by omega) (by omega) (by omega)]
      have m5 := mxI_cases (nd lk ln ll ml).deep (nd key n mr r).deep
      have m6 := mxI_cases (nd lk ln ll (nd mk mn ml mr)).deep r.deep
      have d6 := nd_deep lk ln ll (nd mk mn ml mr)
      have d7 := nd_deep mk mn ml mr
      have c6 := nd_count lk ln ll (nd mk mn ml mr)
      have c7 := nd_count mk mn ml mr
      refine ⟨_, rfl, nd_bal hX hZ (by omega) (by omega), by simp [nd_items], by rw [nd_count]; omega, by have d9 := nd_deep mk mn (nd lk ln ll ml) (nd key n mr r); omega, by have d9 := nd_deep mk mn (nd lk ln ll ml) (nd key n mr r); omega, fun _ _ => by omega⟩
    · -- the inner one turns back, and then to the other side
      have hM : (nd mk mn ml mr).Bal := nd_bal hml hmr b3 b4
      have dM := nd_deep mk mn ml mr
      have cM := nd_count mk mn ml mr
      rw [made_L0 (k + 2) mk mn lk ln ll ml mr (by omega) (by omega)]
      rw [made_base (k + 1) mk mn ml mr hml hmr b3 b4 (by omega)]
      simp only [Option.bind_some]
      rw [made_base (k + 1) lk ln ll (nd mk mn ml mr) hll hM (by omega) (by omega) (by omega)]
      simp only [Option.bind_some]
      rw [nd_match lk ln ll (nd mk mn ml mr) fun yk yn yl yr => (madeF (k + 3) key n yr r).bind fun z => madeF (k + 3) yk yn yl z]
      rw [made_base (k + 2) key n (nd mk mn ml mr) r hM hr (by omega) (by omega) (by omega)]
      simp only [Option.bind_some]
      have dZ := nd_deep key n (nd mk mn ml mr) r
      have m5 := mxI_cases (nd mk mn ml mr).deep r.deep
      rw [made_R1 (k + 2) lk ln key n ll mk mn ml mr r (by omega) (by omega)]
      rw [made_base (k + 1) key n mr r hmr hr (by omega) (by omega) (by omega)]
      simp only [Option.bind_some]
      have hW : (nd key n mr r).Bal := nd_bal hmr hr (by omega) (by omega)
      have dW := nd_deep key n mr r
      have cW := nd_count key n mr r
      have m6 := mxI_cases mr.deep r.deep
      rw [made_base (k + 1) mk mn ml (nd key n mr r) hml hW (by omega) (by omega) (by omega)]
      simp only [Option.bind_some]
      rw [nd_match mk mn ml (nd key n mr r) fun yk yn yl yr => (madeF (k + 2) lk ln ll yl).bind fun z => madeF (k + 2) yk yn z yr]
      rw [made_base (k + 1) lk ln ll ml hll hml (by omega) (by omega) (by omega)]
      simp only [Option.bind_some]
      rw [made_base (k + 1) mk mn (nd lk ln ll ml) (nd key n mr r) hX hW (by omega) (by omega) (by omega)]
      have m7 := mxI_cases (nd lk ln ll ml).deep (nd key n mr r).deep
      have m8 := mxI_cases (nd lk ln ll (nd mk mn ml mr)).deep r.deep
      have d8 := nd_deep lk ln ll (nd mk mn ml mr)
      have c8 := nd_count lk ln ll (nd mk mn ml mr)
      refine ⟨_, rfl, nd_bal hX hW (by omega) (by omega), by simp [nd_items], by rw [nd_count]; omega, by have d9 := nd_deep mk mn (nd lk ln ll ml) (nd key n mr r); omega, by have d9 := nd_deep mk mn (nd lk ln ll ml) (nd key n mr r); omega, fun _ _ => by omega⟩
  · unfold MadeSpec
    have m1 := mxI_cases ll.deep lr.deep
    rw [made_L0 (k + 3) key n lk ln ll lr r (by rw [nd_deep]; exact h1) h2]
    rw [made_base (k + 2) key n lr r hlr hr (by omega) (by omega) (by omega)]
    simp only [Option.bind_some]
    have hZ : (nd key n lr r).Bal := nd_bal hlr hr (by omega) (by omega)
    have dZ := nd_deep key n lr r
    have cZ := nd_count key n lr r
    have m2 := mxI_cases lr.deep r.deep
    rw [made_base (k + 2) lk ln ll (nd key n lr r) hll hZ (by omega) (by omega) (by omega)]
    have m3 := mxI_cases ll.deep (nd key n lr r).deep
    have m4 := mxI_cases (nd lk ln ll lr).deep r.deep
    have d4 := nd_deep lk ln ll lr
    have c4 := nd_count lk ln ll lr
    exact ⟨_, rfl, nd_bal hll hZ (by omega) (by omega), by simp [nd_items], by rw [nd_count]; omega, by have d9 := nd_deep lk ln ll (nd key n lr r); omega, by have d9 := nd_deep lk ln ll (nd key n lr r); omega, fun _ _ => by omega⟩
end Go.Proofs.Ytdjcomlpedokeaa
