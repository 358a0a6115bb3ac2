import Derived.Test.YtdjcomlpedokeaaM3
import Derived.Test.YtdjcomlpedokeaaT9
set_option linter.unusedVariables false
namespace Go.Proofs.Ytdjcomlpedokeaa

theorem blt_irrefl (a : ByteArray) : blt a a = false := less_irrefl _
theorem blt_trans {a b c : ByteArray} (h : blt a b = true) (k : blt b c = true) : blt a c = true := less_trans h k
theorem blt_total {a b : ByteArray} (h : ¬ blt a b = true) (hne : ¬ a = b) : blt b a = true := less_total (Bool.eq_false_iff.mpr h) (fun e => hne (list_inj e))
theorem blt_asymm {a b : ByteArray} (h : blt a b = true) : ¬ blt b a = true := fun k => by
  have := blt_trans h k
  rw [blt_irrefl] at this
  cases this
theorem blt_ne {a b : ByteArray} (h : blt a b = true) : ¬ a = b := fun e => by rw [e, blt_irrefl] at h; cases h

/-- Keys that rise. -/
def Rise (l : List (ByteArray × Int)) : Prop := l.Pairwise fun a b => blt a.1 b.1 = true

theorem rise_split {l r : List (ByteArray × Int)} {x : ByteArray × Int} (h : Rise (l ++ x :: r)) : Rise l ∧ Rise r ∧ (∀ a ∈ l, blt a.1 x.1 = true) ∧ (∀ b ∈ r, blt x.1 b.1 = true) ∧ (∀ a ∈ l, ∀ b ∈ r, blt a.1 b.1 = true) := by
  unfold Rise at h
  rw [List.pairwise_append, List.pairwise_cons] at h
  obtain ⟨h1, ⟨h2, h3⟩, h4⟩ := h
  exact ⟨h1, h3, fun a ha => h4 a ha x (by simp), h2, fun a ha b hb => h4 a ha b (by simp [hb])⟩
theorem rise_join {l r : List (ByteArray × Int)} {x : ByteArray × Int} (h1 : Rise l) (h2 : Rise r) (h3 : ∀ a ∈ l, blt a.1 x.1 = true) (h4 : ∀ b ∈ r, blt x.1 b.1 = true) : Rise (l ++ x :: r) := by
  unfold Rise
  rw [List.pairwise_append, List.pairwise_cons]
  refine ⟨h1, ⟨h4, h2⟩, fun a ha b hb => ?_⟩
  rcases List.mem_cons.1 hb with rfl | hb
  · exact h3 a ha
  · exact blt_trans (h3 a ha) (h4 b hb)

/-- A key put into a list that rises. -/
def insL (key : ByteArray) (n : Int) : List (ByteArray × Int) → List (ByteArray × Int)
  | [] => [(key, n)]
  | (k, m) :: r => if blt key k = true then (key, n) :: (k, m) :: r else if key = k then (key, n) :: r else (k, m) :: insL key n r

theorem insL_less {key : ByteArray} {n : Int} {k : ByteArray} {m : Int} (h : blt key k = true) (r : List (ByteArray × Int)) : ∀ l : List (ByteArray × Int), insL key n (l ++ (k, m) :: r) = insL key n l ++ (k, m) :: r
  | [] => by simp [insL, h]
  | (a, b) :: l => by
    simp only [List.cons_append, insL]
    split
    · rfl
    · split
      · rfl
      · rw [insL_less h r l]; rfl
theorem insL_far {key : ByteArray} {n : Int} (r : List (ByteArray × Int)) : ∀ l : List (ByteArray × Int), (∀ a ∈ l, blt a.1 key = true) → insL key n (l ++ r) = l ++ insL key n r
  | [], _ => rfl
  | (a, b) :: l, h => by
    have ha : blt a key = true := h (a, b) (by simp)
    simp only [List.cons_append, insL]
    rw [if_neg (blt_asymm ha), if_neg (fun e => blt_ne ha e.symm), insL_far r l (fun x hx => h x (by simp [hx]))]
theorem insL_mem {key : ByteArray} {n : Int} : ∀ {l : List (ByteArray × Int)} {x : ByteArray × Int}, x ∈ insL key n l → x = (key, n) ∨ x ∈ l
  | [], x, h => by simpa [insL] using h
  | (a, b) :: l, x, h => by
    unfold insL at h
    split at h
    · simpa using h
    · split at h
      · rcases List.mem_cons.1 h with h | h
        · exact .inl h
        · exact .inr (by simp [h])
      · rcases List.mem_cons.1 h with h | h
        · exact .inr (by simp [h])
        · rcases insL_mem h with h | h
          · exact .inl h
          · exact .inr (by simp [h])
theorem insL_rise {key : ByteArray} {n : Int} : ∀ {l : List (ByteArray × Int)}, Rise l → Rise (insL key n l)
  | [], _ => by simp [insL, Rise]
  | (a, b) :: l, h => by
    unfold Rise at h
    rw [List.pairwise_cons] at h
    unfold insL
    split
    · rename_i h1
      unfold Rise
      rw [List.pairwise_cons, List.pairwise_cons]
      refine ⟨fun x hx => ?_, h⟩
      rcases List.mem_cons.1 hx with rfl | hx
      · exact h1
      · exact blt_trans h1 (h.1 x hx)
    · rename_i h1
      split
      · rename_i h2
        unfold Rise
        rw [List.pairwise_cons]
        exact ⟨fun x hx => by rw [h2]; exact h.1 x hx, h.2⟩
      · rename_i h2
        unfold Rise
        rw [List.pairwise_cons]
        refine ⟨fun x hx => ?_, insL_rise h.2⟩
        rcases insL_mem hx with rfl | hx
        · exact blt_total h1 h2
        · exact h.1 x hx

theorem deep_node (k : ByteArray) (n : Int) (l r : ST) (d c : Int) : (ST.node k n l r d c).deep = d := rfl
theorem count_node (k : ByteArray) (n : Int) (l r : ST) (d c : Int) : (ST.node k n l r d c).count = c := rfl
theorem items_node (k : ByteArray) (n : Int) (l r : ST) (d c : Int) : (ST.node k n l r d c).items = l.items ++ (k, n) :: r.items := rfl
theorem deep_nil : ST.nil.deep = 0 := rfl
theorem count_nil : ST.nil.count = 0 := rfl

def WithSpec (key : ByteArray) (n : Int) (t : ST) : Prop :=
  ∃ u, withS key n t = some u ∧ u.Bal ∧ u.items = insL key n t.items ∧ t.deep ≤ u.deep ∧ u.deep ≤ t.deep + 1 ∧ t.count ≤ u.count ∧ u.count ≤ t.count + 1

theorem with_spec (key : ByteArray) (n : Int) : ∀ t : ST, t.Bal → Rise t.items → t.count + 1 ≤ topI → WithSpec key n t
  | .nil, _, _, _ => ⟨_, rfl, ⟨rfl, rfl, by decide, by decide, trivial, trivial⟩, rfl, (by decide : (0 : Int) ≤ 1), (by decide : (1 : Int) ≤ 0 + 1), (by decide : (0 : Int) ≤ 1), (by decide : (1 : Int) ≤ 0 + 1)⟩
  | .node xk xn l r d c, hb, hs, hc => by
    have hb0 := hb.bounds
    obtain ⟨hd, hcc, h1, h2, hl, hr⟩ := hb
    obtain ⟨sl, sr, al, ar, _⟩ := rise_split hs
    have bl := hl.bounds
    have br := hr.bounds
    simp only [count_node, deep_node] at hc hb0
    unfold WithSpec withS
    simp only [items_node, deep_node, count_node]
    have m0 := mxI_cases l.deep r.deep
    by_cases c1 : blt key xk = true
    · rw [if_pos c1]
      obtain ⟨z, hz, bz, iz, d1, d2, c3, c4⟩ := with_spec key n l hl sl (by omega)
      rw [hz]
      simp only [Option.bind_some]
      obtain ⟨t, ht, bt, it, ct, e1, e2, e3⟩ := made_spec 1 xk xn z r bz hr (by omega) (by omega) (by omega)
      have m1 := mxI_cases z.deep r.deep
      refine ⟨t, ht, bt, by rw [it, iz, insL_less c1], ?_, ?_, by omega, by omega⟩
      · by_cases q : z.deep - r.deep ≤ 1
        · have := e3 q (by omega); omega
        · omega
      · omega
    · rw [if_neg c1]
      by_cases c2 : key = xk
      · rw [if_pos c2]
        subst c2
        obtain ⟨t, ht, bt, it, ct, e1, e2, e3⟩ := made_spec 1 key n l r hl hr (by omega) (by omega) (by omega)
        have := e3 h1 h2
        refine ⟨t, ht, bt, ?_, by omega, by omega, by omega, by omega⟩
        rw [it, insL_far _ _ al]
        simp [insL, blt_irrefl]
      · rw [if_neg c2]
        have c5 := blt_total c1 c2
        obtain ⟨z, hz, bz, iz, d1, d2, c3, c4⟩ := with_spec key n r hr sr (by omega)
        rw [hz]
        simp only [Option.bind_some]
        obtain ⟨t, ht, bt, it, ct, e1, e2, e3⟩ := made_spec 1 xk xn l z hl bz (by omega) (by omega) (by omega)
        have m1 := mxI_cases l.deep z.deep
        refine ⟨t, ht, bt, ?_, ?_, ?_, by omega, by omega⟩
        · rw [it, iz, insL_far _ _ (fun a ha => blt_trans (al a ha) c5)]
          simp [insL, c1, c2]
        · by_cases q : z.deep - l.deep ≤ 1
          · have := e3 (by omega) q; omega
          · omega
        · omega

theorem first_spec : ∀ t : ST, t ≠ .nil → ∃ k n l r d c rest, firstS t = .node k n l r d c ∧ t.items = (k, n) :: rest
  | .nil, h => absurd rfl h
  | .node k n .nil r d c, _ => ⟨k, n, .nil, r, d, c, r.items, rfl, rfl⟩
  | .node k n (.node a b x y p q) r d c, _ => by
    obtain ⟨k', n', l', r', d', c', rest, h1, h2⟩ := first_spec (.node a b x y p q) (fun h => by cases h)
    refine ⟨k', n', l', r', d', c', rest ++ (k, n) :: r.items, h1, ?_⟩
    show (ST.node a b x y p q).items ++ (k, n) :: r.items = _
    rw [h2]; rfl

/-- A list without a key. -/
def delL (key : ByteArray) (l : List (ByteArray × Int)) : List (ByteArray × Int) := l.filter fun p => decide (p.1 ≠ key)
theorem delL_none {key : ByteArray} {l : List (ByteArray × Int)} (h : ∀ a ∈ l, a.1 ≠ key) : delL key l = l := List.filter_eq_self.2 fun a ha => by simpa using h a ha
theorem delL_append (key : ByteArray) (l r : List (ByteArray × Int)) : delL key (l ++ r) = delL key l ++ delL key r := List.filter_append ..

def WoutSpec (t : ST) (key : ByteArray) : Prop :=
  ∃ u, withoutS t key = some u ∧ u.Bal ∧ u.items = delL key t.items ∧ t.deep - 1 ≤ u.deep ∧ u.deep ≤ t.deep ∧ u.count ≤ t.count

theorem wout_same (key : ByteArray) (l r : List (ByteArray × Int)) (n : Int) (hl : ∀ a ∈ l, blt a.1 key = true) (hr : ∀ b ∈ r, blt key b.1 = true) : delL key (l ++ (key, n) :: r) = l ++ r := by
  rw [delL_append, delL_none (fun a ha => blt_ne (hl a ha))]
  have : delL key ((key, n) :: r) = delL key r := by simp [delL]
  rw [this, delL_none (fun b hb e => blt_ne (hr b hb) e.symm)]

theorem wout_spec : ∀ (t : ST) (key : ByteArray), t.Bal → Rise t.items → t.count ≤ topI → WoutSpec t key
  | .nil, _, _, _, _ => ⟨_, rfl, trivial, rfl, by decide, by decide, by decide⟩
  | .node xk xn l r d c, key, hb, hs, hc => by
    have hb0 := hb.bounds
    obtain ⟨hd, hcc, h1, h2, hl, hr⟩ := hb
    obtain ⟨sl, sr, al, ar, alr⟩ := rise_split hs
    have bl := hl.bounds
    have br := hr.bounds
    simp only [count_node, deep_node] at hc hb0
    unfold WoutSpec
    conv => enter [1, u, 1]; unfold withoutS
    simp only [items_node, deep_node, count_node]
    have m0 := mxI_cases l.deep r.deep
    by_cases c1 : blt key xk = true
    · rw [if_pos c1]
      obtain ⟨z, hz, bz, iz, d1, d2, c3⟩ := wout_spec l key hl sl (by omega)
      have bzz := bz.bounds
      rw [hz]
      simp only [Option.bind_some]
      obtain ⟨t, ht, bt, it, ct, e1, e2, e3⟩ := made_spec 1 xk xn z r bz hr (by omega) (by omega) (by omega)
      have m1 := mxI_cases z.deep r.deep
      refine ⟨t, ht, bt, ?_, ?_, ?_, by omega⟩
      · rw [it, iz, delL_append]
        congr 1
        refine (delL_none fun a ha e => ?_).symm
        rcases List.mem_cons.1 ha with rfl | ha
        · exact blt_ne c1 e.symm
        · exact blt_ne (blt_trans c1 (ar a ha)) e.symm
      · omega
      · by_cases q : r.deep - z.deep ≤ 1
        · have := e3 (by omega) q; omega
        · omega
    · rw [if_neg c1]
      by_cases c2 : key = xk
      · rw [if_pos c2]
        subst c2
        rw [wout_same key l.items r.items xn al ar]
        cases l with
        | nil => exact ⟨r, rfl, hr, rfl, by simp only [deep_nil] at *; omega, by simp only [deep_nil] at *; omega, by simp only [count_nil] at *; omega⟩
        | node lk ln ll lr ld lc =>
          cases r with
          | nil =>
            refine ⟨_, rfl, hl, by simp [ST.items], ?_, ?_, ?_⟩
            · simp only [deep_nil] at *; omega
            · simp only [deep_nil] at *; omega
            · simp only [count_nil] at *; omega
          | node rk rn rl rr rd rc =>
            obtain ⟨fk, fn, fl, fr, fd, fc, rest, hf1, hf2⟩ := first_spec (.node rk rn rl rr rd rc) (fun h => by cases h)
            simp only [hf1]
            obtain ⟨z, hz, bz, iz, d1, d2, c3⟩ := wout_spec (.node rk rn rl rr rd rc) fk hr sr (by omega)
            have bzz := bz.bounds
            rw [hz]
            simp only [Option.bind_some]
            have hrest : delL fk (ST.node rk rn rl rr rd rc).items = rest := by
              rw [hf2] at sr ⊢
              unfold Rise at sr
              rw [List.pairwise_cons] at sr
              have : delL fk ((fk, fn) :: rest) = delL fk rest := by simp [delL]
              rw [this]
              exact delL_none fun b hb e => blt_ne (sr.1 b hb) e.symm
            rw [hrest] at iz
            obtain ⟨t, ht, bt, it, ct, e1, e2, e3⟩ := made_spec 1 fk fn (.node lk ln ll lr ld lc) z hl bz (by omega) (by omega) (by
              have h3 := bz.items_length
              have h4 := hr.items_length
              rw [iz] at h3
              rw [hf2, List.length_cons] at h4
              omega)
            have m1 := mxI_cases (ST.node lk ln ll lr ld lc).deep z.deep
            refine ⟨t, ht, bt, ?_, ?_, ?_, ?_⟩
            · rw [it, iz]
              show (ST.node lk ln ll lr ld lc).items ++ (fk, fn) :: rest = (ST.node lk ln ll lr ld lc).items ++ (ST.node rk rn rl rr rd rc).items
              rw [hf2]
            · omega
            · by_cases q : (ST.node lk ln ll lr ld lc).deep - z.deep ≤ 1
              · have := e3 q (by omega); omega
              · omega
            · have h3 := bz.items_length
              have h4 := hr.items_length
              rw [iz] at h3
              rw [hf2, List.length_cons] at h4
              omega
      · rw [if_neg c2]
        have c5 := blt_total c1 c2
        obtain ⟨z, hz, bz, iz, d1, d2, c3⟩ := wout_spec r key hr sr (by omega)
        have bzz := bz.bounds
        rw [hz]
        simp only [Option.bind_some]
        obtain ⟨t, ht, bt, it, ct, e1, e2, e3⟩ := made_spec 1 xk xn l z hl bz (by omega) (by omega) (by omega)
        have m1 := mxI_cases l.deep z.deep
        refine ⟨t, ht, bt, ?_, ?_, ?_, by omega⟩
        · rw [it, iz, delL_append, delL_none (fun a ha => blt_ne (blt_trans (al a ha) c5))]
          have : delL key ((xk, xn) :: r.items) = (xk, xn) :: delL key r.items := by
            have c6 : ¬ xk = key := fun e => c2 e.symm
            simp [delL, c6]
          rw [this]
        · omega
        · by_cases q : l.deep - z.deep ≤ 1
          · have := e3 q (by omega); omega
          · omega

theorem find_some (key : ByteArray) (n : Int) : ∀ t : ST, Rise t.items → (key, n) ∈ t.items → ∃ l r d c, findS key t = .node key n l r d c
  | .nil, _, h => by simp [ST.items] at h
  | .node xk xn l r d c, hs, h => by
    obtain ⟨sl, sr, al, ar, _⟩ := rise_split hs
    unfold findS
    by_cases c1 : xk = key
    · rw [if_pos c1]
      subst c1
      simp only [ST.items, List.mem_append, List.mem_cons] at h
      rcases h with h | h | h
      · exact absurd rfl (blt_ne (al (xk, n) h))
      · have : n = xn := by simpa using h
        exact ⟨l, r, d, c, by rw [this]⟩
      · exact absurd rfl (blt_ne (ar (xk, n) h))
    · rw [if_neg c1]
      simp only [ST.items, List.mem_append, List.mem_cons] at h
      by_cases c2 : blt key xk = true
      · rw [if_pos c2]
        rcases h with h | h | h
        · exact find_some key n l sl h
        · exact absurd (by simpa using (congrArg Prod.fst h).symm) c1
        · exact absurd c2 (blt_asymm (ar _ h))
      · rw [if_neg c2]
        rcases h with h | h | h
        · exact absurd (al _ h) c2
        · exact absurd (by simpa using (congrArg Prod.fst h).symm) c1
        · exact find_some key n r sr h

theorem find_none (key : ByteArray) : ∀ t : ST, (∀ n, (key, n) ∉ t.items) → findS key t = .nil
  | .nil, _ => rfl
  | .node xk xn l r d c, h => by
    have h1 : ∀ n, (key, n) ∉ l.items := fun n hn => h n (by simp [ST.items, hn])
    have h2 : ∀ n, (key, n) ∉ r.items := fun n hn => h n (by simp [ST.items, hn])
    unfold findS
    rw [if_neg (fun e => h xn (by simp [ST.items, e]))]
    split
    · exact find_none key l h1
    · exact find_none key r h2
end Go.Proofs.Ytdjcomlpedokeaa
