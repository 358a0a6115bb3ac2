import Derived.Test.YtdjcomlpedokeaaT13
import Derived.Test.YtdjcomlpedokeaaM4
set_option linter.unusedVariables false
namespace Go.Proofs.Ytdjcomlpedokeaa
open Go.RowKit Go.Deep

/-- A Tree that is as it should be, by what it holds. -/
def TG (w : World) (tb : Nat) (l : List (ByteArray × Int)) : Prop := ∃ T : TT, TrIn w tb T ∧ T.strip.Bal ∧ T.strip.items = l ∧ Rise l

theorem TG.below {w w' : World} {tb : Nat} {l : List (ByteArray × Int)} (h : TG w tb l) (hb : Below w.heap.size w w') : TG w' tb l :=
  let ⟨T, h1, h2⟩ := h
  ⟨T, h1.below hb, h2⟩
theorem TG.rise {w : World} {tb : Nat} {l : List (ByteArray × Int)} (h : TG w tb l) : Rise l := let ⟨_, _, _, _, h2⟩ := h; h2
@[simp] theorem TG_drewN {w : World} {n tb : Nat} {l : List (ByteArray × Int)} : TG (w.drewN n) tb l = TG w tb l := by unfold TG; simp

def TGPost (l : List (ByteArray × Int)) (w : World) (e : Ending) (w' : World) : Prop := ∃ tb : Nat, e = .returned (.pointer (some ⟨tb, 0, none⟩)) ∧ TG w' tb l ∧ Below w.heap.size w w'

theorem New_g (w : World) : Calls Try.prog 7 #[] w (TGPost [] w) :=
  (New_any w).mono fun _ _ ⟨tb, T, he, hT, hs, hb⟩ => ⟨tb, he, ⟨T, hT, by rw [hs]; trivial, by rw [hs]; rfl, List.Pairwise.nil⟩, hb⟩

theorem With_g (tb : Nat) (l : List (ByteArray × Int)) (key : ByteArray) (n : Int) (w : World) (h : TG w tb l) (hl : l.length ≤ 1000) :
    Calls Try.prog 9 #[.pointer (some ⟨tb, 0, none⟩), .string key, .int .i64 n] w (TGPost (insL key n l) w) := by
  obtain ⟨T, h1, h2, h3, h4⟩ := h
  have hc := h2.items_length
  rw [h3] at hc
  obtain ⟨u, hu, bu, iu, _⟩ := with_spec key n T.strip h2 (by rw [h3]; exact h4) (by unfold topI; omega)
  rw [h3] at iu
  exact (With_any tb T key n u w h1 hu).mono fun _ _ ⟨tb', T', he, hT, hs, hb⟩ => ⟨tb', he, ⟨T', hT, by rw [hs]; exact bu, by rw [hs]; exact iu, insL_rise h4⟩, hb⟩

theorem delL_rise {key : ByteArray} {l : List (ByteArray × Int)} (h : Rise l) : Rise (delL key l) := List.Pairwise.filter _ h

theorem has_or (key : ByteArray) (l : List (ByteArray × Int)) : (∃ n, (key, n) ∈ l) ∨ ∀ n, (key, n) ∉ l := by
  by_cases h : ∃ n, (key, n) ∈ l
  · exact .inl h
  · exact .inr fun n hn => h ⟨n, hn⟩

theorem Without_g (tb : Nat) (l : List (ByteArray × Int)) (key : ByteArray) (w : World) (h : TG w tb l) (hl : l.length ≤ 1000) :
    Calls Try.prog 8 #[.pointer (some ⟨tb, 0, none⟩), .string key] w (TGPost (delL key l) w) := by
  obtain ⟨T, h1, h2, h3, h4⟩ := h
  have hc := h2.items_length
  rw [h3] at hc
  rcases has_or key l with ⟨n, hn⟩ | hn
  · obtain ⟨u, hu, bu, iu, _⟩ := wout_spec T.strip key h2 (by rw [h3]; exact h4) (by unfold topI; omega)
    rw [h3] at iu
    obtain ⟨a, b, c, d, hf⟩ := find_some key n T.strip (by rw [h3]; exact h4) (by rw [h3]; exact hn)
    exact (Without_some tb T key u w h1 (by rw [hf]; exact fun h => by cases h) hu).mono fun _ _ ⟨tb', T', he, hT, hs, hb⟩ => ⟨tb', he, ⟨T', hT, by rw [hs]; exact bu, by rw [hs]; exact iu, delL_rise h4⟩, hb⟩
  · have hf := find_none key T.strip (by rw [h3]; exact hn)
    have hd : delL key l = l := delL_none fun a ha e => hn a.2 (by rw [← e]; exact ha)
    rw [hd]
    exact (Without_none tb T key w h1 hf).mono fun _ _ ⟨tb', T', he, hT, hs, hb⟩ => ⟨tb', he, ⟨T', hT, by rw [hs]; exact h2, by rw [hs]; exact h3, h4⟩, hb⟩

theorem Get_in (tb : Nat) (l : List (ByteArray × Int)) (key : ByteArray) (n : Int) (w : World) (h : TG w tb l) (hn : (key, n) ∈ l) :
    Calls Try.prog 14 #[.pointer (some ⟨tb, 0, none⟩), .string key] w fun e w' => e = .returned (.tuple #[.int .i64 n, .bool true]) ∧ w = w' := by
  obtain ⟨T, h1, h2, h3, h4⟩ := h
  obtain ⟨a, b, c, d, hf⟩ := find_some key n T.strip (by rw [h3]; exact h4) (by rw [h3]; exact hn)
  exact Get_some tb T key w h1 _ _ _ _ _ _ hf

theorem Get_out (tb : Nat) (l : List (ByteArray × Int)) (key : ByteArray) (w : World) (h : TG w tb l) (hn : ∀ n, (key, n) ∉ l) :
    Calls Try.prog 14 #[.pointer (some ⟨tb, 0, none⟩), .string key] w fun e w' => e = .returned (.tuple #[.int .i64 0, .bool false]) ∧ w = w' := by
  obtain ⟨T, h1, h2, h3, h4⟩ := h
  exact Get_none tb T key w h1 (find_none key T.strip (by rw [h3]; exact hn))

theorem Len_g (tb : Nat) (l : List (ByteArray × Int)) (w : World) (h : TG w tb l) :
    Calls Try.prog 17 #[.pointer (some ⟨tb, 0, none⟩)] w fun e w' => e = .returned (.int .i64 (l.length : Int)) ∧ w = w' := by
  obtain ⟨T, h1, h2, h3, h4⟩ := h
  have hc := h2.items_length
  rw [h3] at hc
  rw [hc]
  exact Len_any tb T w h1

theorem Keys_g (tb : Nat) (l : List (ByteArray × Int)) (w : World) (h : TG w tb l) (hl : l.length ≤ 1000) :
    Calls Try.prog 16 #[.pointer (some ⟨tb, 0, none⟩)] w fun e w' => ∃ v, e = .returned v ∧ w'.ownsRow w.heap.size 9 1 v l.length ((l.map (·.1)).map Value.string) ∧ Below w.heap.size w w' := by
  obtain ⟨T, h1, h2, h3, h4⟩ := h
  have e : T.strip.keys = l.map (·.1) := by rw [ST.keys_items, h3]
  have := Keys_any tb T w h1 (by rw [e, List.length_map]; omega)
  rw [e, List.length_map] at this
  exact this

/-! ### How flat it is -/
/-- As many keys as a balanced tree that is so deep has at least. -/
def leastN : Nat → Nat
  | 0 => 0
  | 1 => 1
  | d + 2 => leastN d + leastN (d + 1) + 1
theorem leastN_mono : ∀ d, leastN d ≤ leastN (d + 1)
  | 0 => by decide
  | 1 => by decide
  | d + 2 => by
    have h1 := leastN_mono d
    have h2 : leastN (d + 1) ≤ leastN (d + 2) := leastN_mono (d + 1)
    show leastN d + leastN (d + 1) + 1 ≤ leastN (d + 1) + leastN (d + 2) + 1
    omega
theorem leastN_ge : ∀ d, d ≤ leastN d
  | 0 => by decide
  | 1 => by decide
  | d + 2 => by
    have h2 := leastN_ge (d + 1)
    have h1 := leastN_ge d
    show d + 2 ≤ leastN d + leastN (d + 1) + 1
    omega

theorem bal_least : ∀ t : ST, t.Bal → ∃ d : Nat, t.deep = d ∧ leastN d ≤ t.items.length ∧ (d = 0 → t.items.length = 0)
  | .nil, _ => ⟨0, rfl, Nat.le_refl _, fun _ => rfl⟩
  | .node k n l r d c, ⟨hd, hc, h1, h2, hl, hr⟩ => by
    obtain ⟨a, ha, la, _⟩ := bal_least l hl
    obtain ⟨b, hb, lb, _⟩ := bal_least r hr
    have m := mxI_cases l.deep r.deep
    rw [deep_node, items_node, List.length_append, List.length_cons]
    refine ⟨max a b + 1, by omega, ?_, fun h => by omega⟩
    rcases Nat.lt_trichotomy a b with h | h | h
    · obtain rfl : b = a + 1 := by omega
      rw [Nat.max_eq_right (by omega)]
      show leastN a + leastN (a + 1) + 1 ≤ _
      omega
    · subst h
      rw [Nat.max_self]
      cases a with
      | zero => show 1 ≤ _; omega
      | succ a =>
        have := leastN_mono a
        show leastN a + leastN (a + 1) + 1 ≤ _
        omega
    · obtain rfl : a = b + 1 := by omega
      rw [Nat.max_eq_left (by omega)]
      show leastN b + leastN (b + 1) + 1 ≤ _
      omega

theorem Deep_g (tb : Nat) (l : List (ByteArray × Int)) (w : World) (h : TG w tb l) :
    Calls Try.prog 13 #[.pointer (some ⟨tb, 0, none⟩)] w fun e w' => ∃ d : Nat, e = .returned (.int .i64 (d : Int)) ∧ leastN d ≤ l.length ∧ (d = 0 → l.length = 0) ∧ w = w' := by
  obtain ⟨T, h1, h2, h3, h4⟩ := h
  obtain ⟨d, hd, h5, h6⟩ := bal_least T.strip h2
  rw [h3] at h5 h6
  refine (Deep_any tb T w h1).mono fun e w' ⟨he, hw⟩ => ⟨d, ?_, h5, h6, hw⟩
  rw [he, hd]
end Go.Proofs.Ytdjcomlpedokeaa
