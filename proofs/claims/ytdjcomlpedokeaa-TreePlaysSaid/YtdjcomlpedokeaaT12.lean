import Derived.Test.YtdjcomlpedokeaaT11
set_option linter.unusedVariables false
namespace Go.Proofs.Ytdjcomlpedokeaa
open Go.RowKit Go.Deep

/-- A value that reads as a list of texts. -/
def StrSl (w : World) (v : Value) (l : List ByteArray) : Prop :=
  (∃ x cap, v = .slice x 0 cap ∧ l = []) ∨ ∃ b off cap, v = .slice (some ⟨b, off, none⟩) l.length cap ∧ l.length ≤ cap ∧ ∀ j s, l[j]? = some s → w.cell? ⟨b, off + j, none⟩ = some (.string s)

theorem StrSl.of_own {w : World} {base : Nat} {e : TypeId} {v : Value} {n : Nat} {l : List ByteArray} (h : w.ownsRow base e 1 v n (l.map Value.string)) : StrSl w v l := by
  obtain ⟨hlen, hn | ⟨g, cap, cur, rfl, hb, hg, hnc, _, _, htk⟩⟩ := h
  · obtain ⟨rfl, rfl⟩ := hn
    exact .inl ⟨_, _, rfl, by simpa using hlen⟩
  · have hl : l.length = n := by simpa using hlen
    refine .inr ⟨g, 0, cap, by rw [hl], by omega, fun j s hj => ?_⟩
    rw [Nat.zero_add, cellAt hg]
    have hj' : (cur.toList.take (n * 1))[j]? = some (.string s) := by rw [htk, List.getElem?_map, hj]; rfl
    rw [List.getElem?_take] at hj'
    split at hj'
    · simpa using hj'
    · cases hj'

theorem StrSl.keep {w w' : World} {v : Value} {l : List ByteArray} (h : StrSl w v l) (hc : ∀ (p : Addr) (u : Value), w.cell? p = some u → w'.cell? p = some u) : StrSl w' v l := by
  rcases h with h | ⟨b, off, cap, hv, hn, hj⟩
  · exact .inl h
  · exact .inr ⟨b, off, cap, hv, hn, fun j s h => hc _ _ (hj j s h)⟩

theorem list_ne_of {l m : List ByteArray} (h : l.length ≠ m.length) : ¬ l = m := fun e => h (by rw [e])

def sameB (a b : List ByteArray) : Bool := decide (a = b)
theorem sameB_true {a b : List ByteArray} (h : a = b) : sameB a b = true := decide_eq_true h
theorem sameB_false {a b : List ByteArray} (h : ¬ a = b) : sameB a b = false := decide_eq_false h

def SamePost (b : Bool) (w : World) (e : Ending) (w' : World) : Prop := e = .returned (.bool b) ∧ ∃ n, w' = w.drewN n

set_option maxHeartbeats 4000000 in
set_option maxRecDepth 100000 in
theorem same_lens (va vb : Value) (a b : List ByteArray) (w : World) (ha : StrSl w va a) (hb : StrSl w vb b) (hne : a.length ≠ b.length) :
    Calls Try.prog 18 #[va, vb] w (SamePost false w) := by
  have hz : ¬ (a.length : Int) = (b.length : Int) := by omega
  have h0 : ((a.length : Int) == (b.length : Int)) = false := by simpa using hz
  have h1 : ((a.length : Int) != (b.length : Int)) = true := by simpa using hz
  have h2 : (a.length == b.length) = false := by simpa using hne
  have h3 : (a.length != b.length) = true := by simpa using hne
  clear hne hz
  rcases ha with ⟨ax, ac, rfl, rfl⟩ | ⟨ab, ao, ac, rfl, _, haj⟩ <;> rcases hb with ⟨bx, bc, rfl, rfl⟩ | ⟨bb, bo, bc, rfl, _, hbj⟩
  · exact absurd h0 (by decide)
  all_goals
    (try clear haj) <;> (try clear hbj)
    try simp only [List.length_nil] at h0 h1 h2 h3
    go_enter Try.func18, Try.ntmps18
    go_wp2
    go_ret
    exact ⟨rfl, 0, rfl⟩

set_option maxHeartbeats 4000000 in
set_option maxRecDepth 100000 in
theorem same_empty (va vb : Value) (w : World) (ha : StrSl w va []) (hb : StrSl w vb []) :
    Calls Try.prog 18 #[va, vb] w (SamePost true w) := by
  have key : ∀ (x y : Option Addr) (c d : Nat), Calls Try.prog 18 #[.slice x 0 c, .slice y 0 d] w (SamePost true w) := by
    intro x y c d
    go_enter Try.func18, Try.ntmps18
    go_wp2
    refine wp_loop_rounds 1 ?_
    rw [rounds_succ]
    go_wp2
    go_ret
    exact ⟨rfl, 0, rfl⟩
  rcases ha with ⟨ax, ac, rfl, _⟩ | ⟨ab, ao, ac, rfl, _, haj⟩ <;> rcases hb with ⟨bx, bc, rfl, _⟩ | ⟨bb, bo, bc, rfl, _, hbj⟩ <;> exact key _ _ _ _

set_option maxHeartbeats 4000000 in
set_option maxRecDepth 100000 in
theorem same_some (ab ao ac bb bo bc : Nat) (a b : List ByteArray) (w : World) (hac : a.length ≤ ac) (hbc : a.length ≤ bc) (hm : a.length ≤ 1000000000)
    (haj : Hid (∀ j s, a[j]? = some s → w.cell? ⟨ab, ao + j, none⟩ = some (.string s))) (hbj : Hid (∀ j s, b[j]? = some s → w.cell? ⟨bb, bo + j, none⟩ = some (.string s))) (hlen : Hid (a.length = b.length)) :
    Calls Try.prog 18 #[.slice (some ⟨ab, ao, none⟩) a.length ac, .slice (some ⟨bb, bo, none⟩) a.length bc] w (SamePost (sameB a b) w) := by
  go_enter Try.func18, Try.ntmps18
  go_wp2
  go_loopw [5] (fun i wr => ∃ k m : Nat, i = .int .i64 k ∧ k ≤ a.length ∧ Hid (a.take k = b.take k) ∧ wr = w.drewN m) (fun i _ => a.length - (intOf i).toNat)
  case atStart => exact ⟨0, 0, rfl, Nat.zero_le _, rfl, rfl⟩
  case round =>
    obtain ⟨k, m, rfl, hk, ht, rfl⟩ := hrel
    by_cases hlt : k < a.length
    · have hlb : k < b.length := by rw [← hlen.out]; exact hlt
      have ca : w.cell? ⟨ab, ao + k, none⟩ = some (.string a[k]) := haj.out k _ (List.getElem?_eq_getElem hlt)
      have cb : w.cell? ⟨bb, bo + k, none⟩ = some (.string b[k]) := hbj.out k _ (List.getElem?_eq_getElem hlb)
      obtain ⟨x, hx⟩ : ∃ x, x = a[k] := ⟨_, rfl⟩
      obtain ⟨y, hy⟩ : ∃ y, y = b[k]'(by rw [← hlen.out]; exact hlt) := ⟨_, rfl⟩
      rw [← hx] at ca
      rw [← hy] at cb
      have HX := Lib.hid hx
      have HY := Lib.hid hy
      clear hx hy hlb
      have b1 : (0 : Int) ≤ (k : Int) := by omega
      have b2 : (k : Int) < (a.length : Int) := by omega
      by_cases he : x = y
      · have e1 : (x.toList == y.toList) = true := by rw [he]; exact beq_list_true
        replace he := Lib.hid he
        go_wp2
        go_quiet (fail)
        go_wp2
        go_roundw
        case rel =>
          refine ⟨k + 1, _, by go_num, by omega, ?_, rfl⟩
          have h1 := HX.out; have h2 := HY.out; have h3 := he.out; have h4 := ht.out
          show a.take (k + 1) = b.take (k + 1)
          rw [List.take_succ_eq_append_getElem hlt, List.take_succ_eq_append_getElem (by rw [← hlen.out]; exact hlt), h4, ← h1, ← h2, h3]
        case measure => simp [intOf]; omega
      · have e1 := beq_list_false he
        have e2 : (x.toList != y.toList) = true := by rw [bne, e1]; rfl
        replace he := Lib.hid he
        go_wp2
        go_quiet (fail)
        go_wp2
        go_ret
        refine ⟨?_, _, World.drewN_drewN _ _ _⟩
        rw [sameB_false (fun e => he.out ?_)]
        · rfl
        · rw [HX.out, HY.out]; simp only [e]
    · obtain rfl : k = a.length := by omega
      have hs : sameB a b = true := sameB_true (by
        have h := ht.out
        rw [List.take_length, hlen.out, List.take_length] at h
        exact h)
      clear hlt
      go_wp2
      go_ret
      exact ⟨by rw [hs]; rfl, _, rfl⟩

theorem same_any (va vb : Value) (a b : List ByteArray) (w : World) (ha : StrSl w va a) (hb : StrSl w vb b) (hm : a.length ≤ 1000000000) :
    Calls Try.prog 18 #[va, vb] w (SamePost (sameB a b) w) := by
  by_cases hl : a.length = b.length
  · by_cases h0 : a = []
    · subst h0
      have hb0 : b = [] := List.eq_nil_of_length_eq_zero (by simpa using hl.symm)
      subst hb0
      rw [sameB_true rfl]
      exact same_empty va vb w ha hb
    · rcases ha with ⟨_, _, _, h⟩ | ⟨ab, ao, ac, rfl, hac, haj⟩
      · exact absurd h h0
      · rcases hb with ⟨_, _, _, h⟩ | ⟨bb, bo, bc, rfl, hbc, hbj⟩
        · subst h
          exact absurd (List.eq_nil_of_length_eq_zero (by simpa using hl)) h0
        · rw [← hl]
          exact same_some ab ao ac bb bo bc a b w hac (by omega) hm haj hbj hl
  · rw [sameB_false (list_ne_of hl)]
    exact same_lens va vb a b w ha hb hl
end Go.Proofs.Ytdjcomlpedokeaa
