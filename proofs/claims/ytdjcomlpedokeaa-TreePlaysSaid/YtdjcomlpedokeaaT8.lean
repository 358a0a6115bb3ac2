import Derived.Test.YtdjcomlpedokeaaT7
import Derived.Deep.LoopGhost
namespace Go.Proofs.Ytdjcomlpedokeaa
open Go.RowKit Go.Deep

def findS (key : ByteArray) : ST → ST
  | .nil => .nil
  | .node xk xn l r d c => if xk = key then .node xk xn l r d c else if blt key xk = true then findS key l else findS key r

def TT.height : TT → Nat
  | .nil => 0
  | .node _ _ _ l r _ _ => max l.height r.height + 1

/-- A part of a tree that was found. -/
def FoundPost (s : ST) (w : World) (e : Ending) (w' : World) : Prop := ∃ F : TT, e = .returned (.pointer F.adr) ∧ F.In w ∧ F.strip = s ∧ w = w'

set_option maxHeartbeats 4000000 in
set_option maxRecDepth 100000 in
theorem find_any (key : ByteArray) (T : TT) (w : World) (hT : T.In w) :
    Calls Try.prog 19 #[.pointer T.adr, .string key] w (FoundPost (findS key T.strip) w) := by
  have HT := Lib.hid hT
  go_enter Try.func19, Try.ntmps19
  go_wp2
  go_loopg [0] T.height (fun kq v0 w' => ∃ F : TT, v0 = .pointer F.adr ∧ Hid (F.In w) ∧ Hid (F.height ≤ kq) ∧ Hid (findS key F.strip = findS key T.strip) ∧ w = w')
  case atStart => exact ⟨T, rfl, HT, Nat.le_refl _, rfl, rfl⟩
  case round =>
    obtain ⟨F, rfl, hF, hk, hs, rfl⟩ := hrel
    clear hT
    cases F with
    | nil =>
      simp only [TT.adr]
      go_wp2
      go_ret
      exact ⟨.nil, rfl, trivial, hs.out, rfl⟩
    | node b xk xn l r d c =>
      obtain ⟨f0, f1, f2, f3, _, _⟩ := TT.cells hF.out
      simp only [TT.adr_node]
      have hk' : l.height + 1 ≤ gk ∧ r.height + 1 ≤ gk := by have := hk.out; simp only [TT.height] at this; omega
      have hs' := hs.out
      simp only [TT.strip, findS] at hs'
      by_cases h1 : xk = key
      · subst h1
        clear hk' hs'
        have e1 : (xk.toList == xk.toList) = true := beq_self_eq_true _
        go_wp2
        go_ret
        refine ⟨.node b xk xn l r d c, rfl, hF.out, ?_, rfl⟩
        rw [← hs.out]
        simp [TT.strip, findS]
      · rw [if_neg h1] at hs'
        have e1 := beq_list_false h1
        by_cases h2 : blt key xk = true
        · rw [if_pos h2] at hs'
          replace h2 : Op.bytesLess key.toList xk.toList = true := h2
          obtain ⟨k1, rfl⟩ : ∃ k1, gk = k1 + 1 := ⟨gk - 1, by omega⟩
          have hl := hF.out.left
          replace hs' := Lib.hid hs'
          replace hk' := Lib.hid hk'
          go_wp2
          go_roundg k1
          case measure => omega
          case rel => exact ⟨l, rfl, hl, by have := hk'.out; show _ ≤ _; omega, hs'.out, rfl⟩
        · rw [if_neg h2] at hs'
          replace h2 : Op.bytesLess key.toList xk.toList = false := Bool.eq_false_iff.mpr h2
          obtain ⟨k1, rfl⟩ : ∃ k1, gk = k1 + 1 := ⟨gk - 1, by omega⟩
          have hr := hF.out.right
          replace hs' := Lib.hid hs'
          replace hk' := Lib.hid hk'
          go_wp2
          go_roundg k1
          case measure => omega
          case rel => exact ⟨r, rfl, hr, by have := hk'.out; show _ ≤ _; omega, hs'.out, rfl⟩

def firstS : ST → ST
  | .nil => .nil
  | .node xk xn .nil r d c => .node xk xn .nil r d c
  | .node _ _ (.node a b c d e f) _ _ _ => firstS (.node a b c d e f)

set_option maxHeartbeats 4000000 in
set_option maxRecDepth 100000 in
theorem first_any (T : TT) (w : World) (hT : T.In w) (hn : T.adr ≠ none) :
    Calls Try.prog 26 #[.pointer T.adr] w (FoundPost (firstS T.strip) w) := by
  have HT := Lib.hid hT
  have HN := Lib.hid hn
  clear hn
  go_enter Try.func26, Try.ntmps26
  go_wp2
  go_loopg [0] T.height (fun kq v0 w' => ∃ F : TT, v0 = .pointer F.adr ∧ Hid (F.adr ≠ none) ∧ Hid (F.In w) ∧ Hid (F.height ≤ kq) ∧ Hid (firstS F.strip = firstS T.strip) ∧ w = w')
  case atStart => exact ⟨T, rfl, HN, HT, Nat.le_refl _, rfl, rfl⟩
  case round =>
    obtain ⟨F, rfl, hn, hF, hk, hs, rfl⟩ := hrel
    clear hT
    cases F with
    | nil => exact absurd rfl hn.out
    | node b xk xn l r d c =>
      clear hn
      obtain ⟨f0, f1, f2, f3, _, _⟩ := TT.cells hF.out
      simp only [TT.adr_node]
      cases l with
      | nil =>
        simp only [TT.adr] at f2
        go_wp2
        go_ret
        exact ⟨.node b xk xn .nil r d c, rfl, hF.out, hs.out, rfl⟩
      | node lb lk ln ll lr ld lc =>
        have hk' : (TT.node lb lk ln ll lr ld lc).height + 1 ≤ gk := by have := hk.out; simp only [TT.height] at this ⊢; omega
        simp only [TT.adr_node] at f2
        obtain ⟨k1, rfl⟩ : ∃ k1, gk = k1 + 1 := ⟨gk - 1, by omega⟩
        have hl := Lib.hid hF.out.left
        replace hk' := Lib.hid hk'
        go_wp2
        go_roundg k1
        case measure => omega
        case rel => exact ⟨TT.node lb lk ln ll lr ld lc, rfl, (fun h => by cases h), hl, by have := hk'.out; show _ ≤ _; omega, hs.out, rfl⟩
end Go.Proofs.Ytdjcomlpedokeaa
