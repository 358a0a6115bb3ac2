import Derived.Test.YtdjcomlpedokeaaTP1
import Derived.Deep.DeepCutAuto
import Derived.Deep.CutBlock
set_option linter.unusedVariables false
set_option linter.unusedSimpArgs false
namespace Go.Proofs.Ytdjcomlpedokeaa
open Go.RowKit

theorem bytes_beq {a b : ByteArray} (h : a = b) : (a.toList == b.toList) = true := by subst h; simp
theorem bytes_bne {a b : ByteArray} (h : ¬ a = b) : (a.toList == b.toList) = false := by
  cases hb : (a.toList == b.toList)
  · rfl
  · exact absurd (list_inj (by simpa using hb)) h

set_option maxHeartbeats 4000000 in
set_option maxRecDepth 100000 in
theorem has_any (kv nv : Value) (l : List (ByteArray × Int)) (s : ByteArray) (r : Bool) (w : World) (h : MdIn w 0 kv nv l) (hl : l.length ≤ 1000) (hr : r = true → ∃ n, (s, n) ∈ l) (hr' : r = false → ∀ n, (s, n) ∉ l) :
    Calls Try.prog 15 #[kv, .string s] w (fun e w' => e = .returned (.bool r) ∧ w = w') := by
  obtain ⟨a1, c1, a2, c2, rfl, rfl⟩ := h.form
  obtain ⟨L, hL⟩ : ∃ L, L = l.length := ⟨_, rfl⟩
  rw [← hL] at h hl ⊢
  have HM := Lib.hid h
  have HL := Lib.hid hL
  have HR := Lib.hid (And.intro hr hr')
  clear h hL hr hr'
  go_enter Try.func15, Try.ntmps15
  go_wp2
  go_loopg [5] L (fun kq v5 wr => ∃ i : Nat, v5 = .int .i64 (i : Int) ∧ i + kq = L ∧ wr = w ∧ Hid (∀ j x, j < i → l[j]? = some x → x.1 ≠ s))
  case atStart => exact ⟨0, rfl, by omega, rfl, fun j x hj => absurd hj (by omega)⟩
  case round =>
    obtain ⟨i, rfl, hi, rfl, hno⟩ := hrel
    by_cases hlt : i < L
    · obtain ⟨⟨ki, mi⟩, hs⟩ : ∃ s, l[i]? = some s := ⟨_, List.getElem?_eq_getElem (by rw [← HL.out]; exact hlt)⟩
      obtain ⟨g1, d1, g2, d2, e1, e2, k0, n0⟩ := HM.out.at_ hs
      rw [← HL.out] at e1
      injection e1 with e1 _ e3
      subst e1 e3
      simp only at k0
      clear n0
      have q0 : (0 : Int) ≤ (i : Int) := by omega
      have q1 : (i : Int) < (L : Int) := by omega
      have HS := Lib.hid hs
      clear hs
      by_cases hk : ki = s
      · have hb := bytes_beq hk
        have HK := Lib.hid hk
        clear hk
        go_wp2
        go_ret
        refine ⟨?_, rfl⟩
        cases r
        · exact absurd (by rw [← HK.out]; exact List.mem_of_getElem? HS.out) (HR.out.2 rfl mi)
        · rfl
      · have hb := bytes_bne hk
        have HK := Lib.hid hk
        clear hk
        obtain ⟨k', rfl⟩ : ∃ k', gk = k' + 1 := ⟨gk - 1, by omega⟩
        go_wp2
        go_roundg k'
        case measure => omega
        case rel =>
          refine ⟨i + 1, by go_num, by omega, rfl, fun j x hj hx => ?_⟩
          by_cases hji : j = i
          · subst hji
            rw [HS.out] at hx
            injection hx with hx
            rw [← hx]
            exact HK.out
          · exact hno.out j x (by omega) hx
    · obtain rfl : i = L := by omega
      clear hlt hi
      go_wp2
      go_ret
      refine ⟨?_, rfl⟩
      cases r
      · rfl
      · obtain ⟨n, hn⟩ := HR.out.1 rfl
        obtain ⟨j, hj⟩ := List.getElem?_of_mem hn
        have := (List.getElem?_eq_some_iff.1 hj).1
        exact absurd rfl (hno.out j _ (by have := HL.out; omega) hj)
end Go.Proofs.Ytdjcomlpedokeaa
