import Derived.Test.YtdjcomlpedokeaaTP2
set_option linter.unusedVariables false
set_option linter.unusedSimpArgs false
namespace Go.Proofs.Ytdjcomlpedokeaa
open Go.RowKit

theorem MdIn.str {w : World} {B : Nat} {kv nv : Value} {l : List (ByteArray × Int)} (h : MdIn w B kv nv l) : StrSl w kv (l.map (·.1)) := by
  refine StrSl.of_own (base := B) (e := 9) (n := l.length) ?_
  have := h.k
  unfold keysV at this
  rw [List.map_map]
  exact this
theorem MdIn.drewN {w : World} {B : Nat} {kv nv : Value} {l : List (ByteArray × Int)} (h : MdIn w B kv nv l) (n : Nat) : MdIn (w.drewN n) B kv nv l := h.same fun _ _ => rfl
theorem mem_pair {l : List (ByteArray × Int)} {i : Nat} {k : ByteArray} {m : Int} (h : l[i]? = some (k, m)) : (k, m) ∈ l := List.mem_of_getElem? h
def AlikePost (w : World) (e : Ending) (w' : World) : Prop := e = .returned (.bool true) ∧ Below w.heap.size w w'

set_option maxHeartbeats 4000000 in
set_option maxRecDepth 100000 in
theorem alike_any (tb : Nat) (kv nv : Value) (l : List (ByteArray × Int)) (w : World) (hg : TG w tb l) (h : MdIn w 0 kv nv l) (hl : l.length ≤ 1000) :
    Calls Try.prog 11 #[.pointer (some ⟨tb, 0, none⟩), .agg #[kv, nv]] w (AlikePost w) := by
  obtain ⟨a1, c1, a2, c2, rfl, rfl⟩ := h.form
  obtain ⟨L, hL⟩ : ∃ L, L = l.length := ⟨_, rfl⟩
  rw [← hL] at h hl ⊢
  have HM := Lib.hid h
  have HL := Lib.hid hL
  have HG := Lib.hid hg
  clear h hL hg
  go_enter Try.func11, Try.ntmps11
  have hB : Blk (w.alloc (.cells #[.slice a1 L c1, .slice a2 L c2] 30)) w.heap.size 30 #[.slice a1 L c1, .slice a2 L c2] := Blk.new w _ _
  have hb := (Below.refl w.heap.size w).alloc (Nat.le_refl _) (.cells #[.slice a1 L c1, .slice a2 L c2] 30)
  have hM := HM.out.below hb
  have hG := HG.out.below hb
  go_upto_region 1 with fail
  generalize (w.alloc (.cells #[.slice a1 L c1, .slice a2 L c2] 30)) = W0 at hB hb hM hG ⊢
  clear HM HG
  have HBk := Lib.hid hB
  have HB := Lib.hid hb
  have HM := Lib.hid hM
  have HG := Lib.hid hG
  clear hB hb hM hG
  go_cut [25] (fun v25 wx => v25 = .bool false ∧ Hid (Below W0.heap.size W0 wx))
  case first =>
    have m0 := HBk.out.cell 0
    simp at m0
    have cl := Lib.hid (fun W (hW : Below W0.heap.size W0 W) => Len_g tb l W (HG.out.below hW))
    have ck := Lib.hid (fun W (hW : Below W0.heap.size W0 W) => Keys_g tb l W (HG.out.below hW) (by rw [← HL.out]; exact hl))
    go_region_with (first
      | (go_at_call 17; (with_reducible refine (cl.out _ (Below.refl _ _).drew).mono ?_); rintro e w1 ⟨rfl, rfl⟩; rw [← HL.out])
      | (go_at_call 16; (with_reducible refine (ck.out _ (Below.refl _ _).drew).mono ?_); rintro e w1 ⟨v, rfl, ho, hb⟩; have HO := Lib.hid (StrSl.of_own (l := l.map (·.1)) ho); have HB1 := Lib.hid ((Below.refl _ _).drew.trans hb); have m1 := (HBk.out.below HB1.out).cell 0; simp at m1; clear ho hb)
      | (go_at_call 18; refine (same_any _ _ (l.map (·.1)) (l.map (·.1)) _ HO.out (HM.out.below HB1.out).str (by rw [List.length_map, ← HL.out]; omega)).mono ?_; rintro e w8 ⟨rfl, nd, rfl⟩; rw [sameB_true rfl]))
    all_goals
      go_wp2
      go_meet
      exact ⟨rfl, HB1.out.trans (below_drewN _ _)⟩
  case rest =>
    obtain ⟨rfl, hbc⟩ := hcut
    replace HB := Lib.hid (HB.out.trans (hbc.out.mono HB.out.size))
    replace HM := Lib.hid (HM.out.below hbc.out)
    replace HG := Lib.hid (HG.out.below hbc.out)
    replace HBk := Lib.hid (HBk.out.below hbc.out)
    clear hbc
    obtain ⟨W1, hW1⟩ : ∃ W1, W1 = wc := ⟨_, rfl⟩
    subst hW1
    have m0 := HBk.out.cell 0
    have m1 := HBk.out.cell 1
    simp at m0 m1
    go_wp2
    go_loopg [5] L (fun kq v5 wr => ∃ i : Nat, v5 = .int .i64 (i : Int) ∧ i + kq = L ∧ wr = W1)
    case atStart => exact ⟨0, rfl, by omega, rfl⟩
    case round =>
      obtain ⟨i, rfl, hi, rfl⟩ := hrel
      by_cases hlt : i < L
      · obtain ⟨⟨ki, mi⟩, hs⟩ : ∃ s, l[i]? = some s := ⟨_, List.getElem?_eq_getElem (by rw [← HL.out]; exact hlt)⟩
        obtain ⟨g1, d1, g2, d2, e1, e2, k0, n0⟩ := HM.out.at_ hs
        rw [← HL.out] at e1 e2
        injection e1 with e1 _ e3
        injection e2 with e2 _ e4
        subst e1 e2 e3 e4
        simp only at k0 n0
        have q0 : (0 : Int) ≤ (i : Int) := by omega
        have q1 : (i : Int) < (L : Int) := by omega
        have HS := Lib.hid hs
        clear hs
        have hmm : (mi != mi) = false := by simp
        obtain ⟨k', rfl⟩ : ∃ k', gk = k' + 1 := ⟨gk - 1, by omega⟩
        go_wp2_with ((go_at_call 14; refine (Get_in tb l ki mi _ HG.out (mem_pair HS.out)).mono ?_; rintro e w4 ⟨rfl, rfl⟩))
        go_roundg k'
        case measure => omega
        case rel => exact ⟨i + 1, by go_num, by omega, rfl⟩
      · obtain rfl : i = L := by omega
        clear hlt hi
        go_wp2
        go_ret
        exact ⟨rfl, HB.out⟩
end Go.Proofs.Ytdjcomlpedokeaa
