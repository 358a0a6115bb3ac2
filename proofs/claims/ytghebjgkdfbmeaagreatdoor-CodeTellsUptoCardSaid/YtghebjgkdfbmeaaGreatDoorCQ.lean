import Derived.Test.YtghebjgkdfbmeaaGreatDoorCP
import Derived.Test.YtghebjgkdfbmeaaGreatDoorCT
set_option linter.unusedVariables false
set_option linter.unusedSimpArgs false
namespace Go.Proofs.YtghebjgkdfbmeaaGreatDoor
open Go.RowKit

theorem toB (l : List UInt8) (s : ByteArray) (h : s.data.toList = l) : (⟨l.toArray⟩ : ByteArray) = s := by
  apply ByteArray.ext
  show l.toArray = s.data
  rw [← h]
theorem hasSuf (s : ByteArray) : Lib.hasSuffix s.data.toList [46, 114, 101, 99] = eqL (dropB s (s.size - 4)) [46, 114, 101, 99] := by
  rw [Bool.eq_iff_iff, eqL_iff]
  unfold Lib.hasSuffix
  rw [List.isSuffixOf_iff_suffix, List.suffix_iff_eq_drop]
  have e : (dropB s (s.size - 4)).data.toList = s.data.toList.drop (s.size - 4) := by unfold dropB; rw [Lib.extract_to_end]
  rw [← Lib.size_eq]
  constructor
  · intro h
    exact (toB _ _ (by rw [e]; exact h.symm)).symm
  · intro h
    rw [h] at e
    exact e
theorem hasPre (s : ByteArray) : Lib.hasPrefix s.data.toList [84, 121, 112, 101] = eqL (takeB s 4) [84, 121, 112, 101] := by
  rw [Bool.eq_iff_iff, eqL_iff]
  unfold Lib.hasPrefix
  rw [List.isPrefixOf_iff_prefix, List.prefix_iff_eq_take]
  have e : (takeB s 4).data.toList = s.data.toList.take 4 := by unfold takeB; rw [Lib.extract_from_zero]
  constructor
  · intro h
    exact (toB _ _ (by rw [e]; exact h.symm)).symm
  · intro h
    rw [h] at e
    exact e
theorem eqL_size {s : ByteArray} {l : List UInt8} (h : eqL s l = true) : s.size = l.length := by rw [eqL_iff.1 h]; rfl
theorem takeB_size2 (s : ByteArray) (k : Nat) : (takeB s k).size = min k s.size := by unfold takeB; rw [ByteArray.size_extract]; omega

def PRecPost (s : ByteArray) (w : World) (e : Ending) (w' : World) : Prop := e = .returned (.tuple #[.string (recS s).1, .bool (recS s).2]) ∧ Below w.heap.size w w'
set_option maxHeartbeats 8000000 in
set_option maxRecDepth 100000 in
theorem pRec_any (s : ByteArray) (hs : s.size < 4294967281) (w : World) (hm : MaxV w) : Calls Tryz.prog 58 #[.string s] w (PRecPost s w) := by
  unfold PRecPost
  have cs := Tryz.strings_CutSuffix s ⟨#[46, 114, 101, 99]⟩ w (by omega)
  have hrec : recS s = if eqL (dropB s (s.size - 4)) [46, 114, 101, 99] && nameS (takeB s (s.size - 4)) then (takeB s (s.size - 4), true) else (⟨#[]⟩, false) := by
    unfold recS
    by_cases h : s.size < 5
    · rw [if_pos h, if_neg]
      intro h2
      rw [Bool.and_eq_true] at h2
      have h3 : takeB s (s.size - 4) = ⟨#[]⟩ := by
        have h5 := eqL_size h2.1
        rw [dropB_size] at h5
        have : (takeB s (s.size - 4)).size = 0 := by rw [takeB_size2]; simp at h5; omega
        exact ByteArray.ext (Array.eq_empty_of_size_eq_zero this)
      rw [h3, nameS_empty] at h2
      cases h2.2
    · rw [if_neg h]
  have htr : (⟨(Lib.trimSuffix s.data.toList [46, 114, 101, 99]).toArray⟩ : ByteArray) = if eqL (dropB s (s.size - 4)) [46, 114, 101, 99] then takeB s (s.size - 4) else s := by
    unfold Lib.trimSuffix
    rw [hasSuf]
    split
    · refine toB _ _ ?_
      unfold takeB
      rw [Lib.extract_from_zero, Lib.size_eq]
      rfl
    · exact toB _ _ rfl
  rw [show (⟨#[46, 114, 101, 99]⟩ : ByteArray).data.toList = [46, 114, 101, 99] from rfl, htr, hasSuf] at cs
  clear htr
  rw [hrec]
  have htk : (takeB s (s.size - 4)).size < 4294967281 := by rw [takeB_size2]; omega
  have cn := Lib.hid (pIsName_any (takeB s (s.size - 4)) htk w hm)
  generalize takeB s (s.size - 4) = t at cs cn
  clear hrec htk hm
  cases hb : eqL (dropB s (s.size - 4)) [46, 114, 101, 99]
  · rw [hb, if_neg (by decide)] at cs
    replace cs := Lib.hid cs
    clear hb
    go_enter Tryz.func58, Tryz.ntmps58
    go_wp2_with (go_at_call 61; (with_reducible refine cs.out.mono ?_); rintro e w2 ⟨rfl, rfl⟩)
    go_ret2
    exact ⟨rfl, Below.refl _ _⟩
  · rw [hb, if_pos rfl] at cs
    replace cs := Lib.hid cs
    clear hb
    cases hn : nameS t
    · rw [hn] at cn
      clear hn
      go_enter Tryz.func58, Tryz.ntmps58
      go_wp2_with (first
        | (go_at_call 61; (with_reducible refine cs.out.mono ?_); rintro e w2 ⟨rfl, rfl⟩)
        | (go_at_call 59; (with_reducible refine cn.out.mono ?_); rintro e w3 ⟨rfl, hb⟩; have HB := Lib.hid hb; clear hb))
      go_ret2
      exact ⟨rfl, HB.out⟩
    · rw [hn] at cn
      clear hn
      go_enter Tryz.func58, Tryz.ntmps58
      go_wp2_with (first
        | (go_at_call 61; (with_reducible refine cs.out.mono ?_); rintro e w2 ⟨rfl, rfl⟩)
        | (go_at_call 59; (with_reducible refine cn.out.mono ?_); rintro e w3 ⟨rfl, hb⟩; have HB := Lib.hid hb; clear hb))
      go_ret2
      exact ⟨rfl, HB.out⟩
def kws : List ByteArray := [⟨#[102, 117, 110]⟩, ⟨#[112, 105]⟩, ⟨#[108, 101, 116]⟩, ⟨#[105, 110]⟩]
theorem kws_in (s : ByteArray) : Lib.containsS (kws.take 4) s = (eqL s [102, 117, 110] || eqL s [112, 105] || eqL s [108, 101, 116] || eqL s [105, 110]) := by
  rw [Bool.eq_iff_iff, Lib.containsS_iff]
  simp only [Bool.or_eq_true, eqL_iff, kws, List.take, List.mem_cons, List.not_mem_nil, or_false, or_assoc]
theorem bt_drop (s : ByteArray) (k : Nat) (h : k < s.size) : bt (dropB s k) 0 = bt s k := by
  have h1 := bt_bys s k h
  have h2 := bt_bys (dropB s k) 0 (by rw [dropB_size]; omega)
  rw [bys_dropB, List.getElem?_drop, Nat.add_zero, h1] at h2
  injection h2 with h2
  exact h2.symm

set_option maxHeartbeats 8000000 in
set_option maxRecDepth 100000 in
theorem isKeyword_any (s : ByteArray) (hs : s.size < 4294967281) (w : World) : Calls Tryz.prog 60 #[.string s] w (fun e w' => e = .returned (.bool (keyS s)) ∧ Below w.heap.size w w') := by
  have cs := Tryz.strings_CutPrefix s ⟨#[84, 121, 112, 101]⟩ w
  have htr : (⟨(Lib.trimPrefix s.data.toList [84, 121, 112, 101]).toArray⟩ : ByteArray) = if eqL (takeB s 4) [84, 121, 112, 101] then dropB s 4 else s := by
    unfold Lib.trimPrefix
    rw [hasPre]
    split
    · refine toB _ _ ?_
      unfold dropB
      rw [Lib.extract_to_end]
      rfl
    · exact toB _ _ rfl
  rw [show (⟨#[84, 121, 112, 101]⟩ : ByteArray).data.toList = [84, 121, 112, 101] from rfl, htr, hasPre] at cs
  clear htr
  have cc := Tryz.slices_Contains_string w.heap.size 0 4 4 kws s (w.alloc (.cells #[.string ⟨#[102, 117, 110]⟩, .string ⟨#[112, 105]⟩, .string ⟨#[108, 101, 116]⟩, .string ⟨#[105, 110]⟩] 9)) (by decide) (by decide) (fun j hj => by
    rw [Nat.zero_add, new_cell]
    match j, hj with
    | 0, _ => rfl
    | 1, _ => rfl
    | 2, _ => rfl
    | 3, _ => rfl)
  rw [kws_in] at cc
  unfold keyS
  generalize (eqL s [102, 117, 110] || eqL s [112, 105] || eqL s [108, 101, 116] || eqL s [105, 110]) = b0 at cc ⊢
  replace cc := Lib.hid cc
  have HB : Hid (Below w.heap.size w (w.alloc (.cells #[.string ⟨#[102, 117, 110]⟩, .string ⟨#[112, 105]⟩, .string ⟨#[108, 101, 116]⟩, .string ⟨#[105, 110]⟩] 9))) := (Below.refl _ _).alloc (Nat.le_refl _) _
  cases b0
  · cases hok : eqL (takeB s 4) [84, 121, 112, 101]
    · rw [hok, if_neg (by decide)] at cs
      rw [Bool.and_false, Bool.false_and, Bool.or_false]
      replace cs := Lib.hid cs
      clear hok
      go_enter Tryz.func60, Tryz.ntmps60
      go_wp2_with (first
        | (go_at_call 64; (with_reducible refine cs.out.mono ?_); rintro e w2 ⟨rfl, rfl⟩)
        | (go_at_call 65; (refine cc.out.mono ?_); rintro e w3 ⟨rfl, rfl⟩))
      go_ret
      exact ⟨rfl, HB.out⟩
    · rw [hok, if_pos rfl] at cs
      have h4 : 4 ≤ s.size := by
        have := eqL_size hok
        rw [takeB_size2] at this
        simp at this
        omega
      by_cases h5 : s.size = 5
      · have hlt : 4 < s.size := by omega
        have hbt := bt_drop s 4 hlt
        have hsz := dropB_size s 4
        rw [decide_eq_true h5]
        have t1 : (((dropB s 4).size : Int) == 1) = true := by rw [hsz, h5]; rfl
        have t2 : (0 : Int) < ((dropB s 4).size : Int) := by rw [hsz, h5]; decide
        have t3 : 0 < (dropB s 4).size := by rw [hsz, h5]; decide
        unfold digB
        generalize bt s 4 = x at hbt ⊢
        clear hsz hok
        generalize dropB s 4 = t at cs hbt t1 t2 t3
        have hget := bt_get t 0 t3
        rw [hbt] at hget
        replace cs := Lib.hid cs
        clear h5 h4 hlt hbt
        cases h1 : decide ((48 : Int) ≤ (x : Int)) <;> cases h2 : decide ((x : Int) ≤ 57)
        all_goals
          go_enter Tryz.func60, Tryz.ntmps60
          go_wp2_with (first
            | (go_at_call 64; (with_reducible refine cs.out.mono ?_); rintro e w2 ⟨rfl, rfl⟩)
            | (go_at_call 65; (refine cc.out.mono ?_); rintro e w3 ⟨rfl, rfl⟩))
          go_ret
          exact ⟨rfl, HB.out⟩
      · have hsz := dropB_size s 4
        rw [decide_eq_false h5, Bool.false_and, Bool.false_and, Bool.or_false]
        have t1 : (((dropB s 4).size : Int) == 1) = false := beq_eq_false_iff_ne.2 (by omega)
        have t1' : ((dropB s 4).size == 1) = false := beq_eq_false_iff_ne.2 (by omega)
        generalize dropB s 4 = t at cs t1 t1'
        replace cs := Lib.hid cs
        clear hok hsz h5 h4
        go_enter Tryz.func60, Tryz.ntmps60
        go_wp2_with (first
          | (go_at_call 64; (with_reducible refine cs.out.mono ?_); rintro e w2 ⟨rfl, rfl⟩)
          | (go_at_call 65; (refine cc.out.mono ?_); rintro e w3 ⟨rfl, rfl⟩))
        go_ret
        exact ⟨rfl, HB.out⟩
  · generalize (if eqL (takeB s 4) [84, 121, 112, 101] then dropB s 4 else s) = t at cs
    rw [Bool.true_or]
    generalize eqL (takeB s 4) [84, 121, 112, 101] = ok at cs
    replace cs := Lib.hid cs
    go_enter Tryz.func60, Tryz.ntmps60
    go_wp2_with (first
      | (go_at_call 64; (with_reducible refine cs.out.mono ?_); rintro e w2 ⟨rfl, rfl⟩)
      | (go_at_call 65; (refine cc.out.mono ?_); rintro e w3 ⟨rfl, rfl⟩))
    go_ret
    exact ⟨rfl, HB.out⟩
end Go.Proofs.YtghebjgkdfbmeaaGreatDoor
