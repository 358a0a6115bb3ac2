import Derived.Test.YtlmkcdebchahpaaDoorLX4
set_option linter.unusedVariables false
set_option linter.unusedSimpArgs false
namespace Go.Proofs.YtlmkcdebchahpaaDoor
open Go.RowKit

/-! ### lex.Words -/
def strLen : Value → Nat
  | .string s => s.size
  | _ => 0
theorem Tryd.infoS : (Tryd.prog.info? 9).map (fun i => (i.zero, i.size, i.bytes)) = some (some (.string ⟨#[]⟩), 1, 16) := by kernel_rfl
def strs (l : List ByteArray) : List Value := l.map Value.string
theorem strs_append (a b : List ByteArray) : strs (a ++ b) = strs a ++ strs b := by simp [strs]
theorem texts_own {w : World} {base : Nat} {v : Value} {l : List ByteArray} (h : w.ownsRow base 9 1 v l.length (strs l)) : Texts w v l := by
  have hR : Go.Proofs.YtlmkcdebchahpaaDoorW.PrintWords.Kd.R Go.Proofs.YtlmkcdebchahpaaDoorW.PrintWords.Kd.string 9 w base (fun _ => True) v l := Go.Proofs.YtlmkcdebchahpaaDoorW.PrintWords.Kd.R_of_own (enc := Value.string) (h1 := fun _ => rfl) h (fun _ _ => trivial)
  exact Go.Proofs.YtlmkcdebchahpaaDoorW.PrintWords.Kd.R_reads hR
def WordsPost (r : List ByteArray × Int) (w : World) (e : Ending) (w' : World) : Prop := ∃ v, e = .returned (.tuple #[v, errV r.2]) ∧ Texts w' v r.1 ∧ Below w.heap.size w w'
theorem texts_nil (w : World) : Texts w (.slice none 0 0) [] := ⟨none, 0, rfl, Nat.le_refl _, Go.Proofs.YtlmkcdebchahpaaDoorW.PrintWords.Kd.C_nil _ _⟩
theorem size_zero {u : ByteArray} (h : u.size = 0) : u = ByteArray.empty := by
  apply bys_inj
  have : (bys u).length = 0 := by rw [bys_length]; exact h
  rw [List.eq_nil_of_length_eq_zero this]
  rfl
theorem nonempty_list {u : ByteArray} (h : 0 < u.size) : u.toList.isEmpty = false := by
  rw [ByteArray.toList_eq]
  cases e : u.data.toList with
  | nil =>
    have h1 : bys u = [] := by unfold bys; rw [e]; rfl
    have h2 := bys_length u
    rw [h1] at h2
    simp only [List.length_nil] at h2
    omega
  | cons _ _ => rfl
theorem own_keep {w w1 : World} {base : Nat} {e : TypeId} {size n : Nat} {v : Value} {xs : List Value} (h : w.ownsRow base e size v n xs) (hb : Below w.heap.size w w1) : w1.ownsRow base e size v n xs :=
  Go.Proofs.YtlmkcdebchahpaaDoorW.PrintWords.own_move h (fun k hk => hb.block k (World.ownsRow.lt h k hk).2)
theorem empty_toList : ByteArray.empty.toList = [] := by rw [ByteArray.toList_eq]; rfl

set_option maxHeartbeats 4000000 in
set_option maxRecDepth 100000 in
theorem Words_any (s : ByteArray) (w : World) : Calls Tryd.prog 8 #[.string s] w (WordsPost (wordsR s) w) := by
  by_cases h1 : 2000 < s.size
  · have hw : wordsR s = ([], 13) := by unfold wordsR; rw [if_pos h1]
    rw [hw]
    have t1 : decide ((2000 : Int) < (s.size : Int)) = true := decide_eq_true (by omega)
    have t1' : decide (2000 < s.size) = true := decide_eq_true h1
    clear h1 hw
    go_enter Tryd.func8, Tryd.ntmps8
    go_wp2
    go_ret2
    exact ⟨_, rfl, texts_nil _, Below.refl _ _⟩
  have hw : wordsR s = finR [] (wordsG (s.size + 1) (bys s)) := by unfold wordsR; rw [if_neg h1]
  rw [hw]
  have t1 : decide ((2000 : Int) < (s.size : Int)) = false := decide_eq_false (by omega)
  have t1' : decide (2000 < s.size) = false := decide_eq_false h1
  clear hw
  obtain ⟨R, hR⟩ : ∃ R, R = finR [] (wordsG (s.size + 1) (bys s)) := ⟨_, rfl⟩
  rw [← hR]
  have hR0 : Hid (finR [] (wordsG (s.size + 1) (bys (skipB s))) = R) := by
    show _ = R
    rw [hR, bys_skipB, wordsG_skip]
  have hsk : Hid (skipG (bys (skipB s)) = bys (skipB s)) := by
    show _ = _
    rw [bys_skipB]
    cases h : skipG (bys s) with
    | nil => rfl
    | cons b r => exact skipG_idem (skipG_head _ h)
  have hsz := skipB_size s
  have ct := Lib.hid (trim_any s w)
  obtain ⟨i0, hi, hz0, hz1, hz2⟩ := info_parts Tryd.infoS
  have HI := Lib.hid hi
  have HZ0 := Lib.hid hz0
  have HZ1 := Lib.hid hz1
  have HZ2 := Lib.hid hz2
  clear hi hz0 hz1 hz2 hR
  go_enter Tryd.func8, Tryd.ntmps8
  go_wp2_with ((go_at_call 13; (with_reducible refine ct.out.mono ?_); rintro e w1 ⟨rfl, hb⟩; have HB := Lib.hid hb; clear hb))
  go_loopw [0, 4] (fun v0 v4 wr => ∃ (u : ByteArray) (ws : List ByteArray) (f : Nat), v0 = .string u ∧ u.size ≤ 2000 ∧ ws.length + u.size ≤ 2000 ∧ Hid (wr.ownsRow w.heap.size 9 1 v4 ws.length (strs ws)) ∧ Hid (finR ws (wordsG f (bys u)) = R) ∧ Hid (u.size < f) ∧ Hid (skipG (bys u) = bys u) ∧ Hid (Below w.heap.size w wr)) (fun v0 _ _ => strLen v0)
  case atStart => exact ⟨skipB s, [], s.size + 1, rfl, by omega, by simp; omega, World.ownsRow_nil _ _ _ _, hR0, Lib.hid (by omega), hsk, HB⟩
  case round =>
    clear HB hR0 hsk ct hsz
    obtain ⟨u, ws, f, rfl, hu, hl, ho, hr, hf, hsk, HB⟩ := hrel
    by_cases hz : u.size = 0
    · obtain rfl := size_zero hz
      have hfin : R = (ws, 0) := by
        rw [← hr.out, show bys ByteArray.empty = [] from rfl, wordsG_nil]
        simp [finR]
      have ht := texts_own ho.out
      have e1 : (ByteArray.empty.toList.isEmpty) = true := by rw [empty_toList]; rfl
      have e2 := empty_toList
      clear hz
      go_wp2
      go_ret2
      rw [hfin]
      exact ⟨_, rfl, ht, HB.out⟩
    · have h0 : 0 < u.size := by omega
      have e1 := nonempty_list h0
      have hne : bys u ≠ [] := by intro h; have := bys_length u; rw [h] at this; simp at this; omega
      obtain ⟨b, r, hbr⟩ : ∃ b r, bys u = b :: r := by cases h : bys u with | nil => exact absurd h hne | cons b r => exact ⟨b, r, rfl⟩
      have hsk' := hsk.out
      rw [hbr] at hsk'
      have hbb := skipG_head (b :: r) hsk'
      have cn := Lib.hid (next_any u h0 (by omega))
      have hnle := nextG_le (bys u)
      rw [bys_length] at hnle
      obtain ⟨f', rfl⟩ : ∃ g, f = g + 1 := ⟨f - 1, by have := hf.out; omega⟩
      obtain ⟨n, hn⟩ : ∃ n, n = nextG (bys u) := ⟨_, rfl⟩
      rw [← hn] at cn hnle
      have HE := Lib.hid e1
      by_cases hn0 : n = 0
      · have hfin : R = ([], 10) := by
          rw [← hr.out, hbr, wordsG_none hbb (by rw [← hbr, ← hn]; exact hn0)]
          rfl
        subst hn0
        clear hbr hbb hsk' hne hn hr
        go_wp2_with ((go_at_call 14; (with_reducible refine (cn.out _).mono ?_); rintro e w1 ⟨rfl, m, rfl⟩))
        go_ret2
        rw [hfin]
        exact ⟨_, rfl, texts_nil _, HB.out.trans (below_drewN _ _)⟩
      · have hnext : finR (ws ++ [u.extract 0 n]) (wordsG f' (bys (u.extract n u.size))) = R := by
          have e := hr.out
          rw [hbr, wordsG_cons hbb (by rw [← hbr, ← hn]; exact hn0), ← hbr, ← hn] at e
          rw [← e]
          have := finR_cons ws u 0 n (wordsG f' (bys (u.extract n u.size)))
          rw [List.drop_zero, Nat.zero_add] at this
          rw [← this]
          have e2 := bys_dropB u n
          unfold dropB at e2
          rw [e2]
        have hs2 : (u.extract n u.size).size = u.size - n := by rw [ByteArray.size_extract]; omega
        have hsz := skipB_size (u.extract n u.size)
        have ct := Lib.hid (trim_any (u.extract n u.size))
        have HN : Hid (finR (ws ++ [u.extract 0 n]) (wordsG f' (bys (skipB (u.extract n u.size)))) = R) := by
          show _ = R
          rw [bys_skipB, wordsG_skip]; exact hnext
        have HSK : Hid (skipG (bys (skipB (u.extract n u.size))) = bys (skipB (u.extract n u.size))) := by
          show _ = _
          rw [bys_skipB]
          cases h : skipG (bys (u.extract n u.size)) with
          | nil => rfl
          | cons b r => exact skipG_idem (skipG_head _ h)
        have HSZ := Lib.hid hs2
        have q0 : (0 : Int) ≤ (n : Int) := by omega
        have q1 : (n : Int) ≤ (u.size : Int) := by omega
        have z1 : ((n : Int) == 0) = false := by rw [beq_eq_false_iff_ne]; omega
        have z2 : (n == 0) = false := by rw [beq_eq_false_iff_ne]; omega
        clear hbr hbb hsk' hne hn hr hnext hs2
        go_wp2_with (first
          | (go_at_call 14; (with_reducible refine (cn.out _).mono ?_); rintro e w1 ⟨rfl, m, rfl⟩; have ho1 : Hid ((wr.drewN m).ownsRow w.heap.size 9 1 u4 ws.length (strs ws)) := ho; have hb1 : Hid (Below w.heap.size w (wr.drewN m)) := Lib.hid (HB.out.trans (below_drewN _ _)))
          | (go_at_call 13; (with_reducible refine (ct.out _).mono ?_); rintro e w4 ⟨rfl, hb⟩; have HB4 := Lib.hid (below_step HB2.out hb); have HO4 : Hid (w4.ownsRow w.heap.size 9 1 (.slice (some ⟨g, 0, none⟩) (ws.length + 1) cap) (ws ++ [u.extract 0 n]).length (strs (ws ++ [u.extract 0 n]))) := Lib.hid (own_keep HO2.out hb); clear hb)
          | (at_builtin; refine wpList_append_lies _ rfl _ _ _ rfl w.heap.size 9 i0 (.string ⟨#[]⟩) 1 16 Tryd.underlying24 HI.out HZ0.out HZ1.out HZ2.out rfl (by decide) u4 ws.length (strs ws) rfl (ho1.out.alloc _) _ 1 1 [.string (u.extract 0 n)] rfl rfl (World.news_of_block (heap_alloc_new _ _)) (by simp [Value.oneCell']) (by decide) (by unfold maxLen; omega) (by omega) (by have := hb1.out.size; simp at this ⊢; omega) _ rfl ?_; intro g cap w2 ho2 hg2 ha2 hlt2; have HO2 : Hid (w2.ownsRow w.heap.size 9 1 (.slice (some ⟨g, 0, none⟩) (ws.length + 1) cap) (ws ++ [u.extract 0 n]).length (strs (ws ++ [u.extract 0 n]))) := (by rw [strs_append, List.length_append]; exact ho2); have HB2 := Lib.hid (hb1.out.trans (((Below.refl _ _).alloc (by have := hb1.out.size; simp at this ⊢; omega) _).trans (grown_below (by have := hb1.out.size; simp at this ⊢; omega) (own_nb ho1.out) hg2))); clear ho2 hg2 ha2 hlt2))
        go_roundw
        case rel => exact ⟨skipB (u.extract n u.size), ws ++ [u.extract 0 n], f', rfl, by have := HSZ.out; omega, by have := HSZ.out; simp; omega, HO4, HN, Lib.hid (by have := HSZ.out; have := hf.out; omega), HSK, HB4⟩
        case measure => have := HSZ.out; show (skipB (u.extract n u.size)).size < u.size; omega
end Go.Proofs.YtlmkcdebchahpaaDoor
