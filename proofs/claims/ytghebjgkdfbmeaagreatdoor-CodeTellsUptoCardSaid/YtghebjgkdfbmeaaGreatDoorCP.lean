import Derived.Test.YtghebjgkdfbmeaaGreatDoorCK
import Derived.Test.YtghebjgkdfbmeaaGreatDoorSR
set_option linter.unusedVariables false
set_option linter.unusedSimpArgs false
namespace Go.Proofs.YtghebjgkdfbmeaaGreatDoor
open Go.RowKit

set_option maxHeartbeats 4000000 in
theorem isLetter_any (c : Nat) (w : World) : Calls Tryz.prog 68 #[.int .u8 (c : Int)] w (fun e w' => e = .returned (.bool (letB c)) ∧ w = w') := by
  unfold letB
  cases h1 : decide ((97 : Int) ≤ (c : Int)) <;> cases h2 : decide ((c : Int) ≤ 122) <;> cases h3 : decide ((65 : Int) ≤ (c : Int)) <;> cases h4 : decide ((c : Int) ≤ 90)
  all_goals
    go_enter Tryz.func68, Tryz.ntmps68
    go_wp2
    go_ret
    exact ⟨rfl, rfl⟩
def partB : Bool → List Nat → Bool
  | st, [] => !st
  | true, c :: r => letB c && partB false r
  | false, c :: r => plaB c && partB false r
theorem partB_cons (st : Bool) (c : Nat) (r : List Nat) : partB st (c :: r) = ((if st = true then letB c else plaB c) && partB false r) := by cases st <;> rfl

set_option maxHeartbeats 8000000 in
set_option maxRecDepth 100000 in
theorem isPart_any (s : ByteArray) (hs : s.size ≤ 9223372036854775807) (w : World) : Calls Tryz.prog 63 #[.string s] w (fun e w' => e = .returned (.bool (partB true (bys s))) ∧ w = w') := by
  go_enter Tryz.func63, Tryz.ntmps63
  go_wp2
  go_loopg [7] s.size (fun kq v7 wr => ∃ i : Nat, v7 = .int .i64 (i : Int) ∧ i + kq = s.size ∧ wr = w ∧ Hid (partB (decide (i = 0)) ((bys s).drop i) = partB true (bys s)))
  case atStart => exact ⟨0, rfl, by omega, rfl, rfl⟩
  case round =>
    obtain ⟨i, rfl, hi, rfl, hN⟩ := hrel
    by_cases hil : i < s.size
    · have q0 : (0 : Int) ≤ (i : Int) := by omega
      have q1 : (i : Int) < (s.size : Int) := by omega
      have hget := bt_get s i hil
      have hN1 := hN.out
      rw [bys_drop s i hil, partB_cons] at hN1
      have HN := Lib.hid hN1
      clear hN1 hN
      have cl := Lib.hid (isLetter_any (bt s i) wr)
      obtain ⟨k', rfl⟩ : ∃ k', gk = k' + 1 := ⟨gk - 1, by omega⟩
      have hnx : ∀ b, partB (decide (i = 0)) (bt s i :: (bys s).drop (i + 1)) = (b && partB false ((bys s).drop (i + 1))) → b = true → partB (decide (i + 1 = 0)) ((bys s).drop (i + 1)) = partB true (bys s) := by
        intro b h1 h2
        rw [← HN.out, ← partB_cons, h1, h2, Bool.true_and]
        rfl
      have HNX := Lib.hid hnx
      clear hnx
      have h95 : ((bt s i : Int) == 95) = ((bt s i : Int) == 95) := rfl
      cases hlb : letB (bt s i)
      · rw [hlb] at cl
        have hpl : plaB (bt s i) = (digB (bt s i) || ((bt s i : Int) == 95)) := by unfold plaB; rw [hlb, Bool.false_or]
        unfold digB at hpl
        have HPL := Lib.hid hpl
        have hst : partB true (bt s i :: (bys s).drop (i + 1)) = false := by rw [partB_cons, if_pos rfl, hlb]; rfl
        have HST := Lib.hid hst
        clear hpl hst
        have hall : ∀ b1 b2 b3 : Bool, ((bt s i : Int) == 95) = b1 → decide ((48 : Int) ≤ (bt s i : Int)) = b2 → decide ((bt s i : Int) ≤ 57) = b3 → plaB (bt s i) = (b2 && b3 || b1) := by
          rintro _ _ _ rfl rfl rfl
          exact HPL.out
        have HALL := Lib.hid hall
        clear hall
        by_cases h0 : i = 0
        · have t0 : ((i : Int) == 0) = true := by rw [h0]; rfl
          have hf : partB true (bys s) = false := by
            rw [← HN.out, ← partB_cons, h0]
            rw [h0] at HST
            exact HST.out
          have HF := Lib.hid hf
          clear hf
          subst h0
          clear hlb
          cases h1 : ((bt s 0 : Int) == 95) <;> cases h2 : decide ((48 : Int) ≤ (bt s 0 : Int)) <;> cases h3 : decide ((bt s 0 : Int) ≤ 57)
          all_goals
            go_wp2_with (go_at_call 68; (with_reducible refine cl.out.mono ?_); rintro e w1 ⟨rfl, rfl⟩)
            go_ret
            exact ⟨by rw [HF.out]; rfl, rfl⟩
        · have t0 : ((i : Int) == 0) = false := beq_eq_false_iff_ne.2 (by omega)
          have hd0 : decide (i = 0) = false := decide_eq_false h0
          have hN2 := HN.out
          rw [hd0, if_neg (by decide)] at hN2
          replace HN := Lib.hid hN2
          clear hN2 hlb hd0 HNX HST
          cases h1 : ((bt s i : Int) == 95) <;> cases h2 : decide ((48 : Int) ≤ (bt s i : Int)) <;> cases h3 : decide ((bt s i : Int) ≤ 57)
          all_goals
            have hpp := HALL.out _ _ _ h1 h2 h3
            have HPP := Lib.hid hpp
            clear hpp
            go_wp2_with (go_at_call 68; (with_reducible refine cl.out.mono ?_); rintro e w1 ⟨rfl, rfl⟩)
            first
              | (go_ret
                 refine ⟨?_, rfl⟩
                 rw [← HN.out, HPP.out]
                 rfl)
              | (go_roundg k'
                 case measure => omega
                 case rel =>
                   refine ⟨i + 1, by go_num, by omega, rfl, ?_⟩
                   show partB (decide (i + 1 = 0)) _ = _
                   rw [← HN.out, HPP.out]
                   rfl)
      · rw [hlb] at cl
        have hpl : plaB (bt s i) = true := by unfold plaB; rw [hlb]; rfl
        have hx := HNX.out true (by
          rw [partB_cons]
          split
          · rw [hlb]
          · rw [hpl]) rfl
        have HX := Lib.hid hx
        clear hx hpl hlb
        go_wp2_with (go_at_call 68; (with_reducible refine cl.out.mono ?_); rintro e w1 ⟨rfl, rfl⟩)
        go_roundg k'
        case measure => omega
        case rel => exact ⟨i + 1, by go_num, by omega, rfl, HX.out⟩
    · have e : i = s.size := by omega
      have hN1 := hN.out
      rw [e, List.drop_eq_nil_of_le (show (bys s).length ≤ s.size by rw [bys_length]; exact Nat.le_refl _)] at hN1
      have hE : (s.toList != []) = partB true (bys s) := by
        rw [← hN1]
        show _ = !(decide (s.size = 0))
        rw [bne, show (s.toList == []) = eqL s [] from rfl]
        congr 1
        cases h : eqL s []
        · refine (decide_eq_false fun h0 => ?_).symm
          have : s = ⟨#[]⟩ := ByteArray.ext (Array.eq_empty_of_size_eq_zero h0)
          rw [eqL_iff.2 this] at h
          cases h
        · rw [eqL_iff.1 h]
          rfl
      have hE' : (!s.toList.isEmpty) = partB true (bys s) := by rw [← hE]; cases s.toList <;> rfl
      have HE := Lib.hid hE'
      subst e
      clear hN1 hE hE' hN hil
      go_wp2
      go_ret
      exact ⟨by rw [← HE.out]; rfl, rfl⟩
/-! ### parted at the points -/
theorem partB_append : ∀ (pre : List Nat) (st : Bool) (post : List Nat), (∀ c ∈ pre, c ≠ 46) → nameL st (pre ++ 46 :: post) = (partB st pre && nameL true post)
  | [], true, post, _ => by show nameL true (46 :: post) = _; rw [nameL_cons, if_pos rfl, let46]; rfl
  | [], false, post, _ => by show nameL false (46 :: post) = _; rw [nameL_cons, if_neg (by decide), if_pos rfl]; rfl
  | c :: r, st, post, h => by
    rw [List.cons_append, nameL_cons, partB_cons]
    have ih := partB_append r false post (fun x hx => h x (List.mem_cons_of_mem _ hx))
    have hc : ¬ c = 46 := h c List.mem_cons_self
    rw [ih]
    cases st
    · rw [if_neg (by decide), if_neg hc, if_neg (by decide), Bool.and_assoc]
    · rw [if_pos rfl, if_pos rfl, Bool.and_assoc]
theorem partB_whole : ∀ (pre : List Nat) (st : Bool), (∀ c ∈ pre, c ≠ 46) → nameL st pre = partB st pre
  | [], st, _ => by cases st <;> rfl
  | c :: r, st, h => by
    rw [nameL_cons, partB_cons]
    have ih := partB_whole r false (fun x hx => h x (List.mem_cons_of_mem _ hx))
    have hc : ¬ c = 46 := h c List.mem_cons_self
    rw [ih]
    cases st
    · rw [if_neg (by decide), if_neg hc, if_neg (by decide)]
    · rw [if_pos rfl, if_pos rfl]
def nums (l : List UInt8) : List Nat := l.map UInt8.toNat
theorem occ46 (l : List UInt8) (j : Nat) : Lib.occAt l [46] j = true ↔ l[j]? = some 46 := by
  unfold Lib.occAt
  cases h : l.drop j with
  | nil =>
    have : l.length ≤ j := List.drop_eq_nil_iff.1 h
    simp [List.isPrefixOf, List.getElem?_eq_none this]
  | cons a r =>
    have hj : l[j]? = some a := by rw [← List.head?_drop, h]; rfl
    simp [List.isPrefixOf, hj]
    exact eq_comm
theorem split_all : ∀ (k : Nat) (l : List UInt8), l.length ≤ k → (Lib.splitK [46] 0 (Lib.count l [46]) l).all (fun p => partB true (nums p)) = nameL true (nums l) := by
  intro k
  induction k with
  | zero =>
    intro l hl
    have : l = [] := List.eq_nil_of_length_eq_zero (by omega)
    subst this
    rfl
  | succ k ih =>
    intro l hl
    rcases Lib.index_spec l [46] with ⟨h1, h2⟩ | ⟨i, h1, h2, h3, h4⟩
    · have hc : Lib.count l [46] = 0 := Lib.count_miss h1
      have hno : ∀ c ∈ nums l, c ≠ 46 := by
        intro c hc e
        obtain ⟨x, hx, rfl⟩ := List.mem_map.1 hc
        obtain ⟨j, hj⟩ := List.getElem?_of_mem hx
        have hx46 : x = 46 := UInt8.toNat.inj e
        rw [hx46] at hj
        have := h2 j (by have := (List.getElem?_eq_some_iff.1 hj).1; omega)
        rw [(occ46 l j).2 hj] at this
        cases this
      rw [hc, partB_whole _ _ hno]
      simp [Lib.splitK]
    · have hat : l[i]? = some 46 := (occ46 l i).1 h3
      have hlt : i < l.length := (List.getElem?_eq_some_iff.1 hat).1
      have hc := Lib.count_hit (s := l) (sub := [46]) (by decide) h1
      have hl2 : l = l.take i ++ 46 :: l.drop (i + 1) := by
        have := List.getElem?_eq_some_iff.1 hat
        rw [← this.2, ← List.drop_eq_getElem_cons hlt, List.take_append_drop]
      have hno : ∀ c ∈ nums (l.take i), c ≠ 46 := by
        intro c hc e
        obtain ⟨x, hx, rfl⟩ := List.mem_map.1 hc
        obtain ⟨j, hj⟩ := List.getElem?_of_mem hx
        have hx46 : x = 46 := UInt8.toNat.inj e
        rw [hx46, List.getElem?_take] at hj
        split at hj
        · rename_i hji
          have := h4 j hji
          rw [(occ46 l j).2 hj] at this
          cases this
        · cases hj
      have ih2 := ih (l.drop (i + 1)) (by rw [List.length_drop]; omega)
      have hn : nums l = nums (l.take i) ++ 46 :: nums (l.drop (i + 1)) := by
        conv => lhs; rw [hl2]
        simp [nums]
      rw [hn, partB_append _ _ _ hno, ← ih2, hc, Nat.add_comm]
      have e1 : (Lib.index l [46]).toNat = i := by omega
      have e2 : ¬ (Lib.index l [46] == -1) = true := by rw [h1]; simp
      rw [Lib.splitK, if_neg e2, e1]
      simp
theorem splitB_size (sep : ByteArray) : ∀ (k : Nat) (s : ByteArray), ∀ p ∈ Lib.splitB sep 0 k s, p.size ≤ s.size
  | 0, s, p, hp => by
    have : p = s := by simpa [Lib.splitB] using hp
    rw [this]
    exact Nat.le_refl _
  | k + 1, s, p, hp => by
    unfold Lib.splitB at hp
    split at hp
    · have : p = s := by simpa using hp
      rw [this]
      exact Nat.le_refl _
    · rcases List.mem_cons.1 hp with rfl | hp
      · rw [ByteArray.size_extract]
        omega
      · have := splitB_size sep k _ p hp
        rw [ByteArray.size_extract] at this
        omega
theorem name_pieces (s : ByteArray) : (Lib.splitB ⟨#[46]⟩ 0 (Lib.countB s ⟨#[46]⟩) s).all (fun p => partB true (bys p)) = nameL true (bys s) := by
  have h := split_all s.data.toList.length s.data.toList (Nat.le_refl _)
  have h2 : (Lib.splitB ⟨#[46]⟩ 0 (Lib.countB s ⟨#[46]⟩) s).map (·.data.toList) = Lib.splitK [46] 0 (Lib.count s.data.toList [46]) s.data.toList := Lib.splitB_data ⟨#[46]⟩ 0 _ s
  rw [← h2, List.all_map] at h
  exact h
/-- The longest that Go's library looks for by other means: whatever it be. -/
def MaxV (w : World) : Prop := ∃ m, w.cell? ⟨1, 0, none⟩ = some (.int .i64 m)
theorem MaxV.below {w w' : World} (h : MaxV w) (hb : Below w.heap.size w w') : MaxV w' := let ⟨m, hm⟩ := h; ⟨m, (hb.cell (by
  rcases Nat.lt_or_ge 1 w.heap.size with h' | h'
  · exact h'
  · simp [World.cell?, Array.getElem?_eq_none h'] at hm)).trans hm⟩

set_option maxHeartbeats 8000000 in
set_option maxRecDepth 100000 in
theorem pIsName_any (s : ByteArray) (hs : s.size < 4294967281) (w : World) (hm : MaxV w) : Calls Tryz.prog 59 #[.string s] w (fun e w' => e = .returned (.bool (nameS s)) ∧ Below w.heap.size w w') := by
  obtain ⟨m, hm⟩ := hm
  have cs := Lib.hid (Tryz.strings_Split s ⟨#[46]⟩ m w hs hm (by decide))
  have hlen := Lib.splitB_all ⟨#[46]⟩ (by decide) 0 _ s rfl
  have hall := name_pieces s
  have hsz := splitB_size ⟨#[46]⟩ (Lib.countB s ⟨#[46]⟩) s
  have hcnt := Lib.countB_le ⟨#[46]⟩ (by decide) s.size s (Nat.le_refl _)
  generalize Lib.splitB ⟨#[46]⟩ 0 (Lib.countB s ⟨#[46]⟩) s = ps at cs hlen hall hsz
  generalize Lib.countB s ⟨#[46]⟩ = c at cs hlen hcnt
  obtain ⟨n, hn⟩ : ∃ n, n = c + 1 := ⟨_, rfl⟩
  rw [← hn] at cs hlen
  have HL := Lib.hid hlen
  have HA := Lib.hid hall
  have HZ := Lib.hid hsz
  have hn2 : n ≤ 4294967281 := by omega
  clear hlen hall hsz hm hn hcnt
  obtain ⟨b24, h24⟩ : ∃ b, decide ((s.size : Int) ≤ 24) = b := ⟨_, rfl⟩
  have h24' : decide (s.size ≤ 24) = b24 := by rw [← h24]; congr 1; exact propext ⟨fun h => by omega, fun h => by omega⟩
  have H24 := Lib.hid h24'
  have HS : Hid (s.size < 4294967281) := hs
  clear h24' hs
  go_enter Tryz.func59, Tryz.ntmps59
  go_wp2_with (go_at_call 62; (with_reducible refine cs.out.mono ?_); rintro e w1 ⟨rfl, hw⟩; have HW := Lib.hid hw; clear hw)
  have hcell : ∀ j p, ps[j]? = some p → w1.cell? ⟨w.heap.size, j, none⟩ = some (.string p) := by
    intro j p hj
    rw [HW.out, new_cell]
    simp [hj]
  have HC := Lib.hid hcell
  have HB : Hid (Below w.heap.size w w1) := by rw [HW.out]; exact (Below.refl _ _).alloc (Nat.le_refl _) _
  clear hcell HW
  go_loopg [8] n (fun kq v8 wr => ∃ i : Nat, v8 = .int .i64 (i : Int) ∧ i + kq = n ∧ wr = w1 ∧ Hid (∀ j p, j < i → ps[j]? = some p → partB true (bys p) = true))
  case atStart => exact ⟨0, rfl, by omega, rfl, fun j p h => absurd h (by omega)⟩
  case round =>
    obtain ⟨i, rfl, hi, rfl, hP⟩ := hrel
    by_cases hil : i < n
    · obtain ⟨p, hp⟩ : ∃ p, ps[i]? = some p := ⟨_, List.getElem?_eq_getElem (by rw [HL.out]; exact hil)⟩
      have c0 := HC.out i p hp
      have q0 : (0 : Int) ≤ (i : Int) := by omega
      have q1 : (i : Int) < (n : Int) := by omega
      have hpm := List.mem_of_getElem? hp
      have cp := Lib.hid (isPart_any p (by have := HZ.out p hpm; have := HS.out; omega) wr)
      obtain ⟨bp, hbp⟩ : ∃ b, partB true (bys p) = b := ⟨_, rfl⟩
      rw [hbp] at cp
      have HP := Lib.hid hp
      have HBP := Lib.hid hbp
      clear hp hbp hpm
      cases bp
      · have hf : nameS s = false := by
          unfold nameS
          rw [← HA.out]
          have : ps.all (fun p => partB true (bys p)) = false := by
            rw [List.all_eq_false]
            exact ⟨p, List.mem_of_getElem? HP.out, by rw [HBP.out]; decide⟩
          rw [this, Bool.and_false]
        have HF := Lib.hid hf
        clear hf
        go_wp2_with (go_at_call 63; (with_reducible refine cp.out.mono ?_); rintro e w2 ⟨rfl, rfl⟩)
        go_ret
        exact ⟨by rw [HF.out]; rfl, HB.out⟩
      · obtain ⟨k', rfl⟩ : ∃ k', gk = k' + 1 := ⟨gk - 1, by omega⟩
        go_wp2_with (go_at_call 63; (with_reducible refine cp.out.mono ?_); rintro e w2 ⟨rfl, rfl⟩)
        go_roundg k'
        case measure => omega
        case rel =>
          refine ⟨i + 1, by go_num, by omega, rfl, fun j q hj hq => ?_⟩
          by_cases hji : j = i
          · subst hji
            rw [HP.out] at hq
            injection hq with hq
            rw [← hq]
            exact HBP.out
          · exact hP.out j q (by omega) hq
    · obtain rfl : i = n := by omega
      have hnn : nameS s = b24 := by
        unfold nameS
        rw [← HA.out, H24.out]
        have : ps.all (fun p => partB true (bys p)) = true := by
          rw [List.all_eq_true]
          intro p hp
          obtain ⟨j, hj⟩ := List.getElem?_of_mem hp
          exact hP.out j p (by have := (List.getElem?_eq_some_iff.1 hj).1; have := HL.out; omega) hj
        rw [this, Bool.and_true]
      have HNN := Lib.hid hnn
      clear hil hi hnn
      go_wp2
      go_ret
      exact ⟨by rw [HNN.out]; rfl, HB.out⟩
end Go.Proofs.YtghebjgkdfbmeaaGreatDoor
