import Derived.Test.YtjincmagbbpooaaGreatDoorJN
import Derived.Test.YtjincmagbbpooaaGreatDoorJT
set_option linter.unusedVariables false
set_option linter.unusedSimpArgs false
namespace Go.Proofs.YtjincmagbbpooaaGreatDoor
open Go.RowKit

theorem framesB_fit (m : Nat) (hm : m ≤ 1000) (turn : Nat) (ht : turn ≤ 4000) : ∀ (rs : List ByteArray) (k : Nat), k + rs.length ≤ 1000000 → (∀ r ∈ rs, r.size ≤ m) → (framesB turn k rs).size ≤ rs.length * (m + 20)
  | [], k, _, _ => by simp [framesB, ByteArray.size]
  | r :: rs, k, hk, h => by
    have h1 := framesB_fit m hm turn ht rs (k + 1) (by simp only [List.length_cons] at hk; omega) (fun x hx => h x (List.mem_cons_of_mem _ hx))
    have h2 := h r (List.mem_cons_self ..)
    have h3 := wrapS_size (turn * 1000000 + k) r (by simp only [List.length_cons] at hk; omega) (by omega)
    unfold framesB
    rw [ByteArray.size_append, List.length_cons, Nat.add_mul]
    omega
theorem Format_good (B : Nat) (w : World) (p : Nat) (D D' : DS) (hd : D.done < 1099510000000) (hD : D.format.1 = D') (hc : D.format.2 = 0) (h : Own B w p D) :
    Calls Tryz.prog 10 #[.pointer (some ⟨p, 0, none⟩)] w fun e w' => e = .returned .nilIface ∧ Below B w w' ∧ Own B w' p D' := by
  subst hD
  refine (Format_own B w p D h hd).mono ?_
  rintro e w' ⟨he, hb⟩
  rw [hc] at he
  exact ⟨he, hb⟩
theorem jOpen_good (B : Nat) (p : Nat) (D : DS) (J : JS) (rs : List ByteArray) (G : Good D J rs) (hd : D.done < 1099510000000) (w : World) (hg : ErrVar w) (hgB : 0 < B) (h : Own B w p D) :
    Calls Tryz.prog 9 #[.pointer (some ⟨p, 0, none⟩)] w fun e w' => ∃ q v, e = .returned (.tuple #[.pointer (some ⟨q, 0, none⟩), v, .nilIface]) ∧ Below B w w' ∧ One B w' p q D J ∧ w'.ownsRow w.heap.size 9 1 v rs.length (strsV rs) := by
  refine (jOpen_own B w p D h hg hgB hd (by rw [G.newest]; have := G.turn2; show J.turn ≤ _; omega)).mono ?_
  rintro e w' ⟨hb, ho, hr⟩
  rw [G.opens] at ho hr
  rcases hr with ⟨h0, -⟩ | ⟨-, q, v, he, h1, h2⟩
  · exact absurd rfl h0
  · exact ⟨q, v, he, hb, h1, h2⟩
theorem jOpen_set (H : Nat → Prop) (p : Nat) (D : DS) (J : JS) (rs : List ByteArray) (G : Good D J rs) (hd : D.done < 1099510000000) (w : World) (hH : ∀ k, H k → k < w.heap.size) (hg : ErrVar w) (hgH : ¬ H 0) (h : Dsk w H p D) :
    Calls Tryz.prog 9 #[.pointer (some ⟨p, 0, none⟩)] w fun e w' => ∃ q v, e = .returned (.tuple #[.pointer (some ⟨q, 0, none⟩), v, .nilIface]) ∧ Save H w w' ∧ Blk w' q 87 (jCells p J) ∧ w.heap.size ≤ q ∧ w'.ownsRow w.heap.size 9 1 v rs.length (strsV rs) ∧
      ∃ G : Nat → Prop, Dsk w' G p D ∧ (∀ k, G k → H k ∨ (w.heap.size ≤ k ∧ k < w'.heap.size)) ∧ (∀ g, v.ownBlock = some g → ¬ G g) ∧ ¬ G q := by
  refine (jOpen_any H p D w h hg hH hgH (cell_lt hg) hd (by rw [G.newest]; have := G.turn2; show J.turn ≤ _; omega)).mono ?_
  rintro e w' ⟨hp, hr⟩
  rw [G.opens] at hp hr
  rcases hr with ⟨h0, -⟩ | ⟨-, q, v, he, hq, hblk, hrow, hG⟩
  · exact absurd rfl h0
  · exact ⟨q, v, he, hp.1, hblk, hq, hrow, hG⟩
theorem jAdd_good (B : Nat) (p : Nat) (D D' : DS) (J J' : JS) (rs : List ByteArray) (r : ByteArray) (G : Good D J rs) (hr : r.size ≤ 1000) (hd : D.done < 1099510000000) (he : addJ D J r = (D', J', 0)) (w : World) (q : Nat) (hg : ErrVar w) (hgB : 0 < B) (h : One B w p q D J) :
    Calls Tryz.prog 27 #[.pointer (some ⟨q, 0, none⟩), .string r] w fun e w' => e = .returned .nilIface ∧ Below B w w' ∧ One B w' p q D' J' := by
  have hh := half_le G.ok
  refine (jAdd_own B w p q D J r h hg hgB (by have := G.four; omega) (by have := G.turn2; omega) G.which (by rw [G.n]; have := G.few; omega) (by have := G.fits; omega) hr hd).mono ?_
  rw [he]
  exact fun e w' h => h
theorem jSync_good (B : Nat) (p : Nat) (D D' : DS) (J : JS) (he : syncJ D J = (D', J, 0)) (w : World) (q : Nat) (h : One B w p q D J) :
    Calls Tryz.prog 15 #[.pointer (some ⟨q, 0, none⟩)] w fun e w' => e = .returned .nilIface ∧ Below B w w' ∧ One B w' p q D' J := by
  refine (jSync_own B w p q D J h).mono ?_
  rw [he]
  exact fun e w' h => h
theorem jLen_good (B : Nat) (p q : Nat) (D : DS) (J : JS) (w : World) (n : Int) (hn : (J.n : Int) = n) (h : One B w p q D J) :
    Calls Tryz.prog 22 #[.pointer (some ⟨q, 0, none⟩)] w fun e w' => e = .returned (.int .i64 n) ∧ w = w' := by
  subst hn
  exact jLen_any q p J w h.2.1
theorem format_three : (newD 3).format = (newD 3, 14) := by
  unfold DS.format
  rw [if_pos (by decide)]
theorem newD_len (n : Nat) : (newD n).sure.length = n := by simp [newD]
theorem own_one {w : World} {base : Nat} {v : Value} {s : ByteArray} (h : w.ownsRow base 9 1 v 1 [.string s]) : ∃ g c, v = .slice (some ⟨g, 0, none⟩) 1 c ∧ w.cell? ⟨g, 0, none⟩ = some (.string s) := by
  obtain ⟨g, c, rfl, -⟩ := h.form (by decide)
  exact ⟨g, c, rfl, h.cellAt 0 (by decide)⟩

set_option maxHeartbeats 16000000 in
set_option maxRecDepth 100000 in
theorem known4_any (w : World) (he : ErrVar w) : Calls Tryz.prog 7 #[] w (fun e w' => e = .returned (.bool true) ∧ Below w.heap.size w w') := by
  obtain ⟨f1, G1, L1, lo1, l1, d1⟩ := format_good (new_live 20 (by decide) (by decide)) (by rw [newD_len]; decide) (by show 0 < _; decide)
  have d0 : (newD 20).done = 0 := rfl
  rw [newD_len] at l1
  rw [d0] at d1
  have cf := Lib.hid (fun B w p => Format_good B w p (newD 20) _ (by show 0 < _; decide) rfl f1)
  generalize (newD 20).format.1 = D1 at *
  have hh1 : D1.half = 9 := by unfold DS.half; rw [l1]
  obtain ⟨D2, e2, G2, L2, s2, d2⟩ := add_good (r := ⟨#[97, 98]⟩) G1 L1 (by decide) (by have := framesB_fit 2 (by decide) J0.turn (by decide) [⟨#[97, 98]⟩] 0 (by decide) (by decide); rw [hh1]; exact Nat.le_trans this (by decide)) (by decide) (by omega)
  have l2 : D2.sure.length = 20 := by rw [s2]; exact l1
  have hh2 : D2.half = 9 := by unfold DS.half; rw [l2]
  obtain ⟨e3, G3, L3, lo3, d3, l3⟩ := sync_good G2 L2
  have c1 := Lib.hid (fun B p w hg hgB h => jOpen_good B p D1 _ [] G1 (by omega) w hg hgB h)
  have c2 := Lib.hid (fun B p w q hg hgB h => jAdd_good B p D1 D2 _ _ [] ⟨#[97, 98]⟩ G1 (by decide) (by omega) e2 w q hg hgB h)
  have c3 := Lib.hid (fun B p w q h => jSync_good B p D2 _ _ e3 w q h)
  generalize D2.flush = D3 at *
  generalize hJ1 : (JS.mk J0.turn J0.which (framesB J0.turn 0 ([] ++ [⟨#[97, 98]⟩])) (([] : List ByteArray).length + 1) false) = J1 at *
  have t1 : J1.turn = 1 := by rw [← hJ1]; rfl
  clear hJ1
  obtain ⟨D4, e4, G4, L4, s4, d4⟩ := add_good (r := ⟨#[99, 100]⟩) G3 L3 (by decide) (by have := framesB_fit 2 (by decide) J1.turn (by rw [t1]; decide) [⟨#[97, 98]⟩, ⟨#[99, 100]⟩] 0 (by decide) (by decide); rw [half_eq l3, hh2]; exact Nat.le_trans this (by decide)) (by decide) (by omega)
  have G5 := crash_back (E := D4) G3 lo3 G4.ok s4 (-1)
  have c4 := Lib.hid (fun B p w q hg hgB h => jAdd_good B p D3 D4 _ _ _ ⟨#[99, 100]⟩ G3 (by decide) (by omega) e4 w q hg hgB h)
  generalize hJ2 : (JS.mk J1.turn J1.which (framesB J1.turn 0 ([] ++ [⟨#[97, 98]⟩] ++ [⟨#[99, 100]⟩])) (([] ++ [(⟨#[97, 98]⟩ : ByteArray)]).length + 1) false) = J2 at *
  have n2 : (J2.n : Int) = 2 := by rw [← hJ2]; rfl
  have c5 := Lib.hid (fun B p w q h => jLen_good B p q D4 J2 w 2 n2 h)
  clear hJ2 n2
  have d5 : (D4.crash (keepOf []) (-1)).done = D4.done := rfl
  have c6 := Lib.hid (fun B p w h => Crash_own B w p D4 none 0 0 [] (-1) _ rfl (by decide) rfl (fun j x h => by simp at h) (fun h => by simp at h) h)
  have c7 := Lib.hid (fun B p w hg hgB h => jOpen_good B p _ _ _ G5 (by rw [d5]; omega) w hg hgB h)
  have c8 := Lib.hid (fun B w p h => Format_own B w p (newD 3) h (by show 0 < _; decide))
  rw [format_three] at c8
  simp only [errV_ne (show (14 : Int) ≠ 0 by decide)] at c8
  clear e2 e3 e4 G1 G2 G3 G4 G5 L1 L2 L3 L4
  generalize D4.crash (keepOf []) (-1) = D5 at *
  have HV := Lib.hid he
  have HL := Lib.hid (cell_lt he)
  clear he d0 d1 d2 d3 d4 d5 l1 l2 l3 s2 s4 lo1 lo3 hh1 hh2 f1 t1
  have en1 := Lib.hid (fun W => New_own W 20 20 (by decide) (by decide) (by decide))
  have en2 := Lib.hid (fun W => New_own W 3 3 (by decide) (by decide) (by decide))
  have hab : ((⟨#[97, 98]⟩ : ByteArray).toList == [97, 98]) = true := by rw [ByteArray.toList_eq]; rfl
  go_enter Tryz.func7, Tryz.ntmps7
  go_upto_region 6 with (first
    | (go_at_call 8; (with_reducible refine (en1.out _).mono ?_); rintro e w1 ⟨p, rfl, hb, ho⟩; have HB1 := Lib.hid hb; have HO1 := Lib.hid ho; clear hb ho)
    | (go_at_call 10; (with_reducible refine (cf.out _ _ _ HO1.out).mono ?_); rintro e w2 ⟨rfl, hb, ho⟩; have HB2 := Lib.hid (HB1.out.trans hb); have HO2 := Lib.hid ho; clear hb ho)
    | (go_at_call 9; (with_reducible refine (c1.out _ _ _ (errv_own HV.out HB2.out HL.out) HL.out HO2.out).mono ?_); rintro e w3 ⟨q, v, rfl, hb, ho, hr⟩; have HB3 := Lib.hid (HB2.out.trans hb); have HO3 := Lib.hid ho; obtain ⟨va, vc, rfl⟩ := own_len hr; clear hb ho hr))
  go_wp2_with (first
    | (go_at_call 27; (with_reducible refine (c2.out _ _ _ _ (errv_own HV.out HB3.out HL.out) HL.out HO3.out).mono ?_); rintro e w4 ⟨rfl, hb, ho⟩; have HB4 := Lib.hid (HB3.out.trans hb); have HO4 := Lib.hid ho; clear hb ho)
    | (go_at_call 15; (with_reducible refine (c3.out _ _ _ _ HO4.out).mono ?_); rintro e w5 ⟨rfl, hb, ho⟩; have HB5 := Lib.hid (HB4.out.trans hb); have HO5 := Lib.hid ho; clear hb ho)
    | (go_at_call 27; (with_reducible refine (c4.out _ _ _ _ (errv_own HV.out HB5.out HL.out) HL.out HO5.out).mono ?_); rintro e w6 ⟨rfl, hb, ho⟩; have HB6 := Lib.hid (HB5.out.trans hb); have HO6 := Lib.hid ho; clear hb ho)
    | (go_at_call 22; (with_reducible refine (c5.out _ _ _ _ HO6.out).mono ?_); rintro e w7 ⟨rfl, rfl⟩)
    | (go_at_call 18; (with_reducible refine (c6.out _ _ _ HO6.out.own).mono ?_); rintro e w8 ⟨rfl, hb, ho⟩; have HB8 := Lib.hid (HB6.out.trans hb); have HO8 := Lib.hid ho; clear hb ho)
    | (go_at_call 9; (with_reducible refine (c7.out _ _ _ (errv_own HV.out HB8.out HL.out) HL.out HO8.out).mono ?_); rintro e w9 ⟨q2, v2, rfl, hb, ho, hr⟩; obtain ⟨g2, k2, rfl, hcell⟩ := own_one hr; have HB9 := Lib.hid (HB8.out.trans hb); have HO9 := Lib.hid ho; clear hb ho hr)
    | (go_at_call 8; (with_reducible refine (en2.out _).mono ?_); rintro e wa ⟨pa, rfl, hb, ho⟩; have HBa := Lib.hid (below_step HB9.out hb); have HOa := Lib.hid ho; have HWa := Lib.hid hb.size; clear hb ho)
    | (go_at_call 10; (with_reducible refine (c8.out _ _ _ HOa.out).mono ?_); rintro e wb ⟨rfl, hb, ho⟩; have HBb := Lib.hid (HBa.out.trans (hb.mono HB9.out.size)); clear hb ho)
    | (go_at_call 12; (with_reducible refine (is_yes 14 _).mono ?_); rintro e wc ⟨rfl, rfl⟩))
  go_ret
  exact ⟨rfl, HBb.out⟩
end Go.Proofs.YtjincmagbbpooaaGreatDoor
