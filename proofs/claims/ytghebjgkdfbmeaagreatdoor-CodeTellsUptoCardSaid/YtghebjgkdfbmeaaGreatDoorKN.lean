import Derived.Test.YtghebjgkdfbmeaaGreatDoorPX
import Derived.Test.YtghebjgkdfbmeaaGreatDoorCL2
import Derived.Test.YtghebjgkdfbmeaaGreatDoorCSS
set_option linter.unusedVariables false
set_option linter.unusedSimpArgs false
namespace Go.Proofs.YtghebjgkdfbmeaaGreatDoor
open Go.RowKit

theorem pRead_back (t : Tm) (more : ByteArray) (hg : goodT t = true) (hn : sizeT t ≤ 3000) : pRead (bytesT t ++ more) = (t, more, 0) := by
  have h := pTerm_back t 3001 0 more hg (by omega) (by omega)
  unfold pRead
  rw [h]
  rfl
theorem good_all {t : Tm} (hg : goodT t = true) (hn : sizeT t ≤ 3000) : (allF t 3000).1 = true := (allF_spec t 3000).1.2 ⟨hg, hn⟩
/-- code.Bytes of a right term. -/
theorem Bytes_good (t : Tm) (p : Option Addr) (B : Nat) (w : World) (hp : PIn B w t p) (hg : goodT t = true) (hn : sizeT t ≤ 3000) (hm : MaxV w) :
    Calls Tryz.prog 8 #[.pointer p] w (fun e w' => e = .returned (.string (bytesT t)) ∧ Below w.heap.size w w') := by
  have h := Bytes_any t p B w hp (good_ok t hg).2 hm (fun _ => ⟨(good_ok t hg).1, hn⟩)
  rw [if_pos (good_all hg hn)] at h
  exact h
theorem Bytes_nil (w : World) (hm : MaxV w) : Calls Tryz.prog 8 #[.pointer none] w (fun e w' => e = .returned (.string ⟨#[]⟩) ∧ Below w.heap.size w w') := by
  have h := Bytes_any .nil none 0 w rfl trivial hm (fun h => by cases h)
  rw [if_neg (by decide)] at h
  exact h
theorem Read_good (t : Tm) (more : ByteArray) (hg : goodT t = true) (hn : sizeT t ≤ 3000) (hs : (bytesT t ++ more).size ≤ 9223372036854775807) (w : World) (he : ErrVar w) (hm : MaxV w) :
    Calls Tryz.prog 6 #[.string (bytesT t ++ more)] w (fun e w' => ∃ p, e = .returned (.tuple #[.pointer p, .string more, .nilIface]) ∧ PIn w.heap.size w' t p ∧ Below w.heap.size w w') := by
  have h := Read_any (bytesT t ++ more) hs w he hm
  rw [pRead_back t more hg hn] at h
  exact h
/-! ### terms that are made, by what they are -/
def NewPost (B : Nat) (t : Tm) (w : World) (e : Ending) (w' : World) : Prop := ∃ p, e = .returned (.pointer p) ∧ PIn B w' t p ∧ Below w.heap.size w w'
theorem new_post {w w' : World} {e : Ending} {B : Nat} {k n : Int} {s : ByteArray} {a b c : Tm} {pa pb pc : Option Addr} (ha : PIn B w a pa) (hb : PIn B w b pb) (hc : PIn B w c pc) (hB : B ≤ w.heap.size)
    (h : e = .returned (.pointer (some ⟨w.heap.size, 0, none⟩)) ∧ w' = w.alloc (.cells (tmCells k n s pa pb pc) 46)) : NewPost B (.node k n s a b c) w e w' := by
  obtain ⟨rfl, rfl⟩ := h
  exact ⟨_, rfl, PIn.new ha hb hc k n s hB, (Below.refl _ _).alloc (Nat.le_refl _) _⟩
theorem nilIn (B : Nat) (w : World) : PIn B w .nil none := rfl
theorem Sort_p (n : Int) (B : Nat) (w : World) (hB : B ≤ w.heap.size) : Calls Tryz.prog 14 #[.int .i64 n] w (NewPost B (.node 1 n ⟨#[]⟩ .nil .nil .nil) w) := (Sort_any n w).mono fun _ _ h => new_post (nilIn B w) (nilIn B w) (nilIn B w) hB h
theorem Const_p (s : ByteArray) (B : Nat) (w : World) (hB : B ≤ w.heap.size) : Calls Tryz.prog 13 #[.string s] w (NewPost B (.node 3 0 s .nil .nil .nil) w) := (Const_any s w).mono fun _ _ h => new_post (nilIn B w) (nilIn B w) (nilIn B w) hB h
theorem Pi_p (a b : Tm) (pa pb : Option Addr) (B : Nat) (w : World) (ha : PIn B w a pa) (hb : PIn B w b pb) (hB : B ≤ w.heap.size) : Calls Tryz.prog 12 #[.pointer pa, .pointer pb] w (NewPost B (.node 4 0 ⟨#[]⟩ a b .nil) w) := (Pi_any pa pb w).mono fun _ _ h => new_post ha hb (nilIn B w) hB h
def T0 : Tm := .node 4 0 ⟨#[]⟩ (.node 3 0 ⟨#[97]⟩ .nil .nil .nil) (.node 1 2 ⟨#[]⟩ .nil .nil .nil) .nil
theorem T0_good : goodT T0 = true := by decide +kernel
theorem e11 : (pTerm 3001 ⟨⟨#[]⟩, 0, 0⟩).2.e = 11 := by decide +kernel
theorem e10 : (pTerm 3001 ⟨⟨#[9]⟩, 0, 0⟩).2.e = 10 := by decide +kernel
theorem pRead_e : pRead ⟨#[]⟩ = (.nil, ⟨#[]⟩, 11) := by unfold pRead; rw [e11, if_pos (by decide)]
theorem pRead_9 : pRead ⟨#[9]⟩ = (.nil, ⟨#[9]⟩, 10) := by unfold pRead; rw [e10, if_pos (by decide)]

theorem Read_bad (s : ByteArray) (c : Int) (hc : c ≠ 0) (hs : s.size ≤ 9223372036854775807) (h : pRead s = (.nil, s, c)) (w : World) (he : ErrVar w) (hm : MaxV w) :
    Calls Tryz.prog 6 #[.string s] w (fun e w' => e = .returned (.tuple #[.pointer none, .string s, .iface 40 (.int .i64 c)]) ∧ Below w.heap.size w w') := by
  have h1 := Read_any s hs w he hm
  rw [h] at h1
  refine h1.mono fun e w' ⟨p, h2, h3, h4⟩ => ⟨?_, h4⟩
  obtain rfl : p = none := h3
  rw [h2]
  simp only [errV_ne hc]

set_option maxHeartbeats 16000000 in
set_option maxRecDepth 100000 in
theorem known8_any (w : World) (he : ErrVar w) (hm : MaxV w) : Calls Tryz.prog 4 #[] w (fun e w' => e = .returned (.bool true) ∧ Below w.heap.size w w') := by
  have hsz := bytesT_size T0 (good_ok T0 T0_good).1
  have hs0 : sizeT T0 ≤ 3000 := by decide
  have hs1 : (bytesT T0).size ≤ 600 := Nat.le_trans hsz (by decide)
  have cr := Lib.hid (fun W h1 h2 => Read_good T0 ⟨#[120]⟩ T0_good hs0 (by rw [ByteArray.size_append]; have : (⟨#[120]⟩ : ByteArray).size = 1 := rfl; omega) W h1 h2)
  have ce := Lib.hid (fun W h1 h2 => Read_bad ⟨#[]⟩ 11 (by decide) (by decide) pRead_e W h1 h2)
  have c9 := Lib.hid (fun W h1 h2 => Read_bad ⟨#[9]⟩ 10 (by decide) (by decide) pRead_9 W h1 h2)
  have cb := Lib.hid (fun p B W hp h => Bytes_good T0 p B W hp T0_good hs0 h)
  generalize bytesT T0 = b0 at cr cb hs1
  have n1 : ¬ 9223372036854775807 < b0.size + 1 := by omega
  have n2 : b0.size + 1 ≤ 9223372036854775807 := by omega
  have HV := Lib.hid (And.intro he hm)
  clear hsz he hm
  go_enter Tryz.func4, Tryz.ntmps4
  go_upto_region 5 with (first
    | (go_at_call 13; refine (Const_p _ w.heap.size _ (Nat.le_refl _)).mono ?_; rintro e w1 ⟨p1, rfl, hp1, hb1⟩; have HB1 := Lib.hid hb1; have HP1 := Lib.hid hp1; clear hb1 hp1)
    | (go_at_call 14; refine (Sort_p _ w.heap.size _ HB1.out.size).mono ?_; rintro e w2 ⟨p2, rfl, hp2, hb2⟩; have HP1b := Lib.hid (HP1.out.below hb2); have HB2 := Lib.hid (below_step' HB1.out hb2); have HP2 := Lib.hid hp2; clear hb2 hp2)
    | (go_at_call 12; refine (Pi_p _ _ _ _ w.heap.size _ HP1b.out HP2.out HB2.out.size).mono ?_; rintro e w3 ⟨p3, rfl, hp3, hb3⟩; have HB3 := Lib.hid (below_step' HB2.out hb3); have HP3 : Hid (PIn w.heap.size w3 T0 p3) := Lib.hid hp3; clear hb3 hp3)
    | (go_at_call 8; (with_reducible refine (cb.out _ _ _ HP3.out (HV.out.2.below HB3.out)).mono ?_); rintro e w4 ⟨rfl, hb⟩; have HP4 := Lib.hid (HP3.out.below hb); have HB4 := Lib.hid (below_step' HB3.out hb); clear hb)
    | (go_at_call 6; (with_reducible refine (cr.out _ (ErrVar.below HV.out.1 HB4.out) (HV.out.2.below HB4.out)).mono ?_); rintro e w5 ⟨p5, rfl, hp, hb⟩; have HP5 := Lib.hid (HP4.out.below hb); have HQ5 := Lib.hid hp; have HB5 := Lib.hid (below_step' HB4.out hb); clear hb hp)
    | (go_at_call 6; (with_reducible refine (ce.out _ (ErrVar.below HV.out.1 HB5.out) (HV.out.2.below HB5.out)).mono ?_); rintro e w6 ⟨rfl, hb⟩; have HP6 := Lib.hid (HP5.out.below hb); have HQ6 := Lib.hid (HQ5.out.below hb); have HB6 := Lib.hid (below_step' HB5.out hb); clear hb)
    | (go_at_call 6; (with_reducible refine (c9.out _ (ErrVar.below HV.out.1 HB6.out) (HV.out.2.below HB6.out)).mono ?_); rintro e w7 ⟨rfl, hb⟩; have HP7 := Lib.hid (HP6.out.below hb); have HQ7 := Lib.hid (HQ6.out.below hb); have HB7 := Lib.hid (below_step' HB6.out hb); clear hb))
  have cs := Lib.hid (Same_any T0 T0 p3 p5 w.heap.size w4.heap.size w7 HP7.out HQ7.out)
  unfold Quiet at cs
  rw [sameT_rfl] at cs
  have hx : ((⟨#[120]⟩ : ByteArray).toList == [120]) = true := by rw [ByteArray.toList_eq]; rfl
  go_wp2_with (first
    | (go_at_call 10; (with_reducible refine cs.out.mono ?_); rintro e w8 ⟨rfl, m, hm⟩; have hb8 : Below w7.heap.size w7 w8 := (by rw [hm]; exact below_drewN' _ _); have HB8 := Lib.hid (below_step' HB7.out hb8); clear hm hb8)
    | (go_at_call 15; refine (is_yes _ _).mono ?_; rintro e w9 ⟨rfl, rfl⟩)
    | (go_at_call 8; refine (Bytes_nil _ (HV.out.2.below HB8.out)).mono ?_; rintro e w10 ⟨rfl, hb⟩; have HB10 := Lib.hid (below_step' HB8.out hb); clear hb))
  go_ret
  exact ⟨rfl, HB10.out⟩
end Go.Proofs.YtghebjgkdfbmeaaGreatDoor
