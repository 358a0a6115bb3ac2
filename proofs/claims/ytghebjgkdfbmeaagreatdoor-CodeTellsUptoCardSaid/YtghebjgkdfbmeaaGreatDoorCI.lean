import Derived.Test.YtghebjgkdfbmeaaGreatDoorCA
import Derived.Test.YtghebjgkdfbmeaaGreatDoorCR
set_option linter.unusedVariables false
set_option linter.unusedSimpArgs false
namespace Go.Proofs.YtghebjgkdfbmeaaGreatDoor
open Go.RowKit

def qS (g : Nat) (pa pb pc : Option Addr) : Nat → World → Prop := fun q w' => match q with
  | 3 => w'.cell? ⟨g, 3, none⟩ = some (.pointer pa)
  | 4 => w'.cell? ⟨g, 4, none⟩ = some (.pointer pb)
  | 5 => w'.cell? ⟨g, 5, none⟩ = some (.pointer pc)
  | _ => True
theorem qS_of {g : Nat} {k n : Int} {s : ByteArray} {pa pb pc : Option Addr} {w' : World} {t : TypeId} (h : Blk w' g t (tmCells k n s pa pb pc)) (q : Nat) : qS g pa pb pc q w' := by
  match q with
  | 0 => exact trivial
  | 1 => exact trivial
  | 2 => exact trivial
  | 3 => exact h.cell 3
  | 4 => exact h.cell 4
  | 5 => exact h.cell 5
  | _ + 6 => exact trivial
theorem qS_far {g : Nat} {pa pb pc : Option Addr} {w : World} {q : Nat} {a : Addr} {u : Value} (hn : g ≠ a.block) (h : qS g pa pb pc q w) : qS g pa pb pc q (w.setCell a u) := by
  match q, h with
  | 0, _ => exact trivial
  | 1, _ => exact trivial
  | 2, _ => exact trivial
  | 3, h => exact (World.cell?_setCell_other w _ _ _ (fun e => hn (by rw [e]))).trans h
  | 4, h => exact (World.cell?_setCell_other w _ _ _ (fun e => hn (by rw [e]))).trans h
  | 5, h => exact (World.cell?_setCell_other w _ _ _ (fun e => hn (by rw [e]))).trans h
  | _ + 6, _ => exact trivial

set_option maxHeartbeats 16000000 in
set_option maxRecDepth 100000 in
theorem parts_any (g : Nat) (k n : Int) (s : ByteArray) (pa pb pc : Option Addr) (w : World) (h : Blk w g 46 (tmCells k n s pa pb pc)) :
    Calls Tryz.prog 51 #[.pointer (some ⟨g, 0, none⟩)] w (fun e w' => e = .returned (.agg #[.pointer pa, .pointer pb, .pointer pc]) ∧ Below w.heap.size w w') := by
  go_enter Tryz.func51, Tryz.ntmps51
  go_upto_region 1 with fail
  have HNE : Hid (g ≠ w.heap.size) := by have := h.lt; show _ ≠ _; omega
  have HX : Hid (Blk (w.alloc (.cells #[.pointer none, .pointer none, .pointer none] 63)).drew g 46 (tmCells k n s pa pb pc)) := h.alloc _
  have HZ : Hid (Blk (w.alloc (.cells #[.pointer none, .pointer none, .pointer none] 63)).drew w.heap.size 63 #[.pointer none, .pointer none, .pointer none]) := Blk.new w _ _
  have HB : Hid (Below w.heap.size w (w.alloc (.cells #[.pointer none, .pointer none, .pointer none] 63)).drew) := ((Below.refl _ _).alloc (Nat.le_refl _) _).drew
  clear h
  generalize (w.alloc (.cells #[.pointer none, .pointer none, .pointer none] 63)) = W1 at HX HZ HB ⊢
  refine wp_region_fam (S := (qS g pa pb pc)) (ds := (fun _ => [])) (by kernel_rfl) ?_
  refine wpFam_take (i := 0) 0 (some 3) (v := ?_) rfl (by kernel_rfl) (by kernel_rfl) (by kernel_rfl) (by kernel_rfl) (by kernel_rfl) (fun _ _ _ h => h) rfl (Or.inl ⟨by rfl, ?_⟩) (by exact trivial) ?_
  rotate_left
  · (intro w hSw; (try simp only [qS] at hSw); go_simp); (try with_reducible rfl)
  try simp only [Act.put, List.setIfInBounds_toArray, List.set_cons_zero, List.set_cons_succ]
  refine wpFam_take (i := 1) 0 (some 4) (v := ?_) rfl (by kernel_rfl) (by kernel_rfl) (by kernel_rfl) (by kernel_rfl) (by kernel_rfl) (fun _ _ _ h => h) rfl (Or.inl ⟨by rfl, ?_⟩) (by exact trivial) ?_
  rotate_left
  · (intro w hSw; (try simp only [qS] at hSw); go_simp); (try with_reducible rfl)
  try simp only [Act.put, List.setIfInBounds_toArray, List.set_cons_zero, List.set_cons_succ]
  refine wpFam_take (i := 2) 0 (some 5) (v := ?_) rfl (by kernel_rfl) (by kernel_rfl) (by kernel_rfl) (by kernel_rfl) (by kernel_rfl) (fun _ _ _ h => h) rfl (Or.inl ⟨by rfl, ?_⟩) (by exact trivial) ?_
  rotate_left
  · (intro w hSw; (try simp only [qS] at hSw); go_simp); (try with_reducible rfl)
  try simp only [Act.put, List.setIfInBounds_toArray, List.set_cons_zero, List.set_cons_succ]
  refine wpFam_take (i := 3) 3 (some 6) (v := ?_) rfl (by kernel_rfl) (by kernel_rfl) (by kernel_rfl) (by kernel_rfl) (by kernel_rfl) (fun _ _ _ h => h) rfl (Or.inl ⟨by rfl, ?_⟩) (by exact qS_of HX.out 3) ?_
  rotate_left
  · (intro w hSw; (try simp only [qS] at hSw); go_simp); (try with_reducible rfl)
  try simp only [Act.put, List.setIfInBounds_toArray, List.set_cons_zero, List.set_cons_succ]
  refine wpFam_take (i := 4) 0 (some 7) (v := ?_) rfl (by kernel_rfl) (by kernel_rfl) (by kernel_rfl) (by kernel_rfl) (by kernel_rfl) (fun _ _ _ h => h) rfl (Or.inl ⟨by rfl, ?_⟩) (by exact trivial) ?_
  rotate_left
  · (intro w hSw; (try simp only [qS] at hSw); go_simp); (try with_reducible rfl)
  try simp only [Act.put, List.setIfInBounds_toArray, List.set_cons_zero, List.set_cons_succ]
  refine wpFam_take (i := 5) 0 (some 8) (v := ?_) rfl (by kernel_rfl) (by kernel_rfl) (by kernel_rfl) (by kernel_rfl) (by kernel_rfl) (fun _ _ _ h => h) rfl (Or.inl ⟨by rfl, ?_⟩) (by exact trivial) ?_
  rotate_left
  · (intro w hSw; (try simp only [qS] at hSw); go_simp); (try with_reducible rfl)
  try simp only [Act.put, List.setIfInBounds_toArray, List.set_cons_zero, List.set_cons_succ]
  refine wpFam_take (i := 6) 0 (some 9) (v := ?_) rfl (by kernel_rfl) (by kernel_rfl) (by kernel_rfl) (by kernel_rfl) (by kernel_rfl) (fun _ _ _ h => h) rfl (Or.inl ⟨by rfl, ?_⟩) (by exact trivial) ?_
  rotate_left
  · (intro w hSw; (try simp only [qS] at hSw); go_simp); (try with_reducible rfl)
  try simp only [Act.put, List.setIfInBounds_toArray, List.set_cons_zero, List.set_cons_succ]
  refine wpFam_take (i := 7) 4 (some 10) (v := ?_) rfl (by kernel_rfl) (by kernel_rfl) (by kernel_rfl) (by kernel_rfl) (by kernel_rfl) (fun _ _ _ h => h) rfl (Or.inl ⟨by rfl, ?_⟩) (by exact qS_of HX.out 4) ?_
  rotate_left
  · (intro w hSw; (try simp only [qS] at hSw); go_simp); (try with_reducible rfl)
  try simp only [Act.put, List.setIfInBounds_toArray, List.set_cons_zero, List.set_cons_succ]
  refine wpFam_take (i := 8) 0 (some 11) (v := ?_) rfl (by kernel_rfl) (by kernel_rfl) (by kernel_rfl) (by kernel_rfl) (by kernel_rfl) (fun _ _ _ h => h) rfl (Or.inl ⟨by rfl, ?_⟩) (by exact trivial) ?_
  rotate_left
  · (intro w hSw; (try simp only [qS] at hSw); go_simp); (try with_reducible rfl)
  try simp only [Act.put, List.setIfInBounds_toArray, List.set_cons_zero, List.set_cons_succ]
  refine wpFam_take (i := 9) 0 (some 12) (v := ?_) rfl (by kernel_rfl) (by kernel_rfl) (by kernel_rfl) (by kernel_rfl) (by kernel_rfl) (fun _ _ _ h => h) rfl (Or.inl ⟨by rfl, ?_⟩) (by exact trivial) ?_
  rotate_left
  · (intro w hSw; (try simp only [qS] at hSw); go_simp); (try with_reducible rfl)
  try simp only [Act.put, List.setIfInBounds_toArray, List.set_cons_zero, List.set_cons_succ]
  refine wpFam_take (i := 10) 0 (some 13) (v := ?_) rfl (by kernel_rfl) (by kernel_rfl) (by kernel_rfl) (by kernel_rfl) (by kernel_rfl) (fun _ _ _ h => h) rfl (Or.inl ⟨by rfl, ?_⟩) (by exact trivial) ?_
  rotate_left
  · (intro w hSw; (try simp only [qS] at hSw); go_simp); (try with_reducible rfl)
  try simp only [Act.put, List.setIfInBounds_toArray, List.set_cons_zero, List.set_cons_succ]
  refine wpFam_take (i := 11) 5 (some 14) (v := ?_) rfl (by kernel_rfl) (by kernel_rfl) (by kernel_rfl) (by kernel_rfl) (by kernel_rfl) (fun _ _ _ h => h) rfl (Or.inl ⟨by rfl, ?_⟩) (by exact qS_of HX.out 5) ?_
  rotate_left
  · (intro w hSw; (try simp only [qS] at hSw); go_simp); (try with_reducible rfl)
  try simp only [Act.put, List.setIfInBounds_toArray, List.set_cons_zero, List.set_cons_succ]
  refine wpFam_take (i := 12) 0 (some 15) (v := ?_) rfl (by kernel_rfl) (by kernel_rfl) (by kernel_rfl) (by kernel_rfl) (by kernel_rfl) (fun _ _ _ h => h) rfl (Or.inl ⟨by rfl, ?_⟩) (by exact trivial) ?_
  rotate_left
  · (intro w hSw; (try simp only [qS] at hSw); go_simp); (try with_reducible rfl)
  try simp only [Act.put, List.setIfInBounds_toArray, List.set_cons_zero, List.set_cons_succ]
  refine wpFam_ready (rs := [13]) (by kernel_rfl) (by simp) ?_
  refine AllReadyF.cons (i := 13) rfl (fun K hK => ?_) ?_
  ·
    have HZ1 : Hid (Blk W1 w.heap.size 63 #[.pointer none, .pointer none, .pointer none]) := HZ.out
    have fr0 := HZ1.out.frozen 0
    have fr1 := HZ1.out.frozen 1
    have fr2 := HZ1.out.frozen 2
    have ck0 := HZ1.out.cell 0
    have ck1 := HZ1.out.cell 1
    have ck2 := HZ1.out.cell 2
    simp at ck0 ck1 ck2
    go_simp
    refine hK.out _ _ ?_ ?_
    · ((intro q _ h; exact qS_far HNE.out (qS_far HNE.out (qS_far HNE.out h))))
    clear hK K
    try simp only [Act.put, List.setIfInBounds_toArray, List.set_cons_zero, List.set_cons_succ]
    refine wpFam_done (by kernel_rfl) ?_ _
    have hfin := ((HZ1.out.set_ 0 (.pointer pa)).set_ 1 (.pointer pb)).set_ 2 (.pointer pc)
    have e0 := hfin.cell 0
    have e1 := hfin.cell 1
    have e2 := hfin.cell 2
    simp at e0 e1 e2
    go_wp2
    refine bodyPost_ret (v := .agg #[.pointer pa, .pointer pb, .pointer pc]) (by simp [results, Tryz.results51, go_sem, e0, e1, e2]) rfl ?_
    exact ⟨rfl, ((HB.out.setCell (Nat.le_refl _) _).setCell (Nat.le_refl _) _).setCell (Nat.le_refl _) _⟩
  exact AllReadyF.nil

/-! ### whether all nodes are right -/
def Tm.isNil : Tm → Bool
  | .nil => true
  | .node .. => false
def stepA (go : Nat → Bool × Nat) (i : Nat) (N : Int) (z : Bool) (x : Bool × Nat) : Bool × Nat :=
  if x.1 = true then (if (i : Int) < N then go x.2 else (z, x.2)) else (false, x.2)
def allF : Tm → Nat → Bool × Nat
  | .nil, m => (false, m)
  | .node k n s a b c, m => if m = 0 then (false, 0) else stepA (allF c) 2 (partsN k) c.isNil (stepA (allF b) 1 (partsN k) b.isNil (stepA (allF a) 0 (partsN k) a.isNil (leafB k n s, m - 1)))
def Tm.small : Tm → Prop
  | .nil => True
  | .node _ _ s a b c => s.size < 4294967281 ∧ a.small ∧ b.small ∧ c.small
theorem stepA_le {go : Nat → Bool × Nat} {i : Nat} {N : Int} {z : Bool} {x : Bool × Nat} (h : ∀ m, (go m).2 ≤ m) : (stepA go i N z x).2 ≤ x.2 := by
  unfold stepA
  repeat' split
  · exact h _
  · exact Nat.le_refl _
  · exact Nat.le_refl _
theorem allF_le : ∀ (t : Tm) (m : Nat), (allF t m).2 ≤ m
  | .nil, m => Nat.le_refl _
  | .node k n s a b c, m => by
    unfold allF
    split
    · exact Nat.zero_le _
    · exact Nat.le_trans (stepA_le (allF_le c)) (Nat.le_trans (stepA_le (allF_le b)) (Nat.le_trans (stepA_le (allF_le a)) (Nat.sub_le _ _)))
theorem PIn.tag {B lb : Nat} {w w' : World} {T : TypeId} {cs : Array Value} (hl : Blk w lb T cs) (hT : T ≠ 46) (hs : Save (· = lb) w w') : ∀ {t : Tm} {p : Option Addr}, PIn B w t p → PIn B w' t p
  | .nil, _, h => h
  | .node _ _ _ _ _ _, _, ⟨g, pa, pb, pc, e, hB, hb, h1, h2, h3⟩ =>
    ⟨g, pa, pb, pc, e, hB, hb.save hs (fun e => by
      have e' : g = lb := e
      subst e'
      unfold Blk at hb hl
      rw [hl] at hb
      injection hb with hb
      injection hb with _ hb
      exact hT hb), h1.tag hl hT hs, h2.tag hl hT hs, h3.tag hl hT hs⟩
theorem MaxV.save {lb : Nat} {w w' : World} (h : MaxV w) (hs : Save (· = lb) w w') (hn : 1 ≠ lb) : MaxV w' := by
  obtain ⟨m, hm⟩ := h
  refine ⟨m, ?_⟩
  have hlt : 1 < w.heap.size := by
    rcases Nat.lt_or_ge 1 w.heap.size with h' | h'
    · exact h'
    · simp [World.cell?, Array.getElem?_eq_none h'] at hm
  exact (World.cell?_of_block (w := w) (a := ⟨1, 0, none⟩) (hs.block _ hlt hn)).trans hm
def AllPost (lb : Nat) (x : Bool × Nat) (w : World) (e : Ending) (w' : World) : Prop := e = .returned (.bool x.1) ∧ Blk w' lb 3 #[.int .i64 (x.2 : Int)] ∧ Save (· = lb) w w'
def restA (k : Int) (a b c : Tm) : Nat → Bool × Nat → Bool × Nat
  | 0, x => stepA (allF c) 2 (partsN k) c.isNil (stepA (allF b) 1 (partsN k) b.isNil (stepA (allF a) 0 (partsN k) a.isNil x))
  | 1, x => stepA (allF c) 2 (partsN k) c.isNil (stepA (allF b) 1 (partsN k) b.isNil x)
  | 2, x => stepA (allF c) 2 (partsN k) c.isNil x
  | _, x => x
theorem partsN_cases (k : Int) : partsN k = 0 ∨ partsN k = 2 ∨ partsN k = 3 := by
  unfold partsN
  repeat' split
  · exact .inr (.inl rfl)
  · exact .inr (.inr rfl)
  · exact .inl rfl

set_option maxRecDepth 100000 in
theorem index3 (pa pb pc : Option Addr) (w : World) : (Instr.index 63 (.agg #[.pointer pa, .pointer pb, .pointer pc]) (.int .i64 0)).run Tryz.prog w = .ok (.pointer pa) w ∧
    (Instr.index 63 (.agg #[.pointer pa, .pointer pb, .pointer pc]) (.int .i64 1)).run Tryz.prog w = .ok (.pointer pb) w ∧
    (Instr.index 63 (.agg #[.pointer pa, .pointer pb, .pointer pc]) (.int .i64 2)).run Tryz.prog w = .ok (.pointer pc) w := by
  exact ⟨by kernel_rfl, by kernel_rfl, by kernel_rfl⟩

set_option maxHeartbeats 32000000 in
set_option maxRecDepth 100000 in
theorem isAll_any : ∀ (t : Tm) (p : Option Addr) (B m lb : Nat) (w : World), PIn B w t p → t.small → Blk w lb 3 #[.int .i64 (m : Int)] → m ≤ 3000 → MaxV w → 1 ≠ lb →
    Calls Tryz.prog 33 #[.pointer p, .pointer (some ⟨lb, 0, none⟩)] w (AllPost lb (allF t m) w)
  | .nil, p, B, m, lb, w, hp, _, hl, _, _, _ => by
    obtain rfl : p = none := hp
    have HBk := Lib.hid hl
    clear hl
    go_enter Tryz.func33, Tryz.ntmps33
    go_wp2
    go_ret
    exact ⟨rfl, HBk.out, Save.refl _ _⟩
  | .node k n s a b c, p, B, m, lb, w, hp, hsm, hl, hm, hmx, hg => by
    have iha := Lib.hid (fun p B m lb w h1 h2 h3 h4 h5 h6 => isAll_any a p B m lb w h1 h2 h3 h4 h5 h6)
    have ihb := Lib.hid (fun p B m lb w h1 h2 h3 h4 h5 h6 => isAll_any b p B m lb w h1 h2 h3 h4 h5 h6)
    have ihc := Lib.hid (fun p B m lb w h1 h2 h3 h4 h5 h6 => isAll_any c p B m lb w h1 h2 h3 h4 h5 h6)
    obtain ⟨g, pa, pb, pc, rfl, hgB, hb, h1, h2, h3⟩ := hp
    obtain ⟨hs, hsa, hsb, hsc⟩ := hsm
    have c0 := hl.cell 0
    simp at c0
    by_cases h0 : m = 0
    · subst h0
      have HBk := Lib.hid hl
      have he : allF (.node k n s a b c) 0 = (false, 0) := by unfold allF; rw [if_pos rfl]
      rw [he]
      clear he hl hm
      go_enter Tryz.func33, Tryz.ntmps33
      go_wp2
      go_ret
      exact ⟨rfl, HBk.out, Save.refl _ _⟩
    have t0 : ((m : Int) == 0) = false := beq_eq_false_iff_ne.2 (by omega)
    obtain ⟨m1, rfl⟩ : ∃ m1, m = m1 + 1 := ⟨m - 1, by omega⟩
    have hms : (((m1 + 1 : Nat) : Int) - 1) = (m1 : Int) := by omega
    have hms' : ((m1 : Int) + 1 - 1) = (m1 : Int) := by omega
    have he : allF (.node k n s a b c) (m1 + 1) = restA k a b c 0 (leafB k n s, m1) := by
      conv => lhs; unfold allF
      rw [if_neg h0]
      rfl
    rw [he]
    have f0 := hl.frozen 0
    have hm1 : m1 ≤ 3000 := by omega
    have hne : g ≠ lb := by
      rintro rfl
      unfold Blk at hb hl
      rw [hl] at hb
      injection hb with hb
      injection hb with _ hb
      exact absurd hb (by decide)
    have HBk := Lib.hid hb
    have HL := Lib.hid hl
    have HPS := Lib.hid (And.intro h1 (And.intro h2 h3))
    have HSM := Lib.hid (And.intro hs (And.intro hsa (And.intro hsb hsc)))
    have HMX := Lib.hid (And.intro hmx hg)
    clear he h0 hb hl h1 h2 h3 hs hsa hsb hsc hmx hg hgB hm
    go_enter Tryz.func33, Tryz.ntmps33
    go_upto_region 4 with fail
    have hL1 : Blk (w.setCell ⟨lb, 0, none⟩ (.int .i64 (m1 : Int))) lb 3 #[.int .i64 (m1 : Int)] := HL.out.set_ 0 _
    have hS1 : Save (· = lb) w (w.setCell ⟨lb, 0, none⟩ (.int .i64 (m1 : Int))) := (Save.refl (fun x => x = lb) w).setCell (.inl rfl) _
    have hB1 : Blk (w.setCell ⟨lb, 0, none⟩ (.int .i64 (m1 : Int))) g 46 (tmCells k n s pa pb pc) := HBk.out.far (by show g ≠ lb; exact hne) _
    generalize (w.setCell ⟨lb, 0, none⟩ (.int .i64 (m1 : Int))) = W1 at hL1 hS1 hB1 ⊢
    have co := Lib.hid (own_any g k n s pa pb pc W1 hB1 HSM.out.1 (HMX.out.1.save hS1 HMX.out.2))
    unfold OwnPost at co
    have HL1 := Lib.hid hL1
    have HS1 := Lib.hid hS1
    have HB1 := Lib.hid hB1
    clear hL1 hS1 hB1 c0 t0 hms hms' f0 hne
    generalize hN : partsN k = N at co
    have hNb : N = 0 ∨ N = 2 ∨ N = 3 := by rw [← hN]; exact partsN_cases k
    have HN := Lib.hid hN
    clear hN
    generalize hlf : leafB k n s = lf at co
    have HLF := Lib.hid hlf
    clear hlf
    go_upto_region 6 with (first
      | (go_at_call 50; (with_reducible refine co.out.mono ?_); rintro e w2 ⟨rfl, hb⟩; have cp := Lib.hid (parts_any g k n s pa pb pc w2 (HB1.out.below hb)); have HB2 := Lib.hid hb; clear hb)
      | (go_at_call 51; (with_reducible refine cp.out.mono ?_); rintro e w3 ⟨rfl, hb⟩; have HB3 := Lib.hid hb; clear hb))
    have HW3 : Hid (Below W1.heap.size W1 w3) := below_step' HB2.out HB3.out
    have HL3 : Hid (Blk w3 lb 3 #[.int .i64 (m1 : Int)]) := HL1.out.below HW3.out
    have HS3 : Hid (Save (· = lb) w w3) := HS1.out.step HW3.out
    clear HB2 HB3 co cp
    go_loopg [6, 29] 3 (fun kq v6 v29 wr => ∃ (i : Nat) (x : Bool × Nat), v6 = .bool x.1 ∧ v29 = .int .i64 (i : Int) ∧ i + kq = 3 ∧ x.2 ≤ 3000 ∧ Hid (Blk wr lb 3 #[.int .i64 (x.2 : Int)]) ∧ Hid (Save (· = lb) w wr) ∧ Hid (restA k a b c i x = restA k a b c 0 (lf, m1)))
    case atStart => exact ⟨0, (lf, m1), rfl, rfl, by omega, hm1, HL3, HS3, rfl⟩
    case round =>
      clear HL3 HS3 HW3 HB1 HL1 HS1
      obtain ⟨i, ⟨ok, mm⟩, rfl, rfl, hik, hmm, HLr, HSr, HR⟩ := hrel
      obtain ⟨hx0, hx1, hx2⟩ := index3 pa pb pc wr
      simp only at hmm
      match i, hik with
      | 0, hik =>
        obtain ⟨k', rfl⟩ : ∃ k', gk = k' + 1 := ⟨gk - 1, by omega⟩
        cases ok
        · have hr : restA k a b c 1 (false, mm) = restA k a b c 0 (lf, m1) := HR.out
          have HR2 := Lib.hid hr
          clear hr HR
          go_wp2
          go_roundg k'
          case measure => omega
          case rel => exact ⟨1, (false, mm), rfl, by go_num, by omega, hmm, HLr, HSr, HR2.out⟩
        · by_cases hlt : ((0 : Nat) : Int) < N
          · have t1 : decide ((0 : Int) < N) = true := decide_eq_true hlt
            have t2 : decide (N ≤ (0 : Int)) = false := decide_eq_false (by omega)
            have hr : restA k a b c 1 (allF a mm) = restA k a b c 0 (lf, m1) := by
              rw [← HR.out]
              show _ = restA k a b c 1 (stepA (allF a) 0 (partsN k) a.isNil (true, mm))
              unfold stepA
              rw [if_pos rfl, HN.out, if_pos hlt]
            have HR2 := Lib.hid hr
            have hle := allF_le a mm
            have cq := Lib.hid (iha.out pa B mm lb wr (HPS.out.1.tag HL.out (by decide) HSr.out) HSM.out.2.1 HLr.out hmm (HMX.out.1.save HSr.out HMX.out.2) HMX.out.2)
            unfold AllPost at cq
            generalize allF a mm = y at cq HR2 hle
            clear hr HR hlt
            go_wp2_with (go_at_call 33; (with_reducible refine cq.out.mono ?_); rintro e w5 ⟨rfl, hl, hs⟩; have HL5 := Lib.hid hl; have HS5 := Lib.hid (HSr.out.then hs); clear hl hs)
            go_roundg k'
            case measure => omega
            case rel => exact ⟨1, y, rfl, by go_num, by omega, by omega, HL5, HS5, HR2.out⟩
          · have t1 : decide ((0 : Int) < N) = false := decide_eq_false hlt
            have t2 : decide (N ≤ (0 : Int)) = true := decide_eq_true (by omega)
            have hr : restA k a b c 1 (a.isNil, mm) = restA k a b c 0 (lf, m1) := by
              rw [← HR.out]
              show _ = restA k a b c 1 (stepA (allF a) 0 (partsN k) a.isNil (true, mm))
              unfold stepA
              rw [if_pos rfl, HN.out, if_neg hlt]
            have HR2 := Lib.hid hr
            have hz := (HPS.out.1).nil_iff
            have HZ := Lib.hid hz
            clear hr HR hlt hz
            cases pa with
            | none =>
              have hq : a.isNil = true := by rw [HZ.out.1 rfl]; rfl
              have HQ := Lib.hid hq
              clear hq
              go_wp2
              go_roundg k'
              case measure => omega
              case rel => exact ⟨1, (true, mm), rfl, by go_num, by omega, hmm, HLr, HSr, by have := HR2.out; rw [HQ.out] at this; exact this⟩
            | some ad =>
              have hq : a.isNil = false := by
                cases hc : a with
                | nil => exact absurd (HZ.out.2 hc) (by simp)
                | node => rfl
              have HQ := Lib.hid hq
              clear hq
              go_wp2
              go_roundg k'
              case measure => omega
              case rel => exact ⟨1, (false, mm), rfl, by go_num, by omega, hmm, HLr, HSr, by have := HR2.out; rw [HQ.out] at this; exact this⟩
      | 1, hik =>
        obtain ⟨k', rfl⟩ : ∃ k', gk = k' + 1 := ⟨gk - 1, by omega⟩
        cases ok
        · have hr : restA k a b c 2 (false, mm) = restA k a b c 0 (lf, m1) := HR.out
          have HR2 := Lib.hid hr
          clear hr HR
          go_wp2
          go_roundg k'
          case measure => omega
          case rel => exact ⟨2, (false, mm), rfl, by go_num, by omega, hmm, HLr, HSr, HR2.out⟩
        · by_cases hlt : ((1 : Nat) : Int) < N
          · have t1 : decide ((1 : Int) < N) = true := decide_eq_true hlt
            have t2 : decide (N ≤ (1 : Int)) = false := decide_eq_false (by omega)
            have hr : restA k a b c 2 (allF b mm) = restA k a b c 0 (lf, m1) := by
              rw [← HR.out]
              show _ = restA k a b c 2 (stepA (allF b) 1 (partsN k) b.isNil (true, mm))
              unfold stepA
              rw [if_pos rfl, HN.out, if_pos hlt]
            have HR2 := Lib.hid hr
            have hle := allF_le b mm
            have cq := Lib.hid (ihb.out pb B mm lb wr (HPS.out.2.1.tag HL.out (by decide) HSr.out) HSM.out.2.2.1 HLr.out hmm (HMX.out.1.save HSr.out HMX.out.2) HMX.out.2)
            unfold AllPost at cq
            generalize allF b mm = y at cq HR2 hle
            clear hr HR hlt
            go_wp2_with (go_at_call 33; (with_reducible refine cq.out.mono ?_); rintro e w5 ⟨rfl, hl, hs⟩; have HL5 := Lib.hid hl; have HS5 := Lib.hid (HSr.out.then hs); clear hl hs)
            go_roundg k'
            case measure => omega
            case rel => exact ⟨2, y, rfl, by go_num, by omega, by omega, HL5, HS5, HR2.out⟩
          · have t1 : decide ((1 : Int) < N) = false := decide_eq_false hlt
            have t2 : decide (N ≤ (1 : Int)) = true := decide_eq_true (by omega)
            have hr : restA k a b c 2 (b.isNil, mm) = restA k a b c 0 (lf, m1) := by
              rw [← HR.out]
              show _ = restA k a b c 2 (stepA (allF b) 1 (partsN k) b.isNil (true, mm))
              unfold stepA
              rw [if_pos rfl, HN.out, if_neg hlt]
            have HR2 := Lib.hid hr
            have hz := (HPS.out.2.1).nil_iff
            have HZ := Lib.hid hz
            clear hr HR hlt hz
            cases pb with
            | none =>
              have hq : b.isNil = true := by rw [HZ.out.1 rfl]; rfl
              have HQ := Lib.hid hq
              clear hq
              go_wp2
              go_roundg k'
              case measure => omega
              case rel => exact ⟨2, (true, mm), rfl, by go_num, by omega, hmm, HLr, HSr, by have := HR2.out; rw [HQ.out] at this; exact this⟩
            | some ad =>
              have hq : b.isNil = false := by
                cases hc : b with
                | nil => exact absurd (HZ.out.2 hc) (by simp)
                | node => rfl
              have HQ := Lib.hid hq
              clear hq
              go_wp2
              go_roundg k'
              case measure => omega
              case rel => exact ⟨2, (false, mm), rfl, by go_num, by omega, hmm, HLr, HSr, by have := HR2.out; rw [HQ.out] at this; exact this⟩
      | 2, hik =>
        obtain ⟨k', rfl⟩ : ∃ k', gk = k' + 1 := ⟨gk - 1, by omega⟩
        cases ok
        · have hr : restA k a b c 3 (false, mm) = restA k a b c 0 (lf, m1) := HR.out
          have HR2 := Lib.hid hr
          clear hr HR
          go_wp2
          go_roundg k'
          case measure => omega
          case rel => exact ⟨3, (false, mm), rfl, by go_num, by omega, hmm, HLr, HSr, HR2.out⟩
        · by_cases hlt : ((2 : Nat) : Int) < N
          · have t1 : decide ((2 : Int) < N) = true := decide_eq_true hlt
            have t2 : decide (N ≤ (2 : Int)) = false := decide_eq_false (by omega)
            have hr : restA k a b c 3 (allF c mm) = restA k a b c 0 (lf, m1) := by
              rw [← HR.out]
              show _ = restA k a b c 3 (stepA (allF c) 2 (partsN k) c.isNil (true, mm))
              unfold stepA
              rw [if_pos rfl, HN.out, if_pos hlt]
            have HR2 := Lib.hid hr
            have hle := allF_le c mm
            have cq := Lib.hid (ihc.out pc B mm lb wr (HPS.out.2.2.tag HL.out (by decide) HSr.out) HSM.out.2.2.2 HLr.out hmm (HMX.out.1.save HSr.out HMX.out.2) HMX.out.2)
            unfold AllPost at cq
            generalize allF c mm = y at cq HR2 hle
            clear hr HR hlt
            go_wp2_with (go_at_call 33; (with_reducible refine cq.out.mono ?_); rintro e w5 ⟨rfl, hl, hs⟩; have HL5 := Lib.hid hl; have HS5 := Lib.hid (HSr.out.then hs); clear hl hs)
            go_roundg k'
            case measure => omega
            case rel => exact ⟨3, y, rfl, by go_num, by omega, by omega, HL5, HS5, HR2.out⟩
          · have t1 : decide ((2 : Int) < N) = false := decide_eq_false hlt
            have t2 : decide (N ≤ (2 : Int)) = true := decide_eq_true (by omega)
            have hr : restA k a b c 3 (c.isNil, mm) = restA k a b c 0 (lf, m1) := by
              rw [← HR.out]
              show _ = restA k a b c 3 (stepA (allF c) 2 (partsN k) c.isNil (true, mm))
              unfold stepA
              rw [if_pos rfl, HN.out, if_neg hlt]
            have HR2 := Lib.hid hr
            have hz := (HPS.out.2.2).nil_iff
            have HZ := Lib.hid hz
            clear hr HR hlt hz
            cases pc with
            | none =>
              have hq : c.isNil = true := by rw [HZ.out.1 rfl]; rfl
              have HQ := Lib.hid hq
              clear hq
              go_wp2
              go_roundg k'
              case measure => omega
              case rel => exact ⟨3, (true, mm), rfl, by go_num, by omega, hmm, HLr, HSr, by have := HR2.out; rw [HQ.out] at this; exact this⟩
            | some ad =>
              have hq : c.isNil = false := by
                cases hc : c with
                | nil => exact absurd (HZ.out.2 hc) (by simp)
                | node => rfl
              have HQ := Lib.hid hq
              clear hq
              go_wp2
              go_roundg k'
              case measure => omega
              case rel => exact ⟨3, (false, mm), rfl, by go_num, by omega, hmm, HLr, HSr, by have := HR2.out; rw [HQ.out] at this; exact this⟩
      | 3, hik =>
        obtain rfl : gk = 0 := by omega
        have HR2 := HR
        clear HR
        go_wp2
        go_ret
        refine ⟨?_, ?_, HSr.out⟩
        · rw [HLF.out, ← HR2.out]
          rfl
        · rw [HLF.out, ← HR2.out]
          exact HLr.out
      | i + 4, hik => omega
end Go.Proofs.YtghebjgkdfbmeaaGreatDoor

