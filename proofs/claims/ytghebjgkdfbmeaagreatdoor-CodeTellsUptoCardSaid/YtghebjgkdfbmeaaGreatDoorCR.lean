import Derived.Test.YtghebjgkdfbmeaaGreatDoorCU
set_option linter.unusedVariables false
set_option linter.unusedSimpArgs false
namespace Go.Proofs.YtghebjgkdfbmeaaGreatDoor
open Go.RowKit

/-! ### what is kept but for a set of blocks -/
structure Save (F : Nat → Prop) (w w' : World) : Prop where
  os : w'.os = w.os
  tape : w'.tape = w.tape
  output : w'.output = w.output
  size : w.heap.size ≤ w'.heap.size
  block : ∀ k, k < w.heap.size → ¬ F k → w'.heap[k]? = w.heap[k]?
theorem Save.refl (F : Nat → Prop) (w : World) : Save F w w := ⟨rfl, rfl, rfl, Nat.le_refl _, fun _ _ _ => rfl⟩
theorem Save.then {F : Nat → Prop} {a b c : World} (h : Save F a b) (k : Save F b c) : Save F a c :=
  ⟨k.os.trans h.os, k.tape.trans h.tape, k.output.trans h.output, Nat.le_trans h.size k.size, fun i hi hn => (k.block i (Nat.lt_of_lt_of_le hi h.size) hn).trans (h.block i hi hn)⟩
theorem Save.of_below {F : Nat → Prop} {w w' : World} (h : Below w.heap.size w w') : Save F w w' := ⟨h.os, h.tape, h.output, h.size, fun k hk _ => h.block k hk⟩
theorem Save.drewN {F : Nat → Prop} {a w : World} (h : Save F a w) (n : Nat) : Save F a (w.drewN n) := ⟨h.os, h.tape, h.output, h.size, h.block⟩
theorem Save.alloc {F : Nat → Prop} {a w : World} (h : Save F a w) (o : Obj) : Save F a (w.alloc o) := h.then (Save.of_below ((Below.refl _ _).alloc (Nat.le_refl _) _))
theorem Save.setCell {F : Nat → Prop} {a w : World} (h : Save F a w) {p : Addr} (hp : F p.block ∨ a.heap.size ≤ p.block) (u : Value) : Save F a (w.setCell p u) :=
  ⟨h.os, h.tape, h.output, by have := h.size; simp [World.setCell]; exact this, fun k hk hn => (Below.heap_setCell _ _ _ _ (fun e => by subst e; exact hp.elim hn (by omega))).trans (h.block k hk hn)⟩
theorem Save.step {F : Nat → Prop} {a w w' : World} (h : Save F a w) (hb : Below w.heap.size w w') : Save F a w' := h.then (Save.of_below hb)
/-- Where the set lies above a bound. -/
theorem Save.below {F : Nat → Prop} {B : Nat} {w w' : World} (h : Save F w w') (hF : ∀ k, F k → B ≤ k) (hB : B ≤ w.heap.size) : Below B w w' := ⟨h.os, h.tape, h.output, h.size, fun k hk => h.block k (by omega) (fun hf => by have := hF k hf; omega)⟩
theorem Blk.save {F : Nat → Prop} {w w' : World} {g : Nat} {t : TypeId} {cs : Array Value} (h : Blk w g t cs) (hb : Save F w w') (hF : ¬ F g) : Blk w' g t cs := (hb.block g h.lt hF).trans h
theorem PIn.save {B rb : Nat} {w w' : World} {t : Tm} {p : Option Addr} (h : PIn B w t p) (hb : Save (· = rb) w w') (hr : rb < B) : PIn B w' t p := h.same fun g hg hl => hb.block g hl (by omega)

/-! ### the document's reader -/
structure RS where
  s : ByteArray
  n : Nat
  e : Int
def RS.num (r : RS) : Int × RS := if r.e ≠ 0 then (0, r) else (((numS r.s).1 : Int), ⟨dropB r.s (numS r.s).2.1, r.n, (numS r.s).2.2⟩)
def rCells (r : RS) : Array Value := #[.string r.s, .int .i64 (r.n : Int), .int .i64 r.e]
/-- What a call on the reader leaves. -/
def RNumPost (rb : Nat) (r : RS) (w : World) (e : Ending) (w' : World) : Prop := e = .returned (.int .i64 r.num.1) ∧ Blk w' rb 55 (rCells r.num.2) ∧ Save (· = rb) w w'
theorem num_zero {r : RS} (h : r.e = 0) : r.num = (((numS r.s).1 : Int), ⟨dropB r.s (numS r.s).2.1, r.n, (numS r.s).2.2⟩) := by unfold RS.num; rw [if_neg (fun h' => h' h)]
theorem num_err {r : RS} (h : r.e ≠ 0) : r.num = (0, r) := by unfold RS.num; rw [if_pos h]

set_option maxHeartbeats 8000000 in
set_option maxRecDepth 100000 in
theorem rnum_any (rb : Nat) (r : RS) (w : World) (h : Blk w rb 55 (rCells r)) (hs : r.s.size ≤ 9223372036854775807) :
    Calls Tryz.prog 29 #[.pointer (some ⟨rb, 0, none⟩)] w (RNumPost rb r w) := by
  have c0 := h.cell 0
  have c2 := h.cell 2
  simp [rCells] at c0 c2
  by_cases h0 : r.e = 0
  · unfold RNumPost
    rw [num_zero h0]
    obtain ⟨s, n, e⟩ := r
    simp only at h0 hs c0 c2
    subst h0
    have ct := Lib.hid (rTake_any s hs w)
    unfold rTakePost at ct
    simp only
    generalize (numS s).1 = v at ct ⊢
    generalize dropB s (numS s).2.1 = rest at ct ⊢
    generalize (numS s).2.2 = er at ct ⊢
    have HBl := Lib.hid h
    clear h
    go_enter Tryz.func29, Tryz.ntmps29
    go_upto_region 4 with (go_at_call 46; (with_reducible refine ct.out.mono ?_); rintro e w1 ⟨rfl, hb⟩; have HB := Lib.hid hb; clear hb)
    have hB1 := HBl.out.below HB.out
    have x0 := hB1.cell 0
    have x1 := hB1.cell 1
    have x2 := hB1.cell 2
    have f0 := hB1.frozen 0
    have f2 := hB1.frozen 2
    have HB1 := Lib.hid hB1
    simp [rCells] at x0 x1 x2
    clear hB1 c0 c2
    go_wp2
    go_ret
    refine ⟨rfl, ?_, ((Save.of_below (F := fun k => k = rb) HB.out).setCell (.inl rfl) _).setCell (.inl rfl) _⟩
    exact (HB1.out.set_ 0 _).set_ 2 _
  · unfold RNumPost
    rw [num_err h0]
    have t0 : (r.e != 0) = true := by rw [bne, beq_eq_false_iff_ne.2 h0]; rfl
    have t0' : (r.e == 0) = false := beq_eq_false_iff_ne.2 h0
    have HBl := Lib.hid h
    clear h h0 hs
    go_enter Tryz.func29, Tryz.ntmps29
    go_wp2
    go_ret
    exact ⟨rfl, HBl.out, Save.refl _ _⟩

def leafStep (k : Int) (r : RS) : Int × ByteArray × RS :=
  if k = 3 then ((⟨(textR r.s 24).2.1, r.n, (textR r.s 24).2.2⟩ : RS).num.1, (textR r.s 24).1, (⟨(textR r.s 24).2.1, r.n, (textR r.s 24).2.2⟩ : RS).num.2)
  else if k = 1 ∨ k = 2 then (r.num.1, ⟨#[]⟩, r.num.2)
  else (0, ⟨#[]⟩, r)
def leafErr (k n : Int) (s : ByteArray) (r : RS) : RS := if r.e = 0 ∧ leafB k n s = false then ⟨r.s, r.n, 10⟩ else r
def partR (go : RS → Tm × RS) (p j : Int) (r : RS) : Tm × RS := if r.e = 0 ∧ j < p then go r else (.nil, r)
def rTerm : Nat → RS → Tm × RS
  | 0, r => (.nil, r)
  | f + 1, r =>
    if 3000 < r.n + 1 then (.nil, ⟨r.s, r.n + 1, 13⟩)
    else if (⟨r.s, r.n + 1, r.e⟩ : RS).num.2.e ≠ 0 then (.nil, (⟨r.s, r.n + 1, r.e⟩ : RS).num.2)
    else
      let k := (⟨r.s, r.n + 1, r.e⟩ : RS).num.1
      let l := leafStep k (⟨r.s, r.n + 1, r.e⟩ : RS).num.2
      let x := partR (rTerm f) (partsN k) 0 (leafErr k l.1 l.2.1 l.2.2)
      let y := partR (rTerm f) (partsN k) 1 x.2
      let z := partR (rTerm f) (partsN k) 2 y.2
      (.node k l.1 l.2.1 x.1 y.1 z.1, z.2)
theorem num_n (r : RS) : r.num.2.n = r.n := by unfold RS.num; split <;> rfl
theorem num_s (r : RS) : r.num.2.s.size ≤ r.s.size := by
  unfold RS.num
  split
  · exact Nat.le_refl _
  · show (dropB _ _).size ≤ _
    rw [dropB_size]
    omega
theorem textR_s (s : ByteArray) (m : Int) : (textR s m).2.1.size ≤ s.size := by
  unfold textR
  repeat' split
  all_goals first | exact Nat.le_refl _ | (simp only [dropB_size]; omega)
theorem leafStep_n (k : Int) (r : RS) : (leafStep k r).2.2.n = r.n := by
  unfold leafStep
  repeat' split
  · exact num_n _
  · exact num_n _
  · rfl
theorem leafStep_s (k : Int) (r : RS) : (leafStep k r).2.2.s.size ≤ r.s.size := by
  unfold leafStep
  repeat' split
  · exact Nat.le_trans (num_s _) (textR_s _ _)
  · exact num_s _
  · exact Nat.le_refl _
theorem textR_nm (s : ByteArray) (m : Int) : (textR s m).1.size ≤ s.size := by
  unfold textR
  repeat' split
  all_goals first | exact Nat.zero_le _ | (unfold takeB; rw [ByteArray.size_extract]; simp only [dropB_size]; omega)
theorem leafStep_nm (k : Int) (r : RS) : (leafStep k r).2.1.size ≤ r.s.size := by
  unfold leafStep
  repeat' split
  · exact textR_nm _ _
  · exact Nat.zero_le _
  · exact Nat.zero_le _
theorem leafErr_n (k n : Int) (s : ByteArray) (r : RS) : (leafErr k n s r).n = r.n := by unfold leafErr; split <;> rfl
theorem leafErr_s (k n : Int) (s : ByteArray) (r : RS) : (leafErr k n s r).s = r.s := by unfold leafErr; split <;> rfl
/-- What holds of a reader behind a step. -/
structure RS.Goes (r r' : RS) : Prop where
  n : r.n ≤ r'.n
  s : r'.s.size ≤ r.s.size
  e : r'.e = 0 → r'.n ≤ 3000
theorem partR_goes {go : RS → Tm × RS} {p j : Int} {r : RS} (hr : r.e = 0 → r.n ≤ 3000) (h : r.e = 0 → r.Goes (go r).2) : r.Goes (partR go p j r).2 := by
  unfold partR
  split
  · rename_i h1
    exact h h1.1
  · exact ⟨Nat.le_refl _, Nat.le_refl _, hr⟩
theorem RS.Goes.trans {a b c : RS} (h : a.Goes b) (k : b.Goes c) : a.Goes c := ⟨Nat.le_trans h.n k.n, Nat.le_trans k.s h.s, k.e⟩
theorem rTerm_goes : ∀ (f : Nat) (r : RS), r.e = 0 → r.n ≤ 3000 → r.Goes (rTerm f r).2
  | 0, r, _, hn => ⟨Nat.le_refl _, Nat.le_refl _, fun _ => hn⟩
  | f + 1, r, he, hn => by
    unfold rTerm
    by_cases h1 : 3000 < r.n + 1
    · rw [if_pos h1]
      exact ⟨Nat.le_succ _, Nat.le_refl _, fun h => (by cases h)⟩
    · rw [if_neg h1]
      by_cases h2 : (⟨r.s, r.n + 1, r.e⟩ : RS).num.2.e ≠ 0
      · rw [if_pos h2]
        refine ⟨?_, num_s _, fun h => absurd h h2⟩
        rw [num_n]
        exact Nat.le_succ _
      · rw [if_neg h2]
        simp only
        generalize (⟨r.s, r.n + 1, r.e⟩ : RS).num.1 = k
        have b0 : r.Goes (leafErr k (leafStep k (⟨r.s, r.n + 1, r.e⟩ : RS).num.2).1 (leafStep k (⟨r.s, r.n + 1, r.e⟩ : RS).num.2).2.1 (leafStep k (⟨r.s, r.n + 1, r.e⟩ : RS).num.2).2.2) := by
          refine ⟨?_, ?_, fun _ => ?_⟩
          · rw [leafErr_n, leafStep_n, num_n]; exact Nat.le_succ _
          · rw [leafErr_s]; exact Nat.le_trans (leafStep_s _ _) (num_s _)
          · rw [leafErr_n, leafStep_n, num_n]; show r.n + 1 ≤ 3000; omega
        generalize leafErr k _ _ _ = r3 at b0 ⊢
        have b1 := partR_goes (go := rTerm f) (p := partsN k) (j := 0) b0.e (fun h => rTerm_goes f _ h (b0.e h))
        generalize partR (rTerm f) (partsN k) 0 r3 = x at b1 ⊢
        have b2 := partR_goes (go := rTerm f) (p := partsN k) (j := 1) b1.e (fun h => rTerm_goes f _ h (b1.e h))
        generalize partR (rTerm f) (partsN k) 1 x.2 = y at b2 ⊢
        have b3 := partR_goes (go := rTerm f) (p := partsN k) (j := 2) b2.e (fun h => rTerm_goes f _ h (b2.e h))
        exact ((b0.trans b1).trans b2).trans b3
end Go.Proofs.YtghebjgkdfbmeaaGreatDoor
