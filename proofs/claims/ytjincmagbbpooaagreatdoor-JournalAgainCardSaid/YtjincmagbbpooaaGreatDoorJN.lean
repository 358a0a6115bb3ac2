import Derived.Test.YtjincmagbbpooaaGreatDoorJL
set_option linter.unusedVariables false
set_option linter.unusedSimpArgs false
namespace Go.Proofs.YtjincmagbbpooaaGreatDoor
open Go.RowKit

/-! ### one disk and its journal, from block B on -/
def One (B : Nat) (w : World) (p q : Nat) (D : DS) (J : JS) : Prop := Dsk w (fun k => B ≤ k ∧ k < w.heap.size ∧ k ≠ q) p D ∧ Blk w q 87 (jCells p J) ∧ B ≤ q
section
variable {B : Nat} {w w' : World} {p q : Nat} {D D' : DS} {J J' : JS}
theorem One.ok (h : One B w p q D J) : D.ok := Dsk.ok h.1
theorem One.lt (h : One B w p q D J) : q < w.heap.size := h.2.1.lt
theorem One.base (h : One B w p q D J) : B ≤ w.heap.size := by have := h.lt; have := h.2.2; omega
theorem One.own (h : One B w p q D J) : Own B w p D := h.1.mono fun k hk hp => ⟨hp.1, hk⟩
theorem One.off (h : One B w p q D J) : ¬ (fun k => B ≤ k ∧ k < w.heap.size ∧ k ≠ q) q := fun h => h.2.2 rfl
theorem One.of_own (h : Own B w p D) (hq : Blk w q 87 (jCells p J)) (hB : B ≤ q) : One B w p q D J := by
  refine ⟨?_, hq, hB⟩
  obtain ⟨g, lv, hd, h1, h2, h3⟩ := h
  refine ⟨g, lv, hd, ⟨h1.1, h1.2, fun e => ?_⟩, ⟨h2.1, h2.2, fun e => ?_⟩, fun k hk => ⟨(h3 k hk).1, (h3 k hk).2, fun e => ?_⟩⟩
  · exact hq.ne_ hd.own (by decide) e.symm
  · exact hq.ne_ hd.row (by decide) e.symm
  · exact own_blk_ne hd.loose hq (by decide) (by rw [hk, e])
theorem JPost.one (h : JPost (fun k => B ≤ k ∧ k < w.heap.size ∧ k ≠ q) p q w D' J' w') (hB : B ≤ q) (hq : q < w.heap.size) : Below B w w' ∧ One B w' p q D' J' := by
  obtain ⟨hs, hd, hb⟩ := h
  refine ⟨⟨hs.os, hs.tape, hs.output, hs.size, fun k hk => hs.block k (by omega) (fun h => ?_)⟩, hd.mono fun k hk hp => ?_, hb, hB⟩
  · rcases h with h | h
    · omega
    · omega
  · rcases hp with hp | hp
    · exact ⟨hp.1, hk, hp.2.2⟩
    · exact ⟨by omega, hk, by omega⟩
theorem DskPost.one (h : DskPost (fun k => B ≤ k ∧ k < w.heap.size ∧ k ≠ q) p w D' w') (ho : One B w p q D J) : Below B w w' ∧ One B w' p q D' J := by
  have hj : JPost (fun k => B ≤ k ∧ k < w.heap.size ∧ k ≠ q) p q w D J w := JPost.start ho.1 ho.2.1
  have h2 : DskPost (Plus (fun k => B ≤ k ∧ k < w.heap.size ∧ k ≠ q) w w) p w D' w' := ⟨h.1.mono fun k hk hp => .inl hp, h.2.mono fun k hk hp => hp.elim (fun h => .inl (.inl h)) .inr⟩
  exact (hj.disk ho.off ho.lt h2).one ho.2.2 ho.lt
theorem One.below (h : One B w p q D J) (hb : Below w.heap.size w w') : One B w' p q D J :=
  ⟨(h.1.below hb).mono fun k hk hp => ⟨hp.1, hk, hp.2.2⟩, h.2.1.below hb, h.2.2⟩
theorem errv_own (h : ErrVar w) (hb : Below B w w') (hB : 0 < B) : ErrVar w' := (World.cell?_of_block (hb.block _ hB)).trans h
end

theorem Format_own (B : Nat) (w : World) (p : Nat) (D : DS) (h : Own B w p D) (hd : D.done < 1099510000000) :
    Calls Tryz.prog 10 #[.pointer (some ⟨p, 0, none⟩)] w fun e w' => e = .returned (errV D.format.2) ∧ Below B w w' ∧ Own B w' p D.format.1 :=
  (Format_any _ p D w h hd).mono fun e w' ⟨he, hp⟩ => ⟨he, hp.own h.base⟩
/-- What Open leaves. -/
def JOpened (B : Nat) (p : Nat) (R : DS × Int × JS × List ByteArray) (w : World) (e : Ending) (w' : World) : Prop :=
  Below B w w' ∧ Own B w' p R.1 ∧ ((R.2.1 ≠ 0 ∧ e = .returned (.tuple #[.pointer none, .slice none 0 0, errV R.2.1])) ∨
    (R.2.1 = 0 ∧ ∃ q v, e = .returned (.tuple #[.pointer (some ⟨q, 0, none⟩), v, .nilIface]) ∧ One B w' p q R.1 R.2.2.1 ∧ w'.ownsRow w.heap.size 9 1 v R.2.2.2.length (strsV R.2.2.2)))
theorem jOpen_own (B : Nat) (w : World) (p : Nat) (D : DS) (h : Own B w p D) (hg : ErrVar w) (hgB : 0 < B) (hd : D.done < 1099510000000) (ht : D.newest.1 ≤ 1000000) :
    Calls Tryz.prog 9 #[.pointer (some ⟨p, 0, none⟩)] w (JOpened B p D.opens w) := by
  refine (jOpen_any _ p D w h hg (fun k hk => hk.2) (fun h => by have := h.1; omega) (cell_lt hg) hd ht).mono ?_
  rintro e w' ⟨hp, hr⟩
  have hB := h.base
  obtain ⟨hb, ho⟩ := hp.own hB
  refine ⟨hb, ho, hr.imp_right ?_⟩
  rintro ⟨h0, q, v, he, hq, hblk, hrow, -⟩
  exact ⟨h0, q, v, he, One.of_own ho hblk (by omega), hrow⟩
theorem jAdd_own (B : Nat) (w : World) (p q : Nat) (D : DS) (J : JS) (r : ByteArray) (h : One B w p q D J) (hg : ErrVar w) (hgB : 0 < B) (h2 : 2 ≤ D.sure.length) (ht : J.turn ≤ 4000) (hwh : J.which ≤ 1) (hnn : J.n ≤ 100000) (hb : J.b.size ≤ 1000000) (hr : r.size ≤ 1000) (hd : D.done < 1099510000000) :
    Calls Tryz.prog 27 #[.pointer (some ⟨q, 0, none⟩), .string r] w fun e w' => e = .returned (errV (addJ D J r).2.2) ∧ Below B w w' ∧ One B w' p q (addJ D J r).1 (addJ D J r).2.1 :=
  (jAdd_any _ p q D J r w h.1 h.2.1 h.off hg (fun h => by have := h.1; omega) h2 ht hwh hnn hb hr hd).mono fun e w' ⟨he, hp⟩ => ⟨he, hp.one h.2.2 h.lt⟩
theorem jSync_own (B : Nat) (w : World) (p q : Nat) (D : DS) (J : JS) (h : One B w p q D J) :
    Calls Tryz.prog 15 #[.pointer (some ⟨q, 0, none⟩)] w fun e w' => e = .returned (errV (syncJ D J).2.2) ∧ Below B w w' ∧ One B w' p q (syncJ D J).1 (syncJ D J).2.1 :=
  (jSync_any _ p q D J w h.1 h.2.1 h.off).mono fun e w' ⟨he, hp⟩ => ⟨he, hp.one h.2.2 h.lt⟩
theorem jCompact_own (B : Nat) (w : World) (p q : Nat) (D : DS) (J : JS) (a : Option Addr) (cap : Nat) (rs : List ByteArray) (h : One B w p q D J) (hg : ErrVar w) (hgB : 0 < B) (h2 : 2 ≤ D.sure.length) (ht : J.turn ≤ 3000) (hwh : J.which ≤ 1) (hl : rs.length ≤ 100) (hs : ∀ r ∈ rs, r.size ≤ 1000) (ha : SlOf mkS w a rs) (hd : D.done < 1099510000000) :
    Calls Tryz.prog 17 #[.pointer (some ⟨q, 0, none⟩), .slice a rs.length cap] w fun e w' => e = .returned (errV (compactJ D J rs).2.2) ∧ Below B w w' ∧ One B w' p q (compactJ D J rs).1 (compactJ D J rs).2.1 :=
  (jCompact_any _ p q D J a cap rs w h.1 h.2.1 h.off hg (fun h => by have := h.1; omega) h2 ht hwh hl hs ha hd).mono fun e w' ⟨he, hp⟩ => ⟨he, hp.one h.2.2 h.lt⟩
theorem Cut_one (B : Nat) (w : World) (p q : Nat) (D : DS) (J : JS) (k : Int) (hk : k ≤ 9223372036854775807) (h : One B w p q D J) :
    Calls Tryz.prog 16 #[.pointer (some ⟨p, 0, none⟩), .int .i64 k] w fun e w' => e = .returned (.tuple #[]) ∧ Below B w w' ∧ One B w' p q (D.cut k) J :=
  (Cut_any w _ p D k hk h.1).mono fun e w' ⟨he, hp⟩ => ⟨he, hp.one h⟩
end Go.Proofs.YtjincmagbbpooaaGreatDoor
