import Derived.Test.YtjincmagbbpooaaGreatDoorM17
import Derived.Test.YtjincmagbbpooaaGreatDoorRF

section
set_option linter.unusedVariables false
set_option linter.unusedSimpArgs false
namespace Go.Proofs.YtjincmagbbpooaaGreatDoor
open Go.RowKit

/-! ### one disk and its journal, from block B on -/
def One (B : Nat) (w : World) (p q : Nat) (D : DS) (J : JS) : Prop := Dsk w (fun k => B ≤ k ∧ k < w.heap.size ∧ k ≠ q) p D ∧ Blk w q 87 (jCells p J) ∧ B ≤ q
section
variable {B : Nat} {w w' : World} {p q : Nat} {D D' : DS} {J J' : JS}
theorem One.ok (h : One B w p q D J) : D.ok := Dsk.ok h.1
theorem One.lt (h : One B w p q D J) : q < w.heap.size := h.2.1.lt
theorem One.base (h : One B w p q D J) : B ≤ w.heap.size := by have := h.lt; have := h.2.2; omega
theorem One.own (h : One B w p q D J) : Own B w p D := h.1.mono fun k hk hp => ⟨hp.1, hk⟩
theorem One.off (h : One B w p q D J) : ¬ (fun k => B ≤ k ∧ k < w.heap.size ∧ k ≠ q) q := fun h => h.2.2 rfl
theorem One.of_own (h : Own B w p D) (hq : Blk w q 87 (jCells p J)) (hB : B ≤ q) : One B w p q D J := by
  refine ⟨?_, hq, hB⟩
  obtain ⟨g, lv, hd, h1, h2, h3⟩ := h
  refine ⟨g, lv, hd, ⟨h1.1, h1.2, fun e => ?_⟩, ⟨h2.1, h2.2, fun e => ?_⟩, fun k hk => ⟨(h3 k hk).1, (h3 k hk).2, fun e => ?_⟩⟩
  · exact hq.ne_ hd.own (by decide) e.symm
  · exact hq.ne_ hd.row (by decide) e.symm
  · exact own_blk_ne hd.loose hq (by decide) (by rw [hk, e])
theorem JPost.one (h : JPost (fun k => B ≤ k ∧ k < w.heap.size ∧ k ≠ q) p q w D' J' w') (hB : B ≤ q) (hq : q < w.heap.size) : Below B w w' ∧ One B w' p q D' J' := by
  obtain ⟨hs, hd, hb⟩ := h
  refine ⟨⟨hs.os, hs.tape, hs.output, hs.size, fun k hk => hs.block k (by omega) (fun h => ?_)⟩, hd.mono fun k hk hp => ?_, hb, hB⟩
  · rcases h with h | h
    · omega
    · omega
  · rcases hp with hp | hp
    · exact ⟨hp.1, hk, hp.2.2⟩
    · exact ⟨by omega, hk, by omega⟩
theorem DskPost.one (h : DskPost (fun k => B ≤ k ∧ k < w.heap.size ∧ k ≠ q) p w D' w') (ho : One B w p q D J) : Below B w w' ∧ One B w' p q D' J := by
  have hj : JPost (fun k => B ≤ k ∧ k < w.heap.size ∧ k ≠ q) p q w D J w := JPost.start ho.1 ho.2.1
  have h2 : DskPost (Plus (fun k => B ≤ k ∧ k < w.heap.size ∧ k ≠ q) w w) p w D' w' := ⟨h.1.mono fun k hk hp => .inl hp, h.2.mono fun k hk hp => hp.elim (fun h => .inl (.inl h)) .inr⟩
  exact (hj.disk ho.off ho.lt h2).one ho.2.2 ho.lt
theorem One.below (h : One B w p q D J) (hb : Below w.heap.size w w') : One B w' p q D J :=
  ⟨(h.1.below hb).mono fun k hk hp => ⟨hp.1, hk, hp.2.2⟩, h.2.1.below hb, h.2.2⟩
theorem errv_own (h : ErrVar w) (hb : Below B w w') (hB : 0 < B) : ErrVar w' := (World.cell?_of_block (hb.block _ hB)).trans h
end

theorem Format_own (B : Nat) (w : World) (p : Nat) (D : DS) (h : Own B w p D) (hd : D.done < 1099510000000) :
    Calls Tryz.prog 10 #[.pointer (some ⟨p, 0, none⟩)] w fun e w' => e = .returned (errV D.format.2) ∧ Below B w w' ∧ Own B w' p D.format.1 :=
  (Format_any _ p D w h hd).mono fun e w' ⟨he, hp⟩ => ⟨he, hp.own h.base⟩
/-- What Open leaves. -/
def JOpened (B : Nat) (p : Nat) (R : DS × Int × JS × List ByteArray) (w : World) (e : Ending) (w' : World) : Prop :=
  Below B w w' ∧ Own B w' p R.1 ∧ ((R.2.1 ≠ 0 ∧ e = .returned (.tuple #[.pointer none, .slice none 0 0, errV R.2.1])) ∨
    (R.2.1 = 0 ∧ ∃ q v, e = .returned (.tuple #[.pointer (some ⟨q, 0, none⟩), v, .nilIface]) ∧ One B w' p q R.1 R.2.2.1 ∧ w'.ownsRow w.heap.size 9 1 v R.2.2.2.length (strsV R.2.2.2)))
theorem jOpen_own (B : Nat) (w : World) (p : Nat) (D : DS) (h : Own B w p D) (hg : ErrVar w) (hgB : 0 < B) (hd : D.done < 1099510000000) (ht : D.newest.1 ≤ 1000000) :
    Calls Tryz.prog 9 #[.pointer (some ⟨p, 0, none⟩)] w (JOpened B p D.opens w) := by
  refine (jOpen_any _ p D w h hg (fun k hk => hk.2) (fun h => by have := h.1; omega) (cell_lt hg) hd ht).mono ?_
  rintro e w' ⟨hp, hr⟩
  have hB := h.base
  obtain ⟨hb, ho⟩ := hp.own hB
  refine ⟨hb, ho, hr.imp_right ?_⟩
  rintro ⟨h0, q, v, he, hq, hblk, hrow, -⟩
  exact ⟨h0, q, v, he, One.of_own ho hblk (by omega), hrow⟩
theorem jAdd_own (B : Nat) (w : World) (p q : Nat) (D : DS) (J : JS) (r : ByteArray) (h : One B w p q D J) (hg : ErrVar w) (hgB : 0 < B) (h2 : 2 ≤ D.sure.length) (ht : J.turn ≤ 4000) (hwh : J.which ≤ 1) (hnn : J.n ≤ 100000) (hb : J.b.size ≤ 1000000) (hr : r.size ≤ 1000) (hd : D.done < 1099510000000) :
    Calls Tryz.prog 27 #[.pointer (some ⟨q, 0, none⟩), .string r] w fun e w' => e = .returned (errV (addJ D J r).2.2) ∧ Below B w w' ∧ One B w' p q (addJ D J r).1 (addJ D J r).2.1 :=
  (jAdd_any _ p q D J r w h.1 h.2.1 h.off hg (fun h => by have := h.1; omega) h2 ht hwh hnn hb hr hd).mono fun e w' ⟨he, hp⟩ => ⟨he, hp.one h.2.2 h.lt⟩
theorem jSync_own (B : Nat) (w : World) (p q : Nat) (D : DS) (J : JS) (h : One B w p q D J) :
    Calls Tryz.prog 15 #[.pointer (some ⟨q, 0, none⟩)] w fun e w' => e = .returned (errV (syncJ D J).2.2) ∧ Below B w w' ∧ One B w' p q (syncJ D J).1 (syncJ D J).2.1 :=
  (jSync_any _ p q D J w h.1 h.2.1 h.off).mono fun e w' ⟨he, hp⟩ => ⟨he, hp.one h.2.2 h.lt⟩
theorem jCompact_own (B : Nat) (w : World) (p q : Nat) (D : DS) (J : JS) (a : Option Addr) (cap : Nat) (rs : List ByteArray) (h : One B w p q D J) (hg : ErrVar w) (hgB : 0 < B) (h2 : 2 ≤ D.sure.length) (ht : J.turn ≤ 3000) (hwh : J.which ≤ 1) (hl : rs.length ≤ 100) (hs : ∀ r ∈ rs, r.size ≤ 1000) (ha : SlOf mkS w a rs) (hd : D.done < 1099510000000) :
    Calls Tryz.prog 17 #[.pointer (some ⟨q, 0, none⟩), .slice a rs.length cap] w fun e w' => e = .returned (errV (compactJ D J rs).2.2) ∧ Below B w w' ∧ One B w' p q (compactJ D J rs).1 (compactJ D J rs).2.1 :=
  (jCompact_any _ p q D J a cap rs w h.1 h.2.1 h.off hg (fun h => by have := h.1; omega) h2 ht hwh hl hs ha hd).mono fun e w' ⟨he, hp⟩ => ⟨he, hp.one h.2.2 h.lt⟩
theorem Cut_one (B : Nat) (w : World) (p q : Nat) (D : DS) (J : JS) (k : Int) (hk : k ≤ 9223372036854775807) (h : One B w p q D J) :
    Calls Tryz.prog 16 #[.pointer (some ⟨p, 0, none⟩), .int .i64 k] w fun e w' => e = .returned (.tuple #[]) ∧ Below B w w' ∧ One B w' p q (D.cut k) J :=
  (Cut_any w _ p D k hk h.1).mono fun e w' ⟨he, hp⟩ => ⟨he, hp.one h⟩
end Go.Proofs.YtjincmagbbpooaaGreatDoor
end

section
set_option linter.unusedVariables false
set_option linter.unusedSimpArgs false
namespace Go.Proofs.YtjincmagbbpooaaGreatDoor
open Go.RowKit

/-! ### plain law: what a disk shows -/
def DS.v (D : DS) (i : Nat) : ByteArray := lastW D.loose i (D.sure.getD i ⟨#[]⟩)
theorem readS_v {D : DS} {i : Nat} (h : D.may (i : Int) = 0) : D.readS (i : Int) = D.v i := by
  unfold DS.readS DS.v
  rw [if_neg (by rw [h]; decide)]
  rfl
theorem may_live {D : DS} (h : D.dead = false) {i : Nat} (hi : i < D.sure.length) : D.may (i : Int) = 0 := DS.may_zero.2 ⟨h, by omega, by omega⟩
theorem v_put (D : DS) (i j : Nat) (b : ByteArray) : (D.put i b).v j = if j = i then fillB b else D.v j := by
  unfold DS.v DS.put
  simp only
  rw [lastW_snoc]
  by_cases h : i = j
  · rw [if_pos h, if_pos h.symm]
  · rw [if_neg h, if_neg (fun e => h e.symm)]
theorem write_live {D : DS} (h : D.dead = false) (hl : D.left ≠ 0) {i : Nat} (hi : i < D.sure.length) {b : ByteArray} (hb : b.size ≤ 64) : D.writeC (i : Int) b = 0 ∧ D.write (i : Int) b = D.put i b := by
  have h0 : D.writeC (i : Int) b = 0 := DS.writeC_zero.2 ⟨may_live h hi, hb, hl⟩
  refine ⟨h0, ?_⟩
  unfold DS.write
  rw [if_pos h0]
  rfl
theorem getD_set (l : List ByteArray) (i j : Nat) (x d : ByteArray) (hi : i < l.length) : (l.set i x).getD j d = if i = j then x else l.getD j d := by
  rw [List.getD_eq_getElem?_getD, List.getD_eq_getElem?_getD, List.getElem?_set]
  by_cases h : i = j
  · subst h
    rw [if_pos rfl, if_pos rfl, if_pos hi]
    rfl
  · rw [if_neg h, if_neg h]
theorem keep_all {l : List (Nat × ByteArray)} {s : List ByteArray} (hl : ∀ x ∈ l, x.1 < s.length) (j : Nat) :
    ∀ n, n ≤ l.length → (keepN (fun _ => true) (-1) l s n).getD j ⟨#[]⟩ = lastW (l.take n) j (s.getD j ⟨#[]⟩)
  | 0, _ => rfl
  | n + 1, hn => by
    have ih := keep_all hl j n (by omega)
    obtain ⟨x, hx⟩ : ∃ x, l[n]? = some x := ⟨_, List.getElem?_eq_getElem (by omega)⟩
    rw [keepN_succ hx, List.take_add_one, hx]
    show _ = lastW (l.take n ++ [x]) j _
    rw [lastW_snoc, ← ih]
    unfold keepStep
    rw [if_pos rfl, if_neg (by omega), getD_set _ _ _ _ _ (by rw [keepN_len]; exact hl x (List.mem_of_getElem? hx))]
theorem flush_live {D : DS} (h : D.dead = false) : D.flush = D.keeps (fun _ => true) (-1) := by unfold DS.flush; rw [if_neg (by rw [h]; decide)]
theorem v_flush {D : DS} (ok : D.ok) (h : D.dead = false) (j : Nat) : D.flush.v j = D.v j ∧ D.flush.loose = [] ∧ D.flush.dead = false ∧ D.flush.left = D.left := by
  rw [flush_live h]
  refine ⟨?_, rfl, h, rfl⟩
  unfold DS.v DS.keeps
  simp only
  rw [keep_all (fun x hx => (ok.lies x hx).1) j _ (Nat.le_refl _), List.take_length]
  rfl
theorem flushC_live {D : DS} (h : D.dead = false) : D.flushC = 0 := by unfold DS.flushC; rw [if_neg (by rw [h]; decide)]
theorem v_crash {D : DS} (h : D.loose = []) (keep : Nat → Bool) (torn : Int) (j : Nat) : (D.crash keep torn).v j = D.v j ∧ (D.crash keep torn).loose = [] ∧ (D.crash keep torn).dead = false ∧ (D.crash keep torn).left = -1 ∧ (D.crash keep torn).sure = D.sure := by
  have hs : (D.crash keep torn).sure = D.sure := by
    unfold DS.crash DS.keeps
    simp only
    rw [h]
    rfl
  refine ⟨?_, rfl, rfl, rfl, hs⟩
  unfold DS.v
  rw [hs, h]
  rfl

/-! ### superblocks -/
theorem zeroB_zeros (n : Nat) : zerosB (zeroB n) = true := by
  unfold zerosB
  show (List.replicate n (0 : UInt8)).all (· == 0) = true
  rw [List.all_replicate]
  simp
theorem super_text (turn which : Nat) (ht : turn ≤ 4000) (hw : which ≤ 1) : (strN (numB turn) ++ strN (numB which)).size ≤ 16 := by
  have h1 := num_size turn (by omega)
  have h2 := num_size which (by omega)
  rw [ByteArray.size_append]
  omega
theorem super_read (turn which : Nat) (ht1 : 1 ≤ turn) (ht : turn ≤ 4000) (hw : which ≤ 1) : readB (fillB (superB turn which)) = (turn, which) := by
  obtain ⟨z, hz⟩ : ∃ z, z = zeroB (64 - (superB turn which).size) := ⟨_, rfl⟩
  have hzz : zerosB z = true := by rw [hz]; exact zeroB_zeros _
  have hf : fillB (superB turn which) = superB turn which ++ z := by rw [hz]; rfl
  rw [hf]
  clear hf hz
  have htx := super_text turn which ht hw
  obtain ⟨r, hr⟩ : ∃ r, superB turn which ++ z = textS (strN (numB turn) ++ strN (numB which)) ++ r := by
    refine ⟨sumB (textS (strN (numB turn) ++ strN (numB which))) ++ z, ?_⟩
    unfold superB wrapS
    rw [append_assocB]
  have h1 : textR (superB turn which ++ z) 64 = (strN (numB turn) ++ strN (numB which), r, 0) := by
    rw [hr]
    exact textR_back _ r 64 (by omega) (by omega)
  have h2 : numS (strN (numB turn) ++ strN (numB which)) = (turn, (numB turn).length, 0) := numS_back turn _ (by omega)
  have h3 : openR (superB turn which ++ z) (turn : Int) = (strN (numB which), z, 0) := openR_same turn (strN (numB which)) z (by omega) (by have := num_size which (by omega); omega)
  have h4 : numS (strN (numB which)) = (which, (numB which).length, 0) := by
    have := numS_back which ByteArray.empty (by omega)
    rw [append_empty] at this
    exact this
  have h5 : dropB (strN (numB which)) (numB which).length = ⟨#[]⟩ := by
    have := dropB_append (strN (numB which)) ByteArray.empty
    rw [append_empty, strN_size] at this
    exact this
  unfold readB
  rw [h1]
  simp only
  rw [h2]
  simp only
  rw [if_neg (by simp), h3]
  simp only
  rw [h4]
  simp only
  rw [h5, hzz, if_neg (by simp; omega)]
theorem zero_read : readB (zeroB 64) = (0, 0) := by decide +kernel

/-! ### records behind one another -/
theorem openR_zeros (n : Nat) (k : Int) : (openR (zeroB n) k).2.2 ≠ 0 := by
  match n with
  | 0 => exact (by
      have h := openR_junk (zeroB 0) k (by decide)
      omega)
  | n + 1 =>
    have hz : zeroB (n + 1) = textS ⟨#[]⟩ ++ zeroB n := by
      rw [show textS ⟨#[]⟩ = ⟨#[0]⟩ by decide +kernel]
      apply bys_inj
      rw [bys_append]
      show List.map UInt8.toNat (List.replicate (n + 1) 0) = [0] ++ List.map UInt8.toNat (List.replicate n 0)
      rw [List.replicate_succ]
      rfl
    have h1 : textR (zeroB (n + 1)) 2020 = (⟨#[]⟩, zeroB n, 0) := by rw [hz]; exact textR_back ⟨#[]⟩ (zeroB n) 2020 (by decide) (by decide)
    unfold openR
    rw [h1]
    simp only
    rw [if_neg (by decide)]
    by_cases h4 : (zeroB n).size < 4
    · rw [if_pos h4]; exact (by decide : (11 : Int) ≠ 0)
    rw [if_neg h4, if_pos]
    · exact (by decide : (12 : Int) ≠ 0)
    · rw [zeroB_size, zeroB_size]
      have ht : takeB (zeroB (n + 1)) (n + 1 - n) = ⟨#[0]⟩ := by
        rw [show n + 1 - n = 1 by omega]
        apply bys_inj
        rw [bys_takeB]
        show List.take 1 (List.map UInt8.toNat (List.replicate (n + 1) 0)) = [0]
        rw [List.replicate_succ]
        rfl
      have h0 : takeB (zeroB n) 4 = ⟨#[0, 0, 0, 0]⟩ := by
        rw [zeroB_size] at h4
        obtain ⟨m, rfl⟩ : ∃ m, n = m + 4 := ⟨n - 4, by omega⟩
        apply bys_inj
        rw [bys_takeB]
        show List.take 4 (List.map UInt8.toNat (List.replicate (m + 4) 0)) = [0, 0, 0, 0]
        simp [List.replicate_succ]
      rw [ht, h0]
      decide +kernel
theorem recs_back (turn : Nat) (ht : turn ≤ 4000) (z : ByteArray) (hz : ∀ k : Int, (openR z k).2.2 ≠ 0) : ∀ (rs : List ByteArray) (k f : Nat), k + rs.length ≤ 100000 → rs.length < f → (∀ r ∈ rs, r.size ≤ 1000) →
    recsF turn f k (framesB turn k rs ++ z) = (rs, z)
  | [], k, f + 1, _, _, _ => by
    have he : framesB turn k [] ++ z = z := empty_append z
    rw [he]
    unfold recsF
    rw [if_pos (hz _)]
  | r :: rs, k, f + 1, hk, hf, hs => by
    have h1 : framesB turn k (r :: rs) ++ z = wrapS (turn * 1000000 + k) r ++ (framesB turn (k + 1) rs ++ z) := append_assocB _ _ _
    rw [h1]
    unfold recsF
    simp only [List.length_cons] at hk hf
    rw [openR_same (turn * 1000000 + k) r _ (by omega) (hs r (List.mem_cons_self ..)), if_neg (fun h => h rfl)]
    simp only
    rw [recs_back turn ht z hz rs (k + 1) f (by omega) (by omega) (fun x hx => hs x (List.mem_cons_of_mem _ hx))]
end Go.Proofs.YtjincmagbbpooaaGreatDoor
end

section
set_option linter.unusedVariables false
set_option linter.unusedSimpArgs false
namespace Go.Proofs.YtjincmagbbpooaaGreatDoor
open Go.RowKit

/-! ### plain law: a disk with power, written on -/
structure Live (D : DS) : Prop where
  ok : D.ok
  alive : D.dead = false
  left : D.left = -1
theorem Live.put {D : DS} (h : Live D) {i : Nat} (hi : i < D.sure.length) {b : ByteArray} (hb : b.size ≤ 64) (hd : D.done < 1099511627776) :
    D.writeC (i : Int) b = 0 ∧ Live (D.write (i : Int) b) ∧ (∀ j, (D.write (i : Int) b).v j = if j = i then fillB b else D.v j) ∧ (D.write (i : Int) b).sure = D.sure ∧ (D.write (i : Int) b).done = D.done + 1 := by
  obtain ⟨h0, hw⟩ := write_live h.alive (by rw [h.left]; decide) hi hb
  refine ⟨h0, ⟨h.ok.write _ _ hd, ?_, ?_⟩, ?_, ?_, ?_⟩
  · rw [hw]; exact h.alive
  · rw [hw]; show (if 0 < D.left then D.left - 1 else D.left) = -1; rw [h.left]; decide
  · rw [hw]; exact fun j => v_put D i j b
  · rw [hw]; rfl
  · rw [hw]; rfl
theorem Live.flush {D : DS} (h : Live D) : Live D.flush ∧ (∀ j, D.flush.v j = D.v j) ∧ D.flush.loose = [] ∧ D.flushC = 0 ∧ D.flush.sure.length = D.sure.length ∧ D.flush.done = D.done :=
  ⟨⟨h.ok.flush, (v_flush h.ok h.alive 0).2.2.1, (v_flush h.ok h.alive 0).2.2.2.trans h.left⟩, fun j => (v_flush h.ok h.alive j).1, (v_flush h.ok h.alive 0).2.1, flushC_live h.alive, D.flush_len, D.flush_done⟩
theorem half_eq {D E : DS} (h : E.sure.length = D.sure.length) : E.half = D.half := by unfold DS.half; rw [h]
theorem sec_eq {D E : DS} (h : E.sure.length = D.sure.length) (which i : Nat) : E.sec which i = D.sec which i := by unfold DS.sec; rw [half_eq h]
theorem sec_inj {D : DS} {w1 w2 i j : Nat} (h1 : w1 ≤ 1) (h2 : w2 ≤ 1) (hi : i < D.half) (hj : j < D.half) (h : D.sec w1 i = D.sec w2 j) : w1 = w2 ∧ i = j := by
  unfold DS.sec at h
  have c1 : w1 = 0 ∨ w1 = 1 := by omega
  have c2 : w2 = 0 ∨ w2 = 1 := by omega
  rcases c1 with rfl | rfl <;> rcases c2 with rfl | rfl <;> simp only [Nat.zero_mul, Nat.one_mul] at h <;> omega
theorem sec_two {D : DS} (which i : Nat) : 2 ≤ D.sec which i := by unfold DS.sec; omega

/-- differs, where there is power. -/
theorem diff_live (which : Nat) (hw : which ≤ 1) (b : ByteArray) : ∀ (f i n : Nat) (D : DS), Live D → i + f ≤ D.half → D.done + f < 1099511627776 →
    ∃ D' n', diffF which b f i n D = (D', n', 0) ∧ Live D' ∧ D'.sure.length = D.sure.length ∧ D'.done ≤ D.done + f ∧ (∀ t, i ≤ t → t < i + f → D'.v (D.sec which t) = fillB (partB b (t * 64) 64)) ∧
      (∀ j, (∀ t, i ≤ t → t < i + f → j ≠ D.sec which t) → D'.v j = D.v j)
  | 0, i, n, D, h, _, _ => ⟨D, n, rfl, h, rfl, Nat.le_refl _, fun t h1 h2 => by omega, fun j _ => rfl⟩
  | f + 1, i, n, D, h, hi, hd => by
    have hlt : i < D.half := by omega
    have hsl := sec_lt (D := D) hw hlt
    have hm := may_live h.alive hsl
    have hz : (fillB (partB b (i * 64) 64)).size ≤ 64 := Nat.le_of_eq (fillB_size _ (partB_size _ _ _))
    have hff : fillB (fillB (partB b (i * 64) 64)) = fillB (partB b (i * 64) 64) := by
      have h1 : (fillB (partB b (i * 64) 64)).size = 64 := fillB_size _ (partB_size _ _ _)
      generalize fillB (partB b (i * 64) 64) = x at h1
      unfold fillB
      rw [h1]
      exact append_empty x
    unfold diffF
    rw [if_neg (by rw [hm]; decide), readS_v hm]
    by_cases hs : D.v (D.sec which i) = fillB (partB b (i * 64) 64)
    · rw [if_pos hs]
      obtain ⟨D', n', e, hl, hlen, hdn, h1, h2⟩ := diff_live which hw b f (i + 1) n D h (by omega) (by omega)
      refine ⟨D', n', e, hl, hlen, by omega, fun t ht1 ht2 => ?_, fun j hj => h2 j (fun t ht1 ht2 => hj t (by omega) (by omega))⟩
      by_cases hti : t = i
      · subst hti
        rw [h2 _ (fun t' h3 h4 e' => by
          have := (sec_inj hw hw hlt (by omega) e').2
          omega)]
        exact hs
      · exact h1 t (by omega) (by omega)
    · rw [if_neg hs]
      obtain ⟨hc, hL, hv, hsu, hdo⟩ := h.put hsl hz (by omega)
      have hlen1 : (D.write (D.sec which i : Int) (fillB (partB b (i * 64) 64))).sure.length = D.sure.length := by rw [hsu]
      rw [if_neg (by rw [hc]; decide)]
      obtain ⟨D', n', e, hl, hlen, hdn, h1, h2⟩ := diff_live which hw b f (i + 1) (n + 1) _ hL (by rw [half_eq hlen1]; omega) (by rw [hdo]; omega)
      refine ⟨D', n', e, hl, hlen.trans hlen1, by rw [hdo] at hdn; omega, fun t ht1 ht2 => ?_, fun j hj => ?_⟩
      · by_cases hti : t = i
        · subst hti
          rw [h2 _ (fun t' h3 h4 e' => by
            rw [sec_eq hlen1] at e'
            have := (sec_inj hw hw hlt (by omega) e').2
            omega), hv, if_pos rfl, hff]
        · have := h1 t (by omega) (by omega)
          rw [sec_eq hlen1] at this
          exact this
      · rw [h2 j (fun t ht1 ht2 => by rw [sec_eq hlen1]; exact hj t (by omega) (by omega)), hv, if_neg (hj i (Nat.le_refl _) (by omega))]
/-- A superblock is written, where there is power. -/
theorem super_live {D : DS} (h : Live D) (at_ turn which : Nat) (ha : at_ < D.sure.length) (ht : turn ≤ 4000) (hw : which ≤ 1) (hd : D.done < 1099511627776) :
    (D.super at_ turn which).2 = 0 ∧ Live (D.super at_ turn which).1 ∧ (∀ j, (D.super at_ turn which).1.v j = if j = at_ then fillB (superB turn which) else D.v j) ∧ (D.super at_ turn which).1.loose = [] ∧ (D.super at_ turn which).1.sure.length = D.sure.length ∧ (D.super at_ turn which).1.done = D.done + 1 := by
  obtain ⟨hc, hL, hv, hsu, hdo⟩ := h.put ha (b := superB turn which) (by have := superB_size turn which (by omega) hw; omega) hd
  obtain ⟨f1, f2, f3, f4, f5, f6⟩ := hL.flush
  unfold DS.super
  rw [if_neg (by rw [hc]; decide)]
  exact ⟨f4, f1, fun j => (f2 j).trans (hv j), f3, f5.trans (by rw [hsu]), f6.trans hdo⟩

/-! ### a journal as it should be -/
structure Good (D : DS) (J : JS) (rs : List ByteArray) : Prop where
  ok : D.ok
  alive : D.dead = false
  four : 4 ≤ D.sure.length
  jdead : J.dead = false
  turn1 : 1 ≤ J.turn
  turn2 : J.turn ≤ 3000
  which : J.which ≤ 1
  n : J.n = rs.length
  b : J.b = framesB J.turn 0 rs
  fits : J.b.size ≤ D.half * 64
  sect : ∀ i, i < D.half → D.v (D.sec J.which i) = fillB (partB J.b (i * 64) 64)
  news : newer (newer (0, 0) (readB (D.v 0))) (readB (D.v 1)) = (J.turn, J.which)
  size : ∀ r ∈ rs, r.size ≤ 1000
  few : rs.length ≤ 1000
theorem part_bys (b : ByteArray) (i n : Nat) : bys (partB b i n) = ((bys b).drop i).take n := by
  unfold partB
  rw [bys_extract]
  have hl := bys_length b
  apply List.ext_getElem?
  intro k
  simp only [List.getElem?_drop, List.getElem?_take]
  by_cases h1 : i + k < b.size
  · have e : min i b.size = i := by omega
    rw [e]
    by_cases h2 : k < n
    · rw [if_pos h2, if_pos (by omega)]
    · rw [if_neg h2, if_neg (by omega)]
  · have hn : (bys b)[i + k]? = none := List.getElem?_eq_none (by omega)
    have hn2 : (bys b)[min i b.size + k]? = none := List.getElem?_eq_none (by omega)
    rw [hn, hn2]
    split <;> split <;> rfl
theorem zeroB_bys (n : Nat) : bys (zeroB n) = List.replicate n 0 := by
  show List.map UInt8.toNat (List.replicate n 0) = _
  rw [List.map_replicate]
  rfl
theorem sect_bys {b : ByteArray} {H i : Nat} (hb : b.size ≤ H * 64) (hi : i < H) : bys (fillB (partB b (i * 64) 64)) = ((bys b ++ List.replicate (H * 64 - b.size) 0).drop (i * 64)).take 64 := by
  have hl := bys_length b
  have hps : (partB b (i * 64) 64).size = min 64 (b.size - i * 64) := by rw [← bys_length, part_bys, List.length_take, List.length_drop, hl]
  unfold fillB
  rw [bys_append, part_bys, zeroB_bys, List.drop_append, List.take_append, List.drop_replicate, List.take_replicate, hps, List.length_drop, hl]
  congr 2
  omega
theorem join_bys {D : DS} {b : ByteArray} {which : Nat} (hb : b.size ≤ D.half * 64) (hr : ∀ i, i < D.half → D.readS (D.sec which i : Int) = fillB (partB b (i * 64) 64)) :
    ∀ m, m ≤ D.half → bys (D.joinP which m) = (bys b ++ List.replicate (D.half * 64 - b.size) 0).take (m * 64)
  | 0, _ => by rw [Nat.zero_mul, List.take_zero]; rfl
  | m + 1, hm => by
    unfold DS.joinP
    rw [bys_append, join_bys hb hr m (by omega), hr m (by omega), sect_bys hb (by omega), show (m + 1) * 64 = m * 64 + 64 by omega, List.take_add]
theorem join_all {D : DS} {b : ByteArray} {which : Nat} (hb : b.size ≤ D.half * 64) (hr : ∀ i, i < D.half → D.readS (D.sec which i : Int) = fillB (partB b (i * 64) 64)) :
    D.joinP which D.half = b ++ zeroB (D.half * 64 - b.size) := by
  apply bys_inj
  rw [join_bys hb hr _ (Nat.le_refl _), bys_append, zeroB_bys, List.take_of_length_le]
  rw [List.length_append, List.length_replicate, bys_length]
  omega
theorem diff_none (which : Nat) (b : ByteArray) (D : DS) : ∀ (f i n : Nat), (∀ t, i ≤ t → t < i + f → D.may (D.sec which t : Int) = 0 ∧ D.readS (D.sec which t : Int) = fillB (partB b (t * 64) 64)) → diffF which b f i n D = (D, n, 0)
  | 0, i, n, _ => rfl
  | f + 1, i, n, h => by
    obtain ⟨h1, h2⟩ := h i (Nat.le_refl _) (by omega)
    unfold diffF
    rw [if_neg (by rw [h1]; decide), if_pos h2]
    exact diff_none which b D f (i + 1) n (fun t ht1 ht2 => h t (by omega) (by omega))
theorem frames_len (turn : Nat) : ∀ (rs : List ByteArray) (k : Nat), rs.length ≤ (framesB turn k rs).size
  | [], k => Nat.le_refl _
  | r :: rs, k => by
    have h := frames_len turn rs (k + 1)
    have h2 : 1 ≤ (wrapS (turn * 1000000 + k) r).size := by
      unfold wrapS
      rw [ByteArray.size_append, sumB_size]
      omega
    unfold framesB
    rw [ByteArray.size_append, List.length_cons]
    omega
theorem Good.sector {D : DS} {J : JS} {rs : List ByteArray} (h : Good D J rs) {i : Nat} (hi : i < D.half) : D.may (D.sec J.which i : Int) = 0 ∧ D.readS (D.sec J.which i : Int) = fillB (partB J.b (i * 64) 64) := by
  have hm := may_live h.alive (sec_lt (D := D) h.which hi)
  exact ⟨hm, (readS_v hm).trans (h.sect i hi)⟩
theorem Good.newest {D : DS} {J : JS} {rs : List ByteArray} (h : Good D J rs) : D.newest = (J.turn, J.which, 0) := by
  have m0 : D.may ((0 : Nat) : Int) = 0 := may_live h.alive (by have := h.four; omega)
  have m1 : D.may ((1 : Nat) : Int) = 0 := may_live h.alive (by have := h.four; omega)
  have r0 : D.readS 0 = D.v 0 := readS_v m0
  have r1 : D.readS 1 = D.v 1 := readS_v m1
  unfold DS.newest
  rw [show D.may 0 = 0 from m0, show D.may 1 = 0 from m1, if_neg (by decide), if_neg (by decide), r0, r1, h.news]
  rw [if_neg (by have := h.turn1; simp only; omega)]
/-- A journal as it should be is opened as it is. -/
theorem Good.opens {D : DS} {J : JS} {rs : List ByteArray} (h : Good D J rs) : D.opens = (D, 0, J, rs) := by
  have hn := h.newest
  have hj := join_all h.fits (fun i hi => (h.sector hi).2)
  have hfl := frames_len J.turn rs 0
  rw [← h.b] at hfl
  have hrec : recsOf J.turn (J.b ++ zeroB (D.half * 64 - J.b.size)) = (rs, zeroB (D.half * 64 - J.b.size)) := by
    unfold recsOf
    rw [ByteArray.size_append]
    conv => lhs; rw [h.b]
    rw [← h.b]
    have := recs_back J.turn (by have := h.turn2; omega) (zeroB (D.half * 64 - J.b.size)) (fun k => openR_zeros _ k) rs 0 (J.b.size + (zeroB (D.half * 64 - J.b.size)).size + 1) (by have := h.few; omega) (by omega) h.size
    rw [← h.b] at this
    exact this
  have hcut : (J.b ++ zeroB (D.half * 64 - J.b.size)).extract 0 ((J.b ++ zeroB (D.half * 64 - J.b.size)).size - (zeroB (D.half * 64 - J.b.size)).size) = J.b := by
    rw [ByteArray.size_append, Nat.add_sub_cancel]
    exact takeB_append _ _
  unfold DS.opens
  rw [if_neg (by have := h.four; omega), hn, if_neg (fun h => h rfl)]
  simp only
  rw [hj, hrec]
  simp only
  rw [hcut]
  have hdf : D.diff J.which J.b (J.b.size / 64) = (D, 0, 0) := diff_none _ _ _ _ _ _ (fun t ht1 ht2 => h.sector (by omega))
  rw [hdf]
  simp only
  rw [if_neg (by decide)]
  have hd := h.jdead
  have hnn := h.n
  obtain ⟨t, wh, b, n, dd⟩ := J
  simp only at hd hnn
  subst hd hnn
  rfl
end Go.Proofs.YtjincmagbbpooaaGreatDoor
end

section
set_option linter.unusedVariables false
set_option linter.unusedSimpArgs false
namespace Go.Proofs.YtjincmagbbpooaaGreatDoor
open Go.RowKit

theorem Good.same {D E : DS} {J : JS} {rs : List ByteArray} (h : Good D J rs) (ok : E.ok) (alive : E.dead = false) (hl : E.sure.length = D.sure.length) (hv : ∀ j, E.v j = D.v j) : Good E J rs where
  ok := ok
  alive := alive
  four := by rw [hl]; exact h.four
  jdead := h.jdead
  turn1 := h.turn1
  turn2 := h.turn2
  which := h.which
  n := h.n
  b := h.b
  fits := by rw [half_eq hl]; exact h.fits
  sect := fun i hi => by rw [sec_eq hl, hv]; rw [half_eq hl] at hi; exact h.sect i hi
  news := by rw [hv, hv]; exact h.news
  size := h.size
  few := h.few
def J0 : JS := ⟨1, 0, ⟨#[]⟩, 0, false⟩
theorem fill_empty : fillB ⟨#[]⟩ = zeroB 64 := by decide
theorem newer_one : newer (newer (0, 0) (1, 0)) (0, 0) = (1, 0) := by decide
theorem format_good {D : DS} (h : Live D) (h4 : 4 ≤ D.sure.length) (hd : D.done < 1099500000000) :
    D.format.2 = 0 ∧ Good D.format.1 J0 [] ∧ Live D.format.1 ∧ D.format.1.loose = [] ∧ D.format.1.sure.length = D.sure.length ∧ D.format.1.done ≤ D.done + 1010 := by
  have hhalf := half_le h.ok
  obtain ⟨c1, L1, v1, s1, d1⟩ := h.put (i := 1) (by omega) (b := ⟨#[]⟩) (by decide) (by omega)
  have l1 : (D.write ((1 : Nat) : Int) ⟨#[]⟩).sure.length = D.sure.length := by rw [s1]
  have e1 : D.write 1 ⟨#[]⟩ = D.write ((1 : Nat) : Int) ⟨#[]⟩ := rfl
  have ec : D.writeC 1 ⟨#[]⟩ = 0 := c1
  unfold DS.format
  rw [if_neg (by omega), ec, e1, if_neg (by decide)]
  generalize D.write ((1 : Nat) : Int) ⟨#[]⟩ = D1 at L1 v1 s1 d1 l1
  obtain ⟨D2, n2, e2, L2, l2, d2, v2, o2⟩ := diff_live 0 (by decide) ⟨#[]⟩ D1.half 0 0 D1 L1 (by omega) (by have := half_eq l1; omega)
  have e2' : D1.diff 0 ⟨#[]⟩ 0 = (D2, n2, 0) := by unfold DS.diff; rw [Nat.sub_zero]; exact e2
  rw [e2']
  simp only
  rw [if_neg (by decide)]
  obtain ⟨L3, v3, lo3, c3, l3, d3⟩ := L2.flush
  rw [c3, if_neg (by decide)]
  generalize D2.flush = D3 at L3 v3 lo3 l3 d3
  have hlen3 : D3.sure.length = D.sure.length := l3.trans (l2.trans l1)
  obtain ⟨c4, L4, v4, lo4, l4, d4⟩ := super_live L3 0 1 0 (by omega) (by decide) (by decide) (by rw [half_eq l1] at d2; omega)
  have hlen : (D3.super 0 1 0).1.sure.length = D.sure.length := l4.trans hlen3
  refine ⟨c4, ?_, L4, lo4, hlen, by rw [half_eq l1] at d2; omega⟩
  refine ⟨L4.ok, L4.alive, by rw [hlen]; exact h4, rfl, by decide, by decide, by decide, rfl, rfl, Nat.zero_le _, fun i hi => ?_, ?_, fun r hr => (by cases hr), by decide⟩
  · rw [half_eq (hlen.trans l1.symm)] at hi
    rw [sec_eq (hlen.trans l1.symm), v4, if_neg (by have := sec_two (D := D1) J0.which i; omega), v3]
    exact v2 i (Nat.zero_le _) (by omega)
  · have x0 : (D3.super 0 1 0).1.v 0 = fillB (superB 1 0) := by rw [v4, if_pos rfl]
    have x1 : (D3.super 0 1 0).1.v 1 = zeroB 64 := by
      rw [v4, if_neg (by decide), v3, o2 1 (fun t ht1 ht2 => by have := sec_two (D := D1) 0 t; omega), v1, if_pos rfl, fill_empty]
    rw [x0, x1, super_read 1 0 (by decide) (by decide) (by decide), zero_read, newer_one]
    rfl

theorem part_none {b : ByteArray} {i : Nat} (h : b.size ≤ i) : partB b i 64 = ⟨#[]⟩ := by
  apply bys_inj
  rw [part_bys, List.drop_eq_nil_of_le (by rw [bys_length]; exact h)]
  rfl
theorem part_append {b x : ByteArray} {i : Nat} (h : i + 64 ≤ b.size) : partB (b ++ x) i 64 = partB b i 64 := by
  apply bys_inj
  rw [part_bys, part_bys, bys_append, List.drop_append_of_le_length (by rw [bys_length]; omega), List.take_append_of_le_length (by rw [List.length_drop, bys_length]; omega)]
theorem putF_live (which : Nat) (hw : which ≤ 1) (b : ByteArray) : ∀ (f i : Nat) (D : DS), Live D → (∀ t, i ≤ t → t * 64 < b.size → t < D.half) → b.size < (f + i) * 64 → D.done + (D.half - i) < 1099511627776 →
    ∃ D', putF which b f i D = (D', 0) ∧ Live D' ∧ D'.sure = D.sure ∧ D'.done ≤ D.done + (D.half - i) ∧ (∀ t, i ≤ t → t * 64 < b.size → D'.v (D.sec which t) = fillB (partB b (t * 64) 64)) ∧
      (∀ j, (∀ t, i ≤ t → t * 64 < b.size → j ≠ D.sec which t) → D'.v j = D.v j)
  | 0, i, D, h, _, hf, _ => ⟨D, rfl, h, rfl, Nat.le_add_right _ _, fun t h1 h2 => by omega, fun j _ => rfl⟩
  | f + 1, i, D, h, hi, hf, hd => by
    unfold putF
    by_cases hb : b.size ≤ i * 64
    · rw [if_pos hb]
      exact ⟨D, rfl, h, rfl, Nat.le_add_right _ _, fun t h1 h2 => by omega, fun j _ => rfl⟩
    rw [if_neg hb]
    have hlt := hi i (Nat.le_refl _) (by omega)
    have hsl := sec_lt (D := D) hw hlt
    obtain ⟨hc, hL, hv, hsu, hdo⟩ := h.put hsl (b := partB b (i * 64) 64) (partB_size _ _ _) (by omega)
    have hlen1 : (D.write (D.sec which i : Int) (partB b (i * 64) 64)).sure.length = D.sure.length := by rw [hsu]
    rw [if_neg (by rw [hc]; decide)]
    obtain ⟨D', e, hl, hs', hdn, h1, h2⟩ := putF_live which hw b f (i + 1) _ hL (fun t ht1 ht2 => by rw [half_eq hlen1]; exact hi t (by omega) ht2) (by omega) (by rw [half_eq hlen1]; omega)
    rw [half_eq hlen1] at hdn
    refine ⟨D', e, hl, hs'.trans hsu, by omega, fun t ht1 ht2 => ?_, fun j hj => ?_⟩
    · by_cases hti : t = i
      · subst hti
        rw [h2 _ (fun t' h3 h4 e' => by
          rw [sec_eq hlen1] at e'
          have := (sec_inj hw hw hlt (hi t' (by omega) h4) e').2
          omega), hv, if_pos rfl]
      · have := h1 t (by omega) ht2
        rw [sec_eq hlen1] at this
        exact this
    · rw [h2 j (fun t ht1 ht2 => by rw [sec_eq hlen1]; exact hj t (by omega) ht2), hv, if_neg (hj i (Nat.le_refl _) (by omega))]

theorem add_good {D : DS} {J : JS} {rs : List ByteArray} {r : ByteArray} (h : Good D J rs) (hl : Live D) (hr : r.size ≤ 1000) (hf : (framesB J.turn 0 (rs ++ [r])).size ≤ D.half * 64) (hn : rs.length + 1 ≤ 1000) (hd : D.done < 1099500000000) :
    ∃ D', addJ D J r = (D', ⟨J.turn, J.which, framesB J.turn 0 (rs ++ [r]), rs.length + 1, false⟩, 0) ∧ Good D' ⟨J.turn, J.which, framesB J.turn 0 (rs ++ [r]), rs.length + 1, false⟩ (rs ++ [r]) ∧ Live D' ∧ D'.sure = D.sure ∧ D'.done ≤ D.done + 1000 := by
  have hhalf := half_le h.ok
  have hb : J.b ++ framesB J.turn J.n [r] = framesB J.turn 0 (rs ++ [r]) := by
    rw [framesB_snoc, Nat.zero_add, h.b, h.n]
    congr 1
    exact append_empty _
  have hcat : framesB J.turn 0 (rs ++ [r]) = J.b ++ wrapS (J.turn * 1000000 + (0 + rs.length)) r := by rw [framesB_snoc, h.b]
  have hbz : J.b.size ≤ (framesB J.turn 0 (rs ++ [r])).size := by rw [hcat, ByteArray.size_append]; omega
  have hpa : ∀ i, i + 64 ≤ J.b.size → partB (framesB J.turn 0 (rs ++ [r])) i 64 = partB J.b i 64 := fun i hi => by rw [hcat]; exact part_append hi
  have hx : wrapJ (D.half * 64) J.turn J.n [r] J.b = (framesB J.turn 0 (rs ++ [r]), 0) := by
    unfold wrapJ
    rw [hb, if_neg (by omega)]
  unfold addJ
  rw [if_neg (by rw [h.jdead]; decide)]
  simp only
  rw [hx]
  simp only
  rw [if_neg (by decide)]
  obtain ⟨B, hB⟩ : ∃ B, B = framesB J.turn 0 (rs ++ [r]) := ⟨_, rfl⟩
  rw [← hB] at hf hbz hpa ⊢
  obtain ⟨D', e, hl', hs', hdn, h1, h2⟩ := putF_live J.which h.which B (B.size + 1) (J.b.size / 64) D hl (fun t ht1 ht2 => by omega) (by omega) (by omega)
  rw [e]
  simp only
  rw [if_neg (by decide)]
  have hlen : D'.sure.length = D.sure.length := by rw [hs']
  refine ⟨D', by rw [h.n, h.jdead], ?_, hl', hs', by omega⟩
  refine ⟨hl'.ok, hl'.alive, by rw [hlen]; exact h.four, rfl, h.turn1, h.turn2, h.which, by simp, by rw [hB], by rw [half_eq hlen]; exact hf, fun i hi => ?_, ?_, fun x hx => ?_, by simp; omega⟩
  · rw [half_eq hlen] at hi
    rw [sec_eq hlen]
    simp only
    by_cases hge : B.size ≤ i * 64
    · rw [h2 _ (fun t ht1 ht2 e' => by
        have := (sec_inj h.which h.which hi (by omega) e').2
        omega), h.sect i hi, part_none (show J.b.size ≤ i * 64 by omega), part_none hge]
    · by_cases hlo : J.b.size / 64 ≤ i
      · exact h1 i hlo (by omega)
      · rw [h2 _ (fun t ht1 ht2 e' => by
          have := (sec_inj h.which h.which hi (by omega) e').2
          omega), h.sect i hi, hpa _ (by omega)]
  · simp only
    rw [h2 0 (fun t _ _ e' => by have := sec_two (D := D) J.which t; omega), h2 1 (fun t _ _ e' => by have := sec_two (D := D) J.which t; omega)]
    exact h.news
  · rcases List.mem_append.1 hx with hx | hx
    · exact h.size x hx
    · obtain rfl := List.mem_singleton.1 hx
      exact hr
theorem sync_good {D : DS} {J : JS} {rs : List ByteArray} (h : Good D J rs) (hl : Live D) : syncJ D J = (D.flush, J, 0) ∧ Good D.flush J rs ∧ Live D.flush ∧ D.flush.loose = [] ∧ D.flush.done = D.done ∧ D.flush.sure.length = D.sure.length := by
  obtain ⟨f1, f2, f3, f4, f5, f6⟩ := hl.flush
  refine ⟨?_, h.same f1.ok f1.alive f5 f2, f1, f3, f6, f5⟩
  unfold syncJ JS.fail
  rw [if_neg (by rw [h.jdead]; decide), f4, if_pos rfl]
theorem crash_live {D : DS} (h : D.ok) (hl : D.loose = []) (keep : Nat → Bool) (torn : Int) : Live (D.crash keep torn) :=
  ⟨h.crash keep torn, rfl, rfl⟩
theorem crash_good {D : DS} {J : JS} {rs : List ByteArray} (h : Good D J rs) (hl : D.loose = []) (keep : Nat → Bool) (torn : Int) : Good (D.crash keep torn) J rs :=
  h.same (h.ok.crash keep torn) rfl (by rw [(v_crash hl keep torn 0).2.2.2.2]) (fun j => (v_crash hl keep torn j).1)
theorem keep_none (torn : Int) (l : List (Nat × ByteArray)) (s : List ByteArray) : ∀ n, keepN (keepOf []) torn l s n = s
  | 0 => rfl
  | n + 1 => by
    have : keepN (keepOf []) torn l s (n + 1) = keepStep (keepOf []) torn n (l.getD n (0, ⟨#[]⟩)) (keepN (keepOf []) torn l s n) := rfl
    rw [this, keep_none torn l s n]
    unfold keepStep keepOf
    rw [if_neg (by simp)]
/-- What waited is lost. -/
theorem crash_back {D E : DS} {J : JS} {rs : List ByteArray} (h : Good D J rs) (hl : D.loose = []) (ok : E.ok) (hs : E.sure = D.sure) (torn : Int) : Good (E.crash (keepOf []) torn) J rs := by
  have e : (E.crash (keepOf []) torn).sure = D.sure := by
    show keepN _ _ _ _ _ = _
    rw [keep_none, hs]
  refine h.same (ok.crash _ _) rfl (by rw [e]) (fun j => ?_)
  show lastW [] j ((E.crash (keepOf []) torn).sure.getD j ⟨#[]⟩) = D.v j
  rw [e]
  unfold DS.v
  rw [hl]
theorem new_live (n : Nat) (h1 : 1 ≤ n) (h2 : n ≤ 2000) : Live (newD n) := ⟨newD_ok n h1 h2, rfl, rfl⟩
end Go.Proofs.YtjincmagbbpooaaGreatDoor
end

section
set_option linter.unusedVariables false
set_option linter.unusedSimpArgs false
namespace Go.Proofs.YtjincmagbbpooaaGreatDoor
open Go.RowKit

theorem framesB_fit (m : Nat) (hm : m ≤ 1000) (turn : Nat) (ht : turn ≤ 4000) : ∀ (rs : List ByteArray) (k : Nat), k + rs.length ≤ 1000000 → (∀ r ∈ rs, r.size ≤ m) → (framesB turn k rs).size ≤ rs.length * (m + 20)
  | [], k, _, _ => by simp [framesB, ByteArray.size]
  | r :: rs, k, hk, h => by
    have h1 := framesB_fit m hm turn ht rs (k + 1) (by simp only [List.length_cons] at hk; omega) (fun x hx => h x (List.mem_cons_of_mem _ hx))
    have h2 := h r (List.mem_cons_self ..)
    have h3 := wrapS_size (turn * 1000000 + k) r (by simp only [List.length_cons] at hk; omega) (by omega)
    unfold framesB
    rw [ByteArray.size_append, List.length_cons, Nat.add_mul]
    omega
theorem Format_good (B : Nat) (w : World) (p : Nat) (D D' : DS) (hd : D.done < 1099510000000) (hD : D.format.1 = D') (hc : D.format.2 = 0) (h : Own B w p D) :
    Calls Tryz.prog 10 #[.pointer (some ⟨p, 0, none⟩)] w fun e w' => e = .returned .nilIface ∧ Below B w w' ∧ Own B w' p D' := by
  subst hD
  refine (Format_own B w p D h hd).mono ?_
  rintro e w' ⟨he, hb⟩
  rw [hc] at he
  exact ⟨he, hb⟩
theorem jOpen_good (B : Nat) (p : Nat) (D : DS) (J : JS) (rs : List ByteArray) (G : Good D J rs) (hd : D.done < 1099510000000) (w : World) (hg : ErrVar w) (hgB : 0 < B) (h : Own B w p D) :
    Calls Tryz.prog 9 #[.pointer (some ⟨p, 0, none⟩)] w fun e w' => ∃ q v, e = .returned (.tuple #[.pointer (some ⟨q, 0, none⟩), v, .nilIface]) ∧ Below B w w' ∧ One B w' p q D J ∧ w'.ownsRow w.heap.size 9 1 v rs.length (strsV rs) := by
  refine (jOpen_own B w p D h hg hgB hd (by rw [G.newest]; have := G.turn2; show J.turn ≤ _; omega)).mono ?_
  rintro e w' ⟨hb, ho, hr⟩
  rw [G.opens] at ho hr
  rcases hr with ⟨h0, -⟩ | ⟨-, q, v, he, h1, h2⟩
  · exact absurd rfl h0
  · exact ⟨q, v, he, hb, h1, h2⟩
theorem jOpen_set (H : Nat → Prop) (p : Nat) (D : DS) (J : JS) (rs : List ByteArray) (G : Good D J rs) (hd : D.done < 1099510000000) (w : World) (hH : ∀ k, H k → k < w.heap.size) (hg : ErrVar w) (hgH : ¬ H 0) (h : Dsk w H p D) :
    Calls Tryz.prog 9 #[.pointer (some ⟨p, 0, none⟩)] w fun e w' => ∃ q v, e = .returned (.tuple #[.pointer (some ⟨q, 0, none⟩), v, .nilIface]) ∧ Save H w w' ∧ Blk w' q 87 (jCells p J) ∧ w.heap.size ≤ q ∧ w'.ownsRow w.heap.size 9 1 v rs.length (strsV rs) ∧
      ∃ G : Nat → Prop, Dsk w' G p D ∧ (∀ k, G k → H k ∨ (w.heap.size ≤ k ∧ k < w'.heap.size)) ∧ (∀ g, v.ownBlock = some g → ¬ G g) ∧ ¬ G q := by
  refine (jOpen_any H p D w h hg hH hgH (cell_lt hg) hd (by rw [G.newest]; have := G.turn2; show J.turn ≤ _; omega)).mono ?_
  rintro e w' ⟨hp, hr⟩
  rw [G.opens] at hp hr
  rcases hr with ⟨h0, -⟩ | ⟨-, q, v, he, hq, hblk, hrow, hG⟩
  · exact absurd rfl h0
  · exact ⟨q, v, he, hp.1, hblk, hq, hrow, hG⟩
theorem jAdd_good (B : Nat) (p : Nat) (D D' : DS) (J J' : JS) (rs : List ByteArray) (r : ByteArray) (G : Good D J rs) (hr : r.size ≤ 1000) (hd : D.done < 1099510000000) (he : addJ D J r = (D', J', 0)) (w : World) (q : Nat) (hg : ErrVar w) (hgB : 0 < B) (h : One B w p q D J) :
    Calls Tryz.prog 27 #[.pointer (some ⟨q, 0, none⟩), .string r] w fun e w' => e = .returned .nilIface ∧ Below B w w' ∧ One B w' p q D' J' := by
  have hh := half_le G.ok
  refine (jAdd_own B w p q D J r h hg hgB (by have := G.four; omega) (by have := G.turn2; omega) G.which (by rw [G.n]; have := G.few; omega) (by have := G.fits; omega) hr hd).mono ?_
  rw [he]
  exact fun e w' h => h
theorem jSync_good (B : Nat) (p : Nat) (D D' : DS) (J : JS) (he : syncJ D J = (D', J, 0)) (w : World) (q : Nat) (h : One B w p q D J) :
    Calls Tryz.prog 15 #[.pointer (some ⟨q, 0, none⟩)] w fun e w' => e = .returned .nilIface ∧ Below B w w' ∧ One B w' p q D' J := by
  refine (jSync_own B w p q D J h).mono ?_
  rw [he]
  exact fun e w' h => h
theorem jLen_good (B : Nat) (p q : Nat) (D : DS) (J : JS) (w : World) (n : Int) (hn : (J.n : Int) = n) (h : One B w p q D J) :
    Calls Tryz.prog 22 #[.pointer (some ⟨q, 0, none⟩)] w fun e w' => e = .returned (.int .i64 n) ∧ w = w' := by
  subst hn
  exact jLen_any q p J w h.2.1
theorem format_three : (newD 3).format = (newD 3, 14) := by
  unfold DS.format
  rw [if_pos (by decide)]
theorem newD_len (n : Nat) : (newD n).sure.length = n := by simp [newD]
theorem own_one {w : World} {base : Nat} {v : Value} {s : ByteArray} (h : w.ownsRow base 9 1 v 1 [.string s]) : ∃ g c, v = .slice (some ⟨g, 0, none⟩) 1 c ∧ w.cell? ⟨g, 0, none⟩ = some (.string s) := by
  obtain ⟨g, c, rfl, -⟩ := h.form (by decide)
  exact ⟨g, c, rfl, h.cellAt 0 (by decide)⟩

set_option maxHeartbeats 16000000 in
set_option maxRecDepth 100000 in
theorem known4_any (w : World) (he : ErrVar w) : Calls Tryz.prog 7 #[] w (fun e w' => e = .returned (.bool true) ∧ Below w.heap.size w w') := by
  obtain ⟨f1, G1, L1, lo1, l1, d1⟩ := format_good (new_live 20 (by decide) (by decide)) (by rw [newD_len]; decide) (by show 0 < _; decide)
  have d0 : (newD 20).done = 0 := rfl
  rw [newD_len] at l1
  rw [d0] at d1
  have cf := Lib.hid (fun B w p => Format_good B w p (newD 20) _ (by show 0 < _; decide) rfl f1)
  generalize (newD 20).format.1 = D1 at *
  have hh1 : D1.half = 9 := by unfold DS.half; rw [l1]
  obtain ⟨D2, e2, G2, L2, s2, d2⟩ := add_good (r := ⟨#[97, 98]⟩) G1 L1 (by decide) (by have := framesB_fit 2 (by decide) J0.turn (by decide) [⟨#[97, 98]⟩] 0 (by decide) (by decide); rw [hh1]; exact Nat.le_trans this (by decide)) (by decide) (by omega)
  have l2 : D2.sure.length = 20 := by rw [s2]; exact l1
  have hh2 : D2.half = 9 := by unfold DS.half; rw [l2]
  obtain ⟨e3, G3, L3, lo3, d3, l3⟩ := sync_good G2 L2
  have c1 := Lib.hid (fun B p w hg hgB h => jOpen_good B p D1 _ [] G1 (by omega) w hg hgB h)
  have c2 := Lib.hid (fun B p w q hg hgB h => jAdd_good B p D1 D2 _ _ [] ⟨#[97, 98]⟩ G1 (by decide) (by omega) e2 w q hg hgB h)
  have c3 := Lib.hid (fun B p w q h => jSync_good B p D2 _ _ e3 w q h)
  generalize D2.flush = D3 at *
  generalize hJ1 : (JS.mk J0.turn J0.which (framesB J0.turn 0 ([] ++ [⟨#[97, 98]⟩])) (([] : List ByteArray).length + 1) false) = J1 at *
  have t1 : J1.turn = 1 := by rw [← hJ1]; rfl
  clear hJ1
  obtain ⟨D4, e4, G4, L4, s4, d4⟩ := add_good (r := ⟨#[99, 100]⟩) G3 L3 (by decide) (by have := framesB_fit 2 (by decide) J1.turn (by rw [t1]; decide) [⟨#[97, 98]⟩, ⟨#[99, 100]⟩] 0 (by decide) (by decide); rw [half_eq l3, hh2]; exact Nat.le_trans this (by decide)) (by decide) (by omega)
  have G5 := crash_back (E := D4) G3 lo3 G4.ok s4 (-1)
  have c4 := Lib.hid (fun B p w q hg hgB h => jAdd_good B p D3 D4 _ _ _ ⟨#[99, 100]⟩ G3 (by decide) (by omega) e4 w q hg hgB h)
  generalize hJ2 : (JS.mk J1.turn J1.which (framesB J1.turn 0 ([] ++ [⟨#[97, 98]⟩] ++ [⟨#[99, 100]⟩])) (([] ++ [(⟨#[97, 98]⟩ : ByteArray)]).length + 1) false) = J2 at *
  have n2 : (J2.n : Int) = 2 := by rw [← hJ2]; rfl
  have c5 := Lib.hid (fun B p w q h => jLen_good B p q D4 J2 w 2 n2 h)
  clear hJ2 n2
  have d5 : (D4.crash (keepOf []) (-1)).done = D4.done := rfl
  have c6 := Lib.hid (fun B p w h => Crash_own B w p D4 none 0 0 [] (-1) _ rfl (by decide) rfl (fun j x h => by simp at h) (fun h => by simp at h) h)
  have c7 := Lib.hid (fun B p w hg hgB h => jOpen_good B p _ _ _ G5 (by rw [d5]; omega) w hg hgB h)
  have c8 := Lib.hid (fun B w p h => Format_own B w p (newD 3) h (by show 0 < _; decide))
  rw [format_three] at c8
  simp only [errV_ne (show (14 : Int) ≠ 0 by decide)] at c8
  clear e2 e3 e4 G1 G2 G3 G4 G5 L1 L2 L3 L4
  generalize D4.crash (keepOf []) (-1) = D5 at *
  have HV := Lib.hid he
  have HL := Lib.hid (cell_lt he)
  clear he d0 d1 d2 d3 d4 d5 l1 l2 l3 s2 s4 lo1 lo3 hh1 hh2 f1 t1
  have en1 := Lib.hid (fun W => New_own W 20 20 (by decide) (by decide) (by decide))
  have en2 := Lib.hid (fun W => New_own W 3 3 (by decide) (by decide) (by decide))
  have hab : ((⟨#[97, 98]⟩ : ByteArray).toList == [97, 98]) = true := by rw [ByteArray.toList_eq]; rfl
  go_enter Tryz.func7, Tryz.ntmps7
  go_upto_region 6 with (first
    | (go_at_call 8; (with_reducible refine (en1.out _).mono ?_); rintro e w1 ⟨p, rfl, hb, ho⟩; have HB1 := Lib.hid hb; have HO1 := Lib.hid ho; clear hb ho)
    | (go_at_call 10; (with_reducible refine (cf.out _ _ _ HO1.out).mono ?_); rintro e w2 ⟨rfl, hb, ho⟩; have HB2 := Lib.hid (HB1.out.trans hb); have HO2 := Lib.hid ho; clear hb ho)
    | (go_at_call 9; (with_reducible refine (c1.out _ _ _ (errv_own HV.out HB2.out HL.out) HL.out HO2.out).mono ?_); rintro e w3 ⟨q, v, rfl, hb, ho, hr⟩; have HB3 := Lib.hid (HB2.out.trans hb); have HO3 := Lib.hid ho; obtain ⟨va, vc, rfl⟩ := own_len hr; clear hb ho hr))
  go_wp2_with (first
    | (go_at_call 27; (with_reducible refine (c2.out _ _ _ _ (errv_own HV.out HB3.out HL.out) HL.out HO3.out).mono ?_); rintro e w4 ⟨rfl, hb, ho⟩; have HB4 := Lib.hid (HB3.out.trans hb); have HO4 := Lib.hid ho; clear hb ho)
    | (go_at_call 15; (with_reducible refine (c3.out _ _ _ _ HO4.out).mono ?_); rintro e w5 ⟨rfl, hb, ho⟩; have HB5 := Lib.hid (HB4.out.trans hb); have HO5 := Lib.hid ho; clear hb ho)
    | (go_at_call 27; (with_reducible refine (c4.out _ _ _ _ (errv_own HV.out HB5.out HL.out) HL.out HO5.out).mono ?_); rintro e w6 ⟨rfl, hb, ho⟩; have HB6 := Lib.hid (HB5.out.trans hb); have HO6 := Lib.hid ho; clear hb ho)
    | (go_at_call 22; (with_reducible refine (c5.out _ _ _ _ HO6.out).mono ?_); rintro e w7 ⟨rfl, rfl⟩)
    | (go_at_call 18; (with_reducible refine (c6.out _ _ _ HO6.out.own).mono ?_); rintro e w8 ⟨rfl, hb, ho⟩; have HB8 := Lib.hid (HB6.out.trans hb); have HO8 := Lib.hid ho; clear hb ho)
    | (go_at_call 9; (with_reducible refine (c7.out _ _ _ (errv_own HV.out HB8.out HL.out) HL.out HO8.out).mono ?_); rintro e w9 ⟨q2, v2, rfl, hb, ho, hr⟩; obtain ⟨g2, k2, rfl, hcell⟩ := own_one hr; have HB9 := Lib.hid (HB8.out.trans hb); have HO9 := Lib.hid ho; clear hb ho hr)
    | (go_at_call 8; (with_reducible refine (en2.out _).mono ?_); rintro e wa ⟨pa, rfl, hb, ho⟩; have HBa := Lib.hid (below_step HB9.out hb); have HOa := Lib.hid ho; have HWa := Lib.hid hb.size; clear hb ho)
    | (go_at_call 10; (with_reducible refine (c8.out _ _ _ HOa.out).mono ?_); rintro e wb ⟨rfl, hb, ho⟩; have HBb := Lib.hid (HBa.out.trans (hb.mono HB9.out.size)); clear hb ho)
    | (go_at_call 12; (with_reducible refine (is_yes 14 _).mono ?_); rintro e wc ⟨rfl, rfl⟩))
  go_ret
  exact ⟨rfl, HBb.out⟩
end Go.Proofs.YtjincmagbbpooaaGreatDoor
end

section
set_option linter.unusedVariables false
set_option linter.unusedSimpArgs false
namespace Go.Proofs.YtjincmagbbpooaaGreatDoor
open Go.RowKit

/-! ### the document's Add (words) -/
/-- A journal as the document keeps it. -/
def rOf (sup : Nat) (J : JS) : RS := ⟨J.turn, J.which, sup, J.b.size, J.n, J.dead⟩
theorem drop_append {b x : ByteArray} {n : Nat} (h : n ≤ b.size) : dropB (b ++ x) n = dropB b n ++ x := by
  apply bys_inj
  rw [bys_dropB, bys_append, bys_append, bys_dropB, List.drop_append, bys_length, show n - b.size = 0 by omega, List.drop_zero]
theorem drop_part {b : ByteArray} {k i e : Nat} (he : e = min (dropB b (k * 64)).size ((i + 1) * 64)) (hi : i * 64 ≤ (dropB b (k * 64)).size) : (dropB b (k * 64)).extract (i * 64) e = partB b ((k + i) * 64) 64 := by
  subst he
  rw [dropB_size] at *
  apply bys_inj
  rw [part_bys, bys_extract, bys_dropB, List.drop_take, List.drop_drop, show k * 64 + i * 64 = (k + i) * 64 by omega]
  apply List.ext_getElem?
  intro j
  rw [List.getElem?_take, List.getElem?_take]
  by_cases h1 : j < 64
  · by_cases h2 : j < b.size - (k + i) * 64
    · rw [if_pos (by omega), if_pos h1]
    · have hn : ((bys b).drop ((k + i) * 64))[j]? = none := List.getElem?_eq_none (by rw [List.length_drop, bys_length]; omega)
      rw [hn]
      (repeat' split) <;> rfl
  · rw [if_neg (by omega), if_neg h1]
theorem add_eq (D : DS) (J : JS) (r : ByteArray) (h : J.dead = false) : addJ D J r =
    if D.half * 64 < J.b.size + (wrapS (J.turn * 1000000 + J.n) r).size then (D, J, 14)
    else if (putF J.which (J.b ++ wrapS (J.turn * 1000000 + J.n) r) ((J.b ++ wrapS (J.turn * 1000000 + J.n) r).size + 1) (J.b.size / 64) D).2 ≠ 0 then ((putF J.which (J.b ++ wrapS (J.turn * 1000000 + J.n) r) ((J.b ++ wrapS (J.turn * 1000000 + J.n) r).size + 1) (J.b.size / 64) D).1, { J with dead := true }, (putF J.which (J.b ++ wrapS (J.turn * 1000000 + J.n) r) ((J.b ++ wrapS (J.turn * 1000000 + J.n) r).size + 1) (J.b.size / 64) D).2)
    else ((putF J.which (J.b ++ wrapS (J.turn * 1000000 + J.n) r) ((J.b ++ wrapS (J.turn * 1000000 + J.n) r).size + 1) (J.b.size / 64) D).1, { J with b := J.b ++ wrapS (J.turn * 1000000 + J.n) r, n := J.n + 1 }, 0) := by
  have e : J.b ++ framesB J.turn J.n [r] = J.b ++ wrapS (J.turn * 1000000 + J.n) r := by
    unfold framesB
    unfold framesB
    rw [show (⟨#[]⟩ : ByteArray) = ByteArray.empty from rfl, append_empty]
  unfold addJ
  rw [if_neg (by rw [h]; decide)]
  unfold wrapJ
  rw [e, ByteArray.size_append]
  by_cases h1 : D.half * 64 < J.b.size + (wrapS (J.turn * 1000000 + J.n) r).size
  · rw [if_pos h1, if_pos h1]
    simp
  · rw [if_neg h1, if_neg h1]
    simp
end Go.Proofs.YtjincmagbbpooaaGreatDoor
end
