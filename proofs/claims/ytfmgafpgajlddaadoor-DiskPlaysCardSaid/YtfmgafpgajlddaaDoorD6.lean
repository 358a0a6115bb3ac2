import Derived.Test.YtfmgafpgajlddaaDoorD5
set_option linter.unusedVariables false
set_option linter.unusedSimpArgs false
namespace Go.Proofs.YtfmgafpgajlddaaDoor
open Go.RowKit

/-! ### one disk alone, from block B on -/
def Own (B : Nat) (w : World) (p : Nat) (D : DS) : Prop := Dsk w (fun k => B ≤ k ∧ k < w.heap.size) p D
theorem Own.ok {B : Nat} {w : World} {p : Nat} {D : DS} (h : Own B w p D) : D.ok := Dsk.ok h
theorem Own.base {B : Nat} {w : World} {p : Nat} {D : DS} (h : Own B w p D) : B ≤ w.heap.size := by
  obtain ⟨g, lv, hd, h1, -⟩ := h
  omega
theorem DskPost.own {B : Nat} {w w' : World} {p : Nat} {D : DS} (h : DskPost (fun k => B ≤ k ∧ k < w.heap.size) p w D w') (hB : B ≤ w.heap.size) : Below B w w' ∧ Own B w' p D := by
  obtain ⟨hs, hd⟩ := h
  refine ⟨⟨hs.os, hs.tape, hs.output, hs.size, fun k hk => hs.block k (by omega) (by omega)⟩, hd.mono fun k hk hp => ⟨?_, hk⟩⟩
  rcases hp with h | h <;> omega
theorem Own.below {B : Nat} {w w' : World} {p : Nat} {D : DS} (h : Own B w p D) (hb : Below w.heap.size w w') : Own B w' p D :=
  (Dsk.below h hb).mono fun k hk hp => ⟨hp.1, hk⟩
theorem New_own (w : World) (k : Int) (n : Nat) (hn : mnI (mxI k 1) 2000 = (n : Int)) (h1 : 1 ≤ n) (h2 : n ≤ 2000) :
    Calls Tryd.prog 26 #[.int .i64 k] w fun e w' => ∃ p, e = .returned (.pointer (some ⟨p, 0, none⟩)) ∧ Below w.heap.size w w' ∧ Own w.heap.size w' p (newD n) :=
  (New_any w k n hn h1 h2).mono fun e w' ⟨p, he, hs, hd⟩ => ⟨p, he, ⟨hs.os, hs.tape, hs.output, hs.size, fun k hk => hs.block k hk (fun h => h)⟩, hd.mono fun k hk hp => hp.elim False.elim (fun h => h)⟩
theorem Write_own (B : Nat) (w : World) (p : Nat) (D : DS) (i : Int) (b : ByteArray) (D' : DS) (c : Int) (er : Value) (hc : D.writeC i b = c) (he : errV c = er) (hD : D.write i b = D') (hdone : D.done < 1099511627776) (h : Own B w p D) :
    Calls Tryd.prog 29 #[.pointer (some ⟨p, 0, none⟩), .int .i64 i, .string b] w fun e w' => e = .returned er ∧ Below B w w' ∧ Own B w' p D' := by
  subst he hc hD
  exact (Write_any w _ p D i b hdone h).mono fun e w' ⟨he, hp⟩ => ⟨he, hp.own h.base⟩
theorem Write_set (F : Nat → Prop) (w : World) (p : Nat) (D : DS) (i : Int) (b : ByteArray) (D' : DS) (c : Int) (er : Value) (hc : D.writeC i b = c) (he : errV c = er) (hD : D.write i b = D') (hdone : D.done < 1099511627776) (h : Dsk w F p D) :
    Calls Tryd.prog 29 #[.pointer (some ⟨p, 0, none⟩), .int .i64 i, .string b] w fun e w' => e = .returned er ∧ Save F w w' ∧ Dsk w' (Plus F w w') p D' := by
  subst he hc hD
  exact (Write_any w _ p D i b hdone h).mono fun e w' ⟨he, hp⟩ => ⟨he, hp⟩
/-- A set between two blocks. -/
def Mid (B C : Nat) : Nat → Prop := fun k => B ≤ k ∧ k < C
theorem Save.mid {B C : Nat} {w w' : World} (h : Save (Mid B C) w w') (hB : B ≤ w.heap.size) : Below B w w' := ⟨h.os, h.tape, h.output, h.size, fun k hk => h.block k (by omega) (fun hm => by have := hm.1; omega)⟩
theorem Dsk.mid {B C : Nat} {w w' : World} {p : Nat} {D : DS} (h : Dsk w' (Plus (Mid B C) w w') p D) (hB : B ≤ w.heap.size) : Own B w' p D :=
  h.mono fun k hk hp => ⟨hp.elim (fun h => h.1) (fun h => by omega), hk⟩
theorem Read_own (B : Nat) (w : World) (p : Nat) (D : DS) (i : Int) (s : ByteArray) (c : Int) (er : Value) (hs : D.readS i = s) (hc : D.may i = c) (he : errV c = er) (h : Own B w p D) :
    Calls Tryd.prog 40 #[.pointer (some ⟨p, 0, none⟩), .int .i64 i] w fun e w' => e = .returned (.tuple #[.string s, er]) ∧ w = w' := by
  subst he hc hs
  exact Read_any w _ p D i h
theorem Flush_own (B : Nat) (w : World) (p : Nat) (D : DS) (D' : DS) (c : Int) (er : Value) (hc : D.flushC = c) (he : errV c = er) (hD : D.flush = D') (h : Own B w p D) :
    Calls Tryd.prog 31 #[.pointer (some ⟨p, 0, none⟩)] w fun e w' => e = .returned er ∧ Below B w w' ∧ Own B w' p D' := by
  subst he hc hD
  exact (Flush_any w _ p D h).mono fun e w' ⟨he, hp⟩ => ⟨he, hp.own h.base⟩
theorem Cut_own (B : Nat) (w : World) (p : Nat) (D : DS) (k : Int) (D' : DS) (hk : k ≤ 9223372036854775807) (hD : D.cut k = D') (h : Own B w p D) :
    Calls Tryd.prog 33 #[.pointer (some ⟨p, 0, none⟩), .int .i64 k] w fun e w' => e = .returned (.tuple #[]) ∧ Below B w w' ∧ Own B w' p D' := by
  subst hD
  exact (Cut_any w _ p D k hk h).mono fun e w' ⟨he, hp⟩ => ⟨he, hp.own h.base⟩
theorem Crash_own (B : Nat) (w : World) (p : Nat) (D : DS) (a : Option Addr) (n c : Nat) (l : List Bool) (torn : Int) (D' : DS) (hn : l.length = n) (hl : n ≤ 9223372036854775807) (hD : D.crash (keepOf l) torn = D') (hb : BoolsAt w a l) (hf : 0 < l.length → ∀ b off, a = some ⟨b, off, none⟩ → b < B) (h : Own B w p D) :
    Calls Tryd.prog 35 #[.pointer (some ⟨p, 0, none⟩), .slice a n c, .int .i64 torn] w fun e w' => e = .returned (.tuple #[]) ∧ Below B w w' ∧ Own B w' p D' := by
  subst hD hn
  exact (Crash_any w _ p D a c l torn hl h hb (fun hl b off e hk => by have := hf hl b off e; omega) (fun k hk => hk.2)).mono fun e w' ⟨he, hp⟩ => ⟨he, hp.own h.base⟩
theorem Len_own (B : Nat) (w : World) (p : Nat) (D : DS) (n : Int) (hn : (D.sure.length : Int) = n) (h : Own B w p D) :
    Calls Tryd.prog 37 #[.pointer (some ⟨p, 0, none⟩)] w fun e w' => e = .returned (.int .i64 n) ∧ w = w' := by
  subst hn
  exact Len_any w _ p D h
theorem Writes_own (B : Nat) (w : World) (p : Nat) (D : DS) (n : Int) (hn : (D.done : Int) = n) (h : Own B w p D) :
    Calls Tryd.prog 38 #[.pointer (some ⟨p, 0, none⟩)] w fun e w' => e = .returned (.int .i64 n) ∧ w = w' := by
  subst hn
  exact Writes_any w _ p D h
theorem Loose_own (B : Nat) (w : World) (p : Nat) (D : DS) (n : Int) (hn : (D.loose.length : Int) = n) (h : Own B w p D) :
    Calls Tryd.prog 39 #[.pointer (some ⟨p, 0, none⟩)] w fun e w' => e = .returned (.int .i64 n) ∧ w = w' := by
  subst hn
  exact Loose_any w _ p D h
theorem below_same {B : Nat} {a b c : World} (h : Below B a b) (k : Below B b c) : Below B a c := h.trans k

/-! ### the statements' first look -/
set_option maxHeartbeats 8000000 in
set_option maxRecDepth 100000 in
theorem known1_any (w : World) : Calls Tryd.prog 25 #[] w fun e w' => e = .returned (.bool true) ∧ Below w.heap.size w w' := by
  obtain ⟨B, hB⟩ : ∃ B, B = w.heap.size := ⟨_, rfl⟩
  have cn := New_own w 4 4 (by decide) (by omega) (by omega)
  rw [← hB] at cn ⊢
  obtain ⟨D1, hD1⟩ : ∃ D1, (newD 4).write 1 ⟨#[97, 98]⟩ = D1 := ⟨_, rfl⟩
  obtain ⟨s1, hs1⟩ : ∃ s1, D1.readS 1 = s1 := ⟨_, rfl⟩
  have v1 : s1.size = 64 := by rw [← hs1, ← hD1]; decide
  have v2 : s1.extract 0 2 = ⟨#[97, 98]⟩ := by rw [← hs1, ← hD1]; decide
  obtain ⟨D2, hD2⟩ : ∃ D2, D1.crash (keepOf []) 0 = D2 := ⟨_, rfl⟩
  obtain ⟨s2, hs2⟩ : ∃ s2, D2.readS 1 = s2 := ⟨_, rfl⟩
  have v3 : s2.size = 64 := by rw [← hs2, ← hD2, ← hD1]; decide
  have v4 : (s2[0]'(by omega)).toNat = 0 := by
    have : s2 = zeroB 64 := by rw [← hs2, ← hD2, ← hD1]; decide
    subst this
    rfl
  obtain ⟨D3, hD3⟩ : ∃ D3, D2.cut 0 = D3 := ⟨_, rfl⟩
  obtain ⟨D4, hD4⟩ : ∃ D4, D3.write 0 ⟨#[120]⟩ = D4 := ⟨_, rfl⟩
  have cw1 := Lib.hid (fun w p => Write_own B w p (newD 4) 1 ⟨#[97, 98]⟩ D1 0 .nilIface (by decide) rfl hD1 (by decide))
  have cr1 := Lib.hid (fun w p => Read_own B w p D1 1 s1 0 .nilIface hs1 (by rw [← hD1]; decide) rfl)
  have cw2 := Lib.hid (fun w p => Write_own B w p D1 9 ⟨#[120]⟩ D1 14 (.iface 34 (.int .i64 14)) (by rw [← hD1]; decide) rfl (by rw [← hD1]; rfl) (by rw [← hD1]; decide))
  have cc := Lib.hid (fun w p => Crash_own B w p D1 none 0 0 [] 0 D2 rfl (by omega) hD2 (BoolsAt.nil _ _) (fun hl b off h => by cases h))
  have cr2 := Lib.hid (fun w p => Read_own B w p D2 1 s2 0 .nilIface hs2 (by rw [← hD2, ← hD1]; decide) rfl)
  have cu := Lib.hid (fun w p => Cut_own B w p D2 0 D3 (by omega) hD3)
  have cw3 := Lib.hid (fun w p => Write_own B w p D3 0 ⟨#[120]⟩ D4 25 (.iface 34 (.int .i64 25)) (by rw [← hD3, ← hD2, ← hD1]; decide) rfl hD4 (by rw [← hD3, ← hD2, ← hD1]; decide))
  have cr3 := Lib.hid (fun w p => Read_own B w p D4 0 ⟨#[]⟩ 25 (.iface 34 (.int .i64 25)) (by rw [← hD4, ← hD3, ← hD2, ← hD1]; decide) (by rw [← hD4, ← hD3, ← hD2, ← hD1]; decide) rfl)
  have cl := Lib.hid (fun w p => Len_own B w p D4 4 (by rw [← hD4, ← hD3, ← hD2, ← hD1]; decide))
  have cws := Lib.hid (fun w p => Writes_own B w p D4 1 (by rw [← hD4, ← hD3, ← hD2, ← hD1]; decide))
  replace cn := Lib.hid cn
  clear hD1 hs1 hD2 hs2 hD3 hD4 hB
  go_enter Tryd.func25, Tryd.ntmps25
  go_wp2_with (first
    | (go_at_call 26; (with_reducible refine cn.out.mono ?_); rintro e w1 ⟨p, rfl, hb, ho⟩; have HB := Lib.hid hb; have HO := Lib.hid ho; clear hb ho)
    | (go_at_call 29; (with_reducible refine (cw1.out _ _ HO.out).mono ?_); rintro e w1 ⟨rfl, hb, ho⟩; replace HB := Lib.hid (HB.out.trans hb); have HO1 := Lib.hid ho; clear hb ho HO)
    | (go_at_call 40; (with_reducible refine (cr1.out _ _ HO1.out).mono ?_); rintro e w1 ⟨rfl, rfl⟩)
    | (go_at_call 29; (with_reducible refine (cw2.out _ _ HO1.out).mono ?_); rintro e w1 ⟨rfl, hb, ho⟩; replace HB := Lib.hid (HB.out.trans hb); replace HO1 := Lib.hid ho; clear hb ho)
    | (go_at_call 35; (with_reducible refine (cc.out _ _ HO1.out).mono ?_); rintro e w1 ⟨rfl, hb, ho⟩; replace HB := Lib.hid (HB.out.trans hb); have HO2 := Lib.hid ho; clear hb ho HO1)
    | (go_at_call 40; (with_reducible refine (cr2.out _ _ HO2.out).mono ?_); rintro e w1 ⟨rfl, rfl⟩)
    | (go_at_call 33; (with_reducible refine (cu.out _ _ HO2.out).mono ?_); rintro e w1 ⟨rfl, hb, ho⟩; replace HB := Lib.hid (HB.out.trans hb); have HO3 := Lib.hid ho; clear hb ho HO2)
    | (go_at_call 29; (with_reducible refine (cw3.out _ _ HO3.out).mono ?_); rintro e w1 ⟨rfl, hb, ho⟩; replace HB := Lib.hid (HB.out.trans hb); have HO4 := Lib.hid ho; clear hb ho HO3)
    | (go_at_call 40; (with_reducible refine (cr3.out _ _ HO4.out).mono ?_); rintro e w1 ⟨rfl, rfl⟩)
    | (go_at_call 37; (with_reducible refine (cl.out _ _ HO4.out).mono ?_); rintro e w1 ⟨rfl, rfl⟩)
    | (go_at_call 38; (with_reducible refine (cws.out _ _ HO4.out).mono ?_); rintro e w1 ⟨rfl, rfl⟩)
    | (go_at_call 16; (with_reducible refine (is_yes 14 _).mono ?_); rintro e w1 ⟨rfl, rfl⟩)
    | (go_at_call 16; (with_reducible refine (is_yes 25 _).mono ?_); rintro e w1 ⟨rfl, rfl⟩))
  go_ret
  exact ⟨rfl, HB.out⟩
end Go.Proofs.YtfmgafpgajlddaaDoor
