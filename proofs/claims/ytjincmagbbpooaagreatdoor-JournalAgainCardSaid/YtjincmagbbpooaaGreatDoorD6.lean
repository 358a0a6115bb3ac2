import Derived.Test.YtjincmagbbpooaaGreatDoorD5
set_option linter.unusedVariables false
set_option linter.unusedSimpArgs false
namespace Go.Proofs.YtjincmagbbpooaaGreatDoor
open Go.RowKit

/-! ### one disk alone, from block B on -/
def Own (B : Nat) (w : World) (p : Nat) (D : DS) : Prop := Dsk w (fun k => B ≤ k ∧ k < w.heap.size) p D
theorem Own.ok {B : Nat} {w : World} {p : Nat} {D : DS} (h : Own B w p D) : D.ok := Dsk.ok h
theorem Own.base {B : Nat} {w : World} {p : Nat} {D : DS} (h : Own B w p D) : B ≤ w.heap.size := by
  obtain ⟨g, lv, hd, h1, -⟩ := h
  omega
theorem DskPost.own {B : Nat} {w w' : World} {p : Nat} {D : DS} (h : DskPost (fun k => B ≤ k ∧ k < w.heap.size) p w D w') (hB : B ≤ w.heap.size) : Below B w w' ∧ Own B w' p D := by
  obtain ⟨hs, hd⟩ := h
  refine ⟨⟨hs.os, hs.tape, hs.output, hs.size, fun k hk => hs.block k (by omega) (by omega)⟩, hd.mono fun k hk hp => ⟨?_, hk⟩⟩
  rcases hp with h | h <;> omega
theorem Own.below {B : Nat} {w w' : World} {p : Nat} {D : DS} (h : Own B w p D) (hb : Below w.heap.size w w') : Own B w' p D :=
  (Dsk.below h hb).mono fun k hk hp => ⟨hp.1, hk⟩
theorem New_own (w : World) (k : Int) (n : Nat) (hn : mnI (mxI k 1) 2000 = (n : Int)) (h1 : 1 ≤ n) (h2 : n ≤ 2000) :
    Calls Tryz.prog 8 #[.int .i64 k] w fun e w' => ∃ p, e = .returned (.pointer (some ⟨p, 0, none⟩)) ∧ Below w.heap.size w w' ∧ Own w.heap.size w' p (newD n) :=
  (New_any w k n hn h1 h2).mono fun e w' ⟨p, he, hs, hd⟩ => ⟨p, he, ⟨hs.os, hs.tape, hs.output, hs.size, fun k hk => hs.block k hk (fun h => h)⟩, hd.mono fun k hk hp => hp.elim False.elim (fun h => h)⟩
theorem Write_own (B : Nat) (w : World) (p : Nat) (D : DS) (i : Int) (b : ByteArray) (D' : DS) (c : Int) (er : Value) (hc : D.writeC i b = c) (he : errV c = er) (hD : D.write i b = D') (hdone : D.done < 1099511627776) (h : Own B w p D) :
    Calls Tryz.prog 11 #[.pointer (some ⟨p, 0, none⟩), .int .i64 i, .string b] w fun e w' => e = .returned er ∧ Below B w w' ∧ Own B w' p D' := by
  subst he hc hD
  exact (Write_any w _ p D i b hdone h).mono fun e w' ⟨he, hp⟩ => ⟨he, hp.own h.base⟩
theorem Write_set (F : Nat → Prop) (w : World) (p : Nat) (D : DS) (i : Int) (b : ByteArray) (D' : DS) (c : Int) (er : Value) (hc : D.writeC i b = c) (he : errV c = er) (hD : D.write i b = D') (hdone : D.done < 1099511627776) (h : Dsk w F p D) :
    Calls Tryz.prog 11 #[.pointer (some ⟨p, 0, none⟩), .int .i64 i, .string b] w fun e w' => e = .returned er ∧ Save F w w' ∧ Dsk w' (Plus F w w') p D' := by
  subst he hc hD
  exact (Write_any w _ p D i b hdone h).mono fun e w' ⟨he, hp⟩ => ⟨he, hp⟩
/-- A set between two blocks. -/
def Mid (B C : Nat) : Nat → Prop := fun k => B ≤ k ∧ k < C
theorem Save.mid {B C : Nat} {w w' : World} (h : Save (Mid B C) w w') (hB : B ≤ w.heap.size) : Below B w w' := ⟨h.os, h.tape, h.output, h.size, fun k hk => h.block k (by omega) (fun hm => by have := hm.1; omega)⟩
theorem Dsk.mid {B C : Nat} {w w' : World} {p : Nat} {D : DS} (h : Dsk w' (Plus (Mid B C) w w') p D) (hB : B ≤ w.heap.size) : Own B w' p D :=
  h.mono fun k hk hp => ⟨hp.elim (fun h => h.1) (fun h => by omega), hk⟩
theorem Read_own (B : Nat) (w : World) (p : Nat) (D : DS) (i : Int) (s : ByteArray) (c : Int) (er : Value) (hs : D.readS i = s) (hc : D.may i = c) (he : errV c = er) (h : Own B w p D) :
    Calls Tryz.prog 33 #[.pointer (some ⟨p, 0, none⟩), .int .i64 i] w fun e w' => e = .returned (.tuple #[.string s, er]) ∧ w = w' := by
  subst he hc hs
  exact Read_any w _ p D i h
theorem Flush_own (B : Nat) (w : World) (p : Nat) (D : DS) (D' : DS) (c : Int) (er : Value) (hc : D.flushC = c) (he : errV c = er) (hD : D.flush = D') (h : Own B w p D) :
    Calls Tryz.prog 46 #[.pointer (some ⟨p, 0, none⟩)] w fun e w' => e = .returned er ∧ Below B w w' ∧ Own B w' p D' := by
  subst he hc hD
  exact (Flush_any w _ p D h).mono fun e w' ⟨he, hp⟩ => ⟨he, hp.own h.base⟩
theorem Cut_own (B : Nat) (w : World) (p : Nat) (D : DS) (k : Int) (D' : DS) (hk : k ≤ 9223372036854775807) (hD : D.cut k = D') (h : Own B w p D) :
    Calls Tryz.prog 16 #[.pointer (some ⟨p, 0, none⟩), .int .i64 k] w fun e w' => e = .returned (.tuple #[]) ∧ Below B w w' ∧ Own B w' p D' := by
  subst hD
  exact (Cut_any w _ p D k hk h).mono fun e w' ⟨he, hp⟩ => ⟨he, hp.own h.base⟩
theorem Crash_own (B : Nat) (w : World) (p : Nat) (D : DS) (a : Option Addr) (n c : Nat) (l : List Bool) (torn : Int) (D' : DS) (hn : l.length = n) (hl : n ≤ 9223372036854775807) (hD : D.crash (keepOf l) torn = D') (hb : BoolsAt w a l) (hf : 0 < l.length → ∀ b off, a = some ⟨b, off, none⟩ → b < B) (h : Own B w p D) :
    Calls Tryz.prog 18 #[.pointer (some ⟨p, 0, none⟩), .slice a n c, .int .i64 torn] w fun e w' => e = .returned (.tuple #[]) ∧ Below B w w' ∧ Own B w' p D' := by
  subst hD hn
  exact (Crash_any w _ p D a c l torn hl h hb (fun hl b off e hk => by have := hf hl b off e; omega) (fun k hk => hk.2)).mono fun e w' ⟨he, hp⟩ => ⟨he, hp.own h.base⟩
theorem Len_own (B : Nat) (w : World) (p : Nat) (D : DS) (n : Int) (hn : (D.sure.length : Int) = n) (h : Own B w p D) :
    Calls Tryz.prog 36 #[.pointer (some ⟨p, 0, none⟩)] w fun e w' => e = .returned (.int .i64 n) ∧ w = w' := by
  subst hn
  exact Len_any w _ p D h
theorem Writes_own (B : Nat) (w : World) (p : Nat) (D : DS) (n : Int) (hn : (D.done : Int) = n) (h : Own B w p D) :
    Calls Tryz.prog 21 #[.pointer (some ⟨p, 0, none⟩)] w fun e w' => e = .returned (.int .i64 n) ∧ w = w' := by
  subst hn
  exact Writes_any w _ p D h
theorem below_same {B : Nat} {a b c : World} (h : Below B a b) (k : Below B b c) : Below B a c := h.trans k

end Go.Proofs.YtjincmagbbpooaaGreatDoor
