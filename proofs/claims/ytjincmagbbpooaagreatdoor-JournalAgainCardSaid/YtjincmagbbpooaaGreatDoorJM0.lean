import Derived.Test.YtjincmagbbpooaaGreatDoorQ4
import Derived.Test.YtjincmagbbpooaaGreatDoorD6
set_option linter.unusedVariables false
set_option linter.unusedSimpArgs false
namespace Go.Proofs.YtjincmagbbpooaaGreatDoor
open Go.RowKit

/-! ### journals, as they are meant -/
def DS.half (D : DS) : Nat := (D.sure.length - 2) / 2
def DS.sec (D : DS) (which i : Nat) : Nat := 2 + which * D.half + i
/-- So many bytes from one on, as far as there are some. -/
def partB (b : ByteArray) (i n : Nat) : ByteArray := b.extract (min i b.size) (min (min i b.size + n) b.size)
/-- Sectors of a half that are not as they should be, from one on, are written: the disk, how many, the error. -/
def diffF (which : Nat) (b : ByteArray) : Nat → Nat → Nat → DS → DS × Nat × Int
  | 0, _, n, D => (D, n, 0)
  | f + 1, i, n, D =>
    if D.may (D.sec which i) ≠ 0 then (D, n, D.may (D.sec which i))
    else if D.readS (D.sec which i) = fillB (partB b (i * 64) 64) then diffF which b f (i + 1) n D
    else if D.writeC (D.sec which i) (fillB (partB b (i * 64) 64)) ≠ 0 then (D.write (D.sec which i) (fillB (partB b (i * 64) 64)), n, D.writeC (D.sec which i) (fillB (partB b (i * 64) 64)))
    else diffF which b f (i + 1) (n + 1) (D.write (D.sec which i) (fillB (partB b (i * 64) 64)))
def DS.diff (D : DS) (which : Nat) (b : ByteArray) (i : Nat) : DS × Nat × Int := diffF which b (D.half - i) i 0 D
def superB (turn which : Nat) : ByteArray := wrapS turn (strN (numB which))
def DS.super (D : DS) (at_ turn which : Nat) : DS × Int :=
  if D.writeC at_ (superB turn which) ≠ 0 then (D.write at_ (superB turn which), D.writeC at_ (superB turn which))
  else ((D.write at_ (superB turn which)).flush, (D.write at_ (superB turn which)).flushC)
def DS.format (D : DS) : DS × Int :=
  if D.sure.length < 4 then (D, 14)
  else if D.writeC 1 ⟨#[]⟩ ≠ 0 then (D.write 1 ⟨#[]⟩, D.writeC 1 ⟨#[]⟩)
  else if ((D.write 1 ⟨#[]⟩).diff 0 ⟨#[]⟩ 0).2.2 ≠ 0 then (((D.write 1 ⟨#[]⟩).diff 0 ⟨#[]⟩ 0).1, ((D.write 1 ⟨#[]⟩).diff 0 ⟨#[]⟩ 0).2.2)
  else if ((D.write 1 ⟨#[]⟩).diff 0 ⟨#[]⟩ 0).1.flushC ≠ 0 then (((D.write 1 ⟨#[]⟩).diff 0 ⟨#[]⟩ 0).1.flush, ((D.write 1 ⟨#[]⟩).diff 0 ⟨#[]⟩ 0).1.flushC)
  else (((D.write 1 ⟨#[]⟩).diff 0 ⟨#[]⟩ 0).1.flush).super 0 1 0
/-- Are all bytes 0? -/
def zerosB (b : ByteArray) : Bool := b.data.toList.all (· == 0)
/-- A superblock: its turn, its half; a turn of 0: it is none. -/
def readB (b : ByteArray) : Nat × Nat :=
  if (textR b 64).2.2 ≠ 0 ∨ (numS (textR b 64).1).2.2 ≠ 0 then (0, 0)
  else if (openR b (numS (textR b 64).1).1).2.2 ≠ 0 ∨ (numS (openR b (numS (textR b 64).1).1).1).2.2 ≠ 0
    ∨ dropB (openR b (numS (textR b 64).1).1).1 (numS (openR b (numS (textR b 64).1).1).1).2.1 ≠ ⟨#[]⟩
    ∨ 1 < (numS (openR b (numS (textR b 64).1).1).1).1 ∨ zerosB (openR b (numS (textR b 64).1).1).2.1 = false then (0, 0)
  else ((numS (textR b 64).1).1, (numS (openR b (numS (textR b 64).1).1).1).1)
/-- The superblock that counts: turn, half, error. -/
def newer (x y : Nat × Nat) : Nat × Nat := if x.1 < y.1 then y else x
def DS.newest (D : DS) : Nat × Nat × Int :=
  if D.may 0 ≠ 0 then (0, 0, D.may 0)
  else if D.may 1 ≠ 0 then (0, 0, D.may 1)
  else if (newer (newer (0, 0) (readB (D.readS 0))) (readB (D.readS 1))).1 = 0 then (0, 0, 10)
  else ((newer (newer (0, 0) (readB (D.readS 0))) (readB (D.readS 1))).1, (newer (newer (0, 0) (readB (D.readS 0))) (readB (D.readS 1))).2, 0)
/-- All bytes of a half, from one sector on. -/
def joinF (D : DS) (which : Nat) : Nat → Nat → ByteArray
  | 0, _ => ⟨#[]⟩
  | f + 1, i => D.readS (D.sec which i) ++ joinF D which f (i + 1)
/-- Records one behind the other: those that are there, what is behind. -/
def recsF (turn : Nat) : Nat → Nat → ByteArray → List ByteArray × ByteArray
  | 0, _, s => ([], s)
  | f + 1, k, s =>
    if (openR s ((turn * 1000000 + k : Nat) : Int)).2.2 ≠ 0 then ([], s)
    else ((openR s ((turn * 1000000 + k : Nat) : Int)).1 :: (recsF turn f (k + 1) (openR s ((turn * 1000000 + k : Nat) : Int)).2.1).1, (recsF turn f (k + 1) (openR s ((turn * 1000000 + k : Nat) : Int)).2.1).2)
structure JS where
  turn : Nat
  which : Nat
  b : ByteArray
  n : Nat
  dead : Bool
def recsOf (turn : Nat) (s : ByteArray) : List ByteArray × ByteArray := recsF turn (s.size + 1) 0 s

/-! ### what a walk over a disk keeps -/
section
variable {F : Nat → Prop} {p : Nat} {w w1 w2 : World} {D D1 D2 : DS}
theorem DskPost.dsk (h : DskPost F p w D w1) : Dsk w1 (Plus F w w1) p D := h.2
theorem DskPost.start (h : Dsk w F p D) : DskPost F p w D w := ⟨Save.refl _ _, h.mono fun k _ hk => .inl hk⟩
theorem DskPost.then (h : DskPost F p w D1 w1) (k : DskPost (Plus F w w1) p w1 D2 w2) : DskPost F p w D2 w2 := by
  refine ⟨h.1.trans k.1, k.2.mono fun x hx hp => ?_⟩
  have h1 := h.1.size
  rcases hp with (hp | hp) | hp
  · exact .inl hp
  · exact .inr ⟨hp.1, Nat.lt_of_lt_of_le hp.2 k.1.size⟩
  · exact .inr ⟨by omega, hp.2⟩
theorem DskPost.below (h : DskPost F p w D w1) (hb : Below w1.heap.size w1 w2) : DskPost F p w D w2 :=
  ⟨h.1.belowStep hb, (h.2.below hb).mono fun k hk hp => hp.elim .inl (fun h => .inr ⟨h.1, hk⟩)⟩
theorem DskPost.quiet (h : DskPost F p w D w1) (n : Nat) : DskPost F p w D (w1.drewN n) := h.below (below_drewN _ _)
end
end Go.Proofs.YtjincmagbbpooaaGreatDoor
