import Derived.Test.YtdjcomlpedokeaaTP0
import Derived.Deep.DeepCutAuto
import Derived.Deep.CutBlock
set_option linter.unusedVariables false
set_option linter.unusedSimpArgs false
namespace Go.Proofs.Ytdjcomlpedokeaa
open Go.RowKit

structure DoneAt (w wr : World) (kv nv : Value) (key : ByteArray) (n : Int) (del : Bool) (v1 v2 : Value) (X : List (ByteArray × Int)) : Prop where
  m : Blk wr w.heap.size 30 #[kv, nv]
  s : Blk wr (w.heap.size + 1) 33 #[.string key, .int .i64 n, .bool del]
  r : Blk wr (w.heap.size + 2) 30 #[.slice none 0 0, .slice none 0 0]
  x : Blk wr (w.heap.size + 3) 30 #[v1, v2]
  own : MdIn wr (w.heap.size + 4) v1 v2 X
  below : Below w.heap.size w wr
def DonePost (w : World) (l : List (ByteArray × Int)) (e : Ending) (w' : World) : Prop :=
  ∃ kv nv, e = .returned (.agg #[kv, nv]) ∧ MdIn w' w.heap.size kv nv l ∧ Below w.heap.size w w'

/-- What the loads of one statement find; behind which of its stores it is no more so. -/
def xS (X : Nat) (P3 P4 P5 P6 : Addr) (U1 U2 U3 U4 U5 U6 : Value) : Nat → World → Prop := fun q w' => match q with
  | 1 => w'.cell? ⟨X, 0, none⟩ = some U1
  | 2 => w'.cell? ⟨X, 1, none⟩ = some U2
  | 3 => w'.cell? P3 = some U3
  | 4 => w'.cell? P4 = some U4
  | 5 => w'.cell? P5 = some U5
  | 6 => w'.cell? P6 = some U6
  | _ => True
def xD (s1 s2 : Nat) : Nat → List Nat := fun q => match q with
  | 1 => [s1]
  | 2 => [s2]
  | _ => []
def XNe (X : Nat) (P3 P4 P5 P6 : Addr) : Prop := P3.block ≠ X ∧ P4.block ≠ X ∧ P5.block ≠ X ∧ P6.block ≠ X
theorem xS_st {X : Nat} {P3 P4 P5 P6 : Addr} {U1 U2 U3 U4 U5 U6 : Value} {o q : Nat} {w w' : World} {v : Value} (hw : w' = w.setCell ⟨X, o, none⟩ v) (hn : XNe X P3 P4 P5 P6) (hq : q = o + 1 → q ≠ 1 ∧ q ≠ 2) (hs : xS X P3 P4 P5 P6 U1 U2 U3 U4 U5 U6 q w) : xS X P3 P4 P5 P6 U1 U2 U3 U4 U5 U6 q w' := by
  subst hw
  have key : ∀ p : Addr, (p.block ≠ X ∨ p.off ≠ o) → (w.setCell ⟨X, o, none⟩ v).cell? p = w.cell? p := fun p hp => World.cell?_setCell_other w _ _ _ (fun e => by subst e; exact hp.elim (fun h => h rfl) (fun h => h rfl))
  obtain ⟨n3, n4, n5, n6⟩ := hn
  match q, hq, hs with
  | 0, _, _ => exact trivial
  | 1, hq, hs => exact (key _ (.inr (fun e => (hq (by have : 0 = o := e; omega)).1 rfl))).trans hs
  | 2, hq, hs => exact (key _ (.inr (fun e => (hq (by have : 1 = o := e; omega)).2 rfl))).trans hs
  | 3, _, hs => exact (key _ (.inl n3)).trans hs
  | 4, _, hs => exact (key _ (.inl n4)).trans hs
  | 5, _, hs => exact (key _ (.inl n5)).trans hs
  | 6, _, hs => exact (key _ (.inl n6)).trans hs
  | _ + 7, _, _ => exact trivial
theorem xS_1 {X : Nat} {P3 P4 P5 P6 : Addr} {U1 U2 U3 U4 U5 U6 : Value} {q : Nat} {w w' : World} {v : Value} (hw : w' = w.setCell ⟨X, 0, none⟩ v) (hn : XNe X P3 P4 P5 P6) (hq : q ≠ 1) (hs : xS X P3 P4 P5 P6 U1 U2 U3 U4 U5 U6 q w) : xS X P3 P4 P5 P6 U1 U2 U3 U4 U5 U6 q w' :=
  xS_st hw hn (fun e => absurd e hq) hs
theorem xS_2 {X : Nat} {P3 P4 P5 P6 : Addr} {U1 U2 U3 U4 U5 U6 : Value} {q : Nat} {w w' : World} {v : Value} (hw : w' = w.setCell ⟨X, 1, none⟩ v) (hn : XNe X P3 P4 P5 P6) (hq : q ≠ 2) (hs : xS X P3 P4 P5 P6 U1 U2 U3 U4 U5 U6 q w) : xS X P3 P4 P5 P6 U1 U2 U3 U4 U5 U6 q w' :=
  xS_st hw hn (fun e => absurd e hq) hs
theorem doneG_cons (key : ByteArray) (n : Int) (d : Bool) (k : ByteArray) (m : Int) (r : List (ByteArray × Int)) : doneG key n d ((k, m) :: r) = (if insAt d key k = true then [(key, n)] else []) ++ (if k = key then [] else [(k, m)]) ++ doneG key n (d || insAt d key k) r := rfl
theorem sz_alloc (w : World) (o : Obj) : (w.alloc o).heap.size = w.heap.size + 1 := by simp
theorem blk_new_of {w : World} {base : Nat} {e : TypeId} {size n : Nat} {v : Value} {xs : List Value} (h : w.ownsRow base e size v n xs) (t : TypeId) (cs : Array Value) : Blk (w.alloc (.cells cs t)) w.heap.size t cs := Blk.new w t cs
theorem DoneAt.drewN {w wr : World} {kv nv : Value} {key : ByteArray} {n : Int} {del : Bool} {v1 v2 : Value} {X : List (ByteArray × Int)} (h : DoneAt w wr kv nv key n del v1 v2 X) (m : Nat) : DoneAt w (wr.drewN m) kv nv key n del v1 v2 X :=
  ⟨h.m, h.s, h.r, h.x, h.own.same fun _ _ => rfl, h.below.trans (below_drewN _ _)⟩
theorem done_close {w W1 w2 : World} {kv nv : Value} {key a : ByteArray} {n c : Int} {del : Bool} {b1 b2 : Option Addr} {k1 k2 Z CC XX h1 h2 cap1 cap2 : Nat} {X : List (ByteArray × Int)}
    (HD : DoneAt w W1 kv nv key n del (.slice b1 Z k1) (.slice b2 Z k2) X) (hC : CC = w.heap.size + 4) (hXX : XX = w.heap.size + 3) (HB : Below CC W1 w2) (hZ : Z = X.length)
    (HO1 : w2.ownsRow CC 9 1 (.slice (some ⟨h1, 0, none⟩) (Z + 1) cap1) (Z + 1) (keysV X ++ [.string a]))
    (HO2 : w2.ownsRow CC 3 1 (.slice (some ⟨h2, 0, none⟩) (Z + 1) cap2) (Z + 1) (numsV X ++ [.int .i64 c])) :
    DoneAt w ((w2.setCell ⟨XX, 0, none⟩ (.slice (some ⟨h1, 0, none⟩) (Z + 1) cap1)).setCell ⟨XX, 1, none⟩ (.slice (some ⟨h2, 0, none⟩) (Z + 1) cap2)) kv nv key n del (.slice (some ⟨h1, 0, none⟩) (Z + 1) cap1) (.slice (some ⟨h2, 0, none⟩) (Z + 1) cap2) (X ++ [(a, c)]) := by
  subst hC hXX hZ
  have keep : ∀ g t cs, g < w.heap.size + 3 → Blk W1 g t cs → Blk ((w2.setCell ⟨w.heap.size + 3, 0, none⟩ (.slice (some ⟨h1, 0, none⟩) (X.length + 1) cap1)).setCell ⟨w.heap.size + 3, 1, none⟩ (.slice (some ⟨h2, 0, none⟩) (X.length + 1) cap2)) g t cs := fun g t cs hg hb =>
    (Blk.far ((HB.block g (by omega)).trans hb) (by show g ≠ w.heap.size + 3; omega) _).far (by show g ≠ w.heap.size + 3; omega) _
  have far : ∀ {e : TypeId} {v : Value} {m : Nat} {xs : List Value}, w2.ownsRow (w.heap.size + 4) e 1 v m xs → ((w2.setCell ⟨w.heap.size + 3, 0, none⟩ (.slice (some ⟨h1, 0, none⟩) (X.length + 1) cap1)).setCell ⟨w.heap.size + 3, 1, none⟩ (.slice (some ⟨h2, 0, none⟩) (X.length + 1) cap2)).ownsRow (w.heap.size + 4) e 1 v m xs := fun h =>
    own_same (own_same h fun q hq => Below.heap_setCell _ _ _ _ (by have := (h.lt q hq).1; show q ≠ w.heap.size + 3; omega)) fun q hq => Below.heap_setCell _ _ _ _ (by have := (h.lt q hq).1; show q ≠ w.heap.size + 3; omega)
  have hlen : (X ++ [(a, c)]).length = X.length + 1 := by simp
  refine ⟨keep _ _ _ (by omega) HD.m, keep _ _ _ (by omega) HD.s, keep _ _ _ (by omega) HD.r, ?_, ⟨?_, ?_⟩, ?_⟩
  · have := ((show Blk w2 (w.heap.size + 3) _ _ from (HB.block _ (by omega)).trans HD.x).set_ 0 (.slice (some ⟨h1, 0, none⟩) (X.length + 1) cap1)).set_ 1 (.slice (some ⟨h2, 0, none⟩) (X.length + 1) cap2)
    exact this
  · have := far HO1
    rw [hlen]
    have e : keysV (X ++ [(a, c)]) = keysV X ++ [.string a] := by simp [keysV]
    rw [e]
    exact this
  · have := far HO2
    rw [hlen]
    have e : numsV (X ++ [(a, c)]) = numsV X ++ [.int .i64 c] := by simp [numsV]
    rw [e]
    exact this
  · exact ((HD.below.trans (HB.mono (by omega))).setCell (by show w.heap.size ≤ w.heap.size + 3; omega) _).setCell (by show w.heap.size ≤ w.heap.size + 3; omega) _
theorem own_mono {w : World} {base base' : Nat} {e : TypeId} {size n : Nat} {v : Value} {xs : List Value} (h : w.ownsRow base e size v n xs) (hb : base' ≤ base) : w.ownsRow base' e size v n xs := by
  refine ⟨h.1, ?_⟩
  rcases h.2 with h0 | ⟨g', cap, cur, rfl, hb', hh, hr⟩
  · exact .inl h0
  · exact .inr ⟨g', cap, cur, rfl, Nat.le_trans hb hb', hh, hr⟩
theorem done_out {w wr : World} {kv nv : Value} {key : ByteArray} {n : Int} {del : Bool} {v1 v2 : Value} {X : List (ByteArray × Int)} (hD : DoneAt w wr kv nv key n del v1 v2 X) :
    DonePost w X (.returned (.agg #[v1, v2])) ((wr.setCell ⟨w.heap.size + 1 + 1, 0, none⟩ v1).setCell ⟨w.heap.size + 1 + 1, 1, none⟩ v2) := by
  have far : ∀ {e : TypeId} {v : Value} {m : Nat} {xs : List Value}, wr.ownsRow (w.heap.size + 4) e 1 v m xs → ((wr.setCell ⟨w.heap.size + 1 + 1, 0, none⟩ v1).setCell ⟨w.heap.size + 1 + 1, 1, none⟩ v2).ownsRow (w.heap.size + 4) e 1 v m xs := fun h =>
    own_same (own_same h fun q hq => Below.heap_setCell _ _ _ _ (by have := (h.lt q hq).1; show q ≠ w.heap.size + 1 + 1; omega)) fun q hq => Below.heap_setCell _ _ _ _ (by have := (h.lt q hq).1; show q ≠ w.heap.size + 1 + 1; omega)
  exact ⟨v1, v2, rfl, ⟨own_mono (far hD.own.k) (by omega), own_mono (far hD.own.n) (by omega)⟩, (hD.below.setCell (by show w.heap.size ≤ w.heap.size + 1 + 1; omega) _).setCell (by show w.heap.size ≤ w.heap.size + 1 + 1; omega) _⟩
theorem done_cells {w wr : World} {kv nv : Value} {key : ByteArray} {n : Int} {del : Bool} {v1 v2 : Value} {X : List (ByteArray × Int)} (hD : DoneAt w wr kv nv key n del v1 v2 X) :
    ((wr.setCell ⟨w.heap.size + 1 + 1, 0, none⟩ v1).setCell ⟨w.heap.size + 1 + 1, 1, none⟩ v2).cell? ⟨w.heap.size + 1 + 1, 0, none⟩ = some v1 ∧ ((wr.setCell ⟨w.heap.size + 1 + 1, 0, none⟩ v1).setCell ⟨w.heap.size + 1 + 1, 1, none⟩ v2).cell? ⟨w.heap.size + 1 + 1, 1, none⟩ = some v2 := by
  have h := (hD.r.set_ 0 v1).set_ 1 v2
  exact ⟨h.cell 0, h.cell 1⟩
theorem Try.infoS1 : (Try.prog.info? 9).map (fun i => (i.zero, i.size, i.bytes)) = some (some (.string ⟨#[]⟩), 1, 16) := by kernel_rfl
theorem Try.infoI1 : (Try.prog.info? 3).map (fun i => (i.zero, i.size, i.bytes)) = some (some (.int .i64 0), 1, 8) := by kernel_rfl

set_option maxHeartbeats 16000000 in
set_option maxRecDepth 100000 in
theorem done_any (kv nv : Value) (l : List (ByteArray × Int)) (key : ByteArray) (n : Int) (del : Bool) (w : World) (h : MdIn w 0 kv nv l) (hl : l.length ≤ 1000) :
    Calls Try.prog 10 #[.agg #[kv, nv], .agg #[.string key, .int .i64 n, .bool del]] w (DonePost w (doneG key n del l)) := by
  obtain ⟨a1, c1, a2, c2, rfl, rfl⟩ := h.form
  obtain ⟨L, hL⟩ : ∃ L, L = l.length := ⟨_, rfl⟩
  rw [← hL]
  have HM := Lib.hid h
  have HL := Lib.hid hL
  have hz : L ≤ 1000 := by omega
  clear h hL hl
  go_enter Try.func10, Try.ntmps10
  go_wp2
  have h0 : DoneAt w ((((w.alloc (.cells #[.slice a1 L c1, .slice a2 L c2] 30)).alloc (.cells #[.string key, .int .i64 n, .bool del] 33)).alloc (.cells #[.slice none 0 0, .slice none 0 0] 30)).alloc (.cells #[.slice none 0 0, .slice none 0 0] 30)) (.slice a1 L c1) (.slice a2 L c2) key n del (.slice none 0 0) (.slice none 0 0) [] := by
    refine ⟨?_, ?_, ?_, ?_, ⟨World.ownsRow_nil _ _ _ _, World.ownsRow_nil _ _ _ _⟩, ?_⟩
    · exact (((Blk.new w _ _).alloc _).alloc _).alloc _
    · have := ((Blk.new (w.alloc (.cells #[.slice a1 L c1, .slice a2 L c2] 30)) 33 #[.string key, .int .i64 n, .bool del]).alloc (.cells #[.slice none 0 0, .slice none 0 0] 30)).alloc (.cells #[.slice none 0 0, .slice none 0 0] 30)
      simpa using this
    · have := ((Blk.new ((w.alloc (.cells #[.slice a1 L c1, .slice a2 L c2] 30)).alloc (.cells #[.string key, .int .i64 n, .bool del] 33)) 30 #[.slice none 0 0, .slice none 0 0])).alloc (.cells #[.slice none 0 0, .slice none 0 0] 30)
      simpa using this
    · have := Blk.new (((w.alloc (.cells #[.slice a1 L c1, .slice a2 L c2] 30)).alloc (.cells #[.string key, .int .i64 n, .bool del] 33)).alloc (.cells #[.slice none 0 0, .slice none 0 0] 30)) 30 #[.slice none 0 0, .slice none 0 0]
      simpa using this
    · exact ((((Below.refl _ _).alloc (Nat.le_refl _) _).alloc (by simp) _).alloc (by simp <;> omega) _).alloc (by simp <;> omega) _
  generalize ((((w.alloc (.cells #[.slice a1 L c1, .slice a2 L c2] 30)).alloc (.cells #[.string key, .int .i64 n, .bool del] 33)).alloc (.cells #[.slice none 0 0, .slice none 0 0] 30)).alloc (.cells #[.slice none 0 0, .slice none 0 0] 30)) = W0 at h0 ⊢
  replace h0 := Lib.hid h0
  go_loopg [6, 7] L (fun kq v6 v7 wr => ∃ (i : Nat) (d : Bool) (X : List (ByteArray × Int)) (v1 v2 : Value), v6 = .bool d ∧ v7 = .int .i64 (i : Int) ∧ i + kq = L ∧ Hid (X.length ≤ 2 * i) ∧ Hid (X ++ doneG key n d (l.drop i) = doneG key n del l) ∧ Hid (DoneAt w wr (.slice a1 L c1) (.slice a2 L c2) key n del v1 v2 X))
  case atStart => exact ⟨0, del, [], _, _, rfl, rfl, by omega, Nat.zero_le _, rfl, h0⟩
  case round =>
    clear h0
    obtain ⟨i, d, X, v1, v2, rfl, rfl, hi, hX, hG, hD⟩ := hrel
    obtain ⟨b1, k1, b2, k2, rfl, rfl⟩ := hD.out.own.form
    obtain ⟨Z, hZ⟩ : ∃ Z, Z = X.length := ⟨_, rfl⟩
    rw [← hZ] at hD
    have m0 := hD.out.m.cell 0
    have m1 := hD.out.m.cell 1
    have s0 := hD.out.s.cell 0
    have s1 := hD.out.s.cell 1
    have s2 := hD.out.s.cell 2
    have x0 := hD.out.x.cell 0
    have x1 := hD.out.x.cell 1
    replace hZ := Lib.hid hZ
    simp at m0 m1 s0 s1 s2 x0 x1
    by_cases hlt : i < L
    · obtain ⟨⟨ki, mi⟩, hs⟩ : ∃ s, l[i]? = some s := ⟨_, List.getElem?_eq_getElem (by rw [← HL.out]; exact hlt)⟩
      obtain ⟨g1, d1, g2, d2, e1, e2, k0, n0⟩ := (HM.out.below hD.out.below).at_ hs
      rw [← HL.out] at e1 e2
      injection e1 with e1 _ e3
      injection e2 with e2 _ e4
      subst e1 e2 e3 e4
      simp only at k0 n0
      have q0 : (0 : Int) ≤ (i : Int) := by omega
      have q1 : (i : Int) < (L : Int) := by omega
      have HS := Lib.hid hs
      clear hs
      obtain ⟨bi, hbi⟩ : ∃ bi, bi = insAt d key ki := ⟨_, rfl⟩
      have HBI := Lib.hid hbi
      clear hbi
      go_upto_region 6 with fail
      go_cut [29] (fun v29 wx => v29 = .bool bi ∧ ∃ nq, wx = wr.drewN nq)
      case first =>
        obtain ⟨bb, hbb⟩ : ∃ bb, Op.bytesLess ki.toList key.toList = bb := ⟨_, rfl⟩
        have hins : bi = (!d && !bb) := by rw [HBI.out]; unfold insAt blt; rw [hbb]
        subst hins
        cases d <;> cases bb
        all_goals
          go_quiet (fail)
          go_wp2
          go_meet
          exact ⟨rfl, _, rfl⟩
      case rest =>
        obtain ⟨rfl, nq, rfl⟩ := hcut
        have hD2 := hD.out.drewN nq
        clear m0 m1 s0 s1 s2 x0 x1 k0 n0
        generalize wr.drewN nq = W1 at hD2 ⊢
        clear hD
        have HD := Lib.hid hD2
        clear hD2
        obtain ⟨XX, hXX⟩ : ∃ XX, XX = w.heap.size + 3 := ⟨_, rfl⟩
        go_upto_if 29 with fail
        go_cut [6] (fun v6 wx => ∃ (v1 v2 : Value) (X' : List (ByteArray × Int)), v6 = .bool (d || bi) ∧ Hid (X' = X ++ (if bi = true then [(key, n)] else [])) ∧ Hid (DoneAt w wx (.slice (some ⟨g1, 0, none⟩) L c1) (.slice (some ⟨g2, 0, none⟩) L c2) key n del v1 v2 X'))
        case first =>
          cases bi
          · go_wp2
            go_meet
            exact ⟨_, _, X, by simp, by show X = X ++ []; simp, HD.out⟩
          · have hCC : ∃ CC, CC = w.heap.size + 4 := ⟨_, rfl⟩
            obtain ⟨CC, hCC⟩ := hCC
            have HOa : Hid (W1.drew.ownsRow CC 9 1 (.slice b1 Z k1) Z (keysV X)) := by have := HD.out.own.k; rw [← hZ.out, ← hCC] at this; exact own_same this (fun _ _ => rfl)
            have HOb : Hid (W1.drew.ownsRow CC 3 1 (.slice b2 Z k2) Z (numsV X)) := by have := HD.out.own.n; rw [← hZ.out, ← hCC] at this; exact own_same this (fun _ _ => rfl)
            have HB : Hid (Below CC W1 W1.drew) := (Below.refl _ _).drew
            have HCS : Hid (CC ≤ W1.heap.size) := by rw [hCC]; exact HD.out.x.lt
            have hx0 := HD.out.x.cell 0
            have hx1 := HD.out.x.cell 1
            have hs0 := HD.out.s.cell 0
            have hs1 := HD.out.s.cell 1
            have hf := HD.out.x.frozen
            simp only [← hXX] at hx0 hx1 hf ⊢
            have hKQ : ∀ w', Below CC W1 w' → ∀ q, xS XX ⟨w.heap.size + 1, 0, none⟩ ⟨w.heap.size + 1, 1, none⟩ ⟨w.heap.size + 1, 0, none⟩ ⟨w.heap.size + 1, 0, none⟩ (.slice b1 Z k1) (.slice b2 Z k2) (.string key) (.int .i64 n) (.string key) (.string key) q w' := fun w' hb q => by
              match q with
              | 0 => exact trivial
              | 1 => exact (hb.cell (p := ⟨XX, 0, none⟩) (by show XX < CC; omega)).trans hx0
              | 2 => exact (hb.cell (p := ⟨XX, 1, none⟩) (by show XX < CC; omega)).trans hx1
              | 3 => exact (hb.cell (p := ⟨w.heap.size + 1, 0, none⟩) (by show w.heap.size + 1 < CC; omega)).trans hs0
              | 4 => exact (hb.cell (p := ⟨w.heap.size + 1, 1, none⟩) (by show w.heap.size + 1 < CC; omega)).trans hs1
              | 5 => exact (hb.cell (p := ⟨w.heap.size + 1, 0, none⟩) (by show w.heap.size + 1 < CC; omega)).trans hs0
              | 6 => exact (hb.cell (p := ⟨w.heap.size + 1, 0, none⟩) (by show w.heap.size + 1 < CC; omega)).trans hs0
              | _ + 7 => exact trivial
            have HKQ := Lib.hid hKQ
            have HNE : Hid (XNe XX ⟨w.heap.size + 1, 0, none⟩ ⟨w.heap.size + 1, 1, none⟩ ⟨w.heap.size + 1, 0, none⟩ ⟨w.heap.size + 1, 0, none⟩) := ⟨by show w.heap.size + 1 ≠ XX; omega, by show w.heap.size + 1 ≠ XX; omega, by show w.heap.size + 1 ≠ XX; omega, by show w.heap.size + 1 ≠ XX; omega⟩
            have HFR : Hid (∀ w', Below CC W1 w' → ∀ o, w'.frozen? ⟨XX, o, none⟩ = false) := fun w' hb o => (hb.frozen (p := ⟨XX, o, none⟩) (by show XX < CC; omega)).trans (hf o)
            have HXX := Lib.hid hXX
            have HCC := Lib.hid hCC
            have hzz : Z ≤ 2000 := by have := hX.out; have := hZ.out; omega
            obtain ⟨j0, hj, hj0, hj1, hj2⟩ := info_parts Try.infoI1
            have Hj0I := Lib.hid hj
            have Hj00 := Lib.hid hj0
            have Hj01 := Lib.hid hj1
            have Hj02 := Lib.hid hj2
            obtain ⟨tS0, hi', hz0, hz1, hz2⟩ := info_parts Try.infoS1
            have HS0I := Lib.hid hi'
            have HS00 := Lib.hid hz0
            have HS01 := Lib.hid hz1
            have HS02 := Lib.hid hz2
            clear hKQ hx0 hx1 hs0 hs1 hf hXX hCC hj hj0 hj1 hj2 hi' hz0 hz1 hz2
            go_upto_region 7 with fail
            refine wp_region_fam (S := (xS XX ⟨w.heap.size + 1, 0, none⟩ ⟨w.heap.size + 1, 1, none⟩ ⟨w.heap.size + 1, 0, none⟩ ⟨w.heap.size + 1, 0, none⟩ (.slice b1 Z k1) (.slice b2 Z k2) (.string key) (.int .i64 n) (.string key) (.string key))) (ds := (xD 13 15)) (by kernel_rfl) ?_
            refine wpFam_take (i := 0) 0 (some 30) (v := ?_) rfl (by kernel_rfl) (by kernel_rfl) (by kernel_rfl) (by kernel_rfl) (by kernel_rfl) (fun _ _ _ h => h) rfl (Or.inl ⟨by rfl, ?_⟩) (by exact trivial) ?_
            rotate_left
            · (intro w hSw; (try simp only [xS] at hSw); go_simp); (try with_reducible rfl)
            try simp only [Act.put, List.setIfInBounds_toArray, List.set_cons_zero, List.set_cons_succ]
            refine wpFam_take (i := 1) 1 (some 31) (v := ?_) rfl (by kernel_rfl) (by kernel_rfl) (by kernel_rfl) (by kernel_rfl) (by kernel_rfl) (fun _ _ _ h => h) rfl (Or.inl ⟨by rfl, ?_⟩) (by exact HKQ.out _ HB.out 1) ?_
            rotate_left
            · (intro w hSw; (try simp only [xS] at hSw); go_simp); (try with_reducible rfl)
            try simp only [Act.put, List.setIfInBounds_toArray, List.set_cons_zero, List.set_cons_succ]
            refine wpFam_take (i := 2) 0 (some 32) (v := ?_) rfl (by kernel_rfl) (by kernel_rfl) (by kernel_rfl) (by kernel_rfl) (by kernel_rfl) (fun _ _ _ h => h) rfl (Or.inl ⟨by rfl, ?_⟩) (by exact trivial) ?_
            rotate_left
            · (intro w hSw; (try simp only [xS] at hSw); go_simp); (try with_reducible rfl)
            try simp only [Act.put, List.setIfInBounds_toArray, List.set_cons_zero, List.set_cons_succ]
            refine wpFam_take (i := 3) 3 (some 33) (v := ?_) rfl (by kernel_rfl) (by kernel_rfl) (by kernel_rfl) (by kernel_rfl) (by kernel_rfl) (fun _ _ _ h => h) rfl (Or.inl ⟨by rfl, ?_⟩) (by exact HKQ.out _ HB.out 3) ?_
            rotate_left
            · (intro w hSw; (try simp only [xS] at hSw); go_simp); (try with_reducible rfl)
            try simp only [Act.put, List.setIfInBounds_toArray, List.set_cons_zero, List.set_cons_succ]
            refine wpFam_take (i := 6) 0 (some 36) (v := ?_) rfl (by kernel_rfl) (by kernel_rfl) (by kernel_rfl) (by kernel_rfl) (by kernel_rfl) (fun _ _ _ h => h) rfl (Or.inl ⟨by rfl, ?_⟩) (by exact trivial) ?_
            rotate_left
            · (intro w hSw; (try simp only [xS] at hSw); go_simp); (try with_reducible rfl)
            try simp only [Act.put, List.setIfInBounds_toArray, List.set_cons_zero, List.set_cons_succ]
            refine wpFam_take (i := 7) 2 (some 37) (v := ?_) rfl (by kernel_rfl) (by kernel_rfl) (by kernel_rfl) (by kernel_rfl) (by kernel_rfl) (fun _ _ _ h => h) rfl (Or.inl ⟨by rfl, ?_⟩) (by exact HKQ.out _ HB.out 2) ?_
            rotate_left
            · (intro w hSw; (try simp only [xS] at hSw); go_simp); (try with_reducible rfl)
            try simp only [Act.put, List.setIfInBounds_toArray, List.set_cons_zero, List.set_cons_succ]
            refine wpFam_take (i := 8) 0 (some 38) (v := ?_) rfl (by kernel_rfl) (by kernel_rfl) (by kernel_rfl) (by kernel_rfl) (by kernel_rfl) (fun _ _ _ h => h) rfl (Or.inl ⟨by rfl, ?_⟩) (by exact trivial) ?_
            rotate_left
            · (intro w hSw; (try simp only [xS] at hSw); go_simp); (try with_reducible rfl)
            try simp only [Act.put, List.setIfInBounds_toArray, List.set_cons_zero, List.set_cons_succ]
            refine wpFam_take (i := 9) 4 (some 39) (v := ?_) rfl (by kernel_rfl) (by kernel_rfl) (by kernel_rfl) (by kernel_rfl) (by kernel_rfl) (fun _ _ _ h => h) rfl (Or.inl ⟨by rfl, ?_⟩) (by exact HKQ.out _ HB.out 4) ?_
            rotate_left
            · (intro w hSw; (try simp only [xS] at hSw); go_simp); (try with_reducible rfl)
            try simp only [Act.put, List.setIfInBounds_toArray, List.set_cons_zero, List.set_cons_succ]
            refine wpFam_ready (rs := [4, 10]) (by kernel_rfl) (by simp) ?_
            refine AllReadyF.cons (i := 4) rfl (fun K hK => ?_) ?_
            ·
              go_simp
              have hn0 := blk_new_of HOa.out 9 #[.string key]
              (try rw [sz_alloc] at hn0)
              have HNa := Lib.hid hn0
              clear hn0
              replace HOa := Lib.hid (HOa.out.alloc (.cells #[.string key] 9))
              replace HOb := Lib.hid (HOb.out.alloc (.cells #[.string key] 9))
              (try replace HNb := Lib.hid (HNb.out.alloc (.cells #[.string key] 9)))
              replace HB := Lib.hid (HB.out.alloc (Nat.le_trans HCS.out HB.out.size) (.cells #[.string key] 9))
              try change K (Act.put _ (some 34) _) _
              refine hK.out _ _ ?_ ?_
              · ((intro q _ _; first | exact HKQ.out _ HB.out q | exact HKQ.out _ (HB.out.alloc (Nat.le_trans HCS.out HB.out.size) _) q))
              clear hK K
              try simp only [Act.put, List.setIfInBounds_toArray, List.set_cons_zero, List.set_cons_succ]
              refine wpFam_ready (rs := [5, 10]) (by kernel_rfl) (by simp) ?_
              refine AllReadyF.cons (i := 5) rfl (fun K hK => ?_) ?_
              ·
                refine step_append_lies _ (by rfl) (.tmp 31) (.tmp 34) 27 (by rfl) CC 9 tS0 (.string ⟨#[]⟩) 1 16 Try.underlying27 HS0I.out HS00.out HS01.out HS02.out (by rfl) (by decide) (.slice b1 Z k1) Z (keysV X) (by rfl) HOa.out _ 1 1 [.string key] (by rfl) (by rfl) (World.news_of_block HNa.out) (by simp [Value.oneCell']) (by decide) (by unfold maxLen; omega) (by omega) (Nat.le_trans HCS.out HB.out.size) _ rfl ?_
                intro h1 cap1 w1 ho hg ha hlt
                have HO1 := Lib.hid ho
                replace HOb := Lib.hid (own_same HOb.out (fun k hk => hg.block k (HOb.out.lt k hk).2 (own_own_ne HOb.out HOa.out (by decide) k hk)))
                (try replace HNb := Lib.hid (HNb.out.grown hg (own_blk_ne HOa.out HNb.out (by decide))))
                replace HB := Lib.hid (HB.out.grown hg (Nat.le_trans HCS.out HB.out.size) (fun k hk => (HOa.out.lt k hk).1))
                clear ho hg ha hlt HOa HNa
                try change K (Act.put _ (some 35) _) _
                refine hK.out _ _ ?_ ?_
                · ((intro q _ _; first | exact HKQ.out _ HB.out q | exact HKQ.out _ (HB.out.alloc (Nat.le_trans HCS.out HB.out.size) _) q))
                clear hK K
                try simp only [Act.put, List.setIfInBounds_toArray, List.set_cons_zero, List.set_cons_succ]
                refine wpFam_take (i := 12) 0 (some 42) (v := ?_) rfl (by kernel_rfl) (by kernel_rfl) (by kernel_rfl) (by kernel_rfl) (by kernel_rfl) (fun _ _ _ h => h) rfl (Or.inl ⟨by rfl, ?_⟩) (by exact trivial) ?_
                rotate_left
                · (intro w hSw; (try simp only [xS] at hSw); go_simp); (try with_reducible rfl)
                try simp only [Act.put, List.setIfInBounds_toArray, List.set_cons_zero, List.set_cons_succ]
                refine wpFam_ready (rs := [10]) (by kernel_rfl) (by simp) ?_
                refine AllReadyF.cons (i := 10) rfl (fun K hK => ?_) ?_
                ·
                  go_simp
                  have hn0 := blk_new_of HOb.out 3 #[.int .i64 n]
                  (try rw [sz_alloc] at hn0)
                  have HNb := Lib.hid hn0
                  clear hn0
                  (try replace HOa := Lib.hid (HOa.out.alloc (.cells #[.int .i64 n] 3)))
                  (try replace HO1 := Lib.hid (HO1.out.alloc (.cells #[.int .i64 n] 3)))
                  replace HOb := Lib.hid (HOb.out.alloc (.cells #[.int .i64 n] 3))
                  (try replace HNa := Lib.hid (HNa.out.alloc (.cells #[.int .i64 n] 3)))
                  replace HB := Lib.hid (HB.out.alloc (Nat.le_trans HCS.out HB.out.size) (.cells #[.int .i64 n] 3))
                  try change K (Act.put _ (some 40) _) _
                  refine hK.out _ _ ?_ ?_
                  · ((intro q _ _; first | exact HKQ.out _ HB.out q | exact HKQ.out _ (HB.out.alloc (Nat.le_trans HCS.out HB.out.size) _) q))
                  clear hK K
                  try simp only [Act.put, List.setIfInBounds_toArray, List.set_cons_zero, List.set_cons_succ]
                  refine wpFam_ready (rs := [11]) (by kernel_rfl) (by simp) ?_
                  refine AllReadyF.cons (i := 11) rfl (fun K hK => ?_) ?_
                  ·
                    refine step_append_lies _ (by rfl) (.tmp 37) (.tmp 40) 28 (by rfl) CC 3 j0 (.int .i64 0) 1 8 Try.underlying28 Hj0I.out Hj00.out Hj01.out Hj02.out (by rfl) (by decide) (.slice b2 Z k2) Z (numsV X) (by rfl) HOb.out _ 1 1 [.int .i64 n] (by rfl) (by rfl) (World.news_of_block HNb.out) (by simp [Value.oneCell']) (by decide) (by unfold maxLen; omega) (by omega) (Nat.le_trans HCS.out HB.out.size) _ rfl ?_
                    intro h2 cap2 w2 ho hg ha hlt
                    have HO2 := Lib.hid ho
                    replace HO1 := Lib.hid (own_same HO1.out (fun k hk => hg.block k (HO1.out.lt k hk).2 (own_own_ne HO1.out HOb.out (by decide) k hk)))
                    replace HB := Lib.hid (HB.out.grown hg (Nat.le_trans HCS.out HB.out.size) (fun k hk => (HOb.out.lt k hk).1))
                    clear ho hg ha hlt HOb HNb
                    try change K (Act.put _ (some 41) _) _
                    refine hK.out _ _ ?_ ?_
                    · ((intro q _ _; first | exact HKQ.out _ HB.out q | exact HKQ.out _ (HB.out.alloc (Nat.le_trans HCS.out HB.out.size) _) q))
                    clear hK K
                    try simp only [Act.put, List.setIfInBounds_toArray, List.set_cons_zero, List.set_cons_succ]
                    refine wpFam_ready (rs := [13]) (by kernel_rfl) (by simp) ?_
                    refine AllReadyF.cons (i := 13) rfl (fun K hK => ?_) ?_
                    ·
                      have fr1 := HFR.out _ HB.out 0
                      have fr2 := HFR.out _ HB.out 1
                      have ck1 := HKQ.out _ HB.out 1
                      have ck2 := HKQ.out _ HB.out 2
                      simp only [xS] at ck1 ck2
                      go_simp
                      refine hK.out _ _ ?_ ?_
                      · ((exact fun q hq hs => xS_1 rfl HNE.out (fun e => hq (by subst e; decide)) hs))
                      clear hK K
                      try simp only [Act.put, List.setIfInBounds_toArray, List.set_cons_zero, List.set_cons_succ]
                      refine wpFam_take (i := 14) 0 (some 43) (v := ?_) rfl (by kernel_rfl) (by kernel_rfl) (by kernel_rfl) (by kernel_rfl) (by kernel_rfl) (fun _ _ _ h => h) rfl (Or.inl ⟨by rfl, ?_⟩) (by exact trivial) ?_
                      rotate_left
                      · (intro w hSw; (try simp only [xS] at hSw); go_simp); (try with_reducible rfl)
                      try simp only [Act.put, List.setIfInBounds_toArray, List.set_cons_zero, List.set_cons_succ]
                      refine wpFam_ready (rs := [15]) (by kernel_rfl) (by simp) ?_
                      refine AllReadyF.cons (i := 15) rfl (fun K hK => ?_) ?_
                      ·
                        go_simp
                        refine hK.out _ _ ?_ ?_
                        · ((exact fun q hq hs => xS_2 rfl HNE.out (fun e => hq (by subst e; decide)) hs))
                        clear hK K
                        try simp only [Act.put, List.setIfInBounds_toArray, List.set_cons_zero, List.set_cons_succ]
                        refine wpFam_take (i := 16) 0 (some 6) (v := ?_) rfl (by kernel_rfl) (by kernel_rfl) (by kernel_rfl) (by kernel_rfl) (by kernel_rfl) (fun _ _ _ h => h) rfl (Or.inl ⟨by rfl, ?_⟩) (by exact trivial) ?_
                        rotate_left
                        · (intro w hSw; (try simp only [xS] at hSw); go_simp); (try with_reducible rfl)
                        try simp only [Act.put, List.setIfInBounds_toArray, List.set_cons_zero, List.set_cons_succ]
                        refine wpFam_done (by kernel_rfl) ?_ _
                        go_wp2_with fail
                        have hXX := HXX.out
                        subst hXX
                        go_meet
                        exact ⟨_, _, X ++ [(key, n)], by simp, rfl, done_close HD.out HCC.out rfl HB.out hZ.out HO1.out HO2.out⟩
                      exact AllReadyF.nil
                    exact AllReadyF.nil
                  exact AllReadyF.nil
                exact AllReadyF.nil
              refine AllReadyF.cons (i := 10) rfl (fun K hK => ?_) ?_
              ·
                go_simp
                have hn0 := blk_new_of HOb.out 3 #[.int .i64 n]
                (try rw [sz_alloc] at hn0)
                have HNb := Lib.hid hn0
                clear hn0
                (try replace HOa := Lib.hid (HOa.out.alloc (.cells #[.int .i64 n] 3)))
                (try replace HO1 := Lib.hid (HO1.out.alloc (.cells #[.int .i64 n] 3)))
                replace HOb := Lib.hid (HOb.out.alloc (.cells #[.int .i64 n] 3))
                (try replace HNa := Lib.hid (HNa.out.alloc (.cells #[.int .i64 n] 3)))
                replace HB := Lib.hid (HB.out.alloc (Nat.le_trans HCS.out HB.out.size) (.cells #[.int .i64 n] 3))
                try change K (Act.put _ (some 40) _) _
                refine hK.out _ _ ?_ ?_
                · ((intro q _ _; first | exact HKQ.out _ HB.out q | exact HKQ.out _ (HB.out.alloc (Nat.le_trans HCS.out HB.out.size) _) q))
                clear hK K
                try simp only [Act.put, List.setIfInBounds_toArray, List.set_cons_zero, List.set_cons_succ]
                refine wpFam_ready (rs := [5]) (by kernel_rfl) (by simp) ?_
                refine AllReadyF.cons (i := 5) rfl (fun K hK => ?_) ?_
                ·
                  refine step_append_lies _ (by rfl) (.tmp 31) (.tmp 34) 27 (by rfl) CC 9 tS0 (.string ⟨#[]⟩) 1 16 Try.underlying27 HS0I.out HS00.out HS01.out HS02.out (by rfl) (by decide) (.slice b1 Z k1) Z (keysV X) (by rfl) HOa.out _ 1 1 [.string key] (by rfl) (by rfl) (World.news_of_block HNa.out) (by simp [Value.oneCell']) (by decide) (by unfold maxLen; omega) (by omega) (Nat.le_trans HCS.out HB.out.size) _ rfl ?_
                  intro h1 cap1 w1 ho hg ha hlt
                  have HO1 := Lib.hid ho
                  replace HOb := Lib.hid (own_same HOb.out (fun k hk => hg.block k (HOb.out.lt k hk).2 (own_own_ne HOb.out HOa.out (by decide) k hk)))
                  (try replace HNb := Lib.hid (HNb.out.grown hg (own_blk_ne HOa.out HNb.out (by decide))))
                  replace HB := Lib.hid (HB.out.grown hg (Nat.le_trans HCS.out HB.out.size) (fun k hk => (HOa.out.lt k hk).1))
                  clear ho hg ha hlt HOa HNa
                  try change K (Act.put _ (some 35) _) _
                  refine hK.out _ _ ?_ ?_
                  · ((intro q _ _; first | exact HKQ.out _ HB.out q | exact HKQ.out _ (HB.out.alloc (Nat.le_trans HCS.out HB.out.size) _) q))
                  clear hK K
                  try simp only [Act.put, List.setIfInBounds_toArray, List.set_cons_zero, List.set_cons_succ]
                  refine wpFam_take (i := 12) 0 (some 42) (v := ?_) rfl (by kernel_rfl) (by kernel_rfl) (by kernel_rfl) (by kernel_rfl) (by kernel_rfl) (fun _ _ _ h => h) rfl (Or.inl ⟨by rfl, ?_⟩) (by exact trivial) ?_
                  rotate_left
                  · (intro w hSw; (try simp only [xS] at hSw); go_simp); (try with_reducible rfl)
                  try simp only [Act.put, List.setIfInBounds_toArray, List.set_cons_zero, List.set_cons_succ]
                  refine wpFam_ready (rs := [11]) (by kernel_rfl) (by simp) ?_
                  refine AllReadyF.cons (i := 11) rfl (fun K hK => ?_) ?_
                  ·
                    refine step_append_lies _ (by rfl) (.tmp 37) (.tmp 40) 28 (by rfl) CC 3 j0 (.int .i64 0) 1 8 Try.underlying28 Hj0I.out Hj00.out Hj01.out Hj02.out (by rfl) (by decide) (.slice b2 Z k2) Z (numsV X) (by rfl) HOb.out _ 1 1 [.int .i64 n] (by rfl) (by rfl) (World.news_of_block HNb.out) (by simp [Value.oneCell']) (by decide) (by unfold maxLen; omega) (by omega) (Nat.le_trans HCS.out HB.out.size) _ rfl ?_
                    intro h2 cap2 w2 ho hg ha hlt
                    have HO2 := Lib.hid ho
                    replace HO1 := Lib.hid (own_same HO1.out (fun k hk => hg.block k (HO1.out.lt k hk).2 (own_own_ne HO1.out HOb.out (by decide) k hk)))
                    replace HB := Lib.hid (HB.out.grown hg (Nat.le_trans HCS.out HB.out.size) (fun k hk => (HOb.out.lt k hk).1))
                    clear ho hg ha hlt HOb HNb
                    try change K (Act.put _ (some 41) _) _
                    refine hK.out _ _ ?_ ?_
                    · ((intro q _ _; first | exact HKQ.out _ HB.out q | exact HKQ.out _ (HB.out.alloc (Nat.le_trans HCS.out HB.out.size) _) q))
                    clear hK K
                    try simp only [Act.put, List.setIfInBounds_toArray, List.set_cons_zero, List.set_cons_succ]
                    refine wpFam_ready (rs := [13]) (by kernel_rfl) (by simp) ?_
                    refine AllReadyF.cons (i := 13) rfl (fun K hK => ?_) ?_
                    ·
                      have fr1 := HFR.out _ HB.out 0
                      have fr2 := HFR.out _ HB.out 1
                      have ck1 := HKQ.out _ HB.out 1
                      have ck2 := HKQ.out _ HB.out 2
                      simp only [xS] at ck1 ck2
                      go_simp
                      refine hK.out _ _ ?_ ?_
                      · ((exact fun q hq hs => xS_1 rfl HNE.out (fun e => hq (by subst e; decide)) hs))
                      clear hK K
                      try simp only [Act.put, List.setIfInBounds_toArray, List.set_cons_zero, List.set_cons_succ]
                      refine wpFam_take (i := 14) 0 (some 43) (v := ?_) rfl (by kernel_rfl) (by kernel_rfl) (by kernel_rfl) (by kernel_rfl) (by kernel_rfl) (fun _ _ _ h => h) rfl (Or.inl ⟨by rfl, ?_⟩) (by exact trivial) ?_
                      rotate_left
                      · (intro w hSw; (try simp only [xS] at hSw); go_simp); (try with_reducible rfl)
                      try simp only [Act.put, List.setIfInBounds_toArray, List.set_cons_zero, List.set_cons_succ]
                      refine wpFam_ready (rs := [15]) (by kernel_rfl) (by simp) ?_
                      refine AllReadyF.cons (i := 15) rfl (fun K hK => ?_) ?_
                      ·
                        go_simp
                        refine hK.out _ _ ?_ ?_
                        · ((exact fun q hq hs => xS_2 rfl HNE.out (fun e => hq (by subst e; decide)) hs))
                        clear hK K
                        try simp only [Act.put, List.setIfInBounds_toArray, List.set_cons_zero, List.set_cons_succ]
                        refine wpFam_take (i := 16) 0 (some 6) (v := ?_) rfl (by kernel_rfl) (by kernel_rfl) (by kernel_rfl) (by kernel_rfl) (by kernel_rfl) (fun _ _ _ h => h) rfl (Or.inl ⟨by rfl, ?_⟩) (by exact trivial) ?_
                        rotate_left
                        · (intro w hSw; (try simp only [xS] at hSw); go_simp); (try with_reducible rfl)
                        try simp only [Act.put, List.setIfInBounds_toArray, List.set_cons_zero, List.set_cons_succ]
                        refine wpFam_done (by kernel_rfl) ?_ _
                        go_wp2_with fail
                        have hXX := HXX.out
                        subst hXX
                        go_meet
                        exact ⟨_, _, X ++ [(key, n)], by simp, rfl, done_close HD.out HCC.out rfl HB.out hZ.out HO1.out HO2.out⟩
                      exact AllReadyF.nil
                    exact AllReadyF.nil
                  exact AllReadyF.nil
                exact AllReadyF.nil
              exact AllReadyF.nil
            refine AllReadyF.cons (i := 10) rfl (fun K hK => ?_) ?_
            ·
              go_simp
              have hn0 := blk_new_of HOb.out 3 #[.int .i64 n]
              (try rw [sz_alloc] at hn0)
              have HNb := Lib.hid hn0
              clear hn0
              (try replace HOa := Lib.hid (HOa.out.alloc (.cells #[.int .i64 n] 3)))
              (try replace HO1 := Lib.hid (HO1.out.alloc (.cells #[.int .i64 n] 3)))
              replace HOb := Lib.hid (HOb.out.alloc (.cells #[.int .i64 n] 3))
              (try replace HNa := Lib.hid (HNa.out.alloc (.cells #[.int .i64 n] 3)))
              replace HB := Lib.hid (HB.out.alloc (Nat.le_trans HCS.out HB.out.size) (.cells #[.int .i64 n] 3))
              try change K (Act.put _ (some 40) _) _
              refine hK.out _ _ ?_ ?_
              · ((intro q _ _; first | exact HKQ.out _ HB.out q | exact HKQ.out _ (HB.out.alloc (Nat.le_trans HCS.out HB.out.size) _) q))
              clear hK K
              try simp only [Act.put, List.setIfInBounds_toArray, List.set_cons_zero, List.set_cons_succ]
              refine wpFam_ready (rs := [4]) (by kernel_rfl) (by simp) ?_
              refine AllReadyF.cons (i := 4) rfl (fun K hK => ?_) ?_
              ·
                go_simp
                have hn0 := blk_new_of HOa.out 9 #[.string key]
                (try rw [sz_alloc] at hn0)
                have HNa := Lib.hid hn0
                clear hn0
                replace HOa := Lib.hid (HOa.out.alloc (.cells #[.string key] 9))
                replace HOb := Lib.hid (HOb.out.alloc (.cells #[.string key] 9))
                (try replace HNb := Lib.hid (HNb.out.alloc (.cells #[.string key] 9)))
                replace HB := Lib.hid (HB.out.alloc (Nat.le_trans HCS.out HB.out.size) (.cells #[.string key] 9))
                try change K (Act.put _ (some 34) _) _
                refine hK.out _ _ ?_ ?_
                · ((intro q _ _; first | exact HKQ.out _ HB.out q | exact HKQ.out _ (HB.out.alloc (Nat.le_trans HCS.out HB.out.size) _) q))
                clear hK K
                try simp only [Act.put, List.setIfInBounds_toArray, List.set_cons_zero, List.set_cons_succ]
                refine wpFam_ready (rs := [5]) (by kernel_rfl) (by simp) ?_
                refine AllReadyF.cons (i := 5) rfl (fun K hK => ?_) ?_
                ·
                  refine step_append_lies _ (by rfl) (.tmp 31) (.tmp 34) 27 (by rfl) CC 9 tS0 (.string ⟨#[]⟩) 1 16 Try.underlying27 HS0I.out HS00.out HS01.out HS02.out (by rfl) (by decide) (.slice b1 Z k1) Z (keysV X) (by rfl) HOa.out _ 1 1 [.string key] (by rfl) (by rfl) (World.news_of_block HNa.out) (by simp [Value.oneCell']) (by decide) (by unfold maxLen; omega) (by omega) (Nat.le_trans HCS.out HB.out.size) _ rfl ?_
                  intro h1 cap1 w1 ho hg ha hlt
                  have HO1 := Lib.hid ho
                  replace HOb := Lib.hid (own_same HOb.out (fun k hk => hg.block k (HOb.out.lt k hk).2 (own_own_ne HOb.out HOa.out (by decide) k hk)))
                  (try replace HNb := Lib.hid (HNb.out.grown hg (own_blk_ne HOa.out HNb.out (by decide))))
                  replace HB := Lib.hid (HB.out.grown hg (Nat.le_trans HCS.out HB.out.size) (fun k hk => (HOa.out.lt k hk).1))
                  clear ho hg ha hlt HOa HNa
                  try change K (Act.put _ (some 35) _) _
                  refine hK.out _ _ ?_ ?_
                  · ((intro q _ _; first | exact HKQ.out _ HB.out q | exact HKQ.out _ (HB.out.alloc (Nat.le_trans HCS.out HB.out.size) _) q))
                  clear hK K
                  try simp only [Act.put, List.setIfInBounds_toArray, List.set_cons_zero, List.set_cons_succ]
                  refine wpFam_take (i := 12) 0 (some 42) (v := ?_) rfl (by kernel_rfl) (by kernel_rfl) (by kernel_rfl) (by kernel_rfl) (by kernel_rfl) (fun _ _ _ h => h) rfl (Or.inl ⟨by rfl, ?_⟩) (by exact trivial) ?_
                  rotate_left
                  · (intro w hSw; (try simp only [xS] at hSw); go_simp); (try with_reducible rfl)
                  try simp only [Act.put, List.setIfInBounds_toArray, List.set_cons_zero, List.set_cons_succ]
                  refine wpFam_ready (rs := [11]) (by kernel_rfl) (by simp) ?_
                  refine AllReadyF.cons (i := 11) rfl (fun K hK => ?_) ?_
                  ·
                    refine step_append_lies _ (by rfl) (.tmp 37) (.tmp 40) 28 (by rfl) CC 3 j0 (.int .i64 0) 1 8 Try.underlying28 Hj0I.out Hj00.out Hj01.out Hj02.out (by rfl) (by decide) (.slice b2 Z k2) Z (numsV X) (by rfl) HOb.out _ 1 1 [.int .i64 n] (by rfl) (by rfl) (World.news_of_block HNb.out) (by simp [Value.oneCell']) (by decide) (by unfold maxLen; omega) (by omega) (Nat.le_trans HCS.out HB.out.size) _ rfl ?_
                    intro h2 cap2 w2 ho hg ha hlt
                    have HO2 := Lib.hid ho
                    replace HO1 := Lib.hid (own_same HO1.out (fun k hk => hg.block k (HO1.out.lt k hk).2 (own_own_ne HO1.out HOb.out (by decide) k hk)))
                    replace HB := Lib.hid (HB.out.grown hg (Nat.le_trans HCS.out HB.out.size) (fun k hk => (HOb.out.lt k hk).1))
                    clear ho hg ha hlt HOb HNb
                    try change K (Act.put _ (some 41) _) _
                    refine hK.out _ _ ?_ ?_
                    · ((intro q _ _; first | exact HKQ.out _ HB.out q | exact HKQ.out _ (HB.out.alloc (Nat.le_trans HCS.out HB.out.size) _) q))
                    clear hK K
                    try simp only [Act.put, List.setIfInBounds_toArray, List.set_cons_zero, List.set_cons_succ]
                    refine wpFam_ready (rs := [13]) (by kernel_rfl) (by simp) ?_
                    refine AllReadyF.cons (i := 13) rfl (fun K hK => ?_) ?_
                    ·
                      have fr1 := HFR.out _ HB.out 0
                      have fr2 := HFR.out _ HB.out 1
                      have ck1 := HKQ.out _ HB.out 1
                      have ck2 := HKQ.out _ HB.out 2
                      simp only [xS] at ck1 ck2
                      go_simp
                      refine hK.out _ _ ?_ ?_
                      · ((exact fun q hq hs => xS_1 rfl HNE.out (fun e => hq (by subst e; decide)) hs))
                      clear hK K
                      try simp only [Act.put, List.setIfInBounds_toArray, List.set_cons_zero, List.set_cons_succ]
                      refine wpFam_take (i := 14) 0 (some 43) (v := ?_) rfl (by kernel_rfl) (by kernel_rfl) (by kernel_rfl) (by kernel_rfl) (by kernel_rfl) (fun _ _ _ h => h) rfl (Or.inl ⟨by rfl, ?_⟩) (by exact trivial) ?_
                      rotate_left
                      · (intro w hSw; (try simp only [xS] at hSw); go_simp); (try with_reducible rfl)
                      try simp only [Act.put, List.setIfInBounds_toArray, List.set_cons_zero, List.set_cons_succ]
                      refine wpFam_ready (rs := [15]) (by kernel_rfl) (by simp) ?_
                      refine AllReadyF.cons (i := 15) rfl (fun K hK => ?_) ?_
                      ·
                        go_simp
                        refine hK.out _ _ ?_ ?_
                        · ((exact fun q hq hs => xS_2 rfl HNE.out (fun e => hq (by subst e; decide)) hs))
                        clear hK K
                        try simp only [Act.put, List.setIfInBounds_toArray, List.set_cons_zero, List.set_cons_succ]
                        refine wpFam_take (i := 16) 0 (some 6) (v := ?_) rfl (by kernel_rfl) (by kernel_rfl) (by kernel_rfl) (by kernel_rfl) (by kernel_rfl) (fun _ _ _ h => h) rfl (Or.inl ⟨by rfl, ?_⟩) (by exact trivial) ?_
                        rotate_left
                        · (intro w hSw; (try simp only [xS] at hSw); go_simp); (try with_reducible rfl)
                        try simp only [Act.put, List.setIfInBounds_toArray, List.set_cons_zero, List.set_cons_succ]
                        refine wpFam_done (by kernel_rfl) ?_ _
                        go_wp2_with fail
                        have hXX := HXX.out
                        subst hXX
                        go_meet
                        exact ⟨_, _, X ++ [(key, n)], by simp, rfl, done_close HD.out HCC.out rfl HB.out hZ.out HO1.out HO2.out⟩
                      exact AllReadyF.nil
                    exact AllReadyF.nil
                  exact AllReadyF.nil
                exact AllReadyF.nil
              exact AllReadyF.nil
            exact AllReadyF.nil
        case rest =>
          clear HD hXX hZ
          obtain ⟨v1, v2, X', rfl, hX', hD⟩ := hcut
          obtain ⟨V, hV⟩ : ∃ V, V = wc := ⟨_, rfl⟩
          subst hV
          obtain ⟨b1, k1, b2, k2, rfl, rfl⟩ := hD.out.own.form
          obtain ⟨Z, hZ⟩ : ∃ Z, Z = X'.length := ⟨_, rfl⟩
          rw [← hZ] at hD
          replace hZ := Lib.hid hZ
          have m0 := hD.out.m.cell 0
          have m1 := hD.out.m.cell 1
          have s0 := hD.out.s.cell 0
          simp at m0 m1 s0
          obtain ⟨_, _, _, _, e1, e2, k0, n0⟩ := (HM.out.below hD.out.below).at_ HS.out
          rw [← HL.out] at e1 e2
          injection e1 with e1 _ e3
          injection e2 with e2 _ e4
          injection e1 with e1
          injection e2 with e2
          injection e1 with e1 _ _
          injection e2 with e2 _ _
          subst e1 e2 e3 e4
          simp only at k0 n0
          obtain ⟨bb, hbb⟩ : ∃ bb, (ki.toList == key.toList) = bb := ⟨_, rfl⟩
          have hbn : (ki.toList != key.toList) = !bb := by rw [bne, hbb]
          have HKA := Lib.hid hbb
          clear hbb
          go_upto_region 8 with fail
          go_cut [51] (fun v51 wx => v51 = .bool (!bb) ∧ ∃ nq, wx = V.drewN nq)
          case first =>
            clear hbn
            go_quiet (fail)
            go_wp2
            go_meet
            exact ⟨by first | rw [HKA.out] | (rw [bne, HKA.out]), _, rfl⟩
          case rest =>
            obtain ⟨rfl, nq, rfl⟩ := hcut
            obtain ⟨k1', rfl⟩ : ∃ k1', gk = k1' + 1 := ⟨gk - 1, by omega⟩
            have hdrop : l.drop i = (ki, mi) :: l.drop (i + 1) := by
              have hs := HS.out
              rw [List.getElem?_eq_some_iff] at hs
              obtain ⟨hil, hs⟩ := hs
              rw [List.drop_eq_getElem_cons hil, hs]
            have hG3 : X' ++ ((if ki = key then [] else [(ki, mi)]) ++ doneG key n (d || bi) (l.drop (i + 1))) = doneG key n del l := by
              have h1 := hG.out
              rw [hdrop] at h1
              rw [doneG_cons, ← HBI.out] at h1
              rw [hX'.out, ← h1]
              simp only [List.append_assoc]
            have hG2 := Lib.hid hG3
            clear hG3
            have hX2 : Hid (X'.length ≤ 2 * i + 1) := by
              have h1 := hX.out
              rw [hX'.out]
              show _ ≤ _
              rw [List.length_append]
              split
              · simp; omega
              · simp; omega
            clear hdrop hX hG hX'
            have HLT : Hid (g1 < w.heap.size ∧ g2 < w.heap.size) := by
              obtain ⟨_, _, _, _, e1, e2, y0, y1⟩ := HM.out.at_ HS.out
              injection e1 with e1
              injection e2 with e2
              injection e1 with e1
              injection e2 with e2
              injection e1 with e1 _ _
              injection e2 with e2 _ _
              subst e1 e2
              exact ⟨cell_lt y0, cell_lt y1⟩
            cases bb
            · have hD4 := hD.out.drewN nq
              have hk0 : (V.drewN nq).cell? ⟨g1, i, none⟩ = some (.string ki) := k0
              have hn0 : (V.drewN nq).cell? ⟨g2, i, none⟩ = some (.int .i64 mi) := n0
              clear m0 m1 s0 k0 n0 hD
              generalize V.drewN nq = W1 at hD4 hk0 hn0 ⊢
              have HD := Lib.hid hD4
              have HK0 := Lib.hid hk0
              have HN0 := Lib.hid hn0
              clear hD4 hk0 hn0
              · obtain ⟨XX, hXX⟩ : ∃ XX, XX = w.heap.size + 3 := ⟨_, rfl⟩
                have hCC : ∃ CC, CC = w.heap.size + 4 := ⟨_, rfl⟩
                obtain ⟨CC, hCC⟩ := hCC
                have HOa : Hid (W1.drew.ownsRow CC 9 1 (.slice b1 Z k1) Z (keysV X')) := by have := HD.out.own.k; rw [← hZ.out, ← hCC] at this; exact own_same this (fun _ _ => rfl)
                have HOb : Hid (W1.drew.ownsRow CC 3 1 (.slice b2 Z k2) Z (numsV X')) := by have := HD.out.own.n; rw [← hZ.out, ← hCC] at this; exact own_same this (fun _ _ => rfl)
                have HB : Hid (Below CC W1 W1.drew) := (Below.refl _ _).drew
                have HCS : Hid (CC ≤ W1.heap.size) := by rw [hCC]; exact HD.out.x.lt
                have hx0 := HD.out.x.cell 0
                have hx1 := HD.out.x.cell 1
                have hs0 := HD.out.m.cell 0
                have hs1 := HD.out.m.cell 1
                obtain ⟨hlg1, hlg2⟩ := HLT.out
                have hf := HD.out.x.frozen
                simp only [← hXX] at hx0 hx1 hf ⊢
                have hKQ : ∀ w', Below CC W1 w' → ∀ q, xS XX ⟨w.heap.size, 0, none⟩ ⟨w.heap.size, 1, none⟩ ⟨g1, i, none⟩ ⟨g2, i, none⟩ (.slice b1 Z k1) (.slice b2 Z k2) (.slice (some ⟨g1, 0, none⟩) L c1) (.slice (some ⟨g2, 0, none⟩) L c2) (.string ki) (.int .i64 mi) q w' := fun w' hb q => by
                  match q with
                  | 0 => exact trivial
                  | 1 => exact (hb.cell (p := ⟨XX, 0, none⟩) (by show XX < CC; omega)).trans hx0
                  | 2 => exact (hb.cell (p := ⟨XX, 1, none⟩) (by show XX < CC; omega)).trans hx1
                  | 3 => exact (hb.cell (p := ⟨w.heap.size, 0, none⟩) (by show w.heap.size < CC; omega)).trans hs0
                  | 4 => exact (hb.cell (p := ⟨w.heap.size, 1, none⟩) (by show w.heap.size < CC; omega)).trans hs1
                  | 5 => exact (hb.cell (p := ⟨g1, i, none⟩) (by show g1 < CC; omega)).trans HK0.out
                  | 6 => exact (hb.cell (p := ⟨g2, i, none⟩) (by show g2 < CC; omega)).trans HN0.out
                  | _ + 7 => exact trivial
                have HKQ := Lib.hid hKQ
                have HNE : Hid (XNe XX ⟨w.heap.size, 0, none⟩ ⟨w.heap.size, 1, none⟩ ⟨g1, i, none⟩ ⟨g2, i, none⟩) := ⟨by show w.heap.size ≠ XX; omega, by show w.heap.size ≠ XX; omega, by show g1 ≠ XX; omega, by show g2 ≠ XX; omega⟩
                have HFR : Hid (∀ w', Below CC W1 w' → ∀ o, w'.frozen? ⟨XX, o, none⟩ = false) := fun w' hb o => (hb.frozen (p := ⟨XX, o, none⟩) (by show XX < CC; omega)).trans (hf o)
                have HXX := Lib.hid hXX
                have HCC := Lib.hid hCC
                have hzz : Z ≤ 2001 := by have := hX2.out; have := hZ.out; omega
                obtain ⟨j0, hj, hj0, hj1, hj2⟩ := info_parts Try.infoI1
                have Hj0I := Lib.hid hj
                have Hj00 := Lib.hid hj0
                have Hj01 := Lib.hid hj1
                have Hj02 := Lib.hid hj2
                obtain ⟨tS0, hi', hz0, hz1, hz2⟩ := info_parts Try.infoS1
                have HS0I := Lib.hid hi'
                have HS00 := Lib.hid hz0
                have HS01 := Lib.hid hz1
                have HS02 := Lib.hid hz2
                clear hKQ hx0 hx1 hs0 hs1 hf hXX hCC hj hj0 hj1 hj2 hi' hz0 hz1 hz2
                go_upto_region 9 with fail
                refine wp_region_fam (S := (xS XX ⟨w.heap.size, 0, none⟩ ⟨w.heap.size, 1, none⟩ ⟨g1, i, none⟩ ⟨g2, i, none⟩ (.slice b1 Z k1) (.slice b2 Z k2) (.slice (some ⟨g1, 0, none⟩) L c1) (.slice (some ⟨g2, 0, none⟩) L c2) (.string ki) (.int .i64 mi))) (ds := (xD 19 21)) (by kernel_rfl) ?_
                refine wpFam_take (i := 0) 0 (some 52) (v := ?_) rfl (by kernel_rfl) (by kernel_rfl) (by kernel_rfl) (by kernel_rfl) (by kernel_rfl) (fun _ _ _ h => h) rfl (Or.inl ⟨by rfl, ?_⟩) (by exact trivial) ?_
                rotate_left
                · (intro w hSw; (try simp only [xS] at hSw); go_simp); (try with_reducible rfl)
                try simp only [Act.put, List.setIfInBounds_toArray, List.set_cons_zero, List.set_cons_succ]
                refine wpFam_take (i := 1) 1 (some 53) (v := ?_) rfl (by kernel_rfl) (by kernel_rfl) (by kernel_rfl) (by kernel_rfl) (by kernel_rfl) (fun _ _ _ h => h) rfl (Or.inl ⟨by rfl, ?_⟩) (by exact HKQ.out _ HB.out 1) ?_
                rotate_left
                · (intro w hSw; (try simp only [xS] at hSw); go_simp); (try with_reducible rfl)
                try simp only [Act.put, List.setIfInBounds_toArray, List.set_cons_zero, List.set_cons_succ]
                refine wpFam_take (i := 2) 0 (some 54) (v := ?_) rfl (by kernel_rfl) (by kernel_rfl) (by kernel_rfl) (by kernel_rfl) (by kernel_rfl) (fun _ _ _ h => h) rfl (Or.inl ⟨by rfl, ?_⟩) (by exact trivial) ?_
                rotate_left
                · (intro w hSw; (try simp only [xS] at hSw); go_simp); (try with_reducible rfl)
                try simp only [Act.put, List.setIfInBounds_toArray, List.set_cons_zero, List.set_cons_succ]
                refine wpFam_take (i := 3) 3 (some 55) (v := ?_) rfl (by kernel_rfl) (by kernel_rfl) (by kernel_rfl) (by kernel_rfl) (by kernel_rfl) (fun _ _ _ h => h) rfl (Or.inl ⟨by rfl, ?_⟩) (by exact HKQ.out _ HB.out 3) ?_
                rotate_left
                · (intro w hSw; (try simp only [xS] at hSw); go_simp); (try with_reducible rfl)
                try simp only [Act.put, List.setIfInBounds_toArray, List.set_cons_zero, List.set_cons_succ]
                refine wpFam_take (i := 4) 0 (some 56) (v := ?_) rfl (by kernel_rfl) (by kernel_rfl) (by kernel_rfl) (by kernel_rfl) (by kernel_rfl) (fun _ _ _ h => h) rfl (Or.inl ⟨by rfl, ?_⟩) (by exact trivial) ?_
                rotate_left
                · (intro w hSw; (try simp only [xS] at hSw); go_simp); (try with_reducible rfl)
                try simp only [Act.put, List.setIfInBounds_toArray, List.set_cons_zero, List.set_cons_succ]
                refine wpFam_take (i := 5) 0 (some 57) (v := ?_) rfl (by kernel_rfl) (by kernel_rfl) (by kernel_rfl) (by kernel_rfl) (by kernel_rfl) (fun _ _ _ h => h) rfl (Or.inl ⟨by rfl, ?_⟩) (by exact trivial) ?_
                rotate_left
                · (intro w hSw; (try simp only [xS] at hSw); go_simp); (try with_reducible rfl)
                try simp only [Act.put, List.setIfInBounds_toArray, List.set_cons_zero, List.set_cons_succ]
                refine wpFam_take (i := 6) 5 (some 58) (v := ?_) rfl (by kernel_rfl) (by kernel_rfl) (by kernel_rfl) (by kernel_rfl) (by kernel_rfl) (fun _ _ _ h => h) rfl (Or.inl ⟨by rfl, ?_⟩) (by exact HKQ.out _ HB.out 5) ?_
                rotate_left
                · (intro w hSw; (try simp only [xS] at hSw); go_simp); (try with_reducible rfl)
                try simp only [Act.put, List.setIfInBounds_toArray, List.set_cons_zero, List.set_cons_succ]
                refine wpFam_take (i := 9) 0 (some 61) (v := ?_) rfl (by kernel_rfl) (by kernel_rfl) (by kernel_rfl) (by kernel_rfl) (by kernel_rfl) (fun _ _ _ h => h) rfl (Or.inl ⟨by rfl, ?_⟩) (by exact trivial) ?_
                rotate_left
                · (intro w hSw; (try simp only [xS] at hSw); go_simp); (try with_reducible rfl)
                try simp only [Act.put, List.setIfInBounds_toArray, List.set_cons_zero, List.set_cons_succ]
                refine wpFam_take (i := 10) 2 (some 62) (v := ?_) rfl (by kernel_rfl) (by kernel_rfl) (by kernel_rfl) (by kernel_rfl) (by kernel_rfl) (fun _ _ _ h => h) rfl (Or.inl ⟨by rfl, ?_⟩) (by exact HKQ.out _ HB.out 2) ?_
                rotate_left
                · (intro w hSw; (try simp only [xS] at hSw); go_simp); (try with_reducible rfl)
                try simp only [Act.put, List.setIfInBounds_toArray, List.set_cons_zero, List.set_cons_succ]
                refine wpFam_take (i := 11) 0 (some 63) (v := ?_) rfl (by kernel_rfl) (by kernel_rfl) (by kernel_rfl) (by kernel_rfl) (by kernel_rfl) (fun _ _ _ h => h) rfl (Or.inl ⟨by rfl, ?_⟩) (by exact trivial) ?_
                rotate_left
                · (intro w hSw; (try simp only [xS] at hSw); go_simp); (try with_reducible rfl)
                try simp only [Act.put, List.setIfInBounds_toArray, List.set_cons_zero, List.set_cons_succ]
                refine wpFam_take (i := 12) 4 (some 64) (v := ?_) rfl (by kernel_rfl) (by kernel_rfl) (by kernel_rfl) (by kernel_rfl) (by kernel_rfl) (fun _ _ _ h => h) rfl (Or.inl ⟨by rfl, ?_⟩) (by exact HKQ.out _ HB.out 4) ?_
                rotate_left
                · (intro w hSw; (try simp only [xS] at hSw); go_simp); (try with_reducible rfl)
                try simp only [Act.put, List.setIfInBounds_toArray, List.set_cons_zero, List.set_cons_succ]
                refine wpFam_take (i := 13) 0 (some 65) (v := ?_) rfl (by kernel_rfl) (by kernel_rfl) (by kernel_rfl) (by kernel_rfl) (by kernel_rfl) (fun _ _ _ h => h) rfl (Or.inl ⟨by rfl, ?_⟩) (by exact trivial) ?_
                rotate_left
                · (intro w hSw; (try simp only [xS] at hSw); go_simp); (try with_reducible rfl)
                try simp only [Act.put, List.setIfInBounds_toArray, List.set_cons_zero, List.set_cons_succ]
                refine wpFam_take (i := 14) 0 (some 66) (v := ?_) rfl (by kernel_rfl) (by kernel_rfl) (by kernel_rfl) (by kernel_rfl) (by kernel_rfl) (fun _ _ _ h => h) rfl (Or.inl ⟨by rfl, ?_⟩) (by exact trivial) ?_
                rotate_left
                · (intro w hSw; (try simp only [xS] at hSw); go_simp); (try with_reducible rfl)
                try simp only [Act.put, List.setIfInBounds_toArray, List.set_cons_zero, List.set_cons_succ]
                refine wpFam_take (i := 15) 6 (some 67) (v := ?_) rfl (by kernel_rfl) (by kernel_rfl) (by kernel_rfl) (by kernel_rfl) (by kernel_rfl) (fun _ _ _ h => h) rfl (Or.inl ⟨by rfl, ?_⟩) (by exact HKQ.out _ HB.out 6) ?_
                rotate_left
                · (intro w hSw; (try simp only [xS] at hSw); go_simp); (try with_reducible rfl)
                try simp only [Act.put, List.setIfInBounds_toArray, List.set_cons_zero, List.set_cons_succ]
                refine wpFam_ready (rs := [7, 16]) (by kernel_rfl) (by simp) ?_
                refine AllReadyF.cons (i := 7) rfl (fun K hK => ?_) ?_
                ·
                  go_simp
                  have hn0 := blk_new_of HOa.out 9 #[.string ki]
                  (try rw [sz_alloc] at hn0)
                  have HNa := Lib.hid hn0
                  clear hn0
                  replace HOa := Lib.hid (HOa.out.alloc (.cells #[.string ki] 9))
                  replace HOb := Lib.hid (HOb.out.alloc (.cells #[.string ki] 9))
                  (try replace HNb := Lib.hid (HNb.out.alloc (.cells #[.string ki] 9)))
                  replace HB := Lib.hid (HB.out.alloc (Nat.le_trans HCS.out HB.out.size) (.cells #[.string ki] 9))
                  try change K (Act.put _ (some 59) _) _
                  refine hK.out _ _ ?_ ?_
                  · ((intro q _ _; first | exact HKQ.out _ HB.out q | exact HKQ.out _ (HB.out.alloc (Nat.le_trans HCS.out HB.out.size) _) q))
                  clear hK K
                  try simp only [Act.put, List.setIfInBounds_toArray, List.set_cons_zero, List.set_cons_succ]
                  refine wpFam_ready (rs := [8, 16]) (by kernel_rfl) (by simp) ?_
                  refine AllReadyF.cons (i := 8) rfl (fun K hK => ?_) ?_
                  ·
                    refine step_append_lies _ (by rfl) (.tmp 53) (.tmp 59) 27 (by rfl) CC 9 tS0 (.string ⟨#[]⟩) 1 16 Try.underlying27 HS0I.out HS00.out HS01.out HS02.out (by rfl) (by decide) (.slice b1 Z k1) Z (keysV X') (by rfl) HOa.out _ 1 1 [.string ki] (by rfl) (by rfl) (World.news_of_block HNa.out) (by simp [Value.oneCell']) (by decide) (by unfold maxLen; omega) (by omega) (Nat.le_trans HCS.out HB.out.size) _ rfl ?_
                    intro h1 cap1 w1 ho hg ha hlt
                    have HO1 := Lib.hid ho
                    replace HOb := Lib.hid (own_same HOb.out (fun k hk => hg.block k (HOb.out.lt k hk).2 (own_own_ne HOb.out HOa.out (by decide) k hk)))
                    (try replace HNb := Lib.hid (HNb.out.grown hg (own_blk_ne HOa.out HNb.out (by decide))))
                    replace HB := Lib.hid (HB.out.grown hg (Nat.le_trans HCS.out HB.out.size) (fun k hk => (HOa.out.lt k hk).1))
                    clear ho hg ha hlt HOa HNa
                    try change K (Act.put _ (some 60) _) _
                    refine hK.out _ _ ?_ ?_
                    · ((intro q _ _; first | exact HKQ.out _ HB.out q | exact HKQ.out _ (HB.out.alloc (Nat.le_trans HCS.out HB.out.size) _) q))
                    clear hK K
                    try simp only [Act.put, List.setIfInBounds_toArray, List.set_cons_zero, List.set_cons_succ]
                    refine wpFam_take (i := 18) 0 (some 70) (v := ?_) rfl (by kernel_rfl) (by kernel_rfl) (by kernel_rfl) (by kernel_rfl) (by kernel_rfl) (fun _ _ _ h => h) rfl (Or.inl ⟨by rfl, ?_⟩) (by exact trivial) ?_
                    rotate_left
                    · (intro w hSw; (try simp only [xS] at hSw); go_simp); (try with_reducible rfl)
                    try simp only [Act.put, List.setIfInBounds_toArray, List.set_cons_zero, List.set_cons_succ]
                    refine wpFam_ready (rs := [16]) (by kernel_rfl) (by simp) ?_
                    refine AllReadyF.cons (i := 16) rfl (fun K hK => ?_) ?_
                    ·
                      go_simp
                      have hn0 := blk_new_of HOb.out 3 #[.int .i64 mi]
                      (try rw [sz_alloc] at hn0)
                      have HNb := Lib.hid hn0
                      clear hn0
                      (try replace HOa := Lib.hid (HOa.out.alloc (.cells #[.int .i64 mi] 3)))
                      (try replace HO1 := Lib.hid (HO1.out.alloc (.cells #[.int .i64 mi] 3)))
                      replace HOb := Lib.hid (HOb.out.alloc (.cells #[.int .i64 mi] 3))
                      (try replace HNa := Lib.hid (HNa.out.alloc (.cells #[.int .i64 mi] 3)))
                      replace HB := Lib.hid (HB.out.alloc (Nat.le_trans HCS.out HB.out.size) (.cells #[.int .i64 mi] 3))
                      try change K (Act.put _ (some 68) _) _
                      refine hK.out _ _ ?_ ?_
                      · ((intro q _ _; first | exact HKQ.out _ HB.out q | exact HKQ.out _ (HB.out.alloc (Nat.le_trans HCS.out HB.out.size) _) q))
                      clear hK K
                      try simp only [Act.put, List.setIfInBounds_toArray, List.set_cons_zero, List.set_cons_succ]
                      refine wpFam_ready (rs := [17]) (by kernel_rfl) (by simp) ?_
                      refine AllReadyF.cons (i := 17) rfl (fun K hK => ?_) ?_
                      ·
                        refine step_append_lies _ (by rfl) (.tmp 62) (.tmp 68) 28 (by rfl) CC 3 j0 (.int .i64 0) 1 8 Try.underlying28 Hj0I.out Hj00.out Hj01.out Hj02.out (by rfl) (by decide) (.slice b2 Z k2) Z (numsV X') (by rfl) HOb.out _ 1 1 [.int .i64 mi] (by rfl) (by rfl) (World.news_of_block HNb.out) (by simp [Value.oneCell']) (by decide) (by unfold maxLen; omega) (by omega) (Nat.le_trans HCS.out HB.out.size) _ rfl ?_
                        intro h2 cap2 w2 ho hg ha hlt
                        have HO2 := Lib.hid ho
                        replace HO1 := Lib.hid (own_same HO1.out (fun k hk => hg.block k (HO1.out.lt k hk).2 (own_own_ne HO1.out HOb.out (by decide) k hk)))
                        replace HB := Lib.hid (HB.out.grown hg (Nat.le_trans HCS.out HB.out.size) (fun k hk => (HOb.out.lt k hk).1))
                        clear ho hg ha hlt HOb HNb
                        try change K (Act.put _ (some 69) _) _
                        refine hK.out _ _ ?_ ?_
                        · ((intro q _ _; first | exact HKQ.out _ HB.out q | exact HKQ.out _ (HB.out.alloc (Nat.le_trans HCS.out HB.out.size) _) q))
                        clear hK K
                        try simp only [Act.put, List.setIfInBounds_toArray, List.set_cons_zero, List.set_cons_succ]
                        refine wpFam_ready (rs := [19]) (by kernel_rfl) (by simp) ?_
                        refine AllReadyF.cons (i := 19) rfl (fun K hK => ?_) ?_
                        ·
                          have fr1 := HFR.out _ HB.out 0
                          have fr2 := HFR.out _ HB.out 1
                          have ck1 := HKQ.out _ HB.out 1
                          have ck2 := HKQ.out _ HB.out 2
                          simp only [xS] at ck1 ck2
                          go_simp
                          refine hK.out _ _ ?_ ?_
                          · ((exact fun q hq hs => xS_1 rfl HNE.out (fun e => hq (by subst e; decide)) hs))
                          clear hK K
                          try simp only [Act.put, List.setIfInBounds_toArray, List.set_cons_zero, List.set_cons_succ]
                          refine wpFam_take (i := 20) 0 (some 71) (v := ?_) rfl (by kernel_rfl) (by kernel_rfl) (by kernel_rfl) (by kernel_rfl) (by kernel_rfl) (fun _ _ _ h => h) rfl (Or.inl ⟨by rfl, ?_⟩) (by exact trivial) ?_
                          rotate_left
                          · (intro w hSw; (try simp only [xS] at hSw); go_simp); (try with_reducible rfl)
                          try simp only [Act.put, List.setIfInBounds_toArray, List.set_cons_zero, List.set_cons_succ]
                          refine wpFam_ready (rs := [21]) (by kernel_rfl) (by simp) ?_
                          refine AllReadyF.cons (i := 21) rfl (fun K hK => ?_) ?_
                          ·
                            go_simp
                            refine hK.out _ _ ?_ ?_
                            · ((exact fun q hq hs => xS_2 rfl HNE.out (fun e => hq (by subst e; decide)) hs))
                            clear hK K
                            try simp only [Act.put, List.setIfInBounds_toArray, List.set_cons_zero, List.set_cons_succ]
                            refine wpFam_done (by kernel_rfl) ?_ _
                            go_wp2_with fail
                            have hXX := HXX.out
                            subst hXX
                            go_roundg k1'
                            case measure => omega
                            case rel => exact ⟨i + 1, d || bi, X' ++ [(ki, mi)], _, _, rfl, by go_num, by omega, by have := hX2.out; show _ ≤ _; simp; omega, by have := hG2.out; rw [if_neg (fun e => by have := HKA.out; rw [e, beq_self_eq_true] at this; cases this)] at this; rw [← this]; show _ = _; simp only [List.append_assoc], done_close HD.out HCC.out rfl HB.out hZ.out HO1.out HO2.out⟩
                          exact AllReadyF.nil
                        exact AllReadyF.nil
                      exact AllReadyF.nil
                    exact AllReadyF.nil
                  refine AllReadyF.cons (i := 16) rfl (fun K hK => ?_) ?_
                  ·
                    go_simp
                    have hn0 := blk_new_of HOb.out 3 #[.int .i64 mi]
                    (try rw [sz_alloc] at hn0)
                    have HNb := Lib.hid hn0
                    clear hn0
                    (try replace HOa := Lib.hid (HOa.out.alloc (.cells #[.int .i64 mi] 3)))
                    (try replace HO1 := Lib.hid (HO1.out.alloc (.cells #[.int .i64 mi] 3)))
                    replace HOb := Lib.hid (HOb.out.alloc (.cells #[.int .i64 mi] 3))
                    (try replace HNa := Lib.hid (HNa.out.alloc (.cells #[.int .i64 mi] 3)))
                    replace HB := Lib.hid (HB.out.alloc (Nat.le_trans HCS.out HB.out.size) (.cells #[.int .i64 mi] 3))
                    try change K (Act.put _ (some 68) _) _
                    refine hK.out _ _ ?_ ?_
                    · ((intro q _ _; first | exact HKQ.out _ HB.out q | exact HKQ.out _ (HB.out.alloc (Nat.le_trans HCS.out HB.out.size) _) q))
                    clear hK K
                    try simp only [Act.put, List.setIfInBounds_toArray, List.set_cons_zero, List.set_cons_succ]
                    refine wpFam_ready (rs := [8]) (by kernel_rfl) (by simp) ?_
                    refine AllReadyF.cons (i := 8) rfl (fun K hK => ?_) ?_
                    ·
                      refine step_append_lies _ (by rfl) (.tmp 53) (.tmp 59) 27 (by rfl) CC 9 tS0 (.string ⟨#[]⟩) 1 16 Try.underlying27 HS0I.out HS00.out HS01.out HS02.out (by rfl) (by decide) (.slice b1 Z k1) Z (keysV X') (by rfl) HOa.out _ 1 1 [.string ki] (by rfl) (by rfl) (World.news_of_block HNa.out) (by simp [Value.oneCell']) (by decide) (by unfold maxLen; omega) (by omega) (Nat.le_trans HCS.out HB.out.size) _ rfl ?_
                      intro h1 cap1 w1 ho hg ha hlt
                      have HO1 := Lib.hid ho
                      replace HOb := Lib.hid (own_same HOb.out (fun k hk => hg.block k (HOb.out.lt k hk).2 (own_own_ne HOb.out HOa.out (by decide) k hk)))
                      (try replace HNb := Lib.hid (HNb.out.grown hg (own_blk_ne HOa.out HNb.out (by decide))))
                      replace HB := Lib.hid (HB.out.grown hg (Nat.le_trans HCS.out HB.out.size) (fun k hk => (HOa.out.lt k hk).1))
                      clear ho hg ha hlt HOa HNa
                      try change K (Act.put _ (some 60) _) _
                      refine hK.out _ _ ?_ ?_
                      · ((intro q _ _; first | exact HKQ.out _ HB.out q | exact HKQ.out _ (HB.out.alloc (Nat.le_trans HCS.out HB.out.size) _) q))
                      clear hK K
                      try simp only [Act.put, List.setIfInBounds_toArray, List.set_cons_zero, List.set_cons_succ]
                      refine wpFam_take (i := 18) 0 (some 70) (v := ?_) rfl (by kernel_rfl) (by kernel_rfl) (by kernel_rfl) (by kernel_rfl) (by kernel_rfl) (fun _ _ _ h => h) rfl (Or.inl ⟨by rfl, ?_⟩) (by exact trivial) ?_
                      rotate_left
                      · (intro w hSw; (try simp only [xS] at hSw); go_simp); (try with_reducible rfl)
                      try simp only [Act.put, List.setIfInBounds_toArray, List.set_cons_zero, List.set_cons_succ]
                      refine wpFam_ready (rs := [17]) (by kernel_rfl) (by simp) ?_
                      refine AllReadyF.cons (i := 17) rfl (fun K hK => ?_) ?_
                      ·
                        refine step_append_lies _ (by rfl) (.tmp 62) (.tmp 68) 28 (by rfl) CC 3 j0 (.int .i64 0) 1 8 Try.underlying28 Hj0I.out Hj00.out Hj01.out Hj02.out (by rfl) (by decide) (.slice b2 Z k2) Z (numsV X') (by rfl) HOb.out _ 1 1 [.int .i64 mi] (by rfl) (by rfl) (World.news_of_block HNb.out) (by simp [Value.oneCell']) (by decide) (by unfold maxLen; omega) (by omega) (Nat.le_trans HCS.out HB.out.size) _ rfl ?_
                        intro h2 cap2 w2 ho hg ha hlt
                        have HO2 := Lib.hid ho
                        replace HO1 := Lib.hid (own_same HO1.out (fun k hk => hg.block k (HO1.out.lt k hk).2 (own_own_ne HO1.out HOb.out (by decide) k hk)))
                        replace HB := Lib.hid (HB.out.grown hg (Nat.le_trans HCS.out HB.out.size) (fun k hk => (HOb.out.lt k hk).1))
                        clear ho hg ha hlt HOb HNb
                        try change K (Act.put _ (some 69) _) _
                        refine hK.out _ _ ?_ ?_
                        · ((intro q _ _; first | exact HKQ.out _ HB.out q | exact HKQ.out _ (HB.out.alloc (Nat.le_trans HCS.out HB.out.size) _) q))
                        clear hK K
                        try simp only [Act.put, List.setIfInBounds_toArray, List.set_cons_zero, List.set_cons_succ]
                        refine wpFam_ready (rs := [19]) (by kernel_rfl) (by simp) ?_
                        refine AllReadyF.cons (i := 19) rfl (fun K hK => ?_) ?_
                        ·
                          have fr1 := HFR.out _ HB.out 0
                          have fr2 := HFR.out _ HB.out 1
                          have ck1 := HKQ.out _ HB.out 1
                          have ck2 := HKQ.out _ HB.out 2
                          simp only [xS] at ck1 ck2
                          go_simp
                          refine hK.out _ _ ?_ ?_
                          · ((exact fun q hq hs => xS_1 rfl HNE.out (fun e => hq (by subst e; decide)) hs))
                          clear hK K
                          try simp only [Act.put, List.setIfInBounds_toArray, List.set_cons_zero, List.set_cons_succ]
                          refine wpFam_take (i := 20) 0 (some 71) (v := ?_) rfl (by kernel_rfl) (by kernel_rfl) (by kernel_rfl) (by kernel_rfl) (by kernel_rfl) (fun _ _ _ h => h) rfl (Or.inl ⟨by rfl, ?_⟩) (by exact trivial) ?_
                          rotate_left
                          · (intro w hSw; (try simp only [xS] at hSw); go_simp); (try with_reducible rfl)
                          try simp only [Act.put, List.setIfInBounds_toArray, List.set_cons_zero, List.set_cons_succ]
                          refine wpFam_ready (rs := [21]) (by kernel_rfl) (by simp) ?_
                          refine AllReadyF.cons (i := 21) rfl (fun K hK => ?_) ?_
                          ·
                            go_simp
                            refine hK.out _ _ ?_ ?_
                            · ((exact fun q hq hs => xS_2 rfl HNE.out (fun e => hq (by subst e; decide)) hs))
                            clear hK K
                            try simp only [Act.put, List.setIfInBounds_toArray, List.set_cons_zero, List.set_cons_succ]
                            refine wpFam_done (by kernel_rfl) ?_ _
                            go_wp2_with fail
                            have hXX := HXX.out
                            subst hXX
                            go_roundg k1'
                            case measure => omega
                            case rel => exact ⟨i + 1, d || bi, X' ++ [(ki, mi)], _, _, rfl, by go_num, by omega, by have := hX2.out; show _ ≤ _; simp; omega, by have := hG2.out; rw [if_neg (fun e => by have := HKA.out; rw [e, beq_self_eq_true] at this; cases this)] at this; rw [← this]; show _ = _; simp only [List.append_assoc], done_close HD.out HCC.out rfl HB.out hZ.out HO1.out HO2.out⟩
                          exact AllReadyF.nil
                        exact AllReadyF.nil
                      exact AllReadyF.nil
                    exact AllReadyF.nil
                  exact AllReadyF.nil
                refine AllReadyF.cons (i := 16) rfl (fun K hK => ?_) ?_
                ·
                  go_simp
                  have hn0 := blk_new_of HOb.out 3 #[.int .i64 mi]
                  (try rw [sz_alloc] at hn0)
                  have HNb := Lib.hid hn0
                  clear hn0
                  (try replace HOa := Lib.hid (HOa.out.alloc (.cells #[.int .i64 mi] 3)))
                  (try replace HO1 := Lib.hid (HO1.out.alloc (.cells #[.int .i64 mi] 3)))
                  replace HOb := Lib.hid (HOb.out.alloc (.cells #[.int .i64 mi] 3))
                  (try replace HNa := Lib.hid (HNa.out.alloc (.cells #[.int .i64 mi] 3)))
                  replace HB := Lib.hid (HB.out.alloc (Nat.le_trans HCS.out HB.out.size) (.cells #[.int .i64 mi] 3))
                  try change K (Act.put _ (some 68) _) _
                  refine hK.out _ _ ?_ ?_
                  · ((intro q _ _; first | exact HKQ.out _ HB.out q | exact HKQ.out _ (HB.out.alloc (Nat.le_trans HCS.out HB.out.size) _) q))
                  clear hK K
                  try simp only [Act.put, List.setIfInBounds_toArray, List.set_cons_zero, List.set_cons_succ]
                  refine wpFam_ready (rs := [7]) (by kernel_rfl) (by simp) ?_
                  refine AllReadyF.cons (i := 7) rfl (fun K hK => ?_) ?_
                  ·
                    go_simp
                    have hn0 := blk_new_of HOa.out 9 #[.string ki]
                    (try rw [sz_alloc] at hn0)
                    have HNa := Lib.hid hn0
                    clear hn0
                    replace HOa := Lib.hid (HOa.out.alloc (.cells #[.string ki] 9))
                    replace HOb := Lib.hid (HOb.out.alloc (.cells #[.string ki] 9))
                    (try replace HNb := Lib.hid (HNb.out.alloc (.cells #[.string ki] 9)))
                    replace HB := Lib.hid (HB.out.alloc (Nat.le_trans HCS.out HB.out.size) (.cells #[.string ki] 9))
                    try change K (Act.put _ (some 59) _) _
                    refine hK.out _ _ ?_ ?_
                    · ((intro q _ _; first | exact HKQ.out _ HB.out q | exact HKQ.out _ (HB.out.alloc (Nat.le_trans HCS.out HB.out.size) _) q))
                    clear hK K
                    try simp only [Act.put, List.setIfInBounds_toArray, List.set_cons_zero, List.set_cons_succ]
                    refine wpFam_ready (rs := [8]) (by kernel_rfl) (by simp) ?_
                    refine AllReadyF.cons (i := 8) rfl (fun K hK => ?_) ?_
                    ·
                      refine step_append_lies _ (by rfl) (.tmp 53) (.tmp 59) 27 (by rfl) CC 9 tS0 (.string ⟨#[]⟩) 1 16 Try.underlying27 HS0I.out HS00.out HS01.out HS02.out (by rfl) (by decide) (.slice b1 Z k1) Z (keysV X') (by rfl) HOa.out _ 1 1 [.string ki] (by rfl) (by rfl) (World.news_of_block HNa.out) (by simp [Value.oneCell']) (by decide) (by unfold maxLen; omega) (by omega) (Nat.le_trans HCS.out HB.out.size) _ rfl ?_
                      intro h1 cap1 w1 ho hg ha hlt
                      have HO1 := Lib.hid ho
                      replace HOb := Lib.hid (own_same HOb.out (fun k hk => hg.block k (HOb.out.lt k hk).2 (own_own_ne HOb.out HOa.out (by decide) k hk)))
                      (try replace HNb := Lib.hid (HNb.out.grown hg (own_blk_ne HOa.out HNb.out (by decide))))
                      replace HB := Lib.hid (HB.out.grown hg (Nat.le_trans HCS.out HB.out.size) (fun k hk => (HOa.out.lt k hk).1))
                      clear ho hg ha hlt HOa HNa
                      try change K (Act.put _ (some 60) _) _
                      refine hK.out _ _ ?_ ?_
                      · ((intro q _ _; first | exact HKQ.out _ HB.out q | exact HKQ.out _ (HB.out.alloc (Nat.le_trans HCS.out HB.out.size) _) q))
                      clear hK K
                      try simp only [Act.put, List.setIfInBounds_toArray, List.set_cons_zero, List.set_cons_succ]
                      refine wpFam_take (i := 18) 0 (some 70) (v := ?_) rfl (by kernel_rfl) (by kernel_rfl) (by kernel_rfl) (by kernel_rfl) (by kernel_rfl) (fun _ _ _ h => h) rfl (Or.inl ⟨by rfl, ?_⟩) (by exact trivial) ?_
                      rotate_left
                      · (intro w hSw; (try simp only [xS] at hSw); go_simp); (try with_reducible rfl)
                      try simp only [Act.put, List.setIfInBounds_toArray, List.set_cons_zero, List.set_cons_succ]
                      refine wpFam_ready (rs := [17]) (by kernel_rfl) (by simp) ?_
                      refine AllReadyF.cons (i := 17) rfl (fun K hK => ?_) ?_
                      ·
                        refine step_append_lies _ (by rfl) (.tmp 62) (.tmp 68) 28 (by rfl) CC 3 j0 (.int .i64 0) 1 8 Try.underlying28 Hj0I.out Hj00.out Hj01.out Hj02.out (by rfl) (by decide) (.slice b2 Z k2) Z (numsV X') (by rfl) HOb.out _ 1 1 [.int .i64 mi] (by rfl) (by rfl) (World.news_of_block HNb.out) (by simp [Value.oneCell']) (by decide) (by unfold maxLen; omega) (by omega) (Nat.le_trans HCS.out HB.out.size) _ rfl ?_
                        intro h2 cap2 w2 ho hg ha hlt
                        have HO2 := Lib.hid ho
                        replace HO1 := Lib.hid (own_same HO1.out (fun k hk => hg.block k (HO1.out.lt k hk).2 (own_own_ne HO1.out HOb.out (by decide) k hk)))
                        replace HB := Lib.hid (HB.out.grown hg (Nat.le_trans HCS.out HB.out.size) (fun k hk => (HOb.out.lt k hk).1))
                        clear ho hg ha hlt HOb HNb
                        try change K (Act.put _ (some 69) _) _
                        refine hK.out _ _ ?_ ?_
                        · ((intro q _ _; first | exact HKQ.out _ HB.out q | exact HKQ.out _ (HB.out.alloc (Nat.le_trans HCS.out HB.out.size) _) q))
                        clear hK K
                        try simp only [Act.put, List.setIfInBounds_toArray, List.set_cons_zero, List.set_cons_succ]
                        refine wpFam_ready (rs := [19]) (by kernel_rfl) (by simp) ?_
                        refine AllReadyF.cons (i := 19) rfl (fun K hK => ?_) ?_
                        ·
                          have fr1 := HFR.out _ HB.out 0
                          have fr2 := HFR.out _ HB.out 1
                          have ck1 := HKQ.out _ HB.out 1
                          have ck2 := HKQ.out _ HB.out 2
                          simp only [xS] at ck1 ck2
                          go_simp
                          refine hK.out _ _ ?_ ?_
                          · ((exact fun q hq hs => xS_1 rfl HNE.out (fun e => hq (by subst e; decide)) hs))
                          clear hK K
                          try simp only [Act.put, List.setIfInBounds_toArray, List.set_cons_zero, List.set_cons_succ]
                          refine wpFam_take (i := 20) 0 (some 71) (v := ?_) rfl (by kernel_rfl) (by kernel_rfl) (by kernel_rfl) (by kernel_rfl) (by kernel_rfl) (fun _ _ _ h => h) rfl (Or.inl ⟨by rfl, ?_⟩) (by exact trivial) ?_
                          rotate_left
                          · (intro w hSw; (try simp only [xS] at hSw); go_simp); (try with_reducible rfl)
                          try simp only [Act.put, List.setIfInBounds_toArray, List.set_cons_zero, List.set_cons_succ]
                          refine wpFam_ready (rs := [21]) (by kernel_rfl) (by simp) ?_
                          refine AllReadyF.cons (i := 21) rfl (fun K hK => ?_) ?_
                          ·
                            go_simp
                            refine hK.out _ _ ?_ ?_
                            · ((exact fun q hq hs => xS_2 rfl HNE.out (fun e => hq (by subst e; decide)) hs))
                            clear hK K
                            try simp only [Act.put, List.setIfInBounds_toArray, List.set_cons_zero, List.set_cons_succ]
                            refine wpFam_done (by kernel_rfl) ?_ _
                            go_wp2_with fail
                            have hXX := HXX.out
                            subst hXX
                            go_roundg k1'
                            case measure => omega
                            case rel => exact ⟨i + 1, d || bi, X' ++ [(ki, mi)], _, _, rfl, by go_num, by omega, by have := hX2.out; show _ ≤ _; simp; omega, by have := hG2.out; rw [if_neg (fun e => by have := HKA.out; rw [e, beq_self_eq_true] at this; cases this)] at this; rw [← this]; show _ = _; simp only [List.append_assoc], done_close HD.out HCC.out rfl HB.out hZ.out HO1.out HO2.out⟩
                          exact AllReadyF.nil
                        exact AllReadyF.nil
                      exact AllReadyF.nil
                    exact AllReadyF.nil
                  exact AllReadyF.nil
                exact AllReadyF.nil
            · have hkk : ki = key := by
                have := HKA.out
                rw [beq_iff_eq] at this
                exact list_inj this
              have HKK := Lib.hid hkk
              clear hkk
              have hD4 := Lib.hid (hD.out.drewN nq)
              go_wp2
              go_roundg k1'
              case measure => omega
              case rel => exact ⟨i + 1, d || bi, X', _, _, rfl, by go_num, by omega, by have := hX2.out; show _ ≤ _; omega, by have := hG2.out; rw [if_pos HKK.out] at this; exact this, by rw [hZ.out] at *; exact hD4.out⟩
    · obtain rfl : i = L := by omega
      have hG2 : X ++ (if d = true then [] else [(key, n)]) = doneG key n del l := by
        have h1 := hG.out
        rw [List.drop_eq_nil_of_le (by rw [← HL.out]; exact Nat.le_refl _)] at h1
        exact h1
      have HG2 := Lib.hid hG2
      clear hG2 hG hlt hi
      cases d
      · have HD := hD
        clear hD
        obtain ⟨W1, hW1⟩ : ∃ W1, W1 = wr := ⟨_, rfl⟩
        subst hW1
        obtain ⟨XX, hXX⟩ : ∃ XX, XX = w.heap.size + 3 := ⟨_, rfl⟩
        · have hCC : ∃ CC, CC = w.heap.size + 4 := ⟨_, rfl⟩
          obtain ⟨CC, hCC⟩ := hCC
          have HOa : Hid (W1.drew.ownsRow CC 9 1 (.slice b1 Z k1) Z (keysV X)) := by have := HD.out.own.k; rw [← hZ.out, ← hCC] at this; exact own_same this (fun _ _ => rfl)
          have HOb : Hid (W1.drew.ownsRow CC 3 1 (.slice b2 Z k2) Z (numsV X)) := by have := HD.out.own.n; rw [← hZ.out, ← hCC] at this; exact own_same this (fun _ _ => rfl)
          have HB : Hid (Below CC W1 W1.drew) := (Below.refl _ _).drew
          have HCS : Hid (CC ≤ W1.heap.size) := by rw [hCC]; exact HD.out.x.lt
          have hx0 := HD.out.x.cell 0
          have hx1 := HD.out.x.cell 1
          have hs0 := HD.out.s.cell 0
          have hs1 := HD.out.s.cell 1
          have hf := HD.out.x.frozen
          simp only [← hXX] at hx0 hx1 hf ⊢
          have hKQ : ∀ w', Below CC W1 w' → ∀ q, xS XX ⟨w.heap.size + 1, 0, none⟩ ⟨w.heap.size + 1, 1, none⟩ ⟨w.heap.size + 1, 0, none⟩ ⟨w.heap.size + 1, 0, none⟩ (.slice b1 Z k1) (.slice b2 Z k2) (.string key) (.int .i64 n) (.string key) (.string key) q w' := fun w' hb q => by
            match q with
            | 0 => exact trivial
            | 1 => exact (hb.cell (p := ⟨XX, 0, none⟩) (by show XX < CC; omega)).trans hx0
            | 2 => exact (hb.cell (p := ⟨XX, 1, none⟩) (by show XX < CC; omega)).trans hx1
            | 3 => exact (hb.cell (p := ⟨w.heap.size + 1, 0, none⟩) (by show w.heap.size + 1 < CC; omega)).trans hs0
            | 4 => exact (hb.cell (p := ⟨w.heap.size + 1, 1, none⟩) (by show w.heap.size + 1 < CC; omega)).trans hs1
            | 5 => exact (hb.cell (p := ⟨w.heap.size + 1, 0, none⟩) (by show w.heap.size + 1 < CC; omega)).trans hs0
            | 6 => exact (hb.cell (p := ⟨w.heap.size + 1, 0, none⟩) (by show w.heap.size + 1 < CC; omega)).trans hs0
            | _ + 7 => exact trivial
          have HKQ := Lib.hid hKQ
          have HNE : Hid (XNe XX ⟨w.heap.size + 1, 0, none⟩ ⟨w.heap.size + 1, 1, none⟩ ⟨w.heap.size + 1, 0, none⟩ ⟨w.heap.size + 1, 0, none⟩) := ⟨by show w.heap.size + 1 ≠ XX; omega, by show w.heap.size + 1 ≠ XX; omega, by show w.heap.size + 1 ≠ XX; omega, by show w.heap.size + 1 ≠ XX; omega⟩
          have HFR : Hid (∀ w', Below CC W1 w' → ∀ o, w'.frozen? ⟨XX, o, none⟩ = false) := fun w' hb o => (hb.frozen (p := ⟨XX, o, none⟩) (by show XX < CC; omega)).trans (hf o)
          have HXX := Lib.hid hXX
          have HCC := Lib.hid hCC
          have hzz : Z ≤ 2000 := by have := hX.out; have := hZ.out; omega
          obtain ⟨j0, hj, hj0, hj1, hj2⟩ := info_parts Try.infoI1
          have Hj0I := Lib.hid hj
          have Hj00 := Lib.hid hj0
          have Hj01 := Lib.hid hj1
          have Hj02 := Lib.hid hj2
          obtain ⟨tS0, hi', hz0, hz1, hz2⟩ := info_parts Try.infoS1
          have HS0I := Lib.hid hi'
          have HS00 := Lib.hid hz0
          have HS01 := Lib.hid hz1
          have HS02 := Lib.hid hz2
          clear hKQ hx0 hx1 hs0 hs1 hf hXX hCC hj hj0 hj1 hj2 hi' hz0 hz1 hz2
          go_upto_region 11 with fail
          clear m0 m1 s0 s1 s2 x0 x1
          refine wp_region_fam (S := (xS XX ⟨w.heap.size + 1, 0, none⟩ ⟨w.heap.size + 1, 1, none⟩ ⟨w.heap.size + 1, 0, none⟩ ⟨w.heap.size + 1, 0, none⟩ (.slice b1 Z k1) (.slice b2 Z k2) (.string key) (.int .i64 n) (.string key) (.string key))) (ds := (xD 13 15)) (by kernel_rfl) ?_
          refine wpFam_take (i := 0) 0 (some 74) (v := ?_) rfl (by kernel_rfl) (by kernel_rfl) (by kernel_rfl) (by kernel_rfl) (by kernel_rfl) (fun _ _ _ h => h) rfl (Or.inl ⟨by rfl, ?_⟩) (by exact trivial) ?_
          rotate_left
          · (intro w hSw; (try simp only [xS] at hSw); go_simp); (try with_reducible rfl)
          try simp only [Act.put, List.setIfInBounds_toArray, List.set_cons_zero, List.set_cons_succ]
          refine wpFam_take (i := 1) 1 (some 75) (v := ?_) rfl (by kernel_rfl) (by kernel_rfl) (by kernel_rfl) (by kernel_rfl) (by kernel_rfl) (fun _ _ _ h => h) rfl (Or.inl ⟨by rfl, ?_⟩) (by exact HKQ.out _ HB.out 1) ?_
          rotate_left
          · (intro w hSw; (try simp only [xS] at hSw); go_simp); (try with_reducible rfl)
          try simp only [Act.put, List.setIfInBounds_toArray, List.set_cons_zero, List.set_cons_succ]
          refine wpFam_take (i := 2) 0 (some 76) (v := ?_) rfl (by kernel_rfl) (by kernel_rfl) (by kernel_rfl) (by kernel_rfl) (by kernel_rfl) (fun _ _ _ h => h) rfl (Or.inl ⟨by rfl, ?_⟩) (by exact trivial) ?_
          rotate_left
          · (intro w hSw; (try simp only [xS] at hSw); go_simp); (try with_reducible rfl)
          try simp only [Act.put, List.setIfInBounds_toArray, List.set_cons_zero, List.set_cons_succ]
          refine wpFam_take (i := 3) 3 (some 77) (v := ?_) rfl (by kernel_rfl) (by kernel_rfl) (by kernel_rfl) (by kernel_rfl) (by kernel_rfl) (fun _ _ _ h => h) rfl (Or.inl ⟨by rfl, ?_⟩) (by exact HKQ.out _ HB.out 3) ?_
          rotate_left
          · (intro w hSw; (try simp only [xS] at hSw); go_simp); (try with_reducible rfl)
          try simp only [Act.put, List.setIfInBounds_toArray, List.set_cons_zero, List.set_cons_succ]
          refine wpFam_take (i := 6) 0 (some 80) (v := ?_) rfl (by kernel_rfl) (by kernel_rfl) (by kernel_rfl) (by kernel_rfl) (by kernel_rfl) (fun _ _ _ h => h) rfl (Or.inl ⟨by rfl, ?_⟩) (by exact trivial) ?_
          rotate_left
          · (intro w hSw; (try simp only [xS] at hSw); go_simp); (try with_reducible rfl)
          try simp only [Act.put, List.setIfInBounds_toArray, List.set_cons_zero, List.set_cons_succ]
          refine wpFam_take (i := 7) 2 (some 81) (v := ?_) rfl (by kernel_rfl) (by kernel_rfl) (by kernel_rfl) (by kernel_rfl) (by kernel_rfl) (fun _ _ _ h => h) rfl (Or.inl ⟨by rfl, ?_⟩) (by exact HKQ.out _ HB.out 2) ?_
          rotate_left
          · (intro w hSw; (try simp only [xS] at hSw); go_simp); (try with_reducible rfl)
          try simp only [Act.put, List.setIfInBounds_toArray, List.set_cons_zero, List.set_cons_succ]
          refine wpFam_take (i := 8) 0 (some 82) (v := ?_) rfl (by kernel_rfl) (by kernel_rfl) (by kernel_rfl) (by kernel_rfl) (by kernel_rfl) (fun _ _ _ h => h) rfl (Or.inl ⟨by rfl, ?_⟩) (by exact trivial) ?_
          rotate_left
          · (intro w hSw; (try simp only [xS] at hSw); go_simp); (try with_reducible rfl)
          try simp only [Act.put, List.setIfInBounds_toArray, List.set_cons_zero, List.set_cons_succ]
          refine wpFam_take (i := 9) 4 (some 83) (v := ?_) rfl (by kernel_rfl) (by kernel_rfl) (by kernel_rfl) (by kernel_rfl) (by kernel_rfl) (fun _ _ _ h => h) rfl (Or.inl ⟨by rfl, ?_⟩) (by exact HKQ.out _ HB.out 4) ?_
          rotate_left
          · (intro w hSw; (try simp only [xS] at hSw); go_simp); (try with_reducible rfl)
          try simp only [Act.put, List.setIfInBounds_toArray, List.set_cons_zero, List.set_cons_succ]
          refine wpFam_ready (rs := [4, 10]) (by kernel_rfl) (by simp) ?_
          refine AllReadyF.cons (i := 4) rfl (fun K hK => ?_) ?_
          ·
            go_simp
            have hn0 := blk_new_of HOa.out 9 #[.string key]
            (try rw [sz_alloc] at hn0)
            have HNa := Lib.hid hn0
            clear hn0
            replace HOa := Lib.hid (HOa.out.alloc (.cells #[.string key] 9))
            replace HOb := Lib.hid (HOb.out.alloc (.cells #[.string key] 9))
            (try replace HNb := Lib.hid (HNb.out.alloc (.cells #[.string key] 9)))
            replace HB := Lib.hid (HB.out.alloc (Nat.le_trans HCS.out HB.out.size) (.cells #[.string key] 9))
            try change K (Act.put _ (some 78) _) _
            refine hK.out _ _ ?_ ?_
            · ((intro q _ _; first | exact HKQ.out _ HB.out q | exact HKQ.out _ (HB.out.alloc (Nat.le_trans HCS.out HB.out.size) _) q))
            clear hK K
            try simp only [Act.put, List.setIfInBounds_toArray, List.set_cons_zero, List.set_cons_succ]
            refine wpFam_ready (rs := [5, 10]) (by kernel_rfl) (by simp) ?_
            refine AllReadyF.cons (i := 5) rfl (fun K hK => ?_) ?_
            ·
              refine step_append_lies _ (by rfl) (.tmp 75) (.tmp 78) 27 (by rfl) CC 9 tS0 (.string ⟨#[]⟩) 1 16 Try.underlying27 HS0I.out HS00.out HS01.out HS02.out (by rfl) (by decide) (.slice b1 Z k1) Z (keysV X) (by rfl) HOa.out _ 1 1 [.string key] (by rfl) (by rfl) (World.news_of_block HNa.out) (by simp [Value.oneCell']) (by decide) (by unfold maxLen; omega) (by omega) (Nat.le_trans HCS.out HB.out.size) _ rfl ?_
              intro h1 cap1 w1 ho hg ha hlt
              have HO1 := Lib.hid ho
              replace HOb := Lib.hid (own_same HOb.out (fun k hk => hg.block k (HOb.out.lt k hk).2 (own_own_ne HOb.out HOa.out (by decide) k hk)))
              (try replace HNb := Lib.hid (HNb.out.grown hg (own_blk_ne HOa.out HNb.out (by decide))))
              replace HB := Lib.hid (HB.out.grown hg (Nat.le_trans HCS.out HB.out.size) (fun k hk => (HOa.out.lt k hk).1))
              clear ho hg ha hlt HOa HNa
              try change K (Act.put _ (some 79) _) _
              refine hK.out _ _ ?_ ?_
              · ((intro q _ _; first | exact HKQ.out _ HB.out q | exact HKQ.out _ (HB.out.alloc (Nat.le_trans HCS.out HB.out.size) _) q))
              clear hK K
              try simp only [Act.put, List.setIfInBounds_toArray, List.set_cons_zero, List.set_cons_succ]
              refine wpFam_take (i := 12) 0 (some 86) (v := ?_) rfl (by kernel_rfl) (by kernel_rfl) (by kernel_rfl) (by kernel_rfl) (by kernel_rfl) (fun _ _ _ h => h) rfl (Or.inl ⟨by rfl, ?_⟩) (by exact trivial) ?_
              rotate_left
              · (intro w hSw; (try simp only [xS] at hSw); go_simp); (try with_reducible rfl)
              try simp only [Act.put, List.setIfInBounds_toArray, List.set_cons_zero, List.set_cons_succ]
              refine wpFam_ready (rs := [10]) (by kernel_rfl) (by simp) ?_
              refine AllReadyF.cons (i := 10) rfl (fun K hK => ?_) ?_
              ·
                go_simp
                have hn0 := blk_new_of HOb.out 3 #[.int .i64 n]
                (try rw [sz_alloc] at hn0)
                have HNb := Lib.hid hn0
                clear hn0
                (try replace HOa := Lib.hid (HOa.out.alloc (.cells #[.int .i64 n] 3)))
                (try replace HO1 := Lib.hid (HO1.out.alloc (.cells #[.int .i64 n] 3)))
                replace HOb := Lib.hid (HOb.out.alloc (.cells #[.int .i64 n] 3))
                (try replace HNa := Lib.hid (HNa.out.alloc (.cells #[.int .i64 n] 3)))
                replace HB := Lib.hid (HB.out.alloc (Nat.le_trans HCS.out HB.out.size) (.cells #[.int .i64 n] 3))
                try change K (Act.put _ (some 84) _) _
                refine hK.out _ _ ?_ ?_
                · ((intro q _ _; first | exact HKQ.out _ HB.out q | exact HKQ.out _ (HB.out.alloc (Nat.le_trans HCS.out HB.out.size) _) q))
                clear hK K
                try simp only [Act.put, List.setIfInBounds_toArray, List.set_cons_zero, List.set_cons_succ]
                refine wpFam_ready (rs := [11]) (by kernel_rfl) (by simp) ?_
                refine AllReadyF.cons (i := 11) rfl (fun K hK => ?_) ?_
                ·
                  refine step_append_lies _ (by rfl) (.tmp 81) (.tmp 84) 28 (by rfl) CC 3 j0 (.int .i64 0) 1 8 Try.underlying28 Hj0I.out Hj00.out Hj01.out Hj02.out (by rfl) (by decide) (.slice b2 Z k2) Z (numsV X) (by rfl) HOb.out _ 1 1 [.int .i64 n] (by rfl) (by rfl) (World.news_of_block HNb.out) (by simp [Value.oneCell']) (by decide) (by unfold maxLen; omega) (by omega) (Nat.le_trans HCS.out HB.out.size) _ rfl ?_
                  intro h2 cap2 w2 ho hg ha hlt
                  have HO2 := Lib.hid ho
                  replace HO1 := Lib.hid (own_same HO1.out (fun k hk => hg.block k (HO1.out.lt k hk).2 (own_own_ne HO1.out HOb.out (by decide) k hk)))
                  replace HB := Lib.hid (HB.out.grown hg (Nat.le_trans HCS.out HB.out.size) (fun k hk => (HOb.out.lt k hk).1))
                  clear ho hg ha hlt HOb HNb
                  try change K (Act.put _ (some 85) _) _
                  refine hK.out _ _ ?_ ?_
                  · ((intro q _ _; first | exact HKQ.out _ HB.out q | exact HKQ.out _ (HB.out.alloc (Nat.le_trans HCS.out HB.out.size) _) q))
                  clear hK K
                  try simp only [Act.put, List.setIfInBounds_toArray, List.set_cons_zero, List.set_cons_succ]
                  refine wpFam_ready (rs := [13]) (by kernel_rfl) (by simp) ?_
                  refine AllReadyF.cons (i := 13) rfl (fun K hK => ?_) ?_
                  ·
                    have fr1 := HFR.out _ HB.out 0
                    have fr2 := HFR.out _ HB.out 1
                    have ck1 := HKQ.out _ HB.out 1
                    have ck2 := HKQ.out _ HB.out 2
                    simp only [xS] at ck1 ck2
                    go_simp
                    refine hK.out _ _ ?_ ?_
                    · ((exact fun q hq hs => xS_1 rfl HNE.out (fun e => hq (by subst e; decide)) hs))
                    clear hK K
                    try simp only [Act.put, List.setIfInBounds_toArray, List.set_cons_zero, List.set_cons_succ]
                    refine wpFam_take (i := 14) 0 (some 87) (v := ?_) rfl (by kernel_rfl) (by kernel_rfl) (by kernel_rfl) (by kernel_rfl) (by kernel_rfl) (fun _ _ _ h => h) rfl (Or.inl ⟨by rfl, ?_⟩) (by exact trivial) ?_
                    rotate_left
                    · (intro w hSw; (try simp only [xS] at hSw); go_simp); (try with_reducible rfl)
                    try simp only [Act.put, List.setIfInBounds_toArray, List.set_cons_zero, List.set_cons_succ]
                    refine wpFam_ready (rs := [15]) (by kernel_rfl) (by simp) ?_
                    refine AllReadyF.cons (i := 15) rfl (fun K hK => ?_) ?_
                    ·
                      go_simp
                      refine hK.out _ _ ?_ ?_
                      · ((exact fun q hq hs => xS_2 rfl HNE.out (fun e => hq (by subst e; decide)) hs))
                      clear hK K
                      try simp only [Act.put, List.setIfInBounds_toArray, List.set_cons_zero, List.set_cons_succ]
                      refine wpFam_done (by kernel_rfl) ?_ _
                      have hXX := HXX.out
                      subst hXX
                      have hD5 := Lib.hid (done_close HD.out HCC.out rfl HB.out hZ.out HO1.out HO2.out)
                      generalize ((w2.setCell ⟨w.heap.size + 3, 0, none⟩ (.slice (some ⟨h1, 0, none⟩) (Z + 1) cap1)).setCell ⟨w.heap.size + 3, 1, none⟩ (.slice (some ⟨h2, 0, none⟩) (Z + 1) cap2)) = W5 at hD5 ⊢
                      have r0 := hD5.out.r.cell 0
                      have r1 := hD5.out.r.cell 1
                      have x0 := hD5.out.x.cell 0
                      have x1 := hD5.out.x.cell 1
                      have rf0 := hD5.out.r.frozen 0
                      have rf1 := hD5.out.r.frozen 1
                      simp at r0 r1 x0 x1
                      go_wp2
                      obtain ⟨q0, q1⟩ := done_cells hD5.out
                      refine bodyPost_ret (v := .agg #[.slice (some ⟨h1, 0, none⟩) (Z + 1) cap1, .slice (some ⟨h2, 0, none⟩) (Z + 1) cap2]) (by simp [results, Try.results10, go_sem, q0, q1]) rfl ?_
                      have h1 := HG2.out
                      first | rw [if_neg (by decide)] at h1 | rw [if_neg (fun h => h)] at h1
                      rw [← h1]
                      exact done_out hD5.out
                    exact AllReadyF.nil
                  exact AllReadyF.nil
                exact AllReadyF.nil
              exact AllReadyF.nil
            refine AllReadyF.cons (i := 10) rfl (fun K hK => ?_) ?_
            ·
              go_simp
              have hn0 := blk_new_of HOb.out 3 #[.int .i64 n]
              (try rw [sz_alloc] at hn0)
              have HNb := Lib.hid hn0
              clear hn0
              (try replace HOa := Lib.hid (HOa.out.alloc (.cells #[.int .i64 n] 3)))
              (try replace HO1 := Lib.hid (HO1.out.alloc (.cells #[.int .i64 n] 3)))
              replace HOb := Lib.hid (HOb.out.alloc (.cells #[.int .i64 n] 3))
              (try replace HNa := Lib.hid (HNa.out.alloc (.cells #[.int .i64 n] 3)))
              replace HB := Lib.hid (HB.out.alloc (Nat.le_trans HCS.out HB.out.size) (.cells #[.int .i64 n] 3))
              try change K (Act.put _ (some 84) _) _
              refine hK.out _ _ ?_ ?_
              · ((intro q _ _; first | exact HKQ.out _ HB.out q | exact HKQ.out _ (HB.out.alloc (Nat.le_trans HCS.out HB.out.size) _) q))
              clear hK K
              try simp only [Act.put, List.setIfInBounds_toArray, List.set_cons_zero, List.set_cons_succ]
              refine wpFam_ready (rs := [5]) (by kernel_rfl) (by simp) ?_
              refine AllReadyF.cons (i := 5) rfl (fun K hK => ?_) ?_
              ·
                refine step_append_lies _ (by rfl) (.tmp 75) (.tmp 78) 27 (by rfl) CC 9 tS0 (.string ⟨#[]⟩) 1 16 Try.underlying27 HS0I.out HS00.out HS01.out HS02.out (by rfl) (by decide) (.slice b1 Z k1) Z (keysV X) (by rfl) HOa.out _ 1 1 [.string key] (by rfl) (by rfl) (World.news_of_block HNa.out) (by simp [Value.oneCell']) (by decide) (by unfold maxLen; omega) (by omega) (Nat.le_trans HCS.out HB.out.size) _ rfl ?_
                intro h1 cap1 w1 ho hg ha hlt
                have HO1 := Lib.hid ho
                replace HOb := Lib.hid (own_same HOb.out (fun k hk => hg.block k (HOb.out.lt k hk).2 (own_own_ne HOb.out HOa.out (by decide) k hk)))
                (try replace HNb := Lib.hid (HNb.out.grown hg (own_blk_ne HOa.out HNb.out (by decide))))
                replace HB := Lib.hid (HB.out.grown hg (Nat.le_trans HCS.out HB.out.size) (fun k hk => (HOa.out.lt k hk).1))
                clear ho hg ha hlt HOa HNa
                try change K (Act.put _ (some 79) _) _
                refine hK.out _ _ ?_ ?_
                · ((intro q _ _; first | exact HKQ.out _ HB.out q | exact HKQ.out _ (HB.out.alloc (Nat.le_trans HCS.out HB.out.size) _) q))
                clear hK K
                try simp only [Act.put, List.setIfInBounds_toArray, List.set_cons_zero, List.set_cons_succ]
                refine wpFam_take (i := 12) 0 (some 86) (v := ?_) rfl (by kernel_rfl) (by kernel_rfl) (by kernel_rfl) (by kernel_rfl) (by kernel_rfl) (fun _ _ _ h => h) rfl (Or.inl ⟨by rfl, ?_⟩) (by exact trivial) ?_
                rotate_left
                · (intro w hSw; (try simp only [xS] at hSw); go_simp); (try with_reducible rfl)
                try simp only [Act.put, List.setIfInBounds_toArray, List.set_cons_zero, List.set_cons_succ]
                refine wpFam_ready (rs := [11]) (by kernel_rfl) (by simp) ?_
                refine AllReadyF.cons (i := 11) rfl (fun K hK => ?_) ?_
                ·
                  refine step_append_lies _ (by rfl) (.tmp 81) (.tmp 84) 28 (by rfl) CC 3 j0 (.int .i64 0) 1 8 Try.underlying28 Hj0I.out Hj00.out Hj01.out Hj02.out (by rfl) (by decide) (.slice b2 Z k2) Z (numsV X) (by rfl) HOb.out _ 1 1 [.int .i64 n] (by rfl) (by rfl) (World.news_of_block HNb.out) (by simp [Value.oneCell']) (by decide) (by unfold maxLen; omega) (by omega) (Nat.le_trans HCS.out HB.out.size) _ rfl ?_
                  intro h2 cap2 w2 ho hg ha hlt
                  have HO2 := Lib.hid ho
                  replace HO1 := Lib.hid (own_same HO1.out (fun k hk => hg.block k (HO1.out.lt k hk).2 (own_own_ne HO1.out HOb.out (by decide) k hk)))
                  replace HB := Lib.hid (HB.out.grown hg (Nat.le_trans HCS.out HB.out.size) (fun k hk => (HOb.out.lt k hk).1))
                  clear ho hg ha hlt HOb HNb
                  try change K (Act.put _ (some 85) _) _
                  refine hK.out _ _ ?_ ?_
                  · ((intro q _ _; first | exact HKQ.out _ HB.out q | exact HKQ.out _ (HB.out.alloc (Nat.le_trans HCS.out HB.out.size) _) q))
                  clear hK K
                  try simp only [Act.put, List.setIfInBounds_toArray, List.set_cons_zero, List.set_cons_succ]
                  refine wpFam_ready (rs := [13]) (by kernel_rfl) (by simp) ?_
                  refine AllReadyF.cons (i := 13) rfl (fun K hK => ?_) ?_
                  ·
                    have fr1 := HFR.out _ HB.out 0
                    have fr2 := HFR.out _ HB.out 1
                    have ck1 := HKQ.out _ HB.out 1
                    have ck2 := HKQ.out _ HB.out 2
                    simp only [xS] at ck1 ck2
                    go_simp
                    refine hK.out _ _ ?_ ?_
                    · ((exact fun q hq hs => xS_1 rfl HNE.out (fun e => hq (by subst e; decide)) hs))
                    clear hK K
                    try simp only [Act.put, List.setIfInBounds_toArray, List.set_cons_zero, List.set_cons_succ]
                    refine wpFam_take (i := 14) 0 (some 87) (v := ?_) rfl (by kernel_rfl) (by kernel_rfl) (by kernel_rfl) (by kernel_rfl) (by kernel_rfl) (fun _ _ _ h => h) rfl (Or.inl ⟨by rfl, ?_⟩) (by exact trivial) ?_
                    rotate_left
                    · (intro w hSw; (try simp only [xS] at hSw); go_simp); (try with_reducible rfl)
                    try simp only [Act.put, List.setIfInBounds_toArray, List.set_cons_zero, List.set_cons_succ]
                    refine wpFam_ready (rs := [15]) (by kernel_rfl) (by simp) ?_
                    refine AllReadyF.cons (i := 15) rfl (fun K hK => ?_) ?_
                    ·
                      go_simp
                      refine hK.out _ _ ?_ ?_
                      · ((exact fun q hq hs => xS_2 rfl HNE.out (fun e => hq (by subst e; decide)) hs))
                      clear hK K
                      try simp only [Act.put, List.setIfInBounds_toArray, List.set_cons_zero, List.set_cons_succ]
                      refine wpFam_done (by kernel_rfl) ?_ _
                      have hXX := HXX.out
                      subst hXX
                      have hD5 := Lib.hid (done_close HD.out HCC.out rfl HB.out hZ.out HO1.out HO2.out)
                      generalize ((w2.setCell ⟨w.heap.size + 3, 0, none⟩ (.slice (some ⟨h1, 0, none⟩) (Z + 1) cap1)).setCell ⟨w.heap.size + 3, 1, none⟩ (.slice (some ⟨h2, 0, none⟩) (Z + 1) cap2)) = W5 at hD5 ⊢
                      have r0 := hD5.out.r.cell 0
                      have r1 := hD5.out.r.cell 1
                      have x0 := hD5.out.x.cell 0
                      have x1 := hD5.out.x.cell 1
                      have rf0 := hD5.out.r.frozen 0
                      have rf1 := hD5.out.r.frozen 1
                      simp at r0 r1 x0 x1
                      go_wp2
                      obtain ⟨q0, q1⟩ := done_cells hD5.out
                      refine bodyPost_ret (v := .agg #[.slice (some ⟨h1, 0, none⟩) (Z + 1) cap1, .slice (some ⟨h2, 0, none⟩) (Z + 1) cap2]) (by simp [results, Try.results10, go_sem, q0, q1]) rfl ?_
                      have h1 := HG2.out
                      first | rw [if_neg (by decide)] at h1 | rw [if_neg (fun h => h)] at h1
                      rw [← h1]
                      exact done_out hD5.out
                    exact AllReadyF.nil
                  exact AllReadyF.nil
                exact AllReadyF.nil
              exact AllReadyF.nil
            exact AllReadyF.nil
          refine AllReadyF.cons (i := 10) rfl (fun K hK => ?_) ?_
          ·
            go_simp
            have hn0 := blk_new_of HOb.out 3 #[.int .i64 n]
            (try rw [sz_alloc] at hn0)
            have HNb := Lib.hid hn0
            clear hn0
            (try replace HOa := Lib.hid (HOa.out.alloc (.cells #[.int .i64 n] 3)))
            (try replace HO1 := Lib.hid (HO1.out.alloc (.cells #[.int .i64 n] 3)))
            replace HOb := Lib.hid (HOb.out.alloc (.cells #[.int .i64 n] 3))
            (try replace HNa := Lib.hid (HNa.out.alloc (.cells #[.int .i64 n] 3)))
            replace HB := Lib.hid (HB.out.alloc (Nat.le_trans HCS.out HB.out.size) (.cells #[.int .i64 n] 3))
            try change K (Act.put _ (some 84) _) _
            refine hK.out _ _ ?_ ?_
            · ((intro q _ _; first | exact HKQ.out _ HB.out q | exact HKQ.out _ (HB.out.alloc (Nat.le_trans HCS.out HB.out.size) _) q))
            clear hK K
            try simp only [Act.put, List.setIfInBounds_toArray, List.set_cons_zero, List.set_cons_succ]
            refine wpFam_ready (rs := [4]) (by kernel_rfl) (by simp) ?_
            refine AllReadyF.cons (i := 4) rfl (fun K hK => ?_) ?_
            ·
              go_simp
              have hn0 := blk_new_of HOa.out 9 #[.string key]
              (try rw [sz_alloc] at hn0)
              have HNa := Lib.hid hn0
              clear hn0
              replace HOa := Lib.hid (HOa.out.alloc (.cells #[.string key] 9))
              replace HOb := Lib.hid (HOb.out.alloc (.cells #[.string key] 9))
              (try replace HNb := Lib.hid (HNb.out.alloc (.cells #[.string key] 9)))
              replace HB := Lib.hid (HB.out.alloc (Nat.le_trans HCS.out HB.out.size) (.cells #[.string key] 9))
              try change K (Act.put _ (some 78) _) _
              refine hK.out _ _ ?_ ?_
              · ((intro q _ _; first | exact HKQ.out _ HB.out q | exact HKQ.out _ (HB.out.alloc (Nat.le_trans HCS.out HB.out.size) _) q))
              clear hK K
              try simp only [Act.put, List.setIfInBounds_toArray, List.set_cons_zero, List.set_cons_succ]
              refine wpFam_ready (rs := [5]) (by kernel_rfl) (by simp) ?_
              refine AllReadyF.cons (i := 5) rfl (fun K hK => ?_) ?_
              ·
                refine step_append_lies _ (by rfl) (.tmp 75) (.tmp 78) 27 (by rfl) CC 9 tS0 (.string ⟨#[]⟩) 1 16 Try.underlying27 HS0I.out HS00.out HS01.out HS02.out (by rfl) (by decide) (.slice b1 Z k1) Z (keysV X) (by rfl) HOa.out _ 1 1 [.string key] (by rfl) (by rfl) (World.news_of_block HNa.out) (by simp [Value.oneCell']) (by decide) (by unfold maxLen; omega) (by omega) (Nat.le_trans HCS.out HB.out.size) _ rfl ?_
                intro h1 cap1 w1 ho hg ha hlt
                have HO1 := Lib.hid ho
                replace HOb := Lib.hid (own_same HOb.out (fun k hk => hg.block k (HOb.out.lt k hk).2 (own_own_ne HOb.out HOa.out (by decide) k hk)))
                (try replace HNb := Lib.hid (HNb.out.grown hg (own_blk_ne HOa.out HNb.out (by decide))))
                replace HB := Lib.hid (HB.out.grown hg (Nat.le_trans HCS.out HB.out.size) (fun k hk => (HOa.out.lt k hk).1))
                clear ho hg ha hlt HOa HNa
                try change K (Act.put _ (some 79) _) _
                refine hK.out _ _ ?_ ?_
                · ((intro q _ _; first | exact HKQ.out _ HB.out q | exact HKQ.out _ (HB.out.alloc (Nat.le_trans HCS.out HB.out.size) _) q))
                clear hK K
                try simp only [Act.put, List.setIfInBounds_toArray, List.set_cons_zero, List.set_cons_succ]
                refine wpFam_take (i := 12) 0 (some 86) (v := ?_) rfl (by kernel_rfl) (by kernel_rfl) (by kernel_rfl) (by kernel_rfl) (by kernel_rfl) (fun _ _ _ h => h) rfl (Or.inl ⟨by rfl, ?_⟩) (by exact trivial) ?_
                rotate_left
                · (intro w hSw; (try simp only [xS] at hSw); go_simp); (try with_reducible rfl)
                try simp only [Act.put, List.setIfInBounds_toArray, List.set_cons_zero, List.set_cons_succ]
                refine wpFam_ready (rs := [11]) (by kernel_rfl) (by simp) ?_
                refine AllReadyF.cons (i := 11) rfl (fun K hK => ?_) ?_
                ·
                  refine step_append_lies _ (by rfl) (.tmp 81) (.tmp 84) 28 (by rfl) CC 3 j0 (.int .i64 0) 1 8 Try.underlying28 Hj0I.out Hj00.out Hj01.out Hj02.out (by rfl) (by decide) (.slice b2 Z k2) Z (numsV X) (by rfl) HOb.out _ 1 1 [.int .i64 n] (by rfl) (by rfl) (World.news_of_block HNb.out) (by simp [Value.oneCell']) (by decide) (by unfold maxLen; omega) (by omega) (Nat.le_trans HCS.out HB.out.size) _ rfl ?_
                  intro h2 cap2 w2 ho hg ha hlt
                  have HO2 := Lib.hid ho
                  replace HO1 := Lib.hid (own_same HO1.out (fun k hk => hg.block k (HO1.out.lt k hk).2 (own_own_ne HO1.out HOb.out (by decide) k hk)))
                  replace HB := Lib.hid (HB.out.grown hg (Nat.le_trans HCS.out HB.out.size) (fun k hk => (HOb.out.lt k hk).1))
                  clear ho hg ha hlt HOb HNb
                  try change K (Act.put _ (some 85) _) _
                  refine hK.out _ _ ?_ ?_
                  · ((intro q _ _; first | exact HKQ.out _ HB.out q | exact HKQ.out _ (HB.out.alloc (Nat.le_trans HCS.out HB.out.size) _) q))
                  clear hK K
                  try simp only [Act.put, List.setIfInBounds_toArray, List.set_cons_zero, List.set_cons_succ]
                  refine wpFam_ready (rs := [13]) (by kernel_rfl) (by simp) ?_
                  refine AllReadyF.cons (i := 13) rfl (fun K hK => ?_) ?_
                  ·
                    have fr1 := HFR.out _ HB.out 0
                    have fr2 := HFR.out _ HB.out 1
                    have ck1 := HKQ.out _ HB.out 1
                    have ck2 := HKQ.out _ HB.out 2
                    simp only [xS] at ck1 ck2
                    go_simp
                    refine hK.out _ _ ?_ ?_
                    · ((exact fun q hq hs => xS_1 rfl HNE.out (fun e => hq (by subst e; decide)) hs))
                    clear hK K
                    try simp only [Act.put, List.setIfInBounds_toArray, List.set_cons_zero, List.set_cons_succ]
                    refine wpFam_take (i := 14) 0 (some 87) (v := ?_) rfl (by kernel_rfl) (by kernel_rfl) (by kernel_rfl) (by kernel_rfl) (by kernel_rfl) (fun _ _ _ h => h) rfl (Or.inl ⟨by rfl, ?_⟩) (by exact trivial) ?_
                    rotate_left
                    · (intro w hSw; (try simp only [xS] at hSw); go_simp); (try with_reducible rfl)
                    try simp only [Act.put, List.setIfInBounds_toArray, List.set_cons_zero, List.set_cons_succ]
                    refine wpFam_ready (rs := [15]) (by kernel_rfl) (by simp) ?_
                    refine AllReadyF.cons (i := 15) rfl (fun K hK => ?_) ?_
                    ·
                      go_simp
                      refine hK.out _ _ ?_ ?_
                      · ((exact fun q hq hs => xS_2 rfl HNE.out (fun e => hq (by subst e; decide)) hs))
                      clear hK K
                      try simp only [Act.put, List.setIfInBounds_toArray, List.set_cons_zero, List.set_cons_succ]
                      refine wpFam_done (by kernel_rfl) ?_ _
                      have hXX := HXX.out
                      subst hXX
                      have hD5 := Lib.hid (done_close HD.out HCC.out rfl HB.out hZ.out HO1.out HO2.out)
                      generalize ((w2.setCell ⟨w.heap.size + 3, 0, none⟩ (.slice (some ⟨h1, 0, none⟩) (Z + 1) cap1)).setCell ⟨w.heap.size + 3, 1, none⟩ (.slice (some ⟨h2, 0, none⟩) (Z + 1) cap2)) = W5 at hD5 ⊢
                      have r0 := hD5.out.r.cell 0
                      have r1 := hD5.out.r.cell 1
                      have x0 := hD5.out.x.cell 0
                      have x1 := hD5.out.x.cell 1
                      have rf0 := hD5.out.r.frozen 0
                      have rf1 := hD5.out.r.frozen 1
                      simp at r0 r1 x0 x1
                      go_wp2
                      obtain ⟨q0, q1⟩ := done_cells hD5.out
                      refine bodyPost_ret (v := .agg #[.slice (some ⟨h1, 0, none⟩) (Z + 1) cap1, .slice (some ⟨h2, 0, none⟩) (Z + 1) cap2]) (by simp [results, Try.results10, go_sem, q0, q1]) rfl ?_
                      have h1 := HG2.out
                      first | rw [if_neg (by decide)] at h1 | rw [if_neg (fun h => h)] at h1
                      rw [← h1]
                      exact done_out hD5.out
                    exact AllReadyF.nil
                  exact AllReadyF.nil
                exact AllReadyF.nil
              exact AllReadyF.nil
            exact AllReadyF.nil
          exact AllReadyF.nil
      · have r0 := hD.out.r.cell 0
        have r1 := hD.out.r.cell 1
        have rf := hD.out.r.frozen
        have rf0 := rf 0
        have rf1 := rf 1
        simp at r0 r1
        have HD := hD
        clear hD
        go_wp2
        obtain ⟨q0, q1⟩ := done_cells HD.out
        refine bodyPost_ret (v := .agg #[.slice b1 Z k1, .slice b2 Z k2]) (by simp [results, Try.results10, go_sem, q0, q1]) rfl ?_
        have h1 := HG2.out
        first | rw [if_pos rfl, List.append_nil] at h1 | rw [if_pos trivial, List.append_nil] at h1
        rw [← h1]
        exact done_out HD.out
end Go.Proofs.Ytdjcomlpedokeaa

