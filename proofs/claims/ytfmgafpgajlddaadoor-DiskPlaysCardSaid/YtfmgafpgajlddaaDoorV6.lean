import Derived.Test.YtfmgafpgajlddaaDoorV5
set_option linter.unusedVariables false
set_option linter.unusedSimpArgs false
namespace Go.Proofs.YtfmgafpgajlddaaDoor
open Go.RowKit

set_option maxHeartbeats 8000000 in
set_option maxRecDepth 100000 in
theorem rWrite_no (w : World) (F : Nat → Prop) (p : Nat) (D : DS) (i : Int) (b : ByteArray) (h : Ref w F p D) (h0 : D.writeC i b ≠ 0) :
    Calls Tryd.prog 30 #[.pointer (some ⟨p, 0, none⟩), .int .i64 i, .string b] w fun e w' => e = .returned (.int .i64 (D.writeC i b)) ∧ RefPost F p w (D.write i b) w' := by
  have hw : D.write i b = if D.may i = 0 ∧ b.size ≤ 64 then { D with dead := true } else D := by unfold DS.write; rw [if_neg h0]
  rw [hw]
  have HH := Lib.hid h
  obtain ⟨sv, av, bv, hd, hf⟩ := h
  obtain ⟨c0, -, -, -, c4, c5, fr⟩ := hd.cells
  have fr5 := fr 5
  obtain ⟨a, c, es⟩ := own_len hd.s
  rw [es] at c0
  have HD := Lib.hid hd
  have HF := Lib.hid hf
  have HES := Lib.hid es
  clear hw hd hf fr es
  by_cases h1 : D.may i = 0
  · obtain ⟨h4, h5, h6⟩ := DS.may_zero.1 h1
    obtain ⟨n, hn⟩ : ∃ n, n = D.sure.length := ⟨_, rfl⟩
    rw [← hn] at c0 h6
    rw [h4] at c5
    have t1 : decide (i < 0) = false := decide_eq_false (by omega)
    have t2 : decide ((n : Int) ≤ i) = false := decide_eq_false (by omega)
    unfold DS.writeC at h0 ⊢
    rw [if_neg (by simpa using h1)] at h0 ⊢
    by_cases h2 : 64 < b.size
    · rw [if_pos h2, if_neg (by omega)]
      have t3 : decide ((64 : Int) < (b.size : Int)) = true := decide_eq_true (by omega)
      have t3' : decide (64 < b.size) = true := decide_eq_true h2
      clear h0 h1 h2 h4 h5 h6 hn
      go_enter Tryd.func30, Tryd.ntmps30
      go_wp2
      go_ret
      exact ⟨rfl, Save.refl _ _, HH.out.mono fun _ _ => .inl⟩
    · rw [if_neg h2] at h0 ⊢
      have hc : D.may i = 0 ∧ b.size ≤ 64 := ⟨h1, by omega⟩
      rw [if_pos hc]
      have h3 : D.left = 0 := by
        by_cases h3 : D.left = 0
        · exact h3
        · rw [if_neg h3] at h0; exact absurd rfl h0
      rw [if_pos h3]
      rw [h3] at c4
      have t3 : decide ((64 : Int) < (b.size : Int)) = false := decide_eq_false (by omega)
      have t3' : decide (64 < b.size) = false := decide_eq_false h2
      clear h0 h1 h2 h3 h4 h5 h6 hn hc
      go_enter Tryd.func30, Tryd.ntmps30
      go_wp2
      go_ret
      have hn := HD.out.ne
      have hk : ∀ v : Value, some p ≠ v.ownBlock → ∀ q, v.ownBlock = some q → q ≠ p := fun v h q hq e => h (by rw [hq, e])
      refine ⟨rfl, (Save.refl _ _).setCell (.inl HF.out.1) _, sv, av, bv, ⟨HD.out.own.set_ 5 _, own_same HD.out.s fun q hq => Below.heap_setCell _ _ _ _ (hk _ hn.1 q hq), own_same HD.out.a fun q hq => Below.heap_setCell _ _ _ _ (hk _ hn.2.1 q hq), own_same HD.out.b fun q hq => Below.heap_setCell _ _ _ _ (hk _ hn.2.2 q hq), ⟨HD.out.ok.one, HD.out.ok.most, HD.out.ok.size, HD.out.ok.lies, HD.out.ok.few, HD.out.ok.done, HD.out.ok.left⟩⟩, ?_⟩
      exact ⟨.inl HF.out.1, fun q hq => .inl (HF.out.2.1 q hq), fun q hq => .inl (HF.out.2.2.1 q hq), fun q hq => .inl (HF.out.2.2.2 q hq)⟩
  · have hcc : D.writeC i b = D.may i := by unfold DS.writeC; rw [if_pos h1]
    rw [hcc, if_neg (fun h => h1 h.1)]
    clear h0 hcc
    unfold DS.may at h1 ⊢
    obtain ⟨n, hn⟩ : ∃ n, n = D.sure.length := ⟨_, rfl⟩
    obtain ⟨z, hz⟩ : ∃ z, z = D.dead := ⟨_, rfl⟩
    rw [← hn] at c0 h1 ⊢
    rw [← hz] at c5 h1 ⊢
    clear hn hz
    cases z
    · rw [if_neg (by decide)] at h1 ⊢
      by_cases h2 : i < 0
      · rw [if_pos (.inl h2)]
        have t1 : decide (i < 0) = true := decide_eq_true h2
        clear h1
        go_enter Tryd.func30, Tryd.ntmps30
        go_wp2
        go_ret
        exact ⟨rfl, Save.refl _ _, HH.out.mono fun _ _ => .inl⟩
      · have t1 : decide (i < 0) = false := decide_eq_false h2
        by_cases h3 : (n : Int) ≤ i
        · rw [if_pos (.inr h3)]
          have t2 : decide ((n : Int) ≤ i) = true := decide_eq_true h3
          clear h1
          go_enter Tryd.func30, Tryd.ntmps30
          go_wp2
          go_ret
          exact ⟨rfl, Save.refl _ _, HH.out.mono fun _ _ => .inl⟩
        · rw [if_neg (by omega)] at h1
          exact absurd rfl h1
    · rw [if_pos rfl]
      clear h1
      go_enter Tryd.func30, Tryd.ntmps30
      go_wp2
      go_ret
      exact ⟨rfl, Save.refl _ _, HH.out.mono fun _ _ => .inl⟩

theorem rWrite_any (w : World) (F : Nat → Prop) (p : Nat) (D : DS) (i : Int) (b : ByteArray) (hdone : D.done < 1099511627776) (h : Ref w F p D) :
    Calls Tryd.prog 30 #[.pointer (some ⟨p, 0, none⟩), .int .i64 i, .string b] w fun e w' => e = .returned (.int .i64 (D.writeC i b)) ∧ RefPost F p w (D.write i b) w' := by
  by_cases h0 : D.writeC i b = 0
  · have h1 := DS.may_zero.1 (DS.writeC_zero.1 h0).1
    obtain ⟨k, rfl⟩ : ∃ k : Nat, i = (k : Int) := ⟨i.toNat, by omega⟩
    have := rWrite_yes w F p D k b h h0 hdone
    unfold DS.write
    rw [if_pos h0, h0]
    exact this
  · exact rWrite_no w F p D i b h h0

set_option maxHeartbeats 8000000 in
set_option maxRecDepth 100000 in
theorem code1_any (c : Int) (w : World) (hg : ErrVar w) : Calls Tryd.prog 28 #[errV c] w fun e w' => e = .returned (.int .i64 c) ∧ Below w.heap.size w w' := by
  by_cases h0 : c = 0
  · subst h0
    have e0 : errV 0 = .nilIface := rfl
    rw [e0]
    go_enter Tryd.func28, Tryd.ntmps28
    go_wp2
    go_ret
    exact ⟨rfl, (Below.refl _ _).alloc (Nat.le_refl _) _⟩
  · rw [errV_ne' h0]
    have hg1 : ErrVar (w.alloc (.cells #[.int .i64 0] 34)) := ErrVar.below (w := w) hg ((Below.refl _ _).alloc (Nat.le_refl _) _)
    replace hg1 := Lib.hid hg1
    clear hg h0
    go_enter Tryd.func28, Tryd.ntmps28
    go_wp2_with ((go_at_call 43; refine (as_hit ⟨w.heap.size, 0, none⟩ c (.int .i64 0) _ hg1.out (new_cell w _ _ 0) (new_frozen w _ _ 0)).mono ?_; rintro e w2 ⟨rfl, w1, hb, rfl, ⟨old, ho⟩, hl⟩; have hcell : (w1.setCell ⟨w.heap.size, 0, none⟩ (.int .i64 c)).cell? ⟨w.heap.size, 0, none⟩ = some (.int .i64 c) := World.cell?_setCell_same' _ _ _ (by rw [ho]; rfl); have hb1 := Lib.hid hb; clear hb ho))
    go_ret
    refine ⟨rfl, ?_⟩
    exact (((Below.refl _ _).alloc (Nat.le_refl _) _).trans (hb1.out.mono (by simp))).setCell (Nat.le_refl _) _

/-! ### two disks, and a block beside them -/
structure TwoAt (B : Nat) (w : World) (p q : Nat) (D1 D2 : DS) (X : Nat) (F G : Nat → Prop) : Prop where
  d : Dsk w F p D1
  r : Ref w G q D2
  fB : ∀ k, F k → B ≤ k ∧ k < w.heap.size
  gB : ∀ k, G k → B ≤ k ∧ k < w.heap.size
  fg : ∀ k, F k → ¬ G k
  x : X < w.heap.size
  fx : ¬ F X
  gx : ¬ G X
  base : B ≤ w.heap.size
  ev : ErrVar w
  evB : 0 < B
def Two (B : Nat) (w : World) (p q : Nat) (D1 D2 : DS) (X : Nat) : Prop := ∃ F G : Nat → Prop, TwoAt B w p q D1 D2 X F G
/-- What a call leaves of all else: below B, and the block. -/
def Left (B X : Nat) (w w' : World) : Prop := Below B w w' ∧ w'.heap[X]? = w.heap[X]?
theorem Left.refl (B X : Nat) (w : World) : Left B X w w := ⟨Below.refl _ _, rfl⟩
theorem Left.trans {B X : Nat} {a b c : World} (h : Left B X a b) (k : Left B X b c) : Left B X a c := ⟨h.1.trans k.1, k.2.trans h.2⟩
theorem ErrVar.keep {B : Nat} {w w' : World} (h : ErrVar w) (hB : 0 < B) (hb : Below B w w') : ErrVar w' := (hb.cell (p := ⟨0, 0, none⟩) hB).trans h
section
variable {B : Nat} {w w' : World} {p q : Nat} {D1 D2 D' : DS} {X : Nat} {F G : Nat → Prop}
theorem TwoAt.setD (h : TwoAt B w p q D1 D2 X F G) (hp : DskPost F p w D' w') : Left B X w w' ∧ Two B w' p q D' D2 X := by
  obtain ⟨hs, hd⟩ := hp
  have hb : Below B w w' := ⟨hs.os, hs.tape, hs.output, hs.size, fun k hk => hs.block k (by have := h.base; omega) (fun hf => by have := (h.fB k hf).1; omega)⟩
  refine ⟨⟨hb, hs.block X h.x h.fx⟩, Plus F w w', G, hd, h.r.save hs (fun k hg hf => h.fg k hf hg), fun k hk => ?_, fun k hk => ?_, fun k hk hg => ?_, ?_, ?_, h.gx, ?_, h.ev.keep h.evB hb, h.evB⟩
  · rcases hk with hk | hk
    · exact ⟨(h.fB k hk).1, Nat.lt_of_lt_of_le (h.fB k hk).2 hs.size⟩
    · exact ⟨by have := h.base; omega, hk.2⟩
  · exact ⟨(h.gB k hk).1, Nat.lt_of_lt_of_le (h.gB k hk).2 hs.size⟩
  · rcases hk with hk | hk
    · exact h.fg k hk hg
    · have := (h.gB k hg).2; omega
  · exact Nat.lt_of_lt_of_le h.x hs.size
  · exact fun hx => hx.elim h.fx (fun hx => by have := h.x; omega)
  · exact Nat.le_trans h.base hs.size
theorem TwoAt.setR (h : TwoAt B w p q D1 D2 X F G) (hp : RefPost G q w D' w') : Left B X w w' ∧ Two B w' p q D1 D' X := by
  obtain ⟨hs, hd⟩ := hp
  have hb : Below B w w' := ⟨hs.os, hs.tape, hs.output, hs.size, fun k hk => hs.block k (by have := h.base; omega) (fun hf => by have := (h.gB k hf).1; omega)⟩
  refine ⟨⟨hb, hs.block X h.x h.gx⟩, F, Plus G w w', h.d.save hs (fun k hf hg => h.fg k hf hg), hd, fun k hk => ?_, fun k hk => ?_, fun k hk hg => ?_, ?_, h.fx, ?_, ?_, h.ev.keep h.evB hb, h.evB⟩
  · exact ⟨(h.fB k hk).1, Nat.lt_of_lt_of_le (h.fB k hk).2 hs.size⟩
  · rcases hk with hk | hk
    · exact ⟨(h.gB k hk).1, Nat.lt_of_lt_of_le (h.gB k hk).2 hs.size⟩
    · exact ⟨by have := h.base; omega, hk.2⟩
  · rcases hg with hg | hg
    · exact h.fg k hk hg
    · have := (h.fB k hk).2; omega
  · exact Nat.lt_of_lt_of_le h.x hs.size
  · exact fun hx => hx.elim h.gx (fun hx => by have := h.x; omega)
  · exact Nat.le_trans h.base hs.size
theorem Two.below (h : Two B w p q D1 D2 X) (hb : Below w.heap.size w w') : Left B X w w' ∧ Two B w' p q D1 D2 X := by
  obtain ⟨F, G, h⟩ := h
  exact ⟨⟨hb.mono h.base, hb.block X h.x⟩, F, G, h.d.below hb, h.r.below hb, fun k hk => ⟨(h.fB k hk).1, Nat.lt_of_lt_of_le (h.fB k hk).2 hb.size⟩, fun k hk => ⟨(h.gB k hk).1, Nat.lt_of_lt_of_le (h.gB k hk).2 hb.size⟩, h.fg, Nat.lt_of_lt_of_le h.x hb.size, h.fx, h.gx, Nat.le_trans h.base hb.size, h.ev.below hb, h.evB⟩
/-- Another block beside them: one that is made now. -/
theorem Two.block (h : Two B w p q D1 D2 X) (o : Obj) : Two B (w.alloc o) p q D1 D2 w.heap.size := by
  obtain ⟨-, F, G, h'⟩ := h.below (w' := w.alloc o) ((Below.refl _ _).alloc (Nat.le_refl _) _)
  obtain ⟨F0, G0, h0⟩ := h
  have hb : Below w.heap.size w (w.alloc o) := (Below.refl _ _).alloc (Nat.le_refl _) _
  exact ⟨F0, G0, h0.d.below hb, h0.r.below hb, fun k hk => ⟨(h0.fB k hk).1, Nat.lt_of_lt_of_le (h0.fB k hk).2 hb.size⟩, fun k hk => ⟨(h0.gB k hk).1, Nat.lt_of_lt_of_le (h0.gB k hk).2 hb.size⟩, h0.fg, by simp, fun hf => by have := (h0.fB _ hf).2; omega, fun hf => by have := (h0.gB _ hf).2; omega, Nat.le_trans h0.base hb.size, h0.ev.below hb, h0.evB⟩
theorem Two.ok (h : Two B w p q D1 D2 X) : D1.ok := by obtain ⟨F, G, h⟩ := h; exact h.d.ok
theorem Two.drew (h : Two B w p q D1 D2 X) : Two B w.drew p q D1 D2 X := (h.below (Below.refl _ _).drew).2
theorem Left.drew {w0 : World} (h : Left B X w0 w) : Left B X w0 w.drew := ⟨h.1.drew, h.2⟩
end

def TwoPost (B : Nat) (w : World) (p q : Nat) (D1 D2 : DS) (X : Nat) (v : Value) (e : Ending) (w' : World) : Prop := e = .returned v ∧ Left B X w w' ∧ Two B w' p q D1 D2 X
section
variable (B : Nat) (w : World) (p q : Nat) (D1 D2 : DS) (X : Nat)
theorem tWrite_d (i : Int) (b : ByteArray) (hdone : D1.done < 1099511627776) (h : Two B w p q D1 D2 X) :
    Calls Tryd.prog 29 #[.pointer (some ⟨p, 0, none⟩), .int .i64 i, .string b] w (TwoPost B w p q (D1.write i b) D2 X (errV (D1.writeC i b))) := by
  obtain ⟨F, G, h⟩ := h
  exact (Write_any w F p D1 i b hdone h.d).mono fun e w' ⟨he, hp⟩ => ⟨he, h.setD hp⟩
theorem tWrite_r (i : Int) (b : ByteArray) (hdone : D2.done < 1099511627776) (h : Two B w p q D1 D2 X) :
    Calls Tryd.prog 30 #[.pointer (some ⟨q, 0, none⟩), .int .i64 i, .string b] w (TwoPost B w p q D1 (D2.write i b) X (.int .i64 (D2.writeC i b))) := by
  obtain ⟨F, G, h⟩ := h
  exact (rWrite_any w G q D2 i b hdone h.r).mono fun e w' ⟨he, hp⟩ => ⟨he, h.setR hp⟩
theorem tFlush_d (h : Two B w p q D1 D2 X) :
    Calls Tryd.prog 31 #[.pointer (some ⟨p, 0, none⟩)] w (TwoPost B w p q D1.flush D2 X (errV D1.flushC)) := by
  obtain ⟨F, G, h⟩ := h
  exact (Flush_any w F p D1 h.d).mono fun e w' ⟨he, hp⟩ => ⟨he, h.setD hp⟩
theorem tFlush_r (h : Two B w p q D1 D2 X) :
    Calls Tryd.prog 32 #[.pointer (some ⟨q, 0, none⟩)] w (TwoPost B w p q D1 D2.flush X (.int .i64 D2.flushC)) := by
  obtain ⟨F, G, h⟩ := h
  exact (rFlush_any w G q D2 h.r).mono fun e w' ⟨he, hp⟩ => ⟨he, h.setR hp⟩
theorem tCut_d (k : Int) (hk : k ≤ 9223372036854775807) (h : Two B w p q D1 D2 X) :
    Calls Tryd.prog 33 #[.pointer (some ⟨p, 0, none⟩), .int .i64 k] w (TwoPost B w p q (D1.cut k) D2 X (.tuple #[])) := by
  obtain ⟨F, G, h⟩ := h
  exact (Cut_any w F p D1 k hk h.d).mono fun e w' ⟨he, hp⟩ => ⟨he, h.setD hp⟩
theorem tCut_r (k : Int) (hk : k ≤ 9223372036854775807) (h : Two B w p q D1 D2 X) :
    Calls Tryd.prog 34 #[.pointer (some ⟨q, 0, none⟩), .int .i64 k] w (TwoPost B w p q D1 (D2.cut k) X (.tuple #[])) := by
  obtain ⟨F, G, h⟩ := h
  exact (rCut_any w G q D2 k hk h.r).mono fun e w' ⟨he, hp⟩ => ⟨he, h.setR hp⟩
theorem tCrash_d (a : Option Addr) (n c : Nat) (l : List Bool) (torn : Int) (hn : l.length = n) (hl : n ≤ 1000000) (hb : BoolsAt w a l) (hf : 0 < l.length → ∀ b off, a = some ⟨b, off, none⟩ → b < B) (h : Two B w p q D1 D2 X) :
    Calls Tryd.prog 35 #[.pointer (some ⟨p, 0, none⟩), .slice a n c, .int .i64 torn] w (TwoPost B w p q (D1.crash (keepOf l) torn) D2 X (.tuple #[])) := by
  subst hn
  obtain ⟨F, G, h⟩ := h
  exact (Crash_any w F p D1 a c l torn (by omega) h.d hb (fun hl b off e hF => by have := hf hl b off e; have := (h.fB b hF).1; omega) (fun k hk => (h.fB k hk).2)).mono fun e w' ⟨he, hp⟩ => ⟨he, h.setD hp⟩
theorem tCrash_r (a : Option Addr) (n c : Nat) (l : List Bool) (torn : Int) (hn : l.length = n) (hl : n ≤ 1000000) (hb : BoolsAt w a l) (h : Two B w p q D1 D2 X) :
    Calls Tryd.prog 36 #[.pointer (some ⟨q, 0, none⟩), .slice a n c, .int .i64 torn] w (TwoPost B w p q D1 (D2.crash (keepOf l) torn) X (.tuple #[])) := by
  subst hn
  obtain ⟨F, G, h⟩ := h
  exact (rCrash_any w G q D2 a c l torn hl hb h.r).mono fun e w' ⟨he, hp⟩ => ⟨he, h.setR hp⟩
theorem tCode (c : Int) (h : Two B w p q D1 D2 X) :
    Calls Tryd.prog 28 #[errV c] w (TwoPost B w p q D1 D2 X (.int .i64 c)) := by
  obtain ⟨F, G, h'⟩ := id h
  exact (code1_any c w h'.ev).mono fun e w' ⟨he, hb⟩ => ⟨he, h.below hb⟩
theorem tRead_d (i : Int) (h : Two B w p q D1 D2 X) :
    Calls Tryd.prog 40 #[.pointer (some ⟨p, 0, none⟩), .int .i64 i] w fun e w' => e = .returned (.tuple #[.string (D1.readS i), errV (D1.may i)]) ∧ w = w' := by
  obtain ⟨F, G, h⟩ := h
  exact Read_any w F p D1 i h.d
theorem tRead_r (i : Int) (h : Two B w p q D1 D2 X) :
    Calls Tryd.prog 41 #[.pointer (some ⟨q, 0, none⟩), .int .i64 i] w fun e w' => e = .returned (.tuple #[.string (D2.readS i), .int .i64 (D2.may i)]) ∧ w = w' := by
  obtain ⟨F, G, h⟩ := h
  exact rRead_any w G q D2 i h.r
theorem tLen (h : Two B w p q D1 D2 X) :
    Calls Tryd.prog 37 #[.pointer (some ⟨p, 0, none⟩)] w fun e w' => e = .returned (.int .i64 (D1.sure.length : Int)) ∧ w = w' := by
  obtain ⟨F, G, h⟩ := h
  exact Len_any w F p D1 h.d
theorem tWrites (h : Two B w p q D1 D2 X) :
    Calls Tryd.prog 38 #[.pointer (some ⟨p, 0, none⟩)] w fun e w' => e = .returned (.int .i64 (D1.done : Int)) ∧ w = w' := by
  obtain ⟨F, G, h⟩ := h
  exact Writes_any w F p D1 h.d
theorem tLoose (h : Two B w p q D1 D2 X) :
    Calls Tryd.prog 39 #[.pointer (some ⟨p, 0, none⟩)] w fun e w' => e = .returned (.int .i64 (D1.loose.length : Int)) ∧ w = w' := by
  obtain ⟨F, G, h⟩ := h
  exact Loose_any w F p D1 h.d
end
/-- The document's disk as its cells show it. -/
theorem Two.cells {B : Nat} {w : World} {p q : Nat} {D1 D2 : DS} {X : Nat} (h : Two B w p q D1 D2 X) : ∃ a1 c1 a2 c2, w.cell? ⟨q, 0, none⟩ = some (.slice a1 D2.sure.length c1) ∧ w.cell? ⟨q, 1, none⟩ = some (.slice a2 D2.loose.length c2) ∧
    w.cell? ⟨q, 3, none⟩ = some (.int .i64 (D2.done : Int)) ∧ w.cell? ⟨q, 5, none⟩ = some (.bool D2.dead) := by
  obtain ⟨F, G, h⟩ := h
  obtain ⟨sv, av, bv, hd, -⟩ := h.r
  obtain ⟨c0, c1, -, c3, -, c5, -⟩ := hd.cells
  obtain ⟨a1, k1, rfl⟩ := own_len hd.s
  obtain ⟨a2, k2, rfl⟩ := own_len hd.a
  exact ⟨a1, k1, a2, k2, c0, c1, c3, c5⟩
/-- Both disks, made one behind the other. -/
theorem two_new {w w1 w2 : World} {p q : Nat} {D1 D2 : DS} (hg : ErrVar w) (hgB : 0 < w.heap.size) (h1 : DskPost (fun _ => False) p w D1 w1) (h2 : RefPost (fun _ => False) q w1 D2 w2) (X : Nat) (hX : X < w.heap.size) : Below w.heap.size w w2 ∧ Two w.heap.size w2 p q D1 D2 X := by
  obtain ⟨s1, d1⟩ := h1
  obtain ⟨s2, d2⟩ := h2
  have b1 : Below w.heap.size w w1 := ⟨s1.os, s1.tape, s1.output, s1.size, fun k hk => s1.block k hk (fun h => h)⟩
  have b2 : Below w1.heap.size w1 w2 := ⟨s2.os, s2.tape, s2.output, s2.size, fun k hk => s2.block k hk (fun h => h)⟩
  have hb := b1.trans (b2.mono s1.size)
  refine ⟨hb, Plus (fun _ => False) w w1, Plus (fun _ => False) w1 w2, d1.save s2 (fun _ _ h => h), d2, fun k hk => ?_, fun k hk => ?_, fun k hk hg => ?_, ?_, ?_, ?_, hb.size, hg.keep hgB hb, hgB⟩
  · rcases hk with hk | hk
    · exact hk.elim
    · exact ⟨hk.1, Nat.lt_of_lt_of_le hk.2 s2.size⟩
  · rcases hk with hk | hk
    · exact hk.elim
    · exact ⟨Nat.le_trans s1.size hk.1, hk.2⟩
  · rcases hk with hk | hk
    · exact hk
    · rcases hg with hg | hg
      · exact hg
      · omega
  · have := hb.size; omega
  · exact fun h => h.elim id (fun h => by omega)
  · exact fun h => h.elim id (fun h => by have := s1.size; omega)
end Go.Proofs.YtfmgafpgajlddaaDoor
