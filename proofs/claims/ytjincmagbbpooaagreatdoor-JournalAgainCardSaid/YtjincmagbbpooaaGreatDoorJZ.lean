import Derived.Test.YtjincmagbbpooaaGreatDoorJY
set_option linter.unusedVariables false
set_option linter.unusedSimpArgs false
namespace Go.Proofs.YtjincmagbbpooaaGreatDoor
open Go.RowKit

def LowBs (B : Nat) (w : World) (a : Option Addr) (l : List Bool) : Prop := ∀ j x, l[j]? = some x → ∃ b off, a = some ⟨b, off, none⟩ ∧ b < B ∧ w.cell? ⟨b, off + j, none⟩ = some (.bool x)
theorem LowBs.keep {B : Nat} {w w' : World} {a : Option Addr} {l : List Bool} (h : LowBs B w a l) (hb : Below B w w') : LowBs B w' a l := fun j x hj => by
  obtain ⟨b, off, e, hB, hc⟩ := h j x hj
  exact ⟨b, off, e, hB, (World.cell?_of_block (hb.block _ hB)).trans hc⟩
theorem LowBs.at {B : Nat} {w : World} {a : Option Addr} {l : List Bool} (h : LowBs B w a l) : BoolsAt w a l := fun j x hj => by
  obtain ⟨b, off, e, hB, hc⟩ := h j x hj
  exact ⟨b, off, e, hc⟩
theorem LowBs.low {B : Nat} {w : World} {a : Option Addr} {l : List Bool} (h : LowBs B w a l) : 0 < l.length → ∀ b off, a = some ⟨b, off, none⟩ → b < B := fun h0 b off e => by
  obtain ⟨b', off', e', hB, -⟩ := h 0 _ (List.getElem?_eq_getElem h0)
  rw [e] at e'
  cases e'
  exact hB
theorem LowBs.of_at {w : World} {a : Option Addr} {l : List Bool} (h : BoolsAt w a l) : LowBs w.heap.size w a l := fun j x hj => by
  obtain ⟨b, off, e, hc⟩ := h j x hj
  exact ⟨b, off, e, cell_lt hc, hc⟩
theorem LowBs.mono {B C : Nat} {w : World} {a : Option Addr} {l : List Bool} (h : LowBs B w a l) (hB : B ≤ C) : LowBs C w a l := fun j x hj => by
  obtain ⟨b, off, e, h1, hc⟩ := h j x hj
  exact ⟨b, off, e, by omega, hc⟩
/-- What a compaction under a cut comes to. -/
def CutPost (old new : List ByteArray) (D : DS) (c : Int) : Prop := D.ok ∧ (c = 0 ∨ c = 25) ∧ ∀ keep torn, ∃ J rs, Good (D.crash keep torn) J rs ∧ (rs = new ∨ (c = 25 ∧ rs = old))
theorem cut_post {D : DS} {J : JS} {rs rs' : List ByteArray} (G : Good D J rs) (hlo : D.loose = []) (hp0 : 0 ≤ D.left) (h2 : J.turn ≤ 2999)
    (hf : (framesB (J.turn + 1) 0 rs').size ≤ D.half * 64) (hs : ∀ r ∈ rs', r.size ≤ 1000) (hn : rs'.length ≤ 1000) (hd : D.done < 1099500000000) :
    ∃ D' J' c, compactJ D J rs' = (D', J', c) ∧ CutPost rs rs' D' c ∧ D'.done ≤ D.done + 1001 := by
  by_cases hp : D.left ≤ (D.half : Int)
  · obtain ⟨D', J', e, h1, h3, h4⟩ := compact_cut (rs' := rs') G hlo hp0 hp h2 hf hd
    exact ⟨D', J', 25, e, ⟨h1, .inr rfl, fun keep torn => ⟨J, rs, h4 keep torn, .inr ⟨rfl, rfl⟩⟩⟩, h3⟩
  · obtain ⟨D', e, h1, h3, h4, h5, -⟩ := compact_good (rs' := rs') G (.inr (by omega)) h2 hf hs hn hd
    exact ⟨D', _, 0, e, ⟨h1.ok, .inl rfl, fun keep torn => ⟨_, rs', crash_good h1 h3 keep torn, .inl rfl⟩⟩, h5⟩
theorem jCompact_cut (B : Nat) (p : Nat) (D : DS) (J : JS) (rs rs' : List ByteArray) (G : Good D J rs) (hlo : D.loose = []) (hp0 : 0 ≤ D.left) (h2 : J.turn ≤ 2999)
    (hf : (framesB (J.turn + 1) 0 rs').size ≤ D.half * 64) (hs : ∀ r ∈ rs', r.size ≤ 1000) (hn : rs'.length ≤ 100) (hd : D.done < 1099500000000) (n : Nat) (hnl : n = rs'.length)
    (a : Option Addr) (cap : Nat) (w : World) (q : Nat) (hg : ErrVar w) (hgB : 0 < B) (ha : SlOf mkS w a rs') (h : One B w p q D J) :
    Calls Tryz.prog 17 #[.pointer (some ⟨q, 0, none⟩), .slice a n cap] w fun e w' => ∃ D' J' c, e = .returned (errV c) ∧ Below B w w' ∧ One B w' p q D' J' ∧ CutPost rs rs' D' c ∧ D'.done ≤ D.done + 1001 := by
  subst hnl
  obtain ⟨D', J', c, e, h1, h3⟩ := cut_post (rs' := rs') G hlo hp0 h2 hf hs (by omega) hd
  refine (jCompact_own B w p q D J a cap rs' h hg hgB (by have := G.four; omega) (by omega) G.which hn hs ha (by omega)).mono ?_
  rw [e]
  exact fun e w' ⟨he, hb, ho⟩ => ⟨D', J', c, he, hb, ho, h1, h3⟩
theorem wrap8 (t : Int) (h : (Lit.int .i8 t).wf = true) : -128 ≤ t ∧ t ≤ 127 := by simpa [Lit.wf, IntKind.min, IntKind.max, IntKind.signed, IntKind.bits] using h
/-- Is there more than the statement speaks of? -/
def bigC (la lb : List ByteArray) (lk : List Bool) : Prop := 5 < la.length ∨ 5 < lb.length ∨ longB la = true ∨ longB lb = true ∨ 60 < lk.length

set_option maxHeartbeats 16000000 in
set_option maxRecDepth 100000 in
theorem JournalCompacts_big (aa ab ak : Option Addr) (ca cb ck : Nat) (la lb : List ByteArray) (lk : List Bool) (na nb nk : Nat) (hna : na = la.length) (hnb : nb = lb.length) (hnk : nk = lk.length) (n : Nat) (hn : n < 256) (t : Int) (w : World) (he : ErrVar w)
    (ha : SlOf mkS w aa la) (hb : SlOf mkS w ab lb) (hbig : bigC la lb lk) :
    Calls Tryz.prog 4 #[.slice aa na ca, .slice ab nb cb, .int .u8 (n : Int), .slice ak nk ck, .int .i8 t] w (fun e w' => e = .returned (.bool true) ∧ Below w.heap.size w w') := by
  have ck := Lib.hid (known4_any w he)
  have c1 := Lib.hid (fun (h : na ≤ 5) W (hB : Below w.heap.size w W) => long_any aa ca la na hna (by omega) W (((LowSl.of_sl ha).keep hB).sl))
  have c2 := Lib.hid (fun (h : nb ≤ 5) W (hB : Below w.heap.size w W) => long_any ab cb lb nb hnb (by omega) W (((LowSl.of_sl hb).keep hB).sl))
  clear he ha hb
  by_cases h1 : (5 : Int) < (na : Int)
  · clear c1 c2 hna hnb hnk hbig
    go_enter Tryz.func4, Tryz.ntmps4
    go_wp2_with (first
      | (go_at_call 7; (with_reducible refine ck.out.mono ?_); rintro e w1 ⟨rfl, hb⟩; have HB := Lib.hid hb; clear hb))
    go_ret
    exact ⟨rfl, HB.out⟩
  by_cases h2 : (5 : Int) < (nb : Int)
  · clear c1 c2 hna hnb hnk hbig
    go_enter Tryz.func4, Tryz.ntmps4
    go_wp2_with (first
      | (go_at_call 7; (with_reducible refine ck.out.mono ?_); rintro e w1 ⟨rfl, hb⟩; have HB := Lib.hid hb; clear hb))
    go_ret
    exact ⟨rfl, HB.out⟩
  have c1 := Lib.hid (c1.out (by omega))
  have c2 := Lib.hid (c2.out (by omega))
  by_cases h3 : longB la = true
  · rw [h3] at c1
    clear c2 hna hnb hnk hbig
    go_enter Tryz.func4, Tryz.ntmps4
    go_wp2_with (first
      | (go_at_call 7; (with_reducible refine ck.out.mono ?_); rintro e w1 ⟨rfl, hb⟩; have HB := Lib.hid hb; clear hb)
      | (go_at_call 13; (with_reducible refine (c1.out _ HB.out).mono ?_); rintro e w2 ⟨rfl, rfl⟩))
    go_ret
    exact ⟨rfl, HB.out⟩
  rw [Bool.not_eq_true] at h3
  rw [h3] at c1
  by_cases h4 : longB lb = true
  · rw [h4] at c2
    clear hna hnb hnk hbig
    go_enter Tryz.func4, Tryz.ntmps4
    go_wp2_with (first
      | (go_at_call 7; (with_reducible refine ck.out.mono ?_); rintro e w1 ⟨rfl, hb⟩; have HB := Lib.hid hb; clear hb)
      | (go_at_call 13; (with_reducible refine (c1.out _ HB.out).mono ?_); rintro e w2 ⟨rfl, rfl⟩)
      | (go_at_call 13; (with_reducible refine (c2.out _ HB.out).mono ?_); rintro e w3 ⟨rfl, rfl⟩))
    go_ret
    exact ⟨rfl, HB.out⟩
  rw [Bool.not_eq_true] at h4
  rw [h4] at c2
  have h5 : (60 : Int) < (nk : Int) := by
    rcases hbig with h | h | h | h | h
    · omega
    · omega
    · rw [h3] at h; cases h
    · rw [h4] at h; cases h
    · omega
  clear hna hnb hnk hbig
  go_enter Tryz.func4, Tryz.ntmps4
  go_wp2_with (first
    | (go_at_call 7; (with_reducible refine ck.out.mono ?_); rintro e w1 ⟨rfl, hb⟩; have HB := Lib.hid hb; clear hb)
    | (go_at_call 13; (with_reducible refine (c1.out _ HB.out).mono ?_); rintro e w2 ⟨rfl, rfl⟩)
    | (go_at_call 13; (with_reducible refine (c2.out _ HB.out).mono ?_); rintro e w3 ⟨rfl, rfl⟩))
  go_ret
  exact ⟨rfl, HB.out⟩
end Go.Proofs.YtjincmagbbpooaaGreatDoor
