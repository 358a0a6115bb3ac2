import Derived.Test.YtjincmagbbpooaaGreatDoorJF2

section
set_option linter.unusedVariables false
set_option linter.unusedSimpArgs false
namespace Go.Proofs.YtjincmagbbpooaaGreatDoor
open Go.RowKit

/-! ### a journal in memory: its disk, its own block q -/
def JPost (F : Nat → Prop) (p q : Nat) (w : World) (D : DS) (J : JS) (w' : World) : Prop :=
  Save (fun k => F k ∨ k = q) w w' ∧ Dsk w' (Plus F w w') p D ∧ Blk w' q 87 (jCells p J)
section
variable {F : Nat → Prop} {p q : Nat} {w w1 w2 : World} {D D1 D2 : DS} {J J1 J2 : JS}
theorem JPost.start (h : Dsk w F p D) (hq : Blk w q 87 (jCells p J)) : JPost F p q w D J w := ⟨Save.refl _ _, h.mono fun k _ hk => .inl hk, hq⟩
theorem JPost.dsk (h : JPost F p q w D J w1) : Dsk w1 (Plus F w w1) p D := h.2.1
theorem JPost.blk (h : JPost F p q w D J w1) : Blk w1 q 87 (jCells p J) := h.2.2
theorem plus_q (hn : ¬ F q) (hq : q < w.heap.size) : ¬ Plus F w w1 q := fun h => h.elim hn (fun h => by omega)
theorem JPost.below (h : JPost F p q w D J w1) (hb : Below w1.heap.size w1 w2) : JPost F p q w D J w2 :=
  ⟨h.1.belowStep hb, (h.2.1.below hb).mono fun k hk hp => hp.elim .inl (fun h => .inr ⟨h.1, hk⟩), h.2.2.below hb⟩
theorem JPost.disk (h : JPost F p q w D J w1) (hn : ¬ F q) (hq : q < w.heap.size) (k : DskPost (Plus F w w1) p w1 D2 w2) : JPost F p q w D2 J w2 := by
  have hs := h.1.size
  refine ⟨h.1.trans (k.1.mono fun x hx hp => ?_), k.2.mono fun x hx hp => ?_, h.2.2.save k.1 (plus_q hn hq)⟩
  · rcases hp with hp | hp
    · exact .inl (.inl hp)
    · exact .inr hp
  · rcases hp with (hp | hp) | hp
    · exact .inl hp
    · exact .inr ⟨hp.1, Nat.lt_of_lt_of_le hp.2 k.1.size⟩
    · exact .inr ⟨by omega, hp.2⟩
theorem JPost.then (h : JPost F p q w D1 J1 w1) (hn : ¬ F q) (hq : q < w.heap.size) (k : JPost (Plus F w w1) p q w1 D2 J2 w2) : JPost F p q w D2 J2 w2 := by
  have hs := h.1.size
  refine ⟨h.1.trans (k.1.mono fun x hx hp => ?_), k.2.1.mono fun x hx hp => ?_, k.2.2⟩
  · rcases hp with (hp | hp) | hp
    · exact .inl (.inl hp)
    · exact .inr hp
    · exact .inl (.inr hp)
  · rcases hp with (hp | hp) | hp
    · exact .inl hp
    · exact .inr ⟨hp.1, Nat.lt_of_lt_of_le hp.2 k.1.size⟩
    · exact .inr ⟨by omega, hp.2⟩
/-- A store into the journal's own block. -/
theorem JPost.set (h : JPost F p q w D J w1) (i : Nat) (u : Value) (hc : (jCells p J).setIfInBounds i u = jCells p J2) : JPost F p q w D J2 (w1.setCell ⟨q, i, none⟩ u) := by
  refine ⟨h.1.setCell (.inl (.inr rfl)) u, ?_, by rw [← hc]; exact h.2.2.set_ i u⟩
  obtain ⟨g, lv, hd, h1, h2, h3⟩ := h.2.1
  have n1 : q ≠ p := h.2.2.ne_ hd.own (by decide)
  have n2 : q ≠ g := h.2.2.ne_ hd.row (by decide)
  have n3 : some q ≠ lv.ownBlock := own_blk_ne hd.loose h.2.2 (by decide)
  have hsz : (w1.setCell ⟨q, i, none⟩ u).heap.size = w1.heap.size := by simp [World.setCell]
  have hpl : ∀ k, Plus F w w1 k → Plus F w (w1.setCell ⟨q, i, none⟩ u) k := fun k hk => hk.elim .inl (fun h => .inr ⟨h.1, by rw [hsz]; exact h.2⟩)
  refine ⟨g, lv, hd.same fun k hk => Below.heap_setCell _ _ _ _ ?_, hpl _ h1, hpl _ h2, fun k hk => hpl _ (h3 k hk)⟩
  rcases hk with rfl | rfl | hk
  · exact fun e => n1 e.symm
  · exact fun e => n2 e.symm
  · exact fun e => n3 (by rw [hk, e])
end
/-- Records as frames, numbered from one on. -/
def framesB (turn : Nat) : Nat → List ByteArray → ByteArray
  | _, [] => ⟨#[]⟩
  | k, r :: rs => wrapS (turn * 1000000 + k) r ++ framesB turn (k + 1) rs
def wrapJ (room turn k : Nat) (rs : List ByteArray) (b : ByteArray) : ByteArray × Int :=
  if room < (b ++ framesB turn k rs).size then (⟨#[]⟩, 14) else (b ++ framesB turn k rs, 0)

theorem jLen_any (q p : Nat) (J : JS) (w : World) (hq : Blk w q 87 (jCells p J)) :
    Calls Tryz.prog 22 #[.pointer (some ⟨q, 0, none⟩)] w fun e w' => e = .returned (.int .i64 (J.n : Int)) ∧ w = w' := by
  have c := hq.cell 4
  simp [jCells] at c
  clear hq
  go_enter Tryz.func22, Tryz.ntmps22
  go_wp2
  go_ret
  exact ⟨rfl, rfl⟩
theorem room_any (F : Nat → Prop) (p q : Nat) (D : DS) (J : JS) (w : World) (h : Dsk w F p D) (hq : Blk w q 87 (jCells p J)) (h2 : 2 ≤ D.sure.length) :
    Calls Tryz.prog 82 #[.pointer (some ⟨q, 0, none⟩)] w fun e w' => e = .returned (.int .i64 ((D.half * 64 : Nat) : Int)) ∧ w = w' := by
  have c := hq.cell 0
  simp [jCells] at c
  have ch := Lib.hid (half_any w F p D h2 h)
  have hh := half_le h.ok
  generalize D.half = k at ch hh ⊢
  have e : ((k * 64 : Nat) : Int) = (k : Int) * 64 := by omega
  rw [e]
  clear h hq e
  go_enter Tryz.func82, Tryz.ntmps82
  go_wp2_with (go_at_call 38; (with_reducible refine ch.out.mono ?_); rintro e w1 ⟨rfl, rfl⟩)
  go_ret
  exact ⟨rfl, rfl⟩
def JS.fail (J : JS) (c : Int) : JS := if c = 0 then J else { J with dead := true }
theorem fails_any (F : Nat → Prop) (p q : Nat) (D : DS) (J : JS) (c : Int) (w : World) (h : Dsk w F p D) (hq : Blk w q 87 (jCells p J)) :
    Calls Tryz.prog 51 #[.pointer (some ⟨q, 0, none⟩), errV c] w fun e w' => e = .returned (errV c) ∧ JPost F p q w D (J.fail c) w' := by
  have HJ := Lib.hid (JPost.start h hq)
  have x5 := hq.cell 5
  have f5 := hq.frozen 5
  simp [jCells] at x5
  unfold JS.fail
  by_cases hc : c = 0
  · subst hc
    rw [errV_zero, if_pos rfl]
    clear h hq x5 f5
    go_enter Tryz.func51, Tryz.ntmps51
    go_wp2
    go_ret
    exact ⟨rfl, HJ.out⟩
  · rw [errV_ne hc, if_neg hc]
    by_cases h25 : c = 25
    · subst h25
      clear h hq hc
      go_enter Tryz.func51, Tryz.ntmps51
      go_wp2_with (go_at_call 12; refine (is_yes 25 _).mono ?_; rintro e w1 ⟨rfl, rfl⟩)
      go_ret
      exact ⟨rfl, HJ.out.set 5 _ rfl⟩
    · have hne : (c == 25) = false := beq_eq_false_iff_ne.2 h25
      have HN := Lib.hid hne
      clear h hq hc h25 hne
      go_enter Tryz.func51, Tryz.ntmps51
      go_wp2_with (go_at_call 12; refine (is_no c 25 HN.out _).mono ?_; rintro e w1 ⟨rfl, rfl⟩)
      go_ret
      exact ⟨rfl, HJ.out.set 5 _ rfl⟩
/-- What Sync comes to. -/
def syncJ (D : DS) (J : JS) : DS × JS × Int := if J.dead = true then (D, J, 25) else (D.flush, J.fail D.flushC, D.flushC)
theorem jSync_any (F : Nat → Prop) (p q : Nat) (D : DS) (J : JS) (w : World) (h : Dsk w F p D) (hq : Blk w q 87 (jCells p J)) (hn : ¬ F q) :
    Calls Tryz.prog 15 #[.pointer (some ⟨q, 0, none⟩)] w fun e w' => e = .returned (errV (syncJ D J).2.2) ∧ JPost F p q w (syncJ D J).1 (syncJ D J).2.1 w' := by
  have HJ := Lib.hid (JPost.start h hq)
  have HNQ := Lib.hid (And.intro hn hq.lt)
  have x0 := hq.cell 0
  have x5 := hq.cell 5
  simp [jCells] at x0 x5
  unfold syncJ
  cases hd : J.dead
  · rw [hd] at x5
    rw [if_neg (by decide)]
    have cf := Lib.hid (fun W (G : Nat → Prop) (hG : Dsk W G p D) => Flush_any W G p D hG)
    generalize D.flush = D2 at cf ⊢
    generalize D.flushC = c at cf ⊢
    have cz := Lib.hid (fun W (G : Nat → Prop) (hG : Dsk W G p D2) (hQ : Blk W q 87 (jCells p J)) => fails_any G p q D2 J c W hG hQ)
    clear h hq hd hn
    go_enter Tryz.func15, Tryz.ntmps15
    go_wp2_with (first
      | (go_at_call 46; (with_reducible refine (cf.out _ _ HJ.out.dsk).mono ?_); rintro e w1 ⟨rfl, hp⟩; have HJ1 := Lib.hid (HJ.out.disk HNQ.out.1 HNQ.out.2 hp); clear hp)
      | (go_at_call 51; (with_reducible refine (cz.out _ _ HJ1.out.dsk HJ1.out.blk).mono ?_); rintro e w2 ⟨rfl, hp⟩; have HJ2 := Lib.hid (HJ1.out.then HNQ.out.1 HNQ.out.2 hp); clear hp))
    go_ret
    exact ⟨rfl, HJ2.out⟩
  · rw [hd] at x5
    rw [if_pos rfl]
    clear h hq hd hn
    go_enter Tryz.func15, Tryz.ntmps15
    go_wp2
    go_ret
    exact ⟨rfl, HJ.out⟩

theorem framesB_size (turn : Nat) (ht : turn ≤ 4000) : ∀ (rs : List ByteArray) (k : Nat), k + rs.length ≤ 1000000 → (∀ r ∈ rs, r.size ≤ 1000) → (framesB turn k rs).size ≤ rs.length * 1020
  | [], k, _, _ => Nat.le_refl _
  | r :: rs, k, hk, h => by
    have h1 := framesB_size turn ht rs (k + 1) (by simp only [List.length_cons] at hk; omega) (fun x hx => h x (List.mem_cons_of_mem _ hx))
    have h2 := h r (List.mem_cons_self ..)
    have h3 := wrapS_size (turn * 1000000 + k) r (by simp only [List.length_cons] at hk; omega) h2
    unfold framesB
    rw [ByteArray.size_append, List.length_cons]
    omega
theorem framesB_snoc (turn : Nat) : ∀ (rs : List ByteArray) (k : Nat) (r : ByteArray), framesB turn k (rs ++ [r]) = framesB turn k rs ++ wrapS (turn * 1000000 + (k + rs.length)) r
  | [], k, r => by
    show wrapS (turn * 1000000 + k) r ++ (⟨#[]⟩ : ByteArray) = (⟨#[]⟩ : ByteArray) ++ _
    rw [show (⟨#[]⟩ : ByteArray) = ByteArray.empty from rfl, append_empty, empty_append]
    rfl
  | x :: rs, k, r => by
    show wrapS _ x ++ framesB turn (k + 1) (rs ++ [r]) = (wrapS _ x ++ framesB turn (k + 1) rs) ++ _
    rw [framesB_snoc turn rs (k + 1) r, append_assocB]
    congr 3
    rw [List.length_cons]
    congr 1
    omega
end Go.Proofs.YtjincmagbbpooaaGreatDoor
end

section
set_option linter.unusedVariables false
set_option linter.unusedSimpArgs false
namespace Go.Proofs.YtjincmagbbpooaaGreatDoor
open Go.RowKit

set_option maxHeartbeats 16000000 in
set_option maxRecDepth 100000 in
theorem wrap_any (F : Nat → Prop) (p q : Nat) (D : DS) (J : JS) (b : ByteArray) (turn k : Nat) (a : Option Addr) (cap : Nat) (rs : List ByteArray) (w : World) (h : Dsk w F p D) (hq : Blk w q 87 (jCells p J)) (h2 : 2 ≤ D.sure.length)
    (ht : turn ≤ 4000) (hk : k ≤ 100000) (hl : rs.length ≤ 100) (hs : ∀ r ∈ rs, r.size ≤ 1000) (hb : b.size ≤ 1000000) (ha : SlOf mkS w a rs) :
    Calls Tryz.prog 52 #[.pointer (some ⟨q, 0, none⟩), .string b, .int .i64 (turn : Int), .int .i64 (k : Int), .slice a rs.length cap] w fun e w' =>
      e = .returned (.tuple #[.string (wrapJ (D.half * 64) turn k rs b).1, errV (wrapJ (D.half * 64) turn k rs b).2]) ∧ Below w.heap.size w w' := by
  have HD := Lib.hid (And.intro h (And.intro hq h2))
  have HS := Lib.hid (And.intro hs ha)
  obtain ⟨n, hn⟩ : ∃ n, n = rs.length := ⟨_, rfl⟩
  have HN := Lib.hid hn
  have hfz := framesB_size turn ht rs k (by omega) hs
  unfold wrapJ
  obtain ⟨out, hout⟩ : ∃ out, out = b ++ framesB turn k rs := ⟨_, rfl⟩
  have hoz : out.size ≤ 1102000 := by rw [hout, ByteArray.size_append]; omega
  rw [← hn, ← hout]
  obtain ⟨R, hR⟩ : ∃ R : ByteArray × Int, R = (if D.half * 64 < out.size then (⟨#[]⟩, 14) else (out, 0)) := ⟨_, rfl⟩
  rw [← hR]
  have HR := Lib.hid hR
  have HOUT := Lib.hid hout
  have HBZ := Lib.hid hb
  have hnl : n ≤ 100 := by omega
  have hhz := half_le h.ok
  clear h hq h2 hs ha hn hfz hout hb hl hR
  go_enter Tryz.func52, Tryz.ntmps52
  go_upto_region 2 with fail
  go_loopg [1, 16] n (fun kq v1 v16 wr => ∃ i : Nat, v1 = .string (b ++ framesB turn k (rs.take i)) ∧ v16 = .int .i64 (i : Int) ∧ i + kq = n ∧ Hid (Below w.heap.size w wr))
  case atStart => exact ⟨0, by rw [List.take_zero]; show Value.string b = Value.string (b ++ ByteArray.empty); rw [append_empty], rfl, by omega, Below.refl _ _⟩
  case round =>
    obtain ⟨i, rfl, rfl, hi, HB⟩ := hrel
    by_cases hlt : i < n
    · obtain ⟨r, hr⟩ : ∃ r, rs[i]? = some r := ⟨_, List.getElem?_eq_getElem (by rw [← HN.out]; exact hlt)⟩
      obtain ⟨k', rfl⟩ : ∃ k', gk = k' + 1 := ⟨gk - 1, by omega⟩
      have hrz := HS.out.1 r (List.mem_of_getElem? hr)
      obtain ⟨ab, ao, rfl, c0⟩ := (HS.out.2.below HB.out) i r hr
      simp only [mkS] at c0
      have q0 : (0 : Int) ≤ (i : Int) := by omega
      have q1 : (i : Int) < (n : Int) := by omega
      have q2 : (r.size : Int) ≤ 2010 := by omega
      have hf1 := framesB_size turn ht (rs.take i) k (by rw [List.length_take]; omega) (fun x hx => HS.out.1 x (List.mem_of_mem_take hx))
      have hf2 := wrapS_size (turn * 1000000 + (k + i)) r (by omega) hrz
      rw [List.length_take] at hf1
      have hnx : b ++ framesB turn k (rs.take (i + 1)) = (b ++ framesB turn k (rs.take i)) ++ wrapS (turn * 1000000 + (k + i)) r := by
        rw [List.take_add_one, hr]
        show b ++ framesB turn k (rs.take i ++ [r]) = _
        rw [framesB_snoc, List.length_take, append_assocB]
        congr 5
        have := HN.out
        omega
      have hcz : (b ++ framesB turn k (rs.take i)).size ≤ 1102000 := by rw [ByteArray.size_append]; have := HBZ.out; omega
      have cq := Lib.hid (seq_any turn (k + i) (by omega) (by omega) wr)
      have cw := Lib.hid (fun W => Wrap_any (turn * 1000000 + (k + i)) r (by omega) hrz W)
      have e1 : ((k + i : Nat) : Int) = (k : Int) + (i : Int) := by omega
      rw [e1] at cq
      generalize turn * 1000000 + (k + i) = K at cq cw hnx hf2
      generalize wrapS K r = fr at cw hnx hf2
      generalize b ++ framesB turn k (rs.take i) = acc at hnx hcz ⊢
      have hcat : acc.size + fr.size ≤ 9223372036854775807 := by omega
      have HNX := Lib.hid hnx
      clear hnx hf1 hf2 hcz hrz hr hlt e1
      go_wp2_with (first
        | (go_at_call 43; (with_reducible refine cq.out.mono ?_); rintro e w6 ⟨rfl, rfl⟩)
        | (go_at_call 80; (with_reducible refine (cw.out _).mono ?_); rintro e w6 ⟨rfl, hb⟩; have HB6 := Lib.hid (below_step HB.out hb); clear hb))
      go_roundg k'
      case measure => omega
      case rel => exact ⟨i + 1, by rw [HNX.out], by go_num, by omega, HB6⟩
    · obtain rfl : i = n := by omega
      have htk : rs.take i = rs := by rw [HN.out, List.take_length]
      have hacc : b ++ framesB turn k (rs.take i) = out := by rw [htk, HOUT.out]
      rw [hacc]
      have cr := Lib.hid (room_any F p q D J wr (HD.out.1.below HB.out) (HD.out.2.1.below HB.out) HD.out.2.2)
      have hroom : D.half * 64 ≤ 63936 := by omega
      have hR := HR.out
      generalize D.half * 64 = room at cr hroom hR
      clear hlt hi htk hacc hhz
      by_cases hgt : room < out.size
      · rw [if_pos hgt] at hR
        have HR2 := Lib.hid hR
        clear hR
        have t1 : (room : Int) < (out.size : Int) := by omega
        clear hgt
        go_wp2_with (go_at_call 82; (with_reducible refine cr.out.mono ?_); rintro e w6 ⟨rfl, rfl⟩)
        go_ret2
        rw [HR2.out]
        exact ⟨rfl, HB.out⟩
      · rw [if_neg hgt] at hR
        have HR2 := Lib.hid hR
        clear hR
        have t1 : (out.size : Int) ≤ (room : Int) := by omega
        clear hgt
        go_wp2_with (go_at_call 82; (with_reducible refine cr.out.mono ?_); rintro e w6 ⟨rfl, rfl⟩)
        go_ret2
        rw [HR2.out]
        exact ⟨rfl, HB.out⟩
end Go.Proofs.YtjincmagbbpooaaGreatDoor
end
