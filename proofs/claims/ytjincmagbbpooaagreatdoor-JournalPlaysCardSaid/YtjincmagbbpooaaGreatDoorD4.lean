import Derived.Test.YtjincmagbbpooaaGreatDoorD3
set_option linter.unusedVariables false
set_option linter.unusedSimpArgs false
namespace Go.Proofs.YtjincmagbbpooaaGreatDoor
open Go.RowKit

theorem keepN_len {keep : Nat → Bool} {torn : Int} {l : List (Nat × ByteArray)} {s : List ByteArray} : ∀ i, (keepN keep torn l s i).length = s.length
  | 0 => rfl
  | i + 1 => by
    show (keepStep _ _ _ _ _).length = _
    unfold keepStep
    split
    · split
      · rw [List.length_set, keepN_len i]
      · rw [List.length_set, keepN_len i]
    · exact keepN_len i
theorem keepN_succ {keep : Nat → Bool} {torn : Int} {l : List (Nat × ByteArray)} {s : List ByteArray} {i : Nat} {x : Nat × ByteArray} (h : l[i]? = some x) : keepN keep torn l s (i + 1) = keepStep keep torn i x (keepN keep torn l s i) := by
  show keepStep keep torn i (l.getD i (0, ⟨#[]⟩)) _ = _
  rw [List.getD_eq_getElem?_getD, h]
  rfl
/-- A sector set. -/
theorem DskAt.setSure {w : World} {p g : Nat} {lv : Value} {D : DS} (h : DskAt w p g lv D) (k : Nat) (s : ByteArray) (hs : s.size = 64) : DskAt (w.setCell ⟨g, k, none⟩ (.string s)) p g lv { D with sure := D.sure.set k s } := by
  have hl : (D.sure.set k s).length = D.sure.length := List.length_set
  refine ⟨?_, ?_, own_same h.loose fun q hq => Below.heap_setCell _ _ _ _ (fun e => h.ne.2.2 (by rw [hq, e])), ⟨by show 1 ≤ (D.sure.set k s).length; rw [hl]; exact h.ok.one, by show (D.sure.set k s).length ≤ _; rw [hl]; exact h.ok.most, fun y hy => ?_, fun x hx => by show _ < (D.sure.set k s).length ∧ _; rw [hl]; exact h.ok.lies x hx, h.ok.few, h.ok.done, h.ok.left⟩⟩
  · show Blk _ p _ #[.slice (some ⟨g, 0, none⟩) (D.sure.set k s).length (D.sure.set k s).length, _, _, _, _]
    rw [hl]
    exact h.own.far h.ne.1 _
  · have := h.row.set_ k (.string s)
    show Blk _ g _ ((D.sure.set k s).map Value.string).toArray
    rw [List.map_set]
    simpa using this
  · rcases List.mem_or_eq_of_mem_set hy with h' | h'
    · exact h.ok.size y h'
    · rw [h']; exact hs
theorem DskAt.clear {w : World} {p g : Nat} {lv : Value} {D : DS} (h : DskAt w p g lv D) : DskAt (w.setCell ⟨p, 1, none⟩ (.slice none 0 0)) p g (.slice none 0 0) { D with loose := [] } :=
  ⟨h.own.set_ 1 _, h.row.far h.ne.1.symm _, World.ownsRow_nil _ _ _ _, ⟨h.ok.one, h.ok.most, h.ok.size, fun x hx => by simp at hx, by simp, h.ok.done, h.ok.left⟩⟩

set_option maxHeartbeats 8000000 in
set_option maxRecDepth 100000 in
theorem keeps_all (w : World) (F : Nat → Prop) (p : Nat) (D : DS) (keep : Nat → Bool) (torn : Int) (h : Dsk w F p D)
    (hK : ∀ w', Save F w w' → ∀ i : Nat, i < D.loose.length → Calls Tryz.prog 79 #[.int .i64 (i : Int)] w' fun e w'' => e = .returned (.bool (keep i)) ∧ w' = w'') :
    Calls Tryz.prog 54 #[.pointer (some ⟨p, 0, none⟩), .func (.func 79) #[] #[], .int .i64 torn] w fun e w' => e = .returned (.tuple #[]) ∧ DskPost F p w (D.keeps keep torn) w' := by
  obtain ⟨g, lv, hd, f1, f2, f3⟩ := h
  obtain ⟨c0, c1, -⟩ := hd.cells
  obtain ⟨la, lc, hlv⟩ := own_len hd.loose
  have hfew := hd.ok.few
  have hdone := hd.ok.done
  have hmost := hd.ok.most
  have HD := Lib.hid hd
  have HF1 := Lib.hid f1
  have HF2 := Lib.hid f2
  have HF3 := Lib.hid f3
  replace hK := Lib.hid hK
  obtain ⟨n, hn⟩ : ∃ n, n = D.loose.length := ⟨_, rfl⟩
  obtain ⟨N, hN⟩ : ∃ n, n = D.sure.length := ⟨_, rfl⟩
  rw [← hN] at c0 hmost
  rw [← hn] at hfew hlv
  have HN := Lib.hid hn
  have HNN := Lib.hid hN
  have zn : n ≤ 1099511627776 := by omega
  have HLV := Lib.hid hlv
  have hl1 : ∃ e : Prop, e := ⟨True, trivial⟩
  clear hd f1 f2 f3 hn hN hfew hdone hl1
  rw [hlv] at c1
  clear hlv
  go_enter Tryz.func54, Tryz.ntmps54
  go_wp2
  go_loopw [13] (fun v13 wr => ∃ i : Nat, v13 = .int .i64 (i : Int) ∧ i ≤ n ∧ Hid (Save F w wr) ∧ Hid (DskAt wr p g lv { D with sure := keepN keep torn D.loose D.sure i })) (fun v13 _ => n - (intOf v13).toNat)
  case atStart => exact ⟨0, rfl, Nat.zero_le _, Save.refl _ _, HD.out⟩
  case round =>
    clear c0 c1
    obtain ⟨i, rfl, hi, HS, HDI⟩ := hrel
    have hc1 := HDI.out.cells.2.1
    have hc0 := HDI.out.cells.1
    rw [HLV.out] at hc1
    have hlen : (keepN keep torn D.loose D.sure i).length = N := by rw [keepN_len, HNN.out]
    change wr.cell? ⟨p, 0, none⟩ = some (.slice (some ⟨g, 0, none⟩) (keepN keep torn D.loose D.sure i).length (keepN keep torn D.loose D.sure i).length) at hc0
    rw [hlen] at hc0
    by_cases hlt : i < n
    · have hlt' : i < D.loose.length := by rw [← HN.out]; exact hlt
      obtain ⟨x, hx⟩ : ∃ x, D.loose[i]? = some x := ⟨_, List.getElem?_eq_getElem hlt'⟩
      obtain ⟨g2, cap, e, hg2, hcl⟩ := HDI.out.looseCells (show 0 < D.loose.length by omega)
      change lv = .slice (some ⟨g2, 0, none⟩) D.loose.length cap at e
      rw [← HN.out, HLV.out] at e
      injection e with e1 e2 e3
      subst e1 e3
      obtain ⟨ca, cb⟩ := hcl i x hx
      have hxl := HDI.out.ok.lies x (List.mem_of_getElem? hx)
      have hxN : x.1 < N := by have := hxl.1; change x.1 < (keepN keep torn D.loose D.sure i).length at this; omega
      have hx64 := hxl.2
      obtain ⟨S, hS⟩ : ∃ S, S = keepN keep torn D.loose D.sure i := ⟨_, rfl⟩
      have hsz : (S.getD x.1 ⟨#[]⟩).size = 64 := by
        refine HDI.out.ok.size _ ?_
        show S.getD x.1 ⟨#[]⟩ ∈ keepN keep torn D.loose D.sure i
        rw [← hS]
        refine List.mem_of_getElem? (i := x.1) ?_
        rw [List.getD_eq_getElem?_getD, List.getElem?_eq_getElem (by rw [hS, hlen]; exact hxN)]; rfl
      have csr := HDI.out.sureCell x.1 (show x.1 < (keepN keep torn D.loose D.sure i).length by omega)
      change wr.cell? ⟨g, x.1, none⟩ = some (.string ((keepN keep torn D.loose D.sure i).getD x.1 ⟨#[]⟩)) at csr
      rw [← hS] at csr
      have fsr := HDI.out.row.frozen x.1
      obtain ⟨s1, hs1⟩ : ∃ s, s = S.getD x.1 ⟨#[]⟩ := ⟨_, rfl⟩
      rw [← hs1] at csr hsz
      have hpg := HDI.out.own.lt
      have hgg := HDI.out.row.lt
      have b0 : (0 : Int) ≤ (i : Int) := by omega
      have b1 : (i : Int) < (n : Int) := by omega
      have b2 : (0 : Int) ≤ (x.1 : Int) := by omega
      have b3 : (x.1 : Int) < (N : Int) := by omega
      obtain ⟨k, hk⟩ : ∃ k, k = x.1 := ⟨_, rfl⟩
      obtain ⟨b, hb⟩ : ∃ b, b = x.2 := ⟨_, rfl⟩
      rw [← hk] at ca csr fsr b2 b3
      rw [← hb] at cb hx64
      have z1 : 32 ≤ s1.size := by omega
      have z2 : 32 ≤ b.size := by omega
      have z3 : (b.extract 0 32).size + (s1.extract 32 s1.size).size ≤ 9223372036854775807 := by rw [ByteArray.size_extract, ByteArray.size_extract]; omega
      have z3' : ¬ 9223372036854775807 < (b.extract 0 32).size + (s1.extract 32 s1.size).size := by omega
      have z4 : (32 : Int) ≤ (s1.size : Int) := by omega
      have z5 : (32 : Int) ≤ (b.size : Int) := by omega
      have hne0 : g ≠ wr.heap.size := by omega
      have HX := Lib.hid hx
      have HXK := Lib.hid hk
      have HXB := Lib.hid hb
      have HSS := Lib.hid hS
      have HS1 := Lib.hid hs1
      have HZB := Lib.hid hx64
      have HZS := Lib.hid hsz
      have ck := hK.out (wr.alloc (.cells #[.int .i64 (k : Int), .string b] 96)) (HS.out.alloc _) i hlt'
      have hst := keepN_succ (keep := keep) (torn := torn) (l := D.loose) (s := D.sure) hx
      rw [← hS] at hst
      unfold keepStep at hst
      have HLT := Lib.hid hlt'
      clear hx hk hb hS hs1 hx64 hsz hxl hxN hlt' hcl hg2
      cases hki : keep i
      · rw [hki] at ck
        rw [if_neg (by rw [hki]; decide)] at hst
        replace ck := Lib.hid ck
        have HST := Lib.hid hst
        clear hst hki
        go_wp2_with (go_at_call 79; (with_reducible refine ck.out.mono ?_); rintro e w1 ⟨rfl, rfl⟩)
        go_roundw
        case rel =>
          refine ⟨i + 1, by go_num, by omega, HS.out.alloc _, ?_⟩
          rw [HST.out, HSS.out]
          exact HDI.out.alloc _
        case measure => simp [intOf]; omega
      · rw [hki] at ck
        rw [if_pos hki] at hst
        replace ck := Lib.hid ck
        clear hki
        by_cases ht : (i : Int) = torn
        · rw [if_pos ht] at hst
          have HST := Lib.hid hst
          have t1 : ((i : Int) == torn) = true := by rw [ht, beq_self_eq_true]
          have HT := Lib.hid ht
          clear hst ht
          go_wp2_with (go_at_call 79; (with_reducible refine ck.out.mono ?_); rintro e w1 ⟨rfl, rfl⟩)
          go_big_region
          go_wp2
          go_roundw
          case rel =>
            refine ⟨i + 1, by go_num, by omega, ?_, ?_⟩
            · exact (((HS.out.setCell (p := ⟨g, k, none⟩) (.inl HF2.out) _).alloc _).drewN 1)
            · have e1 : S.getD k ⟨#[]⟩ = s1 := by rw [HXK.out]; exact HS1.out.symm
              rw [HST.out, ← HXK.out, ← HXB.out, e1, HSS.out]
              refine ((HDI.out.setSure k _ ?_).alloc _).drewN 1
              rw [ByteArray.size_append, ByteArray.size_extract, ByteArray.size_extract, HZB.out, HZS.out]
              rfl
          case measure => simp [intOf]; omega
        · rw [if_neg ht] at hst
          have HST := Lib.hid hst
          have t1 : ((i : Int) == torn) = false := by rw [beq_eq_false_iff_ne]; exact ht
          clear hst ht
          go_wp2_with (go_at_call 79; (with_reducible refine ck.out.mono ?_); rintro e w1 ⟨rfl, rfl⟩)
          go_region
          go_wp2
          go_roundw
          case rel =>
            refine ⟨i + 1, by go_num, by omega, ?_, ?_⟩
            · exact (((HS.out.setCell (p := ⟨g, k, none⟩) (.inl HF2.out) _).alloc _).drewN 1)
            · rw [HST.out, ← HXK.out, ← HXB.out, HSS.out]
              exact ((HDI.out.setSure k b HZB.out).alloc _).drewN 1
          case measure => simp [intOf]; omega
    · obtain rfl : i = n := by omega
      have fr1 := HDI.out.cells.2.2.2.2.2 1
      go_wp2
      go_end0
      refine ⟨rfl, HS.out.setCell (.inl HF1.out) _, g, .slice none 0 0, ?_, .inl HF1.out, .inl HF2.out, fun q hq => by cases hq⟩
      have := HDI.out.clear
      unfold DS.keeps
      rw [HN.out] at this
      exact this

set_option maxHeartbeats 8000000 in
set_option maxRecDepth 100000 in
theorem keeps_some (w : World) (F : Nat → Prop) (p : Nat) (D : DS) (keep : Nat → Bool) (torn : Int) (cb : Nat) (h : Dsk w F p D)
    (hK : ∀ w', Save F w w' → ∀ i : Nat, i < D.loose.length → Calls Tryz.prog 55 #[.int .i64 (i : Int), .pointer (some ⟨cb, 0, none⟩)] w' fun e w'' => e = .returned (.bool (keep i)) ∧ w' = w'') :
    Calls Tryz.prog 54 #[.pointer (some ⟨p, 0, none⟩), .func (.func 55) #[] #[.pointer (some ⟨cb, 0, none⟩)], .int .i64 torn] w fun e w' => e = .returned (.tuple #[]) ∧ DskPost F p w (D.keeps keep torn) w' := by
  obtain ⟨g, lv, hd, f1, f2, f3⟩ := h
  obtain ⟨c0, c1, -⟩ := hd.cells
  obtain ⟨la, lc, hlv⟩ := own_len hd.loose
  have hfew := hd.ok.few
  have hdone := hd.ok.done
  have hmost := hd.ok.most
  have HD := Lib.hid hd
  have HF1 := Lib.hid f1
  have HF2 := Lib.hid f2
  have HF3 := Lib.hid f3
  replace hK := Lib.hid hK
  obtain ⟨n, hn⟩ : ∃ n, n = D.loose.length := ⟨_, rfl⟩
  obtain ⟨N, hN⟩ : ∃ n, n = D.sure.length := ⟨_, rfl⟩
  rw [← hN] at c0 hmost
  rw [← hn] at hfew hlv
  have HN := Lib.hid hn
  have HNN := Lib.hid hN
  have zn : n ≤ 1099511627776 := by omega
  have HLV := Lib.hid hlv
  have hl1 : ∃ e : Prop, e := ⟨True, trivial⟩
  clear hd f1 f2 f3 hn hN hfew hdone hl1
  rw [hlv] at c1
  clear hlv
  go_enter Tryz.func54, Tryz.ntmps54
  go_wp2
  go_loopw [13] (fun v13 wr => ∃ i : Nat, v13 = .int .i64 (i : Int) ∧ i ≤ n ∧ Hid (Save F w wr) ∧ Hid (DskAt wr p g lv { D with sure := keepN keep torn D.loose D.sure i })) (fun v13 _ => n - (intOf v13).toNat)
  case atStart => exact ⟨0, rfl, Nat.zero_le _, Save.refl _ _, HD.out⟩
  case round =>
    clear c0 c1
    obtain ⟨i, rfl, hi, HS, HDI⟩ := hrel
    have hc1 := HDI.out.cells.2.1
    have hc0 := HDI.out.cells.1
    rw [HLV.out] at hc1
    have hlen : (keepN keep torn D.loose D.sure i).length = N := by rw [keepN_len, HNN.out]
    change wr.cell? ⟨p, 0, none⟩ = some (.slice (some ⟨g, 0, none⟩) (keepN keep torn D.loose D.sure i).length (keepN keep torn D.loose D.sure i).length) at hc0
    rw [hlen] at hc0
    by_cases hlt : i < n
    · have hlt' : i < D.loose.length := by rw [← HN.out]; exact hlt
      obtain ⟨x, hx⟩ : ∃ x, D.loose[i]? = some x := ⟨_, List.getElem?_eq_getElem hlt'⟩
      obtain ⟨g2, cap, e, hg2, hcl⟩ := HDI.out.looseCells (show 0 < D.loose.length by omega)
      change lv = .slice (some ⟨g2, 0, none⟩) D.loose.length cap at e
      rw [← HN.out, HLV.out] at e
      injection e with e1 e2 e3
      subst e1 e3
      obtain ⟨ca, cb⟩ := hcl i x hx
      have hxl := HDI.out.ok.lies x (List.mem_of_getElem? hx)
      have hxN : x.1 < N := by have := hxl.1; change x.1 < (keepN keep torn D.loose D.sure i).length at this; omega
      have hx64 := hxl.2
      obtain ⟨S, hS⟩ : ∃ S, S = keepN keep torn D.loose D.sure i := ⟨_, rfl⟩
      have hsz : (S.getD x.1 ⟨#[]⟩).size = 64 := by
        refine HDI.out.ok.size _ ?_
        show S.getD x.1 ⟨#[]⟩ ∈ keepN keep torn D.loose D.sure i
        rw [← hS]
        refine List.mem_of_getElem? (i := x.1) ?_
        rw [List.getD_eq_getElem?_getD, List.getElem?_eq_getElem (by rw [hS, hlen]; exact hxN)]; rfl
      have csr := HDI.out.sureCell x.1 (show x.1 < (keepN keep torn D.loose D.sure i).length by omega)
      change wr.cell? ⟨g, x.1, none⟩ = some (.string ((keepN keep torn D.loose D.sure i).getD x.1 ⟨#[]⟩)) at csr
      rw [← hS] at csr
      have fsr := HDI.out.row.frozen x.1
      obtain ⟨s1, hs1⟩ : ∃ s, s = S.getD x.1 ⟨#[]⟩ := ⟨_, rfl⟩
      rw [← hs1] at csr hsz
      have hpg := HDI.out.own.lt
      have hgg := HDI.out.row.lt
      have b0 : (0 : Int) ≤ (i : Int) := by omega
      have b1 : (i : Int) < (n : Int) := by omega
      have b2 : (0 : Int) ≤ (x.1 : Int) := by omega
      have b3 : (x.1 : Int) < (N : Int) := by omega
      obtain ⟨k, hk⟩ : ∃ k, k = x.1 := ⟨_, rfl⟩
      obtain ⟨b, hb⟩ : ∃ b, b = x.2 := ⟨_, rfl⟩
      rw [← hk] at ca csr fsr b2 b3
      rw [← hb] at cb hx64
      have z1 : 32 ≤ s1.size := by omega
      have z2 : 32 ≤ b.size := by omega
      have z3 : (b.extract 0 32).size + (s1.extract 32 s1.size).size ≤ 9223372036854775807 := by rw [ByteArray.size_extract, ByteArray.size_extract]; omega
      have z3' : ¬ 9223372036854775807 < (b.extract 0 32).size + (s1.extract 32 s1.size).size := by omega
      have z4 : (32 : Int) ≤ (s1.size : Int) := by omega
      have z5 : (32 : Int) ≤ (b.size : Int) := by omega
      have hne0 : g ≠ wr.heap.size := by omega
      have HX := Lib.hid hx
      have HXK := Lib.hid hk
      have HXB := Lib.hid hb
      have HSS := Lib.hid hS
      have HS1 := Lib.hid hs1
      have HZB := Lib.hid hx64
      have HZS := Lib.hid hsz
      have ck := hK.out (wr.alloc (.cells #[.int .i64 (k : Int), .string b] 96)) (HS.out.alloc _) i hlt'
      have hst := keepN_succ (keep := keep) (torn := torn) (l := D.loose) (s := D.sure) hx
      rw [← hS] at hst
      unfold keepStep at hst
      have HLT := Lib.hid hlt'
      clear hx hk hb hS hs1 hx64 hsz hxl hxN hlt' hcl hg2
      cases hki : keep i
      · rw [hki] at ck
        rw [if_neg (by rw [hki]; decide)] at hst
        replace ck := Lib.hid ck
        have HST := Lib.hid hst
        clear hst hki
        go_wp2_with (go_at_call 55; (with_reducible refine ck.out.mono ?_); rintro e w1 ⟨rfl, rfl⟩)
        go_roundw
        case rel =>
          refine ⟨i + 1, by go_num, by omega, HS.out.alloc _, ?_⟩
          rw [HST.out, HSS.out]
          exact HDI.out.alloc _
        case measure => simp [intOf]; omega
      · rw [hki] at ck
        rw [if_pos hki] at hst
        replace ck := Lib.hid ck
        clear hki
        by_cases ht : (i : Int) = torn
        · rw [if_pos ht] at hst
          have HST := Lib.hid hst
          have t1 : ((i : Int) == torn) = true := by rw [ht, beq_self_eq_true]
          have HT := Lib.hid ht
          clear hst ht
          go_wp2_with (go_at_call 55; (with_reducible refine ck.out.mono ?_); rintro e w1 ⟨rfl, rfl⟩)
          go_big_region
          go_wp2
          go_roundw
          case rel =>
            refine ⟨i + 1, by go_num, by omega, ?_, ?_⟩
            · exact (((HS.out.setCell (p := ⟨g, k, none⟩) (.inl HF2.out) _).alloc _).drewN 1)
            · have e1 : S.getD k ⟨#[]⟩ = s1 := by rw [HXK.out]; exact HS1.out.symm
              rw [HST.out, ← HXK.out, ← HXB.out, e1, HSS.out]
              refine ((HDI.out.setSure k _ ?_).alloc _).drewN 1
              rw [ByteArray.size_append, ByteArray.size_extract, ByteArray.size_extract, HZB.out, HZS.out]
              rfl
          case measure => simp [intOf]; omega
        · rw [if_neg ht] at hst
          have HST := Lib.hid hst
          have t1 : ((i : Int) == torn) = false := by rw [beq_eq_false_iff_ne]; exact ht
          clear hst ht
          go_wp2_with (go_at_call 55; (with_reducible refine ck.out.mono ?_); rintro e w1 ⟨rfl, rfl⟩)
          go_region
          go_wp2
          go_roundw
          case rel =>
            refine ⟨i + 1, by go_num, by omega, ?_, ?_⟩
            · exact (((HS.out.setCell (p := ⟨g, k, none⟩) (.inl HF2.out) _).alloc _).drewN 1)
            · rw [HST.out, ← HXK.out, ← HXB.out, HSS.out]
              exact ((HDI.out.setSure k b HZB.out).alloc _).drewN 1
          case measure => simp [intOf]; omega
    · obtain rfl : i = n := by omega
      have fr1 := HDI.out.cells.2.2.2.2.2 1
      go_wp2
      go_end0
      refine ⟨rfl, HS.out.setCell (.inl HF1.out) _, g, .slice none 0 0, ?_, .inl HF1.out, .inl HF2.out, fun q hq => by cases hq⟩
      have := HDI.out.clear
      unfold DS.keeps
      rw [HN.out] at this
      exact this
end Go.Proofs.YtjincmagbbpooaaGreatDoor

