import Derived.Test.YtjincmagbbpooaaGreatDoorM6
set_option linter.unusedVariables false
set_option linter.unusedSimpArgs false
namespace Go.Proofs.YtjincmagbbpooaaGreatDoor
open Go.RowKit

/-- What the loads of one statement find; behind which of its stores it is no more so. -/
def rS (p : Nat) (a1 a2 : Option Addr) (n k1 k2 d : Nat) : Nat → World → Prop := fun q w' => match q with
  | 1 => w'.cell? ⟨p, 1, none⟩ = some (.slice a1 n k1)
  | 2 => w'.cell? ⟨p, 2, none⟩ = some (.slice a2 n k2)
  | 3 => w'.cell? ⟨p, 3, none⟩ = some (.int .i64 (d : Int))
  | _ => True
def rD : Nat → List Nat := fun q => match q with
  | 1 => [27]
  | 2 => [30]
  | 3 => [33]
  | _ => []
theorem rS_store {p n k1 k2 d q o : Nat} {a1 a2 : Option Addr} {w w' : World} {v : Value} (hw : w' = w.setCell ⟨p, o, none⟩ v) (hq : q ≠ o) (hs : rS p a1 a2 n k1 k2 d q w) : rS p a1 a2 n k1 k2 d q w' := by
  subst hw
  have key : ∀ j, o ≠ j → (w.setCell ⟨p, o, none⟩ v).cell? ⟨p, j, none⟩ = w.cell? ⟨p, j, none⟩ := fun j hj => World.cell?_setCell_other w _ _ _ (fun e => hj (congrArg Addr.off e))
  match q, hq, hs with
  | 0, _, _ => exact trivial
  | 1, hq, hs => exact (key 1 (fun e => hq e.symm)).trans hs
  | 2, hq, hs => exact (key 2 (fun e => hq e.symm)).trans hs
  | 3, hq, hs => exact (key 3 (fun e => hq e.symm)).trans hs
  | _ + 4, _, _ => exact trivial
theorem grown_none {w w' : World} {B : Nat} (h : w.grownBy w' (Value.slice none 0 0).ownBlock) (hB : B ≤ w.heap.size) : Below B w w' := ⟨h.os, h.tape, h.output, h.size, fun k hk => h.block k (by omega) (fun e => by cases e)⟩
theorem own_own_ne {w : World} {base base' : Nat} {e e' : TypeId} {size size' n n' : Nat} {v v' : Value} {xs xs' : List Value} (h : w.ownsRow base e size v n xs) (h' : w.ownsRow base' e' size' v' n' xs') (hne : e ≠ e') : ∀ k, v.ownBlock = some k → some k ≠ v'.ownBlock := by
  intro k hk
  rcases h.2 with ⟨rfl, _⟩ | ⟨g, cap, cur, rfl, _, hh, _⟩
  · cases hk
  · have : g = k := by simpa [Value.ownBlock] using hk
    subst this
    exact own_blk_ne h' (g := g) (t := e) (cs := cur) hh (fun e => hne e.symm)
theorem rput_close {w W0 w5 : World} {F : Nat → Prop} {p g1 g2 cap1 cap2 d n i : Nat} {sv av bv : Value} {D : DS} {l : Int} {b : ByteArray}
    (HS0 : Save F w W0) (HD0 : RefAt W0 p sv av bv { D with left := l }) (HB : Below W0.heap.size W0 w5)
    (HO2 : w5.ownsRow W0.heap.size 3 1 (.slice (some ⟨g1, 0, none⟩) (n + 1) cap1) (n + 1) (atsC D.loose ++ [.int .i64 (i : Int)]))
    (HO4 : w5.ownsRow W0.heap.size 9 1 (.slice (some ⟨g2, 0, none⟩) (n + 1) cap2) (n + 1) (bsC D.loose ++ [.string b]))
    (HF : RefIn F p sv av bv) (hok : n = D.loose.length ∧ DS.ok { D with left := l, done := d + 1, loose := D.loose ++ [(i, b)] }) :
    RefPost F p w { D with left := l, done := d + 1, loose := D.loose ++ [(i, b)] } (((w5.setCell ⟨p, 1, none⟩ (.slice (some ⟨g1, 0, none⟩) (n + 1) cap1)).setCell ⟨p, 2, none⟩ (.slice (some ⟨g2, 0, none⟩) (n + 1) cap2)).setCell ⟨p, 3, none⟩ (.int .i64 ((d : Int) + 1))) := by
  obtain ⟨rfl, hok⟩ := hok
  have hp := HD0.own.lt
  have hlen : (D.loose ++ [(i, b)]).length = D.loose.length + 1 := by simp
  have l1 := HO2.lt g1 rfl
  have l2 := HO4.lt g2 rfl
  have hk : ∀ q, W0.heap.size ≤ q → q ≠ p := fun q h e => by omega
  have hS := (HD0.below HB).s
  have hcast : ((d : Int) + 1) = ((d + 1 : Nat) : Int) := by omega
  have hz := HS0.size
  refine ⟨(((HS0.belowStep HB).setCell (.inl HF.1) _).setCell (.inl HF.1) _).setCell (.inl HF.1) _, sv, .slice (some ⟨g1, 0, none⟩) (D.loose.length + 1) cap1, .slice (some ⟨g2, 0, none⟩) (D.loose.length + 1) cap2, ⟨?_, ?_, ?_, ?_, hok⟩, ?_⟩
  · have := (((HD0.own.below HB).set_ 1 (.slice (some ⟨g1, 0, none⟩) (D.loose.length + 1) cap1)).set_ 2 (.slice (some ⟨g2, 0, none⟩) (D.loose.length + 1) cap2)).set_ 3 (.int .i64 ((d : Int) + 1))
    rw [hcast] at this ⊢
    exact this
  · have hne : ∀ q, sv.ownBlock = some q → q ≠ p := fun q hq e => HD0.ne.1 (by rw [hq, e])
    exact own_same (own_same (own_same hS fun q hq => Below.heap_setCell _ _ _ _ (hne q hq)) fun q hq => Below.heap_setCell _ _ _ _ (hne q hq)) fun q hq => Below.heap_setCell _ _ _ _ (hne q hq)
  · show World.ownsRow _ 0 3 1 _ (D.loose ++ [(i, b)]).length (atsC (D.loose ++ [(i, b)]))
    rw [hlen]
    have e : atsC (D.loose ++ [(i, b)]) = atsC D.loose ++ [.int .i64 (i : Int)] := by simp [atsC]
    rw [e]
    have hne : ∀ q, (Value.slice (some ⟨g1, 0, none⟩) (D.loose.length + 1) cap1).ownBlock = some q → q ≠ p := fun q hq => hk q (HO2.lt q hq).1
    exact own_base (own_same (own_same (own_same HO2 fun q hq => Below.heap_setCell _ _ _ _ (hne q hq)) fun q hq => Below.heap_setCell _ _ _ _ (hne q hq)) fun q hq => Below.heap_setCell _ _ _ _ (hne q hq))
  · show World.ownsRow _ 0 9 1 _ (D.loose ++ [(i, b)]).length (bsC (D.loose ++ [(i, b)]))
    rw [hlen]
    have e : bsC (D.loose ++ [(i, b)]) = bsC D.loose ++ [.string b] := by simp [bsC]
    rw [e]
    have hne : ∀ q, (Value.slice (some ⟨g2, 0, none⟩) (D.loose.length + 1) cap2).ownBlock = some q → q ≠ p := fun q hq => hk q (HO4.lt q hq).1
    exact own_base (own_same (own_same (own_same HO4 fun q hq => Below.heap_setCell _ _ _ _ (hne q hq)) fun q hq => Below.heap_setCell _ _ _ _ (hne q hq)) fun q hq => Below.heap_setCell _ _ _ _ (hne q hq))
  · refine ⟨.inl HF.1, fun k hk => .inl (HF.2.1 k hk), fun k hk => .inr ?_, fun k hk => .inr ?_⟩
    · have := HO2.lt k hk
      exact ⟨by omega, by simp [World.setCell]; omega⟩
    · have := HO4.lt k hk
      exact ⟨by omega, by simp [World.setCell]; omega⟩

set_option maxHeartbeats 16000000 in
set_option maxRecDepth 100000 in
theorem rWrite_yes (w : World) (F : Nat → Prop) (p : Nat) (D : DS) (i : Nat) (b : ByteArray) (h : Ref w F p D) (h0 : D.writeC i b = 0) (hdone : D.done < 1099511627776) :
    Calls Tryz.prog 58 #[.pointer (some ⟨p, 0, none⟩), .int .i64 (i : Int), .string b] w fun e w' => e = .returned (.int .i64 0) ∧ RefPost F p w (D.put i b) w' := by
  obtain ⟨h1, h2, h3⟩ := DS.writeC_zero.1 h0
  obtain ⟨h4, h5, h6⟩ := DS.may_zero.1 h1
  have hok := h.ok.put (i := i) (by omega) h2 hdone
  obtain ⟨sv, av, bv, hd, hf⟩ := h
  obtain ⟨c0, c1, c2, c3, c4, c5, fr⟩ := hd.cells
  rw [h4] at c5
  have cf := Lib.hid (filled_any b h2)
  have hfew := hd.ok.few
  have hl := hd.ok.left.2
  have hl0 := hd.ok.left.1
  obtain ⟨a0, k0, es⟩ := own_len hd.s
  obtain ⟨a1, k1, ea⟩ := own_len hd.a
  obtain ⟨a2, k2, eb⟩ := own_len hd.b
  obtain ⟨n, hn⟩ : ∃ n, n = D.loose.length := ⟨_, rfl⟩
  obtain ⟨N, hN⟩ : ∃ n, n = D.sure.length := ⟨_, rfl⟩
  obtain ⟨l, hll⟩ : ∃ l, l = D.left := ⟨_, rfl⟩
  obtain ⟨d, hdd⟩ : ∃ d, d = D.done := ⟨_, rfl⟩
  rw [← hN] at es h6
  rw [← hn] at ea eb hfew
  rw [← hll] at c4 hl hl0 h3
  rw [← hdd] at c3 hdone hfew
  rw [es] at c0
  have t1 : decide ((i : Int) < 0) = false := decide_eq_false (by omega)
  have t2 : decide ((N : Int) ≤ (i : Int)) = false := decide_eq_false (by omega)
  have t2' : decide (N ≤ i) = false := decide_eq_false (by omega)
  have t3 : decide ((64 : Int) < (b.size : Int)) = false := decide_eq_false (by omega)
  have t3' : decide (64 < b.size) = false := decide_eq_false (by omega)
  have t5 : (l == 0) = false := by rw [beq_eq_false_iff_ne]; exact h3
  have fr4 := fr 4
  obtain ⟨j0, hj, hj0, hj1, hj2⟩ := info_parts Tryz.infoI1
  have Hj0I := Lib.hid hj
  have Hj00 := Lib.hid hj0
  have Hj01 := Lib.hid hj1
  have Hj02 := Lib.hid hj2
  obtain ⟨s0, hi, hz0, hz1, hz2⟩ := info_parts Tryz.infoS1
  have Hs0I := Lib.hid hi
  have Hs00 := Lib.hid hz0
  have Hs01 := Lib.hid hz1
  have Hs02 := Lib.hid hz2
  have HD := Lib.hid hd
  have HF := Lib.hid hf
  have HN := Lib.hid hn
  have HEA := Lib.hid ea
  have HEB := Lib.hid eb
  have HLL := Lib.hid hll
  have HDD := Lib.hid hdd
  have HOK := Lib.hid hok
  have zn : n ≤ 1099511627776 := by omega
  have hw : IntKind.i64.wrap ((d : Int) + 1) = (d : Int) + 1 := by rw [IntKind.wrap_i64]; omega
  clear hd hf fr hn hN es ea eb hll hdd hok hj hj0 hj1 hj2 hi hz0 hz1 hz2 h0 h1 h2 h3 h4 h5 h6 c1 c2 c3
  by_cases hl1 : 0 < l
  · have t4 : decide (0 < l) = true := decide_eq_true hl1
    have HPUT : Hid (D.put i b = { D with left := l - 1, done := d + 1, loose := D.loose ++ [(i, fillB b)] }) := by
      have h1 := HLL.out
      have h2 := HDD.out
      subst h1 h2
      unfold DS.put
      rw [if_pos hl1]
      exact rfl
    have HOK3 : Hid (n = D.loose.length ∧ DS.ok { D with left := l - 1, done := d + 1, loose := D.loose ++ [(i, fillB b)] }) := by
      have := HOK.out
      rw [HPUT.out] at this
      exact ⟨HN.out, this⟩
    go_enter Tryz.func58, Tryz.ntmps58
    go_wp2
    have HS0 : Save F w (w.setCell ⟨p, 4, none⟩ (.int .i64 (l - 1))) := (Save.refl _ _).setCell (.inl HF.out.1) _
    have HD0 : RefAt (w.setCell ⟨p, 4, none⟩ (.int .i64 (l - 1))) p sv av bv { D with left := l - 1 } := by
      have hn := HD.out.ne
      have hk : ∀ v : Value, some p ≠ v.ownBlock → ∀ q, v.ownBlock = some q → q ≠ p := fun v h q hq e => h (by rw [hq, e])
      exact ⟨HD.out.own.set_ 4 _, own_same HD.out.s fun q hq => Below.heap_setCell _ _ _ _ (hk _ hn.1 q hq), own_same HD.out.a fun q hq => Below.heap_setCell _ _ _ _ (hk _ hn.2.1 q hq), own_same HD.out.b fun q hq => Below.heap_setCell _ _ _ _ (hk _ hn.2.2 q hq), ⟨HD.out.ok.one, HD.out.ok.most, HD.out.ok.size, HD.out.ok.lies, HD.out.ok.few, HD.out.ok.done, by show -1 ≤ l - 1 ∧ l - 1 ≤ _; omega⟩⟩
    generalize (w.setCell ⟨p, 4, none⟩ (.int .i64 (l - 1))) = W0 at *
    have hlp := HD0.own.lt
    have hcc := HD0.cells
    have HLP := Lib.hid hlp
    have HFR := Lib.hid hcc.2.2.2.2.2.2
    have hK : ∀ w', Below W0.heap.size W0 w' → w'.cell? ⟨p, 1, none⟩ = some (.slice a1 n k1) ∧ w'.cell? ⟨p, 2, none⟩ = some (.slice a2 n k2) ∧ w'.cell? ⟨p, 3, none⟩ = some (.int .i64 (d : Int)) := fun w' hb => by
      rw [← HEA.out, ← HEB.out, HDD.out]
      exact ⟨(hb.cell (p := ⟨p, 1, none⟩) hlp).trans hcc.2.1, (hb.cell (p := ⟨p, 2, none⟩) hlp).trans hcc.2.2.1, (hb.cell (p := ⟨p, 3, none⟩) hlp).trans hcc.2.2.2.1⟩
    have HK := Lib.hid hK
    have hKQ : ∀ w', Below W0.heap.size W0 w' → ∀ q, rS p a1 a2 n k1 k2 d q w' := fun w' hb q => by
      obtain ⟨x1, x2, x3⟩ := hK w' hb
      match q with
      | 0 => exact trivial
      | 1 => exact x1
      | 2 => exact x2
      | 3 => exact x3
      | _ + 4 => exact trivial
    have HKQ := Lib.hid hKQ
    have hra : Reads W0 W0.heap.size 1 a1 n (atsC D.loose) := by
      have := HD0.a
      rw [HEA.out] at this
      change W0.ownsRow 0 _ 1 _ D.loose.length _ at this
      rw [← HN.out] at this
      exact Reads.of_own this
    have hrb : Reads W0 W0.heap.size 1 a2 n (bsC D.loose) := by
      have := HD0.b
      rw [HEB.out] at this
      change W0.ownsRow 0 _ 1 _ D.loose.length _ at this
      rw [← HN.out] at this
      exact Reads.of_own this
    have HRA := Lib.hid hra
    have HRB := Lib.hid hrb
    replace HS0 := Lib.hid HS0
    replace HD0 := Lib.hid HD0
    have HB : Hid (Below W0.heap.size W0 W0.drew) := Lib.hid ⟨rfl, rfl, rfl, Nat.le_refl _, fun _ _ => rfl⟩
    clear hK hKQ hlp hcc hra hrb
    refine wp_region_fam (S := (rS p a1 a2 n k1 k2 d)) (ds := rD) (by kernel_rfl) ?_
    refine wpFam_take (i := 0) 0 (some 50) (v := ?_) rfl (by kernel_rfl) (by kernel_rfl) (by kernel_rfl) (by kernel_rfl) (by kernel_rfl) (fun _ _ _ h => h) rfl (Or.inl ⟨by rfl, ?_⟩) (by exact trivial) ?_
    rotate_left
    · (intro w hSw; (try simp only [rS] at hSw); go_simp); (try with_reducible rfl)
    try simp only [Act.put, List.setIfInBounds_toArray, List.set_cons_zero, List.set_cons_succ]
    refine wpFam_take (i := 1) 0 (some 51) (v := ?_) rfl (by kernel_rfl) (by kernel_rfl) (by kernel_rfl) (by kernel_rfl) (by kernel_rfl) (fun _ _ _ h => h) rfl (Or.inl ⟨by rfl, ?_⟩) (by exact trivial) ?_
    rotate_left
    · (intro w hSw; (try simp only [rS] at hSw); go_simp); (try with_reducible rfl)
    try simp only [Act.put, List.setIfInBounds_toArray, List.set_cons_zero, List.set_cons_succ]
    refine wpFam_take (i := 2) 0 (some 52) (v := ?_) rfl (by kernel_rfl) (by kernel_rfl) (by kernel_rfl) (by kernel_rfl) (by kernel_rfl) (fun _ _ _ h => h) rfl (Or.inl ⟨by rfl, ?_⟩) (by exact trivial) ?_
    rotate_left
    · (intro w hSw; (try simp only [rS] at hSw); go_simp); (try with_reducible rfl)
    try simp only [Act.put, List.setIfInBounds_toArray, List.set_cons_zero, List.set_cons_succ]
    refine wpFam_take (i := 3) 0 (some 53) (v := ?_) rfl (by kernel_rfl) (by kernel_rfl) (by kernel_rfl) (by kernel_rfl) (by kernel_rfl) (fun _ _ _ h => h) rfl (Or.inl ⟨by rfl, ?_⟩) (by exact trivial) ?_
    rotate_left
    · (intro w hSw; (try simp only [rS] at hSw); go_simp); (try with_reducible rfl)
    try simp only [Act.put, List.setIfInBounds_toArray, List.set_cons_zero, List.set_cons_succ]
    refine wpFam_take (i := 4) 0 (some 54) (v := ?_) rfl (by kernel_rfl) (by kernel_rfl) (by kernel_rfl) (by kernel_rfl) (by kernel_rfl) (fun _ _ _ h => h) rfl (Or.inl ⟨by rfl, ?_⟩) (by exact trivial) ?_
    rotate_left
    · (intro w hSw; (try simp only [rS] at hSw); go_simp); (try with_reducible rfl)
    try simp only [Act.put, List.setIfInBounds_toArray, List.set_cons_zero, List.set_cons_succ]
    refine wpFam_take (i := 5) 0 (some 55) (v := ?_) rfl (by kernel_rfl) (by kernel_rfl) (by kernel_rfl) (by kernel_rfl) (by kernel_rfl) (fun _ _ _ h => h) rfl (Or.inl ⟨by rfl, ?_⟩) (by exact trivial) ?_
    rotate_left
    · (intro w hSw; (try simp only [rS] at hSw); go_simp); (try with_reducible rfl)
    try simp only [Act.put, List.setIfInBounds_toArray, List.set_cons_zero, List.set_cons_succ]
    refine wpFam_take (i := 6) 1 (some 56) (v := ?_) rfl (by kernel_rfl) (by kernel_rfl) (by kernel_rfl) (by kernel_rfl) (by kernel_rfl) (fun _ _ _ h => h) rfl (Or.inl ⟨by rfl, ?_⟩) (by exact HKQ.out _ HB.out 1) ?_
    rotate_left
    · (intro w hSw; (try simp only [rS] at hSw); go_simp); (try with_reducible rfl)
    try simp only [Act.put, List.setIfInBounds_toArray, List.set_cons_zero, List.set_cons_succ]
    refine wpFam_take (i := 8) 0 (some 58) (v := ?_) rfl (by kernel_rfl) (by kernel_rfl) (by kernel_rfl) (by kernel_rfl) (by kernel_rfl) (fun _ _ _ h => h) rfl (Or.inl ⟨by rfl, ?_⟩) (by exact trivial) ?_
    rotate_left
    · (intro w hSw; (try simp only [rS] at hSw); go_simp); (try with_reducible rfl)
    try simp only [Act.put, List.setIfInBounds_toArray, List.set_cons_zero, List.set_cons_succ]
    refine wpFam_take (i := 11) 0 (some 61) (v := ?_) rfl (by kernel_rfl) (by kernel_rfl) (by kernel_rfl) (by kernel_rfl) (by kernel_rfl) (fun _ _ _ h => h) rfl (Or.inl ⟨by rfl, ?_⟩) (by exact trivial) ?_
    rotate_left
    · (intro w hSw; (try simp only [rS] at hSw); go_simp); (try with_reducible rfl)
    try simp only [Act.put, List.setIfInBounds_toArray, List.set_cons_zero, List.set_cons_succ]
    refine wpFam_take (i := 12) 0 (some 62) (v := ?_) rfl (by kernel_rfl) (by kernel_rfl) (by kernel_rfl) (by kernel_rfl) (by kernel_rfl) (fun _ _ _ h => h) rfl (Or.inl ⟨by rfl, ?_⟩) (by exact trivial) ?_
    rotate_left
    · (intro w hSw; (try simp only [rS] at hSw); go_simp); (try with_reducible rfl)
    try simp only [Act.put, List.setIfInBounds_toArray, List.set_cons_zero, List.set_cons_succ]
    refine wpFam_take (i := 13) 0 (some 63) (v := ?_) rfl (by kernel_rfl) (by kernel_rfl) (by kernel_rfl) (by kernel_rfl) (by kernel_rfl) (fun _ _ _ h => h) rfl (Or.inl ⟨by rfl, ?_⟩) (by exact trivial) ?_
    rotate_left
    · (intro w hSw; (try simp only [rS] at hSw); go_simp); (try with_reducible rfl)
    try simp only [Act.put, List.setIfInBounds_toArray, List.set_cons_zero, List.set_cons_succ]
    refine wpFam_take (i := 14) 2 (some 64) (v := ?_) rfl (by kernel_rfl) (by kernel_rfl) (by kernel_rfl) (by kernel_rfl) (by kernel_rfl) (fun _ _ _ h => h) rfl (Or.inl ⟨by rfl, ?_⟩) (by exact HKQ.out _ HB.out 2) ?_
    rotate_left
    · (intro w hSw; (try simp only [rS] at hSw); go_simp); (try with_reducible rfl)
    try simp only [Act.put, List.setIfInBounds_toArray, List.set_cons_zero, List.set_cons_succ]
    refine wpFam_take (i := 16) 0 (some 66) (v := ?_) rfl (by kernel_rfl) (by kernel_rfl) (by kernel_rfl) (by kernel_rfl) (by kernel_rfl) (fun _ _ _ h => h) rfl (Or.inl ⟨by rfl, ?_⟩) (by exact trivial) ?_
    rotate_left
    · (intro w hSw; (try simp only [rS] at hSw); go_simp); (try with_reducible rfl)
    try simp only [Act.put, List.setIfInBounds_toArray, List.set_cons_zero, List.set_cons_succ]
    refine wpFam_take (i := 20) 0 (some 70) (v := ?_) rfl (by kernel_rfl) (by kernel_rfl) (by kernel_rfl) (by kernel_rfl) (by kernel_rfl) (fun _ _ _ h => h) rfl (Or.inl ⟨by rfl, ?_⟩) (by exact trivial) ?_
    rotate_left
    · (intro w hSw; (try simp only [rS] at hSw); go_simp); (try with_reducible rfl)
    try simp only [Act.put, List.setIfInBounds_toArray, List.set_cons_zero, List.set_cons_succ]
    refine wpFam_take (i := 21) 0 (some 71) (v := ?_) rfl (by kernel_rfl) (by kernel_rfl) (by kernel_rfl) (by kernel_rfl) (by kernel_rfl) (fun _ _ _ h => h) rfl (Or.inl ⟨by rfl, ?_⟩) (by exact trivial) ?_
    rotate_left
    · (intro w hSw; (try simp only [rS] at hSw); go_simp); (try with_reducible rfl)
    try simp only [Act.put, List.setIfInBounds_toArray, List.set_cons_zero, List.set_cons_succ]
    refine wpFam_take (i := 22) 0 (some 72) (v := ?_) rfl (by kernel_rfl) (by kernel_rfl) (by kernel_rfl) (by kernel_rfl) (by kernel_rfl) (fun _ _ _ h => h) rfl (Or.inl ⟨by rfl, ?_⟩) (by exact trivial) ?_
    rotate_left
    · (intro w hSw; (try simp only [rS] at hSw); go_simp); (try with_reducible rfl)
    try simp only [Act.put, List.setIfInBounds_toArray, List.set_cons_zero, List.set_cons_succ]
    refine wpFam_take (i := 23) 3 (some 73) (v := ?_) rfl (by kernel_rfl) (by kernel_rfl) (by kernel_rfl) (by kernel_rfl) (by kernel_rfl) (fun _ _ _ h => h) rfl (Or.inl ⟨by rfl, ?_⟩) (by exact HKQ.out _ HB.out 3) ?_
    rotate_left
    · (intro w hSw; (try simp only [rS] at hSw); go_simp); (try with_reducible rfl)
    try simp only [Act.put, List.setIfInBounds_toArray, List.set_cons_zero, List.set_cons_succ]
    refine wpFam_take (i := 24) 0 (some 74) (v := ?_) rfl (by kernel_rfl) (by kernel_rfl) (by kernel_rfl) (by kernel_rfl) (by kernel_rfl) (fun _ _ _ h => h) rfl (Or.inl ⟨by rfl, ?_⟩) (by exact trivial) ?_
    rotate_left
    · (intro w hSw; (try simp only [rS] at hSw); go_simp); (try with_reducible rfl)
    try simp only [Act.put, List.setIfInBounds_toArray, List.set_cons_zero, List.set_cons_succ]
    refine wpFam_ready (rs := [7, 9]) (by kernel_rfl) (by simp) ?_
    refine AllReadyF.cons (i := 7) rfl (fun K hK => ?_) ?_
    ·
      refine step_append_any _ (by rfl) (.const (.slice none 0 0)) (.tmp 56) 64 (by rfl) W0.heap.size 3 j0 (.int .i64 0) 1 8 Tryz.underlying64 Hj0I.out Hj00.out Hj01.out Hj02.out (by rfl) (by decide) (.slice none 0 0) 0 [] (by rfl) (World.ownsRow_nil _ _ _ _) W0.heap.size a1 n k1 (atsC D.loose) (by rfl) (HRA.out.below (by first | exact HB.out | exact HB.out.alloc HB.out.size _)) (one_atsC _) (by unfold maxLen; omega) (by omega) (by first | exact HB.out.size | (have := HB.out.size; simp <;> omega)) ?_
      intro v1 w1 ho hg ha
      rw [Nat.zero_add, List.nil_append] at ho
      have HG1 := Lib.hid hg
      have HO1 := Lib.hid ho
      replace HB := Lib.hid (Below.trans (by first | exact HB.out | exact HB.out.alloc HB.out.size _) (grown_none hg (by first | exact HB.out.size | (have := HB.out.size; simp <;> omega))))
      clear ho hg ha
      try change K (Act.put _ (some 57) _) _
      refine hK.out _ _ ?_ ?_
      · ((intro q _ _; first | exact HKQ.out _ HB.out q | exact HKQ.out _ (HB.out.alloc HB.out.size _) q))
      clear hK K
      try simp only [Act.put, List.setIfInBounds_toArray, List.set_cons_zero, List.set_cons_succ]
      refine wpFam_ready (rs := [9]) (by kernel_rfl) (by simp) ?_
      refine AllReadyF.cons (i := 9) rfl (fun K hK => ?_) ?_
      ·
        go_simp
        try change K (Act.put _ (some 59) _) _
        refine hK.out _ _ ?_ ?_
        · ((intro q _ _; first | exact HKQ.out _ HB.out q | exact HKQ.out _ (HB.out.alloc HB.out.size _) q))
        clear hK K
        try simp only [Act.put, List.setIfInBounds_toArray, List.set_cons_zero, List.set_cons_succ]
        refine wpFam_ready (rs := [10]) (by kernel_rfl) (by simp) ?_
        refine AllReadyF.cons (i := 10) rfl (fun K hK => ?_) ?_
        ·
          refine step_append_lies _ (by rfl) (.tmp 57) (.tmp 59) 64 (by rfl) W0.heap.size 3 j0 (.int .i64 0) 1 8 Tryz.underlying64 Hj0I.out Hj00.out Hj01.out Hj02.out (by rfl) (by decide) v1 n (atsC D.loose) (by rfl) (by first | exact HO1.out.alloc _ | exact HO1.out) _ 1 1 [.int .i64 (i : Int)] (by rfl) (by rfl) (by first | exact World.news_of_block (heap_alloc_new _ _) | exact World.news_of_block ((HG1.out.block _ (by simp) (fun e => by cases e)).trans (heap_alloc_new _ _))) (by simp [Value.oneCell']) (by decide) (by unfold maxLen; omega) (by omega) (by first | exact HB.out.size | (have := HB.out.size; simp <;> omega)) _ rfl ?_
          intro g1 cap1 w2 ho hg ha hlt
          have HG2 := Lib.hid hg
          have HO2 := Lib.hid ho
          have HA2 := Lib.hid ha
          replace HB := Lib.hid ((show Below W0.heap.size W0 _ from (by first | exact HB.out | exact HB.out.alloc HB.out.size _)).grown hg (by first | exact HB.out.size | (have := HB.out.size; simp <;> omega)) (fun k hk => (HO1.out.lt k hk).1))
          clear ho hg ha hlt
          try change K (Act.put _ (some 60) _) _
          refine hK.out _ _ ?_ ?_
          · ((intro q _ _; first | exact HKQ.out _ HB.out q | exact HKQ.out _ (HB.out.alloc HB.out.size _) q))
          clear hK K
          try simp only [Act.put, List.setIfInBounds_toArray, List.set_cons_zero, List.set_cons_succ]
          refine wpFam_ready (rs := [15]) (by kernel_rfl) (by simp) ?_
          refine AllReadyF.cons (i := 15) rfl (fun K hK => ?_) ?_
          ·
            refine step_append_any _ (by rfl) (.const (.slice none 0 0)) (.tmp 64) 26 (by rfl) W0.heap.size 9 s0 (.string ⟨#[]⟩) 1 16 Tryz.underlying26 Hs0I.out Hs00.out Hs01.out Hs02.out (by rfl) (by decide) (.slice none 0 0) 0 [] (by rfl) (World.ownsRow_nil _ _ _ _) W0.heap.size a2 n k2 (bsC D.loose) (by rfl) (HRB.out.below (by first | exact HB.out | exact HB.out.alloc HB.out.size _)) (one_bsC _) (by unfold maxLen; omega) (by omega) (by first | exact HB.out.size | (have := HB.out.size; simp <;> omega)) ?_
            intro v3 w3 ho hg ha
            rw [Nat.zero_add, List.nil_append] at ho
            have HG3 := Lib.hid hg
            have HO3 := Lib.hid ho
            replace HB := Lib.hid (Below.trans (by first | exact HB.out | exact HB.out.alloc HB.out.size _) (grown_none hg (by first | exact HB.out.size | (have := HB.out.size; simp <;> omega))))
            clear ho hg ha
            replace HO2 := Lib.hid (own_same HO2.out (fun k hk => HG3.out.block k (HO2.out.lt k hk).2 (fun e => by cases e)))
            try change K (Act.put _ (some 65) _) _
            refine hK.out _ _ ?_ ?_
            · ((intro q _ _; first | exact HKQ.out _ HB.out q | exact HKQ.out _ (HB.out.alloc HB.out.size _) q))
            clear hK K
            try simp only [Act.put, List.setIfInBounds_toArray, List.set_cons_zero, List.set_cons_succ]
            refine wpFam_ready (rs := [17]) (by kernel_rfl) (by simp) ?_
            refine AllReadyF.cons (i := 17) rfl (fun K hK => ?_) ?_
            ·
              refine step_call Tryz.func56 (by kernel_rfl) rfl #[.string b] rfl rfl (by first | rfl | (simp [Act.eval, Act.put]; done)) ?_
              refine (cf.out _).mono ?_
              rintro e w4 ⟨rfl, hb⟩
              refine ⟨_, rfl, ?_⟩
              have HLE := Lib.hid HB.out.size
              replace HB := Lib.hid (HB.out.trans (hb.mono HLE.out))
              replace HO2 := Lib.hid (own_same HO2.out (fun k hk => hb.block k (HO2.out.lt k hk).2))
              replace HO3 := Lib.hid (own_same HO3.out (fun k hk => hb.block k (HO3.out.lt k hk).2))
              clear hb HLE
              try change K (Act.put _ (some 67) _) _
              refine hK.out _ _ ?_ ?_
              · ((intro q _ _; first | exact HKQ.out _ HB.out q | exact HKQ.out _ (HB.out.alloc HB.out.size _) q))
              clear hK K
              try simp only [Act.put, List.setIfInBounds_toArray, List.set_cons_zero, List.set_cons_succ]
              refine wpFam_ready (rs := [18]) (by kernel_rfl) (by simp) ?_
              refine AllReadyF.cons (i := 18) rfl (fun K hK => ?_) ?_
              ·
                go_simp
                try change K (Act.put _ (some 68) _) _
                refine hK.out _ _ ?_ ?_
                · ((intro q _ _; first | exact HKQ.out _ HB.out q | exact HKQ.out _ (HB.out.alloc HB.out.size _) q))
                clear hK K
                try simp only [Act.put, List.setIfInBounds_toArray, List.set_cons_zero, List.set_cons_succ]
                refine wpFam_ready (rs := [19]) (by kernel_rfl) (by simp) ?_
                refine AllReadyF.cons (i := 19) rfl (fun K hK => ?_) ?_
                ·
                  refine step_append_lies _ (by rfl) (.tmp 65) (.tmp 68) 26 (by rfl) W0.heap.size 9 s0 (.string ⟨#[]⟩) 1 16 Tryz.underlying26 Hs0I.out Hs00.out Hs01.out Hs02.out (by rfl) (by decide) v3 n (bsC D.loose) (by rfl) (HO3.out.alloc _) _ 1 1 [.string (fillB b)] (by rfl) (by rfl) (World.news_of_block (heap_alloc_new _ _)) (by simp [Value.oneCell']) (by decide) (by unfold maxLen; omega) (by omega) (by first | exact HB.out.size | (have := HB.out.size; simp <;> omega)) _ rfl ?_
                  intro g2 cap2 w5 ho hg ha hlt
                  have HG4 := Lib.hid hg
                  have HO4 := Lib.hid ho
                  have HA4 := Lib.hid ha
                  replace HB := Lib.hid ((show Below W0.heap.size W0 _ from (by first | exact HB.out | exact HB.out.alloc HB.out.size _)).grown hg (by first | exact HB.out.size | (have := HB.out.size; simp <;> omega)) (fun k hk => (HO3.out.lt k hk).1))
                  clear ho hg ha hlt
                  replace HO2 := Lib.hid (own_same (HO2.out.alloc _) (fun k hk => HG4.out.block k ((HO2.out.alloc _).lt k hk).2 (own_own_ne HO2.out HO3.out (by decide) k hk)))
                  try change K (Act.put _ (some 69) _) _
                  refine hK.out _ _ ?_ ?_
                  · ((intro q _ _; first | exact HKQ.out _ HB.out q | exact HKQ.out _ (HB.out.alloc HB.out.size _) q))
                  clear hK K
                  try simp only [Act.put, List.setIfInBounds_toArray, List.set_cons_zero, List.set_cons_succ]
                  refine wpFam_take (i := 25) 0 (some 75) (v := ?_) rfl (by kernel_rfl) (by kernel_rfl) (by kernel_rfl) (by kernel_rfl) (by kernel_rfl) (fun _ _ _ h => h) rfl (Or.inl ⟨by rfl, ?_⟩) (by exact trivial) ?_
                  rotate_left
                  · (intro w hSw; (try simp only [rS] at hSw); go_simp); (try with_reducible rfl)
                  try simp only [Act.put, List.setIfInBounds_toArray, List.set_cons_zero, List.set_cons_succ]
                  refine wpFam_take (i := 26) 0 (some 76) (v := ?_) rfl (by kernel_rfl) (by kernel_rfl) (by kernel_rfl) (by kernel_rfl) (by kernel_rfl) (fun _ _ _ h => h) rfl (Or.inl ⟨by rfl, ?_⟩) (by exact trivial) ?_
                  rotate_left
                  · (intro w hSw; (try simp only [rS] at hSw); go_simp); (try with_reducible rfl)
                  try simp only [Act.put, List.setIfInBounds_toArray, List.set_cons_zero, List.set_cons_succ]
                  refine wpFam_ready (rs := [27]) (by kernel_rfl) (by simp) ?_
                  refine AllReadyF.cons (i := 27) rfl (fun K hK => ?_) ?_
                  ·
                    have hk := HK.out _ HB.out
                    have fr1 := (HB.out.frozen (p := ⟨p, 1, none⟩) HLP.out).trans (HFR.out 1)
                    have fr2 := (HB.out.frozen (p := ⟨p, 2, none⟩) HLP.out).trans (HFR.out 2)
                    have fr3 := (HB.out.frozen (p := ⟨p, 3, none⟩) HLP.out).trans (HFR.out 3)
                    obtain ⟨ck1, ck2, ck3⟩ := hk
                    go_simp
                    refine hK.out _ _ ?_ ?_
                    · ((exact fun q hq hs => rS_store (q := q) (o := 1) rfl (fun e => hq (by subst e; decide)) hs))
                    clear hK K
                    try simp only [Act.put, List.setIfInBounds_toArray, List.set_cons_zero, List.set_cons_succ]
                    refine wpFam_take (i := 28) 0 (some 77) (v := ?_) rfl (by kernel_rfl) (by kernel_rfl) (by kernel_rfl) (by kernel_rfl) (by kernel_rfl) (fun _ _ _ h => h) rfl (Or.inl ⟨by rfl, ?_⟩) (by exact trivial) ?_
                    rotate_left
                    · (intro w hSw; (try simp only [rS] at hSw); go_simp); (try with_reducible rfl)
                    try simp only [Act.put, List.setIfInBounds_toArray, List.set_cons_zero, List.set_cons_succ]
                    refine wpFam_take (i := 29) 0 (some 78) (v := ?_) rfl (by kernel_rfl) (by kernel_rfl) (by kernel_rfl) (by kernel_rfl) (by kernel_rfl) (fun _ _ _ h => h) rfl (Or.inl ⟨by rfl, ?_⟩) (by exact trivial) ?_
                    rotate_left
                    · (intro w hSw; (try simp only [rS] at hSw); go_simp); (try with_reducible rfl)
                    try simp only [Act.put, List.setIfInBounds_toArray, List.set_cons_zero, List.set_cons_succ]
                    refine wpFam_ready (rs := [30]) (by kernel_rfl) (by simp) ?_
                    refine AllReadyF.cons (i := 30) rfl (fun K hK => ?_) ?_
                    ·
                      go_simp
                      refine hK.out _ _ ?_ ?_
                      · ((exact fun q hq hs => rS_store (q := q) (o := 2) rfl (fun e => hq (by subst e; decide)) hs))
                      clear hK K
                      try simp only [Act.put, List.setIfInBounds_toArray, List.set_cons_zero, List.set_cons_succ]
                      refine wpFam_take (i := 31) 0 (some 79) (v := ?_) rfl (by kernel_rfl) (by kernel_rfl) (by kernel_rfl) (by kernel_rfl) (by kernel_rfl) (fun _ _ _ h => h) rfl (Or.inl ⟨by rfl, ?_⟩) (by exact trivial) ?_
                      rotate_left
                      · (intro w hSw; (try simp only [rS] at hSw); go_simp); (try with_reducible rfl)
                      try simp only [Act.put, List.setIfInBounds_toArray, List.set_cons_zero, List.set_cons_succ]
                      refine wpFam_take (i := 32) 0 (some 80) (v := ?_) rfl (by kernel_rfl) (by kernel_rfl) (by kernel_rfl) (by kernel_rfl) (by kernel_rfl) (fun _ _ _ h => h) rfl (Or.inl ⟨by rfl, ?_⟩) (by exact trivial) ?_
                      rotate_left
                      · (intro w hSw; (try simp only [rS] at hSw); go_simp); (try with_reducible rfl)
                      try simp only [Act.put, List.setIfInBounds_toArray, List.set_cons_zero, List.set_cons_succ]
                      refine wpFam_ready (rs := [33]) (by kernel_rfl) (by simp) ?_
                      refine AllReadyF.cons (i := 33) rfl (fun K hK => ?_) ?_
                      ·
                        go_simp
                        refine hK.out _ _ ?_ ?_
                        · ((exact fun q hq hs => rS_store (q := q) (o := 3) rfl (fun e => hq (by subst e; decide)) hs))
                        clear hK K
                        try simp only [Act.put, List.setIfInBounds_toArray, List.set_cons_zero, List.set_cons_succ]
                        refine wpFam_done (by kernel_rfl) ?_ _
                        go_wp2
                        go_ret
                        have hc := rput_close HS0.out HD0.out HB.out HO2.out HO4.out HF.out HOK3.out
                        rw [← HPUT.out] at hc
                        exact ⟨rfl, hc⟩
                      exact AllReadyF.nil
                    exact AllReadyF.nil
                  exact AllReadyF.nil
                exact AllReadyF.nil
              exact AllReadyF.nil
            exact AllReadyF.nil
          exact AllReadyF.nil
        exact AllReadyF.nil
      exact AllReadyF.nil
    refine AllReadyF.cons (i := 9) rfl (fun K hK => ?_) ?_
    ·
      go_simp
      try change K (Act.put _ (some 59) _) _
      refine hK.out _ _ ?_ ?_
      · ((intro q _ _; first | exact HKQ.out _ HB.out q | exact HKQ.out _ (HB.out.alloc HB.out.size _) q))
      clear hK K
      try simp only [Act.put, List.setIfInBounds_toArray, List.set_cons_zero, List.set_cons_succ]
      refine wpFam_ready (rs := [7]) (by kernel_rfl) (by simp) ?_
      refine AllReadyF.cons (i := 7) rfl (fun K hK => ?_) ?_
      ·
        refine step_append_any _ (by rfl) (.const (.slice none 0 0)) (.tmp 56) 64 (by rfl) W0.heap.size 3 j0 (.int .i64 0) 1 8 Tryz.underlying64 Hj0I.out Hj00.out Hj01.out Hj02.out (by rfl) (by decide) (.slice none 0 0) 0 [] (by rfl) (World.ownsRow_nil _ _ _ _) W0.heap.size a1 n k1 (atsC D.loose) (by rfl) (HRA.out.below (by first | exact HB.out | exact HB.out.alloc HB.out.size _)) (one_atsC _) (by unfold maxLen; omega) (by omega) (by first | exact HB.out.size | (have := HB.out.size; simp <;> omega)) ?_
        intro v1 w1 ho hg ha
        rw [Nat.zero_add, List.nil_append] at ho
        have HG1 := Lib.hid hg
        have HO1 := Lib.hid ho
        replace HB := Lib.hid (Below.trans (by first | exact HB.out | exact HB.out.alloc HB.out.size _) (grown_none hg (by first | exact HB.out.size | (have := HB.out.size; simp <;> omega))))
        clear ho hg ha
        try change K (Act.put _ (some 57) _) _
        refine hK.out _ _ ?_ ?_
        · ((intro q _ _; first | exact HKQ.out _ HB.out q | exact HKQ.out _ (HB.out.alloc HB.out.size _) q))
        clear hK K
        try simp only [Act.put, List.setIfInBounds_toArray, List.set_cons_zero, List.set_cons_succ]
        refine wpFam_ready (rs := [10]) (by kernel_rfl) (by simp) ?_
        refine AllReadyF.cons (i := 10) rfl (fun K hK => ?_) ?_
        ·
          refine step_append_lies _ (by rfl) (.tmp 57) (.tmp 59) 64 (by rfl) W0.heap.size 3 j0 (.int .i64 0) 1 8 Tryz.underlying64 Hj0I.out Hj00.out Hj01.out Hj02.out (by rfl) (by decide) v1 n (atsC D.loose) (by rfl) (by first | exact HO1.out.alloc _ | exact HO1.out) _ 1 1 [.int .i64 (i : Int)] (by rfl) (by rfl) (by first | exact World.news_of_block (heap_alloc_new _ _) | exact World.news_of_block ((HG1.out.block _ (by simp) (fun e => by cases e)).trans (heap_alloc_new _ _))) (by simp [Value.oneCell']) (by decide) (by unfold maxLen; omega) (by omega) (by first | exact HB.out.size | (have := HB.out.size; simp <;> omega)) _ rfl ?_
          intro g1 cap1 w2 ho hg ha hlt
          have HG2 := Lib.hid hg
          have HO2 := Lib.hid ho
          have HA2 := Lib.hid ha
          replace HB := Lib.hid ((show Below W0.heap.size W0 _ from (by first | exact HB.out | exact HB.out.alloc HB.out.size _)).grown hg (by first | exact HB.out.size | (have := HB.out.size; simp <;> omega)) (fun k hk => (HO1.out.lt k hk).1))
          clear ho hg ha hlt
          try change K (Act.put _ (some 60) _) _
          refine hK.out _ _ ?_ ?_
          · ((intro q _ _; first | exact HKQ.out _ HB.out q | exact HKQ.out _ (HB.out.alloc HB.out.size _) q))
          clear hK K
          try simp only [Act.put, List.setIfInBounds_toArray, List.set_cons_zero, List.set_cons_succ]
          refine wpFam_ready (rs := [15]) (by kernel_rfl) (by simp) ?_
          refine AllReadyF.cons (i := 15) rfl (fun K hK => ?_) ?_
          ·
            refine step_append_any _ (by rfl) (.const (.slice none 0 0)) (.tmp 64) 26 (by rfl) W0.heap.size 9 s0 (.string ⟨#[]⟩) 1 16 Tryz.underlying26 Hs0I.out Hs00.out Hs01.out Hs02.out (by rfl) (by decide) (.slice none 0 0) 0 [] (by rfl) (World.ownsRow_nil _ _ _ _) W0.heap.size a2 n k2 (bsC D.loose) (by rfl) (HRB.out.below (by first | exact HB.out | exact HB.out.alloc HB.out.size _)) (one_bsC _) (by unfold maxLen; omega) (by omega) (by first | exact HB.out.size | (have := HB.out.size; simp <;> omega)) ?_
            intro v3 w3 ho hg ha
            rw [Nat.zero_add, List.nil_append] at ho
            have HG3 := Lib.hid hg
            have HO3 := Lib.hid ho
            replace HB := Lib.hid (Below.trans (by first | exact HB.out | exact HB.out.alloc HB.out.size _) (grown_none hg (by first | exact HB.out.size | (have := HB.out.size; simp <;> omega))))
            clear ho hg ha
            replace HO2 := Lib.hid (own_same HO2.out (fun k hk => HG3.out.block k (HO2.out.lt k hk).2 (fun e => by cases e)))
            try change K (Act.put _ (some 65) _) _
            refine hK.out _ _ ?_ ?_
            · ((intro q _ _; first | exact HKQ.out _ HB.out q | exact HKQ.out _ (HB.out.alloc HB.out.size _) q))
            clear hK K
            try simp only [Act.put, List.setIfInBounds_toArray, List.set_cons_zero, List.set_cons_succ]
            refine wpFam_ready (rs := [17]) (by kernel_rfl) (by simp) ?_
            refine AllReadyF.cons (i := 17) rfl (fun K hK => ?_) ?_
            ·
              refine step_call Tryz.func56 (by kernel_rfl) rfl #[.string b] rfl rfl (by first | rfl | (simp [Act.eval, Act.put]; done)) ?_
              refine (cf.out _).mono ?_
              rintro e w4 ⟨rfl, hb⟩
              refine ⟨_, rfl, ?_⟩
              have HLE := Lib.hid HB.out.size
              replace HB := Lib.hid (HB.out.trans (hb.mono HLE.out))
              replace HO2 := Lib.hid (own_same HO2.out (fun k hk => hb.block k (HO2.out.lt k hk).2))
              replace HO3 := Lib.hid (own_same HO3.out (fun k hk => hb.block k (HO3.out.lt k hk).2))
              clear hb HLE
              try change K (Act.put _ (some 67) _) _
              refine hK.out _ _ ?_ ?_
              · ((intro q _ _; first | exact HKQ.out _ HB.out q | exact HKQ.out _ (HB.out.alloc HB.out.size _) q))
              clear hK K
              try simp only [Act.put, List.setIfInBounds_toArray, List.set_cons_zero, List.set_cons_succ]
              refine wpFam_ready (rs := [18]) (by kernel_rfl) (by simp) ?_
              refine AllReadyF.cons (i := 18) rfl (fun K hK => ?_) ?_
              ·
                go_simp
                try change K (Act.put _ (some 68) _) _
                refine hK.out _ _ ?_ ?_
                · ((intro q _ _; first | exact HKQ.out _ HB.out q | exact HKQ.out _ (HB.out.alloc HB.out.size _) q))
                clear hK K
                try simp only [Act.put, List.setIfInBounds_toArray, List.set_cons_zero, List.set_cons_succ]
                refine wpFam_ready (rs := [19]) (by kernel_rfl) (by simp) ?_
                refine AllReadyF.cons (i := 19) rfl (fun K hK => ?_) ?_
                ·
                  refine step_append_lies _ (by rfl) (.tmp 65) (.tmp 68) 26 (by rfl) W0.heap.size 9 s0 (.string ⟨#[]⟩) 1 16 Tryz.underlying26 Hs0I.out Hs00.out Hs01.out Hs02.out (by rfl) (by decide) v3 n (bsC D.loose) (by rfl) (HO3.out.alloc _) _ 1 1 [.string (fillB b)] (by rfl) (by rfl) (World.news_of_block (heap_alloc_new _ _)) (by simp [Value.oneCell']) (by decide) (by unfold maxLen; omega) (by omega) (by first | exact HB.out.size | (have := HB.out.size; simp <;> omega)) _ rfl ?_
                  intro g2 cap2 w5 ho hg ha hlt
                  have HG4 := Lib.hid hg
                  have HO4 := Lib.hid ho
                  have HA4 := Lib.hid ha
                  replace HB := Lib.hid ((show Below W0.heap.size W0 _ from (by first | exact HB.out | exact HB.out.alloc HB.out.size _)).grown hg (by first | exact HB.out.size | (have := HB.out.size; simp <;> omega)) (fun k hk => (HO3.out.lt k hk).1))
                  clear ho hg ha hlt
                  replace HO2 := Lib.hid (own_same (HO2.out.alloc _) (fun k hk => HG4.out.block k ((HO2.out.alloc _).lt k hk).2 (own_own_ne HO2.out HO3.out (by decide) k hk)))
                  try change K (Act.put _ (some 69) _) _
                  refine hK.out _ _ ?_ ?_
                  · ((intro q _ _; first | exact HKQ.out _ HB.out q | exact HKQ.out _ (HB.out.alloc HB.out.size _) q))
                  clear hK K
                  try simp only [Act.put, List.setIfInBounds_toArray, List.set_cons_zero, List.set_cons_succ]
                  refine wpFam_take (i := 25) 0 (some 75) (v := ?_) rfl (by kernel_rfl) (by kernel_rfl) (by kernel_rfl) (by kernel_rfl) (by kernel_rfl) (fun _ _ _ h => h) rfl (Or.inl ⟨by rfl, ?_⟩) (by exact trivial) ?_
                  rotate_left
                  · (intro w hSw; (try simp only [rS] at hSw); go_simp); (try with_reducible rfl)
                  try simp only [Act.put, List.setIfInBounds_toArray, List.set_cons_zero, List.set_cons_succ]
                  refine wpFam_take (i := 26) 0 (some 76) (v := ?_) rfl (by kernel_rfl) (by kernel_rfl) (by kernel_rfl) (by kernel_rfl) (by kernel_rfl) (fun _ _ _ h => h) rfl (Or.inl ⟨by rfl, ?_⟩) (by exact trivial) ?_
                  rotate_left
                  · (intro w hSw; (try simp only [rS] at hSw); go_simp); (try with_reducible rfl)
                  try simp only [Act.put, List.setIfInBounds_toArray, List.set_cons_zero, List.set_cons_succ]
                  refine wpFam_ready (rs := [27]) (by kernel_rfl) (by simp) ?_
                  refine AllReadyF.cons (i := 27) rfl (fun K hK => ?_) ?_
                  ·
                    have hk := HK.out _ HB.out
                    have fr1 := (HB.out.frozen (p := ⟨p, 1, none⟩) HLP.out).trans (HFR.out 1)
                    have fr2 := (HB.out.frozen (p := ⟨p, 2, none⟩) HLP.out).trans (HFR.out 2)
                    have fr3 := (HB.out.frozen (p := ⟨p, 3, none⟩) HLP.out).trans (HFR.out 3)
                    obtain ⟨ck1, ck2, ck3⟩ := hk
                    go_simp
                    refine hK.out _ _ ?_ ?_
                    · ((exact fun q hq hs => rS_store (q := q) (o := 1) rfl (fun e => hq (by subst e; decide)) hs))
                    clear hK K
                    try simp only [Act.put, List.setIfInBounds_toArray, List.set_cons_zero, List.set_cons_succ]
                    refine wpFam_take (i := 28) 0 (some 77) (v := ?_) rfl (by kernel_rfl) (by kernel_rfl) (by kernel_rfl) (by kernel_rfl) (by kernel_rfl) (fun _ _ _ h => h) rfl (Or.inl ⟨by rfl, ?_⟩) (by exact trivial) ?_
                    rotate_left
                    · (intro w hSw; (try simp only [rS] at hSw); go_simp); (try with_reducible rfl)
                    try simp only [Act.put, List.setIfInBounds_toArray, List.set_cons_zero, List.set_cons_succ]
                    refine wpFam_take (i := 29) 0 (some 78) (v := ?_) rfl (by kernel_rfl) (by kernel_rfl) (by kernel_rfl) (by kernel_rfl) (by kernel_rfl) (fun _ _ _ h => h) rfl (Or.inl ⟨by rfl, ?_⟩) (by exact trivial) ?_
                    rotate_left
                    · (intro w hSw; (try simp only [rS] at hSw); go_simp); (try with_reducible rfl)
                    try simp only [Act.put, List.setIfInBounds_toArray, List.set_cons_zero, List.set_cons_succ]
                    refine wpFam_ready (rs := [30]) (by kernel_rfl) (by simp) ?_
                    refine AllReadyF.cons (i := 30) rfl (fun K hK => ?_) ?_
                    ·
                      go_simp
                      refine hK.out _ _ ?_ ?_
                      · ((exact fun q hq hs => rS_store (q := q) (o := 2) rfl (fun e => hq (by subst e; decide)) hs))
                      clear hK K
                      try simp only [Act.put, List.setIfInBounds_toArray, List.set_cons_zero, List.set_cons_succ]
                      refine wpFam_take (i := 31) 0 (some 79) (v := ?_) rfl (by kernel_rfl) (by kernel_rfl) (by kernel_rfl) (by kernel_rfl) (by kernel_rfl) (fun _ _ _ h => h) rfl (Or.inl ⟨by rfl, ?_⟩) (by exact trivial) ?_
                      rotate_left
                      · (intro w hSw; (try simp only [rS] at hSw); go_simp); (try with_reducible rfl)
                      try simp only [Act.put, List.setIfInBounds_toArray, List.set_cons_zero, List.set_cons_succ]
                      refine wpFam_take (i := 32) 0 (some 80) (v := ?_) rfl (by kernel_rfl) (by kernel_rfl) (by kernel_rfl) (by kernel_rfl) (by kernel_rfl) (fun _ _ _ h => h) rfl (Or.inl ⟨by rfl, ?_⟩) (by exact trivial) ?_
                      rotate_left
                      · (intro w hSw; (try simp only [rS] at hSw); go_simp); (try with_reducible rfl)
                      try simp only [Act.put, List.setIfInBounds_toArray, List.set_cons_zero, List.set_cons_succ]
                      refine wpFam_ready (rs := [33]) (by kernel_rfl) (by simp) ?_
                      refine AllReadyF.cons (i := 33) rfl (fun K hK => ?_) ?_
                      ·
                        go_simp
                        refine hK.out _ _ ?_ ?_
                        · ((exact fun q hq hs => rS_store (q := q) (o := 3) rfl (fun e => hq (by subst e; decide)) hs))
                        clear hK K
                        try simp only [Act.put, List.setIfInBounds_toArray, List.set_cons_zero, List.set_cons_succ]
                        refine wpFam_done (by kernel_rfl) ?_ _
                        go_wp2
                        go_ret
                        have hc := rput_close HS0.out HD0.out HB.out HO2.out HO4.out HF.out HOK3.out
                        rw [← HPUT.out] at hc
                        exact ⟨rfl, hc⟩
                      exact AllReadyF.nil
                    exact AllReadyF.nil
                  exact AllReadyF.nil
                exact AllReadyF.nil
              exact AllReadyF.nil
            exact AllReadyF.nil
          exact AllReadyF.nil
        exact AllReadyF.nil
      exact AllReadyF.nil
    exact AllReadyF.nil
  · have t4 : decide (0 < l) = false := decide_eq_false hl1
    have HPUT : Hid (D.put i b = { D with left := l, done := d + 1, loose := D.loose ++ [(i, fillB b)] }) := by
      have h1 := HLL.out
      have h2 := HDD.out
      subst h1 h2
      unfold DS.put
      rw [if_neg hl1]
      exact rfl
    have HOK3 : Hid (n = D.loose.length ∧ DS.ok { D with left := l, done := d + 1, loose := D.loose ++ [(i, fillB b)] }) := by
      have := HOK.out
      rw [HPUT.out] at this
      exact ⟨HN.out, this⟩
    go_enter Tryz.func58, Tryz.ntmps58
    go_wp2
    have HS0 : Save F w w := Save.refl _ _
    have HD0 : RefAt w p sv av bv { D with left := l } := by
      have h1 := HLL.out
      subst h1
      exact HD.out
    obtain ⟨W0, hW0⟩ : ∃ W0, W0 = w := ⟨_, rfl⟩
    rw [← hW0] at HD0
    have HS0 : Save F w W0 := by rw [hW0]; exact Save.refl _ _
    rw [← hW0]
    clear hW0
    have hlp := HD0.own.lt
    have hcc := HD0.cells
    have HLP := Lib.hid hlp
    have HFR := Lib.hid hcc.2.2.2.2.2.2
    have hK : ∀ w', Below W0.heap.size W0 w' → w'.cell? ⟨p, 1, none⟩ = some (.slice a1 n k1) ∧ w'.cell? ⟨p, 2, none⟩ = some (.slice a2 n k2) ∧ w'.cell? ⟨p, 3, none⟩ = some (.int .i64 (d : Int)) := fun w' hb => by
      rw [← HEA.out, ← HEB.out, HDD.out]
      exact ⟨(hb.cell (p := ⟨p, 1, none⟩) hlp).trans hcc.2.1, (hb.cell (p := ⟨p, 2, none⟩) hlp).trans hcc.2.2.1, (hb.cell (p := ⟨p, 3, none⟩) hlp).trans hcc.2.2.2.1⟩
    have HK := Lib.hid hK
    have hKQ : ∀ w', Below W0.heap.size W0 w' → ∀ q, rS p a1 a2 n k1 k2 d q w' := fun w' hb q => by
      obtain ⟨x1, x2, x3⟩ := hK w' hb
      match q with
      | 0 => exact trivial
      | 1 => exact x1
      | 2 => exact x2
      | 3 => exact x3
      | _ + 4 => exact trivial
    have HKQ := Lib.hid hKQ
    have hra : Reads W0 W0.heap.size 1 a1 n (atsC D.loose) := by
      have := HD0.a
      rw [HEA.out] at this
      change W0.ownsRow 0 _ 1 _ D.loose.length _ at this
      rw [← HN.out] at this
      exact Reads.of_own this
    have hrb : Reads W0 W0.heap.size 1 a2 n (bsC D.loose) := by
      have := HD0.b
      rw [HEB.out] at this
      change W0.ownsRow 0 _ 1 _ D.loose.length _ at this
      rw [← HN.out] at this
      exact Reads.of_own this
    have HRA := Lib.hid hra
    have HRB := Lib.hid hrb
    replace HS0 := Lib.hid HS0
    replace HD0 := Lib.hid HD0
    have HB : Hid (Below W0.heap.size W0 W0.drew) := Lib.hid ⟨rfl, rfl, rfl, Nat.le_refl _, fun _ _ => rfl⟩
    clear hK hKQ hlp hcc hra hrb
    refine wp_region_fam (S := (rS p a1 a2 n k1 k2 d)) (ds := rD) (by kernel_rfl) ?_
    refine wpFam_take (i := 0) 0 (some 50) (v := ?_) rfl (by kernel_rfl) (by kernel_rfl) (by kernel_rfl) (by kernel_rfl) (by kernel_rfl) (fun _ _ _ h => h) rfl (Or.inl ⟨by rfl, ?_⟩) (by exact trivial) ?_
    rotate_left
    · (intro w hSw; (try simp only [rS] at hSw); go_simp); (try with_reducible rfl)
    try simp only [Act.put, List.setIfInBounds_toArray, List.set_cons_zero, List.set_cons_succ]
    refine wpFam_take (i := 1) 0 (some 51) (v := ?_) rfl (by kernel_rfl) (by kernel_rfl) (by kernel_rfl) (by kernel_rfl) (by kernel_rfl) (fun _ _ _ h => h) rfl (Or.inl ⟨by rfl, ?_⟩) (by exact trivial) ?_
    rotate_left
    · (intro w hSw; (try simp only [rS] at hSw); go_simp); (try with_reducible rfl)
    try simp only [Act.put, List.setIfInBounds_toArray, List.set_cons_zero, List.set_cons_succ]
    refine wpFam_take (i := 2) 0 (some 52) (v := ?_) rfl (by kernel_rfl) (by kernel_rfl) (by kernel_rfl) (by kernel_rfl) (by kernel_rfl) (fun _ _ _ h => h) rfl (Or.inl ⟨by rfl, ?_⟩) (by exact trivial) ?_
    rotate_left
    · (intro w hSw; (try simp only [rS] at hSw); go_simp); (try with_reducible rfl)
    try simp only [Act.put, List.setIfInBounds_toArray, List.set_cons_zero, List.set_cons_succ]
    refine wpFam_take (i := 3) 0 (some 53) (v := ?_) rfl (by kernel_rfl) (by kernel_rfl) (by kernel_rfl) (by kernel_rfl) (by kernel_rfl) (fun _ _ _ h => h) rfl (Or.inl ⟨by rfl, ?_⟩) (by exact trivial) ?_
    rotate_left
    · (intro w hSw; (try simp only [rS] at hSw); go_simp); (try with_reducible rfl)
    try simp only [Act.put, List.setIfInBounds_toArray, List.set_cons_zero, List.set_cons_succ]
    refine wpFam_take (i := 4) 0 (some 54) (v := ?_) rfl (by kernel_rfl) (by kernel_rfl) (by kernel_rfl) (by kernel_rfl) (by kernel_rfl) (fun _ _ _ h => h) rfl (Or.inl ⟨by rfl, ?_⟩) (by exact trivial) ?_
    rotate_left
    · (intro w hSw; (try simp only [rS] at hSw); go_simp); (try with_reducible rfl)
    try simp only [Act.put, List.setIfInBounds_toArray, List.set_cons_zero, List.set_cons_succ]
    refine wpFam_take (i := 5) 0 (some 55) (v := ?_) rfl (by kernel_rfl) (by kernel_rfl) (by kernel_rfl) (by kernel_rfl) (by kernel_rfl) (fun _ _ _ h => h) rfl (Or.inl ⟨by rfl, ?_⟩) (by exact trivial) ?_
    rotate_left
    · (intro w hSw; (try simp only [rS] at hSw); go_simp); (try with_reducible rfl)
    try simp only [Act.put, List.setIfInBounds_toArray, List.set_cons_zero, List.set_cons_succ]
    refine wpFam_take (i := 6) 1 (some 56) (v := ?_) rfl (by kernel_rfl) (by kernel_rfl) (by kernel_rfl) (by kernel_rfl) (by kernel_rfl) (fun _ _ _ h => h) rfl (Or.inl ⟨by rfl, ?_⟩) (by exact HKQ.out _ HB.out 1) ?_
    rotate_left
    · (intro w hSw; (try simp only [rS] at hSw); go_simp); (try with_reducible rfl)
    try simp only [Act.put, List.setIfInBounds_toArray, List.set_cons_zero, List.set_cons_succ]
    refine wpFam_take (i := 8) 0 (some 58) (v := ?_) rfl (by kernel_rfl) (by kernel_rfl) (by kernel_rfl) (by kernel_rfl) (by kernel_rfl) (fun _ _ _ h => h) rfl (Or.inl ⟨by rfl, ?_⟩) (by exact trivial) ?_
    rotate_left
    · (intro w hSw; (try simp only [rS] at hSw); go_simp); (try with_reducible rfl)
    try simp only [Act.put, List.setIfInBounds_toArray, List.set_cons_zero, List.set_cons_succ]
    refine wpFam_take (i := 11) 0 (some 61) (v := ?_) rfl (by kernel_rfl) (by kernel_rfl) (by kernel_rfl) (by kernel_rfl) (by kernel_rfl) (fun _ _ _ h => h) rfl (Or.inl ⟨by rfl, ?_⟩) (by exact trivial) ?_
    rotate_left
    · (intro w hSw; (try simp only [rS] at hSw); go_simp); (try with_reducible rfl)
    try simp only [Act.put, List.setIfInBounds_toArray, List.set_cons_zero, List.set_cons_succ]
    refine wpFam_take (i := 12) 0 (some 62) (v := ?_) rfl (by kernel_rfl) (by kernel_rfl) (by kernel_rfl) (by kernel_rfl) (by kernel_rfl) (fun _ _ _ h => h) rfl (Or.inl ⟨by rfl, ?_⟩) (by exact trivial) ?_
    rotate_left
    · (intro w hSw; (try simp only [rS] at hSw); go_simp); (try with_reducible rfl)
    try simp only [Act.put, List.setIfInBounds_toArray, List.set_cons_zero, List.set_cons_succ]
    refine wpFam_take (i := 13) 0 (some 63) (v := ?_) rfl (by kernel_rfl) (by kernel_rfl) (by kernel_rfl) (by kernel_rfl) (by kernel_rfl) (fun _ _ _ h => h) rfl (Or.inl ⟨by rfl, ?_⟩) (by exact trivial) ?_
    rotate_left
    · (intro w hSw; (try simp only [rS] at hSw); go_simp); (try with_reducible rfl)
    try simp only [Act.put, List.setIfInBounds_toArray, List.set_cons_zero, List.set_cons_succ]
    refine wpFam_take (i := 14) 2 (some 64) (v := ?_) rfl (by kernel_rfl) (by kernel_rfl) (by kernel_rfl) (by kernel_rfl) (by kernel_rfl) (fun _ _ _ h => h) rfl (Or.inl ⟨by rfl, ?_⟩) (by exact HKQ.out _ HB.out 2) ?_
    rotate_left
    · (intro w hSw; (try simp only [rS] at hSw); go_simp); (try with_reducible rfl)
    try simp only [Act.put, List.setIfInBounds_toArray, List.set_cons_zero, List.set_cons_succ]
    refine wpFam_take (i := 16) 0 (some 66) (v := ?_) rfl (by kernel_rfl) (by kernel_rfl) (by kernel_rfl) (by kernel_rfl) (by kernel_rfl) (fun _ _ _ h => h) rfl (Or.inl ⟨by rfl, ?_⟩) (by exact trivial) ?_
    rotate_left
    · (intro w hSw; (try simp only [rS] at hSw); go_simp); (try with_reducible rfl)
    try simp only [Act.put, List.setIfInBounds_toArray, List.set_cons_zero, List.set_cons_succ]
    refine wpFam_take (i := 20) 0 (some 70) (v := ?_) rfl (by kernel_rfl) (by kernel_rfl) (by kernel_rfl) (by kernel_rfl) (by kernel_rfl) (fun _ _ _ h => h) rfl (Or.inl ⟨by rfl, ?_⟩) (by exact trivial) ?_
    rotate_left
    · (intro w hSw; (try simp only [rS] at hSw); go_simp); (try with_reducible rfl)
    try simp only [Act.put, List.setIfInBounds_toArray, List.set_cons_zero, List.set_cons_succ]
    refine wpFam_take (i := 21) 0 (some 71) (v := ?_) rfl (by kernel_rfl) (by kernel_rfl) (by kernel_rfl) (by kernel_rfl) (by kernel_rfl) (fun _ _ _ h => h) rfl (Or.inl ⟨by rfl, ?_⟩) (by exact trivial) ?_
    rotate_left
    · (intro w hSw; (try simp only [rS] at hSw); go_simp); (try with_reducible rfl)
    try simp only [Act.put, List.setIfInBounds_toArray, List.set_cons_zero, List.set_cons_succ]
    refine wpFam_take (i := 22) 0 (some 72) (v := ?_) rfl (by kernel_rfl) (by kernel_rfl) (by kernel_rfl) (by kernel_rfl) (by kernel_rfl) (fun _ _ _ h => h) rfl (Or.inl ⟨by rfl, ?_⟩) (by exact trivial) ?_
    rotate_left
    · (intro w hSw; (try simp only [rS] at hSw); go_simp); (try with_reducible rfl)
    try simp only [Act.put, List.setIfInBounds_toArray, List.set_cons_zero, List.set_cons_succ]
    refine wpFam_take (i := 23) 3 (some 73) (v := ?_) rfl (by kernel_rfl) (by kernel_rfl) (by kernel_rfl) (by kernel_rfl) (by kernel_rfl) (fun _ _ _ h => h) rfl (Or.inl ⟨by rfl, ?_⟩) (by exact HKQ.out _ HB.out 3) ?_
    rotate_left
    · (intro w hSw; (try simp only [rS] at hSw); go_simp); (try with_reducible rfl)
    try simp only [Act.put, List.setIfInBounds_toArray, List.set_cons_zero, List.set_cons_succ]
    refine wpFam_take (i := 24) 0 (some 74) (v := ?_) rfl (by kernel_rfl) (by kernel_rfl) (by kernel_rfl) (by kernel_rfl) (by kernel_rfl) (fun _ _ _ h => h) rfl (Or.inl ⟨by rfl, ?_⟩) (by exact trivial) ?_
    rotate_left
    · (intro w hSw; (try simp only [rS] at hSw); go_simp); (try with_reducible rfl)
    try simp only [Act.put, List.setIfInBounds_toArray, List.set_cons_zero, List.set_cons_succ]
    refine wpFam_ready (rs := [7, 9]) (by kernel_rfl) (by simp) ?_
    refine AllReadyF.cons (i := 7) rfl (fun K hK => ?_) ?_
    ·
      refine step_append_any _ (by rfl) (.const (.slice none 0 0)) (.tmp 56) 64 (by rfl) W0.heap.size 3 j0 (.int .i64 0) 1 8 Tryz.underlying64 Hj0I.out Hj00.out Hj01.out Hj02.out (by rfl) (by decide) (.slice none 0 0) 0 [] (by rfl) (World.ownsRow_nil _ _ _ _) W0.heap.size a1 n k1 (atsC D.loose) (by rfl) (HRA.out.below (by first | exact HB.out | exact HB.out.alloc HB.out.size _)) (one_atsC _) (by unfold maxLen; omega) (by omega) (by first | exact HB.out.size | (have := HB.out.size; simp <;> omega)) ?_
      intro v1 w1 ho hg ha
      rw [Nat.zero_add, List.nil_append] at ho
      have HG1 := Lib.hid hg
      have HO1 := Lib.hid ho
      replace HB := Lib.hid (Below.trans (by first | exact HB.out | exact HB.out.alloc HB.out.size _) (grown_none hg (by first | exact HB.out.size | (have := HB.out.size; simp <;> omega))))
      clear ho hg ha
      try change K (Act.put _ (some 57) _) _
      refine hK.out _ _ ?_ ?_
      · ((intro q _ _; first | exact HKQ.out _ HB.out q | exact HKQ.out _ (HB.out.alloc HB.out.size _) q))
      clear hK K
      try simp only [Act.put, List.setIfInBounds_toArray, List.set_cons_zero, List.set_cons_succ]
      refine wpFam_ready (rs := [9]) (by kernel_rfl) (by simp) ?_
      refine AllReadyF.cons (i := 9) rfl (fun K hK => ?_) ?_
      ·
        go_simp
        try change K (Act.put _ (some 59) _) _
        refine hK.out _ _ ?_ ?_
        · ((intro q _ _; first | exact HKQ.out _ HB.out q | exact HKQ.out _ (HB.out.alloc HB.out.size _) q))
        clear hK K
        try simp only [Act.put, List.setIfInBounds_toArray, List.set_cons_zero, List.set_cons_succ]
        refine wpFam_ready (rs := [10]) (by kernel_rfl) (by simp) ?_
        refine AllReadyF.cons (i := 10) rfl (fun K hK => ?_) ?_
        ·
          refine step_append_lies _ (by rfl) (.tmp 57) (.tmp 59) 64 (by rfl) W0.heap.size 3 j0 (.int .i64 0) 1 8 Tryz.underlying64 Hj0I.out Hj00.out Hj01.out Hj02.out (by rfl) (by decide) v1 n (atsC D.loose) (by rfl) (by first | exact HO1.out.alloc _ | exact HO1.out) _ 1 1 [.int .i64 (i : Int)] (by rfl) (by rfl) (by first | exact World.news_of_block (heap_alloc_new _ _) | exact World.news_of_block ((HG1.out.block _ (by simp) (fun e => by cases e)).trans (heap_alloc_new _ _))) (by simp [Value.oneCell']) (by decide) (by unfold maxLen; omega) (by omega) (by first | exact HB.out.size | (have := HB.out.size; simp <;> omega)) _ rfl ?_
          intro g1 cap1 w2 ho hg ha hlt
          have HG2 := Lib.hid hg
          have HO2 := Lib.hid ho
          have HA2 := Lib.hid ha
          replace HB := Lib.hid ((show Below W0.heap.size W0 _ from (by first | exact HB.out | exact HB.out.alloc HB.out.size _)).grown hg (by first | exact HB.out.size | (have := HB.out.size; simp <;> omega)) (fun k hk => (HO1.out.lt k hk).1))
          clear ho hg ha hlt
          try change K (Act.put _ (some 60) _) _
          refine hK.out _ _ ?_ ?_
          · ((intro q _ _; first | exact HKQ.out _ HB.out q | exact HKQ.out _ (HB.out.alloc HB.out.size _) q))
          clear hK K
          try simp only [Act.put, List.setIfInBounds_toArray, List.set_cons_zero, List.set_cons_succ]
          refine wpFam_ready (rs := [15]) (by kernel_rfl) (by simp) ?_
          refine AllReadyF.cons (i := 15) rfl (fun K hK => ?_) ?_
          ·
            refine step_append_any _ (by rfl) (.const (.slice none 0 0)) (.tmp 64) 26 (by rfl) W0.heap.size 9 s0 (.string ⟨#[]⟩) 1 16 Tryz.underlying26 Hs0I.out Hs00.out Hs01.out Hs02.out (by rfl) (by decide) (.slice none 0 0) 0 [] (by rfl) (World.ownsRow_nil _ _ _ _) W0.heap.size a2 n k2 (bsC D.loose) (by rfl) (HRB.out.below (by first | exact HB.out | exact HB.out.alloc HB.out.size _)) (one_bsC _) (by unfold maxLen; omega) (by omega) (by first | exact HB.out.size | (have := HB.out.size; simp <;> omega)) ?_
            intro v3 w3 ho hg ha
            rw [Nat.zero_add, List.nil_append] at ho
            have HG3 := Lib.hid hg
            have HO3 := Lib.hid ho
            replace HB := Lib.hid (Below.trans (by first | exact HB.out | exact HB.out.alloc HB.out.size _) (grown_none hg (by first | exact HB.out.size | (have := HB.out.size; simp <;> omega))))
            clear ho hg ha
            replace HO2 := Lib.hid (own_same HO2.out (fun k hk => HG3.out.block k (HO2.out.lt k hk).2 (fun e => by cases e)))
            try change K (Act.put _ (some 65) _) _
            refine hK.out _ _ ?_ ?_
            · ((intro q _ _; first | exact HKQ.out _ HB.out q | exact HKQ.out _ (HB.out.alloc HB.out.size _) q))
            clear hK K
            try simp only [Act.put, List.setIfInBounds_toArray, List.set_cons_zero, List.set_cons_succ]
            refine wpFam_ready (rs := [17]) (by kernel_rfl) (by simp) ?_
            refine AllReadyF.cons (i := 17) rfl (fun K hK => ?_) ?_
            ·
              refine step_call Tryz.func56 (by kernel_rfl) rfl #[.string b] rfl rfl (by first | rfl | (simp [Act.eval, Act.put]; done)) ?_
              refine (cf.out _).mono ?_
              rintro e w4 ⟨rfl, hb⟩
              refine ⟨_, rfl, ?_⟩
              have HLE := Lib.hid HB.out.size
              replace HB := Lib.hid (HB.out.trans (hb.mono HLE.out))
              replace HO2 := Lib.hid (own_same HO2.out (fun k hk => hb.block k (HO2.out.lt k hk).2))
              replace HO3 := Lib.hid (own_same HO3.out (fun k hk => hb.block k (HO3.out.lt k hk).2))
              clear hb HLE
              try change K (Act.put _ (some 67) _) _
              refine hK.out _ _ ?_ ?_
              · ((intro q _ _; first | exact HKQ.out _ HB.out q | exact HKQ.out _ (HB.out.alloc HB.out.size _) q))
              clear hK K
              try simp only [Act.put, List.setIfInBounds_toArray, List.set_cons_zero, List.set_cons_succ]
              refine wpFam_ready (rs := [18]) (by kernel_rfl) (by simp) ?_
              refine AllReadyF.cons (i := 18) rfl (fun K hK => ?_) ?_
              ·
                go_simp
                try change K (Act.put _ (some 68) _) _
                refine hK.out _ _ ?_ ?_
                · ((intro q _ _; first | exact HKQ.out _ HB.out q | exact HKQ.out _ (HB.out.alloc HB.out.size _) q))
                clear hK K
                try simp only [Act.put, List.setIfInBounds_toArray, List.set_cons_zero, List.set_cons_succ]
                refine wpFam_ready (rs := [19]) (by kernel_rfl) (by simp) ?_
                refine AllReadyF.cons (i := 19) rfl (fun K hK => ?_) ?_
                ·
                  refine step_append_lies _ (by rfl) (.tmp 65) (.tmp 68) 26 (by rfl) W0.heap.size 9 s0 (.string ⟨#[]⟩) 1 16 Tryz.underlying26 Hs0I.out Hs00.out Hs01.out Hs02.out (by rfl) (by decide) v3 n (bsC D.loose) (by rfl) (HO3.out.alloc _) _ 1 1 [.string (fillB b)] (by rfl) (by rfl) (World.news_of_block (heap_alloc_new _ _)) (by simp [Value.oneCell']) (by decide) (by unfold maxLen; omega) (by omega) (by first | exact HB.out.size | (have := HB.out.size; simp <;> omega)) _ rfl ?_
                  intro g2 cap2 w5 ho hg ha hlt
                  have HG4 := Lib.hid hg
                  have HO4 := Lib.hid ho
                  have HA4 := Lib.hid ha
                  replace HB := Lib.hid ((show Below W0.heap.size W0 _ from (by first | exact HB.out | exact HB.out.alloc HB.out.size _)).grown hg (by first | exact HB.out.size | (have := HB.out.size; simp <;> omega)) (fun k hk => (HO3.out.lt k hk).1))
                  clear ho hg ha hlt
                  replace HO2 := Lib.hid (own_same (HO2.out.alloc _) (fun k hk => HG4.out.block k ((HO2.out.alloc _).lt k hk).2 (own_own_ne HO2.out HO3.out (by decide) k hk)))
                  try change K (Act.put _ (some 69) _) _
                  refine hK.out _ _ ?_ ?_
                  · ((intro q _ _; first | exact HKQ.out _ HB.out q | exact HKQ.out _ (HB.out.alloc HB.out.size _) q))
                  clear hK K
                  try simp only [Act.put, List.setIfInBounds_toArray, List.set_cons_zero, List.set_cons_succ]
                  refine wpFam_take (i := 25) 0 (some 75) (v := ?_) rfl (by kernel_rfl) (by kernel_rfl) (by kernel_rfl) (by kernel_rfl) (by kernel_rfl) (fun _ _ _ h => h) rfl (Or.inl ⟨by rfl, ?_⟩) (by exact trivial) ?_
                  rotate_left
                  · (intro w hSw; (try simp only [rS] at hSw); go_simp); (try with_reducible rfl)
                  try simp only [Act.put, List.setIfInBounds_toArray, List.set_cons_zero, List.set_cons_succ]
                  refine wpFam_take (i := 26) 0 (some 76) (v := ?_) rfl (by kernel_rfl) (by kernel_rfl) (by kernel_rfl) (by kernel_rfl) (by kernel_rfl) (fun _ _ _ h => h) rfl (Or.inl ⟨by rfl, ?_⟩) (by exact trivial) ?_
                  rotate_left
                  · (intro w hSw; (try simp only [rS] at hSw); go_simp); (try with_reducible rfl)
                  try simp only [Act.put, List.setIfInBounds_toArray, List.set_cons_zero, List.set_cons_succ]
                  refine wpFam_ready (rs := [27]) (by kernel_rfl) (by simp) ?_
                  refine AllReadyF.cons (i := 27) rfl (fun K hK => ?_) ?_
                  ·
                    have hk := HK.out _ HB.out
                    have fr1 := (HB.out.frozen (p := ⟨p, 1, none⟩) HLP.out).trans (HFR.out 1)
                    have fr2 := (HB.out.frozen (p := ⟨p, 2, none⟩) HLP.out).trans (HFR.out 2)
                    have fr3 := (HB.out.frozen (p := ⟨p, 3, none⟩) HLP.out).trans (HFR.out 3)
                    obtain ⟨ck1, ck2, ck3⟩ := hk
                    go_simp
                    refine hK.out _ _ ?_ ?_
                    · ((exact fun q hq hs => rS_store (q := q) (o := 1) rfl (fun e => hq (by subst e; decide)) hs))
                    clear hK K
                    try simp only [Act.put, List.setIfInBounds_toArray, List.set_cons_zero, List.set_cons_succ]
                    refine wpFam_take (i := 28) 0 (some 77) (v := ?_) rfl (by kernel_rfl) (by kernel_rfl) (by kernel_rfl) (by kernel_rfl) (by kernel_rfl) (fun _ _ _ h => h) rfl (Or.inl ⟨by rfl, ?_⟩) (by exact trivial) ?_
                    rotate_left
                    · (intro w hSw; (try simp only [rS] at hSw); go_simp); (try with_reducible rfl)
                    try simp only [Act.put, List.setIfInBounds_toArray, List.set_cons_zero, List.set_cons_succ]
                    refine wpFam_take (i := 29) 0 (some 78) (v := ?_) rfl (by kernel_rfl) (by kernel_rfl) (by kernel_rfl) (by kernel_rfl) (by kernel_rfl) (fun _ _ _ h => h) rfl (Or.inl ⟨by rfl, ?_⟩) (by exact trivial) ?_
                    rotate_left
                    · (intro w hSw; (try simp only [rS] at hSw); go_simp); (try with_reducible rfl)
                    try simp only [Act.put, List.setIfInBounds_toArray, List.set_cons_zero, List.set_cons_succ]
                    refine wpFam_ready (rs := [30]) (by kernel_rfl) (by simp) ?_
                    refine AllReadyF.cons (i := 30) rfl (fun K hK => ?_) ?_
                    ·
                      go_simp
                      refine hK.out _ _ ?_ ?_
                      · ((exact fun q hq hs => rS_store (q := q) (o := 2) rfl (fun e => hq (by subst e; decide)) hs))
                      clear hK K
                      try simp only [Act.put, List.setIfInBounds_toArray, List.set_cons_zero, List.set_cons_succ]
                      refine wpFam_take (i := 31) 0 (some 79) (v := ?_) rfl (by kernel_rfl) (by kernel_rfl) (by kernel_rfl) (by kernel_rfl) (by kernel_rfl) (fun _ _ _ h => h) rfl (Or.inl ⟨by rfl, ?_⟩) (by exact trivial) ?_
                      rotate_left
                      · (intro w hSw; (try simp only [rS] at hSw); go_simp); (try with_reducible rfl)
                      try simp only [Act.put, List.setIfInBounds_toArray, List.set_cons_zero, List.set_cons_succ]
                      refine wpFam_take (i := 32) 0 (some 80) (v := ?_) rfl (by kernel_rfl) (by kernel_rfl) (by kernel_rfl) (by kernel_rfl) (by kernel_rfl) (fun _ _ _ h => h) rfl (Or.inl ⟨by rfl, ?_⟩) (by exact trivial) ?_
                      rotate_left
                      · (intro w hSw; (try simp only [rS] at hSw); go_simp); (try with_reducible rfl)
                      try simp only [Act.put, List.setIfInBounds_toArray, List.set_cons_zero, List.set_cons_succ]
                      refine wpFam_ready (rs := [33]) (by kernel_rfl) (by simp) ?_
                      refine AllReadyF.cons (i := 33) rfl (fun K hK => ?_) ?_
                      ·
                        go_simp
                        refine hK.out _ _ ?_ ?_
                        · ((exact fun q hq hs => rS_store (q := q) (o := 3) rfl (fun e => hq (by subst e; decide)) hs))
                        clear hK K
                        try simp only [Act.put, List.setIfInBounds_toArray, List.set_cons_zero, List.set_cons_succ]
                        refine wpFam_done (by kernel_rfl) ?_ _
                        go_wp2
                        go_ret
                        have hc := rput_close HS0.out HD0.out HB.out HO2.out HO4.out HF.out HOK3.out
                        rw [← HPUT.out] at hc
                        exact ⟨rfl, hc⟩
                      exact AllReadyF.nil
                    exact AllReadyF.nil
                  exact AllReadyF.nil
                exact AllReadyF.nil
              exact AllReadyF.nil
            exact AllReadyF.nil
          exact AllReadyF.nil
        exact AllReadyF.nil
      exact AllReadyF.nil
    refine AllReadyF.cons (i := 9) rfl (fun K hK => ?_) ?_
    ·
      go_simp
      try change K (Act.put _ (some 59) _) _
      refine hK.out _ _ ?_ ?_
      · ((intro q _ _; first | exact HKQ.out _ HB.out q | exact HKQ.out _ (HB.out.alloc HB.out.size _) q))
      clear hK K
      try simp only [Act.put, List.setIfInBounds_toArray, List.set_cons_zero, List.set_cons_succ]
      refine wpFam_ready (rs := [7]) (by kernel_rfl) (by simp) ?_
      refine AllReadyF.cons (i := 7) rfl (fun K hK => ?_) ?_
      ·
        refine step_append_any _ (by rfl) (.const (.slice none 0 0)) (.tmp 56) 64 (by rfl) W0.heap.size 3 j0 (.int .i64 0) 1 8 Tryz.underlying64 Hj0I.out Hj00.out Hj01.out Hj02.out (by rfl) (by decide) (.slice none 0 0) 0 [] (by rfl) (World.ownsRow_nil _ _ _ _) W0.heap.size a1 n k1 (atsC D.loose) (by rfl) (HRA.out.below (by first | exact HB.out | exact HB.out.alloc HB.out.size _)) (one_atsC _) (by unfold maxLen; omega) (by omega) (by first | exact HB.out.size | (have := HB.out.size; simp <;> omega)) ?_
        intro v1 w1 ho hg ha
        rw [Nat.zero_add, List.nil_append] at ho
        have HG1 := Lib.hid hg
        have HO1 := Lib.hid ho
        replace HB := Lib.hid (Below.trans (by first | exact HB.out | exact HB.out.alloc HB.out.size _) (grown_none hg (by first | exact HB.out.size | (have := HB.out.size; simp <;> omega))))
        clear ho hg ha
        try change K (Act.put _ (some 57) _) _
        refine hK.out _ _ ?_ ?_
        · ((intro q _ _; first | exact HKQ.out _ HB.out q | exact HKQ.out _ (HB.out.alloc HB.out.size _) q))
        clear hK K
        try simp only [Act.put, List.setIfInBounds_toArray, List.set_cons_zero, List.set_cons_succ]
        refine wpFam_ready (rs := [10]) (by kernel_rfl) (by simp) ?_
        refine AllReadyF.cons (i := 10) rfl (fun K hK => ?_) ?_
        ·
          refine step_append_lies _ (by rfl) (.tmp 57) (.tmp 59) 64 (by rfl) W0.heap.size 3 j0 (.int .i64 0) 1 8 Tryz.underlying64 Hj0I.out Hj00.out Hj01.out Hj02.out (by rfl) (by decide) v1 n (atsC D.loose) (by rfl) (by first | exact HO1.out.alloc _ | exact HO1.out) _ 1 1 [.int .i64 (i : Int)] (by rfl) (by rfl) (by first | exact World.news_of_block (heap_alloc_new _ _) | exact World.news_of_block ((HG1.out.block _ (by simp) (fun e => by cases e)).trans (heap_alloc_new _ _))) (by simp [Value.oneCell']) (by decide) (by unfold maxLen; omega) (by omega) (by first | exact HB.out.size | (have := HB.out.size; simp <;> omega)) _ rfl ?_
          intro g1 cap1 w2 ho hg ha hlt
          have HG2 := Lib.hid hg
          have HO2 := Lib.hid ho
          have HA2 := Lib.hid ha
          replace HB := Lib.hid ((show Below W0.heap.size W0 _ from (by first | exact HB.out | exact HB.out.alloc HB.out.size _)).grown hg (by first | exact HB.out.size | (have := HB.out.size; simp <;> omega)) (fun k hk => (HO1.out.lt k hk).1))
          clear ho hg ha hlt
          try change K (Act.put _ (some 60) _) _
          refine hK.out _ _ ?_ ?_
          · ((intro q _ _; first | exact HKQ.out _ HB.out q | exact HKQ.out _ (HB.out.alloc HB.out.size _) q))
          clear hK K
          try simp only [Act.put, List.setIfInBounds_toArray, List.set_cons_zero, List.set_cons_succ]
          refine wpFam_ready (rs := [15]) (by kernel_rfl) (by simp) ?_
          refine AllReadyF.cons (i := 15) rfl (fun K hK => ?_) ?_
          ·
            refine step_append_any _ (by rfl) (.const (.slice none 0 0)) (.tmp 64) 26 (by rfl) W0.heap.size 9 s0 (.string ⟨#[]⟩) 1 16 Tryz.underlying26 Hs0I.out Hs00.out Hs01.out Hs02.out (by rfl) (by decide) (.slice none 0 0) 0 [] (by rfl) (World.ownsRow_nil _ _ _ _) W0.heap.size a2 n k2 (bsC D.loose) (by rfl) (HRB.out.below (by first | exact HB.out | exact HB.out.alloc HB.out.size _)) (one_bsC _) (by unfold maxLen; omega) (by omega) (by first | exact HB.out.size | (have := HB.out.size; simp <;> omega)) ?_
            intro v3 w3 ho hg ha
            rw [Nat.zero_add, List.nil_append] at ho
            have HG3 := Lib.hid hg
            have HO3 := Lib.hid ho
            replace HB := Lib.hid (Below.trans (by first | exact HB.out | exact HB.out.alloc HB.out.size _) (grown_none hg (by first | exact HB.out.size | (have := HB.out.size; simp <;> omega))))
            clear ho hg ha
            replace HO2 := Lib.hid (own_same HO2.out (fun k hk => HG3.out.block k (HO2.out.lt k hk).2 (fun e => by cases e)))
            try change K (Act.put _ (some 65) _) _
            refine hK.out _ _ ?_ ?_
            · ((intro q _ _; first | exact HKQ.out _ HB.out q | exact HKQ.out _ (HB.out.alloc HB.out.size _) q))
            clear hK K
            try simp only [Act.put, List.setIfInBounds_toArray, List.set_cons_zero, List.set_cons_succ]
            refine wpFam_ready (rs := [17]) (by kernel_rfl) (by simp) ?_
            refine AllReadyF.cons (i := 17) rfl (fun K hK => ?_) ?_
            ·
              refine step_call Tryz.func56 (by kernel_rfl) rfl #[.string b] rfl rfl (by first | rfl | (simp [Act.eval, Act.put]; done)) ?_
              refine (cf.out _).mono ?_
              rintro e w4 ⟨rfl, hb⟩
              refine ⟨_, rfl, ?_⟩
              have HLE := Lib.hid HB.out.size
              replace HB := Lib.hid (HB.out.trans (hb.mono HLE.out))
              replace HO2 := Lib.hid (own_same HO2.out (fun k hk => hb.block k (HO2.out.lt k hk).2))
              replace HO3 := Lib.hid (own_same HO3.out (fun k hk => hb.block k (HO3.out.lt k hk).2))
              clear hb HLE
              try change K (Act.put _ (some 67) _) _
              refine hK.out _ _ ?_ ?_
              · ((intro q _ _; first | exact HKQ.out _ HB.out q | exact HKQ.out _ (HB.out.alloc HB.out.size _) q))
              clear hK K
              try simp only [Act.put, List.setIfInBounds_toArray, List.set_cons_zero, List.set_cons_succ]
              refine wpFam_ready (rs := [18]) (by kernel_rfl) (by simp) ?_
              refine AllReadyF.cons (i := 18) rfl (fun K hK => ?_) ?_
              ·
                go_simp
                try change K (Act.put _ (some 68) _) _
                refine hK.out _ _ ?_ ?_
                · ((intro q _ _; first | exact HKQ.out _ HB.out q | exact HKQ.out _ (HB.out.alloc HB.out.size _) q))
                clear hK K
                try simp only [Act.put, List.setIfInBounds_toArray, List.set_cons_zero, List.set_cons_succ]
                refine wpFam_ready (rs := [19]) (by kernel_rfl) (by simp) ?_
                refine AllReadyF.cons (i := 19) rfl (fun K hK => ?_) ?_
                ·
                  refine step_append_lies _ (by rfl) (.tmp 65) (.tmp 68) 26 (by rfl) W0.heap.size 9 s0 (.string ⟨#[]⟩) 1 16 Tryz.underlying26 Hs0I.out Hs00.out Hs01.out Hs02.out (by rfl) (by decide) v3 n (bsC D.loose) (by rfl) (HO3.out.alloc _) _ 1 1 [.string (fillB b)] (by rfl) (by rfl) (World.news_of_block (heap_alloc_new _ _)) (by simp [Value.oneCell']) (by decide) (by unfold maxLen; omega) (by omega) (by first | exact HB.out.size | (have := HB.out.size; simp <;> omega)) _ rfl ?_
                  intro g2 cap2 w5 ho hg ha hlt
                  have HG4 := Lib.hid hg
                  have HO4 := Lib.hid ho
                  have HA4 := Lib.hid ha
                  replace HB := Lib.hid ((show Below W0.heap.size W0 _ from (by first | exact HB.out | exact HB.out.alloc HB.out.size _)).grown hg (by first | exact HB.out.size | (have := HB.out.size; simp <;> omega)) (fun k hk => (HO3.out.lt k hk).1))
                  clear ho hg ha hlt
                  replace HO2 := Lib.hid (own_same (HO2.out.alloc _) (fun k hk => HG4.out.block k ((HO2.out.alloc _).lt k hk).2 (own_own_ne HO2.out HO3.out (by decide) k hk)))
                  try change K (Act.put _ (some 69) _) _
                  refine hK.out _ _ ?_ ?_
                  · ((intro q _ _; first | exact HKQ.out _ HB.out q | exact HKQ.out _ (HB.out.alloc HB.out.size _) q))
                  clear hK K
                  try simp only [Act.put, List.setIfInBounds_toArray, List.set_cons_zero, List.set_cons_succ]
                  refine wpFam_take (i := 25) 0 (some 75) (v := ?_) rfl (by kernel_rfl) (by kernel_rfl) (by kernel_rfl) (by kernel_rfl) (by kernel_rfl) (fun _ _ _ h => h) rfl (Or.inl ⟨by rfl, ?_⟩) (by exact trivial) ?_
                  rotate_left
                  · (intro w hSw; (try simp only [rS] at hSw); go_simp); (try with_reducible rfl)
                  try simp only [Act.put, List.setIfInBounds_toArray, List.set_cons_zero, List.set_cons_succ]
                  refine wpFam_take (i := 26) 0 (some 76) (v := ?_) rfl (by kernel_rfl) (by kernel_rfl) (by kernel_rfl) (by kernel_rfl) (by kernel_rfl) (fun _ _ _ h => h) rfl (Or.inl ⟨by rfl, ?_⟩) (by exact trivial) ?_
                  rotate_left
                  · (intro w hSw; (try simp only [rS] at hSw); go_simp); (try with_reducible rfl)
                  try simp only [Act.put, List.setIfInBounds_toArray, List.set_cons_zero, List.set_cons_succ]
                  refine wpFam_ready (rs := [27]) (by kernel_rfl) (by simp) ?_
                  refine AllReadyF.cons (i := 27) rfl (fun K hK => ?_) ?_
                  ·
                    have hk := HK.out _ HB.out
                    have fr1 := (HB.out.frozen (p := ⟨p, 1, none⟩) HLP.out).trans (HFR.out 1)
                    have fr2 := (HB.out.frozen (p := ⟨p, 2, none⟩) HLP.out).trans (HFR.out 2)
                    have fr3 := (HB.out.frozen (p := ⟨p, 3, none⟩) HLP.out).trans (HFR.out 3)
                    obtain ⟨ck1, ck2, ck3⟩ := hk
                    go_simp
                    refine hK.out _ _ ?_ ?_
                    · ((exact fun q hq hs => rS_store (q := q) (o := 1) rfl (fun e => hq (by subst e; decide)) hs))
                    clear hK K
                    try simp only [Act.put, List.setIfInBounds_toArray, List.set_cons_zero, List.set_cons_succ]
                    refine wpFam_take (i := 28) 0 (some 77) (v := ?_) rfl (by kernel_rfl) (by kernel_rfl) (by kernel_rfl) (by kernel_rfl) (by kernel_rfl) (fun _ _ _ h => h) rfl (Or.inl ⟨by rfl, ?_⟩) (by exact trivial) ?_
                    rotate_left
                    · (intro w hSw; (try simp only [rS] at hSw); go_simp); (try with_reducible rfl)
                    try simp only [Act.put, List.setIfInBounds_toArray, List.set_cons_zero, List.set_cons_succ]
                    refine wpFam_take (i := 29) 0 (some 78) (v := ?_) rfl (by kernel_rfl) (by kernel_rfl) (by kernel_rfl) (by kernel_rfl) (by kernel_rfl) (fun _ _ _ h => h) rfl (Or.inl ⟨by rfl, ?_⟩) (by exact trivial) ?_
                    rotate_left
                    · (intro w hSw; (try simp only [rS] at hSw); go_simp); (try with_reducible rfl)
                    try simp only [Act.put, List.setIfInBounds_toArray, List.set_cons_zero, List.set_cons_succ]
                    refine wpFam_ready (rs := [30]) (by kernel_rfl) (by simp) ?_
                    refine AllReadyF.cons (i := 30) rfl (fun K hK => ?_) ?_
                    ·
                      go_simp
                      refine hK.out _ _ ?_ ?_
                      · ((exact fun q hq hs => rS_store (q := q) (o := 2) rfl (fun e => hq (by subst e; decide)) hs))
                      clear hK K
                      try simp only [Act.put, List.setIfInBounds_toArray, List.set_cons_zero, List.set_cons_succ]
                      refine wpFam_take (i := 31) 0 (some 79) (v := ?_) rfl (by kernel_rfl) (by kernel_rfl) (by kernel_rfl) (by kernel_rfl) (by kernel_rfl) (fun _ _ _ h => h) rfl (Or.inl ⟨by rfl, ?_⟩) (by exact trivial) ?_
                      rotate_left
                      · (intro w hSw; (try simp only [rS] at hSw); go_simp); (try with_reducible rfl)
                      try simp only [Act.put, List.setIfInBounds_toArray, List.set_cons_zero, List.set_cons_succ]
                      refine wpFam_take (i := 32) 0 (some 80) (v := ?_) rfl (by kernel_rfl) (by kernel_rfl) (by kernel_rfl) (by kernel_rfl) (by kernel_rfl) (fun _ _ _ h => h) rfl (Or.inl ⟨by rfl, ?_⟩) (by exact trivial) ?_
                      rotate_left
                      · (intro w hSw; (try simp only [rS] at hSw); go_simp); (try with_reducible rfl)
                      try simp only [Act.put, List.setIfInBounds_toArray, List.set_cons_zero, List.set_cons_succ]
                      refine wpFam_ready (rs := [33]) (by kernel_rfl) (by simp) ?_
                      refine AllReadyF.cons (i := 33) rfl (fun K hK => ?_) ?_
                      ·
                        go_simp
                        refine hK.out _ _ ?_ ?_
                        · ((exact fun q hq hs => rS_store (q := q) (o := 3) rfl (fun e => hq (by subst e; decide)) hs))
                        clear hK K
                        try simp only [Act.put, List.setIfInBounds_toArray, List.set_cons_zero, List.set_cons_succ]
                        refine wpFam_done (by kernel_rfl) ?_ _
                        go_wp2
                        go_ret
                        have hc := rput_close HS0.out HD0.out HB.out HO2.out HO4.out HF.out HOK3.out
                        rw [← HPUT.out] at hc
                        exact ⟨rfl, hc⟩
                      exact AllReadyF.nil
                    exact AllReadyF.nil
                  exact AllReadyF.nil
                exact AllReadyF.nil
              exact AllReadyF.nil
            exact AllReadyF.nil
          exact AllReadyF.nil
        exact AllReadyF.nil
      exact AllReadyF.nil
    exact AllReadyF.nil
end Go.Proofs.YtjincmagbbpooaaGreatDoor
