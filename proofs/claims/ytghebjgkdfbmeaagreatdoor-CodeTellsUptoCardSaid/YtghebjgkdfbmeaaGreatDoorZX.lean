import Derived.Test.YtghebjgkdfbmeaaGreatDoorZW
set_option linter.unusedVariables false
set_option linter.unusedSimpArgs false
namespace Go.Proofs.YtghebjgkdfbmeaaGreatDoor
open Go.RowKit

/-! ### a term that is laid down by nodes -/
structure NodeD where
  kd : Int
  n : Int
  nm : ByteArray
  a : Int
  b : Int
  c : Int
structure NodeAt (w : World) (b k : Nat) (s : NodeD) : Prop where
  c0 : w.cell? ⟨b, k, none⟩ = some (.int .i64 s.kd)
  c1 : w.cell? ⟨b, k + 1, none⟩ = some (.int .i64 s.n)
  c2 : w.cell? ⟨b, k + 2, none⟩ = some (.string s.nm)
  c3 : w.cell? ⟨b, k + 3, none⟩ = some (.int .i64 s.a)
  c4 : w.cell? ⟨b, k + 4, none⟩ = some (.int .i64 s.b)
  c5 : w.cell? ⟨b, k + 5, none⟩ = some (.int .i64 s.c)
  small : s.nm.size < 4294967281
def NodesAt (w : World) (a : Option Addr) (l : List NodeD) : Prop := ∀ j s, l[j]? = some s → ∃ b off, a = some ⟨b, off, none⟩ ∧ NodeAt w b (off + j * 6) s
theorem NodeAt.below {w w' : World} {b k : Nat} {s : NodeD} (h : NodeAt w b k s) (hb : Below w.heap.size w w') : NodeAt w' b k s :=
  ⟨cell_keep' hb h.c0, cell_keep' hb h.c1, cell_keep' hb h.c2, cell_keep' hb h.c3, cell_keep' hb h.c4, cell_keep' hb h.c5, h.small⟩
def xN (X : Nat) (kd nn : Int) (nm : ByteArray) (ka kb kc : Int) : Nat → World → Prop := fun q w' => match q with
  | 1 => w'.cell? ⟨X, 0, none⟩ = some (.int .i64 kd)
  | 2 => w'.cell? ⟨X, 1, none⟩ = some (.int .i64 nn)
  | 3 => w'.cell? ⟨X, 2, none⟩ = some (.string nm)
  | 4 => w'.cell? ⟨X, 3, none⟩ = some (.int .i64 ka)
  | 5 => w'.cell? ⟨X, 4, none⟩ = some (.int .i64 kb)
  | 6 => w'.cell? ⟨X, 5, none⟩ = some (.int .i64 kc)
  | _ => True
def xND : Nat → List Nat
  | 0 => []
  | _ + 1 => [20, 21, 22]
theorem xN_of {X : Nat} {kd nn : Int} {nm : ByteArray} {ka kb kc : Int} {w' : World} {t : TypeId} (h : Blk w' X t #[.int .i64 kd, .int .i64 nn, .string nm, .int .i64 ka, .int .i64 kb, .int .i64 kc]) (q : Nat) : xN X kd nn nm ka kb kc q w' := by
  match q with
  | 0 => exact trivial
  | 1 => exact h.cell 0
  | 2 => exact h.cell 1
  | 3 => exact h.cell 2
  | 4 => exact h.cell 3
  | 5 => exact h.cell 4
  | 6 => exact h.cell 5
  | _ + 7 => exact trivial
theorem PIn.drew {B : Nat} {w : World} {t : Tm} {p : Option Addr} (h : PIn B w t p) : PIn B w.drew t p := PIn.same (w := w) (w' := w.drew) (fun _ _ _ => rfl) h
theorem PIn.undrew {B : Nat} {w : World} {t : Tm} {p : Option Addr} (h : PIn B w.drew t p) : PIn B w t p := PIn.same (w := w.drew) (w' := w) (fun _ _ _ => rfl) h
theorem Rows_.undrew {B : Nat} {w : World} {ts : List Tm} {ps : List (Option Addr)} (h : Rows_ B w.drew ts ps) : Rows_ B w ts ps := ⟨h.1, fun j t p h1 h2 => (h.2 j t p h1 h2).undrew⟩
/-- Some term, with names of no monstrous length, or none. -/
def SomeTm (w : World) (e : Ending) (w' : World) : Prop := ∃ t p, e = .returned (.pointer p) ∧ PIn w.heap.size w' t p ∧ t.small ∧ Below w.heap.size w w'

set_option maxHeartbeats 16000000 in
set_option maxRecDepth 100000 in
theorem Build_any (a : Option Addr) (cap : Nat) (l : List NodeD) (w : World) (hl : NodesAt w a l) (hL64 : l.length ≤ 9223372036854775807) :
    Calls Tryz.prog 5 #[.slice a l.length cap] w (SomeTm w) := by
  obtain ⟨i0, hi, hz0, hz1, hz2⟩ := info_parts Tryz.infoT8
  have HI := Lib.hid hi
  have HZ0 := Lib.hid hz0
  have HZ1 := Lib.hid hz1
  have HZ2 := Lib.hid hz2
  clear hi hz0 hz1 hz2
  obtain ⟨L, hL⟩ : ∃ L, L = l.length := ⟨_, rfl⟩
  rw [← hL] at hL64 ⊢
  obtain ⟨M, hM⟩ : ∃ M, M = if L < 40 then L else 40 := ⟨_, rfl⟩
  have hM1 : M ≤ L := by rw [hM]; split <;> omega
  have hM2 : M ≤ 40 := by rw [hM]; split <;> omega
  have hM3 : M = L ∨ M = 40 := by rw [hM]; split <;> omega
  have HL := Lib.hid hL
  have HT := Lib.hid hl
  clear hL hl hM
  go_enter Tryz.func5, Tryz.ntmps5
  go_upto_region 3 with fail
  go_loopg [3, 4] M (fun kq v3 v4 wr => ∃ (i : Nat) (ps : List (Option Addr)) (ts : List Tm), v4 = .int .i64 (i : Int) ∧ i + kq = M ∧ Hid (i = ps.length) ∧ Hid (wr.ownsRow w.heap.size 24 1 v3 i (ptrV ps)) ∧ Hid (Rows_ w.heap.size wr ts ps) ∧ Hid (∀ t ∈ ts, t.small) ∧ Hid (Below w.heap.size w wr))
  case atStart => exact ⟨0, [], [], rfl, by omega, rfl, World.ownsRow_nil _ _ _ _, ⟨rfl, fun j t p h => by simp at h⟩, fun t h => by simp at h, Below.refl _ _⟩
  case round =>
    obtain ⟨i, ps, ts, rfl, hi, HN, HO, HR, HSM, HB⟩ := hrel
    by_cases hlt : i < M
    · obtain ⟨s, hs⟩ : ∃ s, l[i]? = some s := ⟨_, List.getElem?_eq_getElem (by rw [← HL.out]; omega)⟩
      obtain ⟨b, off, rfl, hc⟩ := HT.out i s hs
      obtain ⟨kd, nn, nm, ka, kb, kc⟩ := s
      obtain ⟨c0, c1, c2, c3, c4, c5, hsm⟩ := hc.below HB.out
      simp only at c0 c1 c2 c3 c4 c5 hsm
      have q0 : (0 : Int) ≤ (i : Int) := by omega
      have q1 : (i : Int) < (L : Int) := by omega
      have q2 : (i : Int) < 40 := by omega
      have HNM := Lib.hid hsm
      have HI40 : Hid (i ≤ 1000) := by show _ ≤ _; omega
      obtain ⟨k', rfl⟩ : ∃ k', gk = k' + 1 := ⟨gk - 1, by omega⟩
      have HHI : Hid (i + (k' + 1) = M ∧ M ≤ L ∧ M ≤ 40) := ⟨hi, hM1, hM2⟩
      clear hs hc hsm hlt hi
      go_upto_region 6 with fail
      have hx : Blk (wr.alloc (.cells #[.int .i64 kd, .int .i64 nn, .string nm, .int .i64 ka, .int .i64 kb, .int .i64 kc] 43)) wr.heap.size 43 #[.int .i64 kd, .int .i64 nn, .string nm, .int .i64 ka, .int .i64 kb, .int .i64 kc] := Blk.new wr _ _
      replace HO := Lib.hid (HO.out.alloc (.cells #[.int .i64 kd, .int .i64 nn, .string nm, .int .i64 ka, .int .i64 kb, .int .i64 kc] 43))
      replace HR := Lib.hid (HR.out.below ((Below.refl _ _).alloc (Nat.le_refl _) (.cells #[.int .i64 kd, .int .i64 nn, .string nm, .int .i64 ka, .int .i64 kb, .int .i64 kc] 43)))
      replace HB := Lib.hid (HB.out.alloc HB.out.size (.cells #[.int .i64 kd, .int .i64 nn, .string nm, .int .i64 ka, .int .i64 kb, .int .i64 kc] 43))
      clear c0 c1 c2 c3 c4 c5
      generalize wr.alloc (.cells #[.int .i64 kd, .int .i64 nn, .string nm, .int .i64 ka, .int .i64 kb, .int .i64 kc] 43) = W1 at hx HO HR HB ⊢
      generalize wr.heap.size = X at hx ⊢
      obtain ⟨v3, hv3⟩ : ∃ v, v = u3 := ⟨_, rfl⟩
      rw [← hv3] at HO ⊢
      clear hv3
      have HX : Hid (Blk W1.drew X 43 #[.int .i64 kd, .int .i64 nn, .string nm, .int .i64 ka, .int .i64 kb, .int .i64 kc]) := (show Blk W1 X _ _ from hx)
      replace HO := Lib.hid (HO.out.drew)
      replace HR := Lib.hid (HR.out.below ((Below.refl _ _).drew))
      have HBU := HB
      replace HB := Lib.hid (HB.out.drew)
      clear hx
      refine wp_region_fam (S := (xN X kd nn nm ka kb kc)) (ds := xND) (by kernel_rfl) ?_
      refine wpFam_take (i := 0) 0 (some 20) (v := ?_) rfl (by kernel_rfl) (by kernel_rfl) (by kernel_rfl) (by kernel_rfl) (by kernel_rfl) (fun _ _ _ h => h) rfl (Or.inl ⟨by rfl, ?_⟩) (by exact trivial) ?_
      rotate_left
      · (intro w hSw; (try simp only [xN] at hSw); go_simp); (try with_reducible rfl)
      try simp only [Act.put, List.setIfInBounds_toArray, List.set_cons_zero, List.set_cons_succ]
      refine wpFam_take (i := 1) 0 (some 21) (v := ?_) rfl (by kernel_rfl) (by kernel_rfl) (by kernel_rfl) (by kernel_rfl) (by kernel_rfl) (fun _ _ _ h => h) rfl (Or.inl ⟨by rfl, ?_⟩) (by exact trivial) ?_
      rotate_left
      · (intro w hSw; (try simp only [xN] at hSw); go_simp); (try with_reducible rfl)
      try simp only [Act.put, List.setIfInBounds_toArray, List.set_cons_zero, List.set_cons_succ]
      refine wpFam_take (i := 2) 1 (some 22) (v := ?_) rfl (by kernel_rfl) (by kernel_rfl) (by kernel_rfl) (by kernel_rfl) (by kernel_rfl) (fun _ _ _ h => h) rfl (Or.inl ⟨by rfl, ?_⟩) (by exact xN_of HX.out 1) ?_
      rotate_left
      · (intro w hSw; (try simp only [xN] at hSw); go_simp); (try with_reducible rfl)
      try simp only [Act.put, List.setIfInBounds_toArray, List.set_cons_zero, List.set_cons_succ]
      refine wpFam_take (i := 3) 0 (some 23) (v := ?_) rfl (by kernel_rfl) (by kernel_rfl) (by kernel_rfl) (by kernel_rfl) (by kernel_rfl) (fun _ _ _ h => h) rfl (Or.inl ⟨by rfl, ?_⟩) (by exact trivial) ?_
      rotate_left
      · (intro w hSw; (try simp only [xN] at hSw); go_simp); (try with_reducible rfl)
      try simp only [Act.put, List.setIfInBounds_toArray, List.set_cons_zero, List.set_cons_succ]
      refine wpFam_take (i := 4) 2 (some 24) (v := ?_) rfl (by kernel_rfl) (by kernel_rfl) (by kernel_rfl) (by kernel_rfl) (by kernel_rfl) (fun _ _ _ h => h) rfl (Or.inl ⟨by rfl, ?_⟩) (by exact xN_of HX.out 2) ?_
      rotate_left
      · (intro w hSw; (try simp only [xN] at hSw); go_simp); (try with_reducible rfl)
      try simp only [Act.put, List.setIfInBounds_toArray, List.set_cons_zero, List.set_cons_succ]
      refine wpFam_take (i := 5) 0 (some 25) (v := ?_) rfl (by kernel_rfl) (by kernel_rfl) (by kernel_rfl) (by kernel_rfl) (by kernel_rfl) (fun _ _ _ h => h) rfl (Or.inl ⟨by rfl, ?_⟩) (by exact trivial) ?_
      rotate_left
      · (intro w hSw; (try simp only [xN] at hSw); go_simp); (try with_reducible rfl)
      try simp only [Act.put, List.setIfInBounds_toArray, List.set_cons_zero, List.set_cons_succ]
      refine wpFam_take (i := 6) 3 (some 26) (v := ?_) rfl (by kernel_rfl) (by kernel_rfl) (by kernel_rfl) (by kernel_rfl) (by kernel_rfl) (fun _ _ _ h => h) rfl (Or.inl ⟨by rfl, ?_⟩) (by exact xN_of HX.out 3) ?_
      rotate_left
      · (intro w hSw; (try simp only [xN] at hSw); go_simp); (try with_reducible rfl)
      try simp only [Act.put, List.setIfInBounds_toArray, List.set_cons_zero, List.set_cons_succ]
      refine wpFam_take (i := 7) 0 (some 27) (v := ?_) rfl (by kernel_rfl) (by kernel_rfl) (by kernel_rfl) (by kernel_rfl) (by kernel_rfl) (fun _ _ _ h => h) rfl (Or.inl ⟨by rfl, ?_⟩) (by exact trivial) ?_
      rotate_left
      · (intro w hSw; (try simp only [xN] at hSw); go_simp); (try with_reducible rfl)
      try simp only [Act.put, List.setIfInBounds_toArray, List.set_cons_zero, List.set_cons_succ]
      refine wpFam_take (i := 8) 0 (some 28) (v := ?_) rfl (by kernel_rfl) (by kernel_rfl) (by kernel_rfl) (by kernel_rfl) (by kernel_rfl) (fun _ _ _ h => h) rfl (Or.inl ⟨by rfl, ?_⟩) (by exact trivial) ?_
      rotate_left
      · (intro w hSw; (try simp only [xN] at hSw); go_simp); (try with_reducible rfl)
      try simp only [Act.put, List.setIfInBounds_toArray, List.set_cons_zero, List.set_cons_succ]
      refine wpFam_take (i := 9) 4 (some 29) (v := ?_) rfl (by kernel_rfl) (by kernel_rfl) (by kernel_rfl) (by kernel_rfl) (by kernel_rfl) (fun _ _ _ h => h) rfl (Or.inl ⟨by rfl, ?_⟩) (by exact xN_of HX.out 4) ?_
      rotate_left
      · (intro w hSw; (try simp only [xN] at hSw); go_simp); (try with_reducible rfl)
      try simp only [Act.put, List.setIfInBounds_toArray, List.set_cons_zero, List.set_cons_succ]
      refine wpFam_take (i := 11) 0 (some 31) (v := ?_) rfl (by kernel_rfl) (by kernel_rfl) (by kernel_rfl) (by kernel_rfl) (by kernel_rfl) (fun _ _ _ h => h) rfl (Or.inl ⟨by rfl, ?_⟩) (by exact trivial) ?_
      rotate_left
      · (intro w hSw; (try simp only [xN] at hSw); go_simp); (try with_reducible rfl)
      try simp only [Act.put, List.setIfInBounds_toArray, List.set_cons_zero, List.set_cons_succ]
      refine wpFam_take (i := 12) 0 (some 32) (v := ?_) rfl (by kernel_rfl) (by kernel_rfl) (by kernel_rfl) (by kernel_rfl) (by kernel_rfl) (fun _ _ _ h => h) rfl (Or.inl ⟨by rfl, ?_⟩) (by exact trivial) ?_
      rotate_left
      · (intro w hSw; (try simp only [xN] at hSw); go_simp); (try with_reducible rfl)
      try simp only [Act.put, List.setIfInBounds_toArray, List.set_cons_zero, List.set_cons_succ]
      refine wpFam_take (i := 13) 5 (some 33) (v := ?_) rfl (by kernel_rfl) (by kernel_rfl) (by kernel_rfl) (by kernel_rfl) (by kernel_rfl) (fun _ _ _ h => h) rfl (Or.inl ⟨by rfl, ?_⟩) (by exact xN_of HX.out 5) ?_
      rotate_left
      · (intro w hSw; (try simp only [xN] at hSw); go_simp); (try with_reducible rfl)
      try simp only [Act.put, List.setIfInBounds_toArray, List.set_cons_zero, List.set_cons_succ]
      refine wpFam_take (i := 15) 0 (some 35) (v := ?_) rfl (by kernel_rfl) (by kernel_rfl) (by kernel_rfl) (by kernel_rfl) (by kernel_rfl) (fun _ _ _ h => h) rfl (Or.inl ⟨by rfl, ?_⟩) (by exact trivial) ?_
      rotate_left
      · (intro w hSw; (try simp only [xN] at hSw); go_simp); (try with_reducible rfl)
      try simp only [Act.put, List.setIfInBounds_toArray, List.set_cons_zero, List.set_cons_succ]
      refine wpFam_take (i := 16) 0 (some 36) (v := ?_) rfl (by kernel_rfl) (by kernel_rfl) (by kernel_rfl) (by kernel_rfl) (by kernel_rfl) (fun _ _ _ h => h) rfl (Or.inl ⟨by rfl, ?_⟩) (by exact trivial) ?_
      rotate_left
      · (intro w hSw; (try simp only [xN] at hSw); go_simp); (try with_reducible rfl)
      try simp only [Act.put, List.setIfInBounds_toArray, List.set_cons_zero, List.set_cons_succ]
      refine wpFam_take (i := 17) 6 (some 37) (v := ?_) rfl (by kernel_rfl) (by kernel_rfl) (by kernel_rfl) (by kernel_rfl) (by kernel_rfl) (fun _ _ _ h => h) rfl (Or.inl ⟨by rfl, ?_⟩) (by exact xN_of HX.out 6) ?_
      rotate_left
      · (intro w hSw; (try simp only [xN] at hSw); go_simp); (try with_reducible rfl)
      try simp only [Act.put, List.setIfInBounds_toArray, List.set_cons_zero, List.set_cons_succ]
      refine wpFam_ready (rs := [10]) (by kernel_rfl) (by simp) ?_
      refine AllReadyF.cons (i := 10) rfl (fun K hK => ?_) ?_
      ·
        refine step_callG Tryz.func16 (by kernel_rfl) rfl #[v3, .int .i64 ka] (by rfl) rfl (by first | rfl | (simp [Act.eval, Act.put]; done)) ?_
        refine (at_any _ _ i _ ts ps ka _ HN.out HO.out HR.out HSM.out HI40.out).mono ?_
        rintro e w9 ⟨⟨t1, p1, rfl, hp1, hs1⟩, rfl⟩
        have HP1 := Lib.hid hp1
        have HS1 := Lib.hid hs1
        clear hp1 hs1
        refine ⟨_, rfl, ?_⟩
        try change K (Act.put _ (some 30) _) _
        refine hK.out _ _ ?_ ?_
        · ((intro q _ h; exact h))
        clear hK K
        try simp only [Act.put, List.setIfInBounds_toArray, List.set_cons_zero, List.set_cons_succ]
        refine wpFam_ready (rs := [14]) (by kernel_rfl) (by simp) ?_
        refine AllReadyF.cons (i := 14) rfl (fun K hK => ?_) ?_
        ·
          refine step_callG Tryz.func16 (by kernel_rfl) rfl #[v3, .int .i64 kb] (by rfl) rfl (by first | rfl | (simp [Act.eval, Act.put]; done)) ?_
          refine (at_any _ _ i _ ts ps kb _ HN.out HO.out HR.out HSM.out HI40.out).mono ?_
          rintro e w9 ⟨⟨t2, p2, rfl, hp2, hs2⟩, rfl⟩
          have HP2 := Lib.hid hp2
          have HS2 := Lib.hid hs2
          clear hp2 hs2
          refine ⟨_, rfl, ?_⟩
          try change K (Act.put _ (some 34) _) _
          refine hK.out _ _ ?_ ?_
          · ((intro q _ h; exact h))
          clear hK K
          try simp only [Act.put, List.setIfInBounds_toArray, List.set_cons_zero, List.set_cons_succ]
          refine wpFam_ready (rs := [18]) (by kernel_rfl) (by simp) ?_
          refine AllReadyF.cons (i := 18) rfl (fun K hK => ?_) ?_
          ·
            refine step_callG Tryz.func16 (by kernel_rfl) rfl #[v3, .int .i64 kc] (by rfl) rfl (by first | rfl | (simp [Act.eval, Act.put]; done)) ?_
            refine (at_any _ _ i _ ts ps kc _ HN.out HO.out HR.out HSM.out HI40.out).mono ?_
            rintro e w9 ⟨⟨t3, p3, rfl, hp3, hs3⟩, rfl⟩
            have HP3 := Lib.hid hp3
            have HS3 := Lib.hid hs3
            clear hp3 hs3
            refine ⟨_, rfl, ?_⟩
            try change K (Act.put _ (some 38) _) _
            refine hK.out _ _ ?_ ?_
            · ((intro q _ h; exact h))
            clear hK K
            try simp only [Act.put, List.setIfInBounds_toArray, List.set_cons_zero, List.set_cons_succ]
            refine wpFam_take (i := 19) 0 (some 39) (v := ?_) rfl (by kernel_rfl) (by kernel_rfl) (by kernel_rfl) (by kernel_rfl) (by kernel_rfl) (fun _ _ _ h => h) rfl (Or.inl ⟨by rfl, ?_⟩) (by exact trivial) ?_
            rotate_left
            · (intro w hSw; (try simp only [xN] at hSw); go_simp); (try with_reducible rfl)
            try simp only [Act.put, List.setIfInBounds_toArray, List.set_cons_zero, List.set_cons_succ]
            refine wpFam_ready (rs := [20]) (by kernel_rfl) (by simp) ?_
            refine AllReadyF.cons (i := 20) rfl (fun K hK => ?_) ?_
            ·
              go_simp
              have hp2 : PIn w.heap.size (W1.alloc (.cells #[.int .i64 kd, .int .i64 nn, .string nm, .pointer p1, .pointer p2, .pointer p3] 46)) (.node kd nn nm t1 t2 t3) (some ⟨W1.heap.size, 0, none⟩) := PIn.new (w := W1) HP1.out.undrew HP2.out.undrew HP3.out.undrew kd nn nm HB.out.size
              have ho2 : (W1.alloc (.cells #[.int .i64 kd, .int .i64 nn, .string nm, .pointer p1, .pointer p2, .pointer p3] 46)).ownsRow w.heap.size 24 1 v3 i (ptrV ps) := World.ownsRow.alloc (w := W1) HO.out (.cells #[.int .i64 kd, .int .i64 nn, .string nm, .pointer p1, .pointer p2, .pointer p3] 46)
              have hr2 : Rows_ w.heap.size (W1.alloc (.cells #[.int .i64 kd, .int .i64 nn, .string nm, .pointer p1, .pointer p2, .pointer p3] 46)) ts ps := Rows_.below (w := W1) HR.out.undrew ((Below.refl _ _).alloc (Nat.le_refl _) (.cells #[.int .i64 kd, .int .i64 nn, .string nm, .pointer p1, .pointer p2, .pointer p3] 46))
              have hb2 : Below w.heap.size w (W1.alloc (.cells #[.int .i64 kd, .int .i64 nn, .string nm, .pointer p1, .pointer p2, .pointer p3] 46)) := Below.alloc (w := W1) HBU.out HBU.out.size (.cells #[.int .i64 kd, .int .i64 nn, .string nm, .pointer p1, .pointer p2, .pointer p3] 46)
              generalize W1.alloc (.cells #[.int .i64 kd, .int .i64 nn, .string nm, .pointer p1, .pointer p2, .pointer p3] 46) = W2 at hp2 ho2 hr2 hb2 ⊢
              generalize W1.heap.size = tb at hp2 ⊢
              try change K (Act.put _ (some 40) _) _
              refine hK.out _ _ ?_ ?_
              · ((intro q hq _; match q, hq with | 0, _ => exact trivial | q + 1, hq => exact absurd (by simp [xND]) hq))
              clear hK K
              try simp only [Act.put, List.setIfInBounds_toArray, List.set_cons_zero, List.set_cons_succ]
              refine wpFam_ready (rs := [21]) (by kernel_rfl) (by simp) ?_
              refine AllReadyF.cons (i := 21) rfl (fun K hK => ?_) ?_
              ·
                go_simp
                have hn3 : (W2.alloc (.cells #[.pointer (some ⟨tb, 0, none⟩)] 24)).heap[W2.heap.size]? = some (.cells #[.pointer (some ⟨tb, 0, none⟩)] 24 (0, 0)) := heap_alloc_new W2 _
                have ho3 := ho2.alloc (.cells #[.pointer (some ⟨tb, 0, none⟩)] 24)
                have hr3 := hr2.below ((Below.refl _ _).alloc (Nat.le_refl _) (.cells #[.pointer (some ⟨tb, 0, none⟩)] 24))
                have hp3 := hp2.below ((Below.refl _ _).alloc (Nat.le_refl _) (.cells #[.pointer (some ⟨tb, 0, none⟩)] 24))
                have hb3 := hb2.alloc hb2.size (.cells #[.pointer (some ⟨tb, 0, none⟩)] 24)
                clear hp2 ho2 hr2 hb2
                generalize W2.alloc (.cells #[.pointer (some ⟨tb, 0, none⟩)] 24) = W3 at hn3 hp3 ho3 hr3 hb3 ⊢
                generalize W2.heap.size = sb at hn3 ⊢
                try change K (Act.put _ (some 41) _) _
                refine hK.out _ _ ?_ ?_
                · ((intro q hq _; match q, hq with | 0, _ => exact trivial | q + 1, hq => exact absurd (by simp [xND]) hq))
                clear hK K
                try simp only [Act.put, List.setIfInBounds_toArray, List.set_cons_zero, List.set_cons_succ]
                refine wpFam_ready (rs := [22]) (by kernel_rfl) (by simp) ?_
                refine AllReadyF.cons (i := 22) rfl (fun K hK => ?_) ?_
                ·
                  refine step_append_lies _ (by rfl) (.tmp 20) (.tmp 41) 41 (by rfl) w.heap.size 24 i0 (.pointer none) 1 8 Tryz.underlying41 HI.out HZ0.out HZ1.out HZ2.out (by rfl) (by decide) v3 i (ptrV ps) (by rfl) (World.ownsRow.drew (w := W3) ho3) _ 1 1 [.pointer (some ⟨tb, 0, none⟩)] (by rfl) (by rfl) (World.news_of_block (w := W3.drew) (B := sb) hn3) (by simp [Value.oneCell']) (by decide) (by have := HI40.out; unfold maxLen; omega) (by have := HI40.out; omega) hb3.size _ rfl ?_
                  intro g cap2 w7 ho7 hg7 ha7 hlt7
                  have hgr : ∀ {t : Tm} {p : Option Addr}, PIn w.heap.size W3 t p → PIn w.heap.size w7 t p := fun h => PIn.grown (w := W3.drew) (World.ownsRow.drew (w := W3) ho3) (by decide) hg7 h.drew
                  have hr7 : Rows_ w.heap.size w7 (ts ++ [.node kd nn nm t1 t2 t3]) (ps ++ [some ⟨tb, 0, none⟩]) := Rows_.snoc ⟨hr3.1, fun j t p h1 h2 => hgr (hr3.2 j t p h1 h2)⟩ (hgr hp3)
                  have hb7 : Below w.heap.size w w7 := Below.grown (w := W3.drew) hb3.drew hg7 hb3.size (fun k hk => (ho3.lt k hk).1)
                  clear hgr ha7 hlt7 hg7 hp3 ho3 hr3 hb3 hn3
                  try change K (Act.put _ (some 42) _) _
                  refine hK.out _ _ ?_ ?_
                  · ((intro q hq _; match q, hq with | 0, _ => exact trivial | q + 1, hq => exact absurd (by simp [xND]) hq))
                  clear hK K
                  try simp only [Act.put, List.setIfInBounds_toArray, List.set_cons_zero, List.set_cons_succ]
                  refine wpFam_take (i := 23) 0 (some 3) (v := ?_) rfl (by kernel_rfl) (by kernel_rfl) (by kernel_rfl) (by kernel_rfl) (by kernel_rfl) (fun _ _ _ h => h) rfl (Or.inl ⟨by rfl, ?_⟩) (by exact trivial) ?_
                  rotate_left
                  · (intro w hSw; (try simp only [xN] at hSw); go_simp); (try with_reducible rfl)
                  try simp only [Act.put, List.setIfInBounds_toArray, List.set_cons_zero, List.set_cons_succ]
                  refine wpFam_done (by kernel_rfl) ?_ _
                  have HO7 : Hid (w7.ownsRow w.heap.size 24 1 (.slice (some ⟨g, 0, none⟩) (i + 1) cap2) (i + 1) (ptrV (ps ++ [some ⟨tb, 0, none⟩]))) := (by unfold ptrV at ho7 ⊢; rw [List.map_append]; exact ho7)
                  have HR7 := Lib.hid hr7
                  have HB7 := Lib.hid hb7
                  have HS7 : Hid (∀ t ∈ ts ++ [Tm.node kd nn nm t1 t2 t3], t.small) := (fun t ht => by
                    rcases List.mem_append.1 ht with h | h
                    · exact HSM.out t h
                    · obtain rfl := List.mem_singleton.1 h
                      exact ⟨HNM.out, HS1.out, HS2.out, HS3.out⟩)
                  have HN7 : Hid (i + 1 = (ps ++ [some (⟨tb, 0, none⟩ : Addr)]).length) := (by show _ = _; rw [List.length_append, ← HN.out]; rfl)
                  clear ho7 hr7 hb7
                  go_wp2
                  go_roundg k'
                  case measure => omega
                  case rel => exact ⟨i + 1, _, _, by go_num, by have := HHI.out.1; omega, HN7, HO7, HR7, HS7, HB7⟩
                exact AllReadyF.nil
              exact AllReadyF.nil
            exact AllReadyF.nil
          exact AllReadyF.nil
        exact AllReadyF.nil
      exact AllReadyF.nil
    · obtain rfl : i = M := by omega
      clear hlt hi
      have HI40 : Hid (i ≤ 1000) := by show _ ≤ _; omega
      obtain ⟨a3, cap3, rfl⟩ : ∃ a3 cap3, u3 = .slice a3 i cap3 := by
        rcases HO.out.2 with ⟨h, h0⟩ | ⟨g, cap, cur, h, _⟩
        · exact ⟨none, 0, by rw [h, h0]⟩
        · exact ⟨_, _, h⟩
      have hend : (L : Int) ≤ (i : Int) ∨ ((i : Int) < (L : Int) ∧ (40 : Int) ≤ (i : Int)) := by
        by_cases h : i < L
        · exact .inr ⟨by omega, by omega⟩
        · exact .inl (by omega)
      clear hM1 hM2 hM3
      rcases hend with t1 | ⟨t1, t2⟩
      all_goals
        go_upto_if 48 with (first
          | (go_at_call 16; refine (at_any _ _ i _ ts ps _ _ HN.out HO.out HR.out HSM.out HI40.out).mono ?_; rintro e w5 ⟨⟨t5, p5, rfl, hp5, hs5⟩, rfl⟩; have HP5 := Lib.hid hp5; clear hp5 hs5)
          | (go_at_call 17; refine (weigh_any t5 p5 100000 _ _ HP5.out (by decide) (by decide)).mono ?_; rintro e w6 ⟨rfl, N6, rfl⟩; have HO6 := Lib.hid (own_below HO.out (below_drewN (B := wr.heap.size) wr N6)); have HR6 := Lib.hid (HR.out.below (below_drewN (B := wr.heap.size) wr N6))))
        by_cases hw : 100000 < weighM t5 100000
        · go_wp2
          go_ret
          exact ⟨.nil, none, rfl, rfl, trivial, HB.out.trans (below_drewN _ _)⟩
        · have hw' : weighM t5 100000 ≤ 100000 := by omega
          clear hw
          have c7 := Lib.hid (at_any _ _ i _ ts ps (i : Int) (wr.drewN N6) HN.out HO6.out HR6.out HSM.out HI40.out)
          go_wp2_with (go_at_call 16; refine c7.out.mono ?_; rintro e w7 ⟨⟨t7, p7, rfl, hp7, hs7⟩, rfl⟩; have HP7 := Lib.hid hp7; have HS7 := Lib.hid hs7; clear hp7 hs7)
          go_ret
          exact ⟨t7, p7, rfl, HP7.out, HS7.out, HB.out.trans (below_drewN _ _)⟩
end Go.Proofs.YtghebjgkdfbmeaaGreatDoor

