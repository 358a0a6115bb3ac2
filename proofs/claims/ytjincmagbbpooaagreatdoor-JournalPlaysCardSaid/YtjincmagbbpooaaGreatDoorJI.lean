import Derived.Test.YtjincmagbbpooaaGreatDoorM16
set_option linter.unusedVariables false
set_option linter.unusedSimpArgs false
namespace Go.Proofs.YtjincmagbbpooaaGreatDoor
open Go.RowKit

/-! ### Add -/
/-- What the cells of a journal hold, one condition each. -/
def jA (q p : Nat) (J : JS) : Nat → World → Prop := fun i w' => match i with
  | 1 => w'.cell? ⟨q, 0, none⟩ = some (.pointer (some ⟨p, 0, none⟩))
  | 2 => w'.cell? ⟨q, 1, none⟩ = some (.int .i64 (J.turn : Int))
  | 3 => w'.cell? ⟨q, 2, none⟩ = some (.int .i64 (J.which : Int))
  | 4 => w'.cell? ⟨q, 3, none⟩ = some (.string J.b)
  | 5 => w'.cell? ⟨q, 4, none⟩ = some (.int .i64 (J.n : Int))
  | _ => True
theorem jA_of {q p : Nat} {J : JS} {w : World} {t : TypeId} (h : Blk w q t (jCells p J)) (i : Nat) : jA q p J i w := by
  match i with
  | 0 => exact trivial
  | 1 => exact h.cell 0
  | 2 => exact h.cell 1
  | 3 => exact h.cell 2
  | 4 => exact h.cell 3
  | 5 => exact h.cell 4
  | _ + 6 => exact trivial
theorem sl_one {w : World} {sb : Nat} {r : ByteArray} {t : TypeId} (h : w.heap[sb]? = some (.cells #[.string r] t (0, 0))) : SlOf mkS w (some ⟨sb, 0, none⟩) [r] := fun j x hj => by
  match j, hj with
  | 0, hj =>
    obtain rfl : r = x := by simpa using hj
    exact ⟨sb, 0, rfl, by rw [cell_of_row w sb _ _ _ _ h]; rfl⟩
  | j + 1, hj => simp at hj
/-- Sectors of bytes are written, from one on, as far as there are bytes. -/
def putF (which : Nat) (b : ByteArray) : Nat → Nat → DS → DS × Int
  | 0, _, D => (D, 0)
  | f + 1, i, D =>
    if b.size ≤ i * 64 then (D, 0)
    else if D.writeC (D.sec which i) (partB b (i * 64) 64) ≠ 0 then (D.write (D.sec which i) (partB b (i * 64) 64), D.writeC (D.sec which i) (partB b (i * 64) 64))
    else putF which b f (i + 1) (D.write (D.sec which i) (partB b (i * 64) 64))
def addJ (D : DS) (J : JS) (r : ByteArray) : DS × JS × Int :=
  if J.dead = true then (D, J, 25)
  else
    let x := wrapJ (D.half * 64) J.turn J.n [r] J.b
    if x.2 ≠ 0 then (D, J, x.2)
    else
      let y := putF J.which x.1 (x.1.size + 1) (J.b.size / 64) D
      if y.2 ≠ 0 then (y.1, { J with dead := true }, y.2) else (y.1, { J with b := x.1, n := J.n + 1 }, 0)

set_option maxHeartbeats 32000000 in
set_option maxRecDepth 100000 in
theorem jAdd_any (F : Nat → Prop) (p q : Nat) (D : DS) (J : JS) (r : ByteArray) (w : World) (h : Dsk w F p D) (hq : Blk w q 87 (jCells p J)) (hn : ¬ F q) (hg : ErrVar w) (hgF : ¬ F 0) (h2 : 2 ≤ D.sure.length)
    (ht : J.turn ≤ 4000) (hwh : J.which ≤ 1) (hnn : J.n ≤ 100000) (hb : J.b.size ≤ 1000000) (hr : r.size ≤ 1000) (hd : D.done < 1099510000000) :
    Calls Tryz.prog 27 #[.pointer (some ⟨q, 0, none⟩), .string r] w fun e w' => e = .returned (errV (addJ D J r).2.2) ∧ JPost F p q w (addJ D J r).1 (addJ D J r).2.1 w' := by
  have HJ := Lib.hid (JPost.start h hq)
  have HNQ := Lib.hid (And.intro hn hq.lt)
  have HG := Lib.hid (And.intro hg hgF)
  have x5 := hq.cell 5
  simp [jCells] at x5
  have hR : addJ D J r = if J.dead = true then (D, J, 25) else _ := rfl
  cases hdd : J.dead
  case true =>
    rw [hdd] at x5
    rw [hdd, if_pos rfl] at hR
    rw [hR]
    clear h hq hdd hn hg hgF hR
    go_enter Tryz.func27, Tryz.ntmps27
    go_wp2
    go_ret
    exact ⟨rfl, HJ.out⟩
  rw [hdd] at x5
  rw [hdd, if_neg (by decide)] at hR
  simp only at hR
  have cw := Lib.hid (fun W (G : Nat → Prop) (sb : Nat) (hG : Dsk W G p D) (hQ : Blk W q 87 (jCells p J)) (ha : SlOf mkS W (some ⟨sb, 0, none⟩) [r]) => wrap_any G p q D J J.b J.turn J.n (some ⟨sb, 0, none⟩) 1 [r] W hG hQ h2 ht hnn (by simp) (by intro x hx; obtain rfl := List.mem_singleton.1 hx; exact hr) hb ha)
  have hxz : (wrapJ (D.half * 64) J.turn J.n [r] J.b).1.size ≤ 63936 := by
    have := half_le h.ok
    unfold wrapJ
    split
    · exact Nat.zero_le _
    · simp only; omega
  have hxe : (wrapJ (D.half * 64) J.turn J.n [r] J.b).2 = 0 ∨ (wrapJ (D.half * 64) J.turn J.n [r] J.b).2 = 14 := by
    unfold wrapJ
    split
    · exact .inr rfl
    · exact .inl rfl
  generalize wrapJ (D.half * 64) J.turn J.n [r] J.b = X at cw hR hxz hxe
  obtain ⟨b, er⟩ := X
  simp only at cw hR hxz hxe
  have HK := Lib.hid (And.intro h2 (And.intro hwh (And.intro hb hd)))
  have HR := Lib.hid hR
  generalize addJ D J r = R at HR ⊢
  obtain ⟨ev0, hev0⟩ : ∃ ev0, ev0 = errV er := ⟨_, rfl⟩
  rw [← hev0] at cw
  have HE0 := Lib.hid hev0
  have HNN := Lib.hid hnn
  have HDD := Lib.hid hdd
  have HQW := Lib.hid hq
  have HXE := Lib.hid hxe
  clear h hq hdd hn hg hgF hR h2 ht hwh hnn hb hr hd hev0 hxe
  go_enter Tryz.func27, Tryz.ntmps27
  go_upto_region 3 with fail
  have HJU := HJ
  have HQ := Lib.hid ((HJ.out.below ((Below.refl _ _).drew)).blk)
  clear x5
  refine wp_region_fam (S := (jA q p J)) (ds := (fun _ => [])) (by kernel_rfl) ?_
  refine wpFam_take (i := 0) 0 (some 16) (v := ?_) rfl (by kernel_rfl) (by kernel_rfl) (by kernel_rfl) (by kernel_rfl) (by kernel_rfl) (fun _ _ _ h => h) rfl (Or.inl ⟨by rfl, ?_⟩) (by exact trivial) ?_
  rotate_left
  · (intro w hSw; (try simp only [jA] at hSw); go_simp); (try with_reducible rfl)
  try simp only [Act.put, List.setIfInBounds_toArray, List.set_cons_zero, List.set_cons_succ]
  refine wpFam_take (i := 1) 0 (some 17) (v := ?_) rfl (by kernel_rfl) (by kernel_rfl) (by kernel_rfl) (by kernel_rfl) (by kernel_rfl) (fun _ _ _ h => h) rfl (Or.inl ⟨by rfl, ?_⟩) (by exact trivial) ?_
  rotate_left
  · (intro w hSw; (try simp only [jA] at hSw); go_simp); (try with_reducible rfl)
  try simp only [Act.put, List.setIfInBounds_toArray, List.set_cons_zero, List.set_cons_succ]
  refine wpFam_take (i := 2) 0 (some 18) (v := ?_) rfl (by kernel_rfl) (by kernel_rfl) (by kernel_rfl) (by kernel_rfl) (by kernel_rfl) (fun _ _ _ h => h) rfl (Or.inl ⟨by rfl, ?_⟩) (by exact trivial) ?_
  rotate_left
  · (intro w hSw; (try simp only [jA] at hSw); go_simp); (try with_reducible rfl)
  try simp only [Act.put, List.setIfInBounds_toArray, List.set_cons_zero, List.set_cons_succ]
  refine wpFam_take (i := 3) 0 (some 19) (v := ?_) rfl (by kernel_rfl) (by kernel_rfl) (by kernel_rfl) (by kernel_rfl) (by kernel_rfl) (fun _ _ _ h => h) rfl (Or.inl ⟨by rfl, ?_⟩) (by exact trivial) ?_
  rotate_left
  · (intro w hSw; (try simp only [jA] at hSw); go_simp); (try with_reducible rfl)
  try simp only [Act.put, List.setIfInBounds_toArray, List.set_cons_zero, List.set_cons_succ]
  refine wpFam_take (i := 4) 4 (some 20) (v := ?_) rfl (by kernel_rfl) (by kernel_rfl) (by kernel_rfl) (by kernel_rfl) (by kernel_rfl) (fun _ _ _ h => h) rfl (Or.inl ⟨by rfl, ?_⟩) (by exact jA_of HQ.out 4) ?_
  rotate_left
  · (intro w hSw; (try simp only [jA] at hSw); go_simp); (try with_reducible rfl)
  try simp only [Act.put, List.setIfInBounds_toArray, List.set_cons_zero, List.set_cons_succ]
  refine wpFam_take (i := 5) 0 (some 21) (v := ?_) rfl (by kernel_rfl) (by kernel_rfl) (by kernel_rfl) (by kernel_rfl) (by kernel_rfl) (fun _ _ _ h => h) rfl (Or.inl ⟨by rfl, ?_⟩) (by exact trivial) ?_
  rotate_left
  · (intro w hSw; (try simp only [jA] at hSw); go_simp); (try with_reducible rfl)
  try simp only [Act.put, List.setIfInBounds_toArray, List.set_cons_zero, List.set_cons_succ]
  refine wpFam_take (i := 6) 0 (some 22) (v := ?_) rfl (by kernel_rfl) (by kernel_rfl) (by kernel_rfl) (by kernel_rfl) (by kernel_rfl) (fun _ _ _ h => h) rfl (Or.inl ⟨by rfl, ?_⟩) (by exact trivial) ?_
  rotate_left
  · (intro w hSw; (try simp only [jA] at hSw); go_simp); (try with_reducible rfl)
  try simp only [Act.put, List.setIfInBounds_toArray, List.set_cons_zero, List.set_cons_succ]
  refine wpFam_take (i := 7) 0 (some 23) (v := ?_) rfl (by kernel_rfl) (by kernel_rfl) (by kernel_rfl) (by kernel_rfl) (by kernel_rfl) (fun _ _ _ h => h) rfl (Or.inl ⟨by rfl, ?_⟩) (by exact trivial) ?_
  rotate_left
  · (intro w hSw; (try simp only [jA] at hSw); go_simp); (try with_reducible rfl)
  try simp only [Act.put, List.setIfInBounds_toArray, List.set_cons_zero, List.set_cons_succ]
  refine wpFam_take (i := 8) 2 (some 24) (v := ?_) rfl (by kernel_rfl) (by kernel_rfl) (by kernel_rfl) (by kernel_rfl) (by kernel_rfl) (fun _ _ _ h => h) rfl (Or.inl ⟨by rfl, ?_⟩) (by exact jA_of HQ.out 2) ?_
  rotate_left
  · (intro w hSw; (try simp only [jA] at hSw); go_simp); (try with_reducible rfl)
  try simp only [Act.put, List.setIfInBounds_toArray, List.set_cons_zero, List.set_cons_succ]
  refine wpFam_take (i := 9) 0 (some 25) (v := ?_) rfl (by kernel_rfl) (by kernel_rfl) (by kernel_rfl) (by kernel_rfl) (by kernel_rfl) (fun _ _ _ h => h) rfl (Or.inl ⟨by rfl, ?_⟩) (by exact trivial) ?_
  rotate_left
  · (intro w hSw; (try simp only [jA] at hSw); go_simp); (try with_reducible rfl)
  try simp only [Act.put, List.setIfInBounds_toArray, List.set_cons_zero, List.set_cons_succ]
  refine wpFam_take (i := 10) 0 (some 26) (v := ?_) rfl (by kernel_rfl) (by kernel_rfl) (by kernel_rfl) (by kernel_rfl) (by kernel_rfl) (fun _ _ _ h => h) rfl (Or.inl ⟨by rfl, ?_⟩) (by exact trivial) ?_
  rotate_left
  · (intro w hSw; (try simp only [jA] at hSw); go_simp); (try with_reducible rfl)
  try simp only [Act.put, List.setIfInBounds_toArray, List.set_cons_zero, List.set_cons_succ]
  refine wpFam_take (i := 11) 0 (some 27) (v := ?_) rfl (by kernel_rfl) (by kernel_rfl) (by kernel_rfl) (by kernel_rfl) (by kernel_rfl) (fun _ _ _ h => h) rfl (Or.inl ⟨by rfl, ?_⟩) (by exact trivial) ?_
  rotate_left
  · (intro w hSw; (try simp only [jA] at hSw); go_simp); (try with_reducible rfl)
  try simp only [Act.put, List.setIfInBounds_toArray, List.set_cons_zero, List.set_cons_succ]
  refine wpFam_take (i := 12) 5 (some 28) (v := ?_) rfl (by kernel_rfl) (by kernel_rfl) (by kernel_rfl) (by kernel_rfl) (by kernel_rfl) (fun _ _ _ h => h) rfl (Or.inl ⟨by rfl, ?_⟩) (by exact jA_of HQ.out 5) ?_
  rotate_left
  · (intro w hSw; (try simp only [jA] at hSw); go_simp); (try with_reducible rfl)
  try simp only [Act.put, List.setIfInBounds_toArray, List.set_cons_zero, List.set_cons_succ]
  refine wpFam_take (i := 13) 0 (some 29) (v := ?_) rfl (by kernel_rfl) (by kernel_rfl) (by kernel_rfl) (by kernel_rfl) (by kernel_rfl) (fun _ _ _ h => h) rfl (Or.inl ⟨by rfl, ?_⟩) (by exact trivial) ?_
  rotate_left
  · (intro w hSw; (try simp only [jA] at hSw); go_simp); (try with_reducible rfl)
  try simp only [Act.put, List.setIfInBounds_toArray, List.set_cons_zero, List.set_cons_succ]
  refine wpFam_ready (rs := [14]) (by kernel_rfl) (by simp) ?_
  refine AllReadyF.cons (i := 14) rfl (fun K hK => ?_) ?_
  ·
    go_simp
    have hn0 : (w.alloc (.cells #[.string r] 9)).heap[w.heap.size]? = some (.cells #[.string r] 9 (0, 0)) := heap_alloc_new w _
    have hj0 := HJU.out.below ((Below.refl _ _).alloc (Nat.le_refl _) (.cells #[.string r] 9))
    generalize w.alloc (.cells #[.string r] 9) = w1 at hn0 hj0 ⊢
    generalize w.heap.size = sb at hn0 ⊢
    have HSB := Lib.hid hn0
    have HJ1 := Lib.hid (hj0.below ((Below.refl _ _).drew))
    replace HQ := Lib.hid (HJ1.out.blk)
    clear hn0 hj0
    try change K (Act.put _ (some 30) _) _
    refine hK.out _ _ ?_ ?_
    · ((intro i _ _; exact jA_of HQ.out i))
    clear hK K
    try simp only [Act.put, List.setIfInBounds_toArray, List.set_cons_zero, List.set_cons_succ]
    refine wpFam_ready (rs := [15]) (by kernel_rfl) (by simp) ?_
    refine AllReadyF.cons (i := 15) rfl (fun K hK => ?_) ?_
    ·
      refine step_call Tryz.func52 (by kernel_rfl) rfl #[.pointer (some ⟨q, 0, none⟩), .string J.b, .int .i64 (J.turn : Int), .int .i64 (J.n : Int), .slice (some ⟨sb, 0, none⟩) 1 1] (by rfl) (by rfl) (by first | rfl | (simp [Act.eval, Act.put]; done)) ?_
      refine (cw.out _ _ _ HJ1.out.dsk HJ1.out.blk (sl_one HSB.out)).mono ?_
      rintro e w2 ⟨rfl, hb⟩
      have HJ2 := Lib.hid (HJ1.out.below hb)
      replace HQ := Lib.hid (HJ2.out.blk)
      clear hb
      refine ⟨_, rfl, ?_⟩
      try change K (Act.put _ (some 31) _) _
      refine hK.out _ _ ?_ ?_
      · ((intro i _ _; exact jA_of HQ.out i))
      clear hK K
      try simp only [Act.put, List.setIfInBounds_toArray, List.set_cons_zero, List.set_cons_succ]
      refine wpFam_take (i := 16) 0 (some 15) (v := ?_) rfl (by kernel_rfl) (by kernel_rfl) (by kernel_rfl) (by kernel_rfl) (by kernel_rfl) (fun _ _ _ h => h) rfl (Or.inl ⟨by rfl, ?_⟩) (by exact trivial) ?_
      rotate_left
      · (intro w hSw; (try simp only [jA] at hSw); go_simp); (try with_reducible rfl)
      try simp only [Act.put, List.setIfInBounds_toArray, List.set_cons_zero, List.set_cons_succ]
      refine wpFam_take (i := 17) 0 (some 32) (v := ?_) rfl (by kernel_rfl) (by kernel_rfl) (by kernel_rfl) (by kernel_rfl) (by kernel_rfl) (fun _ _ _ h => h) rfl (Or.inl ⟨by rfl, ?_⟩) (by exact trivial) ?_
      rotate_left
      · (intro w hSw; (try simp only [jA] at hSw); go_simp); (try with_reducible rfl)
      try simp only [Act.put, List.setIfInBounds_toArray, List.set_cons_zero, List.set_cons_succ]
      refine wpFam_take (i := 18) 0 (some 33) (v := ?_) rfl (by kernel_rfl) (by kernel_rfl) (by kernel_rfl) (by kernel_rfl) (by kernel_rfl) (fun _ _ _ h => h) rfl (Or.inl ⟨by rfl, ?_⟩) (by exact trivial) ?_
      rotate_left
      · (intro w hSw; (try simp only [jA] at hSw); go_simp); (try with_reducible rfl)
      try simp only [Act.put, List.setIfInBounds_toArray, List.set_cons_zero, List.set_cons_succ]
      refine wpFam_take (i := 19) 0 (some 5) (v := ?_) rfl (by kernel_rfl) (by kernel_rfl) (by kernel_rfl) (by kernel_rfl) (by kernel_rfl) (fun _ _ _ h => h) rfl (Or.inl ⟨by rfl, ?_⟩) (by exact trivial) ?_
      rotate_left
      · (intro w hSw; (try simp only [jA] at hSw); go_simp); (try with_reducible rfl)
      try simp only [Act.put, List.setIfInBounds_toArray, List.set_cons_zero, List.set_cons_succ]
      refine wpFam_take (i := 20) 0 (some 6) (v := ?_) rfl (by kernel_rfl) (by kernel_rfl) (by kernel_rfl) (by kernel_rfl) (by kernel_rfl) (fun _ _ _ h => h) rfl (Or.inl ⟨by rfl, ?_⟩) (by exact trivial) ?_
      rotate_left
      · (intro w hSw; (try simp only [jA] at hSw); go_simp); (try with_reducible rfl)
      try simp only [Act.put, List.setIfInBounds_toArray, List.set_cons_zero, List.set_cons_succ]
      refine wpFam_done (by kernel_rfl) ?_ _
      have hR := HR.out
      by_cases he : er = 0
      · subst he
        obtain rfl : ev0 = .nilIface := HE0.out.trans errV_zero
        rw [if_neg (by decide)] at hR
        obtain ⟨i0, hi0⟩ : ∃ i0, i0 = J.b.size / 64 := ⟨_, rfl⟩
        obtain ⟨Y, hY⟩ : ∃ Y, Y = putF J.which b (b.size + 1) i0 D := ⟨_, rfl⟩
        rw [← hi0, ← hY] at hR
        have HRR := Lib.hid hR
        have HY := Lib.hid hY
        have hiI : (J.b.size : Int) / 64 = (i0 : Int) := by omega
        have hil : i0 ≤ 16000 := by have := HK.out.2.2.1; omega
        have hbs : J.b.size ≤ 1000000 := HK.out.2.2.1
        clear hR hY hi0 HR HE0 HXE cw HQ HJ1 HSB
        go_upto_region 5 with fail
        have hj3 := HJ2.out.below ((Below.refl _ _).alloc (Nat.le_refl _) (.cells #[.int .i64 0] 34))
        generalize w2.alloc (.cells #[.int .i64 0] 34) = w3 at hj3 ⊢
        generalize w2.heap.size = cb
        have x3 := hj3.blk.cell 3
        simp [jCells] at x3
        have HJ3 := Lib.hid hj3
        clear hj3 HJ2
        go_upto_region 8 with (go_at_call 57; refine (as_nil _ _).mono ?_; rintro e w4 ⟨rfl, rfl⟩)
        clear x3
        go_loopw [8] (fun v8 wr => ∃ (i : Nat) (D1 : DS) (f : Nat), v8 = .int .i64 (i : Int) ∧ i ≤ 20000 ∧ b.size < (f + i) * 64 ∧ Hid (D1.sure.length = D.sure.length ∧ D1.done ≤ D.done + i) ∧ Hid (Y = putF J.which b f i D1) ∧ Hid (JPost F p q w D1 J wr)) (fun v8 _ => 20000 - (intOf v8).toNat)
        case atStart => exact ⟨i0, D, b.size + 1, rfl, by omega, by omega, ⟨rfl, Nat.le_add_right _ _⟩, HY, HJ3⟩
        case round =>
          clear HJ3 HY
          obtain ⟨i, D1, f, rfl, hi1, hf, HL, HYr, HJ⟩ := hrel
          have hY := HYr.out
          by_cases hlt : i * 64 < b.size
          · obtain ⟨f', rfl⟩ : ∃ f', f = f' + 1 := ⟨f - 1, by omega⟩
            unfold putF at hY
            rw [if_neg (by omega)] at hY
            have q1 : (i : Int) * 64 < (b.size : Int) := by omega
            have hlen1 : 2 ≤ D1.sure.length := by rw [HL.out.1]; exact HK.out.1
            obtain ⟨qs, hqs⟩ : ∃ qs, qs = D1.sec J.which i := ⟨_, rfl⟩
            have cs := Lib.hid (fun W (G : Nat → Prop) (hG : Dsk W G p D1) => sector_any W G p D1 J.which i HK.out.2.1 (by omega) hlen1 hG)
            have e64 : ((i * 64 : Nat) : Int) = (i : Int) * 64 := by omega
            obtain ⟨x, hx⟩ : ∃ x, x = partB b (i * 64) 64 := ⟨_, rfl⟩
            have cp : Hid (∀ W, Calls Tryz.prog 66 #[.string b, .int .i64 ((i : Int) * 64), .int .i64 64] W fun e w' => e = .returned (.string x) ∧ W = w') := fun W => by
              have := part_any b (i * 64) 64 (by omega) (by omega) (by omega) W
              rw [e64, ← hx] at this
              exact this
            have hiW : IntKind.i64.wrap ((i : Int) * 64) = (i : Int) * 64 := IntWalk.i64_in _ (by omega)
            have ci := Lib.hid (fun W (G : Nat → Prop) (hG : Dsk W G p D1) => Write_any W G p D1 (qs : Int) x (by have := HL.out.2; have := HK.out.2.2.2; omega) hG)
            rw [← hqs] at cs hY
            rw [← hx] at hY
            obtain ⟨c, hc⟩ : ∃ c, c = D1.writeC (qs : Int) x := ⟨_, rfl⟩
            obtain ⟨D2, hD2⟩ : ∃ D2, D2 = D1.write (qs : Int) x := ⟨_, rfl⟩
            rw [← hc, ← hD2] at ci hY
            have HL2 : Hid (D2.sure.length = D.sure.length ∧ D2.done ≤ D.done + (i + 1)) := ⟨by rw [hD2, DS.write_len]; exact HL.out.1, by have := D1.write_done (qs : Int) x; rw [← hD2] at this; have := HL.out.2; omega⟩
            obtain ⟨ev, hev⟩ : ∃ ev, ev = errV c := ⟨_, rfl⟩
            rw [← hev] at ci
            have HEV := Lib.hid hev
            clear hqs hx hc hD2 hev e64 HYr hlt hlen1
            go_upto_region 10 with fail
            have HQ := Lib.hid ((HJ.out.below ((Below.refl _ _).drew)).blk)
            have HJd := Lib.hid (HJ.out.below ((Below.refl _ _).drew))
            clear HJ
            have HJ := HJd
            clear HJd
            refine wp_region_fam (S := (jA q p J)) (ds := (fun _ => [])) (by kernel_rfl) ?_
            refine wpFam_take (i := 0) 0 (some 52) (v := ?_) rfl (by kernel_rfl) (by kernel_rfl) (by kernel_rfl) (by kernel_rfl) (by kernel_rfl) (fun _ _ _ h => h) rfl (Or.inl ⟨by rfl, ?_⟩) (by exact trivial) ?_
            rotate_left
            · (intro w hSw; (try simp only [jA] at hSw); go_simp); (try with_reducible rfl)
            try simp only [Act.put, List.setIfInBounds_toArray, List.set_cons_zero, List.set_cons_succ]
            refine wpFam_take (i := 1) 0 (some 53) (v := ?_) rfl (by kernel_rfl) (by kernel_rfl) (by kernel_rfl) (by kernel_rfl) (by kernel_rfl) (fun _ _ _ h => h) rfl (Or.inl ⟨by rfl, ?_⟩) (by exact trivial) ?_
            rotate_left
            · (intro w hSw; (try simp only [jA] at hSw); go_simp); (try with_reducible rfl)
            try simp only [Act.put, List.setIfInBounds_toArray, List.set_cons_zero, List.set_cons_succ]
            refine wpFam_take (i := 2) 0 (some 54) (v := ?_) rfl (by kernel_rfl) (by kernel_rfl) (by kernel_rfl) (by kernel_rfl) (by kernel_rfl) (fun _ _ _ h => h) rfl (Or.inl ⟨by rfl, ?_⟩) (by exact trivial) ?_
            rotate_left
            · (intro w hSw; (try simp only [jA] at hSw); go_simp); (try with_reducible rfl)
            try simp only [Act.put, List.setIfInBounds_toArray, List.set_cons_zero, List.set_cons_succ]
            refine wpFam_take (i := 3) 1 (some 55) (v := ?_) rfl (by kernel_rfl) (by kernel_rfl) (by kernel_rfl) (by kernel_rfl) (by kernel_rfl) (fun _ _ _ h => h) rfl (Or.inl ⟨by rfl, ?_⟩) (by exact jA_of HQ.out 1) ?_
            rotate_left
            · (intro w hSw; (try simp only [jA] at hSw); go_simp); (try with_reducible rfl)
            try simp only [Act.put, List.setIfInBounds_toArray, List.set_cons_zero, List.set_cons_succ]
            refine wpFam_take (i := 4) 0 (some 56) (v := ?_) rfl (by kernel_rfl) (by kernel_rfl) (by kernel_rfl) (by kernel_rfl) (by kernel_rfl) (fun _ _ _ h => h) rfl (Or.inl ⟨by rfl, ?_⟩) (by exact trivial) ?_
            rotate_left
            · (intro w hSw; (try simp only [jA] at hSw); go_simp); (try with_reducible rfl)
            try simp only [Act.put, List.setIfInBounds_toArray, List.set_cons_zero, List.set_cons_succ]
            refine wpFam_take (i := 5) 0 (some 57) (v := ?_) rfl (by kernel_rfl) (by kernel_rfl) (by kernel_rfl) (by kernel_rfl) (by kernel_rfl) (fun _ _ _ h => h) rfl (Or.inl ⟨by rfl, ?_⟩) (by exact trivial) ?_
            rotate_left
            · (intro w hSw; (try simp only [jA] at hSw); go_simp); (try with_reducible rfl)
            try simp only [Act.put, List.setIfInBounds_toArray, List.set_cons_zero, List.set_cons_succ]
            refine wpFam_take (i := 6) 0 (some 58) (v := ?_) rfl (by kernel_rfl) (by kernel_rfl) (by kernel_rfl) (by kernel_rfl) (by kernel_rfl) (fun _ _ _ h => h) rfl (Or.inl ⟨by rfl, ?_⟩) (by exact trivial) ?_
            rotate_left
            · (intro w hSw; (try simp only [jA] at hSw); go_simp); (try with_reducible rfl)
            try simp only [Act.put, List.setIfInBounds_toArray, List.set_cons_zero, List.set_cons_succ]
            refine wpFam_take (i := 7) 1 (some 59) (v := ?_) rfl (by kernel_rfl) (by kernel_rfl) (by kernel_rfl) (by kernel_rfl) (by kernel_rfl) (fun _ _ _ h => h) rfl (Or.inl ⟨by rfl, ?_⟩) (by exact jA_of HQ.out 1) ?_
            rotate_left
            · (intro w hSw; (try simp only [jA] at hSw); go_simp); (try with_reducible rfl)
            try simp only [Act.put, List.setIfInBounds_toArray, List.set_cons_zero, List.set_cons_succ]
            refine wpFam_take (i := 8) 0 (some 60) (v := ?_) rfl (by kernel_rfl) (by kernel_rfl) (by kernel_rfl) (by kernel_rfl) (by kernel_rfl) (fun _ _ _ h => h) rfl (Or.inl ⟨by rfl, ?_⟩) (by exact trivial) ?_
            rotate_left
            · (intro w hSw; (try simp only [jA] at hSw); go_simp); (try with_reducible rfl)
            try simp only [Act.put, List.setIfInBounds_toArray, List.set_cons_zero, List.set_cons_succ]
            refine wpFam_take (i := 9) 0 (some 61) (v := ?_) rfl (by kernel_rfl) (by kernel_rfl) (by kernel_rfl) (by kernel_rfl) (by kernel_rfl) (fun _ _ _ h => h) rfl (Or.inl ⟨by rfl, ?_⟩) (by exact trivial) ?_
            rotate_left
            · (intro w hSw; (try simp only [jA] at hSw); go_simp); (try with_reducible rfl)
            try simp only [Act.put, List.setIfInBounds_toArray, List.set_cons_zero, List.set_cons_succ]
            refine wpFam_take (i := 10) 0 (some 62) (v := ?_) rfl (by kernel_rfl) (by kernel_rfl) (by kernel_rfl) (by kernel_rfl) (by kernel_rfl) (fun _ _ _ h => h) rfl (Or.inl ⟨by rfl, ?_⟩) (by exact trivial) ?_
            rotate_left
            · (intro w hSw; (try simp only [jA] at hSw); go_simp); (try with_reducible rfl)
            try simp only [Act.put, List.setIfInBounds_toArray, List.set_cons_zero, List.set_cons_succ]
            refine wpFam_take (i := 11) 3 (some 63) (v := ?_) rfl (by kernel_rfl) (by kernel_rfl) (by kernel_rfl) (by kernel_rfl) (by kernel_rfl) (fun _ _ _ h => h) rfl (Or.inl ⟨by rfl, ?_⟩) (by exact jA_of HQ.out 3) ?_
            rotate_left
            · (intro w hSw; (try simp only [jA] at hSw); go_simp); (try with_reducible rfl)
            try simp only [Act.put, List.setIfInBounds_toArray, List.set_cons_zero, List.set_cons_succ]
            refine wpFam_take (i := 12) 0 (some 64) (v := ?_) rfl (by kernel_rfl) (by kernel_rfl) (by kernel_rfl) (by kernel_rfl) (by kernel_rfl) (fun _ _ _ h => h) rfl (Or.inl ⟨by rfl, ?_⟩) (by exact trivial) ?_
            rotate_left
            · (intro w hSw; (try simp only [jA] at hSw); go_simp); (try with_reducible rfl)
            try simp only [Act.put, List.setIfInBounds_toArray, List.set_cons_zero, List.set_cons_succ]
            refine wpFam_take (i := 14) 0 (some 66) (v := ?_) rfl (by kernel_rfl) (by kernel_rfl) (by kernel_rfl) (by kernel_rfl) (by kernel_rfl) (fun _ _ _ h => h) rfl (Or.inl ⟨by rfl, ?_⟩) (by exact trivial) ?_
            rotate_left
            · (intro w hSw; (try simp only [jA] at hSw); go_simp); (try with_reducible rfl)
            try simp only [Act.put, List.setIfInBounds_toArray, List.set_cons_zero, List.set_cons_succ]
            refine wpFam_take (i := 15) 0 (some 67) (v := ?_) rfl (by kernel_rfl) (by kernel_rfl) (by kernel_rfl) (by kernel_rfl) (by kernel_rfl) (fun _ _ _ h => h) rfl (Or.inl ⟨by rfl, ?_⟩) (by exact trivial) ?_
            rotate_left
            · (intro w hSw; (try simp only [jA] at hSw); go_simp); (try with_reducible rfl)
            try simp only [Act.put, List.setIfInBounds_toArray, List.set_cons_zero, List.set_cons_succ]
            refine wpFam_take (i := 16) 0 (some 68) (v := ?_) rfl (by kernel_rfl) (by kernel_rfl) (by kernel_rfl) (by kernel_rfl) (by kernel_rfl) (fun _ _ _ h => h) rfl (Or.inl ⟨by rfl, ?_⟩) (by exact trivial) ?_
            rotate_left
            · (intro w hSw; (try simp only [jA] at hSw); go_simp); (try with_reducible rfl)
            try simp only [Act.put, List.setIfInBounds_toArray, List.set_cons_zero, List.set_cons_succ]
            refine wpFam_ready (rs := [13]) (by kernel_rfl) (by simp) ?_
            refine AllReadyF.cons (i := 13) rfl (fun K hK => ?_) ?_
            ·
              refine step_call Tryz.func39 (by kernel_rfl) rfl #[.pointer (some ⟨p, 0, none⟩), .int .i64 (J.which : Int), .int .i64 (i : Int)] (by rfl) (by rfl) (by first | rfl | (simp [Act.eval, Act.put, hiW]; done)) ?_
              refine (cs.out _ _ HJ.out.dsk).mono ?_
              rintro e w6 ⟨rfl, rfl⟩
              refine ⟨_, rfl, ?_⟩
              try change K (Act.put _ (some 65) _) _
              refine hK.out _ _ ?_ ?_
              · ((intro i _ _; exact jA_of HQ.out i))
              clear hK K
              try simp only [Act.put, List.setIfInBounds_toArray, List.set_cons_zero, List.set_cons_succ]
              refine wpFam_ready (rs := [17]) (by kernel_rfl) (by simp) ?_
              refine AllReadyF.cons (i := 17) rfl (fun K hK => ?_) ?_
              ·
                refine step_call Tryz.func66 (by kernel_rfl) rfl #[.string b, .int .i64 ((i : Int) * 64), .int .i64 64] (by rfl) (by rfl) (by first | rfl | (simp [Act.eval, Act.put, hiW]; done)) ?_
                refine (cp.out _).mono ?_
                rintro e w6 ⟨rfl, rfl⟩
                refine ⟨_, rfl, ?_⟩
                try change K (Act.put _ (some 69) _) _
                refine hK.out _ _ ?_ ?_
                · ((intro i _ _; exact jA_of HQ.out i))
                clear hK K
                try simp only [Act.put, List.setIfInBounds_toArray, List.set_cons_zero, List.set_cons_succ]
                refine wpFam_ready (rs := [18]) (by kernel_rfl) (by simp) ?_
                refine AllReadyF.cons (i := 18) rfl (fun K hK => ?_) ?_
                ·
                  refine step_call Tryz.func11 (by kernel_rfl) rfl #[.pointer (some ⟨p, 0, none⟩), .int .i64 (qs : Int), .string x] (by rfl) (by rfl) (by first | rfl | (simp [Act.eval, Act.put, hiW]; done)) ?_
                  refine (ci.out _ _ HJ.out.dsk).mono ?_
                  rintro e w7 ⟨rfl, hp⟩
                  have HJ3 := Lib.hid (HJ.out.disk HNQ.out.1 HNQ.out.2 hp)
                  replace HQ := Lib.hid (HJ3.out.blk)
                  clear hp
                  refine ⟨_, rfl, ?_⟩
                  try change K (Act.put _ (some 70) _) _
                  refine hK.out _ _ ?_ ?_
                  · ((intro i _ _; exact jA_of HQ.out i))
                  clear hK K
                  try simp only [Act.put, List.setIfInBounds_toArray, List.set_cons_zero, List.set_cons_succ]
                  refine wpFam_take (i := 19) 0 (some 9) (v := ?_) rfl (by kernel_rfl) (by kernel_rfl) (by kernel_rfl) (by kernel_rfl) (by kernel_rfl) (fun _ _ _ h => h) rfl (Or.inl ⟨by rfl, ?_⟩) (by exact trivial) ?_
                  rotate_left
                  · (intro w hSw; (try simp only [jA] at hSw); go_simp); (try with_reducible rfl)
                  try simp only [Act.put, List.setIfInBounds_toArray, List.set_cons_zero, List.set_cons_succ]
                  refine wpFam_done (by kernel_rfl) ?_ _
                  by_cases hc0 : c = 0
                  · subst hc0
                    obtain rfl : ev = .nilIface := HEV.out.trans errV_zero
                    rw [if_neg (by decide)] at hY
                    have HY2 := Lib.hid hY
                    clear hY
                    go_wp2
                    go_roundw
                    case rel => exact ⟨i + 1, D2, f', by go_num, by omega, by omega, HL2, HY2, HJ3⟩
                    case measure => simp [intOf]; omega
                  · obtain rfl : ev = .iface 34 (.int .i64 c) := HEV.out.trans (errV_ne hc0)
                    rw [if_pos hc0] at hY
                    have HY2 := Lib.hid hY
                    have cz := Lib.hid (fails_any _ p q D2 J c _ HJ3.out.dsk HJ3.out.blk)
                    unfold JS.fail at cz
                    rw [if_neg hc0, errV_ne hc0] at cz
                    have HC := Lib.hid (And.intro hc0 (errV_ne hc0))
                    clear hY hc0
                    go_wp2_with (go_at_call 51; (with_reducible refine cz.out.mono ?_); rintro e w8 ⟨rfl, hp⟩; have HJ4 := Lib.hid (HJ3.out.then HNQ.out.1 HNQ.out.2 hp); clear hp)
                    go_ret
                    have hr := HRR.out
                    rw [HY2.out, if_pos (show (D2, c).2 ≠ 0 from HC.out.1)] at hr
                    rw [hr]
                    exact ⟨by rw [HC.out.2]; rfl, HJ4.out⟩
                exact AllReadyF.nil
              exact AllReadyF.nil
            exact AllReadyF.nil
          · have hY0 : Y = (D1, 0) := by
              rw [hY]
              cases f with
              | zero => rfl
              | succ f =>
                unfold putF
                rw [if_pos (by omega)]
            have q1 : (b.size : Int) ≤ (i : Int) * 64 := by omega
            have hr := HRR.out
            rw [hY0, if_neg (show ¬ ((D1, (0 : Int)).2 ≠ 0) from fun h => h rfl)] at hr
            have HR3 := Lib.hid hr
            have x4 := HJ.out.blk.cell 4
            have f3 := HJ.out.blk.frozen 3
            have f4 := HJ.out.blk.frozen 4
            have x3 := HJ.out.blk.cell 3
            simp [jCells] at x3 x4
            have hnn : J.n ≤ 100000 := HNN.out
            clear hY hY0 hr hlt HYr
            go_wp2
            go_ret
            rw [HR3.out]
            refine ⟨rfl, ?_⟩
            show JPost F p q w D1 ⟨J.turn, J.which, b, J.n + 1, false⟩ _
            rw [← HDD.out]
            exact (HJ.out.set 3 (.string b) (J2 := { J with b := b }) rfl).set 4 _ rfl
      · obtain rfl : ev0 = .iface 34 (.int .i64 er) := HE0.out.trans (errV_ne he)
        rw [if_pos he] at hR
        have HRR := Lib.hid hR
        have HE := Lib.hid (errV_ne he)
        have hgv : ErrVar w2 := (by
          have h1 := HG.out.1
          have hlt : 0 < w.heap.size := cell_lt h1
          have hne : 0 ≠ q := fun e => by
            subst e
            have hb := HQW.out.cell 0
            unfold ErrVar at h1
            rw [hb] at h1
            cases h1
          exact (World.cell?_of_block (HJ2.out.1.block _ hlt (fun h => h.elim HG.out.2 hne))).trans h1)
        have HGV := Lib.hid hgv
        clear hR he HR HE0 HXE cw HQ HJ1 HSB hgv
        go_upto_region 5 with fail
        have hj3 := HJ2.out.below ((Below.refl _ _).alloc (Nat.le_refl _) (.cells #[.int .i64 0] 34))
        have hgv3 : ErrVar (w2.alloc (.cells #[.int .i64 0] 34)) := ErrVar.below HGV.out ((Below.refl _ _).alloc (Nat.le_refl _) _)
        have HGV3 := Lib.hid hgv3
        clear hj3 hgv3 HGV
        go_wp2_with (go_at_call 57; refine (as_hit ⟨w2.heap.size, 0, none⟩ er (.int .i64 0) _ HGV3.out (new_cell w2 _ _ 0) (new_frozen w2 _ _ 0)).mono ?_; rintro e w5 ⟨rfl, w4, hb, rfl, ⟨old, ho⟩, hl⟩; have hcell : (w4.setCell ⟨w2.heap.size, 0, none⟩ (.int .i64 er)).cell? ⟨w2.heap.size, 0, none⟩ = some (.int .i64 er) := World.cell?_setCell_same' _ _ _ (by rw [ho]; rfl); have HJ5 := Lib.hid (HJ2.out.below ((((Below.refl _ _).alloc (Nat.le_refl _) _).trans (hb.mono (by simp))).setCell (p := ⟨w2.heap.size, 0, none⟩) (Nat.le_refl _) (.int .i64 er))); clear hb ho)
        go_ret
        rw [HRR.out]
        exact ⟨by rw [HE.out]; rfl, HJ5.out⟩
    exact AllReadyF.nil
  exact AllReadyF.nil
end Go.Proofs.YtjincmagbbpooaaGreatDoor

