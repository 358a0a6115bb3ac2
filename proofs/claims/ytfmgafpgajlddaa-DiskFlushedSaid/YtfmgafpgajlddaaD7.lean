import Derived.Test.YtfmgafpgajlddaaD6
import Derived.Deep.DeepCutAuto
set_option linter.unusedVariables false
set_option linter.unusedSimpArgs false
namespace Go.Proofs.Ytfmgafpgajlddaa
open Go.RowKit
attribute [local go_sem] max2_int max_two min2_int min_two

def zerosC (n : Nat) : Array Value := (List.replicate n (.int .u8 0)).toArray
theorem Try.infoU8 : (Try.prog.info? 5).map (fun i => (i.zero, i.size, i.bytes)) = some (some (.int .u8 0), 1, 1) := by kernel_rfl
theorem make_zeros (w : World) (n : Nat) (h2 : n ≤ 1000000) : (Instr.makeSlice 28 (.int .i64 (n : Int)) (.int .i64 (n : Int))).run Try.prog w = .ok (.slice (some ⟨w.heap.size, 0, none⟩) n n) (w.alloc (.cells (zerosC n) 5)) := by
  obtain ⟨i0, hi, hz0, hz1, hz2⟩ := info_parts Try.infoU8
  have := run_make (P := Try.prog) w 28 5 i0 _ Try.underlying28 hi hz0 .i64 .i64 n n (by omega) (by omega) (by rw [hz2]; omega) (by omega)
  rw [this]
  simp only [Int.toNat_natCast, hz1, Nat.mul_one]
  have e : madeCells (Value.int .u8 0).cells n = zerosC n := by
    unfold zerosC
    apply Array.ext'
    simp [madeCells, Value.cells]
    apply List.ext_getElem
    · simp
    · intro i h1 h2
      simp [Nat.mod_one]
  rw [e]
theorem conv_zeros (W : World) (b n : Nat) (h : W.heap[b]? = some (.cells (zerosC n) 5 (0, 0))) : (convert 28 9 (.slice (some ⟨b, 0, none⟩) n n)).run Try.prog W = .ok (.string (zeroB n)) W := by
  have := run_convert_bytes_arg W 28 5 Try.underlying28 Try.underlying5 b 0 n n (List.replicate n 0) (by simp) (fun i hi => by
    rw [Nat.zero_add, cellAt h i]
    simp [zerosC, hi, List.getD_eq_getElem?_getD]) 9 Try.underlying9
  rw [this]
  congr 2
  unfold zeroB
  apply ByteArray.ext
  simp [strOfNums]

theorem save_blk {F : Nat → Prop} {w w' : World} {g : Nat} {t : TypeId} {cs : Array Value} (hs : Save F w w') (h : Blk w g t cs) (hF : ¬ F g) : Blk w' g t cs := h.save hs hF
theorem blk_new1 (w : World) (o : Obj) (t : TypeId) (cs : Array Value) : Blk ((w.alloc o).alloc (.cells cs t)) (w.heap.size + 1) t cs := by
  have h := Blk.new (w.alloc o) t cs
  have e : (w.alloc o).heap.size = w.heap.size + 1 := by simp
  rw [e] at h
  exact h

set_option maxHeartbeats 8000000 in
set_option maxRecDepth 100000 in
theorem DiskLimits_any (z : Int) (more : Nat) (hm : more < 256) (w : World) :
    Calls Try.prog 3 #[.int .i64 z, .int .u8 (more : Int)] w fun e w' => e = .returned (.bool true) ∧ Below w.heap.size w w' := by
  have ck := Lib.hid (known1_any w)
  obtain ⟨k, hk⟩ : ∃ k : Nat, mnI (mxI z 1) 2000 = (k : Int) := ⟨(mnI (mxI z 1) 2000).toNat, by unfold mnI mxI; split <;> split <;> omega⟩
  have hk1 : 1 ≤ k ∧ k ≤ 2000 := by unfold mnI mxI at hk; split at hk <;> split at hk <;> omega
  have hk2 : mxI 1 (mnI z 2000) = (k : Int) := by unfold mnI mxI at hk ⊢; split at hk <;> split at hk <;> split <;> split <;> omega
  obtain ⟨hk3, hk4⟩ := hk1
  have cn := Lib.hid (fun w => New_own w z k hk hk3 hk4)
  have e1 : Builtin.min_ #[3, 3] 3 #[.int .i64 z, .int .i64 2000] = (pure (.int .i64 (mnI z 2000)) : Sem Value) := by rw [min_two, min2_int]; rfl
  have e2 : Builtin.max_ #[3, 3] 3 #[.int .i64 1, .int .i64 (mnI z 2000)] = (pure (.int .i64 (k : Int)) : Sem Value) := by rw [max_two, max2_int, hk2]; rfl
  have hsl : (newD k).sure.length = k := by simp [newD]
  have m1 : ∀ D : DS, D.dead = false → D.sure.length = k → D.may ((k : Int) - 1) = 0 ∧ D.may 0 = 0 ∧ D.may (k : Int) = 14 ∧ D.may (-1) = 14 := by
    intro D hd hl
    unfold DS.may
    rw [hl, hd]
    refine ⟨?_, ?_, ?_, ?_⟩
    · rw [if_neg (by decide), if_neg (by omega)]
    · rw [if_neg (by decide), if_neg (by omega)]
    · rw [if_neg (by decide), if_pos (by omega)]
    · rw [if_neg (by decide), if_pos (by omega)]
  obtain ⟨D1, hD1⟩ : ∃ D, D = (newD k).put (k - 1) ⟨#[120]⟩ := ⟨_, rfl⟩
  obtain ⟨D2, hD2⟩ : ∃ D, D = D1.put 0 (zeroB 64) := ⟨_, rfl⟩
  have a1 : D1.dead = false ∧ D1.sure.length = k ∧ D1.done = 1 ∧ D1.left = -1 ∧ D1.loose.length = 1 := by rw [hD1]; exact ⟨rfl, hsl, rfl, rfl, rfl⟩
  have a2 : D2.dead = false ∧ D2.sure.length = k ∧ D2.done = 2 ∧ D2.left = -1 ∧ D2.loose.length = 2 := by rw [hD2, hD1]; exact ⟨rfl, hsl, rfl, rfl, rfl⟩
  have w0 : (newD k).writeC ((k : Int) - 1) ⟨#[120]⟩ = 0 := DS.writeC_zero.2 ⟨(m1 _ rfl hsl).1, by decide, by show (-1 : Int) ≠ 0; decide⟩
  have cw1 := Lib.hid (fun B w p => Write_own B w p (newD k) ((k : Int) - 1) ⟨#[120]⟩ D1 0 .nilIface w0 rfl (by
    unfold DS.write; rw [if_pos w0, hD1, show ((k : Int) - 1).toNat = k - 1 by omega]) (by show 0 < _; decide))
  have w1 : D1.writeC (k : Int) ⟨#[120]⟩ = 14 := by unfold DS.writeC; rw [(m1 _ a1.1 a1.2.1).2.2.1]; rfl
  have cw2 := Lib.hid (fun B w p => Write_own B w p D1 (k : Int) ⟨#[120]⟩ D1 14 (.iface 31 (.int .i64 14)) w1 rfl (by
    unfold DS.write; rw [w1, (m1 _ a1.1 a1.2.1).2.2.1]; rfl) (by rw [a1.2.2.1]; omega))
  have w2 : D1.writeC 0 (zeroB 64) = 0 := DS.writeC_zero.2 ⟨(m1 _ a1.1 a1.2.1).2.1, by rw [zeroB_size]; omega, by rw [a1.2.2.2.1]; omega⟩
  have cw3 := Lib.hid (fun F w p => Write_set F w p D1 0 (zeroB 64) D2 0 .nilIface w2 rfl (by unfold DS.write; rw [if_pos w2, hD2]; rfl) (by rw [a1.2.2.1]; omega))
  have w3 : D2.writeC 0 (zeroB (65 + more)) = 13 := by unfold DS.writeC; rw [(m1 _ a2.1 a2.2.1).2.1, if_neg (by decide), if_pos (by rw [zeroB_size]; omega)]
  have cw4 := Lib.hid (fun B w p => Write_own B w p D2 0 (zeroB (65 + more)) D2 13 (.iface 31 (.int .i64 13)) w3 rfl (by
    unfold DS.write; rw [w3, (m1 _ a2.1 a2.2.1).2.1, if_neg (by decide), if_neg (by rw [zeroB_size]; omega)]) (by rw [a2.2.2.1]; omega))
  have w4 : D2.writeC (-1) ⟨#[120]⟩ = 14 := by unfold DS.writeC; rw [(m1 _ a2.1 a2.2.1).2.2.2]; rfl
  have cw5 := Lib.hid (fun B w p => Write_own B w p D2 (-1) ⟨#[120]⟩ D2 14 (.iface 31 (.int .i64 14)) w4 rfl (by
    unfold DS.write; rw [w4, (m1 _ a2.1 a2.2.1).2.2.2]; rfl) (by rw [a2.2.2.1]; omega))
  have cl := Lib.hid (fun B w p => Len_own B w p D2 k (by rw [a2.2.1]))
  have cws := Lib.hid (fun B w p => Writes_own B w p D2 2 (by rw [a2.2.2.1]; rfl))
  have clo := Lib.hid (fun B w p => Loose_own B w p D2 2 (by rw [a2.2.2.2.2]; rfl))
  have q1 : (1 : Int) ≤ (k : Int) := by omega
  have q2 : (k : Int) ≤ 2000 := by omega
  clear hk hk2 hsl m1 hD1 hD2 a1 a2 w0 w1 w2 w3 w4
  go_enter Try.func3, Try.ntmps3
  go_wp2_with (first
    | (go_at_call 6; (with_reducible refine ck.out.mono ?_); rintro e wb ⟨rfl, hb⟩; have HB0 := Lib.hid hb; clear hb)
    | (go_at_call 7; (with_reducible refine (cn.out _).mono ?_); rintro e w2 ⟨p, rfl, hb, ho⟩; have HB := Lib.hid hb; have HO := Lib.hid ho; clear hb ho)
    | (go_at_call 8; (with_reducible refine (cw1.out _ _ _ HO.out).mono ?_); rintro e wx ⟨rfl, hb, ho⟩; replace HB := Lib.hid (HB.out.trans hb); have HO1 := Lib.hid ho; clear hb ho HO)
    | (go_at_call 8; (with_reducible refine (cw2.out _ _ _ HO1.out).mono ?_); rintro e w3 ⟨rfl, hb, ho⟩; replace HB := Lib.hid (HB.out.trans hb); replace HO1 := Lib.hid ho; clear hb ho))
  obtain ⟨n2, hn2⟩ : ∃ n2, n2 = 65 + more := ⟨_, rfl⟩
  have hs0 : IntKind.i64.wrap (more : Int) = (more : Int) := by rw [IntKind.wrap_i64]; omega
  have hs1 : IntKind.i64.wrap (65 + (more : Int)) = (n2 : Int) := by rw [IntKind.wrap_i64]; omega
  rw [← hn2] at cw4
  have hk1 : ∀ w : World, (Instr.makeSlice 28 (.int .i64 64) (.int .i64 64)).run Try.prog w = .ok (.slice (some ⟨w.heap.size, 0, none⟩) 64 64) (w.alloc (.cells (zerosC 64) 5)) := fun w => make_zeros w 64 (by omega)
  have hk2 : ∀ w : World, (Instr.makeSlice 28 (.int .i64 (n2 : Int)) (.int .i64 (n2 : Int))).run Try.prog w = .ok (.slice (some ⟨w.heap.size, 0, none⟩) n2 n2) (w.alloc (.cells (zerosC n2) 5)) := fun w => make_zeros w n2 (by omega)
  have E1 : (convert 28 9 (.slice (some ⟨w3.heap.size, 0, none⟩) 64 64)).run Try.prog ((w3.alloc (.cells (zerosC 64) 5)).drew) = .ok (.string (zeroB 64)) ((w3.alloc (.cells (zerosC 64) 5)).drew) := conv_zeros _ _ _ (Blk.new w3 _ _)
  have E2 : (convert 28 9 (.slice (some ⟨w3.heap.size, 0, none⟩) 64 64)).run Try.prog (((w3.alloc (.cells (zerosC 64) 5)).alloc (.cells (zerosC n2) 5)).drew) = .ok (.string (zeroB 64)) (((w3.alloc (.cells (zerosC 64) 5)).alloc (.cells (zerosC n2) 5)).drew) := conv_zeros _ _ _ ((Blk.new w3 _ _).alloc _)
  have E3 : (convert 28 9 (.slice (some ⟨w3.heap.size + 1, 0, none⟩) n2 n2)).run Try.prog (((w3.alloc (.cells (zerosC 64) 5)).alloc (.cells (zerosC n2) 5)).drew) = .ok (.string (zeroB n2)) (((w3.alloc (.cells (zerosC 64) 5)).alloc (.cells (zerosC n2) 5)).drew) := conv_zeros _ _ _ (blk_new1 w3 _ _ _)
  have E4 : (convert 28 9 (.slice (some ⟨w3.heap.size, 0, none⟩) n2 n2)).run Try.prog ((w3.alloc (.cells (zerosC n2) 5)).drew) = .ok (.string (zeroB n2)) ((w3.alloc (.cells (zerosC n2) 5)).drew) := conv_zeros _ _ _ (Blk.new w3 _ _)
  have E5 : (convert 28 9 (.slice (some ⟨w3.heap.size + 1, 0, none⟩) 64 64)).run Try.prog (((w3.alloc (.cells (zerosC n2) 5)).alloc (.cells (zerosC 64) 5)).drew) = .ok (.string (zeroB 64)) (((w3.alloc (.cells (zerosC n2) 5)).alloc (.cells (zerosC 64) 5)).drew) := conv_zeros _ _ _ (blk_new1 w3 _ _ _)
  have E6 : (convert 28 9 (.slice (some ⟨w3.heap.size, 0, none⟩) n2 n2)).run Try.prog (((w3.alloc (.cells (zerosC n2) 5)).alloc (.cells (zerosC 64) 5)).drew) = .ok (.string (zeroB n2)) (((w3.alloc (.cells (zerosC n2) 5)).alloc (.cells (zerosC 64) 5)).drew) := conv_zeros _ _ _ ((Blk.new w3 _ _).alloc _)
  have b1 : Below w3.heap.size w3 (w3.alloc (.cells (zerosC 64) 5)).drew := ((Below.refl _ _).alloc (Nat.le_refl _) _).drew
  have b2 : Below w3.heap.size w3 (w3.alloc (.cells (zerosC n2) 5)).drew := ((Below.refl _ _).alloc (Nat.le_refl _) _).drew
  have b3 : Below w3.heap.size w3 ((w3.alloc (.cells (zerosC 64) 5)).alloc (.cells (zerosC n2) 5)).drew := (((Below.refl _ _).alloc (Nat.le_refl _) _).alloc (by simp) _).drew
  have b4 : Below w3.heap.size w3 ((w3.alloc (.cells (zerosC n2) 5)).alloc (.cells (zerosC 64) 5)).drew := (((Below.refl _ _).alloc (Nat.le_refl _) _).alloc (by simp) _).drew
  have hn0 : ¬ Mid wb.heap.size w3.heap.size w3.heap.size := fun h => by have := h.2; omega
  have hn1 : ¬ Mid wb.heap.size w3.heap.size (w3.heap.size + 1) := fun h => by have := h.2; omega
  have hle : wb.heap.size ≤ w3.heap.size := HB.out.size
  have HD1 : Hid (Dsk w3 (Mid wb.heap.size w3.heap.size) p D1) := HO1.out
  replace b1 := Lib.hid b1
  replace b2 := Lib.hid b2
  replace b3 := Lib.hid b3
  replace b4 := Lib.hid b4
  clear hn2
  go_cut [9, 10] (fun v9 v10 wx => v9 = .nilIface ∧ v10 = .iface 31 (.int .i64 13) ∧ Hid (Below wb.heap.size wb wx) ∧ Hid (Own wb.heap.size wx p D2))
  case first =>
    go_region_law (first
      | ((refine step_call Try.func8 (by kernel_rfl) rfl #[.pointer (some ⟨p, 0, none⟩), .int .i64 0, .string (zeroB 64)] rfl rfl (by first | rfl | (simp [Act.eval, Act.put]; done)) ?_);
          (refine (cw3.out _ _ _ (by first | exact Dsk.below HD1.out b1.out | exact Dsk.below HD1.out b3.out | exact Dsk.below HD1.out b4.out)).mono ?_); (rintro e w4 ⟨rfl, hs, ho⟩); (refine ⟨_, rfl, ?_⟩);
          (have hW := hs.size);
          (first
            | (have HB4 := Lib.hid ((HB.out.trans (b1.out.mono hle)).trans (hs.mid (Nat.le_trans hle b1.out.size))); have HO2 := Lib.hid (ho.mid (Nat.le_trans hle b1.out.size)))
            | (have HB4 := Lib.hid ((HB.out.trans (b3.out.mono hle)).trans (hs.mid (Nat.le_trans hle b3.out.size))); have HO2 := Lib.hid (ho.mid (Nat.le_trans hle b3.out.size)))
            | (have HB4 := Lib.hid ((HB.out.trans (b4.out.mono hle)).trans (hs.mid (Nat.le_trans hle b4.out.size))); have HO2 := Lib.hid (ho.mid (Nat.le_trans hle b4.out.size))));
          (have E7 := conv_zeros _ _ n2 (Blk.new w4 5 (zerosC n2)));
          (first
            | (have E8 := conv_zeros w4 _ n2 (save_blk hs (blk_new1 w3 (.cells (zerosC 64) 5) 5 (zerosC n2)) hn1))
            | (have E8 := conv_zeros w4 _ n2 (save_blk hs ((Blk.new w3 5 (zerosC n2)).alloc (.cells (zerosC 64) 5)) hn0))
            | skip);
          (clear hs ho hW))
      | ((refine step_call Try.func8 (by kernel_rfl) rfl #[.pointer (some ⟨p, 0, none⟩), .int .i64 0, .string (zeroB n2)] rfl rfl (by first | rfl | (simp [Act.eval, Act.put]; done)) ?_);
          (first
            | ((refine (cw4.out _ _ _ HO2.out).mono ?_); (rintro e w5 ⟨rfl, hb, ho⟩); (refine ⟨_, rfl, ?_⟩); (have HB5 := Lib.hid (HB4.out.trans hb)); (have HO5 := Lib.hid ho); (clear hb ho))
            | ((refine (cw4.out _ _ _ (HO2.out.below ((Below.refl _ _).alloc (Nat.le_refl _) _))).mono ?_); (rintro e w5 ⟨rfl, hb, ho⟩); (refine ⟨_, rfl, ?_⟩); (have HB5 := Lib.hid ((HB4.out.alloc HB4.out.size _).trans hb)); (have HO5 := Lib.hid ho); (clear hb ho)))))
    all_goals (go_wp2_with fail; go_meet; exact ⟨rfl, rfl, HB5.out, HO5.out⟩)
  case rest =>
    obtain ⟨rfl, rfl, HB2, HO2⟩ := hcut
    clear HB HO1 E1 E2 E3 E4 E5 E6 b1 b2 b3 b4 hk1 hk2 HD1 hs0 hs1 hn0 hn1
    go_wp2_with (first
      | (go_at_call 8; (with_reducible refine (cw5.out _ _ _ HO2.out).mono ?_); rintro e w6 ⟨rfl, hb, ho⟩; replace HB2 := Lib.hid (HB2.out.trans hb); replace HO2 := Lib.hid ho; clear hb ho)
      | (go_at_call 9; (with_reducible refine (cl.out _ _ _ HO2.out).mono ?_); rintro e w7 ⟨rfl, rfl⟩)
      | (go_at_call 11; (with_reducible refine (cws.out _ _ _ HO2.out).mono ?_); rintro e w7 ⟨rfl, rfl⟩)
      | (go_at_call 12; (with_reducible refine (clo.out _ _ _ HO2.out).mono ?_); rintro e w7 ⟨rfl, rfl⟩)
      | (go_at_call 10; (with_reducible refine (is_yes 14 _).mono ?_); rintro e w8 ⟨rfl, rfl⟩)
      | (go_at_call 10; (with_reducible refine (is_yes 13 _).mono ?_); rintro e w8 ⟨rfl, rfl⟩))
    go_ret
    exact ⟨rfl, below_step HB0.out HB2.out⟩
theorem DiskLimits_walk (z b : Int) (w2 : (Lit.int .u8 b).wf = true) (w : World) :
    Calls Try.prog 3 #[.int .i64 z, .int .u8 b] w fun e w' => e = .returned (.bool true) ∧ Below w.heap.size w w' := by
  have b2 : 0 ≤ b ∧ b ≤ 255 := by simpa [Lit.wf, IntKind.min, IntKind.max, IntKind.signed, IntKind.bits] using w2
  obtain ⟨n2, rfl⟩ : ∃ k : Nat, b = (k : Int) := ⟨b.toNat, by omega⟩
  exact DiskLimits_any z n2 (by omega) w
end Go.Proofs.Ytfmgafpgajlddaa
