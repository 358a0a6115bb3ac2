import Derived.Test.YtfmgafpgajlddaaDoorV6
import Derived.Deep.DeepCutAuto
import Derived.Deep.CutBlock
set_option linter.unusedVariables false
set_option linter.unusedSimpArgs false
namespace Go.Proofs.YtfmgafpgajlddaaDoor
open Go.RowKit

structure StepD where
  what : Int
  at_ : Int
  b : ByteArray
  keep : List Bool
  adr : Option Addr
  cap : Nat
/-- A step as its four cells show it. -/
structure StepAt (w : World) (b k : Nat) (s : StepD) : Prop where
  c0 : w.cell? ⟨b, k, none⟩ = some (.int .i64 s.what)
  c1 : w.cell? ⟨b, k + 1, none⟩ = some (.int .i64 s.at_)
  c2 : w.cell? ⟨b, k + 2, none⟩ = some (.string s.b)
  c3 : w.cell? ⟨b, k + 3, none⟩ = some (.slice s.adr s.keep.length s.cap)
  keep : BoolsAt w s.adr s.keep
  most : s.at_ ≤ 9223372036854775807
def StepsAt (w : World) (a : Option Addr) (l : List StepD) : Prop := ∀ j s, l[j]? = some s → ∃ b off, a = some ⟨b, off, none⟩ ∧ StepAt w b (off + j * 4) s
theorem BoolsAt.below {w w' : World} {a : Option Addr} {l : List Bool} (h : BoolsAt w a l) (hb : Below w.heap.size w w') : BoolsAt w' a l :=
  fun j x hj => by
    obtain ⟨b, off, e, hc⟩ := h j x hj
    exact ⟨b, off, e, cell_keep hb hc⟩
theorem StepAt.below {w w' : World} {b k : Nat} {s : StepD} (h : StepAt w b k s) (hb : Below w.heap.size w w') : StepAt w' b k s :=
  ⟨cell_keep hb h.c0, cell_keep hb h.c1, cell_keep hb h.c2, cell_keep hb h.c3, h.keep.below hb, h.most⟩
theorem BoolsAt.off {w : World} {a : Option Addr} {l : List Bool} (h : BoolsAt w a l) {B : Nat} (hB : w.heap.size ≤ B) : 0 < l.length → ∀ b off, a = some ⟨b, off, none⟩ → b < B := by
  intro hl q off e
  obtain ⟨x, hx⟩ : ∃ x, l[0]? = some x := ⟨_, List.getElem?_eq_getElem hl⟩
  obtain ⟨q', off', e', hc⟩ := h 0 x hx
  rw [e] at e'
  cases e'
  have := cell_lt hc
  simp only at this
  omega
theorem Two.drewN {B : Nat} {w : World} {p q : Nat} {D1 D2 : DS} {X : Nat} (h : Two B w p q D1 D2 X) (n : Nat) : Two B (w.drewN n) p q D1 D2 X := (h.below (below_drewN _ _)).2
theorem Left.drewN {B X : Nat} {w0 w : World} (h : Left B X w0 w) (n : Nat) : Left B X w0 (w.drewN n) := ⟨h.1.trans (below_drewN _ _), h.2⟩
theorem Left.cell {B X : Nat} {w w' : World} (h : Left B X w w') {j : Nat} {v : Value} (hc : w.cell? ⟨X, j, none⟩ = some v) : w'.cell? ⟨X, j, none⟩ = some v :=
  (World.cell?_of_block (w := w) (a := ⟨X, j, none⟩) h.2).trans hc

theorem DS.done_write (D : DS) (i : Int) (b : ByteArray) : (D.write i b).done ≤ D.done + 1 := by
  unfold DS.write
  split
  · exact Nat.le_refl _
  · split
    · exact Nat.le_succ _
    · exact Nat.le_succ _

theorem DS.done_flush (D : DS) : D.flush.done = D.done := by
  unfold DS.flush
  split
  · rfl
  · rfl

set_option maxHeartbeats 16000000 in
set_option maxRecDepth 100000 in
theorem DiskPlays_any (n : Int) (a : Option Addr) (cap : Nat) (l : List StepD) (w : World) (hg : ErrVar w) (hl : StepsAt w a l) :
    Calls Tryd.prog 10 #[.int .i64 n, .slice a l.length cap] w fun e w' => e = .returned (.bool true) ∧ Below w.heap.size w w' := by
  have ck := Lib.hid (known1_any w)
  have HG := Lib.hid hg
  obtain ⟨L, hL⟩ : ∃ L, L = l.length := ⟨_, rfl⟩
  rw [← hL]
  by_cases g1 : 60 < L
  · have t1 : decide ((60 : Int) < (L : Int)) = true := decide_eq_true (by omega)
    have t1' : decide (60 < L) = true := decide_eq_true g1
    clear g1 hL hl hg
    go_enter Tryd.func10, Tryd.ntmps10
    go_wp2_with (go_at_call 25; (with_reducible refine ck.out.mono ?_); rintro e wb ⟨rfl, hb⟩; have HB0 := Lib.hid hb; clear hb)
    go_ret
    exact ⟨rfl, HB0.out⟩
  have t1 : decide ((60 : Int) < (L : Int)) = false := decide_eq_false (by omega)
  have t1' : decide (60 < L) = false := decide_eq_false g1
  by_cases g2 : 40 < n ∧ n < 1960
  · have t2 : decide ((40 : Int) < n) = true := decide_eq_true g2.1
    have t3 : decide (n < (1960 : Int)) = true := decide_eq_true g2.2
    clear g1 g2 hL hl hg
    go_enter Tryd.func10, Tryd.ntmps10
    go_wp2_with (go_at_call 25; (with_reducible refine ck.out.mono ?_); rintro e wb ⟨rfl, hb⟩; have HB0 := Lib.hid hb; clear hb)
    go_ret
    exact ⟨rfl, HB0.out⟩
  have hz : L ≤ 60 := by omega
  have HL := Lib.hid hL
  have HS := Lib.hid hl
  obtain ⟨N, hN⟩ : ∃ N : Nat, mnI (mxI n 1) 2000 = (N : Int) := ⟨(mnI (mxI n 1) 2000).toNat, by unfold mnI mxI; split <;> split <;> omega⟩
  have hk1 : 1 ≤ N ∧ N ≤ 2000 := by unfold mnI mxI at hN; split at hN <;> split at hN <;> omega
  have cn := Lib.hid (fun w => New_any w n N hN hk1.1 hk1.2)
  have cm := Lib.hid (fun w => rNew_any w n N hN hk1.1 hk1.2)
  have HGB : Hid (0 < w.heap.size) := cell_lt hg
  generalize hD0 : newD N = D0 at cn cm
  have HD0 : Hid (D0.done = 0) := by subst hD0; exact rfl
  clear hD0 hN hk1 hL hl hg g1
  go_enter Tryd.func10, Tryd.ntmps10
  go_upto_region 3 with (go_at_call 25; (with_reducible refine ck.out.mono ?_); rintro e wb ⟨rfl, hb⟩; have HB0 := Lib.hid hb; clear hb)
  go_cut [26] (fun v26 wx => v26 = .bool false ∧ wx = wb)
  case first =>
    by_cases h1 : 40 < n
    · have t2 : decide ((40 : Int) < n) = true := decide_eq_true h1
      have t3 : decide (n < (1960 : Int)) = false := decide_eq_false (fun h2 => g2 ⟨h1, h2⟩)
      clear h1 g2
      go_wp2
      go_meet
      exact ⟨rfl, rfl⟩
    · have t2 : decide ((40 : Int) < n) = false := decide_eq_false h1
      clear h1 g2
      go_wp2
      go_meet
      exact ⟨rfl, rfl⟩
  case rest =>
    obtain ⟨rfl, rfl⟩ := hcut
    obtain ⟨w0, hw0⟩ : ∃ w0, w0 = wc := ⟨_, rfl⟩
    subst hw0
    have HGW : Hid (ErrVar w0 ∧ 0 < w0.heap.size) := ⟨HG.out.below HB0.out, Nat.lt_of_lt_of_le HGB.out HB0.out.size⟩
    go_wp2_with (first
      | (go_at_call 26; (with_reducible refine (cn.out _).mono ?_); rintro e w1 ⟨p, rfl, hp⟩; have HP := Lib.hid hp; clear hp)
      | (go_at_call 27; (with_reducible refine (cm.out _).mono ?_); rintro e w2 ⟨q, rfl, hp⟩; have HQ := Lib.hid hp; clear hp))
    have H2 := Lib.hid (two_new HGW.out.1 HGW.out.2 HP.out HQ.out 0 (Nat.lt_of_le_of_lt (Nat.zero_le _) HGW.out.2))
    have HB : Hid (Below w0.heap.size w0 w2) := H2.out.1
    have HT : Hid (Two w0.heap.size w2 p q D0 D0 0) := H2.out.2
    clear H2 HP HQ g2 cn cm
    go_loopg [7] L (fun kq v7 wr => ∃ (i : Nat) (D : DS) (X : Nat), v7 = .int .i64 (i : Int) ∧ i + kq = L ∧ Hid (D.done ≤ i) ∧ Hid (Below w0.heap.size w0 wr) ∧ Hid (Two w0.heap.size wr p q D D X))
    case atStart => exact ⟨0, D0, 0, rfl, by omega, by rw [HD0.out]; exact Nat.le_refl _, HB, HT⟩
    case round =>
      clear HB HT
      obtain ⟨i, D, X0, rfl, hi, hd, HB, HT⟩ := hrel
      by_cases hlt : i < L
      · obtain ⟨s, hs⟩ : ∃ s, l[i]? = some s := ⟨_, List.getElem?_eq_getElem (by rw [← HL.out]; exact hlt)⟩
        obtain ⟨ab, ao, rfl, hc⟩ := HS.out i s hs
        obtain ⟨what, at_, b, keep, adr, kcap⟩ := s
        obtain ⟨c0, c1, c2, c3, hkp, hmost⟩ := hc.below (below_step HB0.out HB.out)
        simp only at c0 c1 c2 c3 hkp hmost
        have HK := Lib.hid (hc.keep)
        have HKN : Hid (0 < keep.length → ∀ b off, adr = some ⟨b, off, none⟩ → b < w0.heap.size) := hc.keep.off HB0.out.size
        simp only at HK
        obtain ⟨K, hK⟩ : ∃ K, K = keep.length := ⟨_, rfl⟩
        rw [← hK] at c3
        have HKL := Lib.hid hK
        have b0 : (0 : Int) ≤ (i : Int) := by omega
        have b1 : (i : Int) < (L : Int) := by omega
        clear hs hc hK
        by_cases z1 : 200 < b.size
        · have t4 : decide ((200 : Int) < (b.size : Int)) = true := decide_eq_true (by omega)
          have t4' : decide (200 < b.size) = true := decide_eq_true z1
          clear z1
          go_wp2
          go_ret
          exact ⟨rfl, below_step HB0.out (HB.out.alloc HB.out.size _)⟩
        have t4 : decide ((200 : Int) < (b.size : Int)) = false := decide_eq_false (by omega)
        have t4' : decide (200 < b.size) = false := decide_eq_false z1
        by_cases z2 : 80 < K
        · have t5 : decide ((80 : Int) < (K : Int)) = true := decide_eq_true (by omega)
          have t5' : decide (80 < K) = true := decide_eq_true z2
          clear z1 z2
          go_wp2
          go_ret
          exact ⟨rfl, below_step HB0.out (HB.out.alloc HB.out.size _)⟩
        have t5 : decide ((80 : Int) < (K : Int)) = false := decide_eq_false (by omega)
        have t5' : decide (80 < K) = false := decide_eq_false z2
        have HM : Hid (at_ ≤ 9223372036854775807) := hmost
        have HKZ : Hid (K ≤ 1000000) := by show _ ≤ _; omega
        have hdi : D.done < 1099511627776 := by have := hd.out; omega
        have HDI := Lib.hid hdi
        clear z1 z2 hdi hmost
        go_upto_block 2 with fail
        have x0 : (wr.alloc (.cells #[.int .i64 what, .int .i64 at_, .string b, .slice adr K kcap] 59)).cell? ⟨wr.heap.size, 0, none⟩ = some (.int .i64 what) := new_cell wr _ _ 0
        have x1 : (wr.alloc (.cells #[.int .i64 what, .int .i64 at_, .string b, .slice adr K kcap] 59)).cell? ⟨wr.heap.size, 1, none⟩ = some (.int .i64 at_) := new_cell wr _ _ 1
        have x2 : (wr.alloc (.cells #[.int .i64 what, .int .i64 at_, .string b, .slice adr K kcap] 59)).cell? ⟨wr.heap.size, 2, none⟩ = some (.string b) := new_cell wr _ _ 2
        have x3 : (wr.alloc (.cells #[.int .i64 what, .int .i64 at_, .string b, .slice adr K kcap] 59)).cell? ⟨wr.heap.size, 3, none⟩ = some (.slice adr K kcap) := new_cell wr _ _ 3
        have HB1 : Hid (Below w0.heap.size w0 (wr.alloc (.cells #[.int .i64 what, .int .i64 at_, .string b, .slice adr K kcap] 59))) := HB.out.alloc HB.out.size _
        have HT1 := Lib.hid (HT.out.block (.cells #[.int .i64 what, .int .i64 at_, .string b, .slice adr K kcap] 59))
        have hkb : BoolsAt (wr.alloc (.cells #[.int .i64 what, .int .i64 at_, .string b, .slice adr K kcap] 59)) adr keep := hkp.below ((Below.refl _ _).alloc (Nat.le_refl _) _)
        clear c0 c1 c2 c3 HB HT hkp
        generalize wr.alloc (.cells #[.int .i64 what, .int .i64 at_, .string b, .slice adr K kcap] 59) = W1 at x0 x1 x2 x3 HB1 HT1 hkb ⊢
        generalize wr.heap.size = X at x0 x1 x2 x3 HT1 ⊢
        have HBX := Lib.hid (show Below w0.heap.size w0 W1 ∧ Left w0.heap.size X W1 W1 from ⟨HB1.out, Left.refl _ _ _⟩)
        have HX1 := Lib.hid x1
        have HX2 := Lib.hid x2
        have HX3 := Lib.hid x3
        have hout : Hid (∀ D' : DS, D'.done ≤ i + 1 → ∀ w', Left w0.heap.size X W1 w' → Two w0.heap.size w' p q D' D' X → Hid (D'.done ≤ i + 1) ∧ Hid (Below w0.heap.size w0 w') ∧ Hid (Two w0.heap.size w' p q D' D' X)) := fun D' h1 w' h2 h3 => ⟨h1, HB1.out.trans h2.1, h3⟩
        have HLL : Hid (Left w0.heap.size X W1 W1) := Left.refl _ _ _
        have HKB := Lib.hid hkb
        have HKC : Hid (∀ w', Left w0.heap.size X W1 w' → BoolsAt w' adr keep) := fun w' h j x hj => by
          obtain ⟨qb, off, e, hc⟩ := hkb j x hj
          have hlt := HKN.out (by have := (List.getElem?_eq_some_iff.1 hj).1; omega) qb off e
          exact ⟨qb, off, e, (h.1.cell (p := ⟨qb, off + j, none⟩) hlt).trans hc⟩
        clear hkb
        go_cut [8] (fun v8 wx => ∃ D' : DS, Hid (D'.done ≤ i + 1) ∧ Hid (Below w0.heap.size w0 wx) ∧ Hid (Two w0.heap.size wx p q D' D' X))
        case first =>
          clear HB1 HBX
          by_cases q1 : what ≤ 5
          · have u1 : decide (what ≤ 5) = true := decide_eq_true q1
            clear q1
            go_wp2
            go_region_held3 (fun w' => w'.cell? ⟨X, 1, none⟩ = some (.int .i64 at_) ∧ w'.cell? ⟨X, 2, none⟩ = some (.string b)) (first | go_keep | exact ⟨HLL.out.cell HX1.out, HLL.out.cell HX2.out⟩) (first
              | (go_at_call 29; (with_reducible refine (tWrite_d _ _ _ _ _ _ _ _ _ HDI.out (by first | exact HT1.out | exact HT1.out.drew | exact HT1.out.drewN _)).mono ?_); rintro e w3 ⟨rfl, hb, ho⟩; replace HLL : Hid (Left _ X W1 w3) := (by first | exact HLL.out.trans hb | exact HLL.out.drew.trans hb | exact (HLL.out.drewN _).trans hb); replace HT1 := Lib.hid ho; clear hb ho)
              | (go_at_call 28; (with_reducible refine (tCode _ _ _ _ _ _ _ _ (by first | exact HT1.out | exact HT1.out.drew | exact HT1.out.drewN _)).mono ?_); rintro e w3 ⟨rfl, hb, ho⟩; replace HLL : Hid (Left _ X W1 w3) := (by first | exact HLL.out.trans hb | exact HLL.out.drew.trans hb | exact (HLL.out.drewN _).trans hb); replace HT1 := Lib.hid ho; clear hb ho)
              | (go_at_call 30; (with_reducible refine (tWrite_r _ _ _ _ _ _ _ _ _ HDI.out (by first | exact HT1.out | exact HT1.out.drew | exact HT1.out.drewN _)).mono ?_); rintro e w3 ⟨rfl, hb, ho⟩; replace HLL : Hid (Left _ X W1 w3) := (by first | exact HLL.out.trans hb | exact HLL.out.drew.trans hb | exact (HLL.out.drewN _).trans hb); replace HT1 := Lib.hid ho; clear hb ho))
            all_goals (go_wp2; go_meet; exact ⟨D.write at_ b, hout.out _ (by have := hd.out; have := D.done_write at_ b; omega) _ HLL.out HT1.out⟩)
          · have u1 : decide (what ≤ 5) = false := decide_eq_false q1
            by_cases q2 : what ≤ 7
            · have u2 : decide (what ≤ 7) = true := decide_eq_true q2
              clear q1 q2
              go_wp2_with (first
                | (go_at_call 31; (with_reducible refine (tFlush_d _ _ _ _ _ _ _ (by first | exact HT1.out | exact HT1.out.drew | exact HT1.out.drewN _)).mono ?_); rintro e w3 ⟨rfl, hb, ho⟩; replace HLL : Hid (Left _ X W1 w3) := (by first | exact HLL.out.trans hb | exact HLL.out.drew.trans hb | exact (HLL.out.drewN _).trans hb); replace HT1 := Lib.hid ho; clear hb ho)
                | (go_at_call 28; (with_reducible refine (tCode _ _ _ _ _ _ _ _ (by first | exact HT1.out | exact HT1.out.drew | exact HT1.out.drewN _)).mono ?_); rintro e w3 ⟨rfl, hb, ho⟩; replace HLL : Hid (Left _ X W1 w3) := (by first | exact HLL.out.trans hb | exact HLL.out.drew.trans hb | exact (HLL.out.drewN _).trans hb); replace HT1 := Lib.hid ho; clear hb ho)
                | (go_at_call 32; (with_reducible refine (tFlush_r _ _ _ _ _ _ _ (by first | exact HT1.out | exact HT1.out.drew | exact HT1.out.drewN _)).mono ?_); rintro e w3 ⟨rfl, hb, ho⟩; replace HLL : Hid (Left _ X W1 w3) := (by first | exact HLL.out.trans hb | exact HLL.out.drew.trans hb | exact (HLL.out.drewN _).trans hb); replace HT1 := Lib.hid ho; clear hb ho))
              go_meet
              exact ⟨D.flush, hout.out _ (by have := hd.out; have := D.done_flush; omega) _ HLL.out HT1.out⟩
            · have u2 : decide (what ≤ 7) = false := decide_eq_false q2
              by_cases q3 : what = 8
              · subst q3
                clear q1 q2
                go_wp2_with (first
                  | (go_at_call 33; (with_reducible refine (tCut_d _ _ _ _ _ _ _ _ HM.out (by first | exact HT1.out | exact HT1.out.drew | exact HT1.out.drewN _)).mono ?_); rintro e w3 ⟨rfl, hb, ho⟩; replace HLL : Hid (Left _ X W1 w3) := (by first | exact HLL.out.trans hb | exact HLL.out.drew.trans hb | exact (HLL.out.drewN _).trans hb); replace HT1 := Lib.hid ho; clear hb ho; have x1 := HLL.out.cell HX1.out; have x3 := HLL.out.cell HX3.out)
                  | (go_at_call 34; (with_reducible refine (tCut_r _ _ _ _ _ _ _ _ HM.out (by first | exact HT1.out | exact HT1.out.drew | exact HT1.out.drewN _)).mono ?_); rintro e w3 ⟨rfl, hb, ho⟩; replace HLL : Hid (Left _ X W1 w3) := (by first | exact HLL.out.trans hb | exact HLL.out.drew.trans hb | exact (HLL.out.drewN _).trans hb); replace HT1 := Lib.hid ho; clear hb ho; have x1 := HLL.out.cell HX1.out; have x3 := HLL.out.cell HX3.out))
                go_meet
                exact ⟨D.cut at_, hout.out (D.cut at_) (Nat.le_succ_of_le hd.out) _ HLL.out HT1.out⟩
              · have u3 : (what == 8) = false := beq_eq_false_iff_ne.2 q3
                clear q1 q2 q3
                go_wp2_with (first
                  | (go_at_call 35; (with_reducible refine (tCrash_d _ _ _ _ _ _ _ _ _ _ keep _ HKL.out.symm HKZ.out HKB.out HKN.out HT1.out).mono ?_); rintro e w3 ⟨rfl, hb, ho⟩; replace HLL : Hid (Left _ X W1 w3) := (HLL.out.trans hb); replace HT1 := Lib.hid ho; have HKB3 := Lib.hid (HKC.out w3 HLL.out); clear hb ho; have x1 := HLL.out.cell HX1.out; have x3 := HLL.out.cell HX3.out)
                  | (go_at_call 36; (with_reducible refine (tCrash_r _ _ _ _ _ _ _ _ _ _ keep _ HKL.out.symm HKZ.out HKB3.out HT1.out).mono ?_); rintro e w4 ⟨rfl, hb, ho⟩; replace HLL : Hid (Left _ X W1 w4) := (HLL.out.trans hb); replace HT1 := Lib.hid ho; clear hb ho))
                go_meet
                exact ⟨D.crash (keepOf keep) at_, hout.out (D.crash (keepOf keep) at_) (Nat.le_succ_of_le hd.out) _ HLL.out HT1.out⟩
        case rest =>
          clear x0 x1 x2 x3 HB1 HT1 HBX HX1 HX2 HX3 hout HLL hd HDI HKB HKC HKN HKZ HKL HM
          obtain ⟨D', hd, HB, HT⟩ := hcut
          obtain ⟨W, hW⟩ : ∃ W, W = wc := ⟨_, rfl⟩
          subst hW
          obtain ⟨r1, k1, r2, k2, y0, y1, y3, y5⟩ := HT.out.cells
          obtain ⟨S, hS⟩ : ∃ S, S = D'.sure.length := ⟨_, rfl⟩
          obtain ⟨M, hM⟩ : ∃ M, M = D'.done := ⟨_, rfl⟩
          obtain ⟨Z, hZ⟩ : ∃ Z, Z = D'.loose.length := ⟨_, rfl⟩
          have cl := Lib.hid (fun n => tLen _ (W.drewN n) _ _ _ _ _ (HT.out.drewN n))
          have cw := Lib.hid (fun n => tWrites _ (W.drewN n) _ _ _ _ _ (HT.out.drewN n))
          have co := Lib.hid (fun n => tLoose _ (W.drewN n) _ _ _ _ _ (HT.out.drewN n))
          rw [← hS] at y0 cl
          rw [← hM] at y3 cw
          rw [← hZ] at y1 co
          have HD := Lib.hid hd
          have HI := Lib.hid hi
          clear hS hM hZ hd hi
          obtain ⟨dd, hdd⟩ : ∃ dd, dd = D'.dead := ⟨_, rfl⟩
          rw [← hdd] at y5
          clear hdd
          go_upto_region 23 with fail
          go_cut [136] (fun v136 wy => v136 = .bool false ∧ Hid (Below w0.heap.size w0 wy) ∧ Hid (Two w0.heap.size wy p q D' D' X))
          case first =>
            cases dd
            all_goals
              go_quiet (first | (go_at_call 37; with_reducible exact quiet_eq (cl.out _)) | (go_at_call 38; with_reducible exact quiet_eq (cw.out _)) | (go_at_call 39; with_reducible exact quiet_eq (co.out _)))
              go_wp2
              go_meet
              exact ⟨rfl, HB.out.trans (below_drewN _ _), HT.out.drewN _⟩
          case rest =>
            clear y0 y1 y3 y5 cl cw co HB HT
            obtain ⟨rfl, HB, HT⟩ := hcut
            obtain ⟨V, hV⟩ : ∃ V, V = wc := ⟨_, rfl⟩
            subst hV
            obtain ⟨k1, rfl⟩ : ∃ k1, gk = k1 + 1 := ⟨gk - 1, by have := HI.out; omega⟩
            go_wp2
            go_loopg [9] 42 (fun kq v9 wr => ∃ k : Int, v9 = .int .i64 k ∧ k + kq = 41 ∧ -1 ≤ k ∧ Hid (Below w0.heap.size w0 wr) ∧ Hid (Two w0.heap.size wr p q D' D' X))
            case atStart => exact ⟨-1, rfl, by omega, by omega, HB, HT⟩
            case round =>
              clear HB HT
              obtain ⟨k, rfl, hk, hk', HB, HT⟩ := hrel
              by_cases hk40 : k ≤ 40
              · have u7 : decide (k ≤ 40) = true := decide_eq_true hk40
                have b2 : -1 ≤ k + 1 := by omega
                have b3 : k + 1 ≤ 41 := by omega
                obtain ⟨k2, rfl⟩ : ∃ k2, gk = k2 + 1 := ⟨gk - 1, by omega⟩
                obtain ⟨R, hR⟩ : ∃ R, R = D'.readS k := ⟨_, rfl⟩
                obtain ⟨c, hc⟩ : ∃ c, c = D'.may k := ⟨_, rfl⟩
                have cd := Lib.hid (fun w (h : Two w0.heap.size w p q D' D' X) => tRead_d _ w _ _ _ _ _ k h)
                have cr := Lib.hid (fun w (h : Two w0.heap.size w p q D' D' X) => tRead_r _ w _ _ _ _ _ k h)
                rw [← hR, ← hc] at cd cr
                have e1 : (R.toList == R.toList) = true := beq_self_eq_true _
                clear hR hc hk40
                go_wp2_with (first
                  | (go_at_call 40; (with_reducible refine (cd.out _ HT.out).mono ?_); rintro e w5 ⟨rfl, rfl⟩)
                  | (go_at_call 41; (with_reducible refine (cr.out _ HT.out).mono ?_); rintro e w5 ⟨rfl, rfl⟩)
                  | (go_at_call 28; (with_reducible refine (tCode _ _ _ _ _ _ _ _ HT.out).mono ?_); rintro e w5 ⟨rfl, hb, ho⟩; replace HB := Lib.hid (HB.out.trans hb.1); replace HT := Lib.hid ho; clear hb ho))
                go_roundg k2
                case measure => omega
                case rel => exact ⟨k + 1, by go_num, by omega, by omega, HB.out, HT.out⟩
              · have u7 : decide (k ≤ 40) = false := decide_eq_false hk40
                clear hk40 hk hk'
                go_wp2
                go_roundg k1
                case measure => omega
                case rel => exact ⟨i + 1, D', X, by go_num, by have := HI.out; omega, HD.out.out, HB.out, HT.out⟩
      · obtain rfl : i = L := by omega
        clear hlt hi
        go_wp2
        go_ret
        exact ⟨rfl, below_step HB0.out HB.out⟩
end Go.Proofs.YtfmgafpgajlddaaDoor
