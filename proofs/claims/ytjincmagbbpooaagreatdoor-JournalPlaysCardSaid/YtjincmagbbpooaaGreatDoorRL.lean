import Derived.Test.YtjincmagbbpooaaGreatDoorM20
import Derived.Deep.DeepCutAuto
import Derived.Deep.CutBlock
set_option linter.unusedVariables false
set_option linter.unusedSimpArgs false
namespace Go.Proofs.YtjincmagbbpooaaGreatDoor
open Go.RowKit

def xS (X : Nat) (b : ByteArray) : Nat → World → Prop := fun i w' => match i with
  | 0 => True
  | _ + 1 => w'.cell? ⟨X, 2, none⟩ = some (.string b)
theorem xS_of {X : Nat} {b : ByteArray} {w : World} (h : w.cell? ⟨X, 2, none⟩ = some (.string b)) (i : Nat) : xS X b i w := by
  match i with
  | 0 => exact trivial
  | _ + 1 => exact h
theorem crash_len {D : DS} (h : D.ok) (keep : Nat → Bool) (torn : Int) : (D.crash keep torn).sure.length = D.sure.length := by
  have hk := keepN_ok (keep := keep) (torn := torn) h.lies h.size D.loose.length (Nat.le_refl _)
  show (keepN _ _ _ _ _).length = _
  exact hk.1
theorem sl_two {w : World} {sb : Nat} {r : ByteArray} {t : TypeId} (h : w.heap[sb]? = some (.cells #[.string r, .string r] t (0, 0))) : SlOf mkS w (some ⟨sb, 0, none⟩) [r, r] := fun j x hj => by
  match j, hj with
  | 0, hj =>
    obtain rfl : r = x := by simpa using hj
    exact ⟨sb, 0, rfl, by rw [cell_of_row w sb _ _ _ _ h]; rfl⟩
  | 1, hj =>
    obtain rfl : r = x := by simpa using hj
    exact ⟨sb, 0, rfl, by rw [cell_of_row w sb _ _ _ _ h]; rfl⟩
  | j + 2, hj => simp at hj
set_option maxHeartbeats 32000000 in
set_option maxRecDepth 100000 in
theorem JournalPlays_any (n : Nat) (hn : n ≤ 255) (a : Option Addr) (cap : Nat) (l : List StepD) (w : World) (hg : ErrVar w) (hl : StepsAt w a l) :
    Calls Tryz.prog 6 #[.int .u8 (n : Int), .slice a l.length cap] w fun e w' => e = .returned (.bool true) ∧ Below w.heap.size w w' := by
  have ck := Lib.hid (known4_any w hg)
  have HG := Lib.hid hg
  obtain ⟨L, hL⟩ : ∃ L, L = l.length := ⟨_, rfl⟩
  rw [← hL]
  by_cases g1 : 40 < L
  · have t1 : (40 : Int) < (L : Int) := by omega
    clear g1 hL hl hg
    go_enter Tryz.func6, Tryz.ntmps6
    go_wp2_with (go_at_call 7; (with_reducible refine ck.out.mono ?_); rintro e wb ⟨rfl, hb⟩; have HB0 := Lib.hid hb; clear hb)
    go_ret
    exact ⟨rfl, HB0.out⟩
  have t1 : (L : Int) ≤ 40 := by omega
  have HL := Lib.hid hL
  have HS := Lib.hid hl
  obtain ⟨k, hk⟩ : ∃ k, k = n % 30 + 2 := ⟨_, rfl⟩
  have hk2 : 2 ≤ k := by omega
  have hk31 : k ≤ 31 := by omega
  have hkI : (n : Int) % 30 + 2 = (k : Int) := by omega
  have hmk : mnI (mxI (k : Int) 1) 2000 = (k : Int) := by unfold mnI mxI; rw [if_neg (by omega), if_neg (by omega)]
  have cn := Lib.hid (fun W => New_any W (k : Int) k hmk (by omega) (by omega))
  have cm := Lib.hid (fun W => rNew_any W (k : Int) k hmk (by omega) (by omega))
  have P0 := new_keep k hk2 (by omega)
  have P1 := P0.format (by decide) (Nat.le_refl _) (by decide)
  have hd0 : (newD k).done = 0 := rfl
  have HD0 : Hid ((newD k).done < 1099510000000) := by show (newD k).done < _; rw [hd0]; decide
  have HGB : Hid (0 < w.heap.size) := cell_lt hg
  generalize newD k = D0 at cn cm P1 HD0
  obtain ⟨c1, hc1⟩ : ∃ c, c = D0.format.2 := ⟨_, rfl⟩
  have cfd := Lib.hid (fun B W p q X h => tFormat_d (B := B) (w := W) (p := p) (q := q) (D1 := D0) (D2 := D0) (X := X) HD0.out h)
  have cfr := Lib.hid (fun B W p q X D h => tFormat_r (B := B) (w := W) (p := p) (q := q) (D1 := D) (D2 := D0) (X := X) HD0.out h)
  rw [← hc1] at cfd cfr
  generalize D0.format.1 = D1 at cfd cfr P1
  clear hc1 P0 hd0 hmk g1 hL hl hg hk
  obtain ⟨P2, I2⟩ := open_inv P1 (by decide) (by decide)
  have hd1 : D1.done < 1099510000000 := by have := P1.done; omega
  have hn1 : D1.newest.1 ≤ 1000000 := by have := P1.sups.newest (by decide); omega
  obtain ⟨R, hR⟩ : ∃ R, R = D1.opens := ⟨_, rfl⟩
  rw [← hR] at P2 I2
  have HP2 := Lib.hid P2
  have HI2 := Lib.hid I2
  have HR := Lib.hid (And.intro hR (And.intro hd1 hn1))
  clear P1 P2 I2 hR hd1 hn1
  have hz : L ≤ 40 := by omega
  go_enter Tryz.func6, Tryz.ntmps6
  go_upto_region 9 with (first
    | (go_at_call 7; (with_reducible refine ck.out.mono ?_); rintro e wb ⟨rfl, hb⟩; have HB0 := Lib.hid hb; clear hb)
    | (go_at_call 8; (with_reducible refine (cn.out _).mono ?_); rintro e w1 ⟨p, rfl, hp⟩; have HP := Lib.hid hp; clear hp)
    | (go_at_call 23; (with_reducible refine (cm.out _).mono ?_); rintro e w2 ⟨q, rfl, hp⟩
       have HT : Hid (Below wb.heap.size wb w2 ∧ Two wb.heap.size w2 p q D0 D0 (fun _ => False)) := two_new (ErrVar.below HG.out HB0.out) (Nat.lt_of_lt_of_le HGB.out HB0.out.size) HP.out hp
       have HBB := Lib.hid HT.out.1
       replace HT := Lib.hid HT.out.2
       clear hp)
    | (go_at_call 10; (with_reducible refine (cfd.out _ _ _ _ _ HT.out).mono ?_); rintro e w3 ⟨rfl, hb, ho⟩; replace HBB := Lib.hid (HBB.out.trans hb.1); replace HT := Lib.hid ho; clear hb ho)
    | (go_at_call 24; (with_reducible refine (tCode _ HT.out).mono ?_); rintro e w4 ⟨rfl, hb, ho⟩; replace HBB := Lib.hid (HBB.out.trans hb.1); replace HT := Lib.hid ho; clear hb ho)
    | (go_at_call 25; (with_reducible refine (cfr.out _ _ _ _ _ _ HT.out).mono ?_); rintro e w5 ⟨rfl, hb, ho⟩; replace HBB := Lib.hid (HBB.out.trans hb.1); replace HT := Lib.hid ho; clear hb ho))
  clear cn cm cfd cfr ck
  by_cases h0 : R.2.1 = 0
  case' pos =>
    have hC0 := h0
    go_upto_region 11 with (first
      | (go_at_call 9; (with_reducible refine (tOpen_d R HR.out.1 HR.out.2.1 HR.out.2.2 h0 HT.out).mono ?_); rintro e w6 ⟨pj, v, rfl, hb, ho⟩; replace HBB := Lib.hid (HBB.out.trans hb.1); replace HT := Lib.hid ho; clear hb ho)
      | (go_at_call 26; (with_reducible refine (tOpen_r R HR.out.1 HR.out.2.1 HR.out.2.2 h0 HT.out).mono ?_); rintro e w7 ⟨qj, u, rfl, hb, ho, -, -⟩; replace HBB := Lib.hid (HBB.out.trans hb.1); replace HT := Lib.hid ho; clear hb ho))
    have e0 : (Value.nilIface : Value) = errV 0 := errV_zero.symm
    rw [e0]
    have HST : Hid (St wb.heap.size w7 p q (.pointer (some ⟨pj, 0, none⟩)) (.pointer (some ⟨qj, 0, none⟩)) 1 4000 k R.1 (fun _ => False)) := ⟨HP2.out.mono (by decide) (by decide), .inr ⟨pj, qj, _, _, rfl, rfl, (HI2.out h0).1, (HI2.out h0).2, HT.out⟩⟩
    clear HT
    go_upto_region 13 with (go_at_call 24; (with_reducible refine (stCode _ HST.out).mono ?_); rintro e w8 ⟨rfl, hb, ho⟩; replace HBB := Lib.hid (HBB.out.trans hb.1); replace HST := Lib.hid ho; clear hb ho)
    clear e0 hC0
    generalize Value.pointer (some ⟨pj, 0, none⟩) = v8 at HST ⊢
    generalize Value.pointer (some ⟨qj, 0, none⟩) = v11 at HST ⊢
  case' neg =>
    go_upto_region 13 with (first
      | (go_at_call 9; (with_reducible refine (tOpenErr_d R HR.out.1 HR.out.2.1 HR.out.2.2 h0 HT.out).mono ?_); rintro e w6 ⟨rfl, hb, ho⟩; replace HBB := Lib.hid (HBB.out.trans hb.1); replace HT := Lib.hid ho; clear hb ho)
      | (go_at_call 26; (with_reducible refine (tOpenErr_r R HR.out.1 HR.out.2.1 HR.out.2.2 h0 HT.out).mono ?_); rintro e w7 ⟨rfl, hb, ho⟩; replace HBB := Lib.hid (HBB.out.trans hb.1); replace HT := Lib.hid ho; clear hb ho)
      | (go_at_call 24; (with_reducible refine (tCode _ HT.out).mono ?_); rintro e w8 ⟨rfl, hb, ho⟩; replace HBB := Lib.hid (HBB.out.trans hb.1); replace HT := Lib.hid ho; clear hb ho))
    go_upto_region 14 with fail
    go_loopg [8, 14] 1 (fun kq v8 v14 wr => v8 = .pointer none ∧ v14 = .int .i64 0 ∧ Hid (Below wb.heap.size wb wr))
    case atStart => exact ⟨rfl, rfl, HBB⟩
    case round =>
      obtain ⟨rfl, rfl, HB⟩ := hrel
      by_cases hL0 : 0 < L
      · have b1 : (0 : Int) < (L : Int) := by omega
        go_wp2
        go_ret
        exact ⟨rfl, below_step HB0.out HB.out⟩
      · have b1 : (L : Int) ≤ 0 := by omega
        go_wp2
        go_ret
        exact ⟨rfl, below_step HB0.out HB.out⟩
  all_goals
    clear HR HI2 HP2 h0 HD0
    go_upto_region 14 with fail
    go_loopg [8, 11, 14] L (fun kq v8 v11 v14 wr => ∃ (i : Nat) (D : DS) (X : Nat → Prop), v14 = .int .i64 (i : Int) ∧ i + kq = L ∧ Hid (Below wb.heap.size wb wr) ∧ Hid (St wb.heap.size wr p q v8 v11 (i + 1) (4000 + 70000 * i) k D X))
    case atStart => exact ⟨0, R.1, (fun _ => False), rfl, by omega, HBB, HST⟩
    case round =>
      clear HST HBB
      obtain ⟨i, D, X0, rfl, hi, HB, HT⟩ := hrel
      by_cases hlt : i < L
      · have b0 : (0 : Int) ≤ (i : Int) := by omega
        have b1 : (i : Int) < (L : Int) := by omega
        rcases HT.out.2 with ⟨rfl, rfl, -⟩ | ⟨pj, qj, J, sup, rfl, rfl, I, h4, ht⟩
        · go_wp2
          go_ret
          exact ⟨rfl, below_step HB0.out HB.out⟩
        have HP := Lib.hid HT.out.1
        have HI := Lib.hid (And.intro I h4)
        clear HT I h4
        have HT := Lib.hid ht
        clear ht
        obtain ⟨s, hs⟩ : ∃ s, l[i]? = some s := ⟨_, List.getElem?_eq_getElem (by rw [← HL.out]; exact hlt)⟩
        obtain ⟨ab, ao, ea, hc⟩ := HS.out i s hs
        subst ea
        obtain ⟨what, at_, b, keep, adr, kcap⟩ := s
        obtain ⟨c0, c1, c2, c3, hkp, hmost⟩ := hc.below (below_step HB0.out HB.out)
        simp only at c0 c1 c2 c3 hkp hmost
        have HK := Lib.hid (hc.keep)
        have HKN : Hid (0 < keep.length → ∀ b off, adr = some ⟨b, off, none⟩ → b < wb.heap.size) := hc.keep.off HB0.out.size
        simp only at HK
        obtain ⟨K, hK⟩ : ∃ K, K = keep.length := ⟨_, rfl⟩
        rw [← hK] at c3
        have HKL := Lib.hid hK
        clear hs hc hK
        by_cases z1 : 250 < b.size
        · have t4 : (250 : Int) < (b.size : Int) := by omega
          clear z1
          go_wp2
          go_ret
          exact ⟨rfl, below_step HB0.out (HB.out.alloc HB.out.size _)⟩
        have t4 : (b.size : Int) ≤ 250 := by omega
        by_cases z2 : 60 < K
        · have t5 : (60 : Int) < (K : Int) := by omega
          clear z1 z2
          go_wp2
          go_ret
          exact ⟨rfl, below_step HB0.out (HB.out.alloc HB.out.size _)⟩
        have t5 : (K : Int) ≤ 60 := by omega
        have HM : Hid (at_ ≤ 9223372036854775807) := hmost
        have HKZ : Hid (K ≤ 1000000) := by show _ ≤ _; omega
        have HBZ : Hid (b.size ≤ 1000) := by show _ ≤ _; omega
        have HIZ : Hid (i ≤ 40) := by show _ ≤ _; omega
        clear z1 z2 hmost
        have h2 : 2 ≤ D.sure.length := by rw [HP.out.len]; exact hk2
        have hdn : D.done < 1099510000000 - 1000 := by have := HP.out.done; omega
        have HD2 := Lib.hid (And.intro h2 hdn)
        clear h2 hdn
        go_upto_block 2 with fail
        have x0 : (wr.alloc (.cells #[.int .i64 what, .int .i64 at_, .string b, .slice adr K kcap] 58)).cell? ⟨wr.heap.size, 0, none⟩ = some (.int .i64 what) := new_cell wr _ _ 0
        have x1 : (wr.alloc (.cells #[.int .i64 what, .int .i64 at_, .string b, .slice adr K kcap] 58)).cell? ⟨wr.heap.size, 1, none⟩ = some (.int .i64 at_) := new_cell wr _ _ 1
        have x2 : (wr.alloc (.cells #[.int .i64 what, .int .i64 at_, .string b, .slice adr K kcap] 58)).cell? ⟨wr.heap.size, 2, none⟩ = some (.string b) := new_cell wr _ _ 2
        have x3 : (wr.alloc (.cells #[.int .i64 what, .int .i64 at_, .string b, .slice adr K kcap] 58)).cell? ⟨wr.heap.size, 3, none⟩ = some (.slice adr K kcap) := new_cell wr _ _ 3
        have HB1 : Hid (Below wb.heap.size wb (wr.alloc (.cells #[.int .i64 what, .int .i64 at_, .string b, .slice adr K kcap] 58))) := HB.out.alloc HB.out.size _
        have HT1 := Lib.hid (HT.out.block (.cells #[.int .i64 what, .int .i64 at_, .string b, .slice adr K kcap] 58))
        have hkb : BoolsAt (wr.alloc (.cells #[.int .i64 what, .int .i64 at_, .string b, .slice adr K kcap] 58)) adr keep := hkp.below ((Below.refl _ _).alloc (Nat.le_refl _) _)
        clear c0 c1 c2 c3 HB HT hkp
        generalize wr.alloc (.cells #[.int .i64 what, .int .i64 at_, .string b, .slice adr K kcap] 58) = W1 at x0 x1 x2 x3 HB1 HT1 hkb ⊢
        obtain ⟨Xs, hXs⟩ : ∃ Xs : Nat → Prop, Xs = fun k => X0 k ∨ k = wr.heap.size := ⟨_, rfl⟩
        rw [← hXs] at HT1
        have HXX : Hid (Xs wr.heap.size) := by rw [hXs]; exact .inr rfl
        clear hXs
        generalize wr.heap.size = X at x0 x1 x2 x3 HXX ⊢
        have HX1 := Lib.hid x1
        have HX2 := Lib.hid x2
        have HX3 := Lib.hid x3
        have HLL : Hid (Left wb.heap.size Xs W1 W1) := Left.refl _ _ _
        have HKB := Lib.hid hkb
        have HKC : Hid (∀ w', Left wb.heap.size Xs W1 w' → BoolsAt w' adr keep) := fun w' h j x hj => by
          obtain ⟨qb, off, e, hc⟩ := hkb j x hj
          have hlt := HKN.out (by have := (List.getElem?_eq_some_iff.1 hj).1; omega) qb off e
          exact ⟨qb, off, e, (h.1.cell (p := ⟨qb, off + j, none⟩) hlt).trans hc⟩
        have HOUT : Hid (∀ (D' : DS) (c : Int) (J' : JS) (sup' : Nat), Pl (i + 2) (4000 + 70000 * (i + 1)) k D' → JInv (i + 2) D' J' sup' → ∀ (w' : World) (X' : Nat → Prop), Below wb.heap.size wb w' → Quad wb.heap.size w' p q D' D' X' pj J' qj (rOf sup' J') →
            ∃ (D2 : DS) (c2 : Int) (X2 : Nat → Prop), Value.int .i64 c = .int .i64 c2 ∧ Value.int .i64 c = .int .i64 c2 ∧ Hid (Below wb.heap.size wb w') ∧ Hid (St wb.heap.size w' p q (.pointer (some ⟨pj, 0, none⟩)) (.pointer (some ⟨qj, 0, none⟩)) (i + 2) (4000 + 70000 * (i + 1)) k D2 X2)) :=
          fun D' c J' sup' hP hI w' X' hb hq => ⟨D', c, X', rfl, rfl, hb, hP, .inr ⟨pj, qj, J', sup', rfl, rfl, hI, HI.out.2, hq⟩⟩
        clear hkb
        go_cut [8, 11, 16, 17] (fun v8 v11 v16 v17 wx => ∃ (D2 : DS) (c2 : Int) (X2 : Nat → Prop), v16 = .int .i64 c2 ∧ v17 = .int .i64 c2 ∧ Hid (Below wb.heap.size wb wx) ∧ Hid (St wb.heap.size wx p q v8 v11 (i + 2) (4000 + 70000 * (i + 1)) k D2 X2))
        case first =>
          by_cases q1 : what ≤ 4
          · as_aux_lemma =>
            have cAd := Lib.hid (fun V X (h : Quad wb.heap.size V p q D D X pj J qj (rOf sup J)) => qAdd_d b HD2.out.1 (by have := HI.out.1.turn; have := HIZ.out; omega) HI.out.1.which (by have := HI.out.1.n; have := HIZ.out; omega) (by have := HI.out.1.b; have := half_le HP.out.ok; omega) HBZ.out (by have := HD2.out.2; omega) h)
            have cAr := Lib.hid (fun V X (h : Quad wb.heap.size V p q (addJ D J b).1 D X pj (addJ D J b).2.1 qj (rOf sup J)) => qAdd_r b HI.out.1 (by have := HIZ.out; omega) HD2.out.1 HBZ.out (by have := HD2.out.2; omega) h)
            have HPZ := Lib.hid ((add_keep HP.out b HI.out.1.b (by have := HIZ.out; omega)).mono (U := i + 2) (n := 4000 + 70000 * (i + 1)) (by omega) (by omega))
            have HIZ2 := Lib.hid (HI.out.1.add b)
            generalize (addJ D J b).1 = DZ at cAd cAr HPZ HIZ2
            generalize (addJ D J b).2.1 = JZ at cAd cAr HIZ2
            generalize (addJ D J b).2.2 = ce at cAd cAr
            go_upto_region 23 with fail
            clear x0 x1 x2 x3
            have HBV : Hid (Below wb.heap.size wb W1.drew) := HB1.out.drew
            replace HT1 : Hid (Quad wb.heap.size W1.drew p q D D Xs pj J qj (rOf sup J)) := HT1.out.drew
            replace HX2 : Hid (W1.drew.cell? ⟨X, 2, none⟩ = some (.string b)) := HX2.out
            refine wp_region_fam (S := (xS X b)) (ds := (fun _ => [])) (by kernel_rfl) ?_
            generalize W1.drew = V at HBV HT1 HX2 ⊢
            refine wpFam_take (i := 0) 0 (some 107) (v := ?_) rfl (by kernel_rfl) (by kernel_rfl) (by kernel_rfl) (by kernel_rfl) (by kernel_rfl) (fun _ _ _ h => h) rfl (Or.inl ⟨by rfl, ?_⟩) (by exact trivial) ?_
            rotate_left
            · (intro w hSw; (try simp only [xS] at hSw); go_simp); (try with_reducible rfl)
            try simp only [Act.put, List.setIfInBounds_toArray, List.set_cons_zero, List.set_cons_succ]
            refine wpFam_take (i := 1) 0 (some 108) (v := ?_) rfl (by kernel_rfl) (by kernel_rfl) (by kernel_rfl) (by kernel_rfl) (by kernel_rfl) (fun _ _ _ h => h) rfl (Or.inl ⟨by rfl, ?_⟩) (by exact trivial) ?_
            rotate_left
            · (intro w hSw; (try simp only [xS] at hSw); go_simp); (try with_reducible rfl)
            try simp only [Act.put, List.setIfInBounds_toArray, List.set_cons_zero, List.set_cons_succ]
            refine wpFam_take (i := 2) 1 (some 109) (v := ?_) rfl (by kernel_rfl) (by kernel_rfl) (by kernel_rfl) (by kernel_rfl) (by kernel_rfl) (fun _ _ _ h => h) rfl (Or.inl ⟨by rfl, ?_⟩) (by exact xS_of HX2.out 1) ?_
            rotate_left
            · (intro w hSw; (try simp only [xS] at hSw); go_simp); (try with_reducible rfl)
            try simp only [Act.put, List.setIfInBounds_toArray, List.set_cons_zero, List.set_cons_succ]
            refine wpFam_take (i := 5) 0 (some 112) (v := ?_) rfl (by kernel_rfl) (by kernel_rfl) (by kernel_rfl) (by kernel_rfl) (by kernel_rfl) (fun _ _ _ h => h) rfl (Or.inl ⟨by rfl, ?_⟩) (by exact trivial) ?_
            rotate_left
            · (intro w hSw; (try simp only [xS] at hSw); go_simp); (try with_reducible rfl)
            try simp only [Act.put, List.setIfInBounds_toArray, List.set_cons_zero, List.set_cons_succ]
            refine wpFam_take (i := 6) 0 (some 113) (v := ?_) rfl (by kernel_rfl) (by kernel_rfl) (by kernel_rfl) (by kernel_rfl) (by kernel_rfl) (fun _ _ _ h => h) rfl (Or.inl ⟨by rfl, ?_⟩) (by exact trivial) ?_
            rotate_left
            · (intro w hSw; (try simp only [xS] at hSw); go_simp); (try with_reducible rfl)
            try simp only [Act.put, List.setIfInBounds_toArray, List.set_cons_zero, List.set_cons_succ]
            refine wpFam_take (i := 7) 1 (some 114) (v := ?_) rfl (by kernel_rfl) (by kernel_rfl) (by kernel_rfl) (by kernel_rfl) (by kernel_rfl) (fun _ _ _ h => h) rfl (Or.inl ⟨by rfl, ?_⟩) (by exact xS_of HX2.out 1) ?_
            rotate_left
            · (intro w hSw; (try simp only [xS] at hSw); go_simp); (try with_reducible rfl)
            try simp only [Act.put, List.setIfInBounds_toArray, List.set_cons_zero, List.set_cons_succ]
            refine wpFam_ready (rs := [3]) (by kernel_rfl) (by simp) ?_
            refine AllReadyF.cons (i := 3) rfl (fun K hK => ?_) ?_
            ·
              refine step_call Tryz.func27 (by kernel_rfl) rfl #[.pointer (some ⟨pj, 0, none⟩), .string b] (by rfl) (by rfl) (by first | rfl | (simp [Act.eval, Act.put]; done)) ?_
              refine (cAd.out _ _ HT1.out).mono ?_
              rintro e V ⟨rfl, hb, ho⟩
              replace HBV := Lib.hid (HBV.out.trans hb.1)
              replace HT1 := Lib.hid ho
              replace HX2 := Lib.hid (hb.cell HXX.out HX2.out)
              try replace HS2 := Lib.hid ((hb.2 _ HXS.out).trans HS2.out)
              clear hb ho
              refine ⟨_, rfl, ?_⟩
              try change K (Act.put _ (some 110) _) _
              refine hK.out _ _ ?_ ?_
              · ((intro i _ _; exact xS_of HX2.out i))
              clear hK K
              try simp only [Act.put, List.setIfInBounds_toArray, List.set_cons_zero, List.set_cons_succ]
              refine wpFam_ready (rs := [4]) (by kernel_rfl) (by simp) ?_
              refine AllReadyF.cons (i := 4) rfl (fun K hK => ?_) ?_
              ·
                refine step_call Tryz.func24 (by kernel_rfl) rfl #[errV ce] (by rfl) (by rfl) (by first | rfl | (simp [Act.eval, Act.put]; done)) ?_
                refine (qCode _ HT1.out).mono ?_
                rintro e V ⟨rfl, hb, ho⟩
                replace HBV := Lib.hid (HBV.out.trans hb.1)
                replace HT1 := Lib.hid ho
                replace HX2 := Lib.hid (hb.cell HXX.out HX2.out)
                try replace HS2 := Lib.hid ((hb.2 _ HXS.out).trans HS2.out)
                clear hb ho
                refine ⟨_, rfl, ?_⟩
                try change K (Act.put _ (some 111) _) _
                refine hK.out _ _ ?_ ?_
                · ((intro i _ _; exact xS_of HX2.out i))
                clear hK K
                try simp only [Act.put, List.setIfInBounds_toArray, List.set_cons_zero, List.set_cons_succ]
                refine wpFam_ready (rs := [8]) (by kernel_rfl) (by simp) ?_
                refine AllReadyF.cons (i := 8) rfl (fun K hK => ?_) ?_
                ·
                  refine step_call Tryz.func28 (by kernel_rfl) rfl #[.pointer (some ⟨qj, 0, none⟩), .string b] (by rfl) (by rfl) (by first | rfl | (simp [Act.eval, Act.put]; done)) ?_
                  refine (cAr.out _ _ HT1.out).mono ?_
                  rintro e V ⟨rfl, hb, ho⟩
                  replace HBV := Lib.hid (HBV.out.trans hb.1)
                  replace HT1 := Lib.hid ho
                  replace HX2 := Lib.hid (hb.cell HXX.out HX2.out)
                  try replace HS2 := Lib.hid ((hb.2 _ HXS.out).trans HS2.out)
                  clear hb ho
                  refine ⟨_, rfl, ?_⟩
                  try change K (Act.put _ (some 115) _) _
                  refine hK.out _ _ ?_ ?_
                  · ((intro i _ _; exact xS_of HX2.out i))
                  clear hK K
                  try simp only [Act.put, List.setIfInBounds_toArray, List.set_cons_zero, List.set_cons_succ]
                  refine wpFam_take (i := 9) 0 (some 16) (v := ?_) rfl (by kernel_rfl) (by kernel_rfl) (by kernel_rfl) (by kernel_rfl) (by kernel_rfl) (fun _ _ _ h => h) rfl (Or.inl ⟨by rfl, ?_⟩) (by exact trivial) ?_
                  rotate_left
                  · (intro w hSw; (try simp only [xS] at hSw); go_simp); (try with_reducible rfl)
                  try simp only [Act.put, List.setIfInBounds_toArray, List.set_cons_zero, List.set_cons_succ]
                  refine wpFam_take (i := 10) 0 (some 17) (v := ?_) rfl (by kernel_rfl) (by kernel_rfl) (by kernel_rfl) (by kernel_rfl) (by kernel_rfl) (fun _ _ _ h => h) rfl (Or.inl ⟨by rfl, ?_⟩) (by exact trivial) ?_
                  rotate_left
                  · (intro w hSw; (try simp only [xS] at hSw); go_simp); (try with_reducible rfl)
                  try simp only [Act.put, List.setIfInBounds_toArray, List.set_cons_zero, List.set_cons_succ]
                  refine wpFam_done (by kernel_rfl) ?_ _
                  go_wp2
                  go_meet
                  exact HOUT.out _ ce _ _ HPZ.out HIZ2.out _ _ HBV.out HT1.out
                exact AllReadyF.nil
              exact AllReadyF.nil
            exact AllReadyF.nil
          · have u1 : (4 : Int) < what := by omega
            by_cases q2 : what ≤ 6
            · as_aux_lemma =>
              have cSd := Lib.hid (fun V X (h : Quad wb.heap.size V p q D D X pj J qj (rOf sup J)) => qSync_d h)
              have cSr := Lib.hid (fun V X (h : Quad wb.heap.size V p q (syncJ D J).1 D X pj (syncJ D J).2.1 qj (rOf sup J)) => qSync_r h)
              have HPZ := Lib.hid ((sync_keep (J := J) HP.out (by have := HIZ.out; omega)).mono (U := i + 2) (n := 4000 + 70000 * (i + 1)) (by omega) (by omega))
              have HIZ2 := Lib.hid ((HI.out.1.sync HP.out.ok).mono (U := i + 2) (by omega))
              generalize (syncJ D J).1 = DZ at cSd cSr HPZ HIZ2
              generalize (syncJ D J).2.1 = JZ at cSd cSr HIZ2
              generalize (syncJ D J).2.2 = ce at cSd cSr
              clear q1
              go_wp2_with (first
                | (go_at_call 15; (with_reducible refine (cSd.out _ _ HT1.out).mono ?_); rintro e w3 ⟨rfl, hb, ho⟩; replace HB1 := Lib.hid (HB1.out.trans hb.1); replace HLL := Lib.hid (HLL.out.trans hb); replace HT1 := Lib.hid ho; clear hb ho)
                | (go_at_call 24; (with_reducible refine (qCode _ HT1.out).mono ?_); rintro e w3 ⟨rfl, hb, ho⟩; replace HB1 := Lib.hid (HB1.out.trans hb.1); replace HLL := Lib.hid (HLL.out.trans hb); replace HT1 := Lib.hid ho; clear hb ho)
                | (go_at_call 29; (with_reducible refine (cSr.out _ _ HT1.out).mono ?_); rintro e w3 ⟨rfl, hb, ho⟩; replace HB1 := Lib.hid (HB1.out.trans hb.1); replace HLL := Lib.hid (HLL.out.trans hb); replace HT1 := Lib.hid ho; clear hb ho))
              go_meet
              exact HOUT.out _ ce _ _ HPZ.out HIZ2.out _ _ HB1.out HT1.out
            · have u2 : (6 : Int) < what := by omega
              by_cases q3 : what = 7
              · subst q3
                as_aux_lemma =>
                have hrs : ∀ r ∈ [b, b], r.size ≤ 1000 := fun r hr => by
                  have : r = b := by simpa using hr
                  rw [this]; exact HBZ.out
                have cCd := Lib.hid (fun V X (a : Option Addr) (hs : SlOf mkS V a [b, b]) (h : Quad wb.heap.size V p q D D X pj J qj (rOf sup J)) => qCompact_d a 2 2 [b, b] rfl hs HD2.out.1 (by have := HI.out.1.turn; have := HIZ.out; omega) HI.out.1.which (by simp) hrs (by have := HD2.out.2; omega) h)
                have cCr := Lib.hid (fun V X (a : Option Addr) (hs : SlOf mkS V a [b, b]) (h : Quad wb.heap.size V p q (compactJ D J [b, b]).1 D X pj (compactJ D J [b, b]).2.1 qj (rOf sup J)) => qCompact_r a 2 2 [b, b] rfl hs HI.out.1 (by have := HIZ.out; omega) HD2.out.1 (by simp) hrs HD2.out.2 h)
                have hcm := HI.out.1.compact HP.out (by have := HIZ.out; omega) (by have := HIZ.out; omega) HD2.out.1 [b, b] (by simp)
                have HPZ := Lib.hid (hcm.2.mono (U := i + 2) (n := 4000 + 70000 * (i + 1)) (by omega) (by omega))
                have HIZ2 := Lib.hid hcm.1
                clear hcm hrs q1 q2
                generalize (compactJ D J [b, b]).1 = DZ at cCd cCr HPZ HIZ2
                generalize (compactJ D J [b, b]).2.1 = JZ at cCd cCr HIZ2
                generalize (compactJ D J [b, b]).2.2 = ce at cCd cCr HIZ2
                generalize (if ce = 0 then 1 - sup else sup) = sz at cCr HIZ2
                go_upto_region 27 with fail
                clear x0 x1 x2 x3
                have HBV : Hid (Below wb.heap.size wb W1.drew) := HB1.out.drew
                replace HT1 : Hid (Quad wb.heap.size W1.drew p q D D Xs pj J qj (rOf sup J)) := HT1.out.drew
                replace HX2 : Hid (W1.drew.cell? ⟨X, 2, none⟩ = some (.string b)) := HX2.out
                refine wp_region_fam (S := (xS X b)) (ds := (fun _ => [])) (by kernel_rfl) ?_
                generalize W1.drew = V at HBV HT1 HX2 ⊢
                refine wpFam_take (i := 0) 0 (some 129) (v := ?_) rfl (by kernel_rfl) (by kernel_rfl) (by kernel_rfl) (by kernel_rfl) (by kernel_rfl) (fun _ _ _ h => h) rfl (Or.inl ⟨by rfl, ?_⟩) (by exact trivial) ?_
                rotate_left
                · (intro w hSw; (try simp only [xS] at hSw); go_simp); (try with_reducible rfl)
                try simp only [Act.put, List.setIfInBounds_toArray, List.set_cons_zero, List.set_cons_succ]
                refine wpFam_take (i := 1) 0 (some 130) (v := ?_) rfl (by kernel_rfl) (by kernel_rfl) (by kernel_rfl) (by kernel_rfl) (by kernel_rfl) (fun _ _ _ h => h) rfl (Or.inl ⟨by rfl, ?_⟩) (by exact trivial) ?_
                rotate_left
                · (intro w hSw; (try simp only [xS] at hSw); go_simp); (try with_reducible rfl)
                try simp only [Act.put, List.setIfInBounds_toArray, List.set_cons_zero, List.set_cons_succ]
                refine wpFam_take (i := 2) 1 (some 131) (v := ?_) rfl (by kernel_rfl) (by kernel_rfl) (by kernel_rfl) (by kernel_rfl) (by kernel_rfl) (fun _ _ _ h => h) rfl (Or.inl ⟨by rfl, ?_⟩) (by exact xS_of HX2.out 1) ?_
                rotate_left
                · (intro w hSw; (try simp only [xS] at hSw); go_simp); (try with_reducible rfl)
                try simp only [Act.put, List.setIfInBounds_toArray, List.set_cons_zero, List.set_cons_succ]
                refine wpFam_take (i := 3) 0 (some 132) (v := ?_) rfl (by kernel_rfl) (by kernel_rfl) (by kernel_rfl) (by kernel_rfl) (by kernel_rfl) (fun _ _ _ h => h) rfl (Or.inl ⟨by rfl, ?_⟩) (by exact trivial) ?_
                rotate_left
                · (intro w hSw; (try simp only [xS] at hSw); go_simp); (try with_reducible rfl)
                try simp only [Act.put, List.setIfInBounds_toArray, List.set_cons_zero, List.set_cons_succ]
                refine wpFam_take (i := 4) 1 (some 133) (v := ?_) rfl (by kernel_rfl) (by kernel_rfl) (by kernel_rfl) (by kernel_rfl) (by kernel_rfl) (fun _ _ _ h => h) rfl (Or.inl ⟨by rfl, ?_⟩) (by exact xS_of HX2.out 1) ?_
                rotate_left
                · (intro w hSw; (try simp only [xS] at hSw); go_simp); (try with_reducible rfl)
                try simp only [Act.put, List.setIfInBounds_toArray, List.set_cons_zero, List.set_cons_succ]
                refine wpFam_take (i := 8) 0 (some 137) (v := ?_) rfl (by kernel_rfl) (by kernel_rfl) (by kernel_rfl) (by kernel_rfl) (by kernel_rfl) (fun _ _ _ h => h) rfl (Or.inl ⟨by rfl, ?_⟩) (by exact trivial) ?_
                rotate_left
                · (intro w hSw; (try simp only [xS] at hSw); go_simp); (try with_reducible rfl)
                try simp only [Act.put, List.setIfInBounds_toArray, List.set_cons_zero, List.set_cons_succ]
                refine wpFam_take (i := 9) 0 (some 138) (v := ?_) rfl (by kernel_rfl) (by kernel_rfl) (by kernel_rfl) (by kernel_rfl) (by kernel_rfl) (fun _ _ _ h => h) rfl (Or.inl ⟨by rfl, ?_⟩) (by exact trivial) ?_
                rotate_left
                · (intro w hSw; (try simp only [xS] at hSw); go_simp); (try with_reducible rfl)
                try simp only [Act.put, List.setIfInBounds_toArray, List.set_cons_zero, List.set_cons_succ]
                refine wpFam_take (i := 10) 1 (some 139) (v := ?_) rfl (by kernel_rfl) (by kernel_rfl) (by kernel_rfl) (by kernel_rfl) (by kernel_rfl) (fun _ _ _ h => h) rfl (Or.inl ⟨by rfl, ?_⟩) (by exact xS_of HX2.out 1) ?_
                rotate_left
                · (intro w hSw; (try simp only [xS] at hSw); go_simp); (try with_reducible rfl)
                try simp only [Act.put, List.setIfInBounds_toArray, List.set_cons_zero, List.set_cons_succ]
                refine wpFam_take (i := 11) 0 (some 140) (v := ?_) rfl (by kernel_rfl) (by kernel_rfl) (by kernel_rfl) (by kernel_rfl) (by kernel_rfl) (fun _ _ _ h => h) rfl (Or.inl ⟨by rfl, ?_⟩) (by exact trivial) ?_
                rotate_left
                · (intro w hSw; (try simp only [xS] at hSw); go_simp); (try with_reducible rfl)
                try simp only [Act.put, List.setIfInBounds_toArray, List.set_cons_zero, List.set_cons_succ]
                refine wpFam_take (i := 12) 1 (some 141) (v := ?_) rfl (by kernel_rfl) (by kernel_rfl) (by kernel_rfl) (by kernel_rfl) (by kernel_rfl) (fun _ _ _ h => h) rfl (Or.inl ⟨by rfl, ?_⟩) (by exact xS_of HX2.out 1) ?_
                rotate_left
                · (intro w hSw; (try simp only [xS] at hSw); go_simp); (try with_reducible rfl)
                try simp only [Act.put, List.setIfInBounds_toArray, List.set_cons_zero, List.set_cons_succ]
                refine wpFam_ready (rs := [5, 13]) (by kernel_rfl) (by simp) ?_
                refine AllReadyF.cons (i := 5) rfl (fun K hK => ?_) ?_
                ·
                  go_simp
                  have hn1 : (V.alloc (.cells #[.string b, .string b] 9)).heap[V.heap.size]? = some (.cells #[.string b, .string b] 9 (0, 0)) := heap_alloc_new V _
                  have ht1 := (HT1.out.below ((Below.refl _ _).alloc (Nat.le_refl _) (.cells #[.string b, .string b] 9))).2
                  have hb1 := HBV.out.alloc HBV.out.size (.cells #[.string b, .string b] 9)
                  have hx1 := cell_keep ((Below.refl V.heap.size V).alloc (Nat.le_refl _) (.cells #[.string b, .string b] 9)) HX2.out
                  try have h2 := (((Below.refl V.heap.size V).alloc (Nat.le_refl _) (.cells #[.string b, .string b] 9)).block _ (heap_lt HS2.out)).trans HS2.out
                  clear HT1 HBV HX2
                  try clear HS2
                  generalize V.heap.size = sb1 at hn1 ⊢
                  first
                    | (generalize V.alloc (.cells #[.string b, .string b] 9) = V at hn1 ht1 hb1 hx1 h2 ⊢)
                    | (generalize V.alloc (.cells #[.string b, .string b] 9) = V at hn1 ht1 hb1 hx1 ⊢)
                  have HS1 := Lib.hid hn1
                  have HT1 := Lib.hid ht1
                  have HBV := Lib.hid hb1
                  have HX2 := Lib.hid hx1
                  try have HS2 := Lib.hid h2
                  clear hn1 ht1 hb1 hx1
                  try clear h2
                  try change K (Act.put _ (some 134) _) _
                  refine hK.out _ _ ?_ ?_
                  · ((intro i _ _; exact xS_of HX2.out i))
                  clear hK K
                  try simp only [Act.put, List.setIfInBounds_toArray, List.set_cons_zero, List.set_cons_succ]
                  refine wpFam_ready (rs := [6, 13]) (by kernel_rfl) (by simp) ?_
                  refine AllReadyF.cons (i := 6) rfl (fun K hK => ?_) ?_
                  ·
                    refine step_call Tryz.func17 (by kernel_rfl) rfl #[.pointer (some ⟨pj, 0, none⟩), .slice (some ⟨sb1, 0, none⟩) 2 2] (by rfl) (by rfl) (by first | rfl | (simp [Act.eval, Act.put]; done)) ?_
                    refine (cCd.out _ _ _ (sl_two HS1.out) HT1.out).mono ?_
                    rintro e V ⟨rfl, hb, ho⟩
                    replace HBV := Lib.hid (HBV.out.trans hb.1)
                    replace HT1 := Lib.hid ho
                    replace HX2 := Lib.hid (hb.cell HXX.out HX2.out)
                    try replace HS2 := Lib.hid ((hb.2 _ HXS.out).trans HS2.out)
                    clear hb ho HS1
                    refine ⟨_, rfl, ?_⟩
                    try change K (Act.put _ (some 135) _) _
                    refine hK.out _ _ ?_ ?_
                    · ((intro i _ _; exact xS_of HX2.out i))
                    clear hK K
                    try simp only [Act.put, List.setIfInBounds_toArray, List.set_cons_zero, List.set_cons_succ]
                    refine wpFam_ready (rs := [7, 13]) (by kernel_rfl) (by simp) ?_
                    refine AllReadyF.cons (i := 7) rfl (fun K hK => ?_) ?_
                    ·
                      refine step_call Tryz.func24 (by kernel_rfl) rfl #[errV ce] (by rfl) (by rfl) (by first | rfl | (simp [Act.eval, Act.put]; done)) ?_
                      refine (qCode _ HT1.out).mono ?_
                      rintro e V ⟨rfl, hb, ho⟩
                      replace HBV := Lib.hid (HBV.out.trans hb.1)
                      replace HT1 := Lib.hid ho
                      replace HX2 := Lib.hid (hb.cell HXX.out HX2.out)
                      try replace HS2 := Lib.hid ((hb.2 _ HXS.out).trans HS2.out)
                      clear hb ho
                      refine ⟨_, rfl, ?_⟩
                      try change K (Act.put _ (some 136) _) _
                      refine hK.out _ _ ?_ ?_
                      · ((intro i _ _; exact xS_of HX2.out i))
                      clear hK K
                      try simp only [Act.put, List.setIfInBounds_toArray, List.set_cons_zero, List.set_cons_succ]
                      refine wpFam_ready (rs := [13]) (by kernel_rfl) (by simp) ?_
                      refine AllReadyF.cons (i := 13) rfl (fun K hK => ?_) ?_
                      ·
                        go_simp
                        have hn1 : (V.alloc (.cells #[.string b, .string b] 9)).heap[V.heap.size]? = some (.cells #[.string b, .string b] 9 (0, 0)) := heap_alloc_new V _
                        have ht1 := HT1.out.block (.cells #[.string b, .string b] 9)
                        obtain ⟨Ys, hYs⟩ : ∃ Ys : Nat → Prop, Ys = fun k => Xs k ∨ k = V.heap.size := ⟨_, rfl⟩
                        rw [← hYs] at ht1
                        have hy1 : Ys X := by rw [hYs]; exact .inl HXX.out
                        have hy2 : Ys V.heap.size := by rw [hYs]; exact .inr rfl
                        clear hYs
                        have hb1 := HBV.out.alloc HBV.out.size (.cells #[.string b, .string b] 9)
                        have hx1 := cell_keep ((Below.refl V.heap.size V).alloc (Nat.le_refl _) (.cells #[.string b, .string b] 9)) HX2.out
                        try have h1 := (((Below.refl V.heap.size V).alloc (Nat.le_refl _) (.cells #[.string b, .string b] 9)).block _ (heap_lt HS1.out)).trans HS1.out
                        clear HT1 HBV HX2
                        try clear HS1
                        generalize V.heap.size = sb2 at hn1 hy2 ⊢
                        first
                          | (generalize V.alloc (.cells #[.string b, .string b] 9) = V at hn1 ht1 hb1 hx1 h1 ⊢)
                          | (generalize V.alloc (.cells #[.string b, .string b] 9) = V at hn1 ht1 hb1 hx1 ⊢)
                        replace HXX := Lib.hid hy1
                        have HXS := Lib.hid hy2
                        clear hy1 hy2
                        have HS2 := Lib.hid hn1
                        have HT1 := Lib.hid ht1
                        have HBV := Lib.hid hb1
                        have HX2 := Lib.hid hx1
                        try have HS1 := Lib.hid h1
                        clear hn1 ht1 hb1 hx1
                        try clear h1
                        try change K (Act.put _ (some 142) _) _
                        refine hK.out _ _ ?_ ?_
                        · ((intro i _ _; exact xS_of HX2.out i))
                        clear hK K
                        try simp only [Act.put, List.setIfInBounds_toArray, List.set_cons_zero, List.set_cons_succ]
                        refine wpFam_ready (rs := [14]) (by kernel_rfl) (by simp) ?_
                        refine AllReadyF.cons (i := 14) rfl (fun K hK => ?_) ?_
                        ·
                          refine step_call Tryz.func30 (by kernel_rfl) rfl #[.pointer (some ⟨qj, 0, none⟩), .slice (some ⟨sb2, 0, none⟩) 2 2] (by rfl) (by rfl) (by first | rfl | (simp [Act.eval, Act.put]; done)) ?_
                          refine (cCr.out _ _ _ (sl_two HS2.out) HT1.out).mono ?_
                          rintro e V ⟨rfl, hb, ho⟩
                          replace HBV := Lib.hid (HBV.out.trans hb.1)
                          replace HT1 := Lib.hid ho
                          replace HX2 := Lib.hid (hb.cell HXX.out HX2.out)
                          try replace HS2 := Lib.hid ((hb.2 _ HXS.out).trans HS2.out)
                          clear hb ho
                          refine ⟨_, rfl, ?_⟩
                          try change K (Act.put _ (some 143) _) _
                          refine hK.out _ _ ?_ ?_
                          · ((intro i _ _; exact xS_of HX2.out i))
                          clear hK K
                          try simp only [Act.put, List.setIfInBounds_toArray, List.set_cons_zero, List.set_cons_succ]
                          refine wpFam_take (i := 15) 0 (some 16) (v := ?_) rfl (by kernel_rfl) (by kernel_rfl) (by kernel_rfl) (by kernel_rfl) (by kernel_rfl) (fun _ _ _ h => h) rfl (Or.inl ⟨by rfl, ?_⟩) (by exact trivial) ?_
                          rotate_left
                          · (intro w hSw; (try simp only [xS] at hSw); go_simp); (try with_reducible rfl)
                          try simp only [Act.put, List.setIfInBounds_toArray, List.set_cons_zero, List.set_cons_succ]
                          refine wpFam_take (i := 16) 0 (some 17) (v := ?_) rfl (by kernel_rfl) (by kernel_rfl) (by kernel_rfl) (by kernel_rfl) (by kernel_rfl) (fun _ _ _ h => h) rfl (Or.inl ⟨by rfl, ?_⟩) (by exact trivial) ?_
                          rotate_left
                          · (intro w hSw; (try simp only [xS] at hSw); go_simp); (try with_reducible rfl)
                          try simp only [Act.put, List.setIfInBounds_toArray, List.set_cons_zero, List.set_cons_succ]
                          refine wpFam_done (by kernel_rfl) ?_ _
                          go_wp2
                          go_meet
                          exact HOUT.out _ ce _ _ HPZ.out HIZ2.out _ _ HBV.out HT1.out
                        exact AllReadyF.nil
                      exact AllReadyF.nil
                    refine AllReadyF.cons (i := 13) rfl (fun K hK => ?_) ?_
                    ·
                      go_simp
                      have hn1 : (V.alloc (.cells #[.string b, .string b] 9)).heap[V.heap.size]? = some (.cells #[.string b, .string b] 9 (0, 0)) := heap_alloc_new V _
                      have ht1 := HT1.out.block (.cells #[.string b, .string b] 9)
                      obtain ⟨Ys, hYs⟩ : ∃ Ys : Nat → Prop, Ys = fun k => Xs k ∨ k = V.heap.size := ⟨_, rfl⟩
                      rw [← hYs] at ht1
                      have hy1 : Ys X := by rw [hYs]; exact .inl HXX.out
                      have hy2 : Ys V.heap.size := by rw [hYs]; exact .inr rfl
                      clear hYs
                      have hb1 := HBV.out.alloc HBV.out.size (.cells #[.string b, .string b] 9)
                      have hx1 := cell_keep ((Below.refl V.heap.size V).alloc (Nat.le_refl _) (.cells #[.string b, .string b] 9)) HX2.out
                      try have h1 := (((Below.refl V.heap.size V).alloc (Nat.le_refl _) (.cells #[.string b, .string b] 9)).block _ (heap_lt HS1.out)).trans HS1.out
                      clear HT1 HBV HX2
                      try clear HS1
                      generalize V.heap.size = sb2 at hn1 hy2 ⊢
                      first
                        | (generalize V.alloc (.cells #[.string b, .string b] 9) = V at hn1 ht1 hb1 hx1 h1 ⊢)
                        | (generalize V.alloc (.cells #[.string b, .string b] 9) = V at hn1 ht1 hb1 hx1 ⊢)
                      replace HXX := Lib.hid hy1
                      have HXS := Lib.hid hy2
                      clear hy1 hy2
                      have HS2 := Lib.hid hn1
                      have HT1 := Lib.hid ht1
                      have HBV := Lib.hid hb1
                      have HX2 := Lib.hid hx1
                      try have HS1 := Lib.hid h1
                      clear hn1 ht1 hb1 hx1
                      try clear h1
                      try change K (Act.put _ (some 142) _) _
                      refine hK.out _ _ ?_ ?_
                      · ((intro i _ _; exact xS_of HX2.out i))
                      clear hK K
                      try simp only [Act.put, List.setIfInBounds_toArray, List.set_cons_zero, List.set_cons_succ]
                      refine wpFam_ready (rs := [7]) (by kernel_rfl) (by simp) ?_
                      refine AllReadyF.cons (i := 7) rfl (fun K hK => ?_) ?_
                      ·
                        refine step_call Tryz.func24 (by kernel_rfl) rfl #[errV ce] (by rfl) (by rfl) (by first | rfl | (simp [Act.eval, Act.put]; done)) ?_
                        refine (qCode _ HT1.out).mono ?_
                        rintro e V ⟨rfl, hb, ho⟩
                        replace HBV := Lib.hid (HBV.out.trans hb.1)
                        replace HT1 := Lib.hid ho
                        replace HX2 := Lib.hid (hb.cell HXX.out HX2.out)
                        try replace HS2 := Lib.hid ((hb.2 _ HXS.out).trans HS2.out)
                        clear hb ho
                        refine ⟨_, rfl, ?_⟩
                        try change K (Act.put _ (some 136) _) _
                        refine hK.out _ _ ?_ ?_
                        · ((intro i _ _; exact xS_of HX2.out i))
                        clear hK K
                        try simp only [Act.put, List.setIfInBounds_toArray, List.set_cons_zero, List.set_cons_succ]
                        refine wpFam_ready (rs := [14]) (by kernel_rfl) (by simp) ?_
                        refine AllReadyF.cons (i := 14) rfl (fun K hK => ?_) ?_
                        ·
                          refine step_call Tryz.func30 (by kernel_rfl) rfl #[.pointer (some ⟨qj, 0, none⟩), .slice (some ⟨sb2, 0, none⟩) 2 2] (by rfl) (by rfl) (by first | rfl | (simp [Act.eval, Act.put]; done)) ?_
                          refine (cCr.out _ _ _ (sl_two HS2.out) HT1.out).mono ?_
                          rintro e V ⟨rfl, hb, ho⟩
                          replace HBV := Lib.hid (HBV.out.trans hb.1)
                          replace HT1 := Lib.hid ho
                          replace HX2 := Lib.hid (hb.cell HXX.out HX2.out)
                          try replace HS2 := Lib.hid ((hb.2 _ HXS.out).trans HS2.out)
                          clear hb ho
                          refine ⟨_, rfl, ?_⟩
                          try change K (Act.put _ (some 143) _) _
                          refine hK.out _ _ ?_ ?_
                          · ((intro i _ _; exact xS_of HX2.out i))
                          clear hK K
                          try simp only [Act.put, List.setIfInBounds_toArray, List.set_cons_zero, List.set_cons_succ]
                          refine wpFam_take (i := 15) 0 (some 16) (v := ?_) rfl (by kernel_rfl) (by kernel_rfl) (by kernel_rfl) (by kernel_rfl) (by kernel_rfl) (fun _ _ _ h => h) rfl (Or.inl ⟨by rfl, ?_⟩) (by exact trivial) ?_
                          rotate_left
                          · (intro w hSw; (try simp only [xS] at hSw); go_simp); (try with_reducible rfl)
                          try simp only [Act.put, List.setIfInBounds_toArray, List.set_cons_zero, List.set_cons_succ]
                          refine wpFam_take (i := 16) 0 (some 17) (v := ?_) rfl (by kernel_rfl) (by kernel_rfl) (by kernel_rfl) (by kernel_rfl) (by kernel_rfl) (fun _ _ _ h => h) rfl (Or.inl ⟨by rfl, ?_⟩) (by exact trivial) ?_
                          rotate_left
                          · (intro w hSw; (try simp only [xS] at hSw); go_simp); (try with_reducible rfl)
                          try simp only [Act.put, List.setIfInBounds_toArray, List.set_cons_zero, List.set_cons_succ]
                          refine wpFam_done (by kernel_rfl) ?_ _
                          go_wp2
                          go_meet
                          exact HOUT.out _ ce _ _ HPZ.out HIZ2.out _ _ HBV.out HT1.out
                        exact AllReadyF.nil
                      exact AllReadyF.nil
                    exact AllReadyF.nil
                  refine AllReadyF.cons (i := 13) rfl (fun K hK => ?_) ?_
                  ·
                    go_simp
                    have hn1 : (V.alloc (.cells #[.string b, .string b] 9)).heap[V.heap.size]? = some (.cells #[.string b, .string b] 9 (0, 0)) := heap_alloc_new V _
                    have ht1 := HT1.out.block (.cells #[.string b, .string b] 9)
                    obtain ⟨Ys, hYs⟩ : ∃ Ys : Nat → Prop, Ys = fun k => Xs k ∨ k = V.heap.size := ⟨_, rfl⟩
                    rw [← hYs] at ht1
                    have hy1 : Ys X := by rw [hYs]; exact .inl HXX.out
                    have hy2 : Ys V.heap.size := by rw [hYs]; exact .inr rfl
                    clear hYs
                    have hb1 := HBV.out.alloc HBV.out.size (.cells #[.string b, .string b] 9)
                    have hx1 := cell_keep ((Below.refl V.heap.size V).alloc (Nat.le_refl _) (.cells #[.string b, .string b] 9)) HX2.out
                    try have h1 := (((Below.refl V.heap.size V).alloc (Nat.le_refl _) (.cells #[.string b, .string b] 9)).block _ (heap_lt HS1.out)).trans HS1.out
                    clear HT1 HBV HX2
                    try clear HS1
                    generalize V.heap.size = sb2 at hn1 hy2 ⊢
                    first
                      | (generalize V.alloc (.cells #[.string b, .string b] 9) = V at hn1 ht1 hb1 hx1 h1 ⊢)
                      | (generalize V.alloc (.cells #[.string b, .string b] 9) = V at hn1 ht1 hb1 hx1 ⊢)
                    replace HXX := Lib.hid hy1
                    have HXS := Lib.hid hy2
                    clear hy1 hy2
                    have HS2 := Lib.hid hn1
                    have HT1 := Lib.hid ht1
                    have HBV := Lib.hid hb1
                    have HX2 := Lib.hid hx1
                    try have HS1 := Lib.hid h1
                    clear hn1 ht1 hb1 hx1
                    try clear h1
                    try change K (Act.put _ (some 142) _) _
                    refine hK.out _ _ ?_ ?_
                    · ((intro i _ _; exact xS_of HX2.out i))
                    clear hK K
                    try simp only [Act.put, List.setIfInBounds_toArray, List.set_cons_zero, List.set_cons_succ]
                    refine wpFam_ready (rs := [6]) (by kernel_rfl) (by simp) ?_
                    refine AllReadyF.cons (i := 6) rfl (fun K hK => ?_) ?_
                    ·
                      refine step_call Tryz.func17 (by kernel_rfl) rfl #[.pointer (some ⟨pj, 0, none⟩), .slice (some ⟨sb1, 0, none⟩) 2 2] (by rfl) (by rfl) (by first | rfl | (simp [Act.eval, Act.put]; done)) ?_
                      refine (cCd.out _ _ _ (sl_two HS1.out) HT1.out).mono ?_
                      rintro e V ⟨rfl, hb, ho⟩
                      replace HBV := Lib.hid (HBV.out.trans hb.1)
                      replace HT1 := Lib.hid ho
                      replace HX2 := Lib.hid (hb.cell HXX.out HX2.out)
                      try replace HS2 := Lib.hid ((hb.2 _ HXS.out).trans HS2.out)
                      clear hb ho HS1
                      refine ⟨_, rfl, ?_⟩
                      try change K (Act.put _ (some 135) _) _
                      refine hK.out _ _ ?_ ?_
                      · ((intro i _ _; exact xS_of HX2.out i))
                      clear hK K
                      try simp only [Act.put, List.setIfInBounds_toArray, List.set_cons_zero, List.set_cons_succ]
                      refine wpFam_ready (rs := [7]) (by kernel_rfl) (by simp) ?_
                      refine AllReadyF.cons (i := 7) rfl (fun K hK => ?_) ?_
                      ·
                        refine step_call Tryz.func24 (by kernel_rfl) rfl #[errV ce] (by rfl) (by rfl) (by first | rfl | (simp [Act.eval, Act.put]; done)) ?_
                        refine (qCode _ HT1.out).mono ?_
                        rintro e V ⟨rfl, hb, ho⟩
                        replace HBV := Lib.hid (HBV.out.trans hb.1)
                        replace HT1 := Lib.hid ho
                        replace HX2 := Lib.hid (hb.cell HXX.out HX2.out)
                        try replace HS2 := Lib.hid ((hb.2 _ HXS.out).trans HS2.out)
                        clear hb ho
                        refine ⟨_, rfl, ?_⟩
                        try change K (Act.put _ (some 136) _) _
                        refine hK.out _ _ ?_ ?_
                        · ((intro i _ _; exact xS_of HX2.out i))
                        clear hK K
                        try simp only [Act.put, List.setIfInBounds_toArray, List.set_cons_zero, List.set_cons_succ]
                        refine wpFam_ready (rs := [14]) (by kernel_rfl) (by simp) ?_
                        refine AllReadyF.cons (i := 14) rfl (fun K hK => ?_) ?_
                        ·
                          refine step_call Tryz.func30 (by kernel_rfl) rfl #[.pointer (some ⟨qj, 0, none⟩), .slice (some ⟨sb2, 0, none⟩) 2 2] (by rfl) (by rfl) (by first | rfl | (simp [Act.eval, Act.put]; done)) ?_
                          refine (cCr.out _ _ _ (sl_two HS2.out) HT1.out).mono ?_
                          rintro e V ⟨rfl, hb, ho⟩
                          replace HBV := Lib.hid (HBV.out.trans hb.1)
                          replace HT1 := Lib.hid ho
                          replace HX2 := Lib.hid (hb.cell HXX.out HX2.out)
                          try replace HS2 := Lib.hid ((hb.2 _ HXS.out).trans HS2.out)
                          clear hb ho
                          refine ⟨_, rfl, ?_⟩
                          try change K (Act.put _ (some 143) _) _
                          refine hK.out _ _ ?_ ?_
                          · ((intro i _ _; exact xS_of HX2.out i))
                          clear hK K
                          try simp only [Act.put, List.setIfInBounds_toArray, List.set_cons_zero, List.set_cons_succ]
                          refine wpFam_take (i := 15) 0 (some 16) (v := ?_) rfl (by kernel_rfl) (by kernel_rfl) (by kernel_rfl) (by kernel_rfl) (by kernel_rfl) (fun _ _ _ h => h) rfl (Or.inl ⟨by rfl, ?_⟩) (by exact trivial) ?_
                          rotate_left
                          · (intro w hSw; (try simp only [xS] at hSw); go_simp); (try with_reducible rfl)
                          try simp only [Act.put, List.setIfInBounds_toArray, List.set_cons_zero, List.set_cons_succ]
                          refine wpFam_take (i := 16) 0 (some 17) (v := ?_) rfl (by kernel_rfl) (by kernel_rfl) (by kernel_rfl) (by kernel_rfl) (by kernel_rfl) (fun _ _ _ h => h) rfl (Or.inl ⟨by rfl, ?_⟩) (by exact trivial) ?_
                          rotate_left
                          · (intro w hSw; (try simp only [xS] at hSw); go_simp); (try with_reducible rfl)
                          try simp only [Act.put, List.setIfInBounds_toArray, List.set_cons_zero, List.set_cons_succ]
                          refine wpFam_done (by kernel_rfl) ?_ _
                          go_wp2
                          go_meet
                          exact HOUT.out _ ce _ _ HPZ.out HIZ2.out _ _ HBV.out HT1.out
                        exact AllReadyF.nil
                      exact AllReadyF.nil
                    exact AllReadyF.nil
                  exact AllReadyF.nil
                refine AllReadyF.cons (i := 13) rfl (fun K hK => ?_) ?_
                ·
                  go_simp
                  have hn1 : (V.alloc (.cells #[.string b, .string b] 9)).heap[V.heap.size]? = some (.cells #[.string b, .string b] 9 (0, 0)) := heap_alloc_new V _
                  have ht1 := HT1.out.block (.cells #[.string b, .string b] 9)
                  obtain ⟨Ys, hYs⟩ : ∃ Ys : Nat → Prop, Ys = fun k => Xs k ∨ k = V.heap.size := ⟨_, rfl⟩
                  rw [← hYs] at ht1
                  have hy1 : Ys X := by rw [hYs]; exact .inl HXX.out
                  have hy2 : Ys V.heap.size := by rw [hYs]; exact .inr rfl
                  clear hYs
                  have hb1 := HBV.out.alloc HBV.out.size (.cells #[.string b, .string b] 9)
                  have hx1 := cell_keep ((Below.refl V.heap.size V).alloc (Nat.le_refl _) (.cells #[.string b, .string b] 9)) HX2.out
                  try have h1 := (((Below.refl V.heap.size V).alloc (Nat.le_refl _) (.cells #[.string b, .string b] 9)).block _ (heap_lt HS1.out)).trans HS1.out
                  clear HT1 HBV HX2
                  try clear HS1
                  generalize V.heap.size = sb2 at hn1 hy2 ⊢
                  first
                    | (generalize V.alloc (.cells #[.string b, .string b] 9) = V at hn1 ht1 hb1 hx1 h1 ⊢)
                    | (generalize V.alloc (.cells #[.string b, .string b] 9) = V at hn1 ht1 hb1 hx1 ⊢)
                  replace HXX := Lib.hid hy1
                  have HXS := Lib.hid hy2
                  clear hy1 hy2
                  have HS2 := Lib.hid hn1
                  have HT1 := Lib.hid ht1
                  have HBV := Lib.hid hb1
                  have HX2 := Lib.hid hx1
                  try have HS1 := Lib.hid h1
                  clear hn1 ht1 hb1 hx1
                  try clear h1
                  try change K (Act.put _ (some 142) _) _
                  refine hK.out _ _ ?_ ?_
                  · ((intro i _ _; exact xS_of HX2.out i))
                  clear hK K
                  try simp only [Act.put, List.setIfInBounds_toArray, List.set_cons_zero, List.set_cons_succ]
                  refine wpFam_ready (rs := [5]) (by kernel_rfl) (by simp) ?_
                  refine AllReadyF.cons (i := 5) rfl (fun K hK => ?_) ?_
                  ·
                    go_simp
                    have hn1 : (V.alloc (.cells #[.string b, .string b] 9)).heap[V.heap.size]? = some (.cells #[.string b, .string b] 9 (0, 0)) := heap_alloc_new V _
                    have ht1 := (HT1.out.below ((Below.refl _ _).alloc (Nat.le_refl _) (.cells #[.string b, .string b] 9))).2
                    have hb1 := HBV.out.alloc HBV.out.size (.cells #[.string b, .string b] 9)
                    have hx1 := cell_keep ((Below.refl V.heap.size V).alloc (Nat.le_refl _) (.cells #[.string b, .string b] 9)) HX2.out
                    try have h2 := (((Below.refl V.heap.size V).alloc (Nat.le_refl _) (.cells #[.string b, .string b] 9)).block _ (heap_lt HS2.out)).trans HS2.out
                    clear HT1 HBV HX2
                    try clear HS2
                    generalize V.heap.size = sb1 at hn1 ⊢
                    first
                      | (generalize V.alloc (.cells #[.string b, .string b] 9) = V at hn1 ht1 hb1 hx1 h2 ⊢)
                      | (generalize V.alloc (.cells #[.string b, .string b] 9) = V at hn1 ht1 hb1 hx1 ⊢)
                    have HS1 := Lib.hid hn1
                    have HT1 := Lib.hid ht1
                    have HBV := Lib.hid hb1
                    have HX2 := Lib.hid hx1
                    try have HS2 := Lib.hid h2
                    clear hn1 ht1 hb1 hx1
                    try clear h2
                    try change K (Act.put _ (some 134) _) _
                    refine hK.out _ _ ?_ ?_
                    · ((intro i _ _; exact xS_of HX2.out i))
                    clear hK K
                    try simp only [Act.put, List.setIfInBounds_toArray, List.set_cons_zero, List.set_cons_succ]
                    refine wpFam_ready (rs := [6]) (by kernel_rfl) (by simp) ?_
                    refine AllReadyF.cons (i := 6) rfl (fun K hK => ?_) ?_
                    ·
                      refine step_call Tryz.func17 (by kernel_rfl) rfl #[.pointer (some ⟨pj, 0, none⟩), .slice (some ⟨sb1, 0, none⟩) 2 2] (by rfl) (by rfl) (by first | rfl | (simp [Act.eval, Act.put]; done)) ?_
                      refine (cCd.out _ _ _ (sl_two HS1.out) HT1.out).mono ?_
                      rintro e V ⟨rfl, hb, ho⟩
                      replace HBV := Lib.hid (HBV.out.trans hb.1)
                      replace HT1 := Lib.hid ho
                      replace HX2 := Lib.hid (hb.cell HXX.out HX2.out)
                      try replace HS2 := Lib.hid ((hb.2 _ HXS.out).trans HS2.out)
                      clear hb ho HS1
                      refine ⟨_, rfl, ?_⟩
                      try change K (Act.put _ (some 135) _) _
                      refine hK.out _ _ ?_ ?_
                      · ((intro i _ _; exact xS_of HX2.out i))
                      clear hK K
                      try simp only [Act.put, List.setIfInBounds_toArray, List.set_cons_zero, List.set_cons_succ]
                      refine wpFam_ready (rs := [7]) (by kernel_rfl) (by simp) ?_
                      refine AllReadyF.cons (i := 7) rfl (fun K hK => ?_) ?_
                      ·
                        refine step_call Tryz.func24 (by kernel_rfl) rfl #[errV ce] (by rfl) (by rfl) (by first | rfl | (simp [Act.eval, Act.put]; done)) ?_
                        refine (qCode _ HT1.out).mono ?_
                        rintro e V ⟨rfl, hb, ho⟩
                        replace HBV := Lib.hid (HBV.out.trans hb.1)
                        replace HT1 := Lib.hid ho
                        replace HX2 := Lib.hid (hb.cell HXX.out HX2.out)
                        try replace HS2 := Lib.hid ((hb.2 _ HXS.out).trans HS2.out)
                        clear hb ho
                        refine ⟨_, rfl, ?_⟩
                        try change K (Act.put _ (some 136) _) _
                        refine hK.out _ _ ?_ ?_
                        · ((intro i _ _; exact xS_of HX2.out i))
                        clear hK K
                        try simp only [Act.put, List.setIfInBounds_toArray, List.set_cons_zero, List.set_cons_succ]
                        refine wpFam_ready (rs := [14]) (by kernel_rfl) (by simp) ?_
                        refine AllReadyF.cons (i := 14) rfl (fun K hK => ?_) ?_
                        ·
                          refine step_call Tryz.func30 (by kernel_rfl) rfl #[.pointer (some ⟨qj, 0, none⟩), .slice (some ⟨sb2, 0, none⟩) 2 2] (by rfl) (by rfl) (by first | rfl | (simp [Act.eval, Act.put]; done)) ?_
                          refine (cCr.out _ _ _ (sl_two HS2.out) HT1.out).mono ?_
                          rintro e V ⟨rfl, hb, ho⟩
                          replace HBV := Lib.hid (HBV.out.trans hb.1)
                          replace HT1 := Lib.hid ho
                          replace HX2 := Lib.hid (hb.cell HXX.out HX2.out)
                          try replace HS2 := Lib.hid ((hb.2 _ HXS.out).trans HS2.out)
                          clear hb ho
                          refine ⟨_, rfl, ?_⟩
                          try change K (Act.put _ (some 143) _) _
                          refine hK.out _ _ ?_ ?_
                          · ((intro i _ _; exact xS_of HX2.out i))
                          clear hK K
                          try simp only [Act.put, List.setIfInBounds_toArray, List.set_cons_zero, List.set_cons_succ]
                          refine wpFam_take (i := 15) 0 (some 16) (v := ?_) rfl (by kernel_rfl) (by kernel_rfl) (by kernel_rfl) (by kernel_rfl) (by kernel_rfl) (fun _ _ _ h => h) rfl (Or.inl ⟨by rfl, ?_⟩) (by exact trivial) ?_
                          rotate_left
                          · (intro w hSw; (try simp only [xS] at hSw); go_simp); (try with_reducible rfl)
                          try simp only [Act.put, List.setIfInBounds_toArray, List.set_cons_zero, List.set_cons_succ]
                          refine wpFam_take (i := 16) 0 (some 17) (v := ?_) rfl (by kernel_rfl) (by kernel_rfl) (by kernel_rfl) (by kernel_rfl) (by kernel_rfl) (fun _ _ _ h => h) rfl (Or.inl ⟨by rfl, ?_⟩) (by exact trivial) ?_
                          rotate_left
                          · (intro w hSw; (try simp only [xS] at hSw); go_simp); (try with_reducible rfl)
                          try simp only [Act.put, List.setIfInBounds_toArray, List.set_cons_zero, List.set_cons_succ]
                          refine wpFam_done (by kernel_rfl) ?_ _
                          go_wp2
                          go_meet
                          exact HOUT.out _ ce _ _ HPZ.out HIZ2.out _ _ HBV.out HT1.out
                        exact AllReadyF.nil
                      exact AllReadyF.nil
                    exact AllReadyF.nil
                  exact AllReadyF.nil
                exact AllReadyF.nil
              · have u3 : (what == 7) = false := beq_eq_false_iff_ne.2 q3
                by_cases q4 : what = 8
                · subst q4
                  clear q1 q2 q3
                  have HT2 := Lib.hid HT1.out.toTwo
                  clear HT1
                  have hok := HP.out.ok.crash (keepOf keep) at_
                  have hlc : (D.crash (keepOf keep) at_).sure.length = D.sure.length := crash_len HP.out.ok _ _
                  obtain ⟨P2, I2⟩ := open_inv (HP.out.crash (by have := HIZ.out; omega) (keepOf keep) at_ hok hlc) (by have := HIZ.out; omega) (by have := HIZ.out; omega)
                  have hd1 : (D.crash (keepOf keep) at_).done < 1099510000000 := by have := (HP.out.crash (by have := HIZ.out; omega) (keepOf keep) at_ hok hlc).done; have := HIZ.out; omega
                  have hn1 : (D.crash (keepOf keep) at_).newest.1 ≤ 1000000 := by have := (HP.out.crash (by have := HIZ.out; omega) (keepOf keep) at_ hok hlc).sups.newest (by have := HIZ.out; omega); have := HIZ.out; omega
                  have cCr := Lib.hid (fun V (hb : BoolsAt V adr keep) (h : Two wb.heap.size V p q (D.crash (keepOf keep) at_) D Xs) => tCrash_r adr K kcap keep at_ HKL.out.symm HKZ.out hb h)
                  have cCd := Lib.hid (fun V (hb : BoolsAt V adr keep) (h : Two wb.heap.size V p q D D Xs) => tCrash_d adr K kcap keep at_ HKL.out.symm HKZ.out hb HKN.out h)
                  generalize D.crash (keepOf keep) at_ = DC at P2 I2 hd1 hn1 cCd cCr
                  obtain ⟨R2, hR2⟩ : ∃ R2, R2 = DC.opens := ⟨_, rfl⟩
                  rw [← hR2] at P2 I2
                  have HPC := Lib.hid (P2.mono (U := i + 2) (n := 4000 + 70000 * (i + 1)) (by omega) (by omega))
                  have HIC := Lib.hid I2
                  have HRC := Lib.hid (And.intro hR2 (And.intro hd1 hn1))
                  clear P2 I2 hR2 hd1 hn1 hok hlc
                  go_upto_region 31 with (first
                    | (go_at_call 18; (with_reducible refine (cCd.out _ HKB.out HT2.out).mono ?_); rintro e w3 ⟨rfl, hb, ho⟩; replace HB1 := Lib.hid (HB1.out.trans hb.1); replace HLL := Lib.hid (HLL.out.trans hb); replace HT2 := Lib.hid ho; clear hb ho; have HKB3 := Lib.hid (HKC.out w3 HLL.out); have x1 := HLL.out.cell HXX.out HX1.out; have x3 := HLL.out.cell HXX.out HX3.out)
                    | (go_at_call 31; (with_reducible refine (cCr.out _ HKB3.out HT2.out).mono ?_); rintro e w4 ⟨rfl, hb, ho⟩; replace HB1 := Lib.hid (HB1.out.trans hb.1); replace HLL := Lib.hid (HLL.out.trans hb); replace HT2 := Lib.hid ho; clear hb ho))
                  clear x0 x1 x2 x3 cCd cCr
                  by_cases hz0 : R2.2.1 = 0
                  · as_aux_lemma =>
                    go_upto_region 33 with (first
                      | (go_at_call 9; (with_reducible refine (tOpen_d R2 HRC.out.1 HRC.out.2.1 HRC.out.2.2 hz0 HT2.out).mono ?_); rintro e w5 ⟨pj2, v2, rfl, hb, ho⟩; replace HB1 := Lib.hid (HB1.out.trans hb.1); have HT3 := Lib.hid ho; clear hb ho)
                      | (go_at_call 26; (with_reducible refine (tOpen_r R2 HRC.out.1 HRC.out.2.1 HRC.out.2.2 hz0 HT3.out).mono ?_); rintro e w6 ⟨qj2, u2, rfl, hb, ho, hr1, hr2⟩; replace HB1 := Lib.hid (HB1.out.trans hb.1); have HT4 := Lib.hid ho; obtain ⟨ra, rc, rfl, hs1⟩ := sl_own hr1; obtain ⟨ra2, rc2, rfl, hs2⟩ := sl_own hr2; have HS1 := Lib.hid hs1; have HS2 := Lib.hid hs2; clear hb ho hr1 hr2 hs1 hs2))
                    have hln : R2.2.2.1.n = R2.2.2.2.length := by rw [HRC.out.1]; exact opens_n (by rw [← HRC.out.1]; exact hz0)
                    have hlz : R2.2.2.2.length ≤ 9223372036854775807 := by have := (HIC.out hz0).1.n; have := HIZ.out; omega
                    have HIC2 := Lib.hid (HIC.out hz0)
                    have csm := Lib.hid (fun V (h1 : SlOf mkS V ra R2.2.2.2) (h2 : SlOf mkS V ra2 R2.2.2.2) => same_yes ra ra2 rc rc2 _ R2.2.2.2 rfl hlz V h1 h2)
                    have e0 : (Value.nilIface : Value) = errV 0 := errV_zero.symm
                    rw [e0]
                    clear hln hlz hz0 HT2 HT3 HLL e0
                    generalize R2.2.2.2.length = lz at csm ⊢
                    go_wp2_with (first
                      | (go_at_call 24; (with_reducible refine (code4_any 0 _ HT4.out.ev).mono ?_); rintro e w7 ⟨rfl, hb⟩; replace HB1 := Lib.hid (HB1.out.trans (HT4.out.below hb).1.1); replace HT4 := Lib.hid (HT4.out.below hb).2; replace HS1 := Lib.hid (HS1.out.below hb); replace HS2 := Lib.hid (HS2.out.below hb); clear hb)
                      | (go_at_call 19; (with_reducible refine (csm.out _ HS1.out HS2.out).mono ?_); rintro e w8 ⟨rfl, hb⟩; replace HB1 := Lib.hid (HB1.out.trans (HT4.out.below hb).1.1); replace HT4 := Lib.hid (HT4.out.below hb).2; clear hb))
                    go_meet
                    exact ⟨R2.1, 0, Xs, rfl, rfl, HB1, HPC.out, .inr ⟨pj2, qj2, R2.2.2.1, supOf DC, rfl, rfl, HIC2.out.1.mono (by omega), HIC2.out.2, HT4.out⟩⟩
                  · as_aux_lemma =>
                    have HZ0 := Lib.hid hz0
                    have csm := Lib.hid (fun V => same_yes none none 0 0 0 [] rfl (by decide) V (fun j x hj => by simp at hj) (fun j x hj => by simp at hj))
                    clear hz0
                    go_wp2_with (first
                      | (go_at_call 9; (with_reducible refine (tOpenErr_d R2 HRC.out.1 HRC.out.2.1 HRC.out.2.2 HZ0.out HT2.out).mono ?_); rintro e w5 ⟨rfl, hb, ho⟩; replace HB1 := Lib.hid (HB1.out.trans hb.1); replace HT2 := Lib.hid ho; clear hb ho)
                      | (go_at_call 26; (with_reducible refine (tOpenErr_r R2 HRC.out.1 HRC.out.2.1 HRC.out.2.2 HZ0.out HT2.out).mono ?_); rintro e w6 ⟨rfl, hb, ho⟩; replace HB1 := Lib.hid (HB1.out.trans hb.1); replace HT2 := Lib.hid ho; clear hb ho)
                      | (go_at_call 24; (with_reducible refine (tCode _ HT2.out).mono ?_); rintro e w7 ⟨rfl, hb, ho⟩; replace HB1 := Lib.hid (HB1.out.trans hb.1); replace HT2 := Lib.hid ho; clear hb ho)
                      | (go_at_call 19; (with_reducible refine (csm.out _).mono ?_); rintro e w8 ⟨rfl, hb⟩; replace HB1 := Lib.hid (HB1.out.trans (HT2.out.below hb).1.1); replace HT2 := Lib.hid (HT2.out.below hb).2; clear hb))
                    go_meet
                    exact ⟨R2.1, 0, Xs, rfl, rfl, HB1, HPC.out, .inl ⟨rfl, rfl, HT2.out⟩⟩
                · have u4 : (what == 8) = false := beq_eq_false_iff_ne.2 q4
                  as_aux_lemma =>
                  have HPZ := Lib.hid ((HP.out.cut at_ (HP.out.ok.cut at_ HM.out)).mono (U := i + 2) (n := 4000 + 70000 * (i + 1)) (by omega) (by omega))
                  have HIZ2 := Lib.hid ((HI.out.1.cut at_).mono (U := i + 2) (by omega))
                  have cXd := Lib.hid (fun V X (h : Quad wb.heap.size V p q D D X pj J qj (rOf sup J)) => qCut_d at_ HM.out h)
                  have cXr := Lib.hid (fun V X (h : Quad wb.heap.size V p q (D.cut at_) D X pj J qj (rOf sup J)) => qCut_r at_ HM.out h)
                  clear q1 q2 q3 q4
                  go_wp2_with (first
                    | (go_at_call 16; (with_reducible refine (cXd.out _ _ HT1.out).mono ?_); rintro e w3 ⟨rfl, hb, ho⟩; replace HB1 := Lib.hid (HB1.out.trans hb.1); replace HLL := Lib.hid (HLL.out.trans hb); replace HT1 := Lib.hid ho; clear hb ho; have x1 := HLL.out.cell HXX.out HX1.out)
                    | (go_at_call 32; (with_reducible refine (cXr.out _ _ HT1.out).mono ?_); rintro e w3 ⟨rfl, hb, ho⟩; replace HB1 := Lib.hid (HB1.out.trans hb.1); replace HLL := Lib.hid (HLL.out.trans hb); replace HT1 := Lib.hid ho; clear hb ho))
                  go_meet
                  exact HOUT.out _ 0 _ _ HPZ.out HIZ2.out _ _ HB1.out HT1.out
        case rest =>
          clear x0 x1 x2 x3 HB1 HT1 HX1 HX2 HX3 HOUT HLL HXX HKB HKC HKN HKZ HKL HM HP HI HD2 HBZ
          obtain ⟨D2, c2, X2, rfl, rfl, HB, HST⟩ := hcut
          obtain ⟨W, hW⟩ : ∃ W, W = wc := ⟨_, rfl⟩
          subst hW
          have e1 : (c2 == c2) = true := beq_self_eq_true _
          go_upto_region 36 with fail
          go_cut [215] (fun v215 wy => v215 = .bool false ∧ Hid (Below wb.heap.size wb wy) ∧ Hid (St wb.heap.size wy p q u8 u11 (i + 2) (4000 + 70000 * (i + 1)) k D2 X2))
          case first =>
            as_aux_lemma =>
            have cw := Lib.hid (fun n => tWrites (w := W.drewN n) (HST.out.two.drewN n))
            obtain ⟨r1, k1, r2, k2, -, -, y3, -⟩ := HST.out.two.cells
            obtain ⟨M, hM⟩ : ∃ M, M = D2.done := ⟨_, rfl⟩
            rw [← hM] at y3 cw
            have e2 : ((M : Int) == (M : Int)) = true := beq_self_eq_true _
            clear hM
            rcases HST.out.2 with ⟨rfl, rfl, ht⟩ | ⟨pj2, qj2, J2, sup2, rfl, rfl, hI, h4, hq⟩
            · clear ht
              go_quiet (first | (go_at_call 21; with_reducible exact quiet_same (cw.out _)))
              go_wp2
              go_meet
              exact ⟨rfl, HB.out.trans (below_drewN _ _), HST.out.below (below_drewN _ _)⟩
            · have cl := Lib.hid (fun n => qLen (hq.drewN n))
              have z5 : W.cell? ⟨qj2, 5, none⟩ = some (.int .i64 (J2.n : Int)) := by
                obtain ⟨F, G, hq⟩ := hq
                exact hq.rb.cell 5
              obtain ⟨N2, hN2⟩ : ∃ N2, N2 = J2.n := ⟨_, rfl⟩
              rw [← hN2] at cl z5
              have e3 : ((N2 : Int) == (N2 : Int)) = true := beq_self_eq_true _
              clear hN2 hI h4 hq
              go_quiet (first | (go_at_call 21; with_reducible exact quiet_same (cw.out _)) | (go_at_call 22; with_reducible exact quiet_same (cl.out _)))
              go_wp2
              go_meet
              exact ⟨rfl, HB.out.trans (below_drewN _ _), HST.out.below (below_drewN _ _)⟩
          case rest =>
            as_aux_lemma =>
            clear HB HST e1
            obtain ⟨rfl, HB, HST⟩ := hcut
            obtain ⟨V, hV⟩ : ∃ V, V = wc := ⟨_, rfl⟩
            subst hV
            obtain ⟨k1, rfl⟩ : ∃ k1, gk = k1 + 1 := ⟨gk - 1, by omega⟩
            go_wp2
            go_loopg [24] k (fun kq v24 wr => ∃ m : Nat, v24 = .int .i64 (m : Int) ∧ m + kq = k ∧ Hid (Below wb.heap.size wb wr) ∧ Hid (St wb.heap.size wr p q u8 u11 (i + 2) (4000 + 70000 * (i + 1)) k D2 X2))
            case atStart => exact ⟨0, rfl, by omega, HB, HST⟩
            case round =>
              clear HB HST
              obtain ⟨m, rfl, hm, HB, HST⟩ := hrel
              by_cases hmk : m < k
              · have u7 : (m : Int) < (k : Int) := by omega
                obtain ⟨k2, rfl⟩ : ∃ k2, gk = k2 + 1 := ⟨gk - 1, by omega⟩
                obtain ⟨s, hs⟩ : ∃ s, s = D2.readS (m : Int) := ⟨_, rfl⟩
                obtain ⟨c, hc⟩ : ∃ c, c = D2.may (m : Int) := ⟨_, rfl⟩
                have cd := Lib.hid (fun w (h : Two wb.heap.size w p q D2 D2 X2) => tRead_d (m : Int) h)
                have cr := Lib.hid (fun w (h : Two wb.heap.size w p q D2 D2 X2) => tRead_r (m : Int) h)
                rw [← hs, ← hc] at cd cr
                have e1 : (s.toList == s.toList) = true := beq_self_eq_true _
                have e2 : (c == c) = true := beq_self_eq_true _
                clear hs hc hmk
                go_wp2_with (first
                  | (go_at_call 33; (with_reducible refine (cd.out _ HST.out.two).mono ?_); rintro e w5 ⟨rfl, rfl⟩)
                  | (go_at_call 34; (with_reducible refine (cr.out _ HST.out.two).mono ?_); rintro e w5 ⟨rfl, rfl⟩)
                  | (go_at_call 24; (with_reducible refine (stCode _ HST.out).mono ?_); rintro e w5 ⟨rfl, hb, ho⟩; replace HB := Lib.hid (HB.out.trans hb.1); replace HST := Lib.hid ho; clear hb ho))
                go_roundg k2
                case measure => omega
                case rel => exact ⟨m + 1, by go_num, by omega, HB.out, HST.out⟩
              · have u7 : (k : Int) ≤ (m : Int) := by omega
                clear hmk hm
                go_wp2
                go_roundg k1
                case measure => omega
                case rel => exact ⟨i + 1, D2, X2, by go_num, by omega, HB.out, HST.out⟩
      · obtain rfl : i = L := by omega
        have b1 : (i : Int) ≤ (i : Int) := by omega
        clear hlt hi
        go_wp2
        go_ret
        exact ⟨rfl, below_step HB0.out HB.out⟩
end Go.Proofs.YtjincmagbbpooaaGreatDoor

