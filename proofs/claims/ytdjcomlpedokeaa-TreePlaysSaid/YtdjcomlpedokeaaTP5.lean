import Derived.Test.YtdjcomlpedokeaaTP4
import Derived.Test.YtdjcomlpedokeaaL1
import Derived.Deep.DeepCutAuto
import Derived.Deep.CutBlock
import Derived.IntWalk
set_option linter.unusedVariables false
set_option linter.unusedSimpArgs false
namespace Go.Proofs.Ytdjcomlpedokeaa
open Go.RowKit

theorem Get_r (tb : Nat) (l : List (ByteArray × Int)) (key : ByteArray) : ∃ (n : Int) (r : Bool), (r = true → ∃ n, (key, n) ∈ l) ∧ (r = false → ∀ n, (key, n) ∉ l) ∧
    ∀ W, TG W tb l → Calls Try.prog 14 #[.pointer (some ⟨tb, 0, none⟩), .string key] W fun e w' => e = .returned (.tuple #[.int .i64 n, .bool r]) ∧ W = w' := by
  rcases has_or key l with ⟨n, hn⟩ | hn
  · exact ⟨n, true, fun _ => ⟨n, hn⟩, fun h => absurd h (by decide), fun W h => Get_in tb l key n W h hn⟩
  · exact ⟨0, false, fun h => absurd h (by decide), fun _ => hn, fun W h => Get_out tb l key W h hn⟩
def pS (X : Nat) (u1 u2 : Value) : Nat → World → Prop := fun q w' => match q with
  | 1 => w'.cell? ⟨X, 0, none⟩ = some u1 ∧ w'.cell? ⟨X, 1, none⟩ = some u2
  | _ => True
def pD : Nat → List Nat := fun q => match q with
  | 1 => [7]
  | _ => []
theorem pS_of {X : Nat} {u1 u2 : Value} {w' : World} {t : TypeId} (h : Blk w' X t #[u1, u2]) (q : Nat) : pS X u1 u2 q w' := by
  match q with
  | 0 => exact trivial
  | 1 => exact ⟨h.cell 0, h.cell 1⟩
  | _ + 2 => exact trivial
theorem pS_last {X : Nat} {u1 u2 : Value} {w w' : World} {q : Nat} (hq : 7 ∉ pD q) (hs : pS X u1 u2 q w) : pS X u1 u2 q w' := by
  match q, hq, hs with
  | 0, _, _ => exact trivial
  | 1, hq, _ => exact absurd (by simp [pD]) hq
  | _ + 2, _, _ => exact trivial
theorem hist_close {W : World} {B m : Nat} {v1 v2 : Value} {st : List Past} {s : Past} (hm : st.length = m) (h1 : W.ownsRow B 24 1 v1 (m + 1) (tsV st ++ [.pointer (some ⟨s.tb, 0, none⟩)]))
    (h2 : W.ownsRow B 30 2 v2 (m + 1) (msV st ++ [s.kv, s.nv])) (hE : Each W (st ++ [s])) : Hist W B v1 v2 (st ++ [s]) := by
  subst hm
  have hl : (st ++ [s]).length = st.length + 1 := by simp
  exact ⟨by rw [hl, tsV_snoc]; exact h1, by rw [hl, msV_snoc]; exact h2, hE⟩
theorem Try.infoP5 : (Try.prog.info? 24).map (fun i => (i.zero, i.size, i.bytes)) = some (some (.pointer none), 1, 8) := by kernel_rfl
theorem Try.infoM5 : (Try.prog.info? 30).map (fun i => (i.zero, i.size, i.bytes)) = some (some (.agg #[.slice none 0 0, .slice none 0 0]), 2, 48) := by kernel_rfl
def PlayPost (w3 : World) (l : List (ByteArray × Int)) (v10 : Value) (wx : World) : Prop :=
  ∃ X nk nn, v10 = .pointer (some ⟨X, 0, none⟩) ∧ Hid (Blk wx X 30 #[nk, nn]) ∧ Hid (w3.heap.size ≤ X) ∧ Hid (MdIn wx 0 nk nn l) ∧ Hid (Below w3.heap.size w3 wx)
theorem play_new {w3 w4 : World} {B : Nat} {nk nn : Value} {l : List (ByteArray × Int)} (hM : MdIn w4 B nk nn l) (hB : Below w3.heap.size w3 w4) :
    PlayPost w3 l (.pointer (some ⟨w4.heap.size, 0, none⟩)) (w4.alloc (.cells #[nk, nn] 30)) :=
  ⟨_, nk, nn, rfl, Blk.new _ _ _, hB.size, hM.base.below ((Below.refl _ _).alloc (Nat.le_refl _) _), hB.alloc hB.size _⟩
theorem play_old {w3 w4 : World} {o : Obj} {cs : Array Value} {nk nn : Value} {l : List (ByteArray × Int)} (hM : MdIn w4 (w3.alloc o).drew.heap.size nk nn l) (hB : Below w3.heap.size w3 w4) (hX : Blk w4 w3.heap.size 30 cs) (hcs : cs.size = 2) :
    PlayPost w3 l (.pointer (some ⟨w3.heap.size, 0, none⟩)) ((w4.setCell ⟨w3.heap.size, 0, none⟩ nk).setCell ⟨w3.heap.size, 1, none⟩ nn) := by
  have hs : (w3.alloc o).drew.heap.size = w3.heap.size + 1 := sz_alloc w3 o
  rw [hs] at hM
  have far : ∀ {e : TypeId} {v : Value} {m : Nat} {xs : List Value}, w4.ownsRow (w3.heap.size + 1) e 1 v m xs → ((w4.setCell ⟨w3.heap.size, 0, none⟩ nk).setCell ⟨w3.heap.size, 1, none⟩ nn).ownsRow (w3.heap.size + 1) e 1 v m xs := fun h =>
    own_same (own_same h fun q hq => Below.heap_setCell _ _ _ _ (by have := (h.lt q hq).1; show q ≠ w3.heap.size; omega)) fun q hq => Below.heap_setCell _ _ _ _ (by have := (h.lt q hq).1; show q ≠ w3.heap.size; omega)
  refine ⟨_, nk, nn, rfl, ?_, Nat.le_refl _, (MdIn.base ⟨far hM.k, far hM.n⟩), (hB.setCell (Nat.le_refl _) _).setCell (Nat.le_refl _) _⟩
  have := (hX.set_ 0 nk).set_ 1 nn
  obtain ⟨l0⟩ := cs
  match l0, hcs with
  | [c0, c1], _ => exact this

set_option maxHeartbeats 16000000 in
set_option maxRecDepth 100000 in
theorem TreePlays_any (a : Option Addr) (cap : Nat) (l : List StepD) (key : ByteArray) (w : World) (hl : StepsAt w a l) :
    Calls Try.prog 3 #[.slice a l.length cap, .string key] w (KnownPost w) := by
  have ck := Lib.hid (known_any w)
  obtain ⟨L, hL⟩ : ∃ L, L = l.length := ⟨_, rfl⟩
  rw [← hL]
  by_cases g1 : 60 < L
  · have t1 : decide ((60 : Int) < (L : Int)) = true := decide_eq_true (by omega)
    clear g1 hL hl
    go_enter Try.func3, Try.ntmps3
    go_wp2_with (go_at_call 6; (with_reducible refine ck.out.mono ?_); rintro e wb ⟨rfl, hb⟩; have HB0 := Lib.hid hb; clear hb)
    go_ret
    exact ⟨rfl, HB0.out⟩
  have t1 : decide ((60 : Int) < (L : Int)) = false := decide_eq_false (by omega)
  have hz : L ≤ 60 := by omega
  have HL := Lib.hid hL
  have HS := Lib.hid hl
  clear hL hl g1
  go_enter Try.func3, Try.ntmps3
  go_wp2_with (first
    | (go_at_call 6; (with_reducible refine ck.out.mono ?_); rintro e wb ⟨rfl, hb⟩; have HB0 := Lib.hid hb; clear hb)
    | (go_at_call 7; refine (New_g _).mono ?_; rintro e w2 ⟨tb0, rfl, hg, hb⟩; have HB1 := Lib.hid hb; have HG0 := Lib.hid hg; clear hb hg))
  have HB : Hid (Below w.heap.size w w2) := below_step HB0.out HB1.out
  have H0 := Lib.hid (Hist.first HB.out.size HG0.out)
  replace HB := Lib.hid ((HB.out.alloc (by exact HB.out.size) (.cells #[.pointer (some ⟨tb0, 0, none⟩)] 24)).alloc (by rw [sz_alloc]; have := HB.out.size; omega) (.cells #[.slice none 0 0, .slice none 0 0] 30))
  generalize ((w2.alloc (.cells #[.pointer (some ⟨tb0, 0, none⟩)] 24)).alloc (.cells #[.slice none 0 0, .slice none 0 0] 30)) = W0 at H0 HB ⊢
  clear HB0 HB1 HG0 ck
  go_loopg [5, 6, 7] L (fun kq v5 v6 v7 wr => ∃ (i : Nat) (st : List Past), v7 = .int .i64 (i : Int) ∧ i + kq = L ∧ Hid (st.length = i + 1) ∧ Hid (Hist wr w.heap.size v5 v6 st) ∧ Hid (Below w.heap.size w wr))
  case atStart => exact ⟨0, [⟨tb0, .slice none 0 0, .slice none 0 0, []⟩], rfl, by omega, rfl, H0, HB⟩
  case round =>
    clear H0 HB
    obtain ⟨i, st, rfl, hi, hn, HH, HB⟩ := hrel
    by_cases hlt : i < L
    · obtain ⟨s, hs⟩ : ∃ s, l[i]? = some s := ⟨_, List.getElem?_eq_getElem (by rw [← HL.out]; exact hlt)⟩
      obtain ⟨p, hp⟩ : ∃ p, st[i]? = some p := ⟨_, List.getElem?_eq_getElem (by rw [hn.out]; omega)⟩
      obtain ⟨ab, ao, rfl, hc⟩ := HS.out i s hs
      have HC := Lib.hid (hc.below HB.out)
      clear hc
      obtain ⟨skey, sn, sdel⟩ := s
      obtain ⟨tb, kv, nv, tl⟩ := p
      obtain ⟨m, hm⟩ : ∃ m, m = i + 1 := ⟨_, rfl⟩
      obtain ⟨gt, tc, gm, mc, rfl, rfl, x1, x2, x3, hfit, lt1, lt2, hc1, hc2⟩ := HH.out.at_ hp
      have HF := Lib.hid hfit
      have HN := hn
      replace hn := hn.out
      rw [hn, ← hm] at HH hc1 hc2 ⊢
      have HST : Hid (st.length = m) := by rw [hm]; exact hn
      clear hn hfit
      have HP := Lib.hid hp
      have HSt := Lib.hid hs
      clear hs hp
      have c0 := HC.out.c0
      have c1 := HC.out.c1
      have c2 := HC.out.c2
      simp only at c0 c1 c2 x1 x2 x3
      have q0 : (0 : Int) ≤ (i : Int) := by omega
      have q1 : (i : Int) < (L : Int) := by omega
      have q2 : (i : Int) < (m : Int) := by omega
      have hm1 : (m : Int) - 1 = (i : Int) := by omega
      have hm60 : m ≤ 61 := by omega
      have HMM := Lib.hid hm
      clear hm
      by_cases hlong : 30 < skey.size
      · have t2 : decide ((30 : Int) < (skey.size : Int)) = true := decide_eq_true (by omega)
        go_wp2
        go_ret
        exact ⟨rfl, HB.out⟩
      · have t2 : decide ((30 : Int) < (skey.size : Int)) = false := decide_eq_false (by omega)
        clear hlong
        go_upto_if 47 with fail
        go_cut [9] (fun v9 wx => ∃ ub, v9 = .pointer (some ⟨ub, 0, none⟩) ∧ Hid (TG wx ub (stepL ⟨skey, sn, sdel⟩ tl)) ∧ Hid (Below wr.heap.size wr wx))
        case first =>
          have hl1 : tl.length ≤ 1000 := by have := HF.out.n; simp only at this; omega
          cases sdel
          · have cw := Lib.hid (fun W (hW : Below wr.heap.size wr W) => With_g tb tl skey sn W (HF.out.g.below hW) hl1)
            clear hm1
            go_wp2
            go_region_with ((go_at_call 9; (with_reducible refine (cw.out _ (Below.refl _ _).drew).mono ?_); rintro e w3 ⟨ub, rfl, hg, hb⟩; have HG3 := Lib.hid hg; have HB3 := Lib.hid ((Below.refl wr.heap.size wr).drew.trans hb); clear hg hb))
            all_goals
              go_wp2
              go_meet
              exact ⟨ub, rfl, HG3.out, HB3.out⟩
          · go_wp2_with ((go_at_call 8; refine (Without_g tb tl skey _ HF.out.g hl1).mono ?_; rintro e w3 ⟨ub, rfl, hg, hb⟩; have HG3 := Lib.hid hg; have HB3 := Lib.hid hb; clear hg hb))
            go_meet
            exact ⟨ub, rfl, HG3.out, HB3.out⟩
        case rest =>
          obtain ⟨ub, rfl, hg, hb⟩ := hcut
          obtain ⟨w3, hw3⟩ : ∃ w3, w3 = wc := ⟨_, rfl⟩
          subst hw3
          have HH3 := Lib.hid (HH.out.below hb.out)
          have HC3 := Lib.hid (HC.out.below hb.out)
          have HF3 : Hid (Fit w3 i ⟨tb, kv, nv, tl⟩) := ⟨HF.out.g.below hb.out, HF.out.m.below hb.out, HF.out.n⟩
          have HB3 := Lib.hid (below_step HB.out hb.out)
          have y2 := cell_keep hb.out x2
          have y3 := cell_keep hb.out x3
          have d0 := HC3.out.c0
          have d1 := HC3.out.c1
          have d2 := HC3.out.c2
          simp only at d0 d1 d2
          have hmw : IntKind.i64.wrap ((m : Int) - 1) = (i : Int) := by rw [hm1]; exact IntWalk.i64_in _ (by omega)
          have hl1 : tl.length ≤ 1000 := by have := HF.out.n; simp only at this; omega
          have hti : tl.length ≤ i := HF.out.n
          clear x1 x2 x3 c0 c1 c2 HF HC HB hm1
          have la : ab < w3.heap.size := cell_lt d0
          have lg : gm < w3.heap.size := cell_lt y2
          have la' : ab ≠ w3.heap.size := by omega
          have lg' : gm ≠ w3.heap.size := by omega
          have cd := Lib.hid (fun W (hW : Below w3.heap.size w3 W) => done_any kv nv tl skey sn sdel W (HF3.out.m.below hW) hl1)
          have HRS : Hid (doneG skey sn sdel tl = stepL ⟨skey, sn, sdel⟩ tl) := stepL_done (s := ⟨skey, sn, sdel⟩) HF3.out.g.rise
          go_upto_region 16 with fail
          go_cut [10] (fun v10 wx => PlayPost w3 (stepL ⟨skey, sn, sdel⟩ tl) v10 wx)
          case first =>
            go_region_with ((go_at_call 10; first
              | ((with_reducible refine (cd.out _ (Below.refl _ _).drew).mono ?_); rintro e w4 ⟨nk, nn, rfl, hm, hb⟩; rw [HRS.out] at hm; obtain ⟨a3, c3, a4, c4, rfl, rfl⟩ := hm.form; have HM4 := Lib.hid hm; have HB4 := Lib.hid ((Below.refl w3.heap.size w3).drew.trans hb); clear hm hb)
              | ((with_reducible refine (cd.out _ ((Below.refl _ _).alloc (Nat.le_refl _) _).drew).mono ?_); rintro e w4 ⟨nk, nn, rfl, hm, hb⟩; rw [HRS.out] at hm; obtain ⟨a3, c3, a4, c4, rfl, rfl⟩ := hm.form; have HBX := Lib.hid ((show Blk (w3.alloc (.cells #[.slice none 0 0, .slice none 0 0] 30)).drew w3.heap.size _ _ from Blk.new w3 _ _).below hb); have HM4 := Lib.hid hm; have HB4 := Lib.hid (((Below.refl w3.heap.size w3).alloc (Nat.le_refl _) (.cells #[.slice none 0 0, .slice none 0 0] 30)).drew.trans (hb.mono (by show w3.heap.size ≤ (w3.alloc _).heap.size; rw [sz_alloc]; exact Nat.le_succ _))); have z0 := HBX.out.cell 0; have z1 := HBX.out.cell 1; have zf0 := HBX.out.frozen 0; have zf1 := HBX.out.frozen 1; simp at z0 z1 zf0 zf1; clear hm hb)))
            all_goals
              go_wp2
              go_meet
              first | exact play_old HM4.out HB4.out HBX.out rfl | exact play_new HM4.out HB4.out
          case rest =>
            obtain ⟨X, nk, nn, rfl, hX, hXs, hM, hB⟩ := hcut
            obtain ⟨w5, hw5⟩ : ∃ w5, w5 = wc := ⟨_, rfl⟩
            subst hw5
            have HG5 := Lib.hid (hg.out.below hB.out)
            have HH5 := Lib.hid (HH3.out.below hB.out)
            have HB5 := Lib.hid (below_step HB3.out hB.out)
            clear d0 d1 d2 y2 y3 la lg la' lg' cd HH3 HC3 HF3 HH hg hb hmw HRS
            obtain ⟨a3, c3, a4, c4, rfl, rfl⟩ := hM.out.form
            obtain ⟨nl, hnl⟩ : ∃ nl, nl = stepL ⟨skey, sn, sdel⟩ tl := ⟨_, rfl⟩
            have hlen := stepL_len ⟨skey, sn, sdel⟩ tl
            rw [← hnl] at hX hM HG5 hlen
            clear hnl
            obtain ⟨Z, hZ⟩ : ∃ Z, Z = nl.length := ⟨_, rfl⟩
            rw [← hZ] at hX hM hlen
            have hZ1 : Z ≤ 1000 := by omega
            have HLEN := Lib.hid hlen
            have HZ := Lib.hid hZ
            clear hZ hlen
            have x0 := hX.out.cell 0
            have x1 := hX.out.cell 1
            simp at x0 x1
            have hln : nl.length ≤ 1000 := by rw [← HZ.out]; exact hZ1
            have cal := Lib.hid (fun W (hW : Below w5.heap.size w5 W) => alike_any ub (.slice a3 Z c3) (.slice a4 Z c4) nl W (HG5.out.below hW) (hM.out.below hW) hln)
            have cdp := Lib.hid (fun W (hW : Below w5.heap.size w5 W) => Deep_g ub nl W (HG5.out.below hW))
            clear hln
            go_upto_region 17 with fail
            go_cut [90] (fun v90 wx => v90 = .bool false ∧ Hid (Below w5.heap.size w5 wx))
            case first =>
              go_region_with (first
                | (go_at_call 11; (with_reducible refine (cal.out _ (Below.refl _ _).drew).mono ?_); rintro e w6 ⟨rfl, hb⟩; have HB6 := Lib.hid ((Below.refl w5.heap.size w5).drew.trans hb); have z0 := cell_keep HB6.out x0; have z1 := cell_keep HB6.out x1; clear hb)
                | (go_at_call 13; (with_reducible refine (cdp.out _ HB6.out).mono ?_); rintro e w7 ⟨dd, rfl, hd1, hd2, rfl⟩; rw [← HZ.out] at hd1 hd2; have HD1 := Lib.hid hd1; have HD2 := Lib.hid hd2; clear hd1 hd2)
                | (go_at_call 12; refine (flat_any dd Z _ HD1.out HD2.out hZ1).mono ?_; rintro e w8 ⟨rfl, rfl⟩))
              all_goals
                go_wp2
                go_meet
                exact ⟨rfl, HB6.out⟩
            case rest =>
              obtain ⟨rfl, hb6⟩ := hcut
              obtain ⟨w6, hw6⟩ : ∃ w6, w6 = wc := ⟨_, rfl⟩
              subst hw6
              replace HG5 := Lib.hid (HG5.out.below hb6.out)
              replace HH5 := Lib.hid (HH5.out.below hb6.out)
              replace HB5 := Lib.hid (below_step HB5.out hb6.out)
              replace hM := Lib.hid (hM.out.below hb6.out)
              replace hX := Lib.hid (hX.out.below hb6.out)
              replace hXs := Lib.hid (Nat.le_trans hXs.out (Nat.le_refl X))
              have z0 := cell_keep hb6.out x0
              have z1 := cell_keep hb6.out x1
              clear x0 x1 hb6 cal cdp hB
              obtain ⟨gn, gr, hgr, hgr', hget⟩ := Get_r ub nl key
              have hhas := has_any (.slice a3 Z c3) (.slice a4 Z c4) nl key gr w6 hM.out (by rw [← HZ.out]; exact hZ1) hgr hgr'
              have CG := Lib.hid (hget w6 HG5.out)
              have CH := Lib.hid hhas
              clear hgr hgr' hget hhas
              have hrr : (gr != gr) = false := by simp
              go_upto_region 22 with (first
                | (go_at_call 14; (with_reducible refine CG.out.mono ?_); rintro e w7 ⟨rfl, rfl⟩)
                | (go_at_call 15; (with_reducible refine CH.out.mono ?_); rintro e w8 ⟨rfl, rfl⟩))
              clear z0 z1 hrr CG CH
              have HE0 : Each w6 (st ++ [⟨ub, .slice a3 Z c3, .slice a4 Z c4, nl⟩]) := HH5.out.each.snoc _ ⟨HG5.out, hM.out, by have := HLEN.out; have := HZ.out; have := HST.out; have := HMM.out; simp only; omega⟩
              obtain ⟨BB, hBB⟩ : ∃ BB, BB = w.heap.size := ⟨_, rfl⟩
              have HOa : Hid (w6.drew.ownsRow BB 24 1 (.slice (some ⟨gt, 0, none⟩) m tc) m (tsV st)) := by have := HH5.out.ts; rw [HST.out, ← hBB] at this; exact this
              have HOb : Hid (w6.drew.ownsRow BB 30 2 (.slice (some ⟨gm, 0, none⟩) m mc) m (msV st)) := by have := HH5.out.ms; rw [HST.out, ← hBB] at this; exact this
              have HB : Hid (Below BB w6 w6.drew) := (Below.refl _ _).drew
              have HE : Hid (Each w6.drew (st ++ [⟨ub, .slice a3 Z c3, .slice a4 Z c4, nl⟩])) := HE0.below (Below.refl _ _).drew
              have HXb : Hid (Blk w6.drew X 30 #[.slice a3 Z c3, .slice a4 Z c4]) := hX.out
              have HCS : Hid (BB ≤ w6.heap.size) := by rw [hBB]; exact HB5.out.size
              have HBB := Lib.hid hBB
              obtain ⟨tP, hi', hz0, hz1, hz2⟩ := info_parts Try.infoP5
              have HtPI := Lib.hid hi'
              have HtP0 := Lib.hid hz0
              have HtP1 := Lib.hid hz1
              have HtP2 := Lib.hid hz2
              clear hi' hz0 hz1 hz2
              obtain ⟨tM, hi', hz0, hz1, hz2⟩ := info_parts Try.infoM5
              have HtMI := Lib.hid hi'
              have HtM0 := Lib.hid hz0
              have HtM1 := Lib.hid hz1
              have HtM2 := Lib.hid hz2
              clear hi' hz0 hz1 hz2 hX hM hXs HG5 HH5 HE0 hBB
              obtain ⟨k', rfl⟩ : ∃ k', gk = k' + 1 := ⟨gk - 1, by omega⟩
              refine wp_region_fam (S := (pS X (.slice a3 Z c3) (.slice a4 Z c4))) (ds := pD) (by kernel_rfl) ?_
              refine wpFam_take (i := 0) 0 (some 103) (v := ?_) rfl (by kernel_rfl) (by kernel_rfl) (by kernel_rfl) (by kernel_rfl) (by kernel_rfl) (fun _ _ _ h => h) rfl (Or.inl ⟨by rfl, ?_⟩) (by exact trivial) ?_
              rotate_left
              · (intro w hSw; (try simp only [pS] at hSw); go_simp); (try with_reducible rfl)
              try simp only [Act.put, List.setIfInBounds_toArray, List.set_cons_zero, List.set_cons_succ]
              refine wpFam_take (i := 1) 0 (some 104) (v := ?_) rfl (by kernel_rfl) (by kernel_rfl) (by kernel_rfl) (by kernel_rfl) (by kernel_rfl) (fun _ _ _ h => h) rfl (Or.inl ⟨by rfl, ?_⟩) (by exact trivial) ?_
              rotate_left
              · (intro w hSw; (try simp only [pS] at hSw); go_simp); (try with_reducible rfl)
              try simp only [Act.put, List.setIfInBounds_toArray, List.set_cons_zero, List.set_cons_succ]
              refine wpFam_take (i := 4) 0 (some 107) (v := ?_) rfl (by kernel_rfl) (by kernel_rfl) (by kernel_rfl) (by kernel_rfl) (by kernel_rfl) (fun _ _ _ h => h) rfl (Or.inl ⟨by rfl, ?_⟩) (by exact trivial) ?_
              rotate_left
              · (intro w hSw; (try simp only [pS] at hSw); go_simp); (try with_reducible rfl)
              try simp only [Act.put, List.setIfInBounds_toArray, List.set_cons_zero, List.set_cons_succ]
              refine wpFam_take (i := 5) 1 (some 108) (v := ?_) rfl (by kernel_rfl) (by kernel_rfl) (by kernel_rfl) (by kernel_rfl) (by kernel_rfl) (fun _ _ _ h => h) rfl (Or.inl ⟨by rfl, ?_⟩) (by exact pS_of HXb.out 1) ?_
              rotate_left
              · (intro w hSw; (try simp only [pS] at hSw); go_simp); (try with_reducible rfl)
              try simp only [Act.put, List.setIfInBounds_toArray, List.set_cons_zero, List.set_cons_succ]
              refine wpFam_ready (rs := [2, 6]) (by kernel_rfl) (by simp) ?_
              refine AllReadyF.cons (i := 2) rfl (fun K hK => ?_) ?_
              ·
                go_simp
                have hn0 := blk_new_of HOa.out 24 #[.pointer (some ⟨ub, 0, none⟩)]
                (try rw [sz_alloc] at hn0)
                have HNa := Lib.hid hn0
                clear hn0
                replace HOa := Lib.hid (HOa.out.alloc (.cells #[.pointer (some ⟨ub, 0, none⟩)] 24))
                replace HOb := Lib.hid (HOb.out.alloc (.cells #[.pointer (some ⟨ub, 0, none⟩)] 24))
                (try replace HNb := Lib.hid (HNb.out.alloc (.cells #[.pointer (some ⟨ub, 0, none⟩)] 24)))
                replace HXb := Lib.hid (HXb.out.alloc (.cells #[.pointer (some ⟨ub, 0, none⟩)] 24))
                replace HE := Lib.hid (HE.out.below ((Below.refl _ _).alloc (Nat.le_refl _) (.cells #[.pointer (some ⟨ub, 0, none⟩)] 24)))
                replace HB := Lib.hid (HB.out.alloc (Nat.le_trans HCS.out HB.out.size) (.cells #[.pointer (some ⟨ub, 0, none⟩)] 24))
                try change K (Act.put _ (some 105) _) _
                refine hK.out _ _ ?_ ?_
                · ((intro q _ _; exact pS_of HXb.out q))
                clear hK K
                try simp only [Act.put, List.setIfInBounds_toArray, List.set_cons_zero, List.set_cons_succ]
                refine wpFam_ready (rs := [3, 6]) (by kernel_rfl) (by simp) ?_
                refine AllReadyF.cons (i := 3) rfl (fun K hK => ?_) ?_
                ·
                  refine step_append_lies _ (by rfl) (.tmp 103) (.tmp 105) 26 (by rfl) BB 24 tP (.pointer none) 1 8 Try.underlying26 HtPI.out HtP0.out HtP1.out HtP2.out (by rfl) (by decide) (.slice (some ⟨gt, 0, none⟩) m tc) m (tsV st) (by rfl) HOa.out _ 1 1 [.pointer (some ⟨ub, 0, none⟩)] (by rfl) (by rfl) (World.news_of_block HNa.out) (by simp [Value.oneCell']) (by decide) (by unfold maxLen; omega) (by omega) (Nat.le_trans HCS.out HB.out.size) _ rfl ?_
                  intro h1 cap1 w7 ho hg ha hlt
                  have HO1 := Lib.hid ho
                  replace HOb := Lib.hid (own_keepT HOb.out (keepT_grown HOa.out hg) (by decide))
                  (try replace HNb := Lib.hid (HNb.out.grown hg (own_blk_ne HOa.out HNb.out (by decide))))
                  replace HXb := Lib.hid (HXb.out.grown hg (own_blk_ne HOa.out HXb.out (by decide)))
                  replace HE := Lib.hid (HE.out.keepT (keepT_grown HOa.out hg) (by decide) (by decide) (by decide) (by decide))
                  replace HB := Lib.hid (HB.out.grown hg (Nat.le_trans HCS.out HB.out.size) (fun k hk => (HOa.out.lt k hk).1))
                  clear ho hg ha hlt HOa HNa
                  try change K (Act.put _ (some 106) _) _
                  refine hK.out _ _ ?_ ?_
                  · ((intro q _ _; exact pS_of HXb.out q))
                  clear hK K
                  try simp only [Act.put, List.setIfInBounds_toArray, List.set_cons_zero, List.set_cons_succ]
                  refine wpFam_ready (rs := [6]) (by kernel_rfl) (by simp) ?_
                  refine AllReadyF.cons (i := 6) rfl (fun K hK => ?_) ?_
                  ·
                    go_simp
                    have hn0 := blk_new_of HOb.out 30 #[.slice a3 Z c3, .slice a4 Z c4]
                    (try rw [sz_alloc] at hn0)
                    have HNb := Lib.hid hn0
                    clear hn0
                    (try replace HOa := Lib.hid (HOa.out.alloc (.cells #[.slice a3 Z c3, .slice a4 Z c4] 30)))
                    (try replace HO1 := Lib.hid (HO1.out.alloc (.cells #[.slice a3 Z c3, .slice a4 Z c4] 30)))
                    replace HOb := Lib.hid (HOb.out.alloc (.cells #[.slice a3 Z c3, .slice a4 Z c4] 30))
                    (try replace HNa := Lib.hid (HNa.out.alloc (.cells #[.slice a3 Z c3, .slice a4 Z c4] 30)))
                    replace HXb := Lib.hid (HXb.out.alloc (.cells #[.slice a3 Z c3, .slice a4 Z c4] 30))
                    replace HE := Lib.hid (HE.out.below ((Below.refl _ _).alloc (Nat.le_refl _) (.cells #[.slice a3 Z c3, .slice a4 Z c4] 30)))
                    replace HB := Lib.hid (HB.out.alloc (Nat.le_trans HCS.out HB.out.size) (.cells #[.slice a3 Z c3, .slice a4 Z c4] 30))
                    try change K (Act.put _ (some 109) _) _
                    refine hK.out _ _ ?_ ?_
                    · ((intro q _ _; exact pS_of HXb.out q))
                    clear hK K
                    try simp only [Act.put, List.setIfInBounds_toArray, List.set_cons_zero, List.set_cons_succ]
                    refine wpFam_ready (rs := [7]) (by kernel_rfl) (by simp) ?_
                    refine AllReadyF.cons (i := 7) rfl (fun K hK => ?_) ?_
                    ·
                      refine step_append_lies _ (by rfl) (.tmp 107) (.tmp 109) 31 (by rfl) BB 30 tM (.agg #[.slice none 0 0, .slice none 0 0]) 2 48 Try.underlying31 HtMI.out HtM0.out HtM1.out HtM2.out (by rfl) (by decide) (.slice (some ⟨gm, 0, none⟩) m mc) m (msV st) (by rfl) HOb.out _ 1 1 [.slice a3 Z c3, .slice a4 Z c4] (by rfl) (by rfl) (World.news_of_block HNb.out) (by simp [Value.oneCell']) (by decide) (by unfold maxLen; omega) (by omega) (Nat.le_trans HCS.out HB.out.size) _ rfl ?_
                      intro h2 cap2 w8 ho hg ha hlt
                      have HO2 := Lib.hid ho
                      replace HO1 := Lib.hid (own_keepT HO1.out (keepT_grown HOb.out hg) (by decide))
                      replace HE := Lib.hid (HE.out.keepT (keepT_grown HOb.out hg) (by decide) (by decide) (by decide) (by decide))
                      replace HB := Lib.hid (HB.out.grown hg (Nat.le_trans HCS.out HB.out.size) (fun k hk => (HOb.out.lt k hk).1))
                      clear ho hg ha hlt HOb HNb
                      try change K (Act.put _ (some 110) _) _
                      refine hK.out _ _ ?_ ?_
                      · ((intro q hq hs; exact pS_last hq hs))
                      clear hK K
                      try simp only [Act.put, List.setIfInBounds_toArray, List.set_cons_zero, List.set_cons_succ]
                      refine wpFam_take (i := 8) 0 (some 5) (v := ?_) rfl (by kernel_rfl) (by kernel_rfl) (by kernel_rfl) (by kernel_rfl) (by kernel_rfl) (fun _ _ _ h => h) rfl (Or.inl ⟨by rfl, ?_⟩) (by exact trivial) ?_
                      rotate_left
                      · (intro w hSw; (try simp only [pS] at hSw); go_simp); (try with_reducible rfl)
                      try simp only [Act.put, List.setIfInBounds_toArray, List.set_cons_zero, List.set_cons_succ]
                      refine wpFam_take (i := 9) 0 (some 6) (v := ?_) rfl (by kernel_rfl) (by kernel_rfl) (by kernel_rfl) (by kernel_rfl) (by kernel_rfl) (fun _ _ _ h => h) rfl (Or.inl ⟨by rfl, ?_⟩) (by exact trivial) ?_
                      rotate_left
                      · (intro w hSw; (try simp only [pS] at hSw); go_simp); (try with_reducible rfl)
                      try simp only [Act.put, List.setIfInBounds_toArray, List.set_cons_zero, List.set_cons_succ]
                      refine wpFam_done (by kernel_rfl) ?_ _
                      go_wp2_with fail
                      have hBB := HBB.out
                      subst hBB
                      go_roundg k'
                      case measure => omega
                      case rel => exact ⟨i + 1, st ++ [⟨ub, .slice a3 Z c3, .slice a4 Z c4, nl⟩], by go_num, by omega, (by have := HST.out; have := HMM.out; show _ = _; simp; omega), hist_close HST.out HO1.out HO2.out HE.out, HB5.out.trans HB.out⟩
                    exact AllReadyF.nil
                  exact AllReadyF.nil
                refine AllReadyF.cons (i := 6) rfl (fun K hK => ?_) ?_
                ·
                  go_simp
                  have hn0 := blk_new_of HOb.out 30 #[.slice a3 Z c3, .slice a4 Z c4]
                  (try rw [sz_alloc] at hn0)
                  have HNb := Lib.hid hn0
                  clear hn0
                  (try replace HOa := Lib.hid (HOa.out.alloc (.cells #[.slice a3 Z c3, .slice a4 Z c4] 30)))
                  (try replace HO1 := Lib.hid (HO1.out.alloc (.cells #[.slice a3 Z c3, .slice a4 Z c4] 30)))
                  replace HOb := Lib.hid (HOb.out.alloc (.cells #[.slice a3 Z c3, .slice a4 Z c4] 30))
                  (try replace HNa := Lib.hid (HNa.out.alloc (.cells #[.slice a3 Z c3, .slice a4 Z c4] 30)))
                  replace HXb := Lib.hid (HXb.out.alloc (.cells #[.slice a3 Z c3, .slice a4 Z c4] 30))
                  replace HE := Lib.hid (HE.out.below ((Below.refl _ _).alloc (Nat.le_refl _) (.cells #[.slice a3 Z c3, .slice a4 Z c4] 30)))
                  replace HB := Lib.hid (HB.out.alloc (Nat.le_trans HCS.out HB.out.size) (.cells #[.slice a3 Z c3, .slice a4 Z c4] 30))
                  try change K (Act.put _ (some 109) _) _
                  refine hK.out _ _ ?_ ?_
                  · ((intro q _ _; exact pS_of HXb.out q))
                  clear hK K
                  try simp only [Act.put, List.setIfInBounds_toArray, List.set_cons_zero, List.set_cons_succ]
                  refine wpFam_ready (rs := [3]) (by kernel_rfl) (by simp) ?_
                  refine AllReadyF.cons (i := 3) rfl (fun K hK => ?_) ?_
                  ·
                    refine step_append_lies _ (by rfl) (.tmp 103) (.tmp 105) 26 (by rfl) BB 24 tP (.pointer none) 1 8 Try.underlying26 HtPI.out HtP0.out HtP1.out HtP2.out (by rfl) (by decide) (.slice (some ⟨gt, 0, none⟩) m tc) m (tsV st) (by rfl) HOa.out _ 1 1 [.pointer (some ⟨ub, 0, none⟩)] (by rfl) (by rfl) (World.news_of_block HNa.out) (by simp [Value.oneCell']) (by decide) (by unfold maxLen; omega) (by omega) (Nat.le_trans HCS.out HB.out.size) _ rfl ?_
                    intro h1 cap1 w7 ho hg ha hlt
                    have HO1 := Lib.hid ho
                    replace HOb := Lib.hid (own_keepT HOb.out (keepT_grown HOa.out hg) (by decide))
                    (try replace HNb := Lib.hid (HNb.out.grown hg (own_blk_ne HOa.out HNb.out (by decide))))
                    replace HXb := Lib.hid (HXb.out.grown hg (own_blk_ne HOa.out HXb.out (by decide)))
                    replace HE := Lib.hid (HE.out.keepT (keepT_grown HOa.out hg) (by decide) (by decide) (by decide) (by decide))
                    replace HB := Lib.hid (HB.out.grown hg (Nat.le_trans HCS.out HB.out.size) (fun k hk => (HOa.out.lt k hk).1))
                    clear ho hg ha hlt HOa HNa
                    try change K (Act.put _ (some 106) _) _
                    refine hK.out _ _ ?_ ?_
                    · ((intro q _ _; exact pS_of HXb.out q))
                    clear hK K
                    try simp only [Act.put, List.setIfInBounds_toArray, List.set_cons_zero, List.set_cons_succ]
                    refine wpFam_ready (rs := [7]) (by kernel_rfl) (by simp) ?_
                    refine AllReadyF.cons (i := 7) rfl (fun K hK => ?_) ?_
                    ·
                      refine step_append_lies _ (by rfl) (.tmp 107) (.tmp 109) 31 (by rfl) BB 30 tM (.agg #[.slice none 0 0, .slice none 0 0]) 2 48 Try.underlying31 HtMI.out HtM0.out HtM1.out HtM2.out (by rfl) (by decide) (.slice (some ⟨gm, 0, none⟩) m mc) m (msV st) (by rfl) HOb.out _ 1 1 [.slice a3 Z c3, .slice a4 Z c4] (by rfl) (by rfl) (World.news_of_block HNb.out) (by simp [Value.oneCell']) (by decide) (by unfold maxLen; omega) (by omega) (Nat.le_trans HCS.out HB.out.size) _ rfl ?_
                      intro h2 cap2 w8 ho hg ha hlt
                      have HO2 := Lib.hid ho
                      replace HO1 := Lib.hid (own_keepT HO1.out (keepT_grown HOb.out hg) (by decide))
                      replace HE := Lib.hid (HE.out.keepT (keepT_grown HOb.out hg) (by decide) (by decide) (by decide) (by decide))
                      replace HB := Lib.hid (HB.out.grown hg (Nat.le_trans HCS.out HB.out.size) (fun k hk => (HOb.out.lt k hk).1))
                      clear ho hg ha hlt HOb HNb
                      try change K (Act.put _ (some 110) _) _
                      refine hK.out _ _ ?_ ?_
                      · ((intro q hq hs; exact pS_last hq hs))
                      clear hK K
                      try simp only [Act.put, List.setIfInBounds_toArray, List.set_cons_zero, List.set_cons_succ]
                      refine wpFam_take (i := 8) 0 (some 5) (v := ?_) rfl (by kernel_rfl) (by kernel_rfl) (by kernel_rfl) (by kernel_rfl) (by kernel_rfl) (fun _ _ _ h => h) rfl (Or.inl ⟨by rfl, ?_⟩) (by exact trivial) ?_
                      rotate_left
                      · (intro w hSw; (try simp only [pS] at hSw); go_simp); (try with_reducible rfl)
                      try simp only [Act.put, List.setIfInBounds_toArray, List.set_cons_zero, List.set_cons_succ]
                      refine wpFam_take (i := 9) 0 (some 6) (v := ?_) rfl (by kernel_rfl) (by kernel_rfl) (by kernel_rfl) (by kernel_rfl) (by kernel_rfl) (fun _ _ _ h => h) rfl (Or.inl ⟨by rfl, ?_⟩) (by exact trivial) ?_
                      rotate_left
                      · (intro w hSw; (try simp only [pS] at hSw); go_simp); (try with_reducible rfl)
                      try simp only [Act.put, List.setIfInBounds_toArray, List.set_cons_zero, List.set_cons_succ]
                      refine wpFam_done (by kernel_rfl) ?_ _
                      go_wp2_with fail
                      have hBB := HBB.out
                      subst hBB
                      go_roundg k'
                      case measure => omega
                      case rel => exact ⟨i + 1, st ++ [⟨ub, .slice a3 Z c3, .slice a4 Z c4, nl⟩], by go_num, by omega, (by have := HST.out; have := HMM.out; show _ = _; simp; omega), hist_close HST.out HO1.out HO2.out HE.out, HB5.out.trans HB.out⟩
                    exact AllReadyF.nil
                  exact AllReadyF.nil
                exact AllReadyF.nil
              refine AllReadyF.cons (i := 6) rfl (fun K hK => ?_) ?_
              ·
                go_simp
                have hn0 := blk_new_of HOb.out 30 #[.slice a3 Z c3, .slice a4 Z c4]
                (try rw [sz_alloc] at hn0)
                have HNb := Lib.hid hn0
                clear hn0
                (try replace HOa := Lib.hid (HOa.out.alloc (.cells #[.slice a3 Z c3, .slice a4 Z c4] 30)))
                (try replace HO1 := Lib.hid (HO1.out.alloc (.cells #[.slice a3 Z c3, .slice a4 Z c4] 30)))
                replace HOb := Lib.hid (HOb.out.alloc (.cells #[.slice a3 Z c3, .slice a4 Z c4] 30))
                (try replace HNa := Lib.hid (HNa.out.alloc (.cells #[.slice a3 Z c3, .slice a4 Z c4] 30)))
                replace HXb := Lib.hid (HXb.out.alloc (.cells #[.slice a3 Z c3, .slice a4 Z c4] 30))
                replace HE := Lib.hid (HE.out.below ((Below.refl _ _).alloc (Nat.le_refl _) (.cells #[.slice a3 Z c3, .slice a4 Z c4] 30)))
                replace HB := Lib.hid (HB.out.alloc (Nat.le_trans HCS.out HB.out.size) (.cells #[.slice a3 Z c3, .slice a4 Z c4] 30))
                try change K (Act.put _ (some 109) _) _
                refine hK.out _ _ ?_ ?_
                · ((intro q _ _; exact pS_of HXb.out q))
                clear hK K
                try simp only [Act.put, List.setIfInBounds_toArray, List.set_cons_zero, List.set_cons_succ]
                refine wpFam_ready (rs := [2]) (by kernel_rfl) (by simp) ?_
                refine AllReadyF.cons (i := 2) rfl (fun K hK => ?_) ?_
                ·
                  go_simp
                  have hn0 := blk_new_of HOa.out 24 #[.pointer (some ⟨ub, 0, none⟩)]
                  (try rw [sz_alloc] at hn0)
                  have HNa := Lib.hid hn0
                  clear hn0
                  replace HOa := Lib.hid (HOa.out.alloc (.cells #[.pointer (some ⟨ub, 0, none⟩)] 24))
                  replace HOb := Lib.hid (HOb.out.alloc (.cells #[.pointer (some ⟨ub, 0, none⟩)] 24))
                  (try replace HNb := Lib.hid (HNb.out.alloc (.cells #[.pointer (some ⟨ub, 0, none⟩)] 24)))
                  replace HXb := Lib.hid (HXb.out.alloc (.cells #[.pointer (some ⟨ub, 0, none⟩)] 24))
                  replace HE := Lib.hid (HE.out.below ((Below.refl _ _).alloc (Nat.le_refl _) (.cells #[.pointer (some ⟨ub, 0, none⟩)] 24)))
                  replace HB := Lib.hid (HB.out.alloc (Nat.le_trans HCS.out HB.out.size) (.cells #[.pointer (some ⟨ub, 0, none⟩)] 24))
                  try change K (Act.put _ (some 105) _) _
                  refine hK.out _ _ ?_ ?_
                  · ((intro q _ _; exact pS_of HXb.out q))
                  clear hK K
                  try simp only [Act.put, List.setIfInBounds_toArray, List.set_cons_zero, List.set_cons_succ]
                  refine wpFam_ready (rs := [3]) (by kernel_rfl) (by simp) ?_
                  refine AllReadyF.cons (i := 3) rfl (fun K hK => ?_) ?_
                  ·
                    refine step_append_lies _ (by rfl) (.tmp 103) (.tmp 105) 26 (by rfl) BB 24 tP (.pointer none) 1 8 Try.underlying26 HtPI.out HtP0.out HtP1.out HtP2.out (by rfl) (by decide) (.slice (some ⟨gt, 0, none⟩) m tc) m (tsV st) (by rfl) HOa.out _ 1 1 [.pointer (some ⟨ub, 0, none⟩)] (by rfl) (by rfl) (World.news_of_block HNa.out) (by simp [Value.oneCell']) (by decide) (by unfold maxLen; omega) (by omega) (Nat.le_trans HCS.out HB.out.size) _ rfl ?_
                    intro h1 cap1 w7 ho hg ha hlt
                    have HO1 := Lib.hid ho
                    replace HOb := Lib.hid (own_keepT HOb.out (keepT_grown HOa.out hg) (by decide))
                    (try replace HNb := Lib.hid (HNb.out.grown hg (own_blk_ne HOa.out HNb.out (by decide))))
                    replace HXb := Lib.hid (HXb.out.grown hg (own_blk_ne HOa.out HXb.out (by decide)))
                    replace HE := Lib.hid (HE.out.keepT (keepT_grown HOa.out hg) (by decide) (by decide) (by decide) (by decide))
                    replace HB := Lib.hid (HB.out.grown hg (Nat.le_trans HCS.out HB.out.size) (fun k hk => (HOa.out.lt k hk).1))
                    clear ho hg ha hlt HOa HNa
                    try change K (Act.put _ (some 106) _) _
                    refine hK.out _ _ ?_ ?_
                    · ((intro q _ _; exact pS_of HXb.out q))
                    clear hK K
                    try simp only [Act.put, List.setIfInBounds_toArray, List.set_cons_zero, List.set_cons_succ]
                    refine wpFam_ready (rs := [7]) (by kernel_rfl) (by simp) ?_
                    refine AllReadyF.cons (i := 7) rfl (fun K hK => ?_) ?_
                    ·
                      refine step_append_lies _ (by rfl) (.tmp 107) (.tmp 109) 31 (by rfl) BB 30 tM (.agg #[.slice none 0 0, .slice none 0 0]) 2 48 Try.underlying31 HtMI.out HtM0.out HtM1.out HtM2.out (by rfl) (by decide) (.slice (some ⟨gm, 0, none⟩) m mc) m (msV st) (by rfl) HOb.out _ 1 1 [.slice a3 Z c3, .slice a4 Z c4] (by rfl) (by rfl) (World.news_of_block HNb.out) (by simp [Value.oneCell']) (by decide) (by unfold maxLen; omega) (by omega) (Nat.le_trans HCS.out HB.out.size) _ rfl ?_
                      intro h2 cap2 w8 ho hg ha hlt
                      have HO2 := Lib.hid ho
                      replace HO1 := Lib.hid (own_keepT HO1.out (keepT_grown HOb.out hg) (by decide))
                      replace HE := Lib.hid (HE.out.keepT (keepT_grown HOb.out hg) (by decide) (by decide) (by decide) (by decide))
                      replace HB := Lib.hid (HB.out.grown hg (Nat.le_trans HCS.out HB.out.size) (fun k hk => (HOb.out.lt k hk).1))
                      clear ho hg ha hlt HOb HNb
                      try change K (Act.put _ (some 110) _) _
                      refine hK.out _ _ ?_ ?_
                      · ((intro q hq hs; exact pS_last hq hs))
                      clear hK K
                      try simp only [Act.put, List.setIfInBounds_toArray, List.set_cons_zero, List.set_cons_succ]
                      refine wpFam_take (i := 8) 0 (some 5) (v := ?_) rfl (by kernel_rfl) (by kernel_rfl) (by kernel_rfl) (by kernel_rfl) (by kernel_rfl) (fun _ _ _ h => h) rfl (Or.inl ⟨by rfl, ?_⟩) (by exact trivial) ?_
                      rotate_left
                      · (intro w hSw; (try simp only [pS] at hSw); go_simp); (try with_reducible rfl)
                      try simp only [Act.put, List.setIfInBounds_toArray, List.set_cons_zero, List.set_cons_succ]
                      refine wpFam_take (i := 9) 0 (some 6) (v := ?_) rfl (by kernel_rfl) (by kernel_rfl) (by kernel_rfl) (by kernel_rfl) (by kernel_rfl) (fun _ _ _ h => h) rfl (Or.inl ⟨by rfl, ?_⟩) (by exact trivial) ?_
                      rotate_left
                      · (intro w hSw; (try simp only [pS] at hSw); go_simp); (try with_reducible rfl)
                      try simp only [Act.put, List.setIfInBounds_toArray, List.set_cons_zero, List.set_cons_succ]
                      refine wpFam_done (by kernel_rfl) ?_ _
                      go_wp2_with fail
                      have hBB := HBB.out
                      subst hBB
                      go_roundg k'
                      case measure => omega
                      case rel => exact ⟨i + 1, st ++ [⟨ub, .slice a3 Z c3, .slice a4 Z c4, nl⟩], by go_num, by omega, (by have := HST.out; have := HMM.out; show _ = _; simp; omega), hist_close HST.out HO1.out HO2.out HE.out, HB5.out.trans HB.out⟩
                    exact AllReadyF.nil
                  exact AllReadyF.nil
                exact AllReadyF.nil
              exact AllReadyF.nil
    · obtain rfl : i = L := by omega
      obtain ⟨m, hm⟩ : ∃ m, m = i + 1 := ⟨_, rfl⟩
      have HST : Hid (st.length = m) := by rw [hm]; exact hn.out
      obtain ⟨p0, hp0⟩ : ∃ p, st[0]? = some p := ⟨_, List.getElem?_eq_getElem (by rw [hn.out]; omega)⟩
      obtain ⟨gt, tc, gm, mc, rfl, rfl, -⟩ := HH.out.at_ hp0
      rw [HST.out] at HH ⊢
      have hm60 : m ≤ 61 := by omega
      clear hp0 p0 hlt hi hn hm
      go_wp2
      go_loopg [13] m (fun kq v13 wr => ∃ j : Nat, v13 = .int .i64 (j : Int) ∧ j + kq = m ∧ Hid (Hist wr w.heap.size (.slice (some ⟨gt, 0, none⟩) m tc) (.slice (some ⟨gm, 0, none⟩) m mc) st) ∧ Hid (Below w.heap.size w wr))
      case atStart => exact ⟨0, rfl, by omega, HH, HB⟩
      case round =>
        clear HH HB
        obtain ⟨j, rfl, hj, HH, HB⟩ := hrel
        by_cases hlt : j < m
        · obtain ⟨p, hp⟩ : ∃ p, st[j]? = some p := ⟨_, List.getElem?_eq_getElem (by rw [HST.out]; exact hlt)⟩
          obtain ⟨tb, kv, nv, tl⟩ := p
          obtain ⟨_, _, _, _, e1, e2, x1, x2, x3, hfit, lt1, lt2, hc1, hc2⟩ := HH.out.at_ hp
          rw [HST.out] at e1 e2 hc1 hc2
          injection e1 with e1 _ e3
          injection e2 with e2 _ e4
          injection e1 with e1
          injection e2 with e2
          injection e1 with e1 _ _
          injection e2 with e2 _ _
          subst e1 e2 e3 e4
          have HF := Lib.hid hfit
          clear hfit hp
          simp only at x1 x2 x3
          have q0 : (0 : Int) ≤ (j : Int) := by omega
          have q1 : (j : Int) < (m : Int) := by omega
          have hl1 : tl.length ≤ 1000 := by have := HF.out.n; simp only at this; omega
          obtain ⟨wl, hwl⟩ : ∃ wl, wl = wr := ⟨_, rfl⟩
          subst hwl
          have cal := Lib.hid (fun W (hW : Below wl.heap.size wl W) => alike_any tb kv nv tl W (HF.out.g.below hW) (HF.out.m.below hW) hl1)
          clear hl1
          go_upto_region 26 with fail
          go_cut [126] (fun v126 wx => v126 = .bool false ∧ Hid (Below wl.heap.size wl wx))
          case first =>
            go_region_with (go_at_call 11; (with_reducible refine (cal.out _ (Below.refl _ _).drew).mono ?_); rintro e w6 ⟨rfl, hb⟩; have HB6 := Lib.hid ((Below.refl wl.heap.size wl).drew.trans hb); clear hb)
            all_goals
              go_wp2
              go_meet
              exact ⟨rfl, HB6.out⟩
          case rest =>
            obtain ⟨rfl, hb⟩ := hcut
            obtain ⟨k', rfl⟩ : ∃ k', gk = k' + 1 := ⟨gk - 1, by omega⟩
            go_wp2
            go_roundg k'
            case measure => omega
            case rel => exact ⟨j + 1, by go_num, by omega, HH.out.below hb.out, below_step HB.out hb.out⟩
        · obtain rfl : j = m := by omega
          clear hlt hj
          go_wp2
          go_ret
          exact ⟨rfl, HB.out⟩
end Go.Proofs.Ytdjcomlpedokeaa

