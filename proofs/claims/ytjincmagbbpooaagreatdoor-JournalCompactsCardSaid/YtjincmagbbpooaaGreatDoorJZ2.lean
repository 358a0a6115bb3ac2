import Derived.Test.YtjincmagbbpooaaGreatDoorJZ
set_option linter.unusedVariables false
set_option linter.unusedSimpArgs false
namespace Go.Proofs.YtjincmagbbpooaaGreatDoor
open Go.RowKit

set_option maxHeartbeats 16000000 in
set_option maxRecDepth 100000 in
theorem JournalCompacts_any (aa ab ak : Option Addr) (ca cb ck : Nat) (la lb : List ByteArray) (lk : List Bool) (na nb nk : Nat) (hna : na = la.length) (hnb : nb = lb.length) (hnk : nk = lk.length) (n : Nat) (hn : n < 256) (t : Int) (ht : (Lit.int .i8 t).wf = true) (w : World) (he : ErrVar w)
    (ha : SlOf mkS w aa la) (hb : SlOf mkS w ab lb) (hk : BoolsAt w ak lk) :
    Calls Tryz.prog 4 #[.slice aa na ca, .slice ab nb cb, .int .u8 (n : Int), .slice ak nk ck, .int .i8 t] w (fun e w' => e = .returned (.bool true) ∧ Below w.heap.size w w') := by
  by_cases hbig : bigC la lb lk
  · exact JournalCompacts_big aa ab ak ca cb ck la lb lk na nb nk hna hnb hnk n hn t w he ha hb hbig
  unfold bigC at hbig
  have na5 : na ≤ 5 := by omega
  have nb5 : nb ≤ 5 := by omega
  have nk60 : nk ≤ 60 := by omega
  have hla := longB_no (l := la) (by
    cases h : longB la
    · rfl
    · exact absurd (.inr (.inr (.inl h))) hbig)
  have hlb := longB_no (l := lb) (by
    cases h : longB lb
    · rfl
    · exact absurd (.inr (.inr (.inr (.inl h)))) hbig)
  have ela : longB la = false := by
    cases h : longB la
    · rfl
    · exact absurd (.inr (.inr (.inl h))) hbig
  have elb : longB lb = false := by
    cases h : longB lb
    · rfl
    · exact absurd (.inr (.inr (.inr (.inl h)))) hbig
  have b8 := wrap8 t ht
  obtain ⟨f1, G1, L1, lo1, l1, d1⟩ := format_good (new_live 60 (by decide) (by decide)) (by rw [newD_len]; decide) (by show 0 < _; decide)
  have d0 : (newD 60).done = 0 := rfl
  rw [newD_len] at l1
  rw [d0] at d1
  have c1 := Lib.hid (fun W (hB : Below w.heap.size w W) => long_any aa ca la na hna (by omega) W (((LowSl.of_sl ha).keep hB).sl))
  have c2 := Lib.hid (fun W (hB : Below w.heap.size w W) => long_any ab cb lb nb hnb (by omega) W (((LowSl.of_sl hb).keep hB).sl))
  rw [ela] at c1
  rw [elb] at c2
  have cf := Lib.hid (fun B w p => Format_good B w p (newD 60) _ (by show 0 < _; decide) rfl f1)
  have cn := Lib.hid (fun W => New_own W 60 60 (by decide) (by decide) (by decide))
  generalize (newD 60).format.1 = D1 at *
  have hh1 : D1.half = 29 := by unfold DS.half; rw [l1]
  have ff : ∀ (tn : Nat) (l : List ByteArray), tn ≤ 4000 → l.length ≤ 5 → (∀ s ∈ l, s.size ≤ 150) → (framesB tn 0 l).size ≤ 29 * 64 := fun tn l h1 h2 h3 => by
    have := framesB_fit 150 (by decide) tn h1 l 0 (by omega) h3
    have : l.length * (150 + 20) ≤ 5 * (150 + 20) := Nat.mul_le_mul_right _ h2
    omega
  have c3 := Lib.hid (fun B p w hg hgB h => jOpen_good B p D1 _ [] G1 (by omega) w hg hgB h)
  have c4 := Lib.hid (fun B p w q hg hgB h hl => adds_good B p D1 J0 [] la na hna G1 L1 (fun r hr => Nat.le_trans (hla r hr) (by decide)) (by rw [hh1]; exact ff _ _ (by decide) (by simp; omega) (by simpa using hla)) (by simp; omega) (by omega) aa ca w q hg hgB h hl)
  have c5 := Lib.hid (fun D2 J2 (A : Added D1 J0 ([] ++ la) na D2 J2) B p w q h => jSync_good B p D2 _ J2 (sync_good A.good A.live).1 w q h)
  have c6 := Lib.hid (fun D2 J2 (A : Added D1 J0 ([] ++ la) na D2 J2) B p w q h => Cut_one B w p q D2.flush J2 ((n : Int) % 40) (by omega) h)
  have c7 := Lib.hid (fun D2 J2 (A : Added D1 J0 ([] ++ la) na D2 J2) (B p : Nat) (w : World) (q : Nat) (hg : ErrVar w) (hgB : 0 < B) (hl : SlOf mkS w ab lb) (h : One B w p q (D2.flush.cut ((n : Int) % 40)) J2) => by
    have hs := sync_good A.good A.live
    have hlen : D2.flush.sure.length = D1.sure.length := hs.2.2.2.2.2.trans (by rw [A.sure])
    have ht1 : J2.turn = 1 := A.turn
    have hd2 := A.done
    have hl1 : (D2.flush.cut ((n : Int) % 40)).left = (n : Int) % 40 := by
      show mxI ((n : Int) % 40) (-1) = _
      unfold mxI
      rw [if_neg (by omega)]
    exact jCompact_cut B p (D2.flush.cut ((n : Int) % 40)) J2 ([] ++ la) lb (cut_good hs.2.1 _ (by omega)) hs.2.2.2.1 (by rw [hl1]; omega) (by omega)
      (by rw [show (D2.flush.cut ((n : Int) % 40)).half = 29 from (half_eq hlen).trans hh1]; exact ff _ _ (by omega) (by omega) hlb) (fun r hr => Nat.le_trans (hlb r hr) (by decide)) (by omega)
      (by show D2.flush.done < _; rw [hs.2.2.2.2.1]; omega) nb hnb ab cb w q hg hgB hl h)
  have c7d := Lib.hid (fun D2 J2 (A : Added D1 J0 ([] ++ la) na D2 J2) => by
    have hs := sync_good A.good A.live
    have hd2 := A.done
    exact (show (D2.flush.cut ((n : Int) % 40)).done ≤ 7000 by show D2.flush.done ≤ _; rw [hs.2.2.2.2.1]; omega))
  have c8 := Lib.hid (fun D5 (B : Nat) w p (hb : LowBs B w ak lk) h => Crash_own B w p D5 ak nk ck lk t _ hnk.symm (by omega) rfl hb.at hb.low h)
  have c9 := Lib.hid (fun (D5 : DS) (c : Nat) J rs (G : Good (D5.crash (keepOf lk) t) J rs) (hd : D5.done ≤ 9000) B p w hg hgB h => jOpen_good B p _ J rs G (by show D5.done < _; omega) w hg hgB h)
  have c10 := Lib.hid (fun (rs : List ByteArray) a' c' W (h1 : SlOf mkS W a' rs) (hB : Below w.heap.size w W) (hrs : rs.length ≤ 5) => same_any a' ab c' cb rs lb rs.length nb rfl hnb (by omega) W h1 (((LowSl.of_sl hb).keep hB).sl))
  have c11 := Lib.hid (fun (rs : List ByteArray) a' c' W (h1 : SlOf mkS W a' rs) (hB : Below w.heap.size w W) (hrs : rs.length ≤ 5) => same_any a' aa c' ca rs la rs.length na rfl hna (by omega) W h1 (((LowSl.of_sl ha).keep hB).sl))
  have ck0 := Lib.hid (known4_any w he)
  have HV := Lib.hid (And.intro he (cell_lt he))
  have HL := Lib.hid (And.intro (LowSl.of_sl ha) (And.intro (LowSl.of_sl hb) (LowBs.of_at hk)))
  have HN := Lib.hid (And.intro hna hnb)
  clear he ha hb hk hla hlb ela elb f1 G1 L1 lo1 l1 d1 d0 hh1 ff hbig ht hna hnb hnk
  go_enter Tryz.func4, Tryz.ntmps4
  go_wp2_with (first
    | (go_at_call 7; (with_reducible refine ck0.out.mono ?_); rintro e w1 ⟨rfl, hb⟩; have HB1 := Lib.hid hb; have HV1 := Lib.hid (And.intro (ErrVar.below HV.out.1 hb) (Nat.lt_of_lt_of_le HV.out.2 hb.size)); have HL1 := Lib.hid (And.intro ((HL.out.1.keep hb).mono hb.size) (And.intro ((HL.out.2.1.keep hb).mono hb.size) ((HL.out.2.2.keep hb).mono hb.size))); clear hb)
    | (go_at_call 13; (with_reducible refine (c1.out _ HB1.out).mono ?_); rintro e w2 ⟨rfl, rfl⟩)
    | (go_at_call 13; (with_reducible refine (c2.out _ HB1.out).mono ?_); rintro e w3 ⟨rfl, rfl⟩)
    | (go_at_call 8; (with_reducible refine (cn.out _).mono ?_); rintro e w2 ⟨p, rfl, hb, ho⟩; have HB2 := Lib.hid hb; have HO2 := Lib.hid ho; clear hb ho)
    | (go_at_call 10; (with_reducible refine (cf.out _ _ _ HO2.out).mono ?_); rintro e w3 ⟨rfl, hb, ho⟩; have HB3 := Lib.hid (HB2.out.trans hb); have HO3 := Lib.hid ho; clear hb ho)
    | (go_at_call 9; (with_reducible refine (c3.out _ _ _ (errv_own HV1.out.1 HB3.out HV1.out.2) HV1.out.2 HO3.out).mono ?_); rintro e w4 ⟨q, v, rfl, hb, ho, hr⟩; have HB4 := Lib.hid (HB3.out.trans hb); have HO4 := Lib.hid ho; obtain ⟨va, vc, rfl⟩ := own_len hr; clear hb ho hr)
    | (go_at_call 14; (with_reducible refine (c4.out _ _ _ _ (errv_own HV1.out.1 HB4.out HV1.out.2) HV1.out.2 HO4.out (HL1.out.1.keep HB4.out)).mono ?_); rintro e w5 ⟨D2, J2, rfl, hb, ho, hA⟩; have HB5 := Lib.hid (HB4.out.trans hb); have HO5 := Lib.hid ho; have HA5 := Lib.hid hA; clear hb ho hA)
    | (go_at_call 15; (with_reducible refine (c5.out _ _ HA5.out _ _ _ _ HO5.out).mono ?_); rintro e w6 ⟨rfl, hb, ho⟩; have HB6 := Lib.hid (HB5.out.trans hb); have HO6 := Lib.hid ho; clear hb ho)
    | (go_at_call 16; (with_reducible refine (c6.out _ _ HA5.out _ _ _ _ HO6.out).mono ?_); rintro e w7 ⟨rfl, hb, ho⟩; have HB7 := Lib.hid (HB6.out.trans hb); have HO7 := Lib.hid ho; clear hb ho)
    | (go_at_call 17; (with_reducible refine (c7.out _ _ HA5.out _ _ _ _ (errv_own HV1.out.1 HB7.out HV1.out.2) HV1.out.2 (HL1.out.2.1.keep HB7.out).sl HO7.out).mono ?_); rintro e w8 ⟨D5, J5, cc, rfl, hb, ho, hC, hD⟩; have HB8 := Lib.hid (HB7.out.trans hb); have HO8 := Lib.hid ho.own; have HC8 := Lib.hid hC; have HD8 := Lib.hid (Nat.le_trans hD (Nat.add_le_add_right (c7d.out _ _ HA5.out) 1001)); clear hb ho hC hD)
    | (go_at_call 18; (with_reducible refine (c8.out _ _ _ _ (HL1.out.2.2.keep HB8.out) HO8.out).mono ?_); rintro e w9 ⟨rfl, hb, ho⟩; have HB9 := Lib.hid (HB8.out.trans hb); have HO9 := Lib.hid ho; obtain ⟨J6, rs6, hG6, hrs⟩ := HC8.out.2.2 (keepOf lk) t; have HG6 := Lib.hid hG6; have HR6 := Lib.hid hrs; clear hb ho hG6 hrs)
    | (go_at_call 9; (with_reducible refine (c9.out _ 0 _ _ HG6.out (Nat.le_trans HD8.out (by decide)) _ _ _ (errv_own HV1.out.1 HB9.out HV1.out.2) HV1.out.2 HO9.out).mono ?_); rintro e wa ⟨q2, v2, rfl, hb, ho, hr⟩; have HBa := Lib.hid (below_step HB1.out (HB9.out.trans hb)); obtain ⟨aa2, cc2, rfl, hsl⟩ := sl_own hr; have HSa := Lib.hid hsl; clear hb ho hr hsl))
  by_cases hx : rs6 = lb
  · have h5 : rs6.length ≤ 5 := by rw [hx]; have := HN.out.2; omega
    have c12 := Lib.hid (c10.out rs6 aa2 cc2 wa HSa.out HBa.out h5)
    rw [decide_eq_true hx] at c12
    clear hx h5
    go_wp2_with (first
      | (go_at_call 19; (with_reducible refine c12.out.mono ?_); rintro e wb ⟨rfl, hb⟩; have HBb := Lib.hid (below_step HBa.out hb); clear hb))
    go_ret
    exact ⟨rfl, HBb.out⟩
  · obtain ⟨hc, hr⟩ : cc = 25 ∧ rs6 = [] ++ la := HR6.out.resolve_left hx
    have h5 : rs6.length ≤ 5 := by rw [hr]; have := HN.out.1; simp; omega
    have c12 := Lib.hid (c10.out rs6 aa2 cc2 wa HSa.out HBa.out h5)
    rw [decide_eq_false hx] at c12
    have c13 := Lib.hid (fun W (hB : Below wa.heap.size wa W) => c11.out rs6 aa2 cc2 W (HSa.out.below hB) (below_step HBa.out hB) h5)
    rw [decide_eq_true (show rs6 = la from hr)] at c13
    subst hc
    rw [errV_ne (show (25 : Int) ≠ 0 by decide)]
    clear hx h5 hr
    go_wp2_with (first
      | (go_at_call 19; (with_reducible refine c12.out.mono ?_); rintro e wb ⟨rfl, hb⟩; have HBb := Lib.hid (below_step HBa.out hb); have HBb' := Lib.hid hb; clear hb)
      | (go_at_call 19; (with_reducible refine (c13.out _ HBb'.out).mono ?_); rintro e wc ⟨rfl, hb⟩; have HBc := Lib.hid (below_step HBb.out hb); clear hb))
    go_ret
    exact ⟨rfl, HBc.out⟩
theorem JournalCompacts_walk (v1 v2 v4 : Value) (z t : Int) (hz : (Lit.int .u8 z).wf = true) (ht : (Lit.int .i8 t).wf = true) (w : World) (he : ErrVar w)
    (h1 : ∃ (a : Option Addr) (cap : Nat) (l : List ByteArray), v1 = .slice a l.length cap ∧ SlOf mkS w a l)
    (h2 : ∃ (a : Option Addr) (cap : Nat) (l : List ByteArray), v2 = .slice a l.length cap ∧ SlOf mkS w a l)
    (h4 : ∃ (a : Option Addr) (cap : Nat) (l : List Bool), v4 = .slice a l.length cap ∧ BoolsAt w a l) :
    Calls Tryz.prog 4 #[v1, v2, .int .u8 z, v4, .int .i8 t] w (fun e w' => e = .returned (.bool true) ∧ Below w.heap.size w w') := by
  obtain ⟨aa, ca, la, rfl, ha⟩ := h1
  obtain ⟨ab, cb, lb, rfl, hb⟩ := h2
  obtain ⟨ak, ck, lk, rfl, hk⟩ := h4
  have b2 : 0 ≤ z ∧ z ≤ 255 := by simpa [Lit.wf, IntKind.min, IntKind.max, IntKind.signed, IntKind.bits] using hz
  obtain ⟨n2, rfl⟩ : ∃ k : Nat, z = (k : Int) := ⟨z.toNat, by omega⟩
  exact JournalCompacts_any aa ab ak ca cb ck la lb lk _ _ _ rfl rfl rfl n2 (by omega) t ht w he ha hb hk
end Go.Proofs.YtjincmagbbpooaaGreatDoor
