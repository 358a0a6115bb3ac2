import Derived.Test.YtghebjgkdfbmeaaDoorTR
set_option linter.unusedVariables false
set_option linter.unusedSimpArgs false
namespace Go.Proofs.YtghebjgkdfbmeaaDoor
open Go.RowKit

def catB : List Tm → ByteArray
  | [] => ⟨#[]⟩
  | t :: r => bytesT t ++ catB r
theorem catB_snoc (l : List Tm) (t : Tm) : catB (l ++ [t]) = catB l ++ bytesT t := by
  induction l with
  | nil => show bytesT t ++ (⟨#[]⟩ : ByteArray) = (⟨#[]⟩ : ByteArray) ++ bytesT t; rw [append_empty, empty_append]
  | cons a l ih => show bytesT a ++ catB (l ++ [t]) = bytesT a ++ catB l ++ bytesT t; rw [ih, append_assocB]
theorem catB_size : ∀ l : List Tm, (∀ t ∈ l, goodT t = true ∧ sizeT t ≤ 3000) → (catB l).size ≤ 600000 * l.length
  | [], _ => Nat.zero_le _
  | t :: l, h => by
    have h1 := h t List.mem_cons_self
    have h2 := catB_size l (fun x hx => h x (List.mem_cons_of_mem _ hx))
    have h3 := bytesT_size t (good_ok t h1.1).1
    show (bytesT t ++ catB l).size ≤ _
    rw [ByteArray.size_append, List.length_cons]
    omega
theorem own_len {w : World} {base : Nat} {e : TypeId} {v : Value} {n : Nat} {xs : List Value} (h : w.ownsRow base e 1 v n xs) :
    ∃ a c, v = .slice a n c ∧ ∀ j u, xs[j]? = some u → ∃ g, a = some ⟨g, 0, none⟩ ∧ w.cell? ⟨g, j, none⟩ = some u := by
  rcases h.2 with ⟨rfl, h0⟩ | ⟨g, cap, cur, rfl, hb, hh, hc, _, hsz, htk⟩
  · refine ⟨none, 0, by rw [h0], fun j u hj => ?_⟩
    have := (List.getElem?_eq_some_iff.1 hj).1
    have := h.1
    omega
  · refine ⟨_, cap, rfl, fun j u hj => ⟨g, rfl, ?_⟩⟩
    rw [← htk, List.getElem?_take] at hj
    split at hj
    · rw [cellAt hh]
      simpa using hj
    · cases hj

set_option maxHeartbeats 16000000 in
set_option maxRecDepth 100000 in
theorem CodeRows_any (a : Option Addr) (cap : Nat) (l : List ByteArray) (w : World) (hl : Texts w a l) (hsz : ∀ s ∈ l, s.size ≤ 9223372036854775807) (he : ErrVar w) (hm : MaxV w) :
    Calls Tryd.prog 5 #[.slice a l.length cap] w (fun e w' => e = .returned (.bool true) ∧ Below w.heap.size w w') := by
  have ck := Lib.hid (known8_any w he hm)
  obtain ⟨L, hL⟩ : ∃ L, L = l.length := ⟨_, rfl⟩
  by_cases h10 : 10 < L
  · have t1 : decide ((10 : Int) < (L : Int)) = true := decide_eq_true (by omega)
    rw [← hL]
    clear h10 hL hl hsz he hm
    go_enter Tryd.func5, Tryd.ntmps5
    go_wp2_with (go_at_call 7; (with_reducible refine ck.out.mono ?_); rintro e w0 ⟨rfl, hb⟩; have HB0 := Lib.hid hb; clear hb)
    go_ret
    exact ⟨rfl, HB0.out⟩
  have t1 : decide ((10 : Int) < (L : Int)) = false := decide_eq_false (by omega)
  have ct := Lib.hid (fun W (hW : Below w.heap.size w W) => Terms_any a cap l W (hl.below hW) (by omega) hsz)
  have hts : (termsT l).length ≤ 10 := Nat.le_trans (termsT_len l) (by omega)
  have hgd := termsT_good l
  rw [← hL] at ct ⊢
  unfold TermsPost at ct
  generalize termsT l = ts at ct hts hgd
  have HV := Lib.hid (And.intro he hm)
  have HGD := Lib.hid hgd
  have HTS := Lib.hid hts
  clear hl hsz he hm hL h10 hgd hts
  go_enter Tryd.func5, Tryd.ntmps5
  go_upto_region 6 with (first
    | (go_at_call 7; (with_reducible refine ck.out.mono ?_); rintro e w0 ⟨rfl, hb⟩; have HB0 := Lib.hid hb; clear hb)
    | (go_at_call 17; (with_reducible refine (ct.out _ HB0.out).mono ?_); rintro e w1 ⟨v, ps, rfl, ho, hr, hb⟩; have HO := Lib.hid ho; have HR := Lib.hid hr; have HB1 := Lib.hid (below_step' HB0.out hb); clear ho hr hb))
  obtain ⟨ra, rc, rfl, hcell⟩ := own_len HO.out
  have HC := Lib.hid hcell
  obtain ⟨n, hn⟩ : ∃ n, n = ps.length := ⟨_, rfl⟩
  rw [← hn]
  have HN := Lib.hid hn
  have HNT : Hid (ts.length = n) := by rw [hn]; exact HR.out.1
  have hn10 : n ≤ 10 := by have := HTS.out; have := HNT.out; omega
  have hat : ∀ i, i < n → ∃ t ad, ts[i]? = some t ∧ goodT t = true ∧ sizeT t ≤ 3000 ∧ (∃ g, ra = some ⟨g, 0, none⟩ ∧ w1.cell? ⟨g, i, none⟩ = some (.pointer ad)) ∧ PIn w0.heap.size w1 t ad := by
    intro i hi
    obtain ⟨t, ht⟩ : ∃ t, ts[i]? = some t := ⟨_, List.getElem?_eq_getElem (by rw [HNT.out]; exact hi)⟩
    obtain ⟨ad, had⟩ : ∃ ad, ps[i]? = some ad := ⟨_, List.getElem?_eq_getElem (by rw [← HN.out]; exact hi)⟩
    have hg := HGD.out t (List.mem_of_getElem? ht)
    exact ⟨t, ad, ht, hg.1, hg.2, HC.out i _ (by unfold ptrV; rw [List.getElem?_map, had]; rfl), HR.out.2 i t ad ht had⟩
  have HAT := Lib.hid hat
  clear hat hcell hn HC HO HR HN t1 ct ck
  go_wp2
  go_loopg [4, 5] n (fun kq v4 v5 wr => ∃ i : Nat, v4 = .string (catB (ts.take i)) ∧ v5 = .int .i64 (i : Int) ∧ i + kq = n ∧ Hid (Below w1.heap.size w1 wr))
  case atStart => exact ⟨0, rfl, rfl, by omega, Below.refl _ _⟩
  case round =>
    obtain ⟨i, rfl, rfl, hi, HBr⟩ := hrel
    by_cases hlt : i < n
    · obtain ⟨t, ad, ht, hg, hs, ⟨g, rfl, hc⟩, hp⟩ := HAT.out i hlt
      have c0 := cell_keep' HBr.out hc
      have q0 : (0 : Int) ≤ (i : Int) := by omega
      have q1 : (i : Int) < (n : Int) := by omega
      have kb := Lib.hid (Bytes_good t ad w0.heap.size wr (hp.below HBr.out) hg hs (HV.out.2.below (below_step' HB1.out HBr.out)))
      have htk : catB (ts.take (i + 1)) = catB (ts.take i) ++ bytesT t := by rw [List.take_add_one, ht]; exact catB_snoc _ _
      have z1 : (catB (ts.take i)).size ≤ 6000000 := Nat.le_trans (catB_size _ (fun x hx => HGD.out x (List.mem_of_mem_take hx))) (by have : (ts.take i).length ≤ 10 := (by rw [List.length_take]; have := HTS.out; omega); omega)
      have z2 : (bytesT t).size ≤ 600000 := Nat.le_trans (bytesT_size t (good_ok t hg).1) (by omega)
      generalize bytesT t = bt' at kb htk z2
      generalize catB (ts.take i) = cb at htk z1 ⊢
      have l1 : cb.size + bt'.size ≤ 9223372036854775807 := by omega
      have HTK := Lib.hid htk
      obtain ⟨k', rfl⟩ : ∃ k', gk = k' + 1 := ⟨gk - 1, by omega⟩
      clear ht hg hs hc hp htk
      go_wp2_with (go_at_call 9; (with_reducible refine kb.out.mono ?_); rintro e w5 ⟨rfl, hb⟩; have HB5 := Lib.hid (below_step' HBr.out hb); clear hb)
      go_roundg k'
      case measure => omega
      case rel => exact ⟨i + 1, by rw [HTK.out], by go_num, by omega, HB5.out⟩
    · obtain rfl : i = n := by omega
      have HTA : Hid (catB (ts.take i) = catB (ts.drop 0)) := by show _ = _; rw [← HNT.out, List.take_length]; rfl
      rw [HTA.out]
      clear hlt hi
      go_wp2
      go_loopg [4, 6] i (fun kq v4 v6 wr2 => ∃ j : Nat, v4 = .string (catB (ts.drop j)) ∧ v6 = .int .i64 (j : Int) ∧ j + kq = i ∧ Hid (Below w1.heap.size w1 wr2))
      case atStart => exact ⟨0, rfl, rfl, by omega, HBr⟩
      case round =>
        clear HBr
        obtain ⟨j, rfl, rfl, hj, HBs⟩ := hrel
        by_cases hlt : j < i
        · obtain ⟨t, ad, ht, hg, hs, ⟨g, rfl, hc⟩, hp⟩ := HAT.out j hlt
          have c0 := cell_keep' HBs.out hc
          have q0 : (0 : Int) ≤ (j : Int) := by omega
          have q1 : (j : Int) < (i : Int) := by omega
          have hdr : ts.drop j = t :: ts.drop (j + 1) := by
            rw [List.getElem?_eq_some_iff] at ht
            obtain ⟨hl, ht⟩ := ht
            rw [List.drop_eq_getElem_cons hl, ht]
          have hcat : catB (ts.drop j) = bytesT t ++ catB (ts.drop (j + 1)) := by rw [hdr]; rfl
          have z1 : (catB (ts.drop (j + 1))).size ≤ 6000000 := Nat.le_trans (catB_size _ (fun x hx => HGD.out x (List.mem_of_mem_drop hx))) (by have : (ts.drop (j + 1)).length ≤ 10 := (by rw [List.length_drop]; have := HTS.out; omega); omega)
          have z2 : (bytesT t).size ≤ 600000 := Nat.le_trans (bytesT_size t (good_ok t hg).1) (by omega)
          have kr := Lib.hid (Read_good t (catB (ts.drop (j + 1))) hg hs (by rw [ByteArray.size_append]; omega) wr (ErrVar.below HV.out.1 (below_step' HB1.out HBs.out)) (HV.out.2.below (below_step' HB1.out HBs.out)))
          rw [← hcat] at kr
          have HPt := Lib.hid (hp.below HBs.out)
          generalize catB (ts.drop j) = c1 at kr ⊢
          generalize hc2 : catB (ts.drop (j + 1)) = c2 at kr
          have HC2 := Lib.hid hc2
          obtain ⟨k', rfl⟩ : ∃ k', gk = k' + 1 := ⟨gk - 1, by omega⟩
          clear ht hg hs hc hp hdr hcat z1 z2 hc2
          go_upto_region 15 with (go_at_call 10; (with_reducible refine kr.out.mono ?_); rintro e w5 ⟨q, rfl, hq, hb⟩; have c5 := cell_keep' hb c0; have cs := Lib.hid (Same_any t t q ad _ _ w5 hq (HPt.out.below hb)); have HB5 := Lib.hid (below_step' HBs.out hb); clear hq hb c0)
          unfold Quiet at cs
          rw [sameT_rfl] at cs
          go_wp2_with (go_at_call 11; (with_reducible refine cs.out.mono ?_); rintro e w6 ⟨rfl, m, hm⟩; have hb6 : Below w5.heap.size w5 w6 := (by rw [hm]; exact below_drewN' _ _); have HB6 := Lib.hid (below_step' HB5.out hb6); clear hm hb6)
          go_roundg k'
          case measure => omega
          case rel => exact ⟨j + 1, by rw [HC2.out], by go_num, by omega, HB6.out⟩
        · obtain rfl : j = i := by omega
          have HD : Hid (catB (ts.drop j) = ⟨#[]⟩) := by show _ = _; rw [← HNT.out, List.drop_length]; rfl
          rw [HD.out]
          have hx : ((⟨#[]⟩ : ByteArray).toList == []) = true := by rw [ByteArray.toList_eq]; rfl
          clear hlt hj
          go_wp2
          go_ret
          exact ⟨rfl, below_step' HB1.out HBs.out⟩
end Go.Proofs.YtghebjgkdfbmeaaDoor
