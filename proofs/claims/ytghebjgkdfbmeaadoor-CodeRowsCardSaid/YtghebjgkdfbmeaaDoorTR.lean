import Derived.Test.YtghebjgkdfbmeaaDoorKN
set_option linter.unusedVariables false
set_option linter.unusedSimpArgs false
namespace Go.Proofs.YtghebjgkdfbmeaaDoor
open Go.RowKit

/-! ### rows of terms -/
def Texts (w : World) (a : Option Addr) (l : List ByteArray) : Prop := ∀ j s, l[j]? = some s → ∃ b off, a = some ⟨b, off, none⟩ ∧ w.cell? ⟨b, off + j, none⟩ = some (.string s)
theorem cell_keep' {w w' : World} {p : Addr} {v : Value} (hb : Below w.heap.size w w') (h : w.cell? p = some v) : w'.cell? p = some v := by
  refine (hb.cell ?_).trans h
  rcases Nat.lt_or_ge p.block w.heap.size with h' | h'
  · exact h'
  · simp [World.cell?, Array.getElem?_eq_none h'] at h
theorem Texts.below {w w' : World} {a : Option Addr} {l : List ByteArray} (h : Texts w a l) (hb : Below w.heap.size w w') : Texts w' a l := fun j s hs =>
  let ⟨b, off, e, hc⟩ := h j s hs
  ⟨b, off, e, cell_keep' hb hc⟩
def ptrV (ps : List (Option Addr)) : List Value := ps.map Value.pointer
/-- Each is a term, in its place. -/
def Rows_ (B : Nat) (w : World) (ts : List Tm) (ps : List (Option Addr)) : Prop := ts.length = ps.length ∧ ∀ (j : Nat) t p, ts[j]? = some t → ps[j]? = some p → PIn B w t p
theorem Rows_.below {B : Nat} {w w' : World} {ts : List Tm} {ps : List (Option Addr)} (h : Rows_ B w ts ps) (hb : Below w.heap.size w w') : Rows_ B w' ts ps := ⟨h.1, fun j t p h1 h2 => (h.2 j t p h1 h2).below hb⟩
theorem Rows_.snoc {B : Nat} {w : World} {ts : List Tm} {ps : List (Option Addr)} (h : Rows_ B w ts ps) {t : Tm} {p : Option Addr} (hp : PIn B w t p) : Rows_ B w (ts ++ [t]) (ps ++ [p]) := by
  refine ⟨by simp [h.1], fun j t' p' h1 h2 => ?_⟩
  by_cases hj : j < ts.length
  · rw [List.getElem?_append_left hj] at h1
    rw [List.getElem?_append_left (by have := h.1; omega)] at h2
    exact h.2 j t' p' h1 h2
  · rw [List.getElem?_append_right (by omega)] at h1
    rw [List.getElem?_append_right (by have := h.1; omega)] at h2
    have hl := (List.getElem?_eq_some_iff.1 h1).1
    simp at hl
    have e1 : j - ts.length = 0 := by omega
    have e2 : j - ps.length = 0 := by have := h.1; omega
    rw [e1] at h1
    rw [e2] at h2
    simp at h1 h2
    subst h1 h2
    exact hp
/-- The terms of texts, those that are some. -/
def termsT : List ByteArray → List Tm
  | [] => []
  | s :: l => if (termT s).isNil = true then termsT l else termT s :: termsT l
theorem termsT_snoc (l : List ByteArray) (s : ByteArray) : termsT (l ++ [s]) = termsT l ++ (if (termT s).isNil = true then [] else [termT s]) := by
  induction l with
  | nil =>
    show (if _ then _ else _) = _
    split <;> rfl
  | cons a l ih =>
    show (if _ then termsT (l ++ [s]) else _ :: termsT (l ++ [s])) = (if _ then termsT l else _ :: termsT l) ++ _
    rw [ih]
    split <;> simp
theorem termsT_len : ∀ l : List ByteArray, (termsT l).length ≤ l.length
  | [] => Nat.le_refl _
  | s :: l => by
    have := termsT_len l
    unfold termsT
    split
    · simp only [List.length_cons]; omega
    · simp only [List.length_cons]; omega
theorem termsT_good : ∀ (l : List ByteArray) (t : Tm), t ∈ termsT l → goodT t = true ∧ sizeT t ≤ 3000
  | [], t, h => by cases h
  | s :: l, t, h => by
    unfold termsT at h
    split at h
    · exact termsT_good l t h
    · rename_i hn
      rcases List.mem_cons.1 h with rfl | h
      · exact termT_good (fun e => hn (by rw [e]; rfl))
      · exact termsT_good l t h
theorem Tryd.infoT8 : (Tryd.prog.info? 24).map (fun i => (i.zero, i.size, i.bytes)) = some (some (.pointer none), 1, 8) := by kernel_rfl
def TermsPost (ts : List Tm) (w : World) (e : Ending) (w' : World) : Prop :=
  ∃ v ps, e = .returned v ∧ w'.ownsRow w.heap.size 24 1 v ps.length (ptrV ps) ∧ Rows_ w.heap.size w' ts ps ∧ Below w.heap.size w w'
theorem own_blk_ne {w : World} {base g : Nat} {e t : TypeId} {size n : Nat} {v : Value} {xs : List Value} {cs : Array Value} (h : w.ownsRow base e size v n xs) (hg : Blk w g t cs) (hne : e ≠ t) : some g ≠ v.ownBlock := by
  rcases h.2 with ⟨rfl, _⟩ | ⟨g', cap, cur, rfl, _, hh, _⟩
  · simp [Value.ownBlock]
  · intro he
    have hgg : g' = g := by simpa [Value.ownBlock] using he.symm
    subst hgg
    unfold Blk at hg
    rw [hh] at hg
    injection hg with hg
    injection hg with _ hg
    exact hne hg
theorem own_below {w w' : World} {base : Nat} {e : TypeId} {size n : Nat} {v : Value} {xs : List Value} (h : w.ownsRow base e size v n xs) (hb : Below w.heap.size w w') : w'.ownsRow base e size v n xs := by
  refine ⟨h.1, ?_⟩
  rcases h.2 with h0 | ⟨g', cap, cur, rfl, hb', hh, hr⟩
  · exact .inl h0
  · exact .inr ⟨g', cap, cur, rfl, hb', (hb.block g' (blk_lt hh)).trans hh, hr⟩
theorem PIn.grown {B base : Nat} {w w' : World} {e : TypeId} {size n : Nat} {v : Value} {xs : List Value} (ho : w.ownsRow base e size v n xs) (hne : e ≠ 44) (hg : w.grownBy w' v.ownBlock) : ∀ {t : Tm} {p : Option Addr}, PIn B w t p → PIn B w' t p
  | .nil, _, h => h
  | .node _ _ _ _ _ _, _, ⟨g, pa, pb, pc, e', hB, hb, h1, h2, h3⟩ => ⟨g, pa, pb, pc, e', hB, (hg.block g hb.lt (own_blk_ne ho hb hne)).trans hb, h1.grown ho hne hg, h2.grown ho hne hg, h3.grown ho hne hg⟩

set_option maxHeartbeats 16000000 in
set_option maxRecDepth 100000 in
theorem Terms_any (a : Option Addr) (cap : Nat) (l : List ByteArray) (w : World) (hl : Texts w a l) (hn : l.length ≤ 1000) (hsz : ∀ s ∈ l, s.size ≤ 9223372036854775807) :
    Calls Tryd.prog 17 #[.slice a l.length cap] w (TermsPost (termsT l) w) := by
  obtain ⟨i0, hi, hz0, hz1, hz2⟩ := info_parts Tryd.infoT8
  have HI := Lib.hid hi
  have HZ0 := Lib.hid hz0
  have HZ1 := Lib.hid hz1
  have HZ2 := Lib.hid hz2
  clear hi hz0 hz1 hz2
  obtain ⟨L, hL⟩ : ∃ L, L = l.length := ⟨_, rfl⟩
  rw [← hL]
  have HL := Lib.hid hL
  have HT := Lib.hid hl
  have HS := Lib.hid hsz
  have hz : L ≤ 1000 := by omega
  clear hL hl hsz hn
  go_enter Tryd.func17, Tryd.ntmps17
  go_wp2
  go_loopg [3, 4] L (fun kq v3 v4 wr => ∃ (i : Nat) (ps : List (Option Addr)), v4 = .int .i64 (i : Int) ∧ i + kq = L ∧ ps.length ≤ i ∧ Hid (wr.ownsRow w.heap.size 24 1 v3 ps.length (ptrV ps)) ∧ Hid (Rows_ w.heap.size wr (termsT (l.take i)) ps) ∧ Hid (Below w.heap.size w wr))
  case atStart => exact ⟨0, [], rfl, by omega, Nat.le_refl _, World.ownsRow_nil _ _ _ _, ⟨rfl, fun j t p h => by simp [termsT] at h⟩, Below.refl _ _⟩
  case round =>
    obtain ⟨i, ps, rfl, hi, hps, HO, HR, HB⟩ := hrel
    by_cases hlt : i < L
    · obtain ⟨s, hs⟩ : ∃ s, l[i]? = some s := ⟨_, List.getElem?_eq_getElem (by rw [← HL.out]; exact hlt)⟩
      obtain ⟨b, off, rfl, hc⟩ := HT.out i s hs
      have c0 := cell_keep' HB.out hc
      have q0 : (0 : Int) ≤ (i : Int) := by omega
      have q1 : (i : Int) < (L : Int) := by omega
      have ct := Lib.hid (Term_any s (HS.out s (List.mem_of_getElem? hs)) wr)
      unfold TmPost at ct
      have htk : termsT (l.take (i + 1)) = termsT (l.take i) ++ (if (termT s).isNil = true then [] else [termT s]) := by
        rw [List.take_add_one, hs]
        exact termsT_snoc _ _
      generalize termT s = t at ct htk
      have HTK := Lib.hid htk
      clear htk hs hc
      obtain ⟨k', rfl⟩ : ∃ k', gk = k' + 1 := ⟨gk - 1, by omega⟩
      go_upto_if 18 with (go_at_call 8; (with_reducible refine ct.out.mono ?_); rintro e w5 ⟨p, rfl, hp, hb⟩; have HP := Lib.hid (hp.mono HB.out.size); have HO5 := Lib.hid (own_below HO.out hb); have HR5 := Lib.hid (HR.out.below hb); have HB5 := Lib.hid (below_step' HB.out hb); clear hp hb)
      by_cases hnil : t = .nil
      · obtain rfl : p = none := HP.out.nil_iff.2 hnil
        have HTN : Hid (termsT (l.take (i + 1)) = termsT (l.take i)) := by
          show _ = _
          rw [HTK.out, hnil]
          exact List.append_nil _
        clear hnil
        go_wp2
        go_roundg k'
        case measure => omega
        case rel => exact ⟨i + 1, ps, by go_num, by omega, by omega, HO5, by rw [HTN.out]; exact HR5, HB5⟩
      · obtain ⟨ad, rfl⟩ : ∃ ad, p = some ad := by
          cases h : p with
          | none => exact absurd (HP.out.nil_iff.1 h) hnil
          | some ad => exact ⟨ad, rfl⟩
        have HTN : Hid (termsT (l.take (i + 1)) = termsT (l.take i) ++ [t]) := by
          show _ = _
          rw [HTK.out, if_neg (fun h => hnil (isNil_iff.1 h))]
        clear hnil
        go_wp2_with (at_builtin; refine wpList_append_lies _ rfl _ _ _ rfl w.heap.size 24 i0 (.pointer none) 1 8 Tryd.underlying39 HI.out HZ0.out HZ1.out HZ2.out rfl (by decide) u3 ps.length (ptrV ps) rfl (HO5.out.alloc _) _ 1 1 [.pointer (some ad)] rfl rfl (World.news_of_block (heap_alloc_new _ _)) (by simp [Value.oneCell']) (by decide) (by unfold maxLen; omega) (by omega) (by have := HB5.out.size; simp; omega) _ rfl ?_; intro g cap2 w7 ho2 hg2 ha2 hlt2; have HO7 := Lib.hid ho2; have HG7 := Lib.hid hg2; clear ho2 hg2 ha2 hlt2)
        have hal : Below w5.heap.size w5 (w5.alloc (.cells #[.pointer (some ad)] 24)) := (Below.refl _ _).alloc (Nat.le_refl _) _
        have hoal := own_below HO5.out hal
        have hgr : ∀ {t : Tm} {p : Option Addr}, PIn w.heap.size w5 t p → PIn w.heap.size w7 t p := fun h => (h.below hal).grown hoal (by decide) HG7.out
        have hr7 : Rows_ w.heap.size w7 (termsT (l.take i) ++ [t]) (ps ++ [some ad]) := Rows_.snoc ⟨HR5.out.1, fun j t p h1 h2 => hgr (HR5.out.2 j t p h1 h2)⟩ (hgr HP.out)
        have hb7 : Below w.heap.size w w7 := (HB5.out.alloc HB5.out.size _).grown HG7.out (by have := HB5.out.size; simp; omega) (fun k hk => (hoal.lt k hk).1)
        have HR7 := Lib.hid hr7
        have HB7 := Lib.hid hb7
        clear hal hoal hgr hr7 hb7
        go_roundg k'
        case measure => omega
        case rel => exact ⟨i + 1, ps ++ [some ad], by go_num, by omega, by simp; omega, by rw [List.length_append]; have := HO7.out; unfold ptrV at this ⊢; rw [List.map_append]; exact this, by rw [HTN.out]; exact HR7, HB7⟩
    · obtain rfl : i = L := by omega
      have HTA : Hid (termsT (l.take i) = termsT l) := by show _ = _; rw [HL.out, List.take_length]
      clear hlt hi
      go_wp2
      go_ret
      exact ⟨_, ps, rfl, HO.out, by rw [← HTA.out]; exact HR.out, HB.out⟩
end Go.Proofs.YtghebjgkdfbmeaaDoor
