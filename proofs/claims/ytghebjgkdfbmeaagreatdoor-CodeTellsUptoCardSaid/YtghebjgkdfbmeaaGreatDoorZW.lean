import Derived.Test.YtghebjgkdfbmeaaGreatDoorZI
set_option linter.unusedVariables false
set_option linter.unusedSimpArgs false
namespace Go.Proofs.YtghebjgkdfbmeaaGreatDoor
open Go.RowKit

/-! ### how much a term weighs as a tree, up to a limit -/
def wS (f : Int → Int) (m n : Int) : Int := if n ≤ m then n + f (m - n) else n
def weighM : Tm → Int → Int
  | .nil, _ => 0
  | .node _ _ _ a b c, m => wS (weighM c) m (wS (weighM b) m (wS (weighM a) m 1))
theorem wS_bnd {f : Int → Int} {m n : Int} (hf : ∀ x, 0 ≤ x → x ≤ 100000 → 0 ≤ f x ∧ f x ≤ x + 1) (h0 : 0 ≤ m) (h1 : m ≤ 100000) (hn : 0 ≤ n ∧ n ≤ m + 1) : 0 ≤ wS f m n ∧ wS f m n ≤ m + 1 := by
  unfold wS
  split
  · have := hf (m - n) (by omega) (by omega)
    omega
  · exact hn
theorem weighM_bnd : ∀ (t : Tm) (x : Int), 0 ≤ x → x ≤ 100000 → 0 ≤ weighM t x ∧ weighM t x ≤ x + 1
  | .nil, x, h, _ => by unfold weighM; omega
  | .node _ _ _ a b c, x, h0, h1 => by
    unfold weighM
    exact wS_bnd (weighM_bnd c) h0 h1 (wS_bnd (weighM_bnd b) h0 h1 (wS_bnd (weighM_bnd a) h0 h1 (by omega)))
/-- What is left of it behind i parts. -/
def restW (a b c : Tm) (m : Int) : Nat → Int → Int
  | 0, n => wS (weighM c) m (wS (weighM b) m (wS (weighM a) m n))
  | 1, n => wS (weighM c) m (wS (weighM b) m n)
  | 2, n => wS (weighM c) m n
  | _ + 3, n => n

set_option maxHeartbeats 16000000 in
set_option maxRecDepth 100000 in
theorem weigh_any : ∀ (t : Tm) (p : Option Addr) (m : Int) (B : Nat) (w : World), PIn B w t p → 0 ≤ m → m ≤ 100000 →
    Calls Tryz.prog 17 #[.pointer p, .int .i64 m] w (Quiet (.int .i64 (weighM t m)) w) := by
  intro t
  induction t with
  | nil =>
    intro p m B w hp h1 h2
    obtain rfl : p = none := hp
    clear h1 h2
    go_enter Tryz.func17, Tryz.ntmps17
    go_wp2
    go_ret
    exact ⟨rfl, 0, rfl⟩
  | node k n s a b c iha ihb ihc =>
    intro p m B w hp h1 h2
    obtain ⟨g, pa, pb, pc, rfl, -, hb, ha, hb', hc⟩ := hp
    have x3 := hb.cell 3
    have x4 := hb.cell 4
    have x5 := hb.cell 5
    simp [tmCells] at x3 x4 x5
    have he : weighM (.node k n s a b c) m = restW a b c m 0 1 := rfl
    rw [he]
    have IH := Lib.hid (And.intro iha (And.intro ihb ihc))
    have HPS := Lib.hid (And.intro ha (And.intro hb' hc))
    clear he iha ihb ihc ha hb' hc hb
    go_enter Tryz.func17, Tryz.ntmps17
    go_upto_region 4 with fail
    go_quiet (fail)
    go_upto_region 5 with fail
    clear x3 x4 x5
    have h1' : 0 ≤ m := h1
    go_loopg [5, 23] 3 (fun kq v5 v23 wr => ∃ (i : Nat) (n : Int) (N : Nat), v5 = .int .i64 n ∧ v23 = .int .i64 (i : Int) ∧ i + kq = 3 ∧ 0 ≤ n ∧ n ≤ m + 1 ∧ Hid (restW a b c m i n = restW a b c m 0 1) ∧ wr = w.drewN N)
    case atStart => exact ⟨0, 1, nq, rfl, rfl, by omega, by omega, by omega, rfl, rfl⟩
    case round =>
      obtain ⟨i, n, N, rfl, rfl, hik, hn0, hn1, HR, rfl⟩ := hrel
      obtain ⟨hx0, hx1, hx2⟩ := index3 pa pb pc (w.drewN N)
      match i, hik with
      | 0, hik =>
        obtain ⟨k', rfl⟩ : ∃ k', gk = k' + 1 := ⟨gk - 1, by omega⟩
        by_cases hle : n ≤ m
        · have t1 : decide (n ≤ m) = true := decide_eq_true hle
          have hb := weighM_bnd a (m - n) (by omega) (by omega)
          have hbn := wS_bnd (f := weighM a) (m := m) (n := n) (fun x => weighM_bnd a x) h1 h2 ⟨hn0, hn1⟩
          have hr : restW a b c m 1 (n + weighM a (m - n)) = restW a b c m 0 1 := by
            rw [← HR.out]
            show _ = restW a b c m 1 (wS (weighM a) m n)
            unfold wS
            rw [if_pos hle]
          have cw := Lib.hid (IH.out.1 pa (m - n) B (w.drewN N) (HPS.out.1.drewN N) (by omega) (by omega))
          unfold Quiet at cw
          generalize weighM a (m - n) = x at cw hr hb
          have HR2 := Lib.hid hr
          clear hr HR hbn
          go_wp2_with (go_at_call 17; (with_reducible refine cw.out.mono ?_); rintro e w5 ⟨rfl, M, rfl⟩)
          go_roundg k'
          case measure => omega
          case rel => exact ⟨1, n + x, N + M, by go_num, by go_num, by omega, by omega, by omega, HR2, rfl⟩
        · have t1 : decide (n ≤ m) = false := decide_eq_false hle
          have hr : restW a b c m 1 n = restW a b c m 0 1 := by
            rw [← HR.out]
            show _ = restW a b c m 1 (wS (weighM a) m n)
            unfold wS
            rw [if_neg hle]
          have HR2 := Lib.hid hr
          clear hr HR
          go_wp2
          go_roundg k'
          case measure => omega
          case rel => exact ⟨1, n, N, rfl, by go_num, by omega, by omega, by omega, HR2, rfl⟩
      | 1, hik =>
        obtain ⟨k', rfl⟩ : ∃ k', gk = k' + 1 := ⟨gk - 1, by omega⟩
        by_cases hle : n ≤ m
        · have t1 : decide (n ≤ m) = true := decide_eq_true hle
          have hb := weighM_bnd b (m - n) (by omega) (by omega)
          have hbn := wS_bnd (f := weighM b) (m := m) (n := n) (fun x => weighM_bnd b x) h1 h2 ⟨hn0, hn1⟩
          have hr : restW a b c m 2 (n + weighM b (m - n)) = restW a b c m 0 1 := by
            rw [← HR.out]
            show _ = restW a b c m 2 (wS (weighM b) m n)
            unfold wS
            rw [if_pos hle]
          have cw := Lib.hid (IH.out.2.1 pb (m - n) B (w.drewN N) (HPS.out.2.1.drewN N) (by omega) (by omega))
          unfold Quiet at cw
          generalize weighM b (m - n) = x at cw hr hb
          have HR2 := Lib.hid hr
          clear hr HR hbn
          go_wp2_with (go_at_call 17; (with_reducible refine cw.out.mono ?_); rintro e w5 ⟨rfl, M, rfl⟩)
          go_roundg k'
          case measure => omega
          case rel => exact ⟨2, n + x, N + M, by go_num, by go_num, by omega, by omega, by omega, HR2, rfl⟩
        · have t1 : decide (n ≤ m) = false := decide_eq_false hle
          have hr : restW a b c m 2 n = restW a b c m 0 1 := by
            rw [← HR.out]
            show _ = restW a b c m 2 (wS (weighM b) m n)
            unfold wS
            rw [if_neg hle]
          have HR2 := Lib.hid hr
          clear hr HR
          go_wp2
          go_roundg k'
          case measure => omega
          case rel => exact ⟨2, n, N, rfl, by go_num, by omega, by omega, by omega, HR2, rfl⟩
      | 2, hik =>
        obtain ⟨k', rfl⟩ : ∃ k', gk = k' + 1 := ⟨gk - 1, by omega⟩
        by_cases hle : n ≤ m
        · have t1 : decide (n ≤ m) = true := decide_eq_true hle
          have hb := weighM_bnd c (m - n) (by omega) (by omega)
          have hbn := wS_bnd (f := weighM c) (m := m) (n := n) (fun x => weighM_bnd c x) h1 h2 ⟨hn0, hn1⟩
          have hr : restW a b c m 3 (n + weighM c (m - n)) = restW a b c m 0 1 := by
            rw [← HR.out]
            show _ = restW a b c m 3 (wS (weighM c) m n)
            unfold wS
            rw [if_pos hle]
          have cw := Lib.hid (IH.out.2.2 pc (m - n) B (w.drewN N) (HPS.out.2.2.drewN N) (by omega) (by omega))
          unfold Quiet at cw
          generalize weighM c (m - n) = x at cw hr hb
          have HR2 := Lib.hid hr
          clear hr HR hbn
          go_wp2_with (go_at_call 17; (with_reducible refine cw.out.mono ?_); rintro e w5 ⟨rfl, M, rfl⟩)
          go_roundg k'
          case measure => omega
          case rel => exact ⟨3, n + x, N + M, by go_num, by go_num, by omega, by omega, by omega, HR2, rfl⟩
        · have t1 : decide (n ≤ m) = false := decide_eq_false hle
          have hr : restW a b c m 3 n = restW a b c m 0 1 := by
            rw [← HR.out]
            show _ = restW a b c m 3 (wS (weighM c) m n)
            unfold wS
            rw [if_neg hle]
          have HR2 := Lib.hid hr
          clear hr HR
          go_wp2
          go_roundg k'
          case measure => omega
          case rel => exact ⟨3, n, N, rfl, by go_num, by omega, by omega, by omega, HR2, rfl⟩
      | 3, hik =>
        go_wp2
        go_ret
        exact ⟨by rw [← HR.out]; rfl, N, rfl⟩
      | _ + 4, hik => omega

/-! ### rows of terms -/
theorem cell_keep' {w w' : World} {p : Addr} {v : Value} (hb : Below w.heap.size w w') (h : w.cell? p = some v) : w'.cell? p = some v := by
  refine (hb.cell ?_).trans h
  rcases Nat.lt_or_ge p.block w.heap.size with h' | h'
  · exact h'
  · simp [World.cell?, Array.getElem?_eq_none h'] at h
def ptrV (ps : List (Option Addr)) : List Value := ps.map Value.pointer
/-- Each is a term, in its place. -/
def Rows_ (B : Nat) (w : World) (ts : List Tm) (ps : List (Option Addr)) : Prop := ts.length = ps.length ∧ ∀ (j : Nat) t p, ts[j]? = some t → ps[j]? = some p → PIn B w t p
theorem Rows_.below {B : Nat} {w w' : World} {ts : List Tm} {ps : List (Option Addr)} (h : Rows_ B w ts ps) (hb : Below w.heap.size w w') : Rows_ B w' ts ps := ⟨h.1, fun j t p h1 h2 => (h.2 j t p h1 h2).below hb⟩
theorem Rows_.snoc {B : Nat} {w : World} {ts : List Tm} {ps : List (Option Addr)} (h : Rows_ B w ts ps) {t : Tm} {p : Option Addr} (hp : PIn B w t p) : Rows_ B w (ts ++ [t]) (ps ++ [p]) := by
  refine ⟨by simp [h.1], fun j t' p' h1 h2 => ?_⟩
  by_cases hj : j < ts.length
  · rw [List.getElem?_append_left hj] at h1
    rw [List.getElem?_append_left (by have := h.1; omega)] at h2
    exact h.2 j t' p' h1 h2
  · rw [List.getElem?_append_right (by omega)] at h1
    rw [List.getElem?_append_right (by have := h.1; omega)] at h2
    have hl := (List.getElem?_eq_some_iff.1 h1).1
    simp at hl
    have e1 : j - ts.length = 0 := by omega
    have e2 : j - ps.length = 0 := by have := h.1; omega
    rw [e1] at h1
    rw [e2] at h2
    simp at h1 h2
    subst h1 h2
    exact hp
theorem Tryz.infoT8 : (Tryz.prog.info? 24).map (fun i => (i.zero, i.size, i.bytes)) = some (some (.pointer none), 1, 8) := by kernel_rfl
theorem own_blk_ne {w : World} {base g : Nat} {e t : TypeId} {size n : Nat} {v : Value} {xs : List Value} {cs : Array Value} (h : w.ownsRow base e size v n xs) (hg : Blk w g t cs) (hne : e ≠ t) : some g ≠ v.ownBlock := by
  rcases h.2 with ⟨rfl, _⟩ | ⟨g', cap, cur, rfl, _, hh, _⟩
  · simp [Value.ownBlock]
  · intro he
    have hgg : g' = g := by simpa [Value.ownBlock] using he.symm
    subst hgg
    unfold Blk at hg
    rw [hh] at hg
    injection hg with hg
    injection hg with _ hg
    exact hne hg
theorem own_below {w w' : World} {base : Nat} {e : TypeId} {size n : Nat} {v : Value} {xs : List Value} (h : w.ownsRow base e size v n xs) (hb : Below w.heap.size w w') : w'.ownsRow base e size v n xs := by
  refine ⟨h.1, ?_⟩
  rcases h.2 with h0 | ⟨g', cap, cur, rfl, hb', hh, hr⟩
  · exact .inl h0
  · exact .inr ⟨g', cap, cur, rfl, hb', (hb.block g' (blk_lt hh)).trans hh, hr⟩
theorem PIn.grown {B base : Nat} {w w' : World} {e : TypeId} {size n : Nat} {v : Value} {xs : List Value} (ho : w.ownsRow base e size v n xs) (hne : e ≠ 46) (hg : w.grownBy w' v.ownBlock) : ∀ {t : Tm} {p : Option Addr}, PIn B w t p → PIn B w' t p
  | .nil, _, h => h
  | .node _ _ _ _ _ _, _, ⟨g, pa, pb, pc, e', hB, hb, h1, h2, h3⟩ => ⟨g, pa, pb, pc, e', hB, (hg.block g hb.lt (own_blk_ne ho hb hne)).trans hb, h1.grown ho hne hg, h2.grown ho hne hg, h3.grown ho hne hg⟩


/-- What is in a row at a place, from 1 on. -/
theorem at_any (base B n : Nat) (v : Value) (ts : List Tm) (ps : List (Option Addr)) (k : Int) (w : World) (hn : n = ps.length) (ho : w.ownsRow base 24 1 v n (ptrV ps)) (hr : Rows_ B w ts ps) (hs : ∀ t ∈ ts, t.small) (hk : n ≤ 1000) :
    Calls Tryz.prog 16 #[v, .int .i64 k] w (fun e w' => (∃ t p, e = .returned (.pointer p) ∧ PIn B w t p ∧ t.small) ∧ w = w') := by
  have hform : ∃ a cap, v = .slice a n cap ∧ ∀ (j : Nat) p, ps[j]? = some p → ∃ g, a = some ⟨g, 0, none⟩ ∧ w.cell? ⟨g, j, none⟩ = some (.pointer p) := by
    rcases Nat.eq_zero_or_pos n with h0 | h0
    · rcases ho.2 with ⟨rfl, h⟩ | ⟨g, cap, cur, rfl, _⟩
      · exact ⟨none, 0, by rw [h0], fun j p hj => by have := (List.getElem?_eq_some_iff.1 hj).1; omega⟩
      · exact ⟨_, _, rfl, fun j p hj => by have := (List.getElem?_eq_some_iff.1 hj).1; omega⟩
    · obtain ⟨g, cap, rfl, _, _⟩ := ho.form h0
      refine ⟨_, _, rfl, fun j p hj => ⟨g, rfl, ?_⟩⟩
      rw [ho.cellAt j (by have := (List.getElem?_eq_some_iff.1 hj).1; omega)]
      unfold ptrV
      rw [List.getElem?_map, hj]
      rfl
  obtain ⟨a, cap, rfl, hc⟩ := hform
  have HR := Lib.hid (And.intro hr hs)
  clear ho hr hs
  by_cases h1 : k < 1
  · have t1 : decide (k < 1) = true := decide_eq_true h1
    clear h1 hc hn hk
    go_enter Tryz.func16, Tryz.ntmps16
    go_wp2
    go_ret
    exact ⟨⟨.nil, none, rfl, rfl, trivial⟩, rfl⟩
  have t1 : decide (k < 1) = false := decide_eq_false h1
  by_cases h2 : (n : Int) < k
  · have t2 : decide ((n : Int) < k) = true := decide_eq_true h2
    clear h1 h2 hc hn hk
    go_enter Tryz.func16, Tryz.ntmps16
    go_wp2
    go_ret
    exact ⟨⟨.nil, none, rfl, rfl, trivial⟩, rfl⟩
  have t2 : decide ((n : Int) < k) = false := decide_eq_false h2
  obtain ⟨j, hj⟩ : ∃ j : Nat, k - 1 = (j : Int) := ⟨(k - 1).toNat, by omega⟩
  obtain ⟨p, hp⟩ : ∃ p, ps[j]? = some p := ⟨_, List.getElem?_eq_getElem (by omega)⟩
  obtain ⟨t, ht⟩ : ∃ t, ts[j]? = some t := ⟨_, List.getElem?_eq_getElem (by rw [HR.out.1.1]; omega)⟩
  obtain ⟨g, rfl, hcell⟩ := hc j p hp
  have b0 : (0 : Int) ≤ (j : Int) := by omega
  have b1 : (j : Int) < (n : Int) := by omega
  have HP := Lib.hid (HR.out.1.2 j t p ht hp)
  have HS := Lib.hid (HR.out.2 t (List.mem_of_getElem? ht))
  clear hc hn hp ht HR
  go_enter Tryz.func16, Tryz.ntmps16
  go_wp2
  go_ret
  exact ⟨⟨t, p, rfl, HP.out, HS.out⟩, rfl⟩
end Go.Proofs.YtghebjgkdfbmeaaGreatDoor

