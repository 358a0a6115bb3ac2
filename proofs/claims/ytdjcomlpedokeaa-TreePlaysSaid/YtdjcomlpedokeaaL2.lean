import Derived.Test.YtdjcomlpedokeaaL1
set_option linter.unusedVariables false
namespace Go.Proofs.Ytdjcomlpedokeaa
open Go.RowKit Go.Deep

theorem leastN_le {a b : Nat} (h : a ≤ b) : leastN a ≤ leastN b := by
  induction b with
  | zero => obtain rfl : a = 0 := by omega
            exact Nat.le_refl _
  | succ b ih =>
    rcases Nat.lt_or_ge b a with h1 | h1
    · obtain rfl : a = b + 1 := by omega
      exact Nat.le_refl _
    · exact Nat.le_trans (ih h1) (leastN_mono b)

set_option maxHeartbeats 8000000 in
set_option maxRecDepth 100000 in
theorem flat_zero (w : World) : Calls Try.prog 12 #[.int .i64 0, .int .i64 0] w fun e w' => e = .returned (.bool true) ∧ w = w' := by
  go_enter Try.func12, Try.ntmps12
  go_wp2
  refine wp_loop_rounds 1 ?_
  rw [rounds_succ]
  go_wp2
  go_ret
  exact ⟨rfl, rfl⟩

set_option maxHeartbeats 8000000 in
set_option maxRecDepth 100000 in
theorem flat_some (d n : Nat) (w : World) (hd : 1 ≤ d) (h : leastN d ≤ n) (hn : n ≤ 1000) :
    Calls Try.prog 12 #[.int .i64 (d : Int), .int .i64 (n : Int)] w fun e w' => e = .returned (.bool true) ∧ w = w' := by
  have hdn : d ≤ n := Nat.le_trans (leastN_ge d) h
  have HD := Lib.hid h
  clear h
  go_enter Try.func12, Try.ntmps12
  go_wp2
  go_loop [5, 6, 7] (fun a b i => ∃ k : Nat, 1 ≤ k ∧ k ≤ d ∧ i = .int .i64 k ∧ (∃ x y : Nat, a = .int .i64 x ∧ b = .int .i64 y ∧ Hid (leastN (k - 1) = x) ∧ Hid (leastN k = y))) (fun _ _ i => d - (intOf i).toNat)
  case atStart => exact ⟨1, Nat.le_refl _, hd, rfl, 0, 1, rfl, rfl, rfl, rfl⟩
  case round =>
    obtain ⟨k, hk1, hk2, rfl, x, y, rfl, rfl, hx, hy⟩ := hrel
    have hy1 : y ≤ 1000 := by rw [← hy.out]; exact Nat.le_trans (leastN_le hk2) (Nat.le_trans HD.out hn)
    have hx1 : x ≤ 1000 := by rw [← hx.out]; exact Nat.le_trans (leastN_le (by omega)) (Nat.le_trans HD.out hn)
    by_cases hlt : k < d
    · go_wp2
      go_round
      case rel =>
        refine ⟨k + 1, by omega, by omega, by go_num, y, x + y + 1, rfl, by go_num, hy.out, ?_⟩
        show leastN (k + 1) = x + y + 1
        obtain ⟨m, rfl⟩ : ∃ m, k = m + 1 := ⟨k - 1, by omega⟩
        have h1 : leastN m = x := hx.out
        rw [← h1, ← hy.out]
        rfl
      case measure => simp [intOf]; omega
    · obtain rfl : k = d := by omega
      have hyn : y ≤ n := by rw [← hy.out]; exact HD.out
      have t0 : decide ((k : Int) ≤ (n : Int)) = true := decide_eq_true (by omega)
      have t1 : ((k : Int) == 0) = false := by have : ¬ (k : Int) = 0 := by omega
                                               simpa using this
      have t2 : decide ((0 : Int) < (k : Int)) = true := decide_eq_true (by omega)
      have t3 : decide ((y : Int) ≤ (n : Int)) = true := decide_eq_true (by omega)
      go_wp2
      go_ret
      exact ⟨rfl, rfl⟩

theorem flat_any (d n : Nat) (w : World) (h : leastN d ≤ n) (h0 : d = 0 → n = 0) (hn : n ≤ 1000) :
    Calls Try.prog 12 #[.int .i64 (d : Int), .int .i64 (n : Int)] w fun e w' => e = .returned (.bool true) ∧ w = w' := by
  rcases Nat.eq_zero_or_pos d with hd | hd
  · subst hd
    rw [h0 rfl]
    exact flat_zero w
  · exact flat_some d n w hd h hn

/-! ### The keys of a row of numbers -/
theorem inv_odd : ∀ t, t < 64 → ∃ u, u < 256 ∧ ((2 * t + 1) * u) % 256 = 1 := by decide +kernel
theorem mul_inj (t i j : Nat) (ht : t < 64) (hi : i < 256) (hj : j < 256) (h : (i * (2 * t + 1)) % 256 = (j * (2 * t + 1)) % 256) : i = j := by
  obtain ⟨u, _, hu⟩ := inv_odd t ht
  have key : ∀ x, x < 256 → ((x * (2 * t + 1)) % 256 * u) % 256 = x := fun x hx => by
    rw [Nat.mod_mul_mod, Nat.mul_assoc, Nat.mul_mod, hu, Nat.mul_one, Nat.mod_mod, Nat.mod_eq_of_lt hx]
  rw [← key i hi, h, key j hj]

/-- The number that comes at a place. -/
def seqN (s : Nat) (down : Bool) (i : Nat) : Nat := if down = true then 255 - (i * (2 * (s % 64) + 1)) % 256 else (i * (2 * (s % 64) + 1)) % 256
theorem seqN_lt (s : Nat) (down : Bool) (i : Nat) : seqN s down i < 256 := by unfold seqN; split <;> omega
theorem seqN_inj {s : Nat} {down : Bool} {i j : Nat} (hi : i < 256) (hj : j < 256) (h : seqN s down i = seqN s down j) : i = j := by
  refine mul_inj (s % 64) i j (Nat.mod_lt _ (by omega)) hi hj ?_
  unfold seqN at h
  split at h <;> omega
/-- A text of one byte. -/
def bS (b : Nat) : ByteArray := strOfNums [(b : Int)]
theorem bS_inj {a b : Nat} (ha : a < 256) (hb : b < 256) (h : bS a = bS b) : a = b := by
  have h1 : [UInt8.ofNat a] = [UInt8.ofNat b] := congrArg (fun x : ByteArray => x.data.toList) h
  have h2 : UInt8.ofNat a = UInt8.ofNat b := by simpa using h1
  have h3 := congrArg UInt8.toNat h2
  simpa [Nat.mod_eq_of_lt ha, Nat.mod_eq_of_lt hb] using h3
theorem bS_get {b : Nat} (h : b ≤ 255) (h0 : 0 < (bS b).size) : ((bS b)[0]'h0).toNat = b := by
  show (UInt8.ofNat b).toNat = b
  simp
  omega
theorem bS_size (b : Nat) : (bS b).size = 1 := rfl

def SeqInv (s : Nat) (down : Bool) (i : Nat) (l : List (ByteArray × Int)) : Prop := l.length = i ∧ ∀ x ∈ l, ∃ j, j < i ∧ x = (bS (seqN s down j), (seqN s down j : Int))
theorem SeqInv.step {s : Nat} {down : Bool} {i : Nat} {l : List (ByteArray × Int)} (hi : i < 256) (h : SeqInv s down i l) : SeqInv s down (i + 1) (insL (bS (seqN s down i)) (seqN s down i : Int) l) := by
  have hno : ∀ m, (bS (seqN s down i), m) ∉ l := fun m hm => by
    obtain ⟨j, hj, e⟩ := h.2 _ hm
    have e1 := congrArg Prod.fst e
    have := seqN_inj hi (by omega) (bS_inj (seqN_lt _ _ _) (seqN_lt _ _ _) e1)
    omega
  refine ⟨by rw [insL_new hno, h.1], fun x hx => ?_⟩
  rcases insL_mem hx with rfl | hx
  · exact ⟨i, by omega, rfl⟩
  · obtain ⟨j, hj, e⟩ := h.2 x hx
    exact ⟨j, by omega, e⟩

theorem conv_one (W : World) (X : Int) : (convert 44 9 (.slice (some ⟨W.heap.size, 0, none⟩) 1 1)).run Try.prog (W.alloc (.cells #[.int .u8 X] 5)) = .ok (.string (strOfNums [X])) (W.alloc (.cells #[.int .u8 X] 5)) :=
  run_convert_bytes_arg _ 44 5 Try.underlying44 Try.underlying5 W.heap.size 0 1 1 [X] rfl (fun i hi => by
    obtain rfl : i = 0 := by omega
    rw [Nat.zero_add, cellAt (blk_alloc_new W _)]; rfl) 9 Try.underlying9

/-- A slice of the keys that are told. -/
def KeySl (w : World) (x : Option Addr) (l : List ByteArray) : Prop := ∀ (i : Nat) (s : ByteArray), l[i]? = some s → ∃ b off, x = some ⟨b, off, none⟩ ∧ ∀ (j : Nat) (t : ByteArray), l[j]? = some t → w.cell? ⟨b, off + j, none⟩ = some (.string t)
theorem KeySl.of {w : World} {v : Value} {l : List ByteArray} (h : StrSl w v l) : ∃ x cap, v = .slice x l.length cap ∧ KeySl w x l ∧ (l.length ≤ cap ∨ l = []) := by
  rcases h with ⟨x, cap, rfl, rfl⟩ | ⟨b, off, cap, rfl, hc, hj⟩
  · exact ⟨x, cap, rfl, fun i s h => by simp at h, .inr rfl⟩
  · exact ⟨_, cap, rfl, fun i s h => ⟨b, off, rfl, hj⟩, .inl hc⟩
theorem KeySl.below {w w' : World} {x : Option Addr} {l : List ByteArray} (h : KeySl w x l) (hb : Below w.heap.size w w') : KeySl w' x l := fun i s hi =>
  let ⟨b, off, hx, hj⟩ := h i s hi
  ⟨b, off, hx, fun j t ht => cell_keep hb (hj j t ht)⟩


theorem rise_at {l : List (ByteArray × Int)} {i j : Nat} {x y : ByteArray × Int} (hr : Rise l) (hi : l[i]? = some x) (hj : l[j]? = some y) (hij : i < j) : blt x.1 y.1 = true := by
  obtain ⟨hjl, e2⟩ := List.getElem?_eq_some_iff.1 hj
  obtain ⟨hil, e1⟩ := List.getElem?_eq_some_iff.1 hi
  have := (List.pairwise_iff_getElem.1 hr) i j hil hjl hij
  rw [e1, e2] at this
  exact this
theorem evens_step {l : List (ByteArray × Int)} {i : Nat} {s : ByteArray} {n : Int} {m : List (ByteArray × Int)} (hr : Rise l) (hi : l[i]? = some (s, n)) (hm : ∀ (j : Nat) (x : ByteArray × Int), i ≤ j → l[j]? = some x → x ∈ m) :
    (∀ (j : Nat) (x : ByteArray × Int), i + 2 ≤ j → l[j]? = some x → x ∈ delL s m) := by
  intro j x hj hx
  have h1 := hm j x (by omega) hx
  have hlt : blt s x.1 = true := by
    have hij : i < j := by omega
    obtain ⟨hjl, e2⟩ := List.getElem?_eq_some_iff.1 hx
    obtain ⟨hil, e1⟩ := List.getElem?_eq_some_iff.1 hi
    have := (List.pairwise_iff_getElem.1 hr) i j hil hjl hij
    rw [e1, e2] at this
    exact this
  simp only [delL, List.mem_filter, h1, true_and, decide_eq_true_eq]
  exact fun e => blt_ne hlt e.symm

attribute [local go_sem] conv_one
set_option maxHeartbeats 8000000 in
set_option maxRecDepth 100000 in
theorem sorted_walk (k s : Nat) (down : Bool) (w : World) (hn1 : k ≤ 255) (hs1 : s ≤ 255) :
    Calls Try.prog 4 #[.int .u8 (k : Int), .int .u8 (s : Int), .bool down] w (KnownPost w) := by
  have hs0 : (0 : Int) ≤ (s : Int) := by omega
  have hk0 : (0 : Int) ≤ (k : Int) := by omega
  go_enter Try.func4, Try.ntmps4
  go_wp2_with (first
    | (go_at_call 6; refine (known_any _).mono ?_; rintro e w1 ⟨rfl, hb⟩; have hb1 := Lib.hid hb; clear hb)
    | (go_at_call 7; refine (New_g _).mono ?_; rintro e w2 ⟨t0, rfl, hg, hb⟩; have hb2 := Lib.hid hb; clear hb))
  have hb3 := Lib.hid (below_step hb1.out hb2.out)
  clear hb1 hb2
  go_loopw [8, 9] (fun v8 v9 wr => ∃ (i tb : Nat) (l : List (ByteArray × Int)), v8 = .pointer (some ⟨tb, 0, none⟩) ∧ v9 = .int .i64 i ∧ i ≤ k ∧ TG wr tb l ∧ Hid (SeqInv s down i l) ∧ Hid (Below w.heap.size w wr)) (fun _ v9 _ => k - (intOf v9).toNat)
  case atStart => exact ⟨0, t0, [], rfl, rfl, Nat.zero_le _, hg, ⟨rfl, fun x hx => by simp at hx⟩, hb3⟩
  case round =>
    clear hb3 hg
    obtain ⟨i, tb, l, rfl, rfl, hi, hg, hall, hbw⟩ := hrel
    by_cases hlt : i < k
    · have hl : l.length ≤ 1000 := by have := hall.out.1; omega
      obtain ⟨p, hp⟩ : ∃ p : Nat, (i : Int) * (2 * ((s : Int) % 64) + 1) = (p : Int) := ⟨i * (2 * (s % 64) + 1), by push_cast; rfl⟩
      have hp' : p = i * (2 * (s % 64) + 1) := by
        have : ((i * (2 * (s % 64) + 1) : Nat) : Int) = (p : Int) := by push_cast; exact hp
        omega
      have hp1 : p ≤ 1000000 := by
        have h1 : 2 * (s % 64) + 1 ≤ 128 := by omega
        have h2 : i * (2 * (s % 64) + 1) ≤ 255 * 128 := Nat.mul_le_mul (by omega) h1
        omega
      obtain ⟨q, hq⟩ : ∃ q : Nat, (p : Int) % 256 = (q : Int) := ⟨p % 256, by omega⟩
      have hq1 : q ≤ 255 := by omega
      have hqs : q = (i * (2 * (s % 64) + 1)) % 256 := by omega
      obtain ⟨b, hb⟩ : ∃ b, b = seqN s down i := ⟨_, rfl⟩
      have hb255 : b ≤ 255 := by have := seqN_lt s down i; omega
      have HB := Lib.hid hb
      have HS := Lib.hid (hall.out.step (by omega))
      rw [← hb] at HS
      cases down
      · have hbq : b = q := by rw [hb, hqs]; rfl
        subst hbq
        clear hb hqs hp'
        have hmod : (b : Int) % 256 = (b : Int) := by omega
        go_wp2_with ((go_at_call 9; refine (With_g tb l (bS b) (b : Int) _ (by simpa using hg.below ((Below.refl _ _).alloc (Nat.le_refl _) _)) hl).mono ?_; rintro e w4 ⟨tb', rfl, hg', hbb⟩; have hb4 := Lib.hid hbb; clear hbb))
        go_roundw
        case rel => exact ⟨i + 1, tb', _, rfl, by go_num, by omega, hg', HS, below_step (below_step hbw.out ((Below.refl _ _).alloc (Nat.le_refl _) _)) hb4.out⟩
        case measure => simp [intOf]; omega
      · have hbq : b = 255 - q := by rw [hb, hqs]; rfl
        have hbi : 255 - (q : Int) = (b : Int) := by omega
        clear hb hqs hp' hbq
        have hmod : (b : Int) % 256 = (b : Int) := by omega
        go_wp2_with ((go_at_call 9; refine (With_g tb l (bS b) (b : Int) _ (by simpa using hg.below ((Below.refl _ _).alloc (Nat.le_refl _) _)) hl).mono ?_; rintro e w4 ⟨tb', rfl, hg', hbb⟩; have hb4 := Lib.hid hbb; clear hbb))
        go_roundw
        case rel => exact ⟨i + 1, tb', _, rfl, by go_num, by omega, hg', HS, below_step (below_step hbw.out ((Below.refl _ _).alloc (Nat.le_refl _) _)) hb4.out⟩
        case measure => simp [intOf]; omega
    · obtain rfl : i = k := by omega
      clear hlt
      have hl : l.length ≤ 1000 := by have := hall.out.1; omega
      have hlk : ((l.length : Nat) : Int) = (i : Int) := by have := hall.out.1; omega
      have HLK := Lib.hid hlk
      clear hlk
      go_wp2_with (first
        | (go_at_call 16; refine (Keys_g tb l _ hg hl).mono ?_; rintro e w5 ⟨v, rfl, ho, hb⟩; obtain ⟨x, cap, rfl, hks, hcap⟩ := KeySl.of (StrSl.of_own ho); rw [List.length_map, hall.out.1] at hcap ⊢; have hb5 := Lib.hid hb; have hg := hg.below hb; replace hks := Lib.hid hks; clear ho hb)
        | (go_at_call 17; refine (Len_g tb _ _ hg).mono ?_; rintro e w6 ⟨rfl, rfl⟩; rw [HLK.out])
        | (go_at_call 13; refine (Deep_g tb _ _ hg).mono ?_; rintro e w6 ⟨d, rfl, hd1, hd2, rfl⟩; rw [hall.out.1] at hd1 hd2; replace hd1 := Lib.hid hd1; replace hd2 := Lib.hid hd2)
        | (go_at_call 12; refine (flat_any d i _ hd1.out hd2.out (by omega)).mono ?_; rintro e w6 ⟨rfl, rfl⟩))
      have hrise := Lib.hid hg.rise
      go_loopw [12] (fun v12 wr => ∃ j m : Nat, v12 = .int .i64 j ∧ j ≤ i ∧ wr = w5.drewN m) (fun v12 _ => i - (intOf v12).toNat)
      case atStart => exact ⟨0, 0, rfl, Nat.zero_le _, rfl⟩
      case round =>
        obtain ⟨j, m, rfl, hj, rfl⟩ := hrel
        by_cases hlt : j < i
        · have hjl : j < l.length := by have := hall.out.1; omega
          obtain ⟨⟨y, bi⟩, hx⟩ : ∃ x, l[j]? = some x := ⟨_, List.getElem?_eq_getElem hjl⟩
          have hmem := List.mem_of_getElem? hx
          obtain ⟨jj, hjj, he⟩ := hall.out.2 _ hmem
          obtain ⟨b, hb⟩ : ∃ b, b = seqN s down jj := ⟨_, rfl⟩
          have hb255 : b ≤ 255 := by have := seqN_lt s down jj; omega
          rw [← hb] at he
          obtain ⟨rfl, rfl⟩ : y = bS b ∧ bi = (b : Int) := by simpa using he
          have hmem := Lib.hid hmem
          clear he hb hjj
          obtain ⟨kb, ko, hxa, hcell⟩ := hks.out j (bS b) (by rw [List.getElem?_map, hx]; rfl)
          have c0 : w5.cell? ⟨kb, ko + j, none⟩ = some (.string (bS b)) := hcell j _ (by rw [List.getElem?_map, hx]; rfl)
          have hcp : i ≤ cap := by
            rcases hcap with h | h
            · exact h
            · exact absurd (List.map_eq_nil_iff.1 h) (fun e => by rw [e] at hjl; simp at hjl)
          have q0 : (0 : Int) ≤ (j : Int) := by omega
          have q1 : (j : Int) < (i : Int) := by omega
          have HX := Lib.hid hx
          clear hx hjl
          have hsz : (bS b).size = 1 := rfl
          have hsz' : ((bS b).size : Int) = 1 := rfl
          have hat := bS_get hb255 (by rw [bS_size]; decide)
          rcases Nat.eq_zero_or_pos j with hj0 | hj0
          · clear hcell hcap
            subst hxa
            have q2 : decide ((0 : Int) < (j : Int)) = false := decide_eq_false (by omega)
            have q3 : decide (0 < j) = false := decide_eq_false (by omega)
            replace hj0 := Lib.hid hj0
            go_wp2
            go_quiet (fail)
            go_wp2_with ((go_at_call 14; refine (Get_in tb l (bS b) (b : Int) _ (by simpa using hg) hmem.out).mono ?_; rintro e w4 ⟨rfl, rfl⟩))
            go_roundw
            case rel => exact ⟨j + 1, _, by go_num, by omega, rfl⟩
            case measure => simp [intOf]; omega
          · obtain ⟨⟨y0, b0⟩, hx0⟩ : ∃ x, l[j - 1]? = some x := ⟨_, List.getElem?_eq_getElem (by have := hall.out.1; omega)⟩
            have hlast : w5.cell? ⟨kb, ko + (j - 1), none⟩ = some (.string y0) := hcell (j - 1) _ (by rw [List.getElem?_map, hx0]; rfl)
            have hless : Op.bytesLess y0.toList (bS b).toList = true := rise_at hrise.out hx0 HX.out (by omega)
            clear hcell hcap hx0
            subst hxa
            have q2 : decide ((0 : Int) < (j : Int)) = true := decide_eq_true (by omega)
            have q3 : decide (0 < j) = true := decide_eq_true (by omega)
            obtain ⟨j', rfl⟩ : ∃ j', j = j' + 1 := ⟨j - 1, by omega⟩
            rw [Nat.add_sub_cancel] at hlast
            have q4 : (0 : Int) ≤ (j' : Int) := by omega
            have q5 : (j' : Int) < (i : Int) := by omega
            go_wp2
            go_quiet (fail)
            go_wp2_with ((go_at_call 14; refine (Get_in tb l (bS b) (b : Int) _ (by simpa using hg) hmem.out).mono ?_; rintro e w4 ⟨rfl, rfl⟩))
            go_roundw
            case rel => exact ⟨j' + 1 + 1, _, by go_num, by omega, rfl⟩
            case measure => simp [intOf]; omega
        · obtain rfl : j = i := by omega
          clear hlt
          have hw5 := Lib.hid (below_step hbw.out hb5.out)
          have hg0 : TG (w5.drewN m) tb l := by simpa using hg
          clear hg
          have hks0 : Hid (KeySl (w5.drewN m) x (l.map (·.1))) := hks.out.below (below_drewN _ _)
          have hw0 : Hid (Below w.heap.size w (w5.drewN m)) := below_step hw5.out (below_drewN _ _)
          have hlen := hall.out.1
          have hcp : l.map (·.1) = [] ∨ j ≤ cap := hcap.symm
          replace hcp := Lib.hid hcp
          replace hlen := Lib.hid hlen
          clear hw5 hb5 hbw hks hcap hall
          go_wp2
          go_loopw [8, 15] (fun v8 v15 wr => ∃ (a tc : Nat) (m : List (ByteArray × Int)), v8 = .pointer (some ⟨tc, 0, none⟩) ∧ v15 = .int .i64 ((2 * a : Nat) : Int) ∧ 2 * a ≤ j + 1 ∧ TG wr tc m ∧ Hid (m.length + a = j) ∧ Hid (∀ (p : Nat) (y : ByteArray × Int), 2 * a ≤ p → l[p]? = some y → y ∈ m) ∧ Hid (KeySl wr x (l.map (·.1))) ∧ Hid (Below w.heap.size w wr)) (fun _ v15 _ => j + 1 - (intOf v15).toNat)
          case atStart => exact ⟨0, tb, l, rfl, rfl, by omega, hg0, hlen.out, fun p y _ hy => List.mem_of_getElem? hy, hks0, hw0⟩
          case round =>
            clear hg0 hks0 hw0
            obtain ⟨a, tc, q, rfl, rfl, ha, hg, hql, hqm, hks, hbw⟩ := hrel
            have hq1000 : q.length ≤ 1000 := by have := hql.out; omega
            by_cases hlt : 2 * a < j
            · obtain ⟨⟨y, n0⟩, hx⟩ : ∃ x, l[2 * a]? = some x := ⟨_, List.getElem?_eq_getElem (by have := hlen.out; omega)⟩
              obtain ⟨kb, ko, hxa, hcell⟩ := hks.out (2 * a) y (by rw [List.getElem?_map, hx]; rfl)
              obtain ⟨e, he⟩ : ∃ e, e = 2 * a := ⟨_, rfl⟩
              rw [← he] at hlt ha ⊢
              have c0 := hcell (2 * a) y (by rw [List.getElem?_map, hx]; rfl)
              rw [← he] at c0
              have hmem := Lib.hid (hqm.out (2 * a) _ (Nat.le_refl _) hx)
              have HX := Lib.hid hx
              have HE := Lib.hid he
              clear hcell hx he
              subst hxa
              have q0 : (0 : Int) ≤ (e : Int) := by omega
              have q1 : (e : Int) < (j : Int) := by omega
              go_wp2_with ((go_at_call 8; refine (Without_g tc q y _ hg hq1000).mono ?_; rintro e' w8 ⟨td, rfl, hg', hb⟩; have hb8 := Lib.hid hb; clear hb))
              go_roundw
              case rel =>
                refine ⟨a + 1, td, delL y q, rfl, ?_, by have := HE.out; omega, hg', ?_, ?_, hks.out.below hb8.out, below_step hbw.out hb8.out⟩
                · rw [HE.out]; go_num
                · have h1 := delL_length hg.rise hmem.out
                  have h2 := hql.out
                  show _ = _
                  omega
                · exact evens_step hrise.out HX.out hqm.out
              case measure => simp [intOf]; omega
            · obtain ⟨n2, hn2⟩ : ∃ n2 : Nat, (j : Int) / 2 = (n2 : Int) := ⟨j / 2, by omega⟩
              have hqn : (q.length : Int) = (n2 : Int) := by have := hql.out; omega
              have HQ := Lib.hid hqn
              have hn3 : n2 ≤ 1000 := by omega
              have hqn2 : q.length = n2 := by omega
              have HQ2 := Lib.hid hqn2
              have hge : decide (((2 * a : Nat) : Int) < (j : Int)) = false := decide_eq_false (by omega)
              have hge2 : decide (2 * a < j) = false := decide_eq_false (by omega)
              have hge3 : decide (2 * (a : Int) < (j : Int)) = false := decide_eq_false (by omega)
              clear hqn hqn2 hlt
              go_wp2_with (first
                | (go_at_call 17; refine (Len_g tc _ _ hg).mono ?_; rintro e w6 ⟨rfl, rfl⟩; rw [HQ.out])
                | (go_at_call 13; refine (Deep_g tc _ _ hg).mono ?_; rintro e w6 ⟨d, rfl, hd1, hd2, rfl⟩; rw [HQ2.out] at hd1 hd2; replace hd1 := Lib.hid hd1; replace hd2 := Lib.hid hd2)
                | (go_at_call 12; refine (flat_any d n2 _ hd1.out hd2.out hn3).mono ?_; rintro e w6 ⟨rfl, rfl⟩))
              go_ret
              exact ⟨rfl, hbw.out⟩
end Go.Proofs.Ytdjcomlpedokeaa
