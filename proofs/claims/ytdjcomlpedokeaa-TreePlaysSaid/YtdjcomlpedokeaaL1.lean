import Derived.Test.YtdjcomlpedokeaaT14
set_option linter.unusedVariables false
namespace Go.Proofs.Ytdjcomlpedokeaa
open Go.RowKit Go.Deep

theorem insL_length (key : ByteArray) (n : Int) : ∀ l : List (ByteArray × Int), (insL key n l).length ≤ l.length + 1
  | [] => by simp [insL]
  | (a, b) :: l => by
    unfold insL
    split
    · simp
    · split
      · simp
      · have := insL_length key n l; simp; omega
theorem insL_self (key : ByteArray) (n : Int) : ∀ l : List (ByteArray × Int), (key, n) ∈ insL key n l
  | [] => by simp [insL]
  | (a, b) :: l => by
    unfold insL
    split
    · simp
    · split
      · simp
      · have := insL_self key n l; simp [this]
theorem insL_keep {key : ByteArray} {n : Int} {x : ByteArray × Int} (hx : x.1 ≠ key) : ∀ {l : List (ByteArray × Int)}, x ∈ l → x ∈ insL key n l
  | [], h => by simp at h
  | (a, b) :: l, h => by
    unfold insL
    rcases List.mem_cons.1 h with rfl | h
    · split
      · simp
      · split
        · rename_i e; exact absurd e.symm hx
        · simp
    · split
      · simp [h]
      · split
        · simp [h]
        · simp [insL_keep hx h]

theorem del_no (s : ByteArray) (l : List (ByteArray × Int)) : ∀ n, (s, n) ∉ delL s l := fun n h => by simp [delL] at h
theorem insL_new {key : ByteArray} {n : Int} : ∀ {l : List (ByteArray × Int)}, (∀ m, (key, m) ∉ l) → (insL key n l).length = l.length + 1
  | [], _ => rfl
  | (a, b) :: l, h => by
    have h1 : key ≠ a := fun e => h b (by simp [e])
    have h2 : ∀ m, (key, m) ∉ l := fun m hm => h m (by simp [hm])
    unfold insL
    split
    · rfl
    · try rw [if_neg h1]
      simp [insL_new h2]
theorem delL_length {s : ByteArray} {n : Int} : ∀ {l : List (ByteArray × Int)}, Rise l → (s, n) ∈ l → (delL s l).length + 1 = l.length
  | [], _, h => by simp at h
  | (a, b) :: l, hr, h => by
    unfold Rise at hr
    rw [List.pairwise_cons] at hr
    by_cases e : a = s
    · subst e
      have : delL a ((a, b) :: l) = delL a l := by simp [delL]
      rw [this, delL_none (fun x hx e => blt_ne (hr.1 x hx) e.symm)]
      rfl
    · have h1 : (s, n) ∈ l := by
        rcases List.mem_cons.1 h with h | h
        · exact absurd (congrArg Prod.fst h).symm e
        · exact h
      have : delL s ((a, b) :: l) = (a, b) :: delL s l := by simp [delL, e]
      rw [this, List.length_cons, delL_length hr.2 h1]
      rfl
theorem lens_of (s : ByteArray) (n : Int) {l : List (ByteArray × Int)} (hr : Rise l) (h : (s, n) ∈ l) :
    ∃ M : Int, (l.length : Int) = M + 1 ∧ ((delL s l).length : Int) = M ∧ ((insL s (-1) (delL s l)).length : Int) = M + 1 := by
  have h1 := delL_length hr h
  have h2 := insL_new (n := (-1 : Int)) (del_no s l)
  exact ⟨((delL s l).length : Int), by omega, rfl, by omega⟩

/-- All keys so far are there. -/
def HasAll (keys : List ByteArray) (k : Nat) (l : List (ByteArray × Int)) : Prop := l.length ≤ k ∧ ∀ j, j < k → ∀ s, keys[j]? = some s → ∃ n, (s, n) ∈ l
theorem HasAll.step {keys : List ByteArray} {k : Nat} {l : List (ByteArray × Int)} {s : ByteArray} (h : HasAll keys k l) (hs : keys[k]? = some s) (n : Int) : HasAll keys (k + 1) (insL s n l) := by
  refine ⟨Nat.le_trans (insL_length s n l) (by have := h.1; omega), fun j hj t ht => ?_⟩
  by_cases e : t = s
  · exact ⟨n, by rw [e]; exact insL_self s n l⟩
  · have hjk : j < k := by
      rcases Nat.lt_or_ge j k with h | h
      · exact h
      · obtain rfl : j = k := by omega
        rw [hs] at ht
        exact absurd (Option.some.inj ht).symm e
    obtain ⟨m, hm⟩ := h.2 j hjk t ht
    exact ⟨m, insL_keep e hm⟩

set_option maxHeartbeats 8000000 in
set_option maxRecDepth 100000 in
theorem shares_few (v : Value) (keys : List ByteArray) (which : Int) (w : World) (hk : StrSl w v keys) (hn : keys.length = 0 ∨ 30 < keys.length) (hm : keys.length ≤ 9223372036854775807) :
    Calls Try.prog 5 #[v, .int .u8 which] w (KnownPost w) := by
  have key : ∀ (x : Option Addr) (n c : Nat), (n = 0 ∨ 30 < n) → n ≤ 9223372036854775807 → Calls Try.prog 5 #[.slice x n c, .int .u8 which] w (KnownPost w) := by
    intro x n c hn hm
    rcases hn with rfl | hn
    · go_enter Try.func5, Try.ntmps5
      go_wp2_with ((go_at_call 6; refine (known_any _).mono ?_; rintro e w1 ⟨rfl, hb⟩; replace hb := Lib.hid hb))
      go_ret
      exact ⟨rfl, hb.out⟩
    · have h0 : ((n : Int) == 0) = false := by have : ¬ (n : Int) = 0 := by omega
                                               simpa using this
      have h1 : decide ((30 : Int) < (n : Int)) = true := decide_eq_true (by omega)
      go_enter Try.func5, Try.ntmps5
      go_wp2_with ((go_at_call 6; refine (known_any _).mono ?_; rintro e w1 ⟨rfl, hb⟩; replace hb := Lib.hid hb))
      go_ret
      exact ⟨rfl, hb.out⟩
  rcases hk with ⟨x, c, rfl, rfl⟩ | ⟨b, off, cap, rfl, hc, _⟩
  · exact key x 0 c (.inl rfl) (by omega)
  · exact key _ _ _ hn hm

set_option maxHeartbeats 8000000 in
set_option maxRecDepth 100000 in
theorem shares_some (b off cap : Nat) (keys : List ByteArray) (which : Int) (w : World) (hc : keys.length ≤ cap) (hcell : Hid (∀ j s, keys[j]? = some s → w.cell? ⟨b, off + j, none⟩ = some (.string s)))
    (h1 : 1 ≤ keys.length) (h2 : keys.length ≤ 30) (hw0 : 0 ≤ which) (hw1 : which ≤ 255) :
    Calls Try.prog 5 #[.slice (some ⟨b, off, none⟩) keys.length cap, .int .u8 which] w (KnownPost w) := by
  obtain ⟨n, hn⟩ : ∃ n, n = keys.length := ⟨_, rfl⟩
  rw [← hn] at hc h1 h2 ⊢
  have HN := Lib.hid hn
  clear hn
  have t0 : ((n : Int) == 0) = false := by have : ¬ (n : Int) = 0 := by omega
                                           simpa using this
  have t1 : decide ((30 : Int) < (n : Int)) = false := decide_eq_false (by omega)
  go_enter Try.func5, Try.ntmps5
  go_wp2_with (first
    | (go_at_call 6; refine (known_any _).mono ?_; rintro e w1 ⟨rfl, hb⟩; have hb1 := Lib.hid hb; clear hb)
    | (go_at_call 7; refine (New_g _).mono ?_; rintro e w2 ⟨t0, rfl, hg, hb⟩; have hb2 := Lib.hid hb; clear hb))
  have hb3 := Lib.hid (below_step hb1.out hb2.out)
  clear hb1 hb2
  go_loopw [5, 6] (fun v5 v6 wr => ∃ (k tb : Nat) (l : List (ByteArray × Int)), v5 = .pointer (some ⟨tb, 0, none⟩) ∧ v6 = .int .i64 k ∧ k ≤ n ∧ TG wr tb l ∧ Hid (HasAll keys k l) ∧ Hid (Below w.heap.size w wr)) (fun _ v6 _ => n - (intOf v6).toNat)
  case atStart => exact ⟨0, t0, [], rfl, rfl, Nat.zero_le _, hg, ⟨Nat.le_refl _, fun j hj => by omega⟩, hb3⟩
  case round =>
    clear hb3 hg
    obtain ⟨k, tb, l, rfl, rfl, hk, hg, hall, hbw⟩ := hrel
    by_cases hlt : k < n
    · have hlt' : k < keys.length := by rw [← HN.out]; exact hlt
      obtain ⟨s, hs⟩ : ∃ s, keys[k]? = some s := ⟨_, List.getElem?_eq_getElem hlt'⟩
      have c0 := cell_keep hbw.out (hcell.out k s hs)
      have HS := Lib.hid hs
      clear hs hlt'
      have b1 : (0 : Int) ≤ (k : Int) := by omega
      have b2 : (k : Int) < (n : Int) := by omega
      by_cases hlong : 30 < s.size
      · have t2 : decide ((30 : Int) < (s.size : Int)) = true := decide_eq_true (by omega)
        go_wp2
        go_ret
        exact ⟨rfl, hbw.out⟩
      · have t2 : decide ((30 : Int) < (s.size : Int)) = false := decide_eq_false (by omega)
        have hl : l.length ≤ 1000 := by have := hall.out.1; omega
        go_wp2_with ((go_at_call 9; refine (With_g tb l s k _ hg hl).mono ?_; rintro e w4 ⟨tb', rfl, hg', hb⟩; have hb4 := Lib.hid hb; clear hb))
        go_roundw
        case rel => exact ⟨k + 1, tb', insL s k l, rfl, by go_num, by omega, hg', hall.out.step HS.out k, below_step hbw.out hb4.out⟩
        case measure => simp [intOf]; omega
    · obtain rfl : k = n := by omega
      clear hlt
      obtain ⟨j, hj⟩ : ∃ j : Nat, which % (k : Int) = (j : Int) := ⟨(which % (k : Int)).toNat, by have := Int.emod_nonneg which (show (k : Int) ≠ 0 by omega); omega⟩
      have b0 : (0 : Int) ≤ (j : Int) := by omega
      have b1 : (j : Int) < (k : Int) := by rw [← hj]; exact Int.emod_lt_of_pos _ (by omega)
      have hjk : j < keys.length := by have := HN.out; omega
      obtain ⟨s, hs⟩ : ∃ s, keys[j]? = some s := ⟨_, List.getElem?_eq_getElem hjk⟩
      have c0 := cell_keep hbw.out (hcell.out j s hs)
      obtain ⟨n0, hn0⟩ := hall.out.2 j (by omega) s hs
      have HS := Lib.hid hs
      clear hs hjk
      have hl : l.length ≤ 1000 := by have := hall.out.1; omega
      have hr := Lib.hid hg.rise
      obtain ⟨M, hM, hM1, hM2⟩ := lens_of s n0 hr.out hn0
      have hM0 : 0 ≤ M := by omega
      have hM30 : M ≤ 30 := by have := hall.out.1; omega
      have HM := Lib.hid hM
      have HM1 := Lib.hid hM1
      have HM2 := Lib.hid hM2
      clear hM hM1 hM2
      have hl2 : (delL s l).length ≤ 1000 := by have := HM1.out; omega
      have hno := Lib.hid (del_no s l)
      have hin2 : (s, (-1 : Int)) ∈ insL s (-1) (delL s l) := insL_self _ _ _
      have hdd : delL s (delL s l) = delL s l := delL_none (fun a ha e => hno.out a.2 (by have h : (s, a.2) = a := (by rw [← e]); rw [h]; exact ha))
      have HDD := Lib.hid hdd
      clear hdd
      go_wp2_with (first
        | (go_at_call_of 14 (Value.pointer (some ⟨tb, 0, none⟩)); refine (Get_in tb l s n0 _ hg hn0).mono ?_; rintro e w4 ⟨rfl, rfl⟩)
        | (go_at_call_of 8 (Value.pointer (some ⟨tb, 0, none⟩)); refine (Without_g tb l s _ hg hl).mono ?_; rintro e w5 ⟨ta, rfl, ha, hb⟩; have hb5 := Lib.hid hb; have hg := hg.below hb; clear hb)
        | (go_at_call 9; refine (With_g ta _ s (-1) _ ha hl2).mono ?_; rintro e w6 ⟨tc, rfl, hc6, hb⟩; have hb6 := Lib.hid hb; have hg := hg.below hb; have ha := ha.below hb; clear hb)
        | (go_at_call_of 14 (Value.pointer (some ⟨ta, 0, none⟩)); refine (Get_out ta _ s _ ha hno.out).mono ?_; rintro e w4 ⟨rfl, rfl⟩)
        | (go_at_call_of 14 (Value.pointer (some ⟨tc, 0, none⟩)); refine (Get_in tc _ s (-1) _ hc6 hin2).mono ?_; rintro e w4 ⟨rfl, rfl⟩)
        | (go_at_call_of 8 (Value.pointer (some ⟨ta, 0, none⟩)); refine (Without_g ta _ s _ ha hl2).mono ?_; rintro e w5 ⟨td, rfl, hd, hb⟩; rw [HDD.out] at hd; have hb7 := Lib.hid hb; have ha := ha.below hb; clear hb)
        | (go_at_call_of 17 (Value.pointer (some ⟨ta, 0, none⟩)); refine (Len_g ta _ _ ha).mono ?_; rintro e w4 ⟨rfl, rfl⟩; rw [HM1.out])
        | (go_at_call_of 17 (Value.pointer (some ⟨tb, 0, none⟩)); refine (Len_g tb _ _ hg).mono ?_; rintro e w4 ⟨rfl, rfl⟩; rw [HM.out])
        | (go_at_call_of 17 (Value.pointer (some ⟨tc, 0, none⟩)); refine (Len_g tc _ _ hc6).mono ?_; rintro e w4 ⟨rfl, rfl⟩; rw [HM2.out])
        | (go_at_call_of 17 (Value.pointer (some ⟨td, 0, none⟩)); refine (Len_g td _ _ hd).mono ?_; rintro e w4 ⟨rfl, rfl⟩; rw [HM1.out]))
      go_ret
      exact ⟨rfl, below_step (below_step (below_step hbw.out hb5.out) hb6.out) hb7.out⟩

end Go.Proofs.Ytdjcomlpedokeaa
