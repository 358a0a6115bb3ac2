import Derived.Test.YtfmgafpgajlddaaDoorP6
set_option linter.unusedVariables false
set_option linter.unusedSimpArgs false
namespace Go.Proofs.YtfmgafpgajlddaaDoor
open Go.RowKit

theorem list_inj {a b : ByteArray} (h : a.toList = b.toList) : a = b := by
  rw [ByteArray.toList_eq, ByteArray.toList_eq] at h
  exact ByteArray.ext (Array.toList_inj.mp h)
theorem beq_list_false {a b : ByteArray} (h : ¬ a = b) : (a.toList == b.toList) = false := by
  rw [beq_eq_false_iff_ne]; exact fun e => h (list_inj e)
theorem numB_mono : ∀ (n m : Nat), m ≤ n → (numB m).length ≤ (numB n).length := by
  intro n
  induction n using Nat.strongRecOn with
  | ind n ih =>
    intro m hm
    by_cases h : m < 128
    · rw [numB_small h]
      exact List.length_pos_iff.2 (numB_ne n)
    · rw [numB_great h, numB_great (n := n) (by omega)]
      have := ih (n / 128) (by omega) (m / 128) (by omega)
      simp; exact this
theorem numB_inj {n m : Nat} (hn : n < 72057594037927936) (hm : m < 72057594037927936) (h : strN (numB n) = strN (numB m)) : n = m := by
  have h1 := numS_back n ByteArray.empty hn
  have h2 := numS_back m ByteArray.empty hm
  rw [h, h2] at h1
  exact (Prod.mk.inj h1).1.symm
theorem numB_lengthS {n : Nat} (h : ¬ n < 128) : (numB n).length = (numB (n / 128)).length + 1 := by rw [numB_great h]; rfl
theorem numB_length1 {n : Nat} (h : n < 128) : (numB n).length = 1 := by rw [numB_small h]; rfl

set_option maxHeartbeats 8000000 in
set_option maxRecDepth 100000 in
theorem PackSizes_any (n m : Nat) (hn : n < 4294967296) (hm : m < 4294967296) (w : World) (hg : ErrVar w) :
    Calls Tryd.prog 5 #[.int .u32 (n : Int), .int .u32 (m : Int)] w fun e w' => e = .returned (.bool true) ∧ Below w.heap.size w w' := by
  have ck := Lib.hid (known_any w hg)
  have c1 := Num_any (n : Int) n (by unfold mxI; rw [if_neg (by omega)]) (by omega)
  have c2 := Num_any (m : Int) m (by unfold mxI; rw [if_neg (by omega)]) (by omega)
  obtain ⟨s1, hs1⟩ : ∃ s, s = strN (numB n) := ⟨_, rfl⟩
  obtain ⟨s2, hs2⟩ : ∃ s, s = strN (numB m) := ⟨_, rfl⟩
  obtain ⟨z, hz⟩ : ∃ z, z = (numB n).length := ⟨_, rfl⟩
  obtain ⟨y, hy⟩ : ∃ z, z = (numB m).length := ⟨_, rfl⟩
  have hz1 : s1.size = z := by rw [hs1, strN_size, hz]
  have hz2 : s2.size = y := by rw [hs2, strN_size, hy]
  have hz3 : z ≤ 8 := by rw [hz]; exact numB_len 7 n (by rw [pow8]; omega)
  have hz4 : y ≤ 8 := by rw [hy]; exact numB_len 7 m (by rw [pow8]; omega)
  have hmono : z < y → n < m := by
    intro h
    rcases Nat.lt_or_ge n m with h' | h'
    · exact h'
    · have := numB_mono n m h'; omega
  have hinj : n ≠ m → s1 ≠ s2 := fun h e => h (numB_inj (by omega) (by omega) (by rw [← hs1, ← hs2, e]))
  have heq : n = m → s1 = s2 := fun h => by rw [hs1, hs2, h]
  rw [← hs1] at c1
  rw [← hs2] at c2
  replace c1 := Lib.hid c1
  replace c2 := Lib.hid c2
  have HZ := Lib.hid hz
  clear hs1 hs2 hz hy
  have t1 : ((s1.size : Int) == (z : Int)) = true := by rw [hz1]; exact beq_self_eq_true _
  have t1' : (s1.size == z) = true := by rw [hz1]; exact beq_self_eq_true _
  obtain ⟨T2, ht2⟩ : ∃ b, b = decide ((s2.size : Int) ≤ (s1.size : Int)) := ⟨_, rfl⟩
  obtain ⟨T3, ht3⟩ : ∃ b, b = decide ((n : Int) < (m : Int)) := ⟨_, rfl⟩
  obtain ⟨T4, ht4⟩ : ∃ b, b = (s1.toList == s2.toList) := ⟨_, rfl⟩
  obtain ⟨T5, ht5⟩ : ∃ b, b = ((n : Int) == (m : Int)) := ⟨_, rfl⟩
  have hT4 : T4 = T5 := by
    rw [ht4, ht5]
    by_cases h : n = m
    · rw [heq h, h, beq_self_eq_true, beq_self_eq_true]
    · rw [beq_list_false (hinj h)]
      exact (beq_eq_false_iff_ne.2 (by omega)).symm
  have hT2 : T2 = false → T3 = true := by
    intro h
    rw [h] at ht2
    have := of_decide_eq_false ht2.symm
    rw [ht3]
    have := hmono (by omega)
    exact decide_eq_true (by omega)
  replace ht2 := ht2.symm
  replace ht3 := ht3.symm
  replace ht4 := ht4.symm
  replace ht5 := ht5.symm
  have ht2' : decide (s2.size ≤ s1.size) = T2 := by rw [← ht2]; exact decide_eq_decide.2 (by omega)
  have ht3' : decide (n < m) = T3 := by rw [← ht3]; exact decide_eq_decide.2 (by omega)
  have ht5' : (n == m) = T5 := by rw [← ht5, Bool.eq_iff_iff, beq_iff_eq, beq_iff_eq]; omega
  have hz1' := Lib.hid hz1
  have HT2 := Lib.hid hT2
  clear hmono hinj heq hz1 hz2 hz4 hT2
  subst hT4
  have HG := Lib.hid hg
  have HB := Lib.hid (Below.refl w.heap.size w)
  clear hg
  go_enter Tryd.func5, Tryd.ntmps5
  go_wp2_with (first
    | (go_at_call 11; with_reducible refine ck.out.mono ?_; rintro e w1 ⟨rfl, hb⟩; replace HB := Lib.hid (below_step HB.out hb); clear hb)
    | (go_at_call 12; with_reducible refine (c1.out _).mono ?_; rintro e w1 ⟨rfl, hb⟩; replace HB := Lib.hid (below_step HB.out hb); clear hb)
    | (go_at_call 12; with_reducible refine (c2.out _).mono ?_; rintro e w1 ⟨rfl, hb⟩; replace HB := Lib.hid (below_step HB.out hb); clear hb))
  go_loop [7, 8] (fun v7 v8 => ∃ (c k : Nat), v7 = .int .i64 c ∧ v8 = .int .i64 k ∧ k ≤ n ∧ c ≤ z ∧ Hid (c + (numB k).length = z + 1)) (fun _ v8 => (intOf v8).toNat)
  case atStart => exact ⟨1, n, rfl, rfl, Nat.le_refl _, by rw [HZ.out]; exact List.length_pos_iff.2 (numB_ne n), by rw [HZ.out, Nat.add_comm]; exact rfl⟩
  case round =>
    obtain ⟨c, k, rfl, rfl, hk, hc, hck⟩ := hrel
    by_cases hlt : k < 128
    · have q1 : decide ((128 : Int) ≤ (k : Int)) = false := decide_eq_false (by omega)
      have q1' : decide (128 ≤ k) = false := decide_eq_false (by omega)
      have hcz : c = z := by have := hck.out; rw [numB_length1 hlt] at this; omega
      subst hcz
      clear hlt
      cases T2
      · have hT3 := HT2.out rfl
        subst hT3
        cases T4 <;> go_wp2 <;> go_ret <;> exact ⟨rfl, HB.out⟩
      · cases T3 <;> cases T4 <;> go_wp2 <;> go_ret <;> exact ⟨rfl, HB.out⟩
    · have q1 : decide ((128 : Int) ≤ (k : Int)) = true := decide_eq_true (by omega)
      have q1' : decide (128 ≤ k) = true := decide_eq_true (by omega)
      obtain ⟨q, hq⟩ : ∃ q : Nat, (k : Int) / 128 = (q : Int) := ⟨k / 128, by omega⟩
      have hq' : q = k / 128 := by omega
      have hck' := hck.out
      rw [numB_lengthS hlt, ← hq'] at hck'
      have hpos : 0 < (numB q).length := List.length_pos_iff.2 (numB_ne q)
      have hqk : q < k := by omega
      have hcc : c + 1 ≤ z := by omega
      have HC := Lib.hid (show c + 1 + (numB q).length = z + 1 by omega)
      clear hck' hpos hq' hlt
      go_wp2
      go_round
      case rel => exact ⟨c + 1, q, by go_num, rfl, by omega, by omega, HC.out⟩
      case measure => simp [intOf]; omega
theorem PackSizes_walk (n m : Int) (w0 : (Lit.int .u32 n).wf = true) (w1 : (Lit.int .u32 m).wf = true) (w : World) (hg : ErrVar w) :
    Calls Tryd.prog 5 #[.int .u32 n, .int .u32 m] w fun e w' => e = .returned (.bool true) ∧ Below w.heap.size w w' := by
  have b0 : 0 ≤ n ∧ n ≤ 4294967295 := by simpa [Lit.wf, IntKind.min, IntKind.max, IntKind.signed, IntKind.bits] using w0
  have b1 : 0 ≤ m ∧ m ≤ 4294967295 := by simpa [Lit.wf, IntKind.min, IntKind.max, IntKind.signed, IntKind.bits] using w1
  obtain ⟨n', rfl⟩ : ∃ k : Nat, n = (k : Int) := ⟨n.toNat, by omega⟩
  obtain ⟨m', rfl⟩ : ∃ k : Nat, m = (k : Int) := ⟨m.toNat, by omega⟩
  exact PackSizes_any n' m' (by omega) (by omega) w hg
end Go.Proofs.YtfmgafpgajlddaaDoor
