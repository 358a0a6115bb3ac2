import Derived.Test.YtjincmagbbpooaaGreatDoorJN
set_option linter.unusedVariables false
set_option linter.unusedSimpArgs false
namespace Go.Proofs.YtjincmagbbpooaaGreatDoor
open Go.RowKit

/-! ### plain law: what a disk shows -/
def DS.v (D : DS) (i : Nat) : ByteArray := lastW D.loose i (D.sure.getD i ⟨#[]⟩)
theorem readS_v {D : DS} {i : Nat} (h : D.may (i : Int) = 0) : D.readS (i : Int) = D.v i := by
  unfold DS.readS DS.v
  rw [if_neg (by rw [h]; decide)]
  rfl
theorem may_live {D : DS} (h : D.dead = false) {i : Nat} (hi : i < D.sure.length) : D.may (i : Int) = 0 := DS.may_zero.2 ⟨h, by omega, by omega⟩
theorem v_put (D : DS) (i j : Nat) (b : ByteArray) : (D.put i b).v j = if j = i then fillB b else D.v j := by
  unfold DS.v DS.put
  simp only
  rw [lastW_snoc]
  by_cases h : i = j
  · rw [if_pos h, if_pos h.symm]
  · rw [if_neg h, if_neg (fun e => h e.symm)]
theorem write_live {D : DS} (h : D.dead = false) (hl : D.left ≠ 0) {i : Nat} (hi : i < D.sure.length) {b : ByteArray} (hb : b.size ≤ 64) : D.writeC (i : Int) b = 0 ∧ D.write (i : Int) b = D.put i b := by
  have h0 : D.writeC (i : Int) b = 0 := DS.writeC_zero.2 ⟨may_live h hi, hb, hl⟩
  refine ⟨h0, ?_⟩
  unfold DS.write
  rw [if_pos h0]
  rfl
theorem getD_set (l : List ByteArray) (i j : Nat) (x d : ByteArray) (hi : i < l.length) : (l.set i x).getD j d = if i = j then x else l.getD j d := by
  rw [List.getD_eq_getElem?_getD, List.getD_eq_getElem?_getD, List.getElem?_set]
  by_cases h : i = j
  · subst h
    rw [if_pos rfl, if_pos rfl, if_pos hi]
    rfl
  · rw [if_neg h, if_neg h]
theorem keep_all {l : List (Nat × ByteArray)} {s : List ByteArray} (hl : ∀ x ∈ l, x.1 < s.length) (j : Nat) :
    ∀ n, n ≤ l.length → (keepN (fun _ => true) (-1) l s n).getD j ⟨#[]⟩ = lastW (l.take n) j (s.getD j ⟨#[]⟩)
  | 0, _ => rfl
  | n + 1, hn => by
    have ih := keep_all hl j n (by omega)
    obtain ⟨x, hx⟩ : ∃ x, l[n]? = some x := ⟨_, List.getElem?_eq_getElem (by omega)⟩
    rw [keepN_succ hx, List.take_add_one, hx]
    show _ = lastW (l.take n ++ [x]) j _
    rw [lastW_snoc, ← ih]
    unfold keepStep
    rw [if_pos rfl, if_neg (by omega), getD_set _ _ _ _ _ (by rw [keepN_len]; exact hl x (List.mem_of_getElem? hx))]
theorem flush_live {D : DS} (h : D.dead = false) : D.flush = D.keeps (fun _ => true) (-1) := by unfold DS.flush; rw [if_neg (by rw [h]; decide)]
theorem v_flush {D : DS} (ok : D.ok) (h : D.dead = false) (j : Nat) : D.flush.v j = D.v j ∧ D.flush.loose = [] ∧ D.flush.dead = false ∧ D.flush.left = D.left := by
  rw [flush_live h]
  refine ⟨?_, rfl, h, rfl⟩
  unfold DS.v DS.keeps
  simp only
  rw [keep_all (fun x hx => (ok.lies x hx).1) j _ (Nat.le_refl _), List.take_length]
  rfl
theorem flushC_live {D : DS} (h : D.dead = false) : D.flushC = 0 := by unfold DS.flushC; rw [if_neg (by rw [h]; decide)]
theorem v_crash {D : DS} (h : D.loose = []) (keep : Nat → Bool) (torn : Int) (j : Nat) : (D.crash keep torn).v j = D.v j ∧ (D.crash keep torn).loose = [] ∧ (D.crash keep torn).dead = false ∧ (D.crash keep torn).left = -1 ∧ (D.crash keep torn).sure = D.sure := by
  have hs : (D.crash keep torn).sure = D.sure := by
    unfold DS.crash DS.keeps
    simp only
    rw [h]
    rfl
  refine ⟨?_, rfl, rfl, rfl, hs⟩
  unfold DS.v
  rw [hs, h]
  rfl

/-! ### superblocks -/
theorem zeroB_zeros (n : Nat) : zerosB (zeroB n) = true := by
  unfold zerosB
  show (List.replicate n (0 : UInt8)).all (· == 0) = true
  rw [List.all_replicate]
  simp
theorem super_text (turn which : Nat) (ht : turn ≤ 4000) (hw : which ≤ 1) : (strN (numB turn) ++ strN (numB which)).size ≤ 16 := by
  have h1 := num_size turn (by omega)
  have h2 := num_size which (by omega)
  rw [ByteArray.size_append]
  omega
theorem super_read (turn which : Nat) (ht1 : 1 ≤ turn) (ht : turn ≤ 4000) (hw : which ≤ 1) : readB (fillB (superB turn which)) = (turn, which) := by
  obtain ⟨z, hz⟩ : ∃ z, z = zeroB (64 - (superB turn which).size) := ⟨_, rfl⟩
  have hzz : zerosB z = true := by rw [hz]; exact zeroB_zeros _
  have hf : fillB (superB turn which) = superB turn which ++ z := by rw [hz]; rfl
  rw [hf]
  clear hf hz
  have htx := super_text turn which ht hw
  obtain ⟨r, hr⟩ : ∃ r, superB turn which ++ z = textS (strN (numB turn) ++ strN (numB which)) ++ r := by
    refine ⟨sumB (textS (strN (numB turn) ++ strN (numB which))) ++ z, ?_⟩
    unfold superB wrapS
    rw [append_assocB]
  have h1 : textR (superB turn which ++ z) 64 = (strN (numB turn) ++ strN (numB which), r, 0) := by
    rw [hr]
    exact textR_back _ r 64 (by omega) (by omega)
  have h2 : numS (strN (numB turn) ++ strN (numB which)) = (turn, (numB turn).length, 0) := numS_back turn _ (by omega)
  have h3 : openR (superB turn which ++ z) (turn : Int) = (strN (numB which), z, 0) := openR_same turn (strN (numB which)) z (by omega) (by have := num_size which (by omega); omega)
  have h4 : numS (strN (numB which)) = (which, (numB which).length, 0) := by
    have := numS_back which ByteArray.empty (by omega)
    rw [append_empty] at this
    exact this
  have h5 : dropB (strN (numB which)) (numB which).length = ⟨#[]⟩ := by
    have := dropB_append (strN (numB which)) ByteArray.empty
    rw [append_empty, strN_size] at this
    exact this
  unfold readB
  rw [h1]
  simp only
  rw [h2]
  simp only
  rw [if_neg (by simp), h3]
  simp only
  rw [h4]
  simp only
  rw [h5, hzz, if_neg (by simp; omega)]
theorem zero_read : readB (zeroB 64) = (0, 0) := by decide +kernel

/-! ### records behind one another -/
theorem openR_zeros (n : Nat) (k : Int) : (openR (zeroB n) k).2.2 ≠ 0 := by
  match n with
  | 0 => exact (by
      have h := openR_junk (zeroB 0) k (by decide)
      omega)
  | n + 1 =>
    have hz : zeroB (n + 1) = textS ⟨#[]⟩ ++ zeroB n := by
      rw [show textS ⟨#[]⟩ = ⟨#[0]⟩ by decide +kernel]
      apply bys_inj
      rw [bys_append]
      show List.map UInt8.toNat (List.replicate (n + 1) 0) = [0] ++ List.map UInt8.toNat (List.replicate n 0)
      rw [List.replicate_succ]
      rfl
    have h1 : textR (zeroB (n + 1)) 2020 = (⟨#[]⟩, zeroB n, 0) := by rw [hz]; exact textR_back ⟨#[]⟩ (zeroB n) 2020 (by decide) (by decide)
    unfold openR
    rw [h1]
    simp only
    rw [if_neg (by decide)]
    by_cases h4 : (zeroB n).size < 4
    · rw [if_pos h4]; exact (by decide : (11 : Int) ≠ 0)
    rw [if_neg h4, if_pos]
    · exact (by decide : (12 : Int) ≠ 0)
    · rw [zeroB_size, zeroB_size]
      have ht : takeB (zeroB (n + 1)) (n + 1 - n) = ⟨#[0]⟩ := by
        rw [show n + 1 - n = 1 by omega]
        apply bys_inj
        rw [bys_takeB]
        show List.take 1 (List.map UInt8.toNat (List.replicate (n + 1) 0)) = [0]
        rw [List.replicate_succ]
        rfl
      have h0 : takeB (zeroB n) 4 = ⟨#[0, 0, 0, 0]⟩ := by
        rw [zeroB_size] at h4
        obtain ⟨m, rfl⟩ : ∃ m, n = m + 4 := ⟨n - 4, by omega⟩
        apply bys_inj
        rw [bys_takeB]
        show List.take 4 (List.map UInt8.toNat (List.replicate (m + 4) 0)) = [0, 0, 0, 0]
        simp [List.replicate_succ]
      rw [ht, h0]
      decide +kernel
theorem recs_back (turn : Nat) (ht : turn ≤ 4000) (z : ByteArray) (hz : ∀ k : Int, (openR z k).2.2 ≠ 0) : ∀ (rs : List ByteArray) (k f : Nat), k + rs.length ≤ 100000 → rs.length < f → (∀ r ∈ rs, r.size ≤ 1000) →
    recsF turn f k (framesB turn k rs ++ z) = (rs, z)
  | [], k, f + 1, _, _, _ => by
    have he : framesB turn k [] ++ z = z := empty_append z
    rw [he]
    unfold recsF
    rw [if_pos (hz _)]
  | r :: rs, k, f + 1, hk, hf, hs => by
    have h1 : framesB turn k (r :: rs) ++ z = wrapS (turn * 1000000 + k) r ++ (framesB turn (k + 1) rs ++ z) := append_assocB _ _ _
    rw [h1]
    unfold recsF
    simp only [List.length_cons] at hk hf
    rw [openR_same (turn * 1000000 + k) r _ (by omega) (hs r (List.mem_cons_self ..)), if_neg (fun h => h rfl)]
    simp only
    rw [recs_back turn ht z hz rs (k + 1) f (by omega) (by omega) (fun x hx => hs x (List.mem_cons_of_mem _ hx))]
end Go.Proofs.YtjincmagbbpooaaGreatDoor
