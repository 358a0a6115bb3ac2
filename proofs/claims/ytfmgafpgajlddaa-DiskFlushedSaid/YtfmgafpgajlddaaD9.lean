import Derived.Test.YtfmgafpgajlddaaD7
import Derived.Test.YtfmgafpgajlddaaD8
set_option linter.unusedVariables false
set_option linter.unusedSimpArgs false
namespace Go.Proofs.Ytfmgafpgajlddaa
open Go.RowKit

/-! ### texts that came in -/
def StrsAt (w : World) (a : Option Addr) (l : List ByteArray) : Prop := ∀ j x, l[j]? = some x → ∃ b off, a = some ⟨b, off, none⟩ ∧ w.cell? ⟨b, off + j, none⟩ = some (.string x)
theorem StrsAt.below {w w' : World} {a : Option Addr} {l : List ByteArray} (h : StrsAt w a l) (hb : Below w.heap.size w w') : StrsAt w' a l := by
  intro j x hj
  obtain ⟨b, off, e, hc⟩ := h j x hj
  exact ⟨b, off, e, cell_keep hb hc⟩
theorem BoolsAt.below {w w' : World} {a : Option Addr} {l : List Bool} (h : BoolsAt w a l) (hb : Below w.heap.size w w') : BoolsAt w' a l := by
  intro j x hj
  obtain ⟨b, off, e, hc⟩ := h j x hj
  exact ⟨b, off, e, cell_keep hb hc⟩

/-! ### the plain law -/
def fullS (l : List ByteArray) (k : Nat) : ByteArray := fillB (l.getD k ⟨#[]⟩)
def dA (a : List ByteArray) (i : Nat) : DS := { newD 8 with loose := (List.range i).map (fun j => (j, fillB (a.getD j ⟨#[]⟩))), done := i }
def dS (a : List ByteArray) (i : Nat) : DS := { newD 8 with sure := (List.range 8).map (fullS a), done := i }
def dB (a b : List ByteArray) (i : Nat) : DS := { dS a (a.length + i) with loose := (List.range i).map (fun j => (7 - j, fillB (b.getD j ⟨#[]⟩))) }
def nextS (a b : List ByteArray) (keep : List Bool) (torn : Int) (i k : Nat) : ByteArray :=
  if 7 - k < i ∧ keepOf keep (7 - k) = true then (if ((7 - k : Nat) : Int) = torn then (fullS b (7 - k)).extract 0 32 ++ (fullS a k).extract 32 (fullS a k).size else fullS b (7 - k)) else fullS a k
theorem dA_step (a : List ByteArray) (i : Nat) : dA a (i + 1) = (dA a i).put i (a.getD i ⟨#[]⟩) := by
  unfold dA DS.put
  simp only [List.range_succ, List.map_append, List.map_cons, List.map_nil]
  rfl
theorem dB_step (a b : List ByteArray) (i : Nat) : dB a b (i + 1) = (dB a b i).put (7 - i) (b.getD i ⟨#[]⟩) := by
  unfold dB dS DS.put
  simp only [List.range_succ, List.map_append, List.map_cons, List.map_nil]
  rfl
theorem code_of {D : DS} (h1 : D.sure.length = 8) (h2 : D.dead = false) (h3 : D.left = -1) (i : Nat) (hi : i < 8) (b : ByteArray) (hb : b.size ≤ 64) : D.writeC (i : Int) b = 0 ∧ D.write (i : Int) b = D.put i b := by
  have : D.writeC (i : Int) b = 0 := DS.writeC_zero.2 ⟨DS.may_zero.2 ⟨h2, by omega, by omega⟩, hb, by rw [h3]; decide⟩
  exact ⟨this, by unfold DS.write; rw [if_pos this]; rfl⟩
theorem range_get {α : Type} (f : Nat → α) (n i : Nat) (h : i < n) : ((List.range n).map f)[i]? = some (f i) := by
  rw [List.getElem?_map, List.getElem?_range h]; rfl
theorem set_range {α : Type} (f g : Nat → α) (n k : Nat) (x : α) (hk : g k = x) (hg : ∀ j, j < n → j ≠ k → g j = f j) : ((List.range n).map f).set k x = (List.range n).map g := by
  apply List.ext_getElem?
  intro i
  rw [List.getElem?_set]
  by_cases hi : i < n
  · rw [range_get g n i hi]
    by_cases e : k = i
    · subst e; rw [if_pos rfl, List.length_map, List.length_range, if_pos hi, hk]
    · rw [if_neg e, range_get f n i hi, hg i hi (fun h => e h.symm)]
  · rw [List.getElem?_eq_none (l := (List.range n).map g) (by simp; omega)]
    split
    · rw [List.length_map, List.length_range, if_neg (by omega)]
    · exact List.getElem?_eq_none (by simp; omega)
theorem dA_keep (a : List ByteArray) (n : Nat) (hn : n ≤ 8) : ∀ i, i ≤ n → keepN (fun _ => true) (-1) ((List.range n).map (fun j => (j, fillB (a.getD j ⟨#[]⟩)))) (List.replicate 8 (zeroB 64)) i = (List.range 8).map (fun k => if k < i then fullS a k else zeroB 64)
  | 0, _ => by
    show List.replicate 8 (zeroB 64) = _
    apply List.ext_getElem?
    intro k
    rw [List.getElem?_replicate]
    by_cases hk : k < 8
    · rw [if_pos hk, range_get _ 8 k hk]; simp
    · rw [if_neg hk]; exact (List.getElem?_eq_none (by simp; omega)).symm
  | i + 1, hi => by
    rw [keepN_succ (range_get _ n i (by omega)), dA_keep a n hn i (by omega)]
    unfold keepStep
    rw [if_pos rfl, if_neg (by omega)]
    exact set_range _ _ 8 i _ (by rw [if_pos (by omega)]; rfl) (fun j hj hne => by
      by_cases h : j < i
      · rw [if_pos (by omega), if_pos h]
      · rw [if_neg (by omega), if_neg h])
theorem dA_flush (a : List ByteArray) (hn : a.length ≤ 8) : (dA a a.length).flush = dB a [] 0 := by
  have hd : (dA a a.length).dead = false := rfl
  unfold DS.flush
  rw [hd, if_neg (by decide)]
  unfold DS.keeps dA
  simp only [newD, List.length_map, List.length_range]
  rw [dA_keep a a.length hn a.length (Nat.le_refl _)]
  unfold dB dS newD
  congr 1
  refine List.map_congr_left fun k hk => ?_
  split
  · rfl
  · rename_i h
    unfold fullS
    rw [List.getD_eq_getElem?_getD, List.getElem?_eq_none (by omega)]
    rfl
theorem dB_keep (a b : List ByteArray) (keep : List Bool) (torn : Int) (n : Nat) (hn : n ≤ 8) : ∀ i, i ≤ n → keepN (keepOf keep) torn ((List.range n).map (fun j => (7 - j, fillB (b.getD j ⟨#[]⟩)))) ((List.range 8).map (fullS a)) i = (List.range 8).map (nextS a b keep torn i)
  | 0, _ => by
    show (List.range 8).map (fullS a) = _
    refine List.map_congr_left fun k hk => ?_
    unfold nextS
    rw [if_neg (fun h => by have := h.1; omega)]
  | i + 1, hi => by
    rw [keepN_succ (range_get _ n i (by omega)), dB_keep a b keep torn n hn i (by omega)]
    have hold : ∀ j, j < 8 → j ≠ 7 - i → nextS a b keep torn (i + 1) j = nextS a b keep torn i j := fun j hj hne => by
      unfold nextS
      by_cases h : 7 - j < i
      · simp only [h, show 7 - j < i + 1 by omega, true_and]
      · rw [if_neg (fun h' => by have := h'.1; omega), if_neg (fun h' => h h'.1)]
    have h7 : 7 - (7 - i) = i := by omega
    have hcur : nextS a b keep torn i (7 - i) = fullS a (7 - i) := by
      unfold nextS
      rw [if_neg (fun h => by have := h.1; omega)]
    have hgd : (((List.range 8).map (nextS a b keep torn i)).getD (7 - i) ⟨#[]⟩) = fullS a (7 - i) := by
      rw [List.getD_eq_getElem?_getD, range_get _ 8 (7 - i) (by omega), Option.getD_some, hcur]
    unfold keepStep
    by_cases hk : keepOf keep i = true
    · rw [if_pos hk]
      by_cases ht : (i : Int) = torn
      · rw [if_pos ht]
        simp only [hgd]
        refine set_range _ _ 8 (7 - i) _ ?_ (fun j hj hne => hold j hj hne)
        unfold nextS
        rw [h7, if_pos ⟨by omega, hk⟩, if_pos ht]
        rfl
      · rw [if_neg ht]
        refine set_range _ _ 8 (7 - i) _ ?_ (fun j hj hne => hold j hj hne)
        unfold nextS
        rw [h7, if_pos ⟨by omega, hk⟩, if_neg ht]
        rfl
    · rw [if_neg hk]
      refine List.map_congr_left fun j hj => ?_
      have hj8 := List.mem_range.1 hj
      by_cases hne : j = 7 - i
      · subst hne
        rw [hcur]
        unfold nextS
        rw [h7, if_neg (fun h => hk h.2)]
      · exact (hold j hj8 hne).symm
theorem crash_read (a b : List ByteArray) (keep : List Bool) (torn : Int) (hb : b.length ≤ 8) (k : Nat) (hk : k < 8) : ((dB a b b.length).crash (keepOf keep) torn).may (k : Int) = 0 ∧ ((dB a b b.length).crash (keepOf keep) torn).readS (k : Int) = nextS a b keep torn b.length k := by
  have hs : ((dB a b b.length).crash (keepOf keep) torn).sure = (List.range 8).map (nextS a b keep torn b.length) := by
    show keepN _ _ _ _ _ = _
    have hl : (dB a b b.length).loose.length = b.length := by simp [dB]
    rw [hl]
    exact dB_keep a b keep torn b.length hb b.length (Nat.le_refl _)
  have hm : ((dB a b b.length).crash (keepOf keep) torn).may (k : Int) = 0 := DS.may_zero.2 ⟨rfl, by omega, by rw [hs]; simp; omega⟩
  refine ⟨hm, ?_⟩
  unfold DS.readS
  rw [if_neg (by rw [hm]; decide), hs]
  show lastW [] _ _ = _
  show ((List.range 8).map _).getD (k : Int).toNat _ = _
  rw [Int.toNat_natCast, List.getD_eq_getElem?_getD, range_get _ 8 k hk, Option.getD_some]
theorem fullS_size (l : List ByteArray) (k : Nat) (h : ∀ s ∈ l, s.size ≤ 64) : (fullS l k).size = 64 := by
  unfold fullS
  refine fillB_size _ ?_
  rw [List.getD_eq_getElem?_getD]
  cases hx : l[k]? with
  | none => show (0 : Nat) ≤ 64; omega
  | some s => exact h s (List.mem_of_getElem? hx)

/-! ### the walks -/
set_option maxHeartbeats 4000000 in
set_option maxRecDepth 100000 in
theorem full_any (a : Option Addr) (c : Nat) (l : List ByteArray) (k : Nat) (hl : l.length ≤ 8) (h64 : ∀ s ∈ l, s.size ≤ 64) (hk : k < 8) (w : World) (hs : StrsAt w a l) :
    Calls Try.prog 16 #[.slice a l.length c, .int .i64 (k : Int)] w fun e w' => e = .returned (.string (fullS l k)) ∧ Below w.heap.size w w' := by
  have key : ∀ s : ByteArray, l.getD k ⟨#[]⟩ = s → s.size ≤ 64 → ∃ n : Nat, n ≤ 64 ∧ n = 64 - s.size ∧ fullS l k = s ++ zeroB n := fun s hs hz => ⟨64 - s.size, by omega, rfl, by unfold fullS; rw [hs]; rfl⟩
  obtain ⟨N, hN⟩ : ∃ N, N = l.length := ⟨_, rfl⟩
  rw [← hN] at hl ⊢
  by_cases h : k < N
  · obtain ⟨s, hx⟩ : ∃ s, l[k]? = some s := ⟨_, List.getElem?_eq_getElem (by omega)⟩
    obtain ⟨b, off, rfl, hc⟩ := hs k s hx
    have hz := h64 s (List.mem_of_getElem? hx)
    obtain ⟨n, hn, hn1, hf⟩ := key s (by rw [List.getD_eq_getElem?_getD, hx]; rfl) hz
    rw [hf]
    have b0 : (0 : Int) ≤ (k : Int) := by omega
    have b1 : (k : Int) < (N : Int) := by omega
    have hn2 : (64 : Int) - (s.size : Int) = (n : Int) := by omega
    have hmk := make_zeros w n (by omega)
    have hcv := conv_zeros (w.alloc (.cells (zerosC n) 5)) w.heap.size n (Blk.new w _ _)
    have hz2 : s.size + (zeroB n).size ≤ 9223372036854775807 := by rw [zeroB_size]; omega
    have t1 : decide ((k : Int) < (N : Int)) = true := decide_eq_true b1
    have t1' : decide (k < N) = true := decide_eq_true h
    clear key h64 hs hN hx hf hn1 h
    go_enter Try.func16, Try.ntmps16
    go_wp2
    go_ret
    exact ⟨rfl, (Below.refl _ _).alloc (Nat.le_refl _) _⟩
  · obtain ⟨n, hn, hn1, hf⟩ := key ⟨#[]⟩ (by rw [List.getD_eq_getElem?_getD, List.getElem?_eq_none (by omega)]; rfl) (by show (0 : Nat) ≤ 64; omega)
    obtain rfl : n = 64 := hn1
    rw [hf]
    have hmk := make_zeros w 64 (by omega)
    have hcv := conv_zeros (w.alloc (.cells (zerosC 64) 5)) w.heap.size 64 (Blk.new w _ _)
    have t1 : decide ((k : Int) < (N : Int)) = false := decide_eq_false (by omega)
    have t1' : decide (k < N) = false := decide_eq_false h
    have hmk' : (Instr.makeSlice 28 (.int .i64 64) (.int .i64 64)).run Try.prog w = .ok (.slice (some ⟨w.heap.size, 0, none⟩) 64 64) (w.alloc (.cells (zerosC 64) 5)) := hmk
    have he : (⟨#[]⟩ : ByteArray) ++ zeroB 64 = zeroB 64 := by apply ByteArray.ext; simp [zeroB]
    rw [he]
    clear key h64 hs hN hf h hmk
    go_enter Try.func16, Try.ntmps16
    go_wp2
    go_ret
    refine ⟨?_, (Below.refl _ _).alloc (Nat.le_refl _) _⟩
    first | rfl | (rw [he]; done) | (simp [he]; done)
end Go.Proofs.Ytfmgafpgajlddaa
