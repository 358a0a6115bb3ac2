import Derived.Test.YtdjcomlpedokeaaT12
set_option linter.unusedVariables false
namespace Go.Proofs.Ytdjcomlpedokeaa
open Go.RowKit Go.Deep

def kx : ByteArray := ⟨#[120]⟩
def ka : ByteArray := ⟨#[97]⟩
theorem blt_xx : blt kx kx = false := by simp [blt, kx, ByteArray.toList_eq, Op.bytesLess]
theorem blt_ax : blt ka kx = true := by simp [blt, ka, kx, ByteArray.toList_eq, Op.bytesLess]
theorem ne_ax : ¬ ka = kx := by decide
theorem ne_xa : ¬ kx = ka := by decide
theorem blt_xa : blt kx ka = false := by simp [blt, ka, kx, ByteArray.toList_eq, Op.bytesLess]

def sA : ST := .node ka 3 .nil .nil 1 1
def s1 : ST := .node kx 1 .nil .nil 1 1
def s2 : ST := .node kx 2 .nil .nil 1 1
def s3 : ST := .node kx 2 sA .nil 2 2
theorem with1 : withS kx 1 .nil = some s1 := rfl
theorem with2 : withS kx 2 s1 = some s2 := by
  unfold s1 withS
  rw [if_neg (by rw [blt_xx]; decide), if_pos rfl]
  rfl
theorem with3 : withS ka 3 s2 = some s3 := by
  unfold s2 withS
  rw [if_pos blt_ax]
  rfl
theorem wout4 : withoutS s3 kx = some sA := by
  unfold s3 withoutS
  rw [if_neg (by rw [blt_xx]; decide), if_pos rfl]
  rfl
theorem find1 : findS kx s1 = .node kx 1 .nil .nil 1 1 := by simp [s1, findS]
theorem find3 : findS kx s3 = .node kx 2 sA .nil 2 2 := by simp [s3, findS]
theorem find3' : findS kx s3 ≠ .nil := by rw [find3]; exact fun h => by cases h
theorem find4 : findS kx sA = .nil := by
  unfold sA findS
  rw [if_neg ne_ax, if_neg (by rw [blt_xa]; decide)]
  rfl

theorem lit2 (w : World) (a b : ByteArray) : StrSl (w.alloc (.cells #[.string a, .string b] 9)) (.slice (some ⟨w.heap.size, 0, none⟩) 2 2) [a, b] := by
  refine .inr ⟨w.heap.size, 0, 2, rfl, Nat.le_refl _, fun j s hj => ?_⟩
  rw [Nat.zero_add, cellAt (blk_alloc_new w _)]
  rcases j with _ | _ | j
  · cases hj; rfl
  · cases hj; rfl
  · simp at hj

@[simp] theorem TrIn_drewN {w : World} {n tb : Nat} {T : TT} : TrIn (w.drewN n) tb T = TrIn w tb T := by unfold TrIn; rw [TT.In_drewN]; rfl
@[simp] theorem TrIn_alloc {w : World} {tb : Nat} {T : TT} {o : Obj} (h : TrIn w tb T) : TrIn (w.alloc o) tb T := h.below ((Below.refl _ w).alloc (Nat.le_refl _) o)

def KnownPost (w : World) (e : Ending) (w' : World) : Prop := e = .returned (.bool true) ∧ Below w.heap.size w w'

theorem below_same {w a : World} (h : Below w.heap.size w a) {k : Nat} (hk : k ≤ w.heap.size) : Below k w a := h.mono hk

set_option maxHeartbeats 8000000 in
set_option maxRecDepth 100000 in
theorem known_any (w : World) : Calls Try.prog 6 #[] w (KnownPost w) := by
  go_enter Try.func6, Try.ntmps6
  go_wp2_with (first
    | (go_at_call 7; refine (New_any _).mono ?_; rintro e w1 ⟨t0, T0, rfl, h0, hs, hb⟩; have hs0 := Lib.hid hs; have hb1 := Lib.hid hb; clear hs hb)
    | (go_at_call_of 9 (Value.pointer (some ⟨t0, 0, none⟩)); refine (With_any t0 T0 kx 1 s1 _ h0 (by rw [hs0.out]; exact with1)).mono ?_; rintro e w2 ⟨t1, T1, rfl, h1, hs, hb⟩; have hs1 := Lib.hid hs; have hb2 := Lib.hid hb; have h0 := h0.below hb; clear hs hb)
    | (go_at_call_of 9 (Value.pointer (some ⟨t1, 0, none⟩)); refine (With_any t1 T1 kx 2 s2 _ h1 (by rw [hs1.out]; exact with2)).mono ?_; rintro e w3 ⟨t2, T2, rfl, h2, hs, hb⟩; have hs2 := Lib.hid hs; have hb3 := Lib.hid hb; have h0 := h0.below hb; have h1 := h1.below hb; clear hs hb)
    | (go_at_call_of 9 (Value.pointer (some ⟨t2, 0, none⟩)); refine (With_any t2 T2 ka 3 s3 _ h2 (by rw [hs2.out]; exact with3)).mono ?_; rintro e w4 ⟨t3, T3, rfl, h3, hs, hb⟩; have hs3 := Lib.hid hs; have hb4 := Lib.hid hb; have h0 := h0.below hb; have h1 := h1.below hb; clear h2 hs hb)
    | (go_at_call 8; refine (Without_some t3 T3 kx sA _ h3 (by rw [hs3.out]; exact find3') (by rw [hs3.out]; exact wout4)).mono ?_; rintro e w5 ⟨t4, T4, rfl, h4, hs, hb⟩; have hs4 := Lib.hid hs; have hb5 := Lib.hid hb; have h0 := h0.below hb; have h1 := h1.below hb; have h3 := h3.below hb; clear hs hb)
    | (go_at_call_of 14 (Value.pointer (some ⟨t1, 0, none⟩)); refine (Get_some t1 T1 kx _ h1 _ _ _ _ _ _ (by rw [hs1.out]; exact find1)).mono ?_; rintro e w6 ⟨rfl, rfl⟩)
    | (go_at_call_of 14 (Value.pointer (some ⟨t3, 0, none⟩)); refine (Get_some t3 T3 kx _ h3 _ _ _ _ _ _ (by rw [hs3.out]; exact find3)).mono ?_; rintro e w6 ⟨rfl, rfl⟩)
    | (go_at_call_of 14 (Value.pointer (some ⟨t4, 0, none⟩)); refine (Get_none t4 T4 kx _ h4 (by rw [hs4.out]; exact find4)).mono ?_; rintro e w6 ⟨rfl, rfl⟩)
    | (go_at_call_of 17 (Value.pointer (some ⟨t0, 0, none⟩)); refine (Len_any t0 T0 _ h0).mono ?_; rintro e w6 ⟨rfl, rfl⟩; rw [hs0.out]; simp only [ST.count])
    | (go_at_call_of 17 (Value.pointer (some ⟨t3, 0, none⟩)); refine (Len_any t3 T3 _ h3).mono ?_; rintro e w6 ⟨rfl, rfl⟩; rw [hs3.out]; simp only [s3, ST.count])
    | (go_at_call_of 17 (Value.pointer (some ⟨t4, 0, none⟩)); refine (Len_any t4 T4 _ h4).mono ?_; rintro e w6 ⟨rfl, rfl⟩; rw [hs4.out]; simp only [sA, ST.count])
    | (go_at_call 16; refine (Keys_any t3 T3 _ h3 (by rw [hs3.out]; decide)).mono ?_; rintro e w7 ⟨v, rfl, ho, hb⟩; rw [hs3.out] at ho; have HS := StrSl.of_own (l := [ka, kx]) ho; have hb7 := Lib.hid hb; have h3 := h3.below hb; replace HS := Lib.hid HS; clear ho hb h0 h1 h4)
    | (go_at_call 18; refine (same_any _ _ [ka, kx] [ka, kx] _ (HS.out.keep fun p u hp => cell_keep ((Below.refl _ _).alloc (Nat.le_refl _) _) hp) (lit2 _ ka kx) (by decide)).mono ?_; rintro e w8 ⟨rfl, nd, rfl⟩; rw [sameB_true rfl])
    | (go_at_call 13; refine (Deep_any t3 T3 _ ?_).mono ?_; (simp [*]); rintro e w6 ⟨rfl, rfl⟩; rw [hs3.out]; simp only [s3, ST.deep]))
  go_ret
  exact ⟨rfl, ((below_step (below_step (below_step (below_step (below_step (below_step hb1.out hb2.out) hb3.out) hb4.out) hb5.out) hb7.out) ((Below.refl _ _).alloc (Nat.le_refl _) _)).trans (below_drewN _ _))⟩
end Go.Proofs.Ytdjcomlpedokeaa
