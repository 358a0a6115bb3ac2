import Derived.Test.YtlmkcdebchahpaaDoorLX6
import Derived.BigRegion
set_option linter.unusedVariables false
set_option linter.unusedSimpArgs false
namespace Go.Proofs.YtlmkcdebchahpaaDoor
open Go.RowKit

theorem Texts.at_ {w : World} {v : Value} {l : List ByteArray} (h : Texts w v l) (hne : 0 < l.length) : ∃ b off c, v = .slice (some ⟨b, off, none⟩) l.length c ∧ l.length ≤ c ∧ ∀ j s, l[j]? = some s → w.cell? ⟨b, off + j, none⟩ = some (.string s) := by
  obtain ⟨A, c, rfl, hc, h1, h2, h3⟩ := h
  obtain ⟨ad, rfl, hcell⟩ := h3 hne
  have hget : ∀ j s, l[j]? = some s → w.cell? (ad.add j) = some (.string s) := fun j s hj => by
    obtain ⟨cs, _, hk, hc2⟩ := hcell j s hj
    have hk' : cs = [Value.string s] := hk
    subst hk'
    have := hc2 0 (.string s) rfl
    rw [Nat.add_zero, show j * Go.Proofs.YtlmkcdebchahpaaDoorW.PrintWords.Kd.string.sz = j from Nat.mul_one j] at this
    exact this
  obtain ⟨b, off, spot⟩ := ad
  have hspot : spot = none := by
    have := hget 0 l[0] (List.getElem?_eq_getElem hne)
    simpa [Addr.add] using World.cell?_spot this
  subst hspot
  refine ⟨b, off, c, rfl, hc, fun j s hj => ?_⟩
  have := hget j s hj
  have hadd : (⟨b, off, none⟩ : Addr).add j = ⟨b, off + j, none⟩ := by unfold Addr.add; split <;> simp_all
  rwa [hadd] at this
theorem conv1x (x : Nat) (W : World) (b : Nat) (h : W.cell? ⟨b, 0, none⟩ = some (.int .u8 (x : Int))) : (convert 22 9 (.slice (some ⟨b, 0, none⟩) 1 1)).run Tryd.prog W = .ok (.string (strN [x])) W := by
  unfold strN
  refine run_convert_bytes_arg W 22 5 Tryd.underlying22 Tryd.underlying5 b 0 1 1 ([x].map fun (x : Nat) => (x : Int)) rfl (fun i hi => ?_) 9 Tryd.underlying9
  obtain rfl : i = 0 := by omega
  rw [Nat.zero_add, h]
  simp
theorem wordsR_of {s : ByteArray} {l : List Nat} {ws : List (List Nat)} {out : List ByteArray} (hb : bys s = l) (hl : l.length ≤ 2000) (h : wordsG (l.length + 1) l = some ws) (ho : ws.map strN = out) : wordsR s = (out, 0) := by
  have hs : s.size = l.length := by rw [← bys_length, hb]
  unfold wordsR
  rw [if_neg (by omega), hs, hb, h, ← ho]
  simp [finR]
theorem strN_46 : strN [46] = ⟨#[46]⟩ := by decide +kernel
theorem strN_32 : strN [32] = ⟨#[32]⟩ := by decide +kernel
theorem b46 : bys ⟨#[46]⟩ = [46] := rfl
theorem b32 : bys ⟨#[32]⟩ = [32] := rfl
theorem bys1 {x : Nat} (h : x < 256) : bys (strN [x]) = [x] := bys_strN (fun z hz => by rw [List.mem_singleton.1 hz]; exact h)
section
variable {a b x y : Nat} (ha : a < 26) (hb : b < 10) (hx : x = 97 + a) (hy : y = 48 + b)
include ha hb hx hy
theorem pt1 : wordsR (strN [x] ++ ⟨#[46]⟩ ++ strN [y]) = ([strN [x] ++ ⟨#[46]⟩ ++ strN [y]], 0) := by
  refine wordsR_of (l := [x, 46, y]) (by rw [bys_append, bys_append, bys1 (by omega), bys1 (by omega), b46]; rfl) (by simp) (by rw [hx, hy]; exact (points_at a ha b hb).1) ?_
  rw [← strN_46, ← strN_append, ← strN_append, hx, hy]; rfl
theorem pt2 : wordsR (strN [x] ++ ⟨#[32]⟩ ++ ⟨#[46]⟩ ++ strN [y]) = ([strN [x], ⟨#[46]⟩, strN [y]], 0) := by
  refine wordsR_of (l := [x, 32, 46, y]) (by rw [bys_append, bys_append, bys_append, bys1 (by omega), bys1 (by omega), b46, b32]; rfl) (by simp) (by rw [hx, hy]; exact (points_at a ha b hb).2.1) ?_
  rw [← strN_46, hx, hy]; rfl
theorem pt3 : wordsR (strN [x] ++ ⟨#[46]⟩ ++ ⟨#[32]⟩ ++ strN [y]) = ([strN [x], ⟨#[46]⟩, strN [y]], 0) := by
  refine wordsR_of (l := [x, 46, 32, y]) (by rw [bys_append, bys_append, bys_append, bys1 (by omega), bys1 (by omega), b46, b32]; rfl) (by simp) (by rw [hx, hy]; exact (points_at a ha b hb).2.2.1) ?_
  rw [← strN_46, hx, hy]; rfl
theorem pt4 : wordsR (strN [x] ++ ⟨#[32]⟩ ++ ⟨#[46]⟩ ++ ⟨#[32]⟩ ++ strN [y]) = ([strN [x], ⟨#[46]⟩, strN [y]], 0) := by
  refine wordsR_of (l := [x, 32, 46, 32, y]) (by rw [bys_append, bys_append, bys_append, bys_append, bys1 (by omega), bys1 (by omega), b46, b32]; rfl) (by simp) (by rw [hx, hy]; exact (points_at a ha b hb).2.2.2) ?_
  rw [← strN_46, hx, hy]; rfl
end
theorem wrap_pt (a k m : Nat) (hk : k < 100) (hm0 : 0 < m) (hm : m < 100) : IntKind.u8.wrap ((k : Int) + (a : Int).tmod (m : Int)) = ((k + a % m : Nat) : Int) := by
  rw [Int.tmod_eq_emod_of_nonneg (by omega), IntKind.wrap_u8]
  have : a % m < m := Nat.mod_lt _ hm0
  have e : (a : Int) % (m : Int) = ((a % m : Nat) : Int) := by simp
  rw [e]
  omega
set_option maxHeartbeats 8000000 in
set_option maxRecDepth 100000 in
theorem LexPoints_any (a b : Nat) (left right : Bool) (w : World) :
    Calls Tryd.prog 4 #[.int .u8 (a : Int), .int .u8 (b : Int), .bool left, .bool right] w fun e w' => e = .returned (.bool true) ∧ Below w.heap.size w w' := by
  have ck := Lib.hid (known9_any w)
  obtain ⟨x, hx⟩ : ∃ x : Nat, x = 97 + a % 26 := ⟨_, rfl⟩
  obtain ⟨y, hy⟩ : ∃ y : Nat, y = 48 + b % 10 := ⟨_, rfl⟩
  have hx1 : IntKind.u8.wrap (97 + (a : Int).tmod 26) = (x : Int) := by rw [hx]; exact wrap_pt a 97 26 (by omega) (by omega) (by omega)
  have hy1 : IntKind.u8.wrap (48 + (b : Int).tmod 10) = (y : Int) := by rw [hy]; exact wrap_pt b 48 10 (by omega) (by omega) (by omega)
  have cvx := conv1x x
  have cvy := conv1x y
  have q1 := pt1 (Nat.mod_lt a (by omega)) (Nat.mod_lt b (by omega)) hx hy
  have q2 := pt2 (Nat.mod_lt a (by omega)) (Nat.mod_lt b (by omega)) hx hy
  have q3 := pt3 (Nat.mod_lt a (by omega)) (Nat.mod_lt b (by omega)) hx hy
  have q4 := pt4 (Nat.mod_lt a (by omega)) (Nat.mod_lt b (by omega)) hx hy
  have zx := strN_size [x]
  have zy := strN_size [y]
  generalize strN [x] = sx at *
  generalize strN [y] = sy at *
  have zx' : sx.size ≤ 1 := by rw [zx]; exact Nat.le_refl _
  have zy' : sy.size ≤ 1 := by rw [zy]; exact Nat.le_refl _
  clear zx zy hx hy
  have c1 := Lib.hid (Words_is _ _ 0 .nilIface q1 rfl)
  have c2 := Lib.hid (Words_is _ _ 0 .nilIface q2 rfl)
  have c3 := Lib.hid (Words_is _ _ 0 .nilIface q3 rfl)
  have c4 := Lib.hid (Words_is _ _ 0 .nilIface q4 rfl)
  clear q1 q2 q3 q4
  cases left <;> cases right
  all_goals
    go_enter Tryd.func4, Tryd.ntmps4
    go_wp2_with ((go_at_call 7; (with_reducible refine ck.out.mono ?_); rintro e w1 ⟨rfl, hb⟩; have HB := Lib.hid hb; clear hb))
    go_region
    all_goals
      go_wp2_with (first
        | (go_at_call 8; (with_reducible refine (c1.out _).mono ?_); rintro e w2 ⟨v1, rfl, ht, hb⟩; obtain ⟨tb, tq, tc, rfl, hc, hcell⟩ := ht.at_ (by simp); have h0 := hcell 0 _ rfl; simp only [Nat.add_zero] at h0; replace HB := Lib.hid ((below_alloc' (below_alloc' HB.out _) _).trans ((below_drewN _ 1).trans (hb.mono (by have := HB.out.size; simp; omega)))); clear hcell ht hb)
        | (go_at_call 8; (with_reducible refine (c2.out _).mono ?_); rintro e w2 ⟨v1, rfl, ht, hb⟩; obtain ⟨tb, tq, tc, rfl, hc, hcell⟩ := ht.at_ (by simp); have h0 := hcell 0 _ rfl; have h1 := hcell 1 _ rfl; have h2 := hcell 2 _ rfl; simp only [Nat.add_zero] at h0; replace HB := Lib.hid ((below_alloc' (below_alloc' HB.out _) _).trans ((below_drewN _ 1).trans (hb.mono (by have := HB.out.size; simp; omega)))); clear hcell ht hb)
        | (go_at_call 8; (with_reducible refine (c3.out _).mono ?_); rintro e w2 ⟨v1, rfl, ht, hb⟩; obtain ⟨tb, tq, tc, rfl, hc, hcell⟩ := ht.at_ (by simp); have h0 := hcell 0 _ rfl; have h1 := hcell 1 _ rfl; have h2 := hcell 2 _ rfl; simp only [Nat.add_zero] at h0; replace HB := Lib.hid ((below_alloc' (below_alloc' HB.out _) _).trans ((below_drewN _ 1).trans (hb.mono (by have := HB.out.size; simp; omega)))); clear hcell ht hb)
        | (go_at_call 8; (with_reducible refine (c4.out _).mono ?_); rintro e w2 ⟨v1, rfl, ht, hb⟩; obtain ⟨tb, tq, tc, rfl, hc, hcell⟩ := ht.at_ (by simp); have h0 := hcell 0 _ rfl; have h1 := hcell 1 _ rfl; have h2 := hcell 2 _ rfl; simp only [Nat.add_zero] at h0; replace HB := Lib.hid ((below_alloc' (below_alloc' HB.out _) _).trans ((below_drewN _ 1).trans (hb.mono (by have := HB.out.size; simp; omega)))); clear hcell ht hb))
      go_ret
      exact ⟨rfl, HB.out⟩
end Go.Proofs.YtlmkcdebchahpaaDoor
