import Derived.Test.YtjincmagbbpooaaGreatDoorE2
import Derived.KernelRfl
import Derived.Deep.QuietTactic
import Derived.BigQuiet
import Derived.Deep.RegionHeld3
import Derived.Deep.LoopGhost
import Derived.Deep.AppendLies
import Derived.Laws.BytesArg
import Derived.WalkLawsBesides
set_option linter.unusedVariables false
set_option linter.unusedSimpArgs false
namespace Go.Proofs.YtjincmagbbpooaaGreatDoor
open Go.RowKit

/-- The greater of two, the less. -/
def mxI (a b : Int) : Int := if a < b then b else a
def mnI (a b : Int) : Int := if b < a then b else a
theorem max2_int (k k' : IntKind) (x y : Int) : Builtin.max2 (.int k x) (.int k' y) = pure (.int k (mxI x y)) := by
  simp only [Builtin.max2, gt_iff_lt, mxI]
theorem max_two (ats : Array TypeId) (ty : TypeId) (a b : Value) : Builtin.max_ ats ty #[a, b] = (Builtin.max2 a b >>= fun s => pure s) := by simp only [Builtin.max_, List.foldlM_cons, List.foldlM_nil]
theorem min2_int (k k' : IntKind) (x y : Int) : Builtin.min2 (.int k x) (.int k' y) = pure (.int k (mnI x y)) := by simp only [Builtin.min2, mnI]
theorem min_two (ats : Array TypeId) (ty : TypeId) (a b : Value) : Builtin.min_ ats ty #[a, b] = (Builtin.min2 a b >>= fun s => pure s) := by simp only [Builtin.min_, List.foldlM_cons, List.foldlM_nil]

theorem quiet_eq {P : Program} {f : FuncId} {args : Array Value} {w : World} {n : Nat} {v : Value}
    (h : Calls P f args (w.drewN n) fun e w' => e = .returned v ∧ w.drewN n = w') : Calls P f args (w.drewN n) fun e w'' => e = .returned v ∧ ∃ m, w'' = w.drewN m :=
  h.mono fun _ _ ⟨he, hm⟩ => ⟨he, n, hm.symm⟩
theorem blk_lt {w : World} {b : Nat} {o : Obj} (h : w.heap[b]? = some o) : b < w.heap.size := by
  rcases Nat.lt_or_ge b w.heap.size with h' | h'
  · exact h'
  · rw [Array.getElem?_eq_none h'] at h; cases h
theorem cellAt {w : World} {b : Nat} {c : Array Value} {t : TypeId} (h : w.heap[b]? = some (.cells c t (0, 0))) (i : Nat) : w.cell? ⟨b, i, none⟩ = c[i]? := by
  simp [World.cell?, h]

theorem new_cell (w : World) (c : Array Value) (t : TypeId) (i : Nat) : (w.alloc (.cells c t)).cell? ⟨w.heap.size, i, none⟩ = c[i]? := cellAt (heap_alloc_new w _) i
theorem new_frozen (w : World) (c : Array Value) (t : TypeId) (i : Nat) : (w.alloc (.cells c t)).frozen? ⟨w.heap.size, i, none⟩ = false := by unfold World.frozen?; simp only [heap_alloc_new]; simp

/-! ### What an append leaves as it was -/
def NB (base : Nat) (v : Value) : Prop := ∀ k, k < base → some k ≠ v.ownBlock
theorem own_nb {w : World} {base : Nat} {e : TypeId} {s : Nat} {v : Value} {n : Nat} {xs : List Value} (h : w.ownsRow base e s v n xs) : NB base v := fun k hk e => by have := (h.lt k e.symm).1; omega
theorem grown_below {w w' : World} {base : Nat} {v : Value} (hb : base ≤ w.heap.size) (hn : NB base v) (hg : w.grownBy w' v.ownBlock) : Below base w w' :=
  ⟨hg.os, hg.tape, hg.output, hg.size, fun k hk => hg.block k (by omega) (hn k hk)⟩

theorem Tryz.info5 : (Tryz.prog.info? 5).map (fun i => (i.zero, i.size, i.bytes)) = some (some (.int .u8 0), 1, 1) := by kernel_rfl
def u8s (l : List Nat) : List Value := l.map fun (x : Nat) => Value.int .u8 (x : Int)
theorem conv_own {w : World} {base n : Nat} {v : Value} {l : List Nat} (h : w.ownsRow base 5 1 v n (u8s l)) :
    (convert 79 9 v).run Tryz.prog w = .ok (.string (strOfNums (l.map fun (x : Nat) => (x : Int)))) w := by
  have hl : l.length = n := by have := h.1; simp [u8s] at this; exact this
  rcases h.2 with ⟨rfl, rfl⟩ | ⟨g, cap, cur, rfl, _⟩
  · obtain rfl : l = [] := List.eq_nil_of_length_eq_zero hl
    exact run_convert_bytes_nil w 79 5 Tryz.underlying79 Tryz.underlying5 0 0 9 Tryz.underlying9
  · refine run_convert_bytes_arg w 79 5 Tryz.underlying79 Tryz.underlying5 g 0 n cap (l.map fun (x : Nat) => (x : Int)) (by simpa using hl) (fun i hi => ?_) 9 Tryz.underlying9
    have hc := h.cells (g := g) rfl i (.int .u8 ((l.getD i 0 : Nat) : Int)) (by simp [u8s, List.getElem?_eq_getElem (show i < l.length by omega), List.getD_eq_getElem?_getD])
    have ha : (⟨g, 0, none⟩ : Addr).add i = ⟨g, 0 + i, none⟩ := by unfold Addr.add; split <;> simp_all
    rw [ha] at hc
    rw [hc]
    simp [List.getD_eq_getElem?_getD, List.getElem?_eq_getElem (show i < l.length by omega)]

/-! ### pack.Num -/
/-- A number's bytes. -/
def numB (n : Nat) : List Nat := if n < 128 then [n] else (n % 128 + 128) :: numB (n / 128)
termination_by n
decreasing_by omega
/-- Bytes as a text. -/
def strN (l : List Nat) : ByteArray := strOfNums (l.map fun (x : Nat) => (x : Int))
theorem numB_small {n : Nat} (h : n < 128) : numB n = [n] := by rw [numB, if_pos h]
theorem numB_great {n : Nat} (h : ¬ n < 128) : numB n = (n % 128 + 128) :: numB (n / 128) := by conv => lhs; rw [numB, if_neg h]
theorem u8s_append (l m : List Nat) : u8s (l ++ m) = u8s l ++ u8s m := by simp [u8s]

/-- So many sevens of bits are left. -/
def Left7 (k m : Nat) : Prop := k ≤ 9 ∧ m < 2 ^ (63 - 7 * k)
theorem Left7.start {n : Nat} (hn : n ≤ 9223372036854775807) : Left7 0 n := ⟨by omega, by show n < 9223372036854775808; omega⟩
theorem Left7.step {k m : Nat} (h : Left7 k m) (hm : ¬ m < 128) : Left7 (k + 1) (m / 128) := by
  obtain ⟨h1, h2⟩ := h
  have h3 : 7 < 63 - 7 * k := by
    rcases Nat.lt_or_ge 7 (63 - 7 * k) with h | h
    · exact h
    · have : 2 ^ (63 - 7 * k) ≤ 2 ^ 7 := Nat.pow_le_pow_right (by decide) h
      have e : (2 : Nat) ^ 7 = 128 := rfl
      omega
  obtain ⟨a, ha⟩ : ∃ a, 63 - 7 * k = a + 7 := ⟨63 - 7 * k - 7, by omega⟩
  rw [ha, Nat.pow_add] at h2
  refine ⟨by omega, ?_⟩
  have e : 63 - 7 * (k + 1) = a := by omega
  rw [e]
  have e7 : (2 : Nat) ^ 7 = 128 := rfl
  rw [e7] at h2
  omega

attribute [local go_sem] max2_int max_two
set_option maxHeartbeats 4000000 in
set_option maxRecDepth 100000 in
theorem Num_any (z : Int) (n : Nat) (hz : mxI z 0 = (n : Int)) (hn : n ≤ 9223372036854775807) (w : World) :
    Calls Tryz.prog 81 #[.int .i64 z] w fun e w' => e = .returned (.string (strN (numB n))) ∧ Below w.heap.size w w' := by
  obtain ⟨i0, hi, hz0, hz1, hz2⟩ := info_parts Tryz.info5
  have HI := Lib.hid hi
  have HZ0 := Lib.hid hz0
  have HZ1 := Lib.hid hz1
  have HZ2 := Lib.hid hz2
  clear hi hz0 hz1 hz2
  go_enter Tryz.func81, Tryz.ntmps81
  go_wp2
  clear hz
  go_loopw [0, 3] (fun v0 v3 wr => ∃ (m : Nat) (l : List Nat), v0 = .int .i64 m ∧ m ≤ n ∧ Hid (wr.ownsRow w.heap.size 5 1 v3 l.length (u8s l)) ∧ Hid (l ++ numB m = numB n) ∧ Hid (Left7 l.length m) ∧ Hid (Below w.heap.size w wr)) (fun v0 _ _ => (intOf v0).toNat)
  case atStart => exact ⟨n, [], rfl, Nat.le_refl _, World.ownsRow_nil _ _ _ _, rfl, Left7.start hn, Below.refl _ _⟩
  case round =>
    obtain ⟨m, l, rfl, hm, ho, hl, hll, hb⟩ := hrel
    have hlm : l.length ≤ 9 := hll.out.1
    by_cases hlt : m < 128
    · have hmod : (m : Int) % 256 = (m : Int) := by omega
      go_wp2_with (at_builtin; refine wpList_append_lies _ rfl _ _ _ rfl w.heap.size 5 i0 (.int .u8 0) 1 1 Tryz.underlying79 HI.out HZ0.out HZ1.out HZ2.out rfl (by decide) u3 l.length (u8s l) rfl (ho.out.alloc _) _ 1 1 [.int .u8 (m : Int)] rfl rfl (World.news_of_block (heap_alloc_new _ _)) (by simp [Value.oneCell']) (by decide) (by unfold maxLen; omega) (by omega) (by have := hb.out.size; simp; omega) _ rfl ?_; intro g cap w2 ho2 hg2 ha2 hlt2; have hcv := conv_own (l := l ++ [m]) (by rw [u8s_append]; exact ho2); have HB2 := Lib.hid (hb.out.trans (((Below.refl _ _).alloc (by have := hb.out.size; omega) _).trans (grown_below (by have := hb.out.size; simp; omega) (own_nb ho.out) hg2))); clear ho2 hg2 ha2 hlt2)
      go_ret
      refine ⟨?_, HB2.out⟩
      have e := hl.out
      rw [numB_small hlt] at e
      rw [← e]
      unfold strN
      rw [List.map_append]
      rfl
    · have hge : 128 ≤ m := by omega
      have q1 : (128 : Int) ≤ (m : Int) := by omega
      obtain ⟨r, hr⟩ : ∃ r : Nat, (m : Int) % 128 + 128 = (r : Int) := ⟨m % 128 + 128, by omega⟩
      have hr' : r = m % 128 + 128 := by omega
      have hmod : (r : Int) % 256 = (r : Int) := by omega
      have HR := Lib.hid hr'
      obtain ⟨q, hq⟩ : ∃ q : Nat, (m : Int) / 128 = (q : Int) := ⟨m / 128, by omega⟩
      have hq' : q = m / 128 := by omega
      have hqm : q < m := by omega
      have HQ := Lib.hid hq'
      have HL := Lib.hid hlt
      clear hr' hq' hlt
      go_wp2_with (at_builtin; refine wpList_append_lies _ rfl _ _ _ rfl w.heap.size 5 i0 (.int .u8 0) 1 1 Tryz.underlying79 HI.out HZ0.out HZ1.out HZ2.out rfl (by decide) u3 l.length (u8s l) rfl (ho.out.alloc _) _ 1 1 [.int .u8 (r : Int)] rfl rfl (World.news_of_block (heap_alloc_new _ _)) (by simp [Value.oneCell']) (by decide) (by unfold maxLen; omega) (by omega) (by have := hb.out.size; simp; omega) _ rfl ?_; intro g cap w2 ho2 hg2 ha2 hlt2; have HO2 : Hid (w2.ownsRow w.heap.size 5 1 (.slice (some ⟨g, 0, none⟩) (l.length + 1) cap) (l ++ [r]).length (u8s (l ++ [r]))) := (by rw [u8s_append, List.length_append]; exact ho2); have HB2 := Lib.hid (hb.out.trans (((Below.refl _ _).alloc (by have := hb.out.size; omega) _).trans (grown_below (by have := hb.out.size; simp; omega) (own_nb ho.out) hg2))); clear ho2 hg2 ha2 hlt2)
      go_roundw
      case rel =>
        refine ⟨q, l ++ [r], rfl, by omega, HO2.out, ?_, ?_, HB2.out⟩
        · have e := hl.out
          rw [numB_great HL.out, ← HQ.out, ← HR.out] at e
          show l ++ [r] ++ numB q = numB n
          rw [← e]
          simp
        · have := hll.out.step HL.out
          rw [← HQ.out] at this
          rw [List.length_append]
          exact this
      case measure => simp [intOf]; omega
end Go.Proofs.YtjincmagbbpooaaGreatDoor
