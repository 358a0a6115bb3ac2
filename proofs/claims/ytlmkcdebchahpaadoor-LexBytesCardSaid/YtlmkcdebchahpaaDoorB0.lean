import Derived.Test.YtlmkcdebchahpaaDoorE2
import Derived.KernelRfl
import Derived.Deep.QuietTactic
import Derived.BigQuiet
import Derived.Deep.RegionHeld3
import Derived.Deep.LoopGhost
import Derived.Deep.AppendLies
import Derived.Laws.BytesArg
import Derived.WalkLawsBesides
set_option linter.unusedVariables false
set_option linter.unusedSimpArgs false
namespace Go.Proofs.YtlmkcdebchahpaaDoor
open Go.RowKit

/-- The greater of two, the less. -/
def mxI (a b : Int) : Int := if a < b then b else a
def mnI (a b : Int) : Int := if b < a then b else a
theorem max2_int (k k' : IntKind) (x y : Int) : Builtin.max2 (.int k x) (.int k' y) = pure (.int k (mxI x y)) := by
  simp only [Builtin.max2, gt_iff_lt, mxI]
theorem max_two (ats : Array TypeId) (ty : TypeId) (a b : Value) : Builtin.max_ ats ty #[a, b] = (Builtin.max2 a b >>= fun s => pure s) := by simp only [Builtin.max_, List.foldlM_cons, List.foldlM_nil]
theorem min2_int (k k' : IntKind) (x y : Int) : Builtin.min2 (.int k x) (.int k' y) = pure (.int k (mnI x y)) := by simp only [Builtin.min2, mnI]
theorem min_two (ats : Array TypeId) (ty : TypeId) (a b : Value) : Builtin.min_ ats ty #[a, b] = (Builtin.min2 a b >>= fun s => pure s) := by simp only [Builtin.min_, List.foldlM_cons, List.foldlM_nil]

theorem quiet_eq {P : Program} {f : FuncId} {args : Array Value} {w : World} {n : Nat} {v : Value}
    (h : Calls P f args (w.drewN n) fun e w' => e = .returned v ∧ w.drewN n = w') : Calls P f args (w.drewN n) fun e w'' => e = .returned v ∧ ∃ m, w'' = w.drewN m :=
  h.mono fun _ _ ⟨he, hm⟩ => ⟨he, n, hm.symm⟩
theorem blk_lt {w : World} {b : Nat} {o : Obj} (h : w.heap[b]? = some o) : b < w.heap.size := by
  rcases Nat.lt_or_ge b w.heap.size with h' | h'
  · exact h'
  · rw [Array.getElem?_eq_none h'] at h; cases h
theorem cellAt {w : World} {b : Nat} {c : Array Value} {t : TypeId} (h : w.heap[b]? = some (.cells c t (0, 0))) (i : Nat) : w.cell? ⟨b, i, none⟩ = c[i]? := by
  simp [World.cell?, h]

theorem new_cell (w : World) (c : Array Value) (t : TypeId) (i : Nat) : (w.alloc (.cells c t)).cell? ⟨w.heap.size, i, none⟩ = c[i]? := cellAt (heap_alloc_new w _) i
theorem new_frozen (w : World) (c : Array Value) (t : TypeId) (i : Nat) : (w.alloc (.cells c t)).frozen? ⟨w.heap.size, i, none⟩ = false := by unfold World.frozen?; simp only [heap_alloc_new]; simp

/-! ### What an append leaves as it was -/
def NB (base : Nat) (v : Value) : Prop := ∀ k, k < base → some k ≠ v.ownBlock
theorem own_nb {w : World} {base : Nat} {e : TypeId} {s : Nat} {v : Value} {n : Nat} {xs : List Value} (h : w.ownsRow base e s v n xs) : NB base v := fun k hk e => by have := (h.lt k e.symm).1; omega
theorem grown_below {w w' : World} {base : Nat} {v : Value} (hb : base ≤ w.heap.size) (hn : NB base v) (hg : w.grownBy w' v.ownBlock) : Below base w w' :=
  ⟨hg.os, hg.tape, hg.output, hg.size, fun k hk => hg.block k (by omega) (hn k hk)⟩

theorem Tryd.info5 : (Tryd.prog.info? 5).map (fun i => (i.zero, i.size, i.bytes)) = some (some (.int .u8 0), 1, 1) := by kernel_rfl
def u8s (l : List Nat) : List Value := l.map fun (x : Nat) => Value.int .u8 (x : Int)
theorem conv_own {w : World} {base n : Nat} {v : Value} {l : List Nat} (h : w.ownsRow base 5 1 v n (u8s l)) :
    (convert 22 9 v).run Tryd.prog w = .ok (.string (strOfNums (l.map fun (x : Nat) => (x : Int)))) w := by
  have hl : l.length = n := by have := h.1; simp [u8s] at this; exact this
  rcases h.2 with ⟨rfl, rfl⟩ | ⟨g, cap, cur, rfl, _⟩
  · obtain rfl : l = [] := List.eq_nil_of_length_eq_zero hl
    exact run_convert_bytes_nil w 22 5 Tryd.underlying22 Tryd.underlying5 0 0 9 Tryd.underlying9
  · refine run_convert_bytes_arg w 22 5 Tryd.underlying22 Tryd.underlying5 g 0 n cap (l.map fun (x : Nat) => (x : Int)) (by simpa using hl) (fun i hi => ?_) 9 Tryd.underlying9
    have hc := h.cells (g := g) rfl i (.int .u8 ((l.getD i 0 : Nat) : Int)) (by simp [u8s, List.getElem?_eq_getElem (show i < l.length by omega), List.getD_eq_getElem?_getD])
    have ha : (⟨g, 0, none⟩ : Addr).add i = ⟨g, 0 + i, none⟩ := by unfold Addr.add; split <;> simp_all
    rw [ha] at hc
    rw [hc]
    simp [List.getD_eq_getElem?_getD, List.getElem?_eq_getElem (show i < l.length by omega)]

/-- Bytes as a text. -/
def strN (l : List Nat) : ByteArray := strOfNums (l.map fun (x : Nat) => (x : Int))
theorem u8s_append (l m : List Nat) : u8s (l ++ m) = u8s l ++ u8s m := by simp [u8s]
theorem strN_size (l : List Nat) : (strN l).size = l.length := by unfold strN; rw [strOfNums_size, List.length_map]
/-- A byte of a text. -/
def bt (s : ByteArray) (i : Nat) : Nat := (s.data.toList.getD i 0).toNat
theorem bt_get (s : ByteArray) (i : Nat) (h : i < s.size) : s[i].toNat = bt s i := by
  show (s.data[i]).toNat = (s.data.toList.getD i 0).toNat
  have h' : i < s.data.toList.length := by simpa using h
  rw [List.getD_eq_getElem?_getD, List.getElem?_eq_getElem h']
  simp
theorem bt_lt (s : ByteArray) (i : Nat) : bt s i < 256 := (s.data.toList.getD i 0).toNat_lt
/-- What is behind so many bytes. -/
def dropB (s : ByteArray) (k : Nat) : ByteArray := s.extract k s.size
def takeB (s : ByteArray) (k : Nat) : ByteArray := s.extract 0 k
theorem errV_ne {c : Int} (h : c ≠ 0) : errV c = .iface 35 (.int .i64 c) := by unfold errV; rw [if_neg h]
theorem errV_zero : errV 0 = .nilIface := rfl
theorem extract_size (s : ByteArray) (a b : Nat) (h : b ≤ s.size) (hab : a ≤ b) : (s.extract a b).size = b - a := by
  rw [ByteArray.size_extract]; omega
theorem dropB_size (s : ByteArray) (k : Nat) : (dropB s k).size = s.size - k := by unfold dropB; rw [ByteArray.size_extract]; omega
/-- A text's bytes as numbers. -/
def bys (s : ByteArray) : List Nat := s.data.toList.map UInt8.toNat
theorem bys_length (s : ByteArray) : (bys s).length = s.size := by simp [bys]
theorem bys_append (a b : ByteArray) : bys (a ++ b) = bys a ++ bys b := by simp [bys, ByteArray.data_append]
theorem bys_extract (s : ByteArray) (a b : Nat) : bys (s.extract a b) = ((bys s).take b).drop a := by
  unfold bys
  rw [ByteArray.data_extract, Array.toList_extract, List.extract_eq_drop_take', List.map_drop, List.map_take]
theorem bys_inj {a b : ByteArray} (h : bys a = bys b) : a = b := by
  have h' : a.data.toList = b.data.toList := by
    have hinj : Function.Injective UInt8.toNat := fun x y e => UInt8.toNat.inj e
    exact List.map_inj_right (fun x y e => UInt8.toNat.inj e) |>.mp h
  exact ByteArray.ext (Array.toList_inj.mp h')
theorem bys_lt (s : ByteArray) : ∀ x ∈ bys s, x < 256 := by
  intro x hx
  obtain ⟨y, _, rfl⟩ := List.mem_map.1 hx
  exact y.toNat_lt
theorem bys_strN {l : List Nat} (h : ∀ x ∈ l, x < 256) : bys (strN l) = l := by
  unfold bys strN
  rw [strOfNums_data, List.map_map, List.map_map]
  conv => rhs; rw [← List.map_id l]
  refine List.map_congr_left fun x hx => ?_
  have := h x hx
  simp
  omega
theorem strN_bys (s : ByteArray) : strN (bys s) = s := bys_inj (bys_strN (bys_lt s))
theorem bt_bys (s : ByteArray) (i : Nat) (h : i < s.size) : (bys s)[i]? = some (bt s i) := by
  unfold bys bt
  have h' : i < s.data.toList.length := by simpa using h
  rw [List.getElem?_map, List.getElem?_eq_getElem h', List.getD_eq_getElem?_getD, List.getElem?_eq_getElem h']
  rfl
theorem bys_dropB (s : ByteArray) (k : Nat) : bys (dropB s k) = (bys s).drop k := by
  unfold dropB
  rw [bys_extract, List.take_of_length_le (by rw [bys_length]; exact Nat.le_refl _)]
theorem bys_takeB (s : ByteArray) (k : Nat) : bys (takeB s k) = (bys s).take k := by
  unfold takeB
  rw [bys_extract, List.drop_zero]
theorem append_assocB (a b c : ByteArray) : a ++ b ++ c = a ++ (b ++ c) := by
  apply bys_inj
  simp [bys_append]
theorem dropB_zero (s : ByteArray) : dropB s 0 = s := by apply bys_inj; rw [bys_dropB, List.drop_zero]
theorem takeB_size (s : ByteArray) (j : Nat) (h : j ≤ s.size) : (takeB s j).size = j := by unfold takeB; rw [ByteArray.size_extract]; omega
theorem beq_list (l : List UInt8) : (l == l) = true := beq_self_eq_true l
theorem list_inj {a b : ByteArray} (h : a.toList = b.toList) : a = b := by
  rw [ByteArray.toList_eq, ByteArray.toList_eq] at h
  exact ByteArray.ext (Array.toList_inj.mp h)
theorem beq_list_false {a b : ByteArray} (h : ¬ a = b) : (a.toList == b.toList) = false := by
  rw [beq_eq_false_iff_ne]; exact fun e => h (list_inj e)
/-- A slice's places: of any kind of thing. -/
def SlOf {α : Type} (mk : α → Value) (W : World) (a : Option Addr) (l : List α) : Prop := ∀ j x, l[j]? = some x → ∃ b off, a = some ⟨b, off, none⟩ ∧ W.cell? ⟨b, off + j, none⟩ = some (mk x)
theorem SlOf.below {α : Type} {mk : α → Value} {W W' : World} {a : Option Addr} {l : List α} (h : SlOf mk W a l) (hb : Below W.heap.size W W') : SlOf mk W' a l := by
  intro j x hj
  obtain ⟨b, off, e, hc⟩ := h j x hj
  exact ⟨b, off, e, cell_keep hb hc⟩
def mkS : ByteArray → Value := .string
def flatB : List ByteArray → ByteArray
  | [] => ByteArray.empty
  | x :: r => x ++ flatB r
theorem append_empty (a : ByteArray) : a ++ ByteArray.empty = a := by apply bys_inj; rw [bys_append]; show bys a ++ [] = _; simp
theorem empty_append (a : ByteArray) : ByteArray.empty ++ a = a := by apply bys_inj; rw [bys_append]; show [] ++ bys a = _; simp
theorem flatB_append (l r : List ByteArray) : flatB (l ++ r) = flatB l ++ flatB r := by
  induction l with
  | nil => exact (empty_append _).symm
  | cons x l ih => show x ++ flatB (l ++ r) = x ++ flatB l ++ flatB r; rw [ih, append_assocB]
theorem strN_append (a b : List Nat) : strN (a ++ b) = strN a ++ strN b := by
  apply ByteArray.ext
  rw [ByteArray.data_append]
  apply Array.toList_inj.1
  rw [Array.toList_append]
  unfold strN
  rw [strOfNums_data, strOfNums_data, strOfNums_data]
  simp
theorem conv1 (x : Nat) (w : World) : (convert 22 9 (.slice (some ⟨w.heap.size, 0, none⟩) 1 1)).run Tryd.prog
    (w.alloc (.cells #[.int .u8 (x : Int)] 5)) = .ok (.string (strN [x])) (w.alloc (.cells #[.int .u8 (x : Int)] 5)) := by
  unfold strN
  refine run_convert_bytes_arg _ 22 5 Tryd.underlying22 Tryd.underlying5 w.heap.size 0 1 1 ([x].map fun (x : Nat) => (x : Int)) rfl (fun i hi => ?_) 9 Tryd.underlying9
  obtain rfl : i = 0 := by omega
  rw [Nat.zero_add, new_cell]
  simp
theorem below_alloc' {w W : World} (h : Below w.heap.size w W) (o : Obj) : Below w.heap.size w (W.alloc o) := below_step h ((Below.refl _ _).alloc (Nat.le_refl _) _)
end Go.Proofs.YtlmkcdebchahpaaDoor
