import Derived.Test.YtdjcomlpedokeaaProg
import Derived.WalkKit
import Derived.Below
import Derived.Lib.Hide
import Derived.Deep.Draws
import Derived.KernelRfl
import Derived.Deep.QuietTactic
import Derived.BigQuiet
import Derived.Deep.RegionHeld3
import Derived.Deep.TreeCalls
namespace Go.Proofs.Ytdjcomlpedokeaa
open Go.RowKit Go.Deep

/-- The greater of two. -/
def mxI (a b : Int) : Int := if a < b then b else a
theorem mxI_le {a b c : Int} (h : a ≤ c) (h' : b ≤ c) : mxI a b ≤ c := by unfold mxI; split <;> omega
theorem le_mxI {a b c : Int} (h : c ≤ a) (h' : c ≤ b) : c ≤ mxI a b := by unfold mxI; split <;> omega
theorem max2_int (k k' : IntKind) (x y : Int) : Builtin.max2 (.int k x) (.int k' y) = pure (.int k (mxI x y)) := by
  simp only [Builtin.max2, gt_iff_lt, mxI]
theorem max_two (ats : Array TypeId) (ty : TypeId) (a b : Value) : Builtin.max_ ats ty #[a, b] = (Builtin.max2 a b >>= fun s => pure s) := by simp only [Builtin.max_, List.foldlM_cons, List.foldlM_nil]

theorem quiet_eq {P : Program} {f : FuncId} {args : Array Value} {w : World} {n : Nat} {v : Value}
    (h : Calls P f args (w.drewN n) fun e w' => e = .returned v ∧ w.drewN n = w') : Calls P f args (w.drewN n) fun e w'' => e = .returned v ∧ ∃ m, w'' = w.drewN m :=
  h.mono fun _ _ ⟨he, hm⟩ => ⟨he, n, hm.symm⟩

/-! ### Trees as numbers and lists alone -/
/-- A tree without addresses: key, number, parts, how deep, how many. -/
inductive ST where
  | nil
  | node (key : ByteArray) (n : Int) (l r : ST) (d c : Int)
def ST.deep : ST → Int
  | .nil => 0
  | .node _ _ _ _ d _ => d
def ST.count : ST → Int
  | .nil => 0
  | .node _ _ _ _ _ c => c

/-- No depth, no count reaches this. -/
def topI : Int := 1000000

/-- A node of two parts, where it isn't too great. -/
def mkS (key : ByteArray) (n : Int) (l r : ST) : Option ST :=
  if mxI l.deep r.deep + 1 ≤ topI ∧ l.count + r.count + 1 ≤ topI then some (.node key n l r (mxI l.deep r.deep + 1) (l.count + r.count + 1)) else none

/-- tree.made, as the code has it. -/
def madeF : Nat → ByteArray → Int → ST → ST → Option ST
  | 0, _, _, _, _ => none
  | k + 1, key, n, l, r =>
    if l.deep - r.deep = 2 then
      match l with
      | .nil => none
      | .node lk ln ll lr _ _ =>
        if ll.deep < lr.deep then
          match lr with
          | .nil => none
          | .node mk mn ml mr _ _ =>
            (madeF k lk ln ll ml).bind fun x => (madeF k mk mn x mr).bind fun y =>
              match y with
              | .nil => none
              | .node yk yn yl yr _ _ => (madeF k key n yr r).bind fun z => madeF k yk yn yl z
        else (madeF k key n lr r).bind fun z => madeF k lk ln ll z
    else if l.deep - r.deep = -2 then
      match r with
      | .nil => none
      | .node rk rn rl rr _ _ =>
        if rr.deep < rl.deep then
          match rl with
          | .nil => none
          | .node mk mn ml mr _ _ =>
            (madeF k rk rn mr rr).bind fun x => (madeF k mk mn ml x).bind fun y =>
              match y with
              | .nil => none
              | .node yk yn yl yr _ _ => (madeF k key n l yl).bind fun z => madeF k yk yn z yr
        else (madeF k key n l rl).bind fun z => madeF k rk rn z rr
    else mkS key n l r

/-! ### Trees in memory -/
/-- A node with its block. -/
inductive TT where
  | nil
  | node (b : Nat) (key : ByteArray) (n : Int) (l r : TT) (d c : Int)

def TT.adr : TT → Option Addr
  | .nil => none
  | .node b .. => some ⟨b, 0, none⟩

def TT.strip : TT → ST
  | .nil => .nil
  | .node _ key n l r d c => .node key n l.strip r.strip d c

def TT.deep : TT → Int
  | .nil => 0
  | .node _ _ _ _ _ d _ => d
def TT.count : TT → Int
  | .nil => 0
  | .node _ _ _ _ _ _ c => c
theorem TT.deep_node (b : Nat) (key : ByteArray) (n : Int) (l r : TT) (d c : Int) : (TT.node b key n l r d c).deep = d := rfl
theorem TT.adr_node (b : Nat) (key : ByteArray) (n : Int) (l r : TT) (d c : Int) : (TT.node b key n l r d c).adr = some ⟨b, 0, none⟩ := rfl
theorem TT.strip_deep (t : TT) : t.strip.deep = t.deep := by cases t <;> rfl
theorem TT.strip_count (t : TT) : t.strip.count = t.count := by cases t <;> rfl

def TT.In (w : World) : TT → Prop
  | .nil => True
  | .node b key n l r d c => w.heap[b]? = some (.cells #[.string key, .int .i64 n, .pointer l.adr, .pointer r.adr, .int .i64 d, .int .i64 c] 55 (0, 0)) ∧
      (0 ≤ d ∧ d ≤ topI ∧ 0 ≤ c ∧ c ≤ topI) ∧ l.In w ∧ r.In w

theorem TT.In.deep {w : World} {t : TT} (h : t.In w) : 0 ≤ t.deep ∧ t.deep ≤ topI := by
  cases t with
  | nil => exact ⟨Int.le_refl _, by decide⟩
  | node => exact ⟨h.2.1.1, h.2.1.2.1⟩
theorem TT.In.count {w : World} {t : TT} (h : t.In w) : 0 ≤ t.count ∧ t.count ≤ topI := by
  cases t with
  | nil => exact ⟨Int.le_refl _, by decide⟩
  | node => exact ⟨h.2.1.2.2.1, h.2.1.2.2.2⟩
theorem TT.In.left {w : World} {b : Nat} {key : ByteArray} {n : Int} {l r : TT} {d c : Int} (h : (TT.node b key n l r d c).In w) : l.In w := h.2.2.1
theorem TT.In.right {w : World} {b : Nat} {key : ByteArray} {n : Int} {l r : TT} {d c : Int} (h : (TT.node b key n l r d c).In w) : r.In w := h.2.2.2

theorem blk_lt {w : World} {b : Nat} {o : Obj} (h : w.heap[b]? = some o) : b < w.heap.size := by
  rcases Nat.lt_or_ge b w.heap.size with h' | h'
  · exact h'
  · rw [Array.getElem?_eq_none h'] at h; cases h

theorem cell_lt {w : World} {p : Addr} {v : Value} (h : w.cell? p = some v) : p.block < w.heap.size := by
  rcases Nat.lt_or_ge p.block w.heap.size with h' | h'
  · exact h'
  · simp [World.cell?, Array.getElem?_eq_none h'] at h

/-- What a cell held it holds behind whatever only made memory. -/
theorem cell_keep {w w' : World} {p : Addr} {v : Value} (hb : Below w.heap.size w w') (h : w.cell? p = some v) : w'.cell? p = some v :=
  (hb.cell (cell_lt h)).trans h

theorem below_drewN {B : Nat} (w : World) (n : Nat) : Below B w (w.drewN n) := ⟨rfl, rfl, rfl, Nat.le_refl _, fun _ _ => rfl⟩
theorem below_step {w a b : World} (h : Below w.heap.size w a) (hb : Below a.heap.size a b) : Below w.heap.size w b := h.trans (hb.mono h.size)

theorem TT.In.below {w w' : World} : ∀ {t : TT}, t.In w → Below w.heap.size w w' → t.In w'
  | .nil, _, _ => trivial
  | .node _ _ _ _ _ _ _, ⟨h, hd, hl, hr⟩, hb => ⟨(hb.block _ (blk_lt h)).trans h, hd, hl.below hb, hr.below hb⟩

@[simp] theorem TT.In_alloc {w : World} {t : TT} {o : Obj} (h : t.In w) : t.In (w.alloc o) := h.below ((Below.refl _ w).alloc (Nat.le_refl _) o)

@[simp] theorem TT.In_drewN {w : World} {n : Nat} : ∀ {t : TT}, t.In (w.drewN n) = t.In w
  | .nil => rfl
  | .node _ _ _ _ _ _ _ => by show (_ ∧ _ ∧ _ ∧ _) = (_ ∧ _ ∧ _ ∧ _); rw [TT.In_drewN, TT.In_drewN]; rfl

@[simp] theorem TT.In_drew {w : World} : ∀ {t : TT}, t.In w.drew = t.In w
  | .nil => rfl
  | .node _ _ _ _ _ _ _ => by show (_ ∧ _ ∧ _ ∧ _) = (_ ∧ _ ∧ _ ∧ _); rw [TT.In_drew, TT.In_drew]; rfl

theorem cellAt {w : World} {b : Nat} {c : Array Value} {t : TypeId} (h : w.heap[b]? = some (.cells c t (0, 0))) (i : Nat) : w.cell? ⟨b, i, none⟩ = c[i]? := by
  simp [World.cell?, h]

theorem TT.cells {w : World} {b : Nat} {key : ByteArray} {n : Int} {l r : TT} {d c : Int} (h : (TT.node b key n l r d c).In w) :
    w.cell? ⟨b, 0, none⟩ = some (.string key) ∧ w.cell? ⟨b, 1, none⟩ = some (.int .i64 n) ∧ w.cell? ⟨b, 2, none⟩ = some (.pointer l.adr) ∧
    w.cell? ⟨b, 3, none⟩ = some (.pointer r.adr) ∧ w.cell? ⟨b, 4, none⟩ = some (.int .i64 d) ∧ w.cell? ⟨b, 5, none⟩ = some (.int .i64 c) := by
  refine ⟨?_, ?_, ?_, ?_, ?_, ?_⟩ <;> rw [cellAt h.1] <;> rfl

set_option maxHeartbeats 1600000 in
theorem depth_any (t : TT) (w : World) (h : t.In w) : Calls Try.prog 22 #[.pointer t.adr] w fun e w' => e = .returned (.int .i64 t.deep) ∧ w = w' := by
  cases t with
  | nil =>
    show Calls Try.prog 22 #[.pointer none] w _
    go_enter Try.func22, Try.ntmps22
    go_wp2
    go_ret
    exact ⟨rfl, rfl⟩
  | node b key n l r d c =>
    obtain ⟨_, _, _, _, h4, _⟩ := TT.cells h
    show Calls Try.prog 22 #[.pointer (some ⟨b, 0, none⟩)] w _
    go_enter Try.func22, Try.ntmps22
    go_wp2
    go_ret
    exact ⟨rfl, rfl⟩

set_option maxHeartbeats 1600000 in
theorem many_any (t : TT) (w : World) (h : t.In w) : Calls Try.prog 24 #[.pointer t.adr] w fun e w' => e = .returned (.int .i64 t.count) ∧ w = w' := by
  cases t with
  | nil =>
    show Calls Try.prog 24 #[.pointer none] w _
    go_enter Try.func24, Try.ntmps24
    go_wp2
    go_ret
    exact ⟨rfl, rfl⟩
  | node b key n l r d c =>
    obtain ⟨_, _, _, _, _, h5⟩ := TT.cells h
    show Calls Try.prog 24 #[.pointer (some ⟨b, 0, none⟩)] w _
    go_enter Try.func24, Try.ntmps24
    go_wp2
    go_ret
    exact ⟨rfl, rfl⟩
theorem depth_node {b : Nat} {key : ByteArray} {n : Int} {l r : TT} {d c : Int} (w : World) (h : (TT.node b key n l r d c).In w) : Calls Try.prog 22 #[.pointer (some ⟨b, 0, none⟩)] w fun e w' => e = .returned (.int .i64 d) ∧ w = w' := depth_any _ w h
end Go.Proofs.Ytdjcomlpedokeaa
