import Derived.Test.YtdjcomlpedokeaaT10
import Derived.Deep.AppendLies
namespace Go.Proofs.Ytdjcomlpedokeaa
open Go.RowKit Go.Deep

/-- All blocks of a tree lie below one. -/
def TT.Lt (base : Nat) : TT → Prop
  | .nil => True
  | .node b _ _ l r _ _ => b < base ∧ l.Lt base ∧ r.Lt base
theorem TT.In.lt {w : World} : ∀ {T : TT}, T.In w → T.Lt w.heap.size
  | .nil, _ => trivial
  | .node _ _ _ _ _ _ _, ⟨h, _, hl, hr⟩ => ⟨blk_lt h, hl.lt, hr.lt⟩
theorem TT.Lt.mono {a b : Nat} (hab : a ≤ b) : ∀ {T : TT}, T.Lt a → T.Lt b
  | .nil, _ => trivial
  | .node _ _ _ _ _ _ _, ⟨h, hl, hr⟩ => ⟨by omega, hl.mono hab, hr.mono hab⟩

def TT.keys : TT → List ByteArray
  | .nil => []
  | .node _ key _ l r _ _ => l.keys ++ key :: r.keys
def ST.keys : ST → List ByteArray
  | .nil => []
  | .node key _ l r _ _ => l.keys ++ key :: r.keys
theorem TT.strip_keys : ∀ T : TT, T.strip.keys = T.keys
  | .nil => rfl
  | .node _ _ _ l r _ _ => by show l.strip.keys ++ _ :: r.strip.keys = l.keys ++ _ :: r.keys; rw [TT.strip_keys l, TT.strip_keys r]

theorem own_ne {w : World} {base : Nat} {e : TypeId} {s : Nat} {v : Value} {n : Nat} {xs : List Value} (h : w.ownsRow base e s v n xs) {k : Nat} (hk : k < base) : some k ≠ v.ownBlock :=
  fun e => by have := (h.lt k e.symm).1; omega
/-- A slice's own block does not lie below one. -/
def NB (base : Nat) (v : Value) : Prop := ∀ k, k < base → some k ≠ v.ownBlock
theorem own_nb {w : World} {base : Nat} {e : TypeId} {s : Nat} {v : Value} {n : Nat} {xs : List Value} (h : w.ownsRow base e s v n xs) : NB base v := fun _ hk => own_ne h hk
theorem cell_grown {w w' : World} {base : Nat} {v : Value} {p : Addr} {u : Value} (hne : NB base v) (hg : w.grownBy w' v.ownBlock) (hp : p.block < base)
    (h : w.cell? p = some u) : w'.cell? p = some u := hg.cell h (hne _ hp)
theorem TT.In_grown {w w' : World} {base : Nat} {v : Value} (hne : NB base v) (hg : w.grownBy w' v.ownBlock) :
    ∀ {T : TT}, T.Lt base → T.In w → T.In w'
  | .nil, _, _ => trivial
  | .node _ _ _ _ _ _ _, ⟨hb, hlb, hrb⟩, ⟨h, hd, hl, hr⟩ => ⟨(hg.block _ (blk_lt h) (hne _ hb)).trans h, hd, TT.In_grown hne hg hlb hl, TT.In_grown hne hg hrb hr⟩

theorem grown_refl (w : World) (row : Option Nat) : w.grownBy w row := ⟨rfl, rfl, rfl, Nat.le_refl _, fun _ _ _ => rfl⟩
theorem grown_drew {a w : World} {row : Option Nat} (h : a.grownBy w row) : a.grownBy w.drew row := ⟨h.os, h.tape, h.output, h.size, h.block⟩
/-- One step more: what is written behind is the old row, or a new block. -/
theorem grown_trans {a b c : World} {v : Value} {row : Option Nat} (h : a.grownBy b row) (k : b.grownBy c v.ownBlock) (hv : v.ownBlock = row ∨ ∀ g, v.ownBlock = some g → a.heap.size ≤ g) : a.grownBy c row :=
  ⟨k.os.trans h.os, k.tape.trans h.tape, k.output.trans h.output, Nat.le_trans h.size k.size, fun i hi hne => by
    refine (k.block i (Nat.lt_of_lt_of_le hi h.size) (fun e => ?_)).trans (h.block i hi hne)
    rcases hv with hv | hv
    · exact hne (e.trans hv)
    · have := hv i e.symm; omega⟩

theorem grown_alloc {a w : World} {row : Option Nat} {o : Obj} (h : a.grownBy w row) : a.grownBy (w.alloc o) row :=
  ⟨h.os, h.tape, h.output, by have := h.size; simp; omega, fun k hk hne => (Below.heap_alloc w o k (Nat.lt_of_lt_of_le hk h.size)).trans (h.block k hk hne)⟩
theorem keys_close {w wa w1 wb w2 w3 : World} {v v1 v3 : Value} {g cap n : Nat} (h0 : w.grownBy wa v.ownBlock) (HG : wa.grownBy w1 v.ownBlock) (HA1 : v1.ownBlock = v.ownBlock ∨ ∀ g, v1.ownBlock = some g → wa.heap.size ≤ g)
    (h1 : w1.grownBy wb v1.ownBlock) (HG2 : wb.grownBy w2 v1.ownBlock) (HA2 : v1.ownBlock = some g ∨ g = wb.heap.size) (HG3 : w2.grownBy w3 (Value.slice (some ⟨g, 0, none⟩) n cap).ownBlock)
    (HA3 : v3.ownBlock = (Value.slice (some ⟨g, 0, none⟩) n cap).ownBlock ∨ ∀ g, v3.ownBlock = some g → w2.heap.size ≤ g) :
    w.grownBy w3 v.ownBlock ∧ (v3.ownBlock = v.ownBlock ∨ ∀ g, v3.ownBlock = some g → w.heap.size ≤ g) := by
  have s0 := h0.size
  have s1 := HG.size
  have s2 := h1.size
  have s3 := HG2.size
  have o1 : v1.ownBlock = v.ownBlock ∨ ∀ g, v1.ownBlock = some g → w.heap.size ≤ g := by
    rcases HA1 with h | h
    · exact .inl h
    · exact .inr fun g hg => Nat.le_trans s0 (h g hg)
  have g1 := grown_trans h0 HG (.inl rfl)
  have g2 := grown_trans g1 h1 o1
  have g3 := grown_trans g2 HG2 o1
  have o2 : (Value.slice (some ⟨g, 0, none⟩) n cap).ownBlock = v.ownBlock ∨ ∀ k, (Value.slice (some ⟨g, 0, none⟩) n cap).ownBlock = some k → w.heap.size ≤ k := by
    rcases HA2 with h | h
    · rcases o1 with o | o
      · exact .inl (by rw [← o, h]; rfl)
      · exact .inr fun k hk => o k (by rw [h]; exact hk)
    · refine .inr fun k hk => ?_
      have : g = k := by simpa [Value.ownBlock] using hk
      omega
  refine ⟨grown_trans g3 HG3 o2, ?_⟩
  rcases HA3 with h | h
  · rcases o2 with o | o
    · exact .inl (h.trans o)
    · exact .inr fun k hk => o k (by rw [← h]; exact hk)
  · exact .inr fun k hk => by have := h k hk; omega

/-- What keys leaves. -/
def KeysPost (base : Nat) (v : Value) (m : Nat) (ys : List Value) (w : World) (e : Ending) (w' : World) : Prop :=
  ∃ v', e = .returned v' ∧ w'.ownsRow base 9 1 v' m ys ∧ w.grownBy w' v.ownBlock ∧ (v'.ownBlock = v.ownBlock ∨ ∀ g, v'.ownBlock = some g → w.heap.size ≤ g)

theorem Try.info9 : (Try.prog.info? 9).map (fun i => (i.zero, i.size, i.bytes)) = some (some (.string ByteArray.empty), 1, 16) := by kernel_rfl

set_option maxHeartbeats 4000000 in
set_option maxRecDepth 100000 in
theorem keys_nil (base : Nat) (v : Value) (n : Nat) (xs : List Value) (w : World) (hown : w.ownsRow base 9 1 v n xs) :
    Calls Try.prog 23 #[.pointer none, v] w (KeysPost base v n xs w) := by
  have HO := Lib.hid hown
  clear hown
  go_enter Try.func23, Try.ntmps23
  go_wp2
  go_ret
  exact ⟨v, rfl, HO.out, grown_refl _ _, .inl rfl⟩

set_option maxHeartbeats 4000000 in
set_option maxRecDepth 100000 in
theorem keys_node (base b : Nat) (key : ByteArray) (kn : Int) (l r : TT) (d c : Int) (v : Value) (n n1 : Nat) (xs xs1 : List Value) (m : Nat) (ys : List Value) (w : World) (hp : (TT.node b key kn l r d c).In w) (hlt : (TT.node b key kn l r d c).Lt base) (hbase : base ≤ w.heap.size)
    (hown : Hid (w.ownsRow base 9 1 v n xs)) (hn1 : n1 ≤ 1000000)
    (ihl : Hid (∀ w : World, l.In w → base ≤ w.heap.size → w.ownsRow base 9 1 v n xs → Calls Try.prog 23 #[.pointer l.adr, v] w (KeysPost base v n1 xs1 w)))
    (ihr : Hid (∀ (w : World) (v : Value), r.In w → base ≤ w.heap.size → w.ownsRow base 9 1 v (n1 + 1) (xs1 ++ [.string key]) → Calls Try.prog 23 #[.pointer r.adr, v] w (KeysPost base v m ys w))) :
    Calls Try.prog 23 #[.pointer (some ⟨b, 0, none⟩), v] w (KeysPost base v m ys w) := by
  obtain ⟨f0, _, f2, f3, _, _⟩ := TT.cells hp
  have hl := hp.left
  have hr := hp.right
  obtain ⟨hb, hll, hlr⟩ := hlt
  have HL := Lib.hid hll
  have HR := Lib.hid hlr
  clear hll hlr
  obtain ⟨i0, hi, hz0, hz1, hz2⟩ := info_parts Try.info9
  have HI := Lib.hid hi
  have HZ0 := Lib.hid hz0
  have HZ1 := Lib.hid hz1
  have HZ2 := Lib.hid hz2
  clear hi hz0 hz1 hz2
  go_enter Try.func23, Try.ntmps23
  go_wp2
  have HN := own_nb hown.out
  have HV : Hid (∀ k, w.heap.size ≤ k → some k ≠ v.ownBlock) := fun k hk e => by have := (hown.out.lt k e.symm).2; omega
  go_region_held3 (fun w' => w'.cell? ⟨b, 0, none⟩ = some (.string key) ∧ w'.cell? ⟨b, 2, none⟩ = some (.pointer l.adr) ∧ w'.cell? ⟨b, 3, none⟩ = some (.pointer r.adr) ∧ l.In w' ∧ r.In w')
    (first | go_keep | (refine ⟨?_, ?_, ?_, ?_, ?_⟩ <;> first | exact cell_grown HN HG.out hb (by simp [*]) | exact TT.In_grown HN HG.out HL.out (by simp [*]) | exact TT.In_grown HN HG.out HR.out (by simp [*]) | exact cell_grown HN1 HG2.out hb (by simp [*]) | exact TT.In_grown HN1 HG2.out HL.out (by simp [*]) | exact TT.In_grown HN1 HG2.out HR.out (by simp [*]) | exact cell_grown HN2 HG3.out hb (by simp [*]) | exact TT.In_grown HN2 HG3.out HL.out (by simp [*]) | exact TT.In_grown HN2 HG3.out HR.out (by simp [*])))
    (first
      | (go_at_call_of 23 (Value.pointer l.adr); refine (ihl.out _ ?_ ?_ ?_).mono ?_; (simp [*]); (simp; omega); (first | exact hown.out | exact hown.out.alloc _); rintro e w1 ⟨v1, rfl, ho, hg, ha⟩; have HG := Lib.hid hg; have HO1 := Lib.hid ho; have HA1 := Lib.hid ha; have HS1 : Hid (base ≤ w1.heap.size) := (by have := hg.size; simp at this; show _ ≤ _; omega); have HN1 := own_nb ho; clear ho hg ha)
      | ((refine step_append_lies _ (by rfl) (.tmp 17) (.tmp 22) 27 (by rfl) base 9 i0 (.string ByteArray.empty) 1 16 Try.underlying27 HI.out HZ0.out HZ1.out HZ2.out (by rfl) (by decide) v1 n1 xs1 (by rfl) (by first | exact HO1.out | exact HO1.out.alloc _) _ 1 1 [.string key] (by rfl) (by rfl)
            (by first | exact World.news_of_block (heap_alloc_new _ _) | exact World.news_of_block ((HG.out.block _ (by simp) (HV.out _ (by simp))).trans (heap_alloc_new _ _))) (by simp [Value.oneCell']) (by decide) (by unfold maxLen; omega) (by omega) (by have := HS1.out; simp; omega) _ rfl ?_);
          (intro g cap w2 ho hg ha hlt2); (have HG2 := Lib.hid hg; have HO2 := Lib.hid ho; have HA2 := Lib.hid ha; have HN2 := own_nb ho; clear ho hg ha hlt2))
      | (go_at_call_of 23 (Value.pointer r.adr); refine (ihr.out _ _ ?_ ?_ HO2.out).mono ?_; (simp [*]); (have := HS1.out; have := HG2.out.size; simp at this ⊢; omega); rintro e w3 ⟨v3, rfl, ho, hg, ha⟩; have HG3 := Lib.hid hg; have HO3 := Lib.hid ho; have HA3 := Lib.hid ha; clear ho hg ha))
  all_goals go_wp2
  all_goals go_ret
  all_goals (have hc := keys_close (w := w) (by repeat (first | exact grown_refl _ _ | apply grown_drew | apply grown_alloc)) HG.out HA1.out (by repeat (first | exact grown_refl _ _ | apply grown_drew | apply grown_alloc)) HG2.out HA2.out HG3.out HA3.out)
  all_goals exact ⟨v3, rfl, HO3.out, hc.1, hc.2⟩

theorem keys_any (base : Nat) : ∀ (T : TT) (n : Nat) (xs : List Value) (w : World) (v : Value), T.Lt base → n + T.keys.length ≤ 1000000 → T.In w → base ≤ w.heap.size → w.ownsRow base 9 1 v n xs →
    Calls Try.prog 23 #[.pointer T.adr, v] w (KeysPost base v (n + T.keys.length) (xs ++ T.keys.map Value.string) w) := by
  intro T
  induction T with
  | nil => intro n xs w v _ _ _ _ ho; simpa [TT.keys, TT.adr] using keys_nil base v n xs w ho
  | node b key kn l r d c ihl ihr =>
    intro n xs w v hlt hn hin hbase ho
    have e1 : n + (TT.node b key kn l r d c).keys.length = n + l.keys.length + 1 + r.keys.length := by simp only [TT.keys, List.length_append, List.length_cons]; omega
    have e2 : xs ++ (TT.node b key kn l r d c).keys.map Value.string = ((xs ++ l.keys.map Value.string) ++ [.string key]) ++ r.keys.map Value.string := by simp [TT.keys]
    rw [e1] at hn ⊢
    rw [e2]
    exact keys_node base b key kn l r d c v n (n + l.keys.length) xs (xs ++ l.keys.map Value.string) _ _ w hin hlt hbase ho (by omega)
      (fun w h1 h2 h3 => ihl n xs w v hlt.2.1 (by omega) h1 h2 h3) (fun w v h1 h2 h3 => ihr _ _ w v hlt.2.2 (by omega) h1 h2 h3)

set_option maxHeartbeats 4000000 in
theorem Keys_any (tb : Nat) (T : TT) (w : World) (h : TrIn w tb T) (hn : T.strip.keys.length ≤ 1000000) :
    Calls Try.prog 16 #[.pointer (some ⟨tb, 0, none⟩)] w fun e w' => ∃ v, e = .returned v ∧ w'.ownsRow w.heap.size 9 1 v T.strip.keys.length (T.strip.keys.map Value.string) ∧ Below w.heap.size w w' := by
  have f0 := h.cell
  rw [TT.strip_keys] at hn ⊢
  have HC := keys_any w.heap.size T 0 [] w (.slice none 0 0) h.2.lt (by omega) h.2 (Nat.le_refl _) (World.ownsRow_nil _ _ _ _)
  simp only [Nat.zero_add, List.nil_append] at HC
  replace HC := Lib.hid HC
  go_enter Try.func16, Try.ntmps16
  go_wp2_with ((go_at_call 23; refine HC.out.mono ?_; rintro e w1 ⟨v, rfl, ho, hg, ha⟩; have HO := Lib.hid ho; have HG := Lib.hid hg; clear ho hg ha))
  go_ret
  exact ⟨v, rfl, HO.out, ⟨HG.out.os, HG.out.tape, HG.out.output, HG.out.size, fun k hk => HG.out.block k hk (fun e => by cases e)⟩⟩

end Go.Proofs.Ytdjcomlpedokeaa
