import Derived.Test.YtdjcomlpedokeaaTP3
set_option linter.unusedVariables false
set_option linter.unusedSimpArgs false
namespace Go.Proofs.Ytdjcomlpedokeaa
open Go.RowKit

/-! ### what is kept when a row of one type grows -/
def KeepT (T : TypeId) (w w' : World) : Prop := ∀ (k : Nat) (cs : Array Value) (t : TypeId), t ≠ T → Blk w k t cs → Blk w' k t cs
theorem keepT_grown {w w' : World} {b : Nat} {e : TypeId} {s n : Nat} {v : Value} {xs : List Value} (ho : w.ownsRow b e s v n xs) (hg : w.grownBy w' v.ownBlock) : KeepT e w w' := fun k cs t ht hk =>
  (hg.block k (blk_lt hk) (own_blk_ne (g := k) (t := t) (cs := cs) ho hk (fun e => ht e.symm))).trans hk
theorem own_keepT {T : TypeId} {w w' : World} {b : Nat} {e : TypeId} {s n : Nat} {v : Value} {xs : List Value} (ho : w.ownsRow b e s v n xs) (hk : KeepT T w w') (hT : e ≠ T) : w'.ownsRow b e s v n xs := by
  refine ⟨ho.1, ?_⟩
  rcases ho.2 with h0 | ⟨g', cap, cur, rfl, hb, hh, hr⟩
  · exact .inl h0
  · exact .inr ⟨g', cap, cur, rfl, hb, hk _ _ _ hT hh, hr⟩
theorem TT.In.keepT {T : TypeId} {w w' : World} (hk : KeepT T w w') (hT : (55 : TypeId) ≠ T) : ∀ {t : TT}, t.In w → t.In w'
  | .nil, _ => trivial
  | .node _ _ _ _ _ _ _, ⟨h, hd, hl, hr⟩ => ⟨hk _ _ _ hT h, hd, hl.keepT hk hT, hr.keepT hk hT⟩
theorem TG.keepT {T : TypeId} {w w' : World} {tb : Nat} {l : List (ByteArray × Int)} (h : TG w tb l) (hk : KeepT T w w') (hT : (55 : TypeId) ≠ T) (hT' : (51 : TypeId) ≠ T) : TG w' tb l :=
  let ⟨T0, h1, h2⟩ := h
  ⟨T0, ⟨hk _ _ _ hT' h1.1, h1.2.keepT hk hT⟩, h2⟩
theorem MdIn.keepT {T : TypeId} {w w' : World} {B : Nat} {kv nv : Value} {l : List (ByteArray × Int)} (h : MdIn w B kv nv l) (hk : KeepT T w w') (hS : 9 ≠ T) (hI : 3 ≠ T) : MdIn w' B kv nv l :=
  ⟨own_keepT h.k hk hS, own_keepT h.n hk hI⟩

/-! ### all trees that ever were, each with its model -/
structure Past where
  tb : Nat
  kv : Value
  nv : Value
  l : List (ByteArray × Int)
structure Fit (w : World) (j : Nat) (s : Past) : Prop where
  g : TG w s.tb s.l
  m : MdIn w 0 s.kv s.nv s.l
  n : s.l.length ≤ j
def Each (w : World) (st : List Past) : Prop := ∀ j s, st[j]? = some s → Fit w j s
theorem Each.below {w w' : World} {st : List Past} (h : Each w st) (hb : Below w.heap.size w w') : Each w' st := fun j s hs => ⟨(h j s hs).g.below hb, (h j s hs).m.below hb, (h j s hs).n⟩
theorem Each.keepT {T : TypeId} {w w' : World} {st : List Past} (h : Each w st) (hk : KeepT T w w') (h1 : (55 : TypeId) ≠ T) (h2 : (51 : TypeId) ≠ T) (h3 : 9 ≠ T) (h4 : 3 ≠ T) : Each w' st :=
  fun j s hs => ⟨(h j s hs).g.keepT hk h1 h2, (h j s hs).m.keepT hk h3 h4, (h j s hs).n⟩
theorem Each.snoc {w : World} {st : List Past} (h : Each w st) (s : Past) (hs : Fit w st.length s) : Each w (st ++ [s]) := by
  intro j x hx
  by_cases hj : j < st.length
  · rw [List.getElem?_append_left hj] at hx
    exact h j x hx
  · rw [List.getElem?_append_right (by omega)] at hx
    have : j - st.length = 0 := by
      have := (List.getElem?_eq_some_iff.1 hx).1
      simp at this
      omega
    rw [this] at hx
    simp at hx
    subst hx
    have : j = st.length := by omega
    subst this
    exact hs
def tsV (st : List Past) : List Value := st.map fun s => .pointer (some ⟨s.tb, 0, none⟩)
def msV (st : List Past) : List Value := st.flatMap fun s => [s.kv, s.nv]
theorem tsV_at {st : List Past} {j : Nat} {s : Past} (h : st[j]? = some s) : (tsV st)[j]? = some (.pointer (some ⟨s.tb, 0, none⟩)) := by simp [tsV, h]
theorem msV_at : ∀ {st : List Past} {j : Nat} {s : Past}, st[j]? = some s → (msV st)[j * 2]? = some s.kv ∧ (msV st)[j * 2 + 1]? = some s.nv
  | [], j, s, h => by simp at h
  | a :: st, 0, s, h => by
    have : a = s := by simpa using h
    subst this
    exact ⟨rfl, rfl⟩
  | a :: st, j + 1, s, h => by
    have h' : st[j]? = some s := by simpa using h
    have := msV_at h'
    have e1 : (j + 1) * 2 = j * 2 + 1 + 1 := by omega
    rw [e1]
    exact this
theorem tsV_snoc (st : List Past) (s : Past) : tsV (st ++ [s]) = tsV st ++ [.pointer (some ⟨s.tb, 0, none⟩)] := by simp [tsV]
theorem msV_snoc (st : List Past) (s : Past) : msV (st ++ [s]) = msV st ++ [s.kv, s.nv] := by simp [msV]
structure Hist (w : World) (B : Nat) (tsv msv : Value) (st : List Past) : Prop where
  ts : w.ownsRow B 24 1 tsv st.length (tsV st)
  ms : w.ownsRow B 30 2 msv st.length (msV st)
  each : Each w st
theorem Hist.below {w w' : World} {B : Nat} {tsv msv : Value} {st : List Past} (h : Hist w B tsv msv st) (hb : Below w.heap.size w w') : Hist w' B tsv msv st :=
  ⟨own_same h.ts fun k hk => hb.block k (h.ts.lt k hk).2, own_same h.ms fun k hk => hb.block k (h.ms.lt k hk).2, h.each.below hb⟩
theorem own_form2 {w : World} {base : Nat} {e : TypeId} {v : Value} {n : Nat} {xs : List Value} (h : w.ownsRow base e 2 v n xs) (hn : 0 < n) :
    ∃ g cap, v = .slice (some ⟨g, 0, none⟩) n cap ∧ n ≤ cap ∧ base ≤ g ∧ g < w.heap.size ∧ ∀ j u, xs[j]? = some u → w.cell? ⟨g, j, none⟩ = some u := by
  rcases h.2 with ⟨h0, hx⟩ | ⟨g, cap, cur, hv, hb, hh, hc, _, hsz, htk⟩
  · omega
  · refine ⟨g, cap, hv, hc, hb, blk_lt hh, fun j u hj => ?_⟩
    rw [← htk, List.getElem?_take] at hj
    split at hj
    · rw [cellAt hh]
      simpa using hj
    · cases hj
theorem Hist.at_ {w : World} {B : Nat} {tsv msv : Value} {st : List Past} (h : Hist w B tsv msv st) {j : Nat} {s : Past} (hs : st[j]? = some s) :
    ∃ g1 c1 g2 c2, tsv = .slice (some ⟨g1, 0, none⟩) st.length c1 ∧ msv = .slice (some ⟨g2, 0, none⟩) st.length c2 ∧ w.cell? ⟨g1, j, none⟩ = some (.pointer (some ⟨s.tb, 0, none⟩)) ∧
      w.cell? ⟨g2, j * 2, none⟩ = some s.kv ∧ w.cell? ⟨g2, j * 2 + 1, none⟩ = some s.nv ∧ Fit w j s ∧ g1 < w.heap.size ∧ g2 < w.heap.size ∧ st.length ≤ c1 ∧ st.length ≤ c2 := by
  have hl : 0 < st.length := by have := (List.getElem?_eq_some_iff.1 hs).1; omega
  obtain ⟨g1, c1, e1, hc1, -, l1, h1⟩ := own_form h.ts hl
  obtain ⟨g2, c2, e2, hc2, -, l2, h2⟩ := own_form2 h.ms hl
  exact ⟨g1, c1, g2, c2, e1, e2, h1 j _ (tsV_at hs), h2 _ _ (msV_at hs).1, h2 _ _ (msV_at hs).2, h.each j s hs, l1, l2, hc1, hc2⟩
/-- One tree and one model, laid. -/
theorem Hist.first {w : World} {B : Nat} {tb : Nat} (hB : B ≤ w.heap.size) (hg : TG w tb []) :
    Hist ((w.alloc (.cells #[.pointer (some ⟨tb, 0, none⟩)] 24)).alloc (.cells #[.slice none 0 0, .slice none 0 0] 30)) B (.slice (some ⟨w.heap.size, 0, none⟩) 1 1) (.slice (some ⟨w.heap.size + 1, 0, none⟩) 1 1) [⟨tb, .slice none 0 0, .slice none 0 0, []⟩] := by
  have b1 := (Blk.new w 24 #[.pointer (some ⟨tb, 0, none⟩)]).alloc (.cells #[.slice none 0 0, .slice none 0 0] 30)
  have b2 := Blk.new (w.alloc (.cells #[.pointer (some ⟨tb, 0, none⟩)] 24)) 30 #[.slice none 0 0, .slice none 0 0]
  rw [sz_alloc] at b2
  refine ⟨⟨rfl, .inr ⟨_, 1, _, rfl, hB, b1, Nat.le_refl _, by decide, rfl, rfl⟩⟩, ⟨rfl, .inr ⟨_, 1, _, rfl, by omega, b2, Nat.le_refl _, by decide, rfl, rfl⟩⟩, ?_⟩
  intro j s hs
  have hj : j = 0 := by
    have := (List.getElem?_eq_some_iff.1 hs).1
    simp at this
    omega
  subst hj
  simp at hs
  subst hs
  exact ⟨(hg.below ((Below.refl _ _).alloc (Nat.le_refl _) _)).below ((Below.refl _ _).alloc (Nat.le_refl _) _), ⟨World.ownsRow_nil _ _ _ _, World.ownsRow_nil _ _ _ _⟩, Nat.le_refl _⟩

/-! ### the steps that came in -/
structure StepD where
  key : ByteArray
  n : Int
  del : Bool
structure StepAt (w : World) (b k : Nat) (s : StepD) : Prop where
  c0 : w.cell? ⟨b, k, none⟩ = some (.string s.key)
  c1 : w.cell? ⟨b, k + 1, none⟩ = some (.int .i64 s.n)
  c2 : w.cell? ⟨b, k + 2, none⟩ = some (.bool s.del)
def StepsAt (w : World) (a : Option Addr) (l : List StepD) : Prop := ∀ j s, l[j]? = some s → ∃ b off, a = some ⟨b, off, none⟩ ∧ StepAt w b (off + j * 3) s
theorem StepAt.below {w w' : World} {b k : Nat} {s : StepD} (h : StepAt w b k s) (hb : Below w.heap.size w w') : StepAt w' b k s := ⟨cell_keep hb h.c0, cell_keep hb h.c1, cell_keep hb h.c2⟩
theorem StepsAt.below {w w' : World} {a : Option Addr} {l : List StepD} (h : StepsAt w a l) (hb : Below w.heap.size w w') : StepsAt w' a l := fun j s hs =>
  let ⟨b, off, e, hc⟩ := h j s hs
  ⟨b, off, e, hc.below hb⟩
/-- What a step makes of a list. -/
def stepL (s : StepD) (l : List (ByteArray × Int)) : List (ByteArray × Int) := if s.del = true then delL s.key l else insL s.key s.n l
theorem stepL_done {s : StepD} {l : List (ByteArray × Int)} (h : Rise l) : doneG s.key s.n s.del l = stepL s l := by
  unfold stepL
  cases hd : s.del
  · rw [if_neg (by decide)]; exact doneG_false _ _ _ h
  · rw [if_pos rfl]; exact doneG_true _ _ _
theorem stepL_len (s : StepD) (l : List (ByteArray × Int)) : (stepL s l).length ≤ l.length + 1 := by
  unfold stepL
  split
  · exact Nat.le_trans (List.length_filter_le _ _) (Nat.le_succ _)
  · exact insL_length _ _ _
end Go.Proofs.Ytdjcomlpedokeaa
