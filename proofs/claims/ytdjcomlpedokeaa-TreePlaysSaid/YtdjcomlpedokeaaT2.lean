import Derived.Test.YtdjcomlpedokeaaT1
namespace Go.Proofs.Ytdjcomlpedokeaa
open Go.RowKit Go.Deep

attribute [local go_sem] max2_int max_two

/-- What made leaves. -/
def MadePost (t : ST) (w : World) (e : Ending) (w' : World) : Prop := ∃ T : TT, e = .returned (.pointer T.adr) ∧ T.In w' ∧ T.strip = t ∧ Below w.heap.size w w'

/-- made's contract, with so much fuel. -/
def MadeOk (k : Nat) : Prop := ∀ (b : Nat) (key : ByteArray) (n : Int) (l r : TT) (t : ST) (w : World), w.cell? ⟨b, 0, none⟩ = some (.string key) → w.cell? ⟨b, 1, none⟩ = some (.int .i64 n) →
  l.In w → r.In w → madeF k key n l.strip r.strip = some t → Calls Try.prog 25 #[.pointer (some ⟨b, 0, none⟩), .pointer l.adr, .pointer r.adr] w (MadePost t w)

set_option maxHeartbeats 4000000 in
set_option maxRecDepth 100000 in
/-- The node that is made of another one's key and number, and two parts that differ by neither 2 nor -2. -/
theorem made0_any (b : Nat) (key : ByteArray) (n : Int) (l r : TT) (t : ST) (w : World) (g0 : w.cell? ⟨b, 0, none⟩ = some (.string key)) (g1 : w.cell? ⟨b, 1, none⟩ = some (.int .i64 n)) (hl : l.In w) (hr : r.In w)
    (n2 : ((l.deep - r.deep) == 2) = false) (n3 : ((l.deep - r.deep) == -2) = false) (ht : mkS key n l.strip r.strip = some t) :
    Calls Try.prog 25 #[.pointer (some ⟨b, 0, none⟩), .pointer l.adr, .pointer r.adr] w (MadePost t w) := by
  obtain ⟨dl1, dl2⟩ := hl.deep
  obtain ⟨dr1, dr2⟩ := hr.deep
  obtain ⟨cl1, cl2⟩ := hl.count
  obtain ⟨cr1, cr2⟩ := hr.count
  unfold topI at dl2 dr2 cl2 cr2
  unfold mkS at ht
  rw [TT.strip_deep, TT.strip_deep, TT.strip_count, TT.strip_count] at ht
  by_cases hg : mxI l.deep r.deep + 1 ≤ topI ∧ l.count + r.count + 1 ≤ topI
  case neg => rw [if_neg hg] at ht; cases ht
  rw [if_pos hg] at ht
  have HT := Lib.hid (Option.some.inj ht)
  clear ht
  have HG := Lib.hid hg
  clear hg
  have e1 : IntKind.i64.wrap (mxI l.deep r.deep + 1) = mxI l.deep r.deep + 1 := IntWalk.i64_in _ (by unfold mxI; split <;> omega)
  have e2 : IntKind.i64.wrap (l.count + r.count) = l.count + r.count := IntWalk.i64_in _ (by omega)
  have e3 : IntKind.i64.wrap (l.count + r.count + 1) = l.count + r.count + 1 := IntWalk.i64_in _ (by omega)
  go_enter Try.func25, Try.ntmps25
  go_wp2_with (first | (go_at_call_of 22 (Value.pointer l.adr); refine (depth_any l _ hl).mono ?_; rintro e w' ⟨rfl, rfl⟩) | (go_at_call_of 22 (Value.pointer r.adr); refine (depth_any r _ hr).mono ?_; rintro e w' ⟨rfl, rfl⟩))
  go_region_held3 (fun w' => w'.cell? ⟨b, 0, none⟩ = some (.string key) ∧ w'.cell? ⟨b, 1, none⟩ = some (.int .i64 n) ∧ l.In w' ∧ r.In w') (go_keep) (first
    | (go_at_call_of 22 (Value.pointer l.adr); refine (depth_any l _ ?_).mono ?_; (simp [*]); rintro e w' ⟨rfl, rfl⟩)
    | (go_at_call_of 22 (Value.pointer r.adr); refine (depth_any r _ ?_).mono ?_; (simp [*]); rintro e w' ⟨rfl, rfl⟩)
    | (go_at_call_of 24 (Value.pointer l.adr); refine (many_any l _ ?_).mono ?_; (simp [*]); rintro e w' ⟨rfl, rfl⟩)
    | (go_at_call_of 24 (Value.pointer r.adr); refine (many_any r _ ?_).mono ?_; (simp [*]); rintro e w' ⟨rfl, rfl⟩))
  all_goals (go_wp2; go_ret)
  all_goals exact ⟨.node w.heap.size key n l r (mxI l.deep r.deep + 1) (l.count + r.count + 1), rfl, ⟨blk_alloc_new w _, ⟨by unfold mxI; split <;> omega, HG.out.1, by omega, HG.out.2⟩, by simp only [TT.In_drew]; exact TT.In_alloc hl, by simp only [TT.In_drew]; exact TT.In_alloc hr⟩, HT.out, ((Below.refl _ w).alloc (Nat.le_refl _) _).drew⟩
end Go.Proofs.Ytdjcomlpedokeaa
