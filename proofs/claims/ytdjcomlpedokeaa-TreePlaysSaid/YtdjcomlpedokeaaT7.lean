import Derived.Test.YtdjcomlpedokeaaT6
import Derived.WalkLawsBesides
namespace Go.Proofs.Ytdjcomlpedokeaa
open Go.RowKit Go.Deep

/-- Is a text ahead of another one? -/
def blt (a b : ByteArray) : Bool := Op.bytesLess a.toList b.toList

/-- How much fuel made is given here. -/
def mF : Nat := 5

def withS (key : ByteArray) (n : Int) : ST → Option ST
  | .nil => some (.node key n .nil .nil 1 1)
  | .node xk xn l r _ _ =>
    if blt key xk = true then (withS key n l).bind fun z => madeF mF xk xn z r
    else if key = xk then madeF mF key n l r
    else (withS key n r).bind fun z => madeF mF xk xn l z

theorem list_inj {a b : ByteArray} (h : a.toList = b.toList) : a = b := by
  rw [ByteArray.toList_eq, ByteArray.toList_eq] at h
  exact ByteArray.ext (Array.toList_inj.mp h)
theorem beq_list_false {a b : ByteArray} (h : ¬ a = b) : (a.toList == b.toList) = false := by
  rw [beq_eq_false_iff_ne]; exact fun e => h (list_inj e)

attribute [local go_sem] max2_int max_two

set_option maxHeartbeats 4000000 in
set_option maxRecDepth 100000 in
theorem with_nil (key : ByteArray) (n : Int) (w : World) :
   Calls Try.prog 21 #[.pointer none, .string key, .int .i64 n] w (MadePost (.node key n .nil .nil 1 1) w) := by
  go_enter Try.func21, Try.ntmps21
  go_wp2
  go_ret
  exact ⟨.node w.heap.size key n .nil .nil 1 1, rfl, ⟨blk_alloc_new w _, by decide, trivial, trivial⟩, rfl, (Below.refl _ w).alloc (Nat.le_refl _) _⟩

set_option maxHeartbeats 4000000 in
set_option maxRecDepth 100000 in
theorem with_less (b : Nat) (xk : ByteArray) (xn : Int) (l r : TT) (d c : Int) (key : ByteArray) (n : Int) (z t : ST) (w : World) (hp : (TT.node b xk xn l r d c).In w)
    (c1 : Op.bytesLess key.toList xk.toList = true)
    (ih : Hid (∀ (w : World) (t : ST), l.In w → withS key n l.strip = some t → Calls Try.prog 21 #[.pointer l.adr, .string key, .int .i64 n] w (MadePost t w)))
    (hz : Hid (withS key n l.strip = some z)) (ht : Hid (madeF mF xk xn z r.strip = some t)) :
    Calls Try.prog 21 #[.pointer (some ⟨b, 0, none⟩), .string key, .int .i64 n] w (MadePost t w) := by
  obtain ⟨f0, f1, f2, f3, _, _⟩ := TT.cells hp
  have hpl := hp.left
  have hpr := hp.right
  have hm := Lib.hid made_any
  go_enter Try.func21, Try.ntmps21
  go_wp2
  go_region_held3 (fun w' => w'.cell? ⟨b, 0, none⟩ = some (.string xk) ∧ w'.cell? ⟨b, 1, none⟩ = some (.int .i64 xn) ∧ w'.cell? ⟨b, 2, none⟩ = some (.pointer l.adr) ∧ w'.cell? ⟨b, 3, none⟩ = some (.pointer r.adr) ∧ l.In w' ∧ r.In w')
    (first | go_keep | (refine ⟨?_, ?_, ?_, ?_, ?_, ?_⟩ <;> first | exact cell_keep hb (by simp [*]) | exact TT.In.below (by simp [*]) hb))
    (first
      | (go_at_call_of 21 (Value.pointer l.adr); refine (ih.out _ z ?_ hz.out).mono ?_; (simp [*]); rintro e w2 ⟨Z, rfl, hZ, hs, hb⟩; have hs2 := Lib.hid hs; clear hs; have hb2 := Lib.hid hb)
      | (go_at_call 25; refine (hm.out mF b xk xn Z r t _ ?_ ?_ ?_ ?_ ?_).mono ?_; (simp [*]); (simp [*]); (simp [*]); (simp [*]); (rw [hs2.out]; exact ht.out); rintro e w2 ⟨T, rfl, hT, hs, hb⟩))
  go_wp2
  go_ret
  exact ⟨T, rfl, hT, hs, below_step (below_step (below_drewN _ 1) hb2.out) hb⟩

set_option maxHeartbeats 4000000 in
set_option maxRecDepth 100000 in
theorem with_more (b : Nat) (xk : ByteArray) (xn : Int) (l r : TT) (d c : Int) (key : ByteArray) (n : Int) (z t : ST) (w : World) (hp : (TT.node b xk xn l r d c).In w)
    (c1 : Op.bytesLess key.toList xk.toList = false) (c2 : (key.toList == xk.toList) = false)
    (ih : Hid (∀ (w : World) (t : ST), r.In w → withS key n r.strip = some t → Calls Try.prog 21 #[.pointer r.adr, .string key, .int .i64 n] w (MadePost t w)))
    (hz : Hid (withS key n r.strip = some z)) (ht : Hid (madeF mF xk xn l.strip z = some t)) :
    Calls Try.prog 21 #[.pointer (some ⟨b, 0, none⟩), .string key, .int .i64 n] w (MadePost t w) := by
  obtain ⟨f0, f1, f2, f3, _, _⟩ := TT.cells hp
  have hpl := hp.left
  have hpr := hp.right
  have hm := Lib.hid made_any
  go_enter Try.func21, Try.ntmps21
  go_wp2
  go_region_held3 (fun w' => w'.cell? ⟨b, 0, none⟩ = some (.string xk) ∧ w'.cell? ⟨b, 1, none⟩ = some (.int .i64 xn) ∧ w'.cell? ⟨b, 2, none⟩ = some (.pointer l.adr) ∧ w'.cell? ⟨b, 3, none⟩ = some (.pointer r.adr) ∧ l.In w' ∧ r.In w')
    (first | go_keep | (refine ⟨?_, ?_, ?_, ?_, ?_, ?_⟩ <;> first | exact cell_keep hb (by simp [*]) | exact TT.In.below (by simp [*]) hb))
    (first
      | (go_at_call_of 21 (Value.pointer r.adr); refine (ih.out _ z ?_ hz.out).mono ?_; (simp [*]); rintro e w2 ⟨Z, rfl, hZ, hs, hb⟩; have hs2 := Lib.hid hs; clear hs; have hb2 := Lib.hid hb)
      | (go_at_call 25; refine (hm.out mF b xk xn l Z t _ ?_ ?_ ?_ ?_ ?_).mono ?_; (simp [*]); (simp [*]); (simp [*]); (simp [*]); (rw [hs2.out]; exact ht.out); rintro e w2 ⟨T, rfl, hT, hs, hb⟩))
  go_wp2
  go_ret
  exact ⟨T, rfl, hT, hs, below_step (below_step (below_drewN _ 1) hb2.out) hb⟩

set_option maxHeartbeats 4000000 in
set_option maxRecDepth 100000 in
theorem with_same (b : Nat) (xn : Int) (l r : TT) (d c : Int) (key : ByteArray) (n : Int) (t : ST) (w : World) (hp : (TT.node b key xn l r d c).In w)
    (c1 : Op.bytesLess key.toList key.toList = false) (ht : Hid (madeF mF key n l.strip r.strip = some t)) :
    Calls Try.prog 21 #[.pointer (some ⟨b, 0, none⟩), .string key, .int .i64 n] w (MadePost t w) := by
  obtain ⟨f0, f1, f2, f3, _, _⟩ := TT.cells hp
  have hpl := hp.left
  have hpr := hp.right
  have hm := Lib.hid made_any
  have e2 := World.new_ne w _ f2
  have e3 := World.new_ne w _ f3
  go_enter Try.func21, Try.ntmps21
  go_wp2
  go_region_held3 (fun w' => w'.cell? ⟨b, 2, none⟩ = some (.pointer l.adr) ∧ w'.cell? ⟨b, 3, none⟩ = some (.pointer r.adr) ∧ l.In w' ∧ r.In w')
    (first | go_keep | (refine ⟨?_, ?_, ?_, ?_⟩ <;> first | exact cell_keep hb (by simp [*]) | exact TT.In.below (by simp [*]) hb))
    ((go_at_call 25; refine (hm.out mF _ key n l r t _ ?_ ?_ ?_ ?_ ?_).mono ?_; (simp [*]); (simp [*]); (simp [*]); (simp [*]); (exact ht.out); rintro e w2 ⟨T, rfl, hT, hs, hb⟩))
  go_wp2
  go_ret
  exact ⟨T, rfl, hT, hs, below_step (((Below.refl _ w).alloc (Nat.le_refl _) _).trans (below_drewN _ 1)) hb⟩

theorem with_any (key : ByteArray) (n : Int) : ∀ (T : TT) (w : World) (t : ST), T.In w → withS key n T.strip = some t → Calls Try.prog 21 #[.pointer T.adr, .string key, .int .i64 n] w (MadePost t w) := by
  intro T
  induction T with
  | nil => intro w t _ h; obtain rfl := Option.some.inj h; exact with_nil key n w
  | node b xk xn l r d c ihl ihr =>
    intro w t hp h
    simp only [TT.strip, withS] at h
    by_cases h1 : blt key xk = true
    · rw [if_pos h1] at h
      obtain ⟨z, hz, ht⟩ := Option.bind_eq_some_iff.mp h
      exact with_less b xk xn l r d c key n z t w hp h1 ihl hz ht
    · rw [if_neg h1] at h
      replace h1 := Bool.eq_false_iff.mpr h1
      by_cases h2 : key = xk
      · rw [if_pos h2] at h
        subst h2
        exact with_same b xn l r d c key n t w hp h1 h
      · rw [if_neg h2] at h
        obtain ⟨z, hz, ht⟩ := Option.bind_eq_some_iff.mp h
        exact with_more b xk xn l r d c key n z t w hp h1 (beq_list_false h2) ihr hz ht
end Go.Proofs.Ytdjcomlpedokeaa
