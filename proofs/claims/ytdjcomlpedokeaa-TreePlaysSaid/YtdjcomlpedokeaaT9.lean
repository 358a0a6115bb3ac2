import Derived.Test.YtdjcomlpedokeaaT8
namespace Go.Proofs.Ytdjcomlpedokeaa
open Go.RowKit Go.Deep

def withoutS : ST → ByteArray → Option ST
  | .nil, _ => some .nil
  | .node xk xn l r _ _, key =>
    if blt key xk = true then (withoutS l key).bind fun z => madeF mF xk xn z r
    else if key = xk then
      match l, r with
      | .nil, r => some r
      | l, .nil => some l
      | l, r => match firstS r with
        | .nil => none
        | .node fk fn _ _ _ _ => (withoutS r fk).bind fun z => madeF mF fk fn l z
    else (withoutS r key).bind fun z => madeF mF xk xn l z

attribute [local go_sem] max2_int max_two

/-- What without leaves: nothing new need be made. -/
def WoutPost (t : ST) (w : World) (e : Ending) (w' : World) : Prop := ∃ T : TT, e = .returned (.pointer T.adr) ∧ T.In w' ∧ T.strip = t ∧ Below w.heap.size w w'

theorem beq_list_true {a : ByteArray} : (a.toList == a.toList) = true := beq_self_eq_true _
set_option maxHeartbeats 4000000 in
set_option maxRecDepth 100000 in
theorem without_nil (key : ByteArray) (w : World) : Calls Try.prog 20 #[.pointer none, .string key] w (WoutPost .nil w) := by
  go_enter Try.func20, Try.ntmps20
  go_wp2
  go_ret
  exact ⟨.nil, rfl, trivial, rfl, Below.refl _ _⟩

set_option maxHeartbeats 4000000 in
set_option maxRecDepth 100000 in
theorem without_less (b : Nat) (xk : ByteArray) (xn : Int) (l r : TT) (d c : Int) (key : ByteArray) (z t : ST) (w : World) (hp : (TT.node b xk xn l r d c).In w)
    (c1 : Op.bytesLess key.toList xk.toList = true)
    (ih : Hid (∀ (w : World) (key : ByteArray) (t : ST), l.In w → withoutS l.strip key = some t → Calls Try.prog 20 #[.pointer l.adr, .string key] w (WoutPost t w)))
    (hz : Hid (withoutS l.strip key = some z)) (ht : Hid (madeF mF xk xn z r.strip = some t)) :
    Calls Try.prog 20 #[.pointer (some ⟨b, 0, none⟩), .string key] w (WoutPost t w) := by
  obtain ⟨f0, f1, f2, f3, _, _⟩ := TT.cells hp
  have hpl := hp.left
  have hpr := hp.right
  have hm := Lib.hid made_any
  go_enter Try.func20, Try.ntmps20
  go_wp2
  go_region_held3 (fun w' => w'.cell? ⟨b, 0, none⟩ = some (.string xk) ∧ w'.cell? ⟨b, 1, none⟩ = some (.int .i64 xn) ∧ w'.cell? ⟨b, 2, none⟩ = some (.pointer l.adr) ∧ w'.cell? ⟨b, 3, none⟩ = some (.pointer r.adr) ∧ l.In w' ∧ r.In w')
    (first | go_keep | (refine ⟨?_, ?_, ?_, ?_, ?_, ?_⟩ <;> first | exact cell_keep hb (by simp [*]) | exact TT.In.below (by simp [*]) hb))
    (first
      | (go_at_call_of 20 (Value.pointer l.adr); refine (ih.out _ key z ?_ hz.out).mono ?_; (simp [*]); rintro e w2 ⟨Z, rfl, hZ, hs, hb⟩; have hs2 := Lib.hid hs; clear hs; have hb2 := Lib.hid hb)
      | (go_at_call 25; refine (hm.out mF b xk xn Z r t _ ?_ ?_ ?_ ?_ ?_).mono ?_; (simp [*]); (simp [*]); (simp [*]); (simp [*]); (rw [hs2.out]; exact ht.out); rintro e w2 ⟨T, rfl, hT, hs, hb⟩))
  go_wp2
  go_ret
  exact ⟨T, rfl, hT, hs, below_step (below_step (below_drewN _ 1) hb2.out) hb⟩

set_option maxHeartbeats 4000000 in
set_option maxRecDepth 100000 in
theorem without_more (b : Nat) (xk : ByteArray) (xn : Int) (l r : TT) (d c : Int) (key : ByteArray) (z t : ST) (w : World) (hp : (TT.node b xk xn l r d c).In w)
    (c1 : Op.bytesLess key.toList xk.toList = false) (c2 : (key.toList == xk.toList) = false)
    (ih : Hid (∀ (w : World) (key : ByteArray) (t : ST), r.In w → withoutS r.strip key = some t → Calls Try.prog 20 #[.pointer r.adr, .string key] w (WoutPost t w)))
    (hz : Hid (withoutS r.strip key = some z)) (ht : Hid (madeF mF xk xn l.strip z = some t)) :
    Calls Try.prog 20 #[.pointer (some ⟨b, 0, none⟩), .string key] w (WoutPost t w) := by
  obtain ⟨f0, f1, f2, f3, _, _⟩ := TT.cells hp
  have hpl := hp.left
  have hpr := hp.right
  have hm := Lib.hid made_any
  go_enter Try.func20, Try.ntmps20
  go_wp2
  go_region_held3 (fun w' => w'.cell? ⟨b, 0, none⟩ = some (.string xk) ∧ w'.cell? ⟨b, 1, none⟩ = some (.int .i64 xn) ∧ w'.cell? ⟨b, 2, none⟩ = some (.pointer l.adr) ∧ w'.cell? ⟨b, 3, none⟩ = some (.pointer r.adr) ∧ l.In w' ∧ r.In w')
    (first | go_keep | (refine ⟨?_, ?_, ?_, ?_, ?_, ?_⟩ <;> first | exact cell_keep hb (by simp [*]) | exact TT.In.below (by simp [*]) hb))
    (first
      | (go_at_call_of 20 (Value.pointer r.adr); refine (ih.out _ key z ?_ hz.out).mono ?_; (simp [*]); rintro e w2 ⟨Z, rfl, hZ, hs, hb⟩; have hs2 := Lib.hid hs; clear hs; have hb2 := Lib.hid hb)
      | (go_at_call 25; refine (hm.out mF b xk xn l Z t _ ?_ ?_ ?_ ?_ ?_).mono ?_; (simp [*]); (simp [*]); (simp [*]); (simp [*]); (rw [hs2.out]; exact ht.out); rintro e w2 ⟨T, rfl, hT, hs, hb⟩))
  go_wp2
  go_ret
  exact ⟨T, rfl, hT, hs, below_step (below_step (below_drewN _ 1) hb2.out) hb⟩

set_option maxHeartbeats 4000000 in
set_option maxRecDepth 100000 in
theorem without_left (b : Nat) (xn : Int) (r : TT) (d c : Int) (key : ByteArray) (w : World) (hp : (TT.node b key xn .nil r d c).In w)
    (c1 : Op.bytesLess key.toList key.toList = false) : Calls Try.prog 20 #[.pointer (some ⟨b, 0, none⟩), .string key] w (WoutPost r.strip w) := by
  obtain ⟨f0, f1, f2, f3, _, _⟩ := TT.cells hp
  have hpr := Lib.hid hp.right
  have c2 := beq_list_true (a := key)
  simp only [TT.adr] at f2
  cases r with
  | nil =>
    simp only [TT.adr] at f3
    go_enter Try.func20, Try.ntmps20
    go_wp2
    go_ret
    exact ⟨.nil, rfl, trivial, rfl, Below.refl _ _⟩
  | node rb rk rn rl rr rd rc =>
    simp only [TT.adr_node] at f3
    go_enter Try.func20, Try.ntmps20
    go_wp2
    go_ret
    exact ⟨.node rb rk rn rl rr rd rc, rfl, hpr.out, rfl, Below.refl _ _⟩

set_option maxHeartbeats 4000000 in
set_option maxRecDepth 100000 in
theorem without_right (b : Nat) (xn : Int) (lb : Nat) (lk : ByteArray) (ln : Int) (ll lr : TT) (ld lc : Int) (d c : Int) (key : ByteArray) (w : World) (hp : (TT.node b key xn (.node lb lk ln ll lr ld lc) .nil d c).In w)
    (c1 : Op.bytesLess key.toList key.toList = false) : Calls Try.prog 20 #[.pointer (some ⟨b, 0, none⟩), .string key] w (WoutPost (TT.node lb lk ln ll lr ld lc).strip w) := by
  obtain ⟨f0, f1, f2, f3, _, _⟩ := TT.cells hp
  have hpl := Lib.hid hp.left
  have c2 := beq_list_true (a := key)
  simp only [TT.adr] at f2 f3
  go_enter Try.func20, Try.ntmps20
  go_wp2
  go_ret
  exact ⟨.node lb lk ln ll lr ld lc, rfl, hpl.out, rfl, Below.refl _ _⟩

set_option maxHeartbeats 4000000 in
set_option maxRecDepth 100000 in
theorem without_both (b : Nat) (xn : Int) (lb : Nat) (lk : ByteArray) (ln : Int) (ll lr : TT) (ld lc : Int) (rb : Nat) (rk : ByteArray) (rn : Int) (rl rr : TT) (rd rc : Int) (d c : Int) (key : ByteArray) (w : World)
    (hp : (TT.node b key xn (TT.node lb lk ln ll lr ld lc) (TT.node rb rk rn rl rr rd rc) d c).In w) (c1 : Op.bytesLess key.toList key.toList = false) (fk : ByteArray) (fn : Int) (fl fr : ST) (fd fc : Int) (hf : Hid (firstS (TT.node rb rk rn rl rr rd rc).strip = .node fk fn fl fr fd fc)) (z t : ST)
    (ih : Hid (∀ (w : World) (key : ByteArray) (t : ST), (TT.node rb rk rn rl rr rd rc).In w → withoutS (TT.node rb rk rn rl rr rd rc).strip key = some t → Calls Try.prog 20 #[.pointer (TT.node rb rk rn rl rr rd rc).adr, .string key] w (WoutPost t w)))
    (hz : Hid (withoutS (TT.node rb rk rn rl rr rd rc).strip fk = some z)) (ht : Hid (madeF mF fk fn (TT.node lb lk ln ll lr ld lc).strip z = some t)) :
    Calls Try.prog 20 #[.pointer (some ⟨b, 0, none⟩), .string key] w (WoutPost t w) := by
  obtain ⟨f0, f1, f2, f3, _, _⟩ := TT.cells hp
  have hpl := hp.left
  have hpr := hp.right
  have hm := Lib.hid made_any
  have c2 := beq_list_true (a := key)
  have h1 : Calls Try.prog 26 #[.pointer (some ⟨rb, 0, none⟩)] w (FoundPost (firstS (TT.node rb rk rn rl rr rd rc).strip) w) := first_any (TT.node rb rk rn rl rr rd rc) w hpr (fun h => by cases h)
  have HC := Lib.hid h1
  clear h1
  simp only [TT.adr_node] at f2 f3
  go_enter Try.func20, Try.ntmps20
  go_wp2_with ((go_at_call 26; refine HC.out.mono ?_; rintro e w1 ⟨F, rfl, hF, hs, rfl⟩; rw [hf.out] at hs; have hs1 := Lib.hid hs; clear hs))
  cases F with
  | nil => exact absurd hs1.out (by simp [TT.strip])
  | node fb fk' fn' Fl Fr fd' fc' =>
  have hq := hs1.out
  simp only [TT.strip, ST.node.injEq] at hq
  obtain ⟨rfl, rfl, _⟩ := hq
  obtain ⟨k0, k1, _⟩ := TT.cells hF
  simp only [TT.adr_node]
  clear hs1
  go_wp2
  go_region_held3 (fun w' => w'.cell? ⟨b, 2, none⟩ = some (.pointer (some ⟨lb, 0, none⟩)) ∧ w'.cell? ⟨b, 3, none⟩ = some (.pointer (some ⟨rb, 0, none⟩)) ∧ w'.cell? ⟨fb, 0, none⟩ = some (.string fk') ∧ w'.cell? ⟨fb, 1, none⟩ = some (.int .i64 fn') ∧ (TT.node lb lk ln ll lr ld lc).In w' ∧ (TT.node rb rk rn rl rr rd rc).In w')
    (first | go_keep | (refine ⟨?_, ?_, ?_, ?_, ?_, ?_⟩ <;> first | exact cell_keep hb (by simp [*]) | exact TT.In.below (by simp [*]) hb))
    (first
      | (go_at_call_of 20 (Value.pointer (some ⟨rb, 0, none⟩)); refine (ih.out _ fk' z ?_ hz.out).mono ?_; (simp [*]); rintro e w2 ⟨Z, rfl, hZ, hs, hb⟩; have hs2 := Lib.hid hs; clear hs; have hb2 := Lib.hid hb)
      | (go_at_call 25; refine (hm.out mF fb fk' fn' (TT.node lb lk ln ll lr ld lc) Z t _ ?_ ?_ ?_ ?_ ?_).mono ?_; (simp [*]); (simp [*]); (simp [*]); (simp [*]); (rw [hs2.out]; exact ht.out); rintro e w2 ⟨T, rfl, hT, hs, hb⟩))
  go_wp2
  go_ret
  exact ⟨T, rfl, hT, hs, below_step (below_step (below_drewN _ 1) hb2.out) hb⟩

theorem without_any : ∀ (T : TT) (w : World) (key : ByteArray) (t : ST), T.In w → withoutS T.strip key = some t → Calls Try.prog 20 #[.pointer T.adr, .string key] w (WoutPost t w) := by
  intro T
  induction T with
  | nil => intro w key t _ h; obtain rfl := Option.some.inj h; exact without_nil key w
  | node b xk xn l r d c ihl ihr =>
    intro w key t hp h
    simp only [TT.strip] at h
    unfold withoutS at h
    by_cases h1 : blt key xk = true
    · rw [if_pos h1] at h
      obtain ⟨z, hz, ht⟩ := Option.bind_eq_some_iff.mp h
      exact without_less b xk xn l r d c key z t w hp h1 ihl hz ht
    · rw [if_neg h1] at h
      replace h1 := Bool.eq_false_iff.mpr h1
      by_cases h2 : key = xk
      · rw [if_pos h2] at h
        subst h2
        cases l with
        | nil =>
          obtain rfl : r.strip = t := by simpa [TT.strip] using h
          exact without_left b xn r d c key w hp h1
        | node lb lk ln ll lr ld lc =>
          cases r with
          | nil =>
            obtain rfl : (TT.node lb lk ln ll lr ld lc).strip = t := by simpa [TT.strip] using h
            exact without_right b xn lb lk ln ll lr ld lc d c key w hp h1
          | node rb rk rn rl rr rd rc =>
            simp only [TT.strip] at h
            cases hf : firstS (.node rk rn rl.strip rr.strip rd rc) with
            | nil => rw [hf] at h; cases h
            | node fk fn fl fr fd fc =>
              rw [hf] at h
              obtain ⟨z, hz, ht⟩ := Option.bind_eq_some_iff.mp h
              exact without_both b xn lb lk ln ll lr ld lc rb rk rn rl rr rd rc d c key w hp h1 fk fn fl fr fd fc hf z t ihr hz ht
      · rw [if_neg h2] at h
        obtain ⟨z, hz, ht⟩ := Option.bind_eq_some_iff.mp h
        exact without_more b xk xn l r d c key z t w hp h1 (beq_list_false h2) ihr hz ht
end Go.Proofs.Ytdjcomlpedokeaa
