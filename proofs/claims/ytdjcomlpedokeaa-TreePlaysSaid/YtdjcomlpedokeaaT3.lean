import Derived.Test.YtdjcomlpedokeaaT2
namespace Go.Proofs.Ytdjcomlpedokeaa
open Go.RowKit Go.Deep

set_option maxHeartbeats 4000000 in
set_option maxRecDepth 100000 in
/-- A left part too deep, no turning of it. -/
theorem madeA2 (k : Nat) (ih : Hid (MadeOk k)) (b : Nat) (key : ByteArray) (n : Int) (pb : Nat) (pk : ByteArray) (pn : Int) (pl pr : TT) (pd pc : Int) (r : TT) (z t : ST) (w : World) (g0 : w.cell? ⟨b, 0, none⟩ = some (.string key)) (g1 : w.cell? ⟨b, 1, none⟩ = some (.int .i64 n))
    (hp : (TT.node pb pk pn pl pr pd pc).In w) (ho : r.In w) (n2 : ((pd - r.deep) == 2) = true) (n3 : decide (pl.deep < pr.deep) = false)
    (hz : Hid (madeF k key n pr.strip r.strip = some z)) (ht : Hid (madeF k pk pn pl.strip z = some t)) :
    Calls Try.prog 25 #[.pointer (some ⟨b, 0, none⟩), .pointer (some ⟨pb, 0, none⟩), .pointer r.adr] w (MadePost t w) := by
  obtain ⟨f0, f1, f2, f3, _, _⟩ := TT.cells hp
  have hpl := hp.left
  have hpr := hp.right
  obtain ⟨dl1, dl2⟩ := hp.deep
  obtain ⟨dr1, dr2⟩ := ho.deep
  unfold topI at dl2 dr2
  simp only [TT.deep_node] at dl1 dl2
  go_enter Try.func25, Try.ntmps25
  go_wp2_with (first | (go_at_call_of 22 (Value.pointer (some ⟨pb, 0, none⟩)); refine (depth_any (TT.node pb pk pn pl pr pd pc) _ hp).mono ?_; rintro e w' ⟨rfl, rfl⟩; simp only [TT.deep_node]) | (go_at_call_of 22 (Value.pointer r.adr); refine (depth_any r _ ho).mono ?_; rintro e w' ⟨rfl, rfl⟩))
  go_quiet (first | (go_at_call_of 22 (Value.pointer pl.adr); refine quiet_eq (depth_any pl _ ?_); simp [*]) | (go_at_call_of 22 (Value.pointer pr.adr); refine quiet_eq (depth_any pr _ ?_); simp [*]))
  go_wp2
  go_region_held3 (fun w' => w'.cell? ⟨b, 0, none⟩ = some (.string key) ∧ w'.cell? ⟨b, 1, none⟩ = some (.int .i64 n) ∧ w'.cell? ⟨pb, 0, none⟩ = some (.string pk) ∧ w'.cell? ⟨pb, 1, none⟩ = some (.int .i64 pn) ∧
      w'.cell? ⟨pb, 2, none⟩ = some (.pointer pl.adr) ∧ w'.cell? ⟨pb, 3, none⟩ = some (.pointer pr.adr) ∧ pl.In w' ∧ pr.In w' ∧ r.In w')
    (first | go_keep | (refine ⟨?_, ?_, ?_, ?_, ?_, ?_, ?_, ?_, ?_⟩ <;> first | exact cell_keep hb (by simp [*]) | exact TT.In.below (by simp [*]) hb))
    (first
      | (go_at_call_of 25 (Value.pointer (some ⟨b, 0, none⟩)); refine (ih.out b key n pr r z _ ?_ ?_ ?_ ?_ hz.out).mono ?_; (simp [*]); (simp [*]); (simp [*]); (simp [*]); rintro e w2 ⟨Z, rfl, hZ, hs, hb⟩; have hs2 := Lib.hid hs; clear hs; have hb2 := Lib.hid hb)
      | (go_at_call_of 25 (Value.pointer (some ⟨pb, 0, none⟩)); refine (ih.out pb pk pn pl Z t _ ?_ ?_ ?_ ?_ ?_).mono ?_; (simp [*]); (simp [*]); (simp [*]); (simp [*]); (rw [hs2.out]; exact ht.out); rintro e w2 ⟨T, rfl, hT, hs, hb⟩))
  go_wp2
  go_ret
  exact ⟨T, rfl, hT, hs, below_step (below_step (below_drewN _ _) hb2.out) hb⟩

set_option maxHeartbeats 4000000 in
set_option maxRecDepth 100000 in
/-- A right part too deep, no turning of it. -/
theorem madeB2 (k : Nat) (ih : Hid (MadeOk k)) (b : Nat) (key : ByteArray) (n : Int) (pb : Nat) (pk : ByteArray) (pn : Int) (pl pr : TT) (pd pc : Int) (l : TT) (z t : ST) (w : World) (g0 : w.cell? ⟨b, 0, none⟩ = some (.string key)) (g1 : w.cell? ⟨b, 1, none⟩ = some (.int .i64 n))
    (hp : (TT.node pb pk pn pl pr pd pc).In w) (ho : l.In w) (n2 : ((l.deep - pd) == 2) = false) (n2' : ((l.deep - pd) == -2) = true) (n3 : decide (pr.deep < pl.deep) = false)
    (hz : Hid (madeF k key n l.strip pl.strip = some z)) (ht : Hid (madeF k pk pn z pr.strip = some t)) :
    Calls Try.prog 25 #[.pointer (some ⟨b, 0, none⟩), .pointer l.adr, .pointer (some ⟨pb, 0, none⟩)] w (MadePost t w) := by
  obtain ⟨f0, f1, f2, f3, _, _⟩ := TT.cells hp
  have hpl := hp.left
  have hpr := hp.right
  obtain ⟨dl1, dl2⟩ := hp.deep
  obtain ⟨dr1, dr2⟩ := ho.deep
  unfold topI at dl2 dr2
  simp only [TT.deep_node] at dl1 dl2
  go_enter Try.func25, Try.ntmps25
  go_wp2_with (first | (go_at_call_of 22 (Value.pointer (some ⟨pb, 0, none⟩)); refine (depth_any (TT.node pb pk pn pl pr pd pc) _ hp).mono ?_; rintro e w' ⟨rfl, rfl⟩; simp only [TT.deep_node]) | (go_at_call_of 22 (Value.pointer l.adr); refine (depth_any l _ ho).mono ?_; rintro e w' ⟨rfl, rfl⟩))
  go_quiet (first | (go_at_call_of 22 (Value.pointer pl.adr); refine quiet_eq (depth_any pl _ ?_); simp [*]) | (go_at_call_of 22 (Value.pointer pr.adr); refine quiet_eq (depth_any pr _ ?_); simp [*]))
  go_wp2
  go_region_held3 (fun w' => w'.cell? ⟨b, 0, none⟩ = some (.string key) ∧ w'.cell? ⟨b, 1, none⟩ = some (.int .i64 n) ∧ w'.cell? ⟨pb, 0, none⟩ = some (.string pk) ∧ w'.cell? ⟨pb, 1, none⟩ = some (.int .i64 pn) ∧
      w'.cell? ⟨pb, 2, none⟩ = some (.pointer pl.adr) ∧ w'.cell? ⟨pb, 3, none⟩ = some (.pointer pr.adr) ∧ pl.In w' ∧ pr.In w' ∧ l.In w')
    (first | go_keep | (refine ⟨?_, ?_, ?_, ?_, ?_, ?_, ?_, ?_, ?_⟩ <;> first | exact cell_keep hb (by simp [*]) | exact TT.In.below (by simp [*]) hb))
    (first
      | (go_at_call_of 25 (Value.pointer (some ⟨b, 0, none⟩)); refine (ih.out b key n l pl z _ ?_ ?_ ?_ ?_ hz.out).mono ?_; (simp [*]); (simp [*]); (simp [*]); (simp [*]); rintro e w2 ⟨Z, rfl, hZ, hs, hb⟩; have hs2 := Lib.hid hs; clear hs; have hb2 := Lib.hid hb)
      | (go_at_call_of 25 (Value.pointer (some ⟨pb, 0, none⟩)); refine (ih.out pb pk pn Z pr t _ ?_ ?_ ?_ ?_ ?_).mono ?_; (simp [*]); (simp [*]); (simp [*]); (simp [*]); (rw [hs2.out]; exact ht.out); rintro e w2 ⟨T, rfl, hT, hs, hb⟩))
  go_wp2
  go_ret
  exact ⟨T, rfl, hT, hs, below_step (below_step (below_drewN _ _) hb2.out) hb⟩

end Go.Proofs.Ytdjcomlpedokeaa
