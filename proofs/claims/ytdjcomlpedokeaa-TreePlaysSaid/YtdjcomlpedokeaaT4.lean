import Derived.Test.YtdjcomlpedokeaaT2
namespace Go.Proofs.Ytdjcomlpedokeaa
open Go.RowKit Go.Deep

set_option maxHeartbeats 4000000 in
set_option maxRecDepth 100000 in
/-- A left part too deep, whose right part is the deeper one. -/
theorem madeA1 (k : Nat) (ih : Hid (MadeOk k)) (b : Nat) (key : ByteArray) (n : Int) (pb : Nat) (pk : ByteArray) (pn : Int) (pl : TT) (pd pc : Int) (mb : Nat) (mk : ByteArray) (mn : Int) (ml mr : TT) (md mc : Int) (r : TT) (x yl yr : ST) (yk : ByteArray) (yn yd yc : Int) (z t : ST) (w : World)
    (g0 : w.cell? ⟨b, 0, none⟩ = some (.string key)) (g1 : w.cell? ⟨b, 1, none⟩ = some (.int .i64 n))
    (hp : (TT.node pb pk pn pl (TT.node mb mk mn ml mr md mc) pd pc).In w) (ho : r.In w) (n2 : ((pd - r.deep) == 2) = true) (n3 : decide (pl.deep < md) = true)
    (hx : Hid (madeF k pk pn pl.strip ml.strip = some x)) (hy : Hid (madeF k mk mn x mr.strip = some (ST.node yk yn yl yr yd yc)))
    (hz : Hid (madeF k key n yr r.strip = some z)) (ht : Hid (madeF k yk yn yl z = some t)) :
    Calls Try.prog 25 #[.pointer (some ⟨b, 0, none⟩), .pointer (some ⟨pb, 0, none⟩), .pointer r.adr] w (MadePost t w) := by
  obtain ⟨f0, f1, f2, f3, _, _⟩ := TT.cells hp
  have hpl := hp.left
  have hpr := hp.right
  have hm : (TT.node mb mk mn ml mr md mc).In w := hpr
  obtain ⟨m0, m1, m2, m3, _, _⟩ := TT.cells hm
  have hml := hm.left
  have hmr := hm.right
  simp only [TT.adr_node] at f2 f3
  obtain ⟨dl1, dl2⟩ := hp.deep
  obtain ⟨dr1, dr2⟩ := ho.deep
  unfold topI at dl2 dr2
  simp only [TT.deep_node] at dl1 dl2
  go_enter Try.func25, Try.ntmps25
  go_wp2_with (first | (go_at_call_of 22 (Value.pointer (some ⟨pb, 0, none⟩)); refine (depth_any (TT.node pb pk pn pl (TT.node mb mk mn ml mr md mc) pd pc) _ hp).mono ?_; rintro e w' ⟨rfl, rfl⟩; simp only [TT.deep_node]) | (go_at_call_of 22 (Value.pointer r.adr); refine (depth_any r _ ho).mono ?_; rintro e w' ⟨rfl, rfl⟩))
  go_quiet (first | (go_at_call_of 22 (Value.pointer pl.adr); refine quiet_eq (depth_any pl _ ?_); simp [*]) | (go_at_call_of 22 (Value.pointer (some ⟨mb, 0, none⟩)); refine quiet_eq (depth_node _ (?_ : TT.In _ (TT.node mb mk mn ml mr md mc))); simp [*]))
  go_wp2
  go_region_held3 (fun w' => w'.cell? ⟨b, 0, none⟩ = some (.string key) ∧ w'.cell? ⟨b, 1, none⟩ = some (.int .i64 n) ∧ w'.cell? ⟨pb, 0, none⟩ = some (.string pk) ∧ w'.cell? ⟨pb, 1, none⟩ = some (.int .i64 pn) ∧
      w'.cell? ⟨pb, 2, none⟩ = some (.pointer pl.adr) ∧ w'.cell? ⟨pb, 3, none⟩ = some (.pointer (some ⟨mb, 0, none⟩)) ∧
      w'.cell? ⟨mb, 0, none⟩ = some (.string mk) ∧ w'.cell? ⟨mb, 1, none⟩ = some (.int .i64 mn) ∧ w'.cell? ⟨mb, 2, none⟩ = some (.pointer ml.adr) ∧ w'.cell? ⟨mb, 3, none⟩ = some (.pointer mr.adr) ∧
      pl.In w' ∧ ml.In w' ∧ mr.In w' ∧ r.In w')
    (first | go_keep | (refine ⟨?_, ?_, ?_, ?_, ?_, ?_, ?_, ?_, ?_, ?_, ?_, ?_, ?_, ?_⟩ <;> first | exact cell_keep hb (by simp [*]) | exact TT.In.below (by simp [*]) hb))
    (first
      | (go_at_call_of 25 (Value.pointer (some ⟨pb, 0, none⟩)); refine (ih.out pb pk pn pl ml x _ ?_ ?_ ?_ ?_ hx.out).mono ?_; (simp [*]); (simp [*]); (simp [*]); (simp [*]); rintro e w2 ⟨X, rfl, hX, hs, hb⟩; have hsx := Lib.hid hs; clear hs; have hbx := Lib.hid hb)
      | (go_at_call_of 25 (Value.pointer (some ⟨mb, 0, none⟩)); refine (ih.out mb mk mn X mr (ST.node yk yn yl yr yd yc) _ ?_ ?_ ?_ ?_ ?_).mono ?_; (simp [*]); (simp [*]); (simp [*]); (simp [*]); (rw [hsx.out]; exact hy.out); rintro e w2 ⟨Y, rfl, hY, hs, hb⟩; have hsy := Lib.hid hs; clear hs; have hby := Lib.hid hb))
  clear hb g0 g1 f0 f1 f2 f3 m0 m1 m2 m3 hX
  cases Y with
  | nil => exact absurd hsy.out (by simp [TT.strip])
  | node yb yk' yn' Yl Yr yd' yc' =>
  have hyy := hsy.out
  simp only [TT.strip, ST.node.injEq] at hyy
  obtain ⟨rfl, rfl, hyl, hyr, rfl, rfl⟩ := hyy
  have hyl := Lib.hid hyl
  have hyr := Lib.hid hyr
  obtain ⟨y0, y1, y2, y3, _, _⟩ := TT.cells hY
  have hYl := hY.left
  have hYr := hY.right
  simp only [TT.adr_node]
  go_wp2
  go_region_held3 (fun w' => w'.cell? ⟨b, 0, none⟩ = some (.string key) ∧ w'.cell? ⟨b, 1, none⟩ = some (.int .i64 n) ∧ w'.cell? ⟨yb, 0, none⟩ = some (.string yk') ∧ w'.cell? ⟨yb, 1, none⟩ = some (.int .i64 yn') ∧
      w'.cell? ⟨yb, 2, none⟩ = some (.pointer Yl.adr) ∧ w'.cell? ⟨yb, 3, none⟩ = some (.pointer Yr.adr) ∧ Yl.In w' ∧ Yr.In w' ∧ r.In w')
    (first | go_keep | (refine ⟨?_, ?_, ?_, ?_, ?_, ?_, ?_, ?_, ?_⟩ <;> first | exact cell_keep hb (by simp [*]) | exact TT.In.below (by simp [*]) hb))
    (first
      | (go_at_call_of 25 (Value.pointer (some ⟨b, 0, none⟩)); refine (ih.out b key n Yr r z _ ?_ ?_ ?_ ?_ ?_).mono ?_; (simp [*]); (simp [*]); (simp [*]); (simp [*]); (rw [hyr.out]; exact hz.out); rintro e w2 ⟨Z, rfl, hZ, hs, hb⟩; have hsz := Lib.hid hs; clear hs; have hbz := Lib.hid hb)
      | (go_at_call_of 25 (Value.pointer (some ⟨yb, 0, none⟩)); refine (ih.out yb yk' yn' Yl Z t _ ?_ ?_ ?_ ?_ ?_).mono ?_; (simp [*]); (simp [*]); (simp [*]); (simp [*]); (rw [hyl.out, hsz.out]; exact ht.out); rintro e w2 ⟨T, rfl, hT, hs, hb⟩))
  go_wp2
  go_ret
  exact ⟨T, rfl, hT, hs, below_step (below_step (below_step (below_step (below_drewN _ _) hbx.out) hby.out) (below_step (below_drewN _ _) hbz.out)) hb⟩

end Go.Proofs.Ytdjcomlpedokeaa
