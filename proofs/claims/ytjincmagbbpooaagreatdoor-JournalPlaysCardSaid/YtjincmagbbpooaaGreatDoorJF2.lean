import Derived.Test.YtjincmagbbpooaaGreatDoorM15
import Derived.Test.YtjincmagbbpooaaGreatDoorM6
import Derived.Lib.OwnKind
import Derived.Lib.OthersKept
import Derived.Shelf.Strings.BuilderK
set_option linter.unusedVariables false
set_option linter.unusedSimpArgs false
namespace Go.Proofs.YtjincmagbbpooaaGreatDoor
open Go.RowKit

theorem DskPost.after {F : Nat → Prop} {p : Nat} {w w1 w2 : World} {D2 : DS} (hb : Below w.heap.size w w1) (h : DskPost F p w1 D2 w2) : DskPost F p w D2 w2 := by
  refine ⟨((Save.of_below hb).trans (h.1.mono fun _ _ hk => .inl hk)), h.2.mono fun k hk hp => ?_⟩
  have := hb.size
  rcases hp with hp | hp
  · exact .inl hp
  · exact .inr ⟨by omega, hp.2⟩

/-- A row that was there ahead of what the disk has taken lies outside it. -/
theorem DskPost.far {F : Nat → Prop} {p q : Nat} {w wm w' : World} {D : DS} {e : TypeId} {s n : Nat} {v : Value} {xs : List Value} (h : DskPost F p wm D w') (hF : ∀ k, F k → k < w.heap.size) (hb : Below w.heap.size w wm) (ho : wm.ownsRow w.heap.size e s v n xs) (hq0 : w.heap.size ≤ q) (hq : q < wm.heap.size) :
    ∃ G : Nat → Prop, Dsk w' G p D ∧ (∀ k, G k → F k ∨ (w.heap.size ≤ k ∧ k < w'.heap.size)) ∧ (∀ g, v.ownBlock = some g → ¬ G g) ∧ ¬ G q := by
  refine ⟨Plus F wm w', h.2, fun k hk => hk.imp_right fun h => ⟨by have := hb.size; omega, h.2⟩, fun g hg hk => ?_, fun hk => ?_⟩
  · have := ho.lt g hg
    rcases hk with hk | hk
    · have := hF g hk; omega
    · omega
  · rcases hk with hk | hk
    · have := hF q hk; omega
    · omega
theorem byte_cat (a b : ByteArray) : Lib.byteCells (a ++ b).data.toList = Lib.byteCells a.data.toList ++ Lib.strCells b := by
  unfold Lib.byteCells Lib.strCells
  rw [ByteArray.data_append, Array.toList_append, List.map_append]

theorem bstring_any (B b : Nat) (s : ByteArray) (w : World) (h : Lib.IsBuilderF 81 5 B b (Lib.byteCells s.data.toList) w) (hB : B ≤ w.heap.size) :
    Calls Tryz.prog 41 #[.pointer (some ⟨b, 0, none⟩)] w fun e w' => e = .returned (.string s) ∧ (Lib.IsBuilderF 81 5 B b (Lib.byteCells s.data.toList) w' ∧ Below B w w' ∧ Lib.OthersKept 5 (some b) w w') :=
  Any.Builder_String_any_k Tryz.lays169 Tryz.Builder_Extra_169 B b s.data.toList w h hB
theorem blk_others {T : TypeId} {b : Nat} {w w' : World} {q : Nat} {t : TypeId} {cs : Array Value} (h : Blk w q t cs) (hk : Lib.OthersKept T (some b) w w') (hb : q ≠ b) (ht : t ≠ T) : Blk w' q t cs :=
  hk q _ h (fun e => hb (Option.some.inj e)) (fun c fz e => by cases e; exact ht rfl)
theorem blen_any (B b : Nat) (s : ByteArray) (w : World) (h : Lib.IsBuilderF 81 5 B b (Lib.byteCells s.data.toList) w) :
    Calls Tryz.prog 44 #[.pointer (some ⟨b, 0, none⟩)] w fun e w' => e = .returned (.int .i64 (s.size : Int)) ∧ w = w' := by
  refine (Tryz.Builder_Len_f B b _ w h).mono fun e w' ⟨h1, h2⟩ => ⟨?_, h2.symm⟩
  rw [h1, Lib.byteCells_length, Array.length_toList]
  rfl
theorem own_others {T e : TypeId} {b : Nat} {w w' : World} {base n : Nat} {v : Value} {xs : List Value} (h : w.ownsRow base e 1 v n xs) (hk : Lib.OthersKept T (some b) w w') (he : e ≠ T) (hb : ∀ g, v.ownBlock = some g → g ≠ b) : w'.ownsRow base e 1 v n xs :=
  own_same h fun g hg => by
    obtain ⟨c, fz, hc⟩ := Lib.ownsRow_kind h g hg
    exact (hk g _ hc (fun e' => hb g hg (Option.some.inj e')) (fun c' fz' e' => by cases e'; exact he rfl)).trans hc.symm
def jS (q : Nat) (b : ByteArray) : Nat → World → Prop := fun i w' => match i with
  | 1 => w'.cell? ⟨q, 3, none⟩ = some (.string b)
  | _ => True
def jD : Nat → List Nat
  | 0 => []
  | _ + 1 => [12]
theorem jS_of {q p : Nat} {J : JS} {w : World} {t : TypeId} (h : Blk w q t (jCells p J)) (i : Nat) : jS q J.b i w := by
  match i with
  | 0 => exact trivial
  | 1 => exact h.cell 3
  | _ + 2 => exact trivial
theorem plus_out {F : Nat → Prop} {B k : Nat} {w w1 : World} (hF : ∀ k, F k → k < B) (hB : B ≤ k) (hk : k < w.heap.size) : ¬ Plus F w w1 k := fun h => by
  rcases h with h | h
  · have := hF k h; omega
  · omega
theorem below_grows {W W' : World} (hb : Below W.heap.size W W') : W.grownBy W' none := ⟨hb.os, hb.tape, hb.output, hb.size, fun k hk _ => hb.block k hk⟩
theorem heap_lt {W : World} {b : Nat} {o : Obj} (h : W.heap[b]? = some o) : b < W.heap.size := by
  rcases Nat.lt_or_ge b W.heap.size with h' | h'
  · exact h'
  · rw [Array.getElem?_eq_none h'] at h; cases h
theorem isb_at {T e : TypeId} {B b : Nat} {p : Value} {bs : List Value} {W W' : World} {row : Option Nat} (h : Lib.BuilderAtF T e B b p bs W) (hg : W.grownBy W' row) (h1 : some b ≠ row) (h2 : ∀ g c fz, W.heap[g]? = some (.cells c e fz) → some g ≠ row) : Lib.BuilderAtF T e B b p bs W' := by
  obtain ⟨hB, v, hbk, hown, hne⟩ := h
  refine ⟨hB, v, (hg.block b (heap_lt hbk) h1).trans hbk, hown.kept hg ?_, hne⟩
  cases hv : v.ownBlock with
  | none => exact .inl rfl
  | some g =>
    obtain ⟨c, fz, hc⟩ := Lib.ownsRowF_kind hown g hv
    exact .inr (h2 g c fz hc)
theorem isb_kept {T e : TypeId} {B b : Nat} {bs : List Value} {W W' : World} {row : Option Nat} (h : Lib.IsBuilderF T e B b bs W) (hg : W.grownBy W' row) (h1 : some b ≠ row) (h2 : ∀ g c fz, W.heap[g]? = some (.cells c e fz) → some g ≠ row) : Lib.IsBuilderF T e B b bs W' :=
  h.elim (fun h => .inl (isb_at h hg h1 h2)) (fun h => .inr (isb_at h hg h1 h2))
theorem isb_below {T e : TypeId} {B b : Nat} {bs : List Value} {W W' : World} (h : Lib.IsBuilderF T e B b bs W) (hb : Below W.heap.size W W') : Lib.IsBuilderF T e B b bs W' :=
  isb_kept h (below_grows hb) (by simp) (fun _ _ _ _ => by simp)
theorem isb_blk {T e : TypeId} {B b : Nat} {bs : List Value} {W : World} (h : Lib.IsBuilderF T e B b bs W) : ∃ c, W.heap[b]? = some (.cells c T (0, 0)) := by
  rcases h with ⟨_, v, hbk, _⟩ | ⟨_, v, hbk, _⟩
  · exact ⟨_, hbk⟩
  · exact ⟨_, hbk⟩
/-- A row of another type grows. -/
theorem isb_grown {T e e' : TypeId} {B b base n : Nat} {bs xs : List Value} {v : Value} {W W' : World} (h : Lib.IsBuilderF T e B b bs W) (ho : W.ownsRow base e' 1 v n xs) (hg : W.grownBy W' v.ownBlock) (hT : e' ≠ T) (he : e' ≠ e) : Lib.IsBuilderF T e B b bs W' := by
  have hk : ∀ g, v.ownBlock = some g → ∃ c fz, W.heap[g]? = some (.cells c e' fz) := Lib.ownsRow_kind ho
  refine isb_kept h hg (fun hb => ?_) (fun g c fz hc hb => ?_)
  · obtain ⟨c, hc⟩ := isb_blk h
    obtain ⟨c', fz, hc'⟩ := hk b hb.symm
    rw [hc] at hc'
    cases hc'
    exact hT rfl
  · obtain ⟨c', fz', hc'⟩ := hk g hb.symm
    rw [hc] at hc'
    cases hc'
    exact he rfl

set_option maxHeartbeats 32000000 in
set_option maxRecDepth 100000 in
theorem jOpen_any (F : Nat → Prop) (p : Nat) (D : DS) (w : World) (h : Dsk w F p D) (hg : ErrVar w) (hF : ∀ k, F k → k < w.heap.size) (hgF : ¬ F 0) (hgw : 0 < w.heap.size) (hd : D.done < 1099510000000) (ht : D.newest.1 ≤ 1000000) :
    Calls Tryz.prog 9 #[.pointer (some ⟨p, 0, none⟩)] w (JOpenPost F p D.opens w) := by
  have HD := Lib.hid h
  have HG := Lib.hid hg
  have HFF := Lib.hid (And.intro hF (And.intro hgF hgw))
  have cl := Lib.hid (Len_any w F p D h)
  unfold JOpenPost
  have hR : D.opens = if D.sure.length < 4 then (D, 14, ⟨0, 0, ⟨#[]⟩, 0, false⟩, []) else if D.newest.2.2 ≠ 0 then (D, D.newest.2.2, ⟨0, 0, ⟨#[]⟩, 0, false⟩, []) else _ := rfl
  by_cases h4 : D.sure.length < 4
  · rw [if_pos h4] at hR
    rw [hR]
    have t1 : (D.sure.length : Int) < 4 := by omega
    generalize D.sure.length = n at cl t1
    clear h4 hR h hg hF hgF hgw hd ht
    go_enter Tryz.func9, Tryz.ntmps9
    go_wp2_with (go_at_call 36; (with_reducible refine cl.out.mono ?_); rintro e w1 ⟨rfl, rfl⟩)
    go_ret3
    exact ⟨DskPost.start HD.out, .inl ⟨by decide, rfl⟩⟩
  rw [if_neg h4] at hR
  have t1 : (4 : Int) ≤ (D.sure.length : Int) := by omega
  have cn := Lib.hid (newest_any F p D w h hg)
  have hw1 := newest_half D
  by_cases hne : D.newest.2.2 ≠ 0
  · rw [if_pos hne] at hR
    rw [hR]
    generalize D.newest.2.2 = er at cn hne ⊢
    generalize D.newest.1 = turn at cn
    generalize D.newest.2.1 = which at cn
    rw [errV_ne hne] at cn
    have HE := Lib.hid (And.intro hne (errV_ne hne))
    generalize D.sure.length = n at cl t1
    clear h4 hR h hg hF hgF hgw hd ht hne hw1
    go_enter Tryz.func9, Tryz.ntmps9
    go_wp2_with (first
      | (go_at_call 36; (with_reducible refine cl.out.mono ?_); rintro e w1 ⟨rfl, rfl⟩)
      | (go_at_call 37; (with_reducible refine cn.out.mono ?_); rintro e w1 ⟨rfl, hb⟩; have HB := Lib.hid hb; clear hb))
    go_ret3
    exact ⟨(DskPost.start HD.out).below HB.out, .inl ⟨HE.out.1, by rw [HE.out.2]; rfl⟩⟩
  rw [if_neg hne] at hR
  have hne0 := Classical.byContradiction hne
  obtain ⟨hm0, hdead⟩ := newest_ok hne0
  rw [hne0, errV_zero] at cn
  generalize D.newest.1 = turn at cn hR ht
  generalize D.newest.2.1 = which at cn hR hw1
  obtain ⟨H, hH⟩ : ∃ H, H = D.half := ⟨_, rfl⟩
  have hHle : H ≤ 999 := by rw [hH]; exact half_le h.ok
  have hlen2 : 2 ≤ D.sure.length := by omega
  have HK := Lib.hid (And.intro hdead (And.intro hw1 (And.intro hlen2 (And.intro hH hd))))
  rw [← hH] at hR
  have HRR := Lib.hid hR
  generalize D.opens = R at HRR ⊢
  have ch := Lib.hid (fun W (hW : Below w.heap.size w W) => half_any W F p D hlen2 (h.below hW))
  rw [← hH] at ch
  generalize D.sure.length = n at cl t1
  clear h4 hR h hg hF hgF hgw hne hne0 hw1 hdead hm0 hlen2 hH hd
  go_enter Tryz.func9, Tryz.ntmps9
  go_upto_region 6 with (first
    | (go_at_call 36; (with_reducible refine cl.out.mono ?_); rintro e w1 ⟨rfl, rfl⟩)
    | (go_at_call 37; (with_reducible refine cn.out.mono ?_); rintro e w1 ⟨rfl, hb⟩; have HB1 := Lib.hid hb; clear hb))
  go_upto_region 8 with (go_at_call 38; (refine (ch.out _ (by first | exact HB1.out.alloc HB1.out.size _ | exact HB1.out)).mono ?_); rintro e w2 ⟨rfl, hw2⟩)
  have hbk : w2.heap[w1.heap.size]? = some (.cells #[.pointer none, .slice none 0 0] 81 (0, 0)) := by rw [← hw2]; exact heap_alloc_new _ _
  have HB2 : Hid (Below w.heap.size w w2) := by rw [← hw2]; exact HB1.out.alloc HB1.out.size _
  have HBU : Hid (Lib.IsBuilderF 81 5 w.heap.size w1.heap.size [] w2) := .inl ⟨HB1.out.size, .slice none 0 0, hbk, World.ownsRowF_nil _ _ _ _, by simp [Value.ownBlock]⟩
  generalize w1.heap.size = bq at HBU ⊢
  clear hbk hw2 cl cn HB1
  go_loopg [34] H (fun kq v34 wr => ∃ i : Nat, v34 = .int .i64 (i : Int) ∧ i + kq = H ∧ Hid (Lib.IsBuilderF 81 5 w.heap.size bq (Lib.byteCells (D.joinP which i).data.toList) wr) ∧ Hid (Below w.heap.size w wr))
  case atStart => exact ⟨0, rfl, by omega, HBU, HB2⟩
  case round =>
    clear HBU HB2
    obtain ⟨i, rfl, hi, HBU, HB⟩ := hrel
    by_cases hlt : i < H
    · have q1 : (i : Int) < (H : Int) := by omega
      obtain ⟨k', rfl⟩ : ∃ k', gk = k' + 1 := ⟨gk - 1, by omega⟩
      have cs := Lib.hid (sector_any wr F p D which i HK.out.2.1 (by omega) HK.out.2.2.1 (HD.out.below HB.out))
      have cr := Lib.hid (Read_any wr F p D (D.sec which i : Int) (HD.out.below HB.out))
      rw [may_sec HK.out.1 HK.out.2.1 (by rw [← HK.out.2.2.2.1]; exact hlt), errV_zero] at cr
      have hj := joinP_size HD.out.ok which i
      have hs := readS_64 HD.out.ok (D.sec which i : Int)
      have hnx : D.joinP which (i + 1) = D.joinP which i ++ D.readS (D.sec which i : Int) := rfl
      have cw := Lib.hid (bwrite_any w.heap.size bq (Lib.byteCells (D.joinP which i).data.toList) (D.readS (D.sec which i : Int)) wr HBU.out (by rw [Lib.byteCells_length, Array.length_toList]; show (D.joinP which i).size + _ ≤ _; omega) HB.out.size)
      rw [← byte_cat, ← hnx] at cw
      generalize D.readS (D.sec which i : Int) = s at cr cw
      generalize D.sec which i = q at cs cr
      clear hj hs hnx hlt
      go_wp2_with (first
        | (go_at_call 39; (with_reducible refine cs.out.mono ?_); rintro e w3 ⟨rfl, rfl⟩)
        | (go_at_call 33; (with_reducible refine cr.out.mono ?_); rintro e w3 ⟨rfl, rfl⟩)
        | (go_at_call 40; (with_reducible refine cw.out.mono ?_); rintro e w4 ⟨rfl, hu, hb⟩; have HBU4 := Lib.hid hu; have HB4 := Lib.hid (HB.out.trans hb); clear hu hb))
      go_roundg k'
      case measure => omega
      case rel => exact ⟨i + 1, by go_num, by omega, .inr HBU4.out, HB4⟩
    · obtain rfl : i = H := by omega
      have q1 : decide ((i : Int) < (i : Int)) = false := decide_eq_false (by omega)
      have hjs := joinP_size HD.out.ok which i
      have HRR2 : Hid (R = (let all := D.joinP which i
        let r := recsOf turn all
        let b := all.extract 0 (all.size - r.2.size)
        let x := D.diff which b (b.size / 64)
        let y : DS × Int := if x.2.2 = 0 ∧ 0 < x.2.1 then (x.1.flush, x.1.flushC) else (x.1, x.2.2)
        (y.1, y.2, ⟨turn, which, b, r.1.length, false⟩, r.1))) := HRR
      generalize D.joinP which i = all at HBU HRR2 hjs
      have hall : all.size ≤ 63936 := by omega
      clear hlt hi q1 ch hjs HRR
      go_upto_region 16 with fail
      have hq : Blk (wr.alloc (.cells #[.pointer (some ⟨p, 0, none⟩), .int .i64 (turn : Int), .int .i64 (which : Int), .string ⟨#[]⟩, .int .i64 0, .bool false] 87)) wr.heap.size 87 (jCells p ⟨turn, which, ⟨#[]⟩, 0, false⟩) := Blk.new wr _ _
      replace HBU := Lib.hid (isb_below HBU.out ((Below.refl _ _).alloc (Nat.le_refl _) (.cells #[.pointer (some ⟨p, 0, none⟩), .int .i64 (turn : Int), .int .i64 (which : Int), .string ⟨#[]⟩, .int .i64 0, .bool false] 87)))
      have HQ0 : Hid (w.heap.size ≤ wr.heap.size) := HB.out.size
      replace HB := Lib.hid (HB.out.alloc HB.out.size (.cells #[.pointer (some ⟨p, 0, none⟩), .int .i64 (turn : Int), .int .i64 (which : Int), .string ⟨#[]⟩, .int .i64 0, .bool false] 87))
      generalize wr.alloc (.cells #[.pointer (some ⟨p, 0, none⟩), .int .i64 (turn : Int), .int .i64 (which : Int), .string ⟨#[]⟩, .int .i64 0, .bool false] 87) = W2 at hq HBU HB ⊢
      generalize wr.heap.size = q at hq HQ0 ⊢
      have HQ := Lib.hid hq
      have ct := Lib.hid (fun W hW (hB : w.heap.size ≤ W.heap.size) => bstring_any w.heap.size bq all W hW hB)
      have HQB : Hid (q ≠ bq) := fun e => by
        obtain ⟨c, hc⟩ := isb_blk HBU.out
        have := HQ.out
        unfold Blk at this
        rw [e, hc] at this
        injection this with this
        injection this with _ this
        exact absurd this (by decide)
      clear hq
      go_upto_region 18 with (go_at_call 41; (with_reducible refine (ct.out _ HBU.out HB.out.size).mono ?_); rintro e w5 ⟨rfl, hu, hb, ho⟩; have HBU5 := Lib.hid hu; have HQ5 : Hid (Blk w5 q 87 (jCells p ⟨turn, which, ⟨#[]⟩, 0, false⟩)) := Lib.hid (blk_others HQ.out ho HQB.out (by decide)); have HB5 := Lib.hid (HB.out.trans hb); clear hu hb ho)
      obtain ⟨i0, hi0, hz0, hz1, hz2⟩ := info_parts Tryz.infoStr
      have HI := Lib.hid hi0
      have HZ0 := Lib.hid hz0
      have HZ1 := Lib.hid hz1
      have HZ2 := Lib.hid hz2
      clear hi0 hz0 hz1 hz2 HBU HQ HB
      go_loopw [13, 14] (fun v13 v14 wr => ∃ (l : List ByteArray) (rest : ByteArray) (f : Nat), v14 = .string rest ∧ Hid (wr.ownsRow w.heap.size 9 1 v13 l.length (strsV l)) ∧ Hid (recsOf turn all = (l ++ (recsF turn f l.length rest).1, (recsF turn f l.length rest).2)) ∧ rest.size < f ∧ rest.size + l.length ≤ all.size ∧ Hid (Lib.IsBuilderF 81 5 w.heap.size bq (Lib.byteCells all.data.toList) wr) ∧ Hid (Blk wr q 87 (jCells p ⟨turn, which, ⟨#[]⟩, 0, false⟩)) ∧ Hid (Below w.heap.size w wr)) (fun _ v14 _ => match v14 with | .string s => s.size | _ => 0)
      case atStart => exact ⟨[], all, all.size + 1, rfl, World.ownsRow_nil _ _ _ _, rfl, by omega, by simp, HBU5, HQ5, HB5⟩
      case round =>
        clear HBU5 HQ5 HB5
        obtain ⟨l, rest, f, rfl, HO, HRE, hrf, hrl, HBU, HQ, HB⟩ := hrel
        obtain ⟨a3, cap3, rfl⟩ : ∃ a3 cap3, u13 = .slice a3 l.length cap3 := by
          rcases HO.out.2 with ⟨h, h0⟩ | ⟨g, cap, cur, h, _⟩
          · exact ⟨none, 0, by rw [h, h0]⟩
          · exact ⟨_, _, h⟩
        obtain ⟨L, hL⟩ : ∃ L, L = l.length := ⟨_, rfl⟩
        have hLl : L ≤ 63936 := by omega
        have cq := Lib.hid (seq_any turn L ht (by omega) wr)
        have co := Lib.hid (Open_any rest ((turn * 1000000 + L : Nat) : Int) (by omega) wr (ErrVar.below HG.out HB.out))
        unfold OpenPost at co
        obtain ⟨f', rfl⟩ : ∃ f', f = f' + 1 := ⟨f - 1, by omega⟩
        have hre := HRE.out
        rw [← hL] at hre
        unfold recsF at hre
        have hmo : (openR rest ((turn * 1000000 + L : Nat) : Int)).2.2 = 0 → (openR rest ((turn * 1000000 + L : Nat) : Int)).2.1.size + 1 ≤ rest.size := openR_more
        generalize turn * 1000000 + L = K at cq co hre hmo
        generalize (openR rest (K : Int)).1 = s at co hre
        generalize (openR rest (K : Int)).2.1 = more at co hre hmo
        generalize (openR rest (K : Int)).2.2 = er at co hre hmo
        rw [← hL] at HO
        have HLL := Lib.hid hL
        rw [← hL] at hrl
        rw [← hL]
        clear HRE hL
        by_cases he : er = 0
        · subst he
          rw [errV_zero] at co
          rw [if_neg (by decide)] at hre
          have HRE := Lib.hid hre
          have hmz := hmo rfl
          clear hre hmo
          go_wp2_with (first
            | (go_at_call 43; (with_reducible refine cq.out.mono ?_); rintro e w6 ⟨rfl, rfl⟩)
            | (go_at_call 42; (with_reducible refine co.out.mono ?_); rintro e w6 ⟨rfl, hb⟩; have HO6 := Lib.hid (own_same HO.out (fun k hk => hb.block k (HO.out.lt k hk).2)); have HBU6 := Lib.hid (isb_below HBU.out hb); have HQ6 := Lib.hid (HQ.out.below hb); have HB6 := Lib.hid (below_step HB.out hb); clear hb)
            | (at_builtin
               have a1 := HO6.out.alloc (.cells #[.string s] 9)
               have a2 : L + 1 ≤ maxLen := (by unfold maxLen; omega)
               have a3' : (L + 1) * 16 ≤ 140737488355328 := (by omega)
               have a4 := HB6.out.alloc HB6.out.size (.cells #[.string s] 9)
               have a5 : ∀ u ∈ [Value.string s], u.oneCell' = true := (by simp [Value.oneCell'])
               have a6 := isb_below HBU6.out ((Below.refl _ _).alloc (Nat.le_refl _) (.cells #[.string s] 9))
               have a7 := HQ6.out.alloc (.cells #[.string s] 9)
               refine wpList_append_lies _ rfl _ _ _ rfl w.heap.size 9 i0 (.string ⟨#[]⟩) 1 16 Tryz.underlying26 HI.out HZ0.out HZ1.out HZ2.out rfl (by decide) (.slice a3 L cap3) L (strsV l) rfl a1 _ 1 1 [.string s] rfl rfl (World.news_of_block (heap_alloc_new _ _)) a5 (by decide) a2 a3' a4.size _ rfl ?_
               intro g cap2 w7 ho2 hg2 ha2 hlt2
               have HO7 := Lib.hid ho2
               have HBU7 := Lib.hid (isb_grown a6 a1 hg2 (by decide) (by decide))
               have HQ7 := Lib.hid (a7.grown hg2 (own_blk_ne a1 a7 (by decide)))
               have HB7 := Lib.hid (a4.grown hg2 a4.size (fun k hk => (a1.lt k hk).1))
               clear ho2 hg2 ha2 hlt2 a1 a2 a3' a4 a5 a6 a7))
          go_roundw
          case rel => exact ⟨l ++ [s], more, f', rfl, by rw [List.length_append, ← HLL.out]; unfold strsV at HO7 ⊢; rw [List.map_append]; exact HO7.out, by rw [HRE.out, List.length_append, ← HLL.out, List.append_assoc]; rfl, by omega, by rw [List.length_append, ← HLL.out]; simp only [List.length_cons, List.length_nil]; omega, HBU7, HQ7, HB7⟩
          case measure => simp only; omega
        · rw [if_pos he] at hre
          rw [errV_ne he] at co
          rw [hre] at HRR2
          simp only [List.append_nil] at HRR2
          obtain ⟨m, hm⟩ : ∃ m : Nat, m = all.size - rest.size := ⟨_, rfl⟩
          obtain ⟨b, hb⟩ : ∃ b, b = all.extract 0 m := ⟨_, rfl⟩
          rw [← hm, ← hb] at HRR2
          rw [← HLL.out] at HRR2
          have hmI : IntKind.i64.wrap ((all.size : Int) - (rest.size : Int)) = (m : Int) := by rw [IntWalk.i64_in _ (by omega)]; omega
          have hmA : (m : Int) ≤ (all.size : Int) := by omega
          have hbz : b.size = m := by rw [hb, ByteArray.size_extract]; omega
          have hbx : all.extract 0 m = b := hb.symm
          obtain ⟨k, hk⟩ : ∃ k : Nat, k = b.size / 64 := ⟨_, rfl⟩
          have hkI : (b.size : Int) / 64 = (k : Int) := by omega
          have hkW : IntKind.i64.wrap (k : Int) = (k : Int) := IntWalk.i64_in _ (by omega)
          rw [← hk] at HRR2
          have HZ := Lib.hid (And.intro hbz (And.intro hk hmA))
          clear hre he hmo hrf hrl hb hm hk hbz
          have hbT : Hid (∀ g, (Value.slice a3 L cap3).ownBlock = some g → g ≠ bq) := by
            intro g hg e
            obtain ⟨c, hc⟩ := isb_blk HBU.out
            obtain ⟨c', fz, hc'⟩ := Lib.ownsRow_kind HO.out g hg
            rw [e, hc] at hc'
            cases hc'
          go_upto_region 22 with (first
            | (go_at_call 43; (with_reducible refine cq.out.mono ?_); rintro e w6 ⟨rfl, rfl⟩)
            | (go_at_call 42; (with_reducible refine co.out.mono ?_); rintro e w6 ⟨rfl, hb⟩; have HO6 := Lib.hid (own_same HO.out (fun k hk => hb.block k (HO.out.lt k hk).2)); have HBU6 := Lib.hid (isb_below HBU.out hb); have HQ6 := Lib.hid (HQ.out.below hb); have HB6 := Lib.hid (below_step HB.out hb); clear hb))
          have HBU : Hid (Lib.IsBuilderF 81 5 w.heap.size bq (Lib.byteCells all.data.toList) w6.drew) := isb_below HBU6.out ((Below.refl _ _).drew)
          have HQ : Hid (Blk w6.drew q 87 (jCells p ⟨turn, which, ⟨#[]⟩, 0, false⟩)) := HQ6
          have HO : Hid (w6.drew.ownsRow w.heap.size 9 1 (.slice a3 L cap3) L (strsV l)) := HO6.out.drew
          have HB : Hid (Below w.heap.size w w6.drew) := HB6.out.drew
          clear HBU6 HQ6 HO6 HB6 ct cq co
          refine wp_region_fam (S := (fun _ _ => True)) (ds := (fun _ => [])) (by kernel_rfl) ?_
          refine wpFam_take (i := 0) 0 (some 75) (v := ?_) rfl (by kernel_rfl) (by kernel_rfl) (by kernel_rfl) (by kernel_rfl) (by kernel_rfl) (fun _ _ _ h => h) rfl (Or.inl ⟨by rfl, ?_⟩) (by exact trivial) ?_
          rotate_left
          · (intro w hSw; (try simp only [true_and] at hSw); go_simp); (try with_reducible rfl)
          try simp only [Act.put, List.setIfInBounds_toArray, List.set_cons_zero, List.set_cons_succ]
          refine wpFam_take (i := 1) 0 (some 76) (v := ?_) rfl (by kernel_rfl) (by kernel_rfl) (by kernel_rfl) (by kernel_rfl) (by kernel_rfl) (fun _ _ _ h => h) rfl (Or.inl ⟨by rfl, ?_⟩) (by exact trivial) ?_
          rotate_left
          · (intro w hSw; (try simp only [true_and] at hSw); go_simp); (try with_reducible rfl)
          try simp only [Act.put, List.setIfInBounds_toArray, List.set_cons_zero, List.set_cons_succ]
          refine wpFam_take (i := 2) 0 (some 77) (v := ?_) rfl (by kernel_rfl) (by kernel_rfl) (by kernel_rfl) (by kernel_rfl) (by kernel_rfl) (fun _ _ _ h => h) rfl (Or.inl ⟨by rfl, ?_⟩) (by exact trivial) ?_
          rotate_left
          · (intro w hSw; (try simp only [true_and] at hSw); go_simp); (try with_reducible rfl)
          try simp only [Act.put, List.setIfInBounds_toArray, List.set_cons_zero, List.set_cons_succ]
          refine wpFam_take (i := 3) 0 (some 78) (v := ?_) rfl (by kernel_rfl) (by kernel_rfl) (by kernel_rfl) (by kernel_rfl) (by kernel_rfl) (fun _ _ _ h => h) rfl (Or.inl ⟨by rfl, ?_⟩) (by exact trivial) ?_
          rotate_left
          · (intro w hSw; (try simp only [true_and] at hSw); go_simp); (try with_reducible rfl)
          try simp only [Act.put, List.setIfInBounds_toArray, List.set_cons_zero, List.set_cons_succ]
          refine wpFam_take (i := 6) 0 (some 81) (v := ?_) rfl (by kernel_rfl) (by kernel_rfl) (by kernel_rfl) (by kernel_rfl) (by kernel_rfl) (fun _ _ _ h => h) rfl (Or.inl ⟨by rfl, ?_⟩) (by exact trivial) ?_
          rotate_left
          · (intro w hSw; (try simp only [true_and] at hSw); go_simp); (try with_reducible rfl)
          try simp only [Act.put, List.setIfInBounds_toArray, List.set_cons_zero, List.set_cons_succ]
          refine wpFam_take (i := 7) 0 (some 82) (v := ?_) rfl (by kernel_rfl) (by kernel_rfl) (by kernel_rfl) (by kernel_rfl) (by kernel_rfl) (fun _ _ _ h => h) rfl (Or.inl ⟨by rfl, ?_⟩) (by exact trivial) ?_
          rotate_left
          · (intro w hSw; (try simp only [true_and] at hSw); go_simp); (try with_reducible rfl)
          try simp only [Act.put, List.setIfInBounds_toArray, List.set_cons_zero, List.set_cons_succ]
          refine wpFam_ready (rs := [4]) (by kernel_rfl) (by simp) ?_
          refine AllReadyF.cons (i := 4) rfl (fun K hK => ?_) ?_
          ·
            refine step_call Tryz.func41 (by kernel_rfl) rfl #[.pointer (some ⟨bq, 0, none⟩)] (by rfl) (by rfl) (by first | rfl | (simp [Act.eval, Act.put]; done)) ?_
            refine (bstring_any w.heap.size bq all _ HBU.out HB.out.size).mono ?_
            rintro e w9 ⟨rfl, hu, hb, ho⟩
            replace HBU := Lib.hid hu
            replace HQ := Lib.hid (blk_others HQ.out ho HQB.out (by decide))
            replace HO := Lib.hid (own_others HO.out ho (by decide) hbT.out)
            replace HB := Lib.hid (HB.out.trans hb)
            clear hu hb ho
            refine ⟨_, rfl, ?_⟩
            try change K (Act.put _ (some 79) _) _
            refine hK.out _ _ ?_ ?_
            · ((intro q _ _; exact trivial))
            clear hK K
            try simp only [Act.put, List.setIfInBounds_toArray, List.set_cons_zero, List.set_cons_succ]
            refine wpFam_ready (rs := [5]) (by kernel_rfl) (by simp) ?_
            refine AllReadyF.cons (i := 5) rfl (fun K hK => ?_) ?_
            ·
              refine step_call Tryz.func44 (by kernel_rfl) rfl #[.pointer (some ⟨bq, 0, none⟩)] (by rfl) (by rfl) (by first | rfl | (simp [Act.eval, Act.put]; done)) ?_
              refine (blen_any w.heap.size bq all _ HBU.out).mono ?_
              rintro e w10 ⟨rfl, rfl⟩
              refine ⟨_, rfl, ?_⟩
              try change K (Act.put _ (some 80) _) _
              refine hK.out _ _ ?_ ?_
              · ((intro q _ _; exact trivial))
              clear hK K
              try simp only [Act.put, List.setIfInBounds_toArray, List.set_cons_zero, List.set_cons_succ]
              refine wpFam_take (i := 8) 0 (some 83) (v := ?_) rfl (by kernel_rfl) (by kernel_rfl) (by kernel_rfl) (by kernel_rfl) (by kernel_rfl) (fun _ _ _ h => h) rfl (Or.inl ⟨by rfl, ?_⟩) (by exact trivial) ?_
              rotate_left
              · (intro w hSw; (try simp only [true_and] at hSw); go_simp); (try with_reducible rfl)
              try simp only [Act.put, List.setIfInBounds_toArray, List.set_cons_zero, List.set_cons_succ]
              refine wpFam_take (i := 9) 0 (some 84) (v := ?_) rfl (by kernel_rfl) (by kernel_rfl) (by kernel_rfl) (by kernel_rfl) (by kernel_rfl) (fun _ _ _ h => h) rfl (Or.inl ⟨by rfl, ?_⟩) (by exact trivial) ?_
              rotate_left
              · (intro w hSw; (try simp only [true_and] at hSw); go_simp); (try with_reducible rfl)
              try simp only [Act.put, List.setIfInBounds_toArray, List.set_cons_zero, List.set_cons_succ]
              refine wpFam_take (i := 10) 0 (some 85) (v := ?_) rfl (by kernel_rfl) (by kernel_rfl) (by kernel_rfl) (by kernel_rfl) (by kernel_rfl) (fun _ _ _ h => h) rfl (Or.inl ⟨by rfl, ?_⟩) (by exact trivial) ?_
              rotate_left
              · (intro w hSw; (try simp only [true_and] at hSw); go_simp); (try with_reducible rfl)
              try simp only [Act.put, List.setIfInBounds_toArray, List.set_cons_zero, List.set_cons_succ]
              refine wpFam_take (i := 11) 0 (some 86) (v := ?_) rfl (by kernel_rfl) (by kernel_rfl) (by kernel_rfl) (by kernel_rfl) (by kernel_rfl) (fun _ _ _ h => h) rfl (Or.inl ⟨by rfl, ?_⟩) (by exact trivial) ?_
              rotate_left
              · (intro w hSw; (try simp only [true_and] at hSw); go_simp); (try with_reducible rfl)
              try simp only [Act.put, List.setIfInBounds_toArray, List.set_cons_zero, List.set_cons_succ]
              refine wpFam_ready (rs := [12]) (by kernel_rfl) (by simp) ?_
              refine AllReadyF.cons (i := 12) rfl (fun K hK => ?_) ?_
              ·
                have ck := HQ.out.cell 4
                have fr := HQ.out.frozen 4
                simp [jCells] at ck
                go_simp
                replace HB := Lib.hid (HB.out.setCell (p := ⟨q, 4, none⟩) HQ0.out (.int .i64 (L : Int)))
                replace HO := Lib.hid (ownsRow_setCell_other HO.out (a := ⟨q, 4, none⟩) (fun e => own_blk_ne HO.out HQ.out (by decide) e.symm) (.int .i64 (L : Int)))
                replace HQ := Lib.hid (HQ.out.set_ 4 (.int .i64 (L : Int)))
                clear ck fr
                refine hK.out _ _ ?_ ?_
                · ((intro q _ _; exact trivial))
                clear hK K
                try simp only [Act.put, List.setIfInBounds_toArray, List.set_cons_zero, List.set_cons_succ]
                refine wpFam_take (i := 13) 0 (some 87) (v := ?_) rfl (by kernel_rfl) (by kernel_rfl) (by kernel_rfl) (by kernel_rfl) (by kernel_rfl) (fun _ _ _ h => h) rfl (Or.inl ⟨by rfl, ?_⟩) (by exact trivial) ?_
                rotate_left
                · (intro w hSw; (try simp only [true_and] at hSw); go_simp); (try with_reducible rfl)
                try simp only [Act.put, List.setIfInBounds_toArray, List.set_cons_zero, List.set_cons_succ]
                refine wpFam_take (i := 14) 0 (some 88) (v := ?_) rfl (by kernel_rfl) (by kernel_rfl) (by kernel_rfl) (by kernel_rfl) (by kernel_rfl) (fun _ _ _ h => h) rfl (Or.inl ⟨by rfl, ?_⟩) (by exact trivial) ?_
                rotate_left
                · (intro w hSw; (try simp only [true_and] at hSw); go_simp); (try with_reducible rfl)
                try simp only [Act.put, List.setIfInBounds_toArray, List.set_cons_zero, List.set_cons_succ]
                refine wpFam_ready (rs := [15]) (by kernel_rfl) (by simp) ?_
                refine AllReadyF.cons (i := 15) rfl (fun K hK => ?_) ?_
                ·
                  have ck := HQ.out.cell 3
                  have fr := HQ.out.frozen 3
                  simp [jCells] at ck
                  go_simp
                  replace HB := Lib.hid (HB.out.setCell (p := ⟨q, 3, none⟩) HQ0.out (.string b))
                  replace HO := Lib.hid (ownsRow_setCell_other HO.out (a := ⟨q, 3, none⟩) (fun e => own_blk_ne HO.out HQ.out (by decide) e.symm) (.string b))
                  replace HQ := Lib.hid (HQ.out.set_ 3 (.string b))
                  clear ck fr
                  refine hK.out _ _ ?_ ?_
                  · ((intro q _ _; exact trivial))
                  clear hK K
                  try simp only [Act.put, List.setIfInBounds_toArray, List.set_cons_zero, List.set_cons_succ]
                  refine wpFam_done (by kernel_rfl) ?_ _
                  have HQ2 : Hid (Blk _ q 87 (jCells p ⟨turn, which, b, L, false⟩)) := HQ
                  clear HQ
                  have HQ := HQ2
                  clear HQ2 HBU
                  obtain ⟨⟨D2, n2, e2⟩, hx⟩ : ∃ x, D.diff which b k = x := ⟨_, rfl⟩
                  rw [hx] at HRR2
                  simp only at HRR2
                  obtain ⟨ev, hev⟩ : ∃ ev, ev = errV e2 := ⟨_, rfl⟩
                  have HEV := Lib.hid hev
                  have cdf : Hid (∀ W, Below w.heap.size w W → Calls Tryz.prog 45 #[.pointer (some ⟨p, 0, none⟩), .int .i64 (which : Int), .string b, .int .i64 (k : Int)] W fun e w' => e = .returned (.tuple #[.int .i64 (n2 : Int), ev]) ∧ DskPost F p W D2 w') := (fun W hW => by
                    have := differs_any F p D which b k W (HD.out.below hW) HK.out.2.1 (by have := HZ.out; omega) (by have := HZ.out; omega) HK.out.2.2.1 (by have := HK.out.2.2.2.2; omega)
                    rw [hx] at this
                    rw [hev]
                    exact this)
                  clear hx hev
                  go_upto_region 23 with fail
                  replace HB := Lib.hid HB.out.drew
                  replace HQ := Lib.hid (HQ.out.below ((Below.refl _ _).drew))
                  replace HO := Lib.hid HO.out.drew
                  refine wp_region_fam (S := (jS q b)) (ds := jD) (by kernel_rfl) ?_
                  refine wpFam_take (i := 0) 0 (some 90) (v := ?_) rfl (by kernel_rfl) (by kernel_rfl) (by kernel_rfl) (by kernel_rfl) (by kernel_rfl) (fun _ _ _ h => h) rfl (Or.inl ⟨by rfl, ?_⟩) (by exact trivial) ?_
                  rotate_left
                  · (intro w hSw; (try simp only [jS] at hSw); go_simp); (try with_reducible rfl)
                  try simp only [Act.put, List.setIfInBounds_toArray, List.set_cons_zero, List.set_cons_succ]
                  refine wpFam_take (i := 1) 0 (some 91) (v := ?_) rfl (by kernel_rfl) (by kernel_rfl) (by kernel_rfl) (by kernel_rfl) (by kernel_rfl) (fun _ _ _ h => h) rfl (Or.inl ⟨by rfl, ?_⟩) (by exact trivial) ?_
                  rotate_left
                  · (intro w hSw; (try simp only [jS] at hSw); go_simp); (try with_reducible rfl)
                  try simp only [Act.put, List.setIfInBounds_toArray, List.set_cons_zero, List.set_cons_succ]
                  refine wpFam_take (i := 2) 0 (some 92) (v := ?_) rfl (by kernel_rfl) (by kernel_rfl) (by kernel_rfl) (by kernel_rfl) (by kernel_rfl) (fun _ _ _ h => h) rfl (Or.inl ⟨by rfl, ?_⟩) (by exact trivial) ?_
                  rotate_left
                  · (intro w hSw; (try simp only [jS] at hSw); go_simp); (try with_reducible rfl)
                  try simp only [Act.put, List.setIfInBounds_toArray, List.set_cons_zero, List.set_cons_succ]
                  refine wpFam_take (i := 3) 0 (some 93) (v := ?_) rfl (by kernel_rfl) (by kernel_rfl) (by kernel_rfl) (by kernel_rfl) (by kernel_rfl) (fun _ _ _ h => h) rfl (Or.inl ⟨by rfl, ?_⟩) (by exact trivial) ?_
                  rotate_left
                  · (intro w hSw; (try simp only [jS] at hSw); go_simp); (try with_reducible rfl)
                  try simp only [Act.put, List.setIfInBounds_toArray, List.set_cons_zero, List.set_cons_succ]
                  refine wpFam_take (i := 4) 0 (some 94) (v := ?_) rfl (by kernel_rfl) (by kernel_rfl) (by kernel_rfl) (by kernel_rfl) (by kernel_rfl) (fun _ _ _ h => h) rfl (Or.inl ⟨by rfl, ?_⟩) (by exact trivial) ?_
                  rotate_left
                  · (intro w hSw; (try simp only [jS] at hSw); go_simp); (try with_reducible rfl)
                  try simp only [Act.put, List.setIfInBounds_toArray, List.set_cons_zero, List.set_cons_succ]
                  refine wpFam_take (i := 5) 1 (some 95) (v := ?_) rfl (by kernel_rfl) (by kernel_rfl) (by kernel_rfl) (by kernel_rfl) (by kernel_rfl) (fun _ _ _ h => h) rfl (Or.inl ⟨by rfl, ?_⟩) (by exact jS_of HQ.out 1) ?_
                  rotate_left
                  · (intro w hSw; (try simp only [jS] at hSw); go_simp); (try with_reducible rfl)
                  try simp only [Act.put, List.setIfInBounds_toArray, List.set_cons_zero, List.set_cons_succ]
                  refine wpFam_take (i := 6) 0 (some 96) (v := ?_) rfl (by kernel_rfl) (by kernel_rfl) (by kernel_rfl) (by kernel_rfl) (by kernel_rfl) (fun _ _ _ h => h) rfl (Or.inl ⟨by rfl, ?_⟩) (by exact trivial) ?_
                  rotate_left
                  · (intro w hSw; (try simp only [jS] at hSw); go_simp); (try with_reducible rfl)
                  try simp only [Act.put, List.setIfInBounds_toArray, List.set_cons_zero, List.set_cons_succ]
                  refine wpFam_take (i := 7) 0 (some 97) (v := ?_) rfl (by kernel_rfl) (by kernel_rfl) (by kernel_rfl) (by kernel_rfl) (by kernel_rfl) (fun _ _ _ h => h) rfl (Or.inl ⟨by rfl, ?_⟩) (by exact trivial) ?_
                  rotate_left
                  · (intro w hSw; (try simp only [jS] at hSw); go_simp); (try with_reducible rfl)
                  try simp only [Act.put, List.setIfInBounds_toArray, List.set_cons_zero, List.set_cons_succ]
                  refine wpFam_take (i := 8) 0 (some 98) (v := ?_) rfl (by kernel_rfl) (by kernel_rfl) (by kernel_rfl) (by kernel_rfl) (by kernel_rfl) (fun _ _ _ h => h) rfl (Or.inl ⟨by rfl, ?_⟩) (by exact trivial) ?_
                  rotate_left
                  · (intro w hSw; (try simp only [jS] at hSw); go_simp); (try with_reducible rfl)
                  try simp only [Act.put, List.setIfInBounds_toArray, List.set_cons_zero, List.set_cons_succ]
                  refine wpFam_take (i := 9) 1 (some 99) (v := ?_) rfl (by kernel_rfl) (by kernel_rfl) (by kernel_rfl) (by kernel_rfl) (by kernel_rfl) (fun _ _ _ h => h) rfl (Or.inl ⟨by rfl, ?_⟩) (by exact jS_of HQ.out 1) ?_
                  rotate_left
                  · (intro w hSw; (try simp only [jS] at hSw); go_simp); (try with_reducible rfl)
                  try simp only [Act.put, List.setIfInBounds_toArray, List.set_cons_zero, List.set_cons_succ]
                  refine wpFam_take (i := 10) 0 (some 100) (v := ?_) rfl (by kernel_rfl) (by kernel_rfl) (by kernel_rfl) (by kernel_rfl) (by kernel_rfl) (fun _ _ _ h => h) rfl (Or.inl ⟨by rfl, ?_⟩) (by exact trivial) ?_
                  rotate_left
                  · (intro w hSw; (try simp only [jS] at hSw); go_simp); (try with_reducible rfl)
                  try simp only [Act.put, List.setIfInBounds_toArray, List.set_cons_zero, List.set_cons_succ]
                  refine wpFam_take (i := 11) 0 (some 101) (v := ?_) rfl (by kernel_rfl) (by kernel_rfl) (by kernel_rfl) (by kernel_rfl) (by kernel_rfl) (fun _ _ _ h => h) rfl (Or.inl ⟨by rfl, ?_⟩) (by exact trivial) ?_
                  rotate_left
                  · (intro w hSw; (try simp only [jS] at hSw); go_simp); (try with_reducible rfl)
                  try simp only [Act.put, List.setIfInBounds_toArray, List.set_cons_zero, List.set_cons_succ]
                  refine wpFam_ready (rs := [12]) (by kernel_rfl) (by simp) ?_
                  refine AllReadyF.cons (i := 12) rfl (fun K hK => ?_) ?_
                  ·
                    refine step_call Tryz.func45 (by kernel_rfl) rfl #[.pointer (some ⟨p, 0, none⟩), .int .i64 (which : Int), .string b, .int .i64 (k : Int)] (by rfl) (by rfl) (by first | rfl | (simp [Act.eval, Act.put, hkW]; done)) ?_
                    refine (cdf.out _ HB.out).mono ?_
                    rintro e w11 ⟨rfl, hp⟩
                    have HP := Lib.hid hp
                    have HQ5 := Lib.hid (HQ.out.save HP.out.1 (fun h => by have := HFF.out.1 q h; have := HQ0.out; omega))
                    have HO5 := Lib.hid (own_same HO.out (fun g hg => HP.out.1.block g (HO.out.lt g hg).2 (fun h => by have := HFF.out.1 g h; have := (HO.out.lt g hg).1; omega)))
                    have HPW := Lib.hid (DskPost.after HB.out HP.out)
                    have HO6 : Hid (w11.ownsRow w.heap.size 9 1 (.slice a3 L cap3) l.length (strsV l)) := (by rw [← HLL.out]; exact HO5)
                    clear hp
                    refine ⟨_, rfl, ?_⟩
                    try change K (Act.put _ (some 102) _) _
                    refine hK.out _ _ ?_ ?_
                    · ((intro q' hq _; match q', hq with | 0, _ => exact trivial | n + 1, hq => exact absurd (by simp [jD]) hq))
                    clear hK K
                    try simp only [Act.put, List.setIfInBounds_toArray, List.set_cons_zero, List.set_cons_succ]
                    refine wpFam_take (i := 13) 0 (some 89) (v := ?_) rfl (by kernel_rfl) (by kernel_rfl) (by kernel_rfl) (by kernel_rfl) (by kernel_rfl) (fun _ _ _ h => h) rfl (Or.inl ⟨by rfl, ?_⟩) (by exact trivial) ?_
                    rotate_left
                    · (intro w hSw; (try simp only [jS] at hSw); go_simp); (try with_reducible rfl)
                    try simp only [Act.put, List.setIfInBounds_toArray, List.set_cons_zero, List.set_cons_succ]
                    refine wpFam_take (i := 14) 0 (some 103) (v := ?_) rfl (by kernel_rfl) (by kernel_rfl) (by kernel_rfl) (by kernel_rfl) (by kernel_rfl) (fun _ _ _ h => h) rfl (Or.inl ⟨by rfl, ?_⟩) (by exact trivial) ?_
                    rotate_left
                    · (intro w hSw; (try simp only [jS] at hSw); go_simp); (try with_reducible rfl)
                    try simp only [Act.put, List.setIfInBounds_toArray, List.set_cons_zero, List.set_cons_succ]
                    refine wpFam_take (i := 15) 0 (some 104) (v := ?_) rfl (by kernel_rfl) (by kernel_rfl) (by kernel_rfl) (by kernel_rfl) (by kernel_rfl) (fun _ _ _ h => h) rfl (Or.inl ⟨by rfl, ?_⟩) (by exact trivial) ?_
                    rotate_left
                    · (intro w hSw; (try simp only [jS] at hSw); go_simp); (try with_reducible rfl)
                    try simp only [Act.put, List.setIfInBounds_toArray, List.set_cons_zero, List.set_cons_succ]
                    refine wpFam_take (i := 16) 0 (some 18) (v := ?_) rfl (by kernel_rfl) (by kernel_rfl) (by kernel_rfl) (by kernel_rfl) (by kernel_rfl) (fun _ _ _ h => h) rfl (Or.inl ⟨by rfl, ?_⟩) (by exact trivial) ?_
                    rotate_left
                    · (intro w hSw; (try simp only [jS] at hSw); go_simp); (try with_reducible rfl)
                    try simp only [Act.put, List.setIfInBounds_toArray, List.set_cons_zero, List.set_cons_succ]
                    refine wpFam_take (i := 17) 0 (some 7) (v := ?_) rfl (by kernel_rfl) (by kernel_rfl) (by kernel_rfl) (by kernel_rfl) (by kernel_rfl) (fun _ _ _ h => h) rfl (Or.inl ⟨by rfl, ?_⟩) (by exact trivial) ?_
                    rotate_left
                    · (intro w hSw; (try simp only [jS] at hSw); go_simp); (try with_reducible rfl)
                    try simp only [Act.put, List.setIfInBounds_toArray, List.set_cons_zero, List.set_cons_succ]
                    refine wpFam_done (by kernel_rfl) ?_ _
                    by_cases he2 : e2 = 0
                    · obtain rfl : ev = .nilIface := by rw [HEV.out, he2, errV_zero]
                      by_cases hn2 : 0 < n2
                      · have q2 : (0 : Int) < (n2 : Int) := by omega
                        have hy : (if e2 = 0 ∧ 0 < n2 then (D2.flush, D2.flushC) else (D2, e2)) = (D2.flush, D2.flushC) := if_pos ⟨he2, hn2⟩
                        rw [hy] at HRR2
                        have cf := Lib.hid (fun W (G : Nat → Prop) (hG : Dsk W G p D2) => Flush_any W G p D2 hG)
                        generalize D2.flush = D3 at cf HRR2
                        generalize D2.flushC = c3 at cf HRR2
                        simp only at HRR2
                        clear hy he2 hn2
                        by_cases hc3 : c3 = 0
                        · subst hc3
                          rw [errV_zero] at cf
                          go_wp2_with (go_at_call 46; (with_reducible refine (cf.out _ _ HP.out.dsk).mono ?_); rintro e w12 ⟨rfl, hp⟩; have HPQ := Lib.hid hp; clear hp)
                          go_ret3
                          rw [HRR2.out]
                          exact ⟨DskPost.after HB.out (HP.out.then HPQ.out), .inr ⟨rfl, q, .slice a3 L cap3, rfl, HQ0.out, HQ5.out.save HPQ.out.1 (plus_out HFF.out.1 HQ0.out HQ.out.lt), own_same HO6.out (fun g hg => HPQ.out.1.block g (HO5.out.lt g hg).2 (plus_out HFF.out.1 (HO.out.lt g hg).1 (HO.out.lt g hg).2)), (HP.out.then HPQ.out).far HFF.out.1 HB.out HO.out HQ0.out HQ.out.lt⟩⟩
                        · rw [errV_ne hc3] at cf
                          have HC := Lib.hid (And.intro hc3 (errV_ne hc3))
                          clear hc3
                          go_wp2_with (go_at_call 46; (with_reducible refine (cf.out _ _ HP.out.dsk).mono ?_); rintro e w12 ⟨rfl, hp⟩; have HPQ := Lib.hid hp; clear hp)
                          go_ret3
                          rw [HRR2.out]
                          exact ⟨DskPost.after HB.out (HP.out.then HPQ.out), .inl ⟨HC.out.1, by rw [HC.out.2]; rfl⟩⟩
                      · have q2 : (n2 : Int) ≤ 0 := by omega
                        have hy : (if e2 = 0 ∧ 0 < n2 then (D2.flush, D2.flushC) else (D2, e2)) = (D2, e2) := if_neg (fun h => hn2 h.2)
                        rw [hy] at HRR2
                        simp only at HRR2
                        have HE2 := Lib.hid he2
                        clear hy hn2 he2
                        go_wp2
                        go_ret3
                        rw [HRR2.out]
                        exact ⟨HPW.out, .inr ⟨HE2.out, q, .slice a3 L cap3, rfl, HQ0.out, HQ5.out, HO6.out, HP.out.far HFF.out.1 HB.out HO.out HQ0.out HQ.out.lt⟩⟩
                    · obtain rfl : ev = .iface 34 (.int .i64 e2) := by rw [HEV.out, errV_ne he2]
                      have hy : (if e2 = 0 ∧ 0 < n2 then (D2.flush, D2.flushC) else (D2, e2)) = (D2, e2) := if_neg (fun h => he2 h.1)
                      rw [hy] at HRR2
                      simp only at HRR2
                      have HE2 := Lib.hid (And.intro he2 (errV_ne he2))
                      clear hy he2
                      go_wp2
                      go_ret3
                      rw [HRR2.out]
                      exact ⟨HPW.out, .inl ⟨HE2.out.1, by rw [HE2.out.2]; rfl⟩⟩
                  exact AllReadyF.nil
                exact AllReadyF.nil
              exact AllReadyF.nil
            exact AllReadyF.nil
          exact AllReadyF.nil
end Go.Proofs.YtjincmagbbpooaaGreatDoor

