import Derived.Test.YtghebjgkdfbmeaaGreatDoorZX
import Derived.Test.YtghebjgkdfbmeaaGreatDoorLZ0
set_option linter.unusedVariables false
set_option linter.unusedSimpArgs false
namespace Go.Proofs.YtghebjgkdfbmeaaGreatDoor
open Go.RowKit

set_option maxHeartbeats 32000000 in
set_option maxRecDepth 100000 in
theorem CodeTells_any (a : Option Addr) (cap : Nat) (l : List NodeD) (s : ByteArray) (w : World) (hl : NodesAt w a l) (hL64 : l.length ≤ 9223372036854775807) (hs : s.size ≤ 9223372036854775807) (he : ErrVar w) (hm : MaxV w) :
    Calls Tryz.prog 3 #[.slice a l.length cap, .string s] w (fun e w' => e = .returned (.bool true) ∧ Below w.heap.size w w') := by
  have ck := Lib.hid (known8_any w he hm)
  have HV := Lib.hid (And.intro he hm)
  have HNL := Lib.hid (And.intro hl hL64)
  have HS := Lib.hid hs
  have cb := Lib.hid (fun W (hW : Below w.heap.size w W) => Build_any a cap l W (fun j x hx => by obtain ⟨b, off, e, h⟩ := HNL.out.1 j x hx; exact ⟨b, off, e, h.below hW⟩) HNL.out.2)
  obtain ⟨L, hL⟩ : ∃ L, L = l.length := ⟨_, rfl⟩
  rw [← hL] at cb ⊢
  clear hL hl hL64 hs he hm
  by_cases g1 : 800 < s.size
  · have t1 : decide ((800 : Int) < (s.size : Int)) = true := decide_eq_true (by omega)
    clear g1
    go_enter Tryz.func3, Tryz.ntmps3
    go_wp2_with (go_at_call 4; (with_reducible refine ck.out.mono ?_); rintro e w0 ⟨rfl, hb⟩; have HB0 := Lib.hid hb; clear hb)
    go_ret
    exact ⟨rfl, HB0.out⟩
  have t1 : decide ((800 : Int) < (s.size : Int)) = false := decide_eq_false (by omega)
  clear g1
  have kP := Lib.hid (fun W (hW : Below w.heap.size w W) => Read_any s HS.out W (ErrVar.below HV.out.1 hW) (HV.out.2.below hW))
  have kR := Lib.hid (fun W => rRead_any s HS.out W)
  unfold PReadPost at kP
  unfold RReadPost at kR
  rw [← pRead_rRead] at kR
  generalize (pRead s).1 = t2 at kP kR
  generalize (pRead s).2.1 = rest at kP kR
  generalize (pRead s).2.2 = er at kP kR
  have kN := Lib.hid (fun W (hW : Below w.heap.size w W) => num8_any er W (ErrVar.below HV.out.1 hW))
  go_enter Tryz.func3, Tryz.ntmps3
  go_upto_region 8 with (first
    | (go_at_call 4; (with_reducible refine ck.out.mono ?_); rintro e w0 ⟨rfl, hb⟩; have HB0 := Lib.hid hb; clear hb)
    | (go_at_call 5; (with_reducible refine (cb.out _ HB0.out).mono ?_); rintro e w1 ⟨t, p, rfl, hp, hsm, hb⟩; have HP1 := Lib.hid hp; have HSM := Lib.hid hsm; have HB1 := Lib.hid (below_step' HB0.out hb); clear hp hsm hb)
    | (go_at_call 6; (with_reducible refine (kP.out _ HB1.out).mono ?_); rintro e w2 ⟨q1, rfl, hp, hb⟩; have HP2 := Lib.hid (HP1.out.below hb); have HQ2 := Lib.hid hp; have HB2 := Lib.hid (below_step' HB1.out hb); clear hp hb)
    | (go_at_call 7; (with_reducible refine (kR.out _).mono ?_); rintro e w3 ⟨q2, rfl, hp, hb⟩; have HP3 := Lib.hid (HP2.out.below hb); have HQ3 := Lib.hid (HQ2.out.below hb); have HR3 := Lib.hid hp; have HB3 := Lib.hid (below_step' HB2.out hb); clear hp hb))
  have c1 := Lib.hid (Bytes_any t p w0.heap.size w3 HP3.out HSM.out (HV.out.2.below HB3.out) (fun h => ⟨(good_ok t ((allF_spec t 3000).1.1 h).1).1, ((allF_spec t 3000).1.1 h).2⟩))
  have c2 := Lib.hid (fun W (hW : Below w3.heap.size w3 W) => rBytes_any t p w0.heap.size W (HP3.out.below hW) HSM.out)
  generalize (if (allF t 3000).1 = true then bytesT t else ⟨#[]⟩) = bt at c1 c2
  have c3 := Lib.hid (fun W (hW : Below w3.heap.size w3 W) => Same_any t2 t2 q1 q2 w1.heap.size w2.heap.size W (HQ3.out.below hW) (HR3.out.below hW))
  unfold Quiet at c3
  rw [sameT_rfl] at c3
  go_wp2_with (first
    | (go_at_call 8; (with_reducible refine c1.out.mono ?_); rintro e w4 ⟨rfl, hb⟩; have HC4 := Lib.hid hb; clear hb)
    | (go_at_call 9; (with_reducible refine (c2.out _ HC4.out).mono ?_); rintro e w5 ⟨rfl, hb⟩; have HC5 := Lib.hid (below_step' HC4.out hb); clear hb)
    | (go_at_call 10; (with_reducible refine (c3.out _ HC5.out).mono ?_); rintro e w6 ⟨rfl, m, hm⟩; have hb6 : Below w5.heap.size w5 w6 := (by rw [hm]; exact below_drewN' _ _); have HC6 := Lib.hid (below_step' HC5.out hb6); clear hm hb6)
    | (go_at_call 11; (with_reducible refine (kN.out _ (below_step' HB3.out HC6.out)).mono ?_); rintro e w7 ⟨rfl, hb⟩; have HC7 := Lib.hid (below_step' HC6.out hb); clear hb))
  go_ret
  exact ⟨rfl, below_step' HB3.out HC7.out⟩
end Go.Proofs.YtghebjgkdfbmeaaGreatDoor
