/- Whatever list of texts and whatever number: TreeShares returns true, and its arguments read as they did: what is taken away from a tree and put back is there, and the elder trees know nothing of it. No condition. -/
import Derived.Test.YtdjcomlpedokeaaRows
import Derived.Test.YtdjcomlpedokeaaF0
import Derived.Test.YtdjcomlpedokeaaL1
set_option linter.unusedVariables false
namespace Go.Proofs.Ytdjcomlpedokeaa.treeShares
open Go.ChangeShapes Go.WideShapes Go.ChangeAt Go.RowKit

theorem walk (v : Value) (keys : List ByteArray) (which : Int) (w0 : (Lit.int .u8 which).wf = true) (W : World) (hk : StrSl W v keys) (hm : keys.length ≤ maxLen) :
    Calls Try.prog 5 #[v, .int .u8 which] W (KnownPost W) := by
  have hb : 0 ≤ which ∧ which ≤ 255 := by simpa [Lit.wf, IntKind.min, IntKind.max, IntKind.signed, IntKind.bits] using w0
  unfold maxLen at hm
  by_cases hn : keys.length = 0 ∨ 30 < keys.length
  · exact shares_few v keys which W hk hn hm
  · rcases hk with ⟨x, c, rfl, rfl⟩ | ⟨b, off, cap, rfl, hc, hcell⟩
    · exact absurd (.inl rfl) hn
    · exact shares_some b off cap keys which W hc hcell (by omega) (by omega) hb.1 hb.2

set_option maxRecDepth 100000 in
theorem lifted (os : Os) (started : os.Started) (H : Type) (enc : TypeId × Value → H) :
    ReturnsInHanded {} Try.checked os 5 .any (Rows.treeSharesSpec.pre6 enc Try.prog Try.f5 Rows.treeSharesRow.domain false) (Rows.treeSharesSpec.post enc Try.prog Try.f5 false true false false) := by
  refine returnsInHanded_of_change (C := Try.checked) Try.own started (by kernel_rfl) Try.func5
    (ChangeSpec.witness6 (enc := enc) (C := Try.checked) false ⟨#[], #[.slice none 0 0, .int .u8 0], []⟩ 8 (by kernel_rfl) (by kernel_rfl) (by kernel_rfl) (by kernel_rfl)) ?_
  intro W base args ds gs before hval0 hW hcnd _
  have hval : ∀ (j : Nat) t v, Try.f5.params[j]? = some t → args[j]? = some v → Value.okWide Try.prog W .any base t v := hval0
  have hW' := hW
  obtain ⟨p, q, hA0, hV, rfl, hfz, hnd⟩ := hW
  have hA : DataW.TrodAll enc Try.prog W 0 (fun _ => true) true Try.f5.params.toList args.toList ds p := hA0
  rw [Try.params5] at hA hval
  obtain ⟨v0, vs0, d0, ds0, p0, q0, hargs, rfl, rfl, h0, r0⟩ := trodAll_cons hA
  obtain ⟨v1, vs1, d1, ds1, p1, q1, rfl, rfl, rfl, h1, r1⟩ := trodAll_cons r0
  obtain ⟨rfl, rfl, rfl⟩ := trodAll_nil r1
  obtain rfl : args = #[v0, v1] := by cases args; simp_all
  obtain ⟨rfl, rfl⟩ := trodVars_none hV
  obtain ⟨keys, hk, hm⟩ := open_strsl (hval 0 27 v0 rfl rfl) h0
  have h1' := h1
  obtain ⟨a1, rfl, rfl, rfl, w1⟩ := open_int Try.underlying5 (hval 1 5 v1 rfl rfl) h1
  clear hA0 hval0
  simp only [List.append_nil] at hW'
  have hlt : ∀ x ∈ p0, x.block < W.heap.size := fun x hx => hW'.lt x (by simp [hx])
  refine (walk v0 keys a1 w1 W hk hm).mono fun e W' ⟨he, hg⟩ => ?_
  subst he
  exact ⟨_, rfl, post_of_below (pa := p0 ++ ([] ++ [])) (pv := []) hW' (fun _ _ _ => (trodAll_cons_mk (shut_bool Try.underlying4 _) trodAll_mk0))
    (fun sp hsp => (trodAll_cons_mk (WideElems.Trod_stays Try.laidOut (by kernel_rfl) (of_decide_eq_true (by kernel_rfl)) h0 (fun x hx => hg.same (hlt x hx)) (fun x hx => hsp x (by simp [hx]))) (trodAll_cons_mk (shut_int Try.underlying5 w1) trodAll_mk0)))
    (fun _ _ => rfl) (by simp) hg (ok_one (by kernel_rfl) rfl (okWide_bool_mk Try.underlying4 _))⟩

theorem over : Rows.treeSharesRow.holds Try.pinned (OpenSpec.ofChange Rows.treeSharesSpec) :=
  OpenClaim.holds_of_wide 5 Try.f5 rfl rfl rfl rfl rfl rfl rfl ⟨rfl, rfl, rfl, rfl, rfl⟩ rfl rfl rfl rfl rfl (by kernel_rfl) Try.func5 (by kernel_rfl)
    (of_decide_eq_true (by kernel_rfl)) (by unfold Func.isWrapper; first | (rw [if_pos (by decide +kernel)]; kernel_rfl) | (rw [if_neg (by decide +kernel)]; exact ⟨rfl, rfl⟩))
    (fun os started H enc _ => lifted os started H enc)

theorem proved : Rows.TreeSharesSaid := over
end Go.Proofs.Ytdjcomlpedokeaa.treeShares
