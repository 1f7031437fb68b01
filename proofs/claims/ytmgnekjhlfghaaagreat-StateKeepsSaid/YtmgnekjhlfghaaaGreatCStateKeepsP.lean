/-
  StateKeeps, proved: for every input the law returns true, and its arguments read behind the call as before it. No condition.
-/
import Derived.Test.YtmgnekjhlfghaaaGreatRows
import Derived.Test.YtmgnekjhlfghaaaGreatM7
import Derived.Test.YtmgnekjhlfghaaaGreatCStateKeeps
namespace Go.Proofs.YtmgnekjhlfghaaaGreat.stateKeeps
open Go.ChangeShapes Go.WideShapes Go.ChangeAt Go.RowKit Go.Proofs.YtmgnekjhlfghaaaGreat
set_option linter.unusedVariables false

theorem own : ownKnob Tryz.prog.godebug = none := by kernel_rfl
theorem laidOut : laidOutB Tryz.prog = true := by kernel_rfl

set_option maxRecDepth 100000 in
theorem lifted (os : Os) (started : os.Started) (H : Type) (enc : TypeId × Value → H) :
    ReturnsInHanded {} Tryz.checked os 3 .any (Rows.stateKeepsSpec.pre6 enc Tryz.prog Tryz.f3 Rows.stateKeepsRow.domain false) (Rows.stateKeepsSpec.post enc Tryz.prog Tryz.f3 false true false false) := by
  refine returnsInHanded_of_change_sized (C := Tryz.checked) own started (by kernel_rfl) Tryz.func3
    (ChangeSpec.witness6 (enc := enc) (C := Tryz.checked) false ⟨#[], #[.slice none 0 0], []⟩ 8 (by kernel_rfl) (by kernel_rfl) (by kernel_rfl) (by kernel_rfl)) ?_
  intro W base args ds gs before hval0 hW hcnd hsz0 _
  have hval : ∀ (j : Nat) t v, Tryz.f3.params[j]? = some t → args[j]? = some v → Value.okWide Tryz.prog W .any base t v := hval0
  have hsz1 : (DataW.weightsEach Tryz.prog (Tryz.f3.params.toList ++ []) (ds ++ gs)).all (· ≤ reachBytes) = true := hsz0
  have hW' := hW
  obtain ⟨p, q, hA0, hV, rfl, hfz, hnd⟩ := hW
  have hA : DataW.TrodAll enc Tryz.prog W 0 (fun _ => true) true Tryz.f3.params.toList args.toList ds p := hA0
  rw [Tryz.params3] at hA hval hsz1
  obtain ⟨v0, vs0, d0, ds0, p0, q0, hargs, rfl, rfl, h0, r0⟩ := trodAll_cons hA
  obtain ⟨rfl, rfl, rfl⟩ := trodAll_nil r0
  obtain rfl : args = #[v0] := by cases args; simp_all
  obtain ⟨rfl, rfl⟩ := trodVars_none hV
  clear hA0 hval0
  have k0 := h0
  have lt0 : ∀ x ∈ p0, x.block < W.heap.size := by obtain ⟨m, hm⟩ := k0; exact DataW.trod_lt m _ _ _ hm
  have hwt0 : ∀ k ∈ d0.weights Tryz.prog 22, k ≤ reachBytes := fun k hk => by simpa using List.all_eq_true.1 hsz1 _ (DataW.weights_mem_each (j := 0) (t := 22) rfl rfl k hk)
  obtain ⟨a0', len0', cap0', hv0⟩ := okWide_slice Tryz.underlying22 (hval 0 22 v0 rfl rfl)
  obtain ⟨fuel0, hf0⟩ := h0
  have hf0' : DataW.trod enc Tryz.prog W 0 (fun _ => true) true fuel0 22 [v0] = some (d0, p0) := by rw [hv0] at hf0 ⊢; exact hf0
  clear hv0 hf0
  obtain ⟨a0, len0, cap0, l0, rfl, hC0⟩ := ch_arg (fun _ => rfl) ⟨_, _, hf0', hwt0⟩
  refine (stateKeeps_walk W a0 len0 cap0 l0 hC0).mono fun e W' ⟨he, hg⟩ => ?_
  subst he
  have bel := hg.below0
  exact ⟨_, rfl, _, _, _, [], _, [], hW', trodAll_mk1 (shut_bool Tryz.underlying4 _), (trodAll_cons_mk (Below.trod laidOut (by kernel_rfl) (of_decide_eq_true (by kernel_rfl)) k0 bel lt0) trodAll_mk0), rfl, bel.frame _, fun h => by cases h⟩

theorem over : Rows.stateKeepsRow.holds Tryz.pinned (OpenSpec.ofChange Rows.stateKeepsSpec) :=
  OpenClaim.holds_of_wide 3 Tryz.f3 rfl rfl rfl rfl rfl rfl rfl ⟨rfl, rfl, rfl, rfl, rfl⟩ rfl rfl rfl rfl rfl (by kernel_rfl) Tryz.func3 (by kernel_rfl)
    (of_decide_eq_true (by kernel_rfl)) (by unfold Func.isWrapper; first | (rw [if_pos (by decide +kernel)]; kernel_rfl) | (rw [if_neg (by decide +kernel)]; exact ⟨rfl, rfl⟩))
    (fun os started H enc _ => lifted os started H enc)

theorem proved : Rows.StateKeepsSaid := over
#print axioms proved
end Go.Proofs.YtmgnekjhlfghaaaGreat.stateKeeps
