/-
  StateOnly, proved: for every input the law returns true, and its arguments read behind the call as before it. No condition.
-/
import Derived.Test.YtmgnekjhlfghaaaRows
import Derived.Test.YtmgnekjhlfghaaaM4
import Derived.Test.YtmgnekjhlfghaaaCStateOnly
namespace Go.Proofs.Ytmgnekjhlfghaaa.stateOnly
open Go.ChangeShapes Go.WideShapes Go.ChangeAt Go.RowKit Go.Proofs.Ytmgnekjhlfghaaa
set_option linter.unusedVariables false

theorem own : ownKnob Try.prog.godebug = none := by kernel_rfl
theorem laidOut : laidOutB Try.prog = true := by kernel_rfl

set_option maxRecDepth 100000 in
theorem lifted (os : Os) (started : os.Started) (H : Type) (enc : TypeId × Value → H) :
    ReturnsInHanded {} Try.checked os 8 .any (Rows.stateOnlySpec.pre6 enc Try.prog Try.f8 Rows.stateOnlyRow.domain false) (Rows.stateOnlySpec.post enc Try.prog Try.f8 false true false false) := by
  refine returnsInHanded_of_change_sized (C := Try.checked) own started (by kernel_rfl) Try.func8
    (ChangeSpec.witness6 (enc := enc) (C := Try.checked) false ⟨#[], #[.slice none 0 0, .slice none 0 0, .slice none 0 0], []⟩ 8 (by kernel_rfl) (by kernel_rfl) (by kernel_rfl) (by kernel_rfl)) ?_
  intro W base args ds gs before hval0 hW hcnd hsz0 _
  have hval : ∀ (j : Nat) t v, Try.f8.params[j]? = some t → args[j]? = some v → Value.okWide Try.prog W .any base t v := hval0
  have hsz1 : (DataW.weightsEach Try.prog (Try.f8.params.toList ++ []) (ds ++ gs)).all (· ≤ reachBytes) = true := hsz0
  have hW' := hW
  obtain ⟨p, q, hA0, hV, rfl, hfz, hnd⟩ := hW
  have hA : DataW.TrodAll enc Try.prog W 0 (fun _ => true) true Try.f8.params.toList args.toList ds p := hA0
  rw [Try.params8] at hA hval hsz1
  obtain ⟨v0, vs0, d0, ds0, p0, q0, hargs, rfl, rfl, h0, r0⟩ := trodAll_cons hA
  obtain ⟨v1, vs1, d1, ds1, p1, q1, rfl, rfl, rfl, h1, r1⟩ := trodAll_cons r0
  obtain ⟨v2, vs2, d2, ds2, p2, q2, rfl, rfl, rfl, h2, r2⟩ := trodAll_cons r1
  obtain ⟨rfl, rfl, rfl⟩ := trodAll_nil r2
  obtain rfl : args = #[v0, v1, v2] := by cases args; simp_all
  obtain ⟨rfl, rfl⟩ := trodVars_none hV
  clear hA0 hval0
  have k0 := h0
  have lt0 : ∀ x ∈ p0, x.block < W.heap.size := by obtain ⟨m, hm⟩ := k0; exact DataW.trod_lt m _ _ _ hm
  have hwt0 : ∀ k ∈ d0.weights Try.prog 31, k ≤ reachBytes := fun k hk => by simpa using List.all_eq_true.1 hsz1 _ (DataW.weights_mem_each (j := 0) (t := 31) rfl rfl k hk)
  obtain ⟨a0', len0', cap0', hv0⟩ := okWide_slice Try.underlying31 (hval 0 31 v0 rfl rfl)
  obtain ⟨fuel0, hf0⟩ := h0
  have hf0' : DataW.trod enc Try.prog W 0 (fun _ => true) true fuel0 31 [v0] = some (d0, p0) := by rw [hv0] at hf0 ⊢; exact hf0
  clear hv0 hf0
  obtain ⟨a0, len0, cap0, l0, rfl, hC0⟩ := ch_arg (fun _ => rfl) ⟨_, _, hf0', hwt0⟩
  have k1 := h1
  have lt1 : ∀ x ∈ p1, x.block < W.heap.size := by obtain ⟨m, hm⟩ := k1; exact DataW.trod_lt m _ _ _ hm
  have hwt1 : ∀ k ∈ d1.weights Try.prog 31, k ≤ reachBytes := fun k hk => by simpa using List.all_eq_true.1 hsz1 _ (DataW.weights_mem_each (j := 1) (t := 31) rfl rfl k hk)
  obtain ⟨a1', len1', cap1', hv1⟩ := okWide_slice Try.underlying31 (hval 1 31 v1 rfl rfl)
  obtain ⟨fuel1, hf1⟩ := h1
  have hf1' : DataW.trod enc Try.prog W 0 (fun _ => true) true fuel1 31 [v1] = some (d1, p1) := by rw [hv1] at hf1 ⊢; exact hf1
  clear hv1 hf1
  obtain ⟨a1, len1, cap1, l1, rfl, hC1⟩ := ch_arg (fun _ => rfl) ⟨_, _, hf1', hwt1⟩
  have k2 := h2
  have lt2 : ∀ x ∈ p2, x.block < W.heap.size := by obtain ⟨m, hm⟩ := k2; exact DataW.trod_lt m _ _ _ hm
  have hwt2 : ∀ k ∈ d2.weights Try.prog 31, k ≤ reachBytes := fun k hk => by simpa using List.all_eq_true.1 hsz1 _ (DataW.weights_mem_each (j := 2) (t := 31) rfl rfl k hk)
  obtain ⟨a2', len2', cap2', hv2⟩ := okWide_slice Try.underlying31 (hval 2 31 v2 rfl rfl)
  obtain ⟨fuel2, hf2⟩ := h2
  have hf2' : DataW.trod enc Try.prog W 0 (fun _ => true) true fuel2 31 [v2] = some (d2, p2) := by rw [hv2] at hf2 ⊢; exact hf2
  clear hv2 hf2
  obtain ⟨a2, len2, cap2, l2, rfl, hC2⟩ := ch_arg (fun _ => rfl) ⟨_, _, hf2', hwt2⟩
  refine (stateOnly_walk W a0 len0 cap0 l0 hC0 a1 len1 cap1 l1 hC1 a2 len2 cap2 l2 hC2).mono fun e W' ⟨he, hg⟩ => ?_
  subst he
  have bel := hg.below0
  exact ⟨_, rfl, _, _, _, [], _, [], hW', trodAll_mk1 (shut_bool Try.underlying4 _), (trodAll_cons_mk (Below.trod laidOut (by kernel_rfl) (of_decide_eq_true (by kernel_rfl)) k0 bel lt0) (trodAll_cons_mk (Below.trod laidOut (by kernel_rfl) (of_decide_eq_true (by kernel_rfl)) k1 bel lt1) (trodAll_cons_mk (Below.trod laidOut (by kernel_rfl) (of_decide_eq_true (by kernel_rfl)) k2 bel lt2) trodAll_mk0))), rfl, bel.frame _, fun h => by cases h⟩

theorem over : Rows.stateOnlyRow.holds Try.pinned (OpenSpec.ofChange Rows.stateOnlySpec) :=
  OpenClaim.holds_of_wide 8 Try.f8 rfl rfl rfl rfl rfl rfl rfl ⟨rfl, rfl, rfl, rfl, rfl⟩ rfl rfl rfl rfl rfl (by kernel_rfl) Try.func8 (by kernel_rfl)
    (of_decide_eq_true (by kernel_rfl)) (by unfold Func.isWrapper; first | (rw [if_pos (by decide +kernel)]; kernel_rfl) | (rw [if_neg (by decide +kernel)]; exact ⟨rfl, rfl⟩))
    (fun os started H enc _ => lifted os started H enc)

theorem proved : Rows.StateOnlySaid := over
#print axioms proved
end Go.Proofs.Ytmgnekjhlfghaaa.stateOnly
