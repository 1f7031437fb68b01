/-
  BadgeDoes, proved: for every input the law returns true, and its arguments read behind the call as before it. No condition.
-/
import Derived.Test.YtkkahkgjedgjnaaRows
import Derived.Test.YtkkahkgjedgjnaaIn
import Derived.Test.YtkkahkgjedgjnaaDoes10W
namespace Go.Proofs.Ytkkahkgjedgjnaa.badgeDoes
open Go.ChangeShapes Go.WideShapes Go.ChangeAt Go.RowKit Go.Proofs.Ytkkahkgjedgjnaa
set_option linter.unusedVariables false

theorem own : ownKnob Try.prog.godebug = none := by kernel_rfl
theorem laidOut : laidOutB Try.prog = true := by kernel_rfl
theorem flat0 : flat Try.prog 6 30 = some [.int .i64, .int .i64] := by kernel_rfl
theorem flat0_bytesOf : Try.prog.bytesOf 30 = 16 := by kernel_rfl

set_option maxRecDepth 100000 in
theorem lifted (os : Os) (started : os.Started) (H : Type) (enc : TypeId × Value → H) :
    ReturnsInHanded {} Try.checked os 5 .any (Rows.badgeDoesSpec.pre6 enc Try.prog Try.f5 Rows.badgeDoesRow.domain false) (Rows.badgeDoesSpec.post enc Try.prog Try.f5 false true false false) := by
  refine returnsInHanded_of_change_sized (C := Try.checked) own started (by kernel_rfl) Try.func5
    (ChangeSpec.witness6 (enc := enc) (C := Try.checked) false ⟨#[], #[.int .i64 0, .int .i64 0, .slice none 0 0], []⟩ 8 (by kernel_rfl) (by kernel_rfl) (by kernel_rfl) (by kernel_rfl)) ?_
  intro W base args ds gs before hval0 hW hcnd hsz0 _
  have hval : ∀ (j : Nat) t v, Try.f5.params[j]? = some t → args[j]? = some v → Value.okWide Try.prog W .any base t v := hval0
  have hsz1 : (DataW.weightsEach Try.prog (Try.f5.params.toList ++ []) (ds ++ gs)).all (· ≤ reachBytes) = true := hsz0
  have hW' := hW
  obtain ⟨p, q, hA0, hV, rfl, hfz, hnd⟩ := hW
  have hA : DataW.TrodAll enc Try.prog W 0 (fun _ => true) true Try.f5.params.toList args.toList ds p := hA0
  rw [Try.params5] at hA hval hsz1
  obtain ⟨v0, vs0, d0, ds0, p0, q0, hargs, rfl, rfl, h0, r0⟩ := trodAll_cons hA
  obtain ⟨v1, vs1, d1, ds1, p1, q1, rfl, rfl, rfl, h1, r1⟩ := trodAll_cons r0
  obtain ⟨v2, vs2, d2, ds2, p2, q2, rfl, rfl, rfl, h2, r2⟩ := trodAll_cons r1
  obtain ⟨rfl, rfl, rfl⟩ := trodAll_nil r2
  obtain rfl : args = #[v0, v1, v2] := by cases args; simp_all
  obtain ⟨rfl, rfl⟩ := trodVars_none hV
  clear hA0 hval0
  obtain ⟨x0, rfl, rfl, rfl, w0⟩ := open_int Try.underlying3 (hval 0 3 v0 rfl rfl) h0
  obtain ⟨x1, rfl, rfl, rfl, w1⟩ := open_int Try.underlying3 (hval 1 3 v1 rfl rfl) h1
  have k2 := h2
  have lt2 : ∀ x ∈ p2, x.block < W.heap.size := by obtain ⟨m, hm⟩ := k2; exact DataW.trod_lt m _ _ _ hm
  have hwt2 : ∀ k ∈ d2.weights Try.prog 22, k ≤ reachBytes := fun k hk => by simpa using List.all_eq_true.1 hsz1 _ (DataW.weights_mem_each (j := 2) (t := 22) rfl rfl k hk)
  obtain ⟨a2', len2', cap2', hv2⟩ := okWide_slice Try.underlying22 (hval 2 22 v2 rfl rfl)
  obtain ⟨fuel2, hf2⟩ := h2
  have hf2' : DataW.trod enc Try.prog W 0 (fun _ => true) true fuel2 22 [v2] = some (d2, p2) := by rw [hv2] at hf2 ⊢; exact hf2
  clear hv2 hf2
  obtain ⟨a2, len2, cap2, V2, rfl, hS2, hL2⟩ := in_flat Try.underlying22 flat0 (by decide) (fun _ => rfl) (⟨_, _, hf2', hwt2⟩)
  have hS2' : SlIn W 2 16 a2 len2 cap2 V2 := by simpa [flat0_bytesOf] using hS2
  have hq2_0 : ∀ i, i < len2 → I64 (V2 (i * 2)) := fun i hi => i64_ok (hL2 i hi 0 _ rfl)
  have hq2_1 : ∀ i, i < len2 → I64 (V2 (i * 2 + 1)) := fun i hi => i64_ok (hL2 i hi 1 _ rfl)
  refine (does10_any W x0 (i64_wf w0).1 (i64_wf w0).2 x1 (i64_wf w1).1 (i64_wf w1).2 a2 len2 cap2 V2 hS2' hq2_0 hq2_1).mono fun e W' ⟨he, hg⟩ => ?_
  subst he
  have bel := hg.below0
  exact ⟨_, rfl, _, _, _, [], _, [], hW', trodAll_mk1 (shut_bool Try.underlying4 _), (trodAll_cons_mk (shut_int Try.underlying3 w0) (trodAll_cons_mk (shut_int Try.underlying3 w1) (trodAll_cons_mk (Below.trod laidOut (by kernel_rfl) (of_decide_eq_true (by kernel_rfl)) k2 bel lt2) trodAll_mk0))), rfl, bel.frame _, fun h => by cases h⟩

theorem over : Rows.badgeDoesRow.holds Try.pinned (OpenSpec.ofChange Rows.badgeDoesSpec) :=
  OpenClaim.holds_of_wide 5 Try.f5 rfl rfl rfl rfl rfl rfl rfl ⟨rfl, rfl, rfl, rfl, rfl⟩ rfl rfl rfl rfl rfl (by kernel_rfl) Try.func5 (by kernel_rfl)
    (of_decide_eq_true (by kernel_rfl)) (by unfold Func.isWrapper; first | (rw [if_pos (by decide +kernel)]; kernel_rfl) | (rw [if_neg (by decide +kernel)]; exact ⟨rfl, rfl⟩))
    (fun os started H enc _ => lifted os started H enc)

theorem proved : Rows.BadgeDoesSaid := over
#print axioms proved
end Go.Proofs.Ytkkahkgjedgjnaa.badgeDoes
