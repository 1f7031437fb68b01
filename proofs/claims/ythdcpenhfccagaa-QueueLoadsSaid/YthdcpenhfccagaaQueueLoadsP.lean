/-
  QueueLoads, proved: for every input the law returns true, and its arguments read behind the call as before it. No condition.
-/
import Derived.Test.YthdcpenhfccagaaRows
import Derived.Test.YthdcpenhfccagaaIn
import Derived.Test.YthdcpenhfccagaaQLoads
namespace Go.Proofs.Ythdcpenhfccagaa.queueLoads
open Go.ChangeShapes Go.WideShapes Go.ChangeAt Go.RowKit Go.Proofs.Ythdcpenhfccagaa
set_option linter.unusedVariables false

theorem own : ownKnob Try.prog.godebug = none := by kernel_rfl
theorem laidOut : laidOutB Try.prog = true := by kernel_rfl
theorem flat0 : flat Try.prog 6 37 = some [.int .i64, .int .i64, .int .i64, .int .i64, .int .i64, .int .i64, .int .i64, .int .u64] := by kernel_rfl
theorem flat0_bytesOf : Try.prog.bytesOf 37 = 64 := by kernel_rfl
theorem flat1 : flat Try.prog 6 48 = some [.int .i64, .int .i64, .int .i64, .int .i64, .int .i64, .int .i64, .int .i64, .int .u64] := by kernel_rfl
theorem flat1_bytesOf : Try.prog.bytesOf 48 = 64 := by kernel_rfl

set_option maxRecDepth 100000 in
theorem lifted (os : Os) (started : os.Started) (H : Type) (enc : TypeId × Value → H) :
    ReturnsInHanded {} Try.checked os 10 .any (Rows.queueLoadsSpec.pre6 enc Try.prog Try.f10 Rows.queueLoadsRow.domain false) (Rows.queueLoadsSpec.post enc Try.prog Try.f10 false true false false) := by
  refine returnsInHanded_of_change_sized (C := Try.checked) own started (by kernel_rfl) Try.func10
    (ChangeSpec.witness6 (enc := enc) (C := Try.checked) false ⟨#[], #[.int .i64 0, .slice none 0 0, .slice none 0 0], []⟩ 8 (by kernel_rfl) (by kernel_rfl) (by kernel_rfl) (by kernel_rfl)) ?_
  intro W base args ds gs before hval0 hW hcnd hsz0 _
  have hval : ∀ (j : Nat) t v, Try.f10.params[j]? = some t → args[j]? = some v → Value.okWide Try.prog W .any base t v := hval0
  have hsz1 : (DataW.weightsEach Try.prog (Try.f10.params.toList ++ []) (ds ++ gs)).all (· ≤ reachBytes) = true := hsz0
  have hW' := hW
  obtain ⟨p, q, hA0, hV, rfl, hfz, hnd⟩ := hW
  have hA : DataW.TrodAll enc Try.prog W 0 (fun _ => true) true Try.f10.params.toList args.toList ds p := hA0
  rw [Try.params10] at hA hval hsz1
  obtain ⟨v0, vs0, d0, ds0, p0, q0, hargs, rfl, rfl, h0, r0⟩ := trodAll_cons hA
  obtain ⟨v1, vs1, d1, ds1, p1, q1, rfl, rfl, rfl, h1, r1⟩ := trodAll_cons r0
  obtain ⟨v2, vs2, d2, ds2, p2, q2, rfl, rfl, rfl, h2, r2⟩ := trodAll_cons r1
  obtain ⟨rfl, rfl, rfl⟩ := trodAll_nil r2
  obtain rfl : args = #[v0, v1, v2] := by cases args; simp_all
  obtain ⟨rfl, rfl⟩ := trodVars_none hV
  clear hA0 hval0
  obtain ⟨x0, rfl, rfl, rfl, w0⟩ := open_int Try.underlying3 (hval 0 3 v0 rfl rfl) h0
  have k1 := h1
  have lt1 : ∀ x ∈ p1, x.block < W.heap.size := by obtain ⟨m, hm⟩ := k1; exact DataW.trod_lt m _ _ _ hm
  have hwt1 : ∀ k ∈ d1.weights Try.prog 42, k ≤ reachBytes := fun k hk => by simpa using List.all_eq_true.1 hsz1 _ (DataW.weights_mem_each (j := 1) (t := 42) rfl rfl k hk)
  obtain ⟨a1', len1', cap1', hv1⟩ := okWide_slice Try.underlying42 (hval 1 42 v1 rfl rfl)
  obtain ⟨fuel1, hf1⟩ := h1
  have hf1' : DataW.trod enc Try.prog W 0 (fun _ => true) true fuel1 42 [v1] = some (d1, p1) := by rw [hv1] at hf1 ⊢; exact hf1
  clear hv1 hf1
  obtain ⟨a1, len1, cap1, V1, rfl, hS1, hL1⟩ := in_flat Try.underlying42 flat0 (by decide) (fun _ => rfl) (⟨_, _, hf1', hwt1⟩)
  have hS1' : SlIn W 8 64 a1 len1 cap1 V1 := by simpa [flat0_bytesOf] using hS1
  have hq1_0 : ∀ i, i < len1 → I64 (V1 (i * 8)) := fun i hi => i64_ok (hL1 i hi 0 _ rfl)
  have hq1_1 : ∀ i, i < len1 → I64 (V1 (i * 8 + 1)) := fun i hi => i64_ok (hL1 i hi 1 _ rfl)
  have hq1_2 : ∀ i, i < len1 → I64 (V1 (i * 8 + 2)) := fun i hi => i64_ok (hL1 i hi 2 _ rfl)
  have hq1_3 : ∀ i, i < len1 → I64 (V1 (i * 8 + 3)) := fun i hi => i64_ok (hL1 i hi 3 _ rfl)
  have hq1_4 : ∀ i, i < len1 → I64 (V1 (i * 8 + 4)) := fun i hi => i64_ok (hL1 i hi 4 _ rfl)
  have hq1_5 : ∀ i, i < len1 → I64 (V1 (i * 8 + 5)) := fun i hi => i64_ok (hL1 i hi 5 _ rfl)
  have hq1_6 : ∀ i, i < len1 → I64 (V1 (i * 8 + 6)) := fun i hi => i64_ok (hL1 i hi 6 _ rfl)
  have hq1_7 : ∀ i, i < len1 → U64 (V1 (i * 8 + 7)) := fun i hi => u64_ok (hL1 i hi 7 _ rfl)
  have k2 := h2
  have lt2 : ∀ x ∈ p2, x.block < W.heap.size := by obtain ⟨m, hm⟩ := k2; exact DataW.trod_lt m _ _ _ hm
  have hwt2 : ∀ k ∈ d2.weights Try.prog 45, k ≤ reachBytes := fun k hk => by simpa using List.all_eq_true.1 hsz1 _ (DataW.weights_mem_each (j := 2) (t := 45) rfl rfl k hk)
  obtain ⟨a2', len2', cap2', hv2⟩ := okWide_slice Try.underlying45 (hval 2 45 v2 rfl rfl)
  obtain ⟨fuel2, hf2⟩ := h2
  have hf2' : DataW.trod enc Try.prog W 0 (fun _ => true) true fuel2 45 [v2] = some (d2, p2) := by rw [hv2] at hf2 ⊢; exact hf2
  clear hv2 hf2
  obtain ⟨a2, len2, cap2, V2, rfl, hS2, hL2⟩ := in_flat Try.underlying45 flat1 (by decide) (fun _ => rfl) (⟨_, _, hf2', hwt2⟩)
  have hS2' : SlIn W 8 64 a2 len2 cap2 V2 := by simpa [flat1_bytesOf] using hS2
  have hq2_0 : ∀ i, i < len2 → I64 (V2 (i * 8)) := fun i hi => i64_ok (hL2 i hi 0 _ rfl)
  have hq2_1 : ∀ i, i < len2 → I64 (V2 (i * 8 + 1)) := fun i hi => i64_ok (hL2 i hi 1 _ rfl)
  have hq2_2 : ∀ i, i < len2 → I64 (V2 (i * 8 + 2)) := fun i hi => i64_ok (hL2 i hi 2 _ rfl)
  have hq2_3 : ∀ i, i < len2 → I64 (V2 (i * 8 + 3)) := fun i hi => i64_ok (hL2 i hi 3 _ rfl)
  have hq2_4 : ∀ i, i < len2 → I64 (V2 (i * 8 + 4)) := fun i hi => i64_ok (hL2 i hi 4 _ rfl)
  have hq2_5 : ∀ i, i < len2 → I64 (V2 (i * 8 + 5)) := fun i hi => i64_ok (hL2 i hi 5 _ rfl)
  have hq2_6 : ∀ i, i < len2 → I64 (V2 (i * 8 + 6)) := fun i hi => i64_ok (hL2 i hi 6 _ rfl)
  have hq2_7 : ∀ i, i < len2 → U64 (V2 (i * 8 + 7)) := fun i hi => u64_ok (hL2 i hi 7 _ rfl)
  refine (qloads_walk W x0 (i64_wf w0).1 (i64_wf w0).2 a1 len1 cap1 V1 hS1' hq1_0 hq1_1 hq1_2 hq1_3 hq1_4 hq1_5 hq1_6 hq1_7 a2 len2 cap2 V2 hS2' hq2_0 hq2_1 hq2_2 hq2_3 hq2_4 hq2_5 hq2_6 hq2_7).mono fun e W' ⟨he, hg⟩ => ?_
  subst he
  have bel := hg.below0
  exact ⟨_, rfl, _, _, _, [], _, [], hW', trodAll_mk1 (shut_bool Try.underlying4 _), (trodAll_cons_mk (shut_int Try.underlying3 w0) (trodAll_cons_mk (Below.trod laidOut (by kernel_rfl) (of_decide_eq_true (by kernel_rfl)) k1 bel lt1) (trodAll_cons_mk (Below.trod laidOut (by kernel_rfl) (of_decide_eq_true (by kernel_rfl)) k2 bel lt2) trodAll_mk0))), rfl, bel.frame _, fun h => by cases h⟩

theorem over : Rows.queueLoadsRow.holds Try.pinned (OpenSpec.ofChange Rows.queueLoadsSpec) :=
  OpenClaim.holds_of_wide 10 Try.f10 rfl rfl rfl rfl rfl rfl rfl ⟨rfl, rfl, rfl, rfl, rfl⟩ rfl rfl rfl rfl rfl (by kernel_rfl) Try.func10 (by kernel_rfl)
    (of_decide_eq_true (by kernel_rfl)) (by unfold Func.isWrapper; first | (rw [if_pos (by decide +kernel)]; kernel_rfl) | (rw [if_neg (by decide +kernel)]; exact ⟨rfl, rfl⟩))
    (fun os started H enc _ => lifted os started H enc)

theorem proved : Rows.QueueLoadsSaid := over
#print axioms proved
end Go.Proofs.Ythdcpenhfccagaa.queueLoads
