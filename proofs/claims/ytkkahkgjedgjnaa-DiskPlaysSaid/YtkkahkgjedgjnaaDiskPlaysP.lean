/-
  DiskPlays, proved: for every input the law returns true, and its arguments read behind the call as before it. No condition.
-/
import Derived.Test.YtkkahkgjedgjnaaRows
import Derived.Test.YtkkahkgjedgjnaaIn
import Derived.Test.YtkkahkgjedgjnaaDiskPlays
namespace Go.Proofs.Ytkkahkgjedgjnaa.diskPlays
open Go.ChangeShapes Go.WideShapes Go.ChangeAt Go.RowKit Go.Proofs.Ytkkahkgjedgjnaa
set_option linter.unusedVariables false

theorem own : ownKnob Try.prog.godebug = none := by kernel_rfl
theorem laidOut : laidOutB Try.prog = true := by kernel_rfl
theorem flat0 : flat Try.prog 6 9 = some [.str] := by kernel_rfl
theorem flat0_bytesOf : Try.prog.bytesOf 9 = 16 := by kernel_rfl
theorem flat1 : flat Try.prog 6 56 = some [.int .i64, .str] := by kernel_rfl
theorem flat1_bytesOf : Try.prog.bytesOf 56 = 24 := by kernel_rfl
theorem flatS0 : flat Try.prog 6 49 = some [.other 46, .other 47, .int .i64, .int .i64] := by kernel_rfl

set_option maxRecDepth 100000 in
theorem lifted (os : Os) (started : os.Started) (H : Type) (enc : TypeId × Value → H) :
    ReturnsInHanded {} Try.checked os 15 .any (Rows.diskPlaysSpec.pre6 enc Try.prog Try.f15 Rows.diskPlaysRow.domain false) (Rows.diskPlaysSpec.post enc Try.prog Try.f15 false true false false) := by
  refine returnsInHanded_of_change_sized (C := Try.checked) own started (by kernel_rfl) Try.func15
    (ChangeSpec.witness6 (enc := enc) (C := Try.checked) false ⟨#[], #[.agg #[.slice none 0 0, .slice none 0 0, .int .i64 0, .int .i64 0]], []⟩ 8 (by kernel_rfl) (by kernel_rfl) (by kernel_rfl) (by kernel_rfl)) ?_
  intro W base args ds gs before hval0 hW hcnd hsz0 _
  have hval : ∀ (j : Nat) t v, Try.f15.params[j]? = some t → args[j]? = some v → Value.okWide Try.prog W .any base t v := hval0
  have hsz1 : (DataW.weightsEach Try.prog (Try.f15.params.toList ++ []) (ds ++ gs)).all (· ≤ reachBytes) = true := hsz0
  have hW' := hW
  obtain ⟨p, q, hA0, hV, rfl, hfz, hnd⟩ := hW
  have hA : DataW.TrodAll enc Try.prog W 0 (fun _ => true) true Try.f15.params.toList args.toList ds p := hA0
  rw [Try.params15] at hA hval hsz1
  obtain ⟨v0, vs0, d0, ds0, p0, q0, hargs, rfl, rfl, h0, r0⟩ := trodAll_cons hA
  obtain ⟨rfl, rfl, rfl⟩ := trodAll_nil r0
  obtain rfl : args = #[v0] := by cases args; simp_all
  obtain ⟨rfl, rfl⟩ := trodVars_none hV
  clear hA0 hval0
  have k0 := h0
  have lt0 : ∀ x ∈ p0, x.block < W.heap.size := by obtain ⟨m, hm⟩ := k0; exact DataW.trod_lt m _ _ _ hm
  have hwt0 : ∀ k ∈ d0.weights Try.prog 49, k ≤ reachBytes := fun k hk => by simpa using List.all_eq_true.1 hsz1 _ (DataW.weights_mem_each (j := 0) (t := 49) rfl rfl k hk)
  obtain ⟨cs0, rfl, hc0⟩ := okWide_agg Try.underlying49 (hval 0 49 v0 rfl rfl)
  obtain ⟨c0_0, c0_1, c0_2, c0_3, rfl⟩ := arr4 (c := cs0) (hc0.trans (by kernel_rfl))
  obtain ⟨fuel0, hf0⟩ := h0
  obtain ⟨u, hu, hok0_0⟩ := flat_ok (R := reachBytes) flatS0 hf0 hwt0 0 _ rfl
  obtain rfl : c0_0 = u := by simpa [Value.cells] using hu
  clear hu
  obtain ⟨a0_0, len0_0, cap0_0, V0_0, rfl, hS0_0, hL0_0⟩ := in_flat Try.underlying46 flat0 (by decide) (fun _ => rfl) (hok0_0)
  have hS0_0' : SlIn W 1 16 a0_0 len0_0 cap0_0 V0_0 := by simpa [flat0_bytesOf] using hS0_0
  have hq0_0_0 : ∀ i, i < len0_0 → Str (V0_0 (i * 1)) := fun i hi => str_ok (hL0_0 i hi 0 _ rfl)
  obtain ⟨u, hu, hok0_1⟩ := flat_ok (R := reachBytes) flatS0 hf0 hwt0 1 _ rfl
  obtain rfl : c0_1 = u := by simpa [Value.cells] using hu
  clear hu
  obtain ⟨a0_1, len0_1, cap0_1, V0_1, rfl, hS0_1, hL0_1⟩ := in_flat Try.underlying47 flat1 (by decide) (fun _ => rfl) (hok0_1)
  have hS0_1' : SlIn W 2 24 a0_1 len0_1 cap0_1 V0_1 := by simpa [flat1_bytesOf] using hS0_1
  have hq0_1_0 : ∀ i, i < len0_1 → I64 (V0_1 (i * 2)) := fun i hi => i64_ok (hL0_1 i hi 0 _ rfl)
  have hq0_1_1 : ∀ i, i < len0_1 → Str (V0_1 (i * 2 + 1)) := fun i hi => str_ok (hL0_1 i hi 1 _ rfl)
  obtain ⟨u, hu, hok0_2⟩ := flat_ok (R := reachBytes) flatS0 hf0 hwt0 2 _ rfl
  obtain rfl : c0_2 = u := by simpa [Value.cells] using hu
  clear hu
  obtain ⟨x0_2, rfl, wl0_2, wh0_2⟩ := i64_ok hok0_2
  obtain ⟨u, hu, hok0_3⟩ := flat_ok (R := reachBytes) flatS0 hf0 hwt0 3 _ rfl
  obtain rfl : c0_3 = u := by simpa [Value.cells] using hu
  clear hu
  obtain ⟨x0_3, rfl, wl0_3, wh0_3⟩ := i64_ok hok0_3
  refine (plays04_walk W a0_0 len0_0 cap0_0 V0_0 hS0_0' hq0_0_0 a0_1 len0_1 cap0_1 V0_1 hS0_1' hq0_1_0 hq0_1_1 x0_2 wl0_2 wh0_2 x0_3 wl0_3 wh0_3).mono fun e W' ⟨he, hg⟩ => ?_
  subst he
  have bel := hg.below0
  exact ⟨_, rfl, _, _, _, [], _, [], hW', trodAll_mk1 (shut_bool Try.underlying4 _), (trodAll_cons_mk (Below.trod laidOut (by kernel_rfl) (of_decide_eq_true (by kernel_rfl)) k0 bel lt0) trodAll_mk0), rfl, bel.frame _, fun h => by cases h⟩

theorem over : Rows.diskPlaysRow.holds Try.pinned (OpenSpec.ofChange Rows.diskPlaysSpec) :=
  OpenClaim.holds_of_wide 15 Try.f15 rfl rfl rfl rfl rfl rfl rfl ⟨rfl, rfl, rfl, rfl, rfl⟩ rfl rfl rfl rfl rfl (by kernel_rfl) Try.func15 (by kernel_rfl)
    (of_decide_eq_true (by kernel_rfl)) (by unfold Func.isWrapper; first | (rw [if_pos (by decide +kernel)]; kernel_rfl) | (rw [if_neg (by decide +kernel)]; exact ⟨rfl, rfl⟩))
    (fun os started H enc _ => lifted os started H enc)

theorem proved : Rows.DiskPlaysSaid := over
#print axioms proved
end Go.Proofs.Ytkkahkgjedgjnaa.diskPlays
