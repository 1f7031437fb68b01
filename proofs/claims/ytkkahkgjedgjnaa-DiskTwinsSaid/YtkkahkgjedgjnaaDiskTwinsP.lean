/-
  DiskTwins, proved: for every input the law returns true, and its arguments read behind the call as before it. No condition.
-/
import Derived.Test.YtkkahkgjedgjnaaRows
import Derived.Test.YtkkahkgjedgjnaaIn
import Derived.Test.YtkkahkgjedgjnaaTwins04
namespace Go.Proofs.Ytkkahkgjedgjnaa.diskTwins
open Go.ChangeShapes Go.WideShapes Go.ChangeAt Go.RowKit Go.Proofs.Ytkkahkgjedgjnaa
set_option linter.unusedVariables false

theorem own : ownKnob Try.prog.godebug = none := by kernel_rfl
theorem laidOut : laidOutB Try.prog = true := by kernel_rfl
theorem flat0 : flat Try.prog 6 9 = some [.str] := by kernel_rfl
theorem flat0_bytesOf : Try.prog.bytesOf 9 = 16 := by kernel_rfl
theorem flat1 : flat Try.prog 6 56 = some [.int .i64, .str] := by kernel_rfl
theorem flat1_bytesOf : Try.prog.bytesOf 56 = 24 := by kernel_rfl
theorem flatS0 : flat Try.prog 6 49 = some [.other 46, .other 47, .int .i64, .int .i64] := by kernel_rfl
theorem flatS1 : flat Try.prog 6 56 = some [.int .i64, .str] := by kernel_rfl
theorem flatS2 : flat Try.prog 6 56 = some [.int .i64, .str] := by kernel_rfl

set_option maxRecDepth 100000 in
theorem lifted (os : Os) (started : os.Started) (H : Type) (enc : TypeId × Value → H) :
    ReturnsInHanded {} Try.checked os 10 .any (Rows.diskTwinsSpec.pre6 enc Try.prog Try.f10 Rows.diskTwinsRow.domain false) (Rows.diskTwinsSpec.post enc Try.prog Try.f10 false true false false) := by
  refine returnsInHanded_of_change_sized (C := Try.checked) own started (by kernel_rfl) Try.func10
    (ChangeSpec.witness6 (enc := enc) (C := Try.checked) false ⟨#[], #[.agg #[.slice none 0 0, .slice none 0 0, .int .i64 0, .int .i64 0], .agg #[.int .i64 0, .string ByteArray.empty], .agg #[.int .i64 0, .string ByteArray.empty]], []⟩ 8 (by kernel_rfl) (by kernel_rfl) (by kernel_rfl) (by kernel_rfl)) ?_
  intro W base args ds gs before hval0 hW hcnd hsz0 _
  have hval : ∀ (j : Nat) t v, Try.f10.params[j]? = some t → args[j]? = some v → Value.okWide Try.prog W .any base t v := hval0
  have hsz1 : (DataW.weightsEach Try.prog (Try.f10.params.toList ++ []) (ds ++ gs)).all (· ≤ reachBytes) = true := hsz0
  have hW' := hW
  obtain ⟨p, q, hA0, hV, rfl, hfz, hnd⟩ := hW
  have hA : DataW.TrodAll enc Try.prog W 0 (fun _ => true) true Try.f10.params.toList args.toList ds p := hA0
  rw [Try.params10] at hA hval hsz1
  obtain ⟨v0, vs0, d0, ds0, p0, q0, hargs, rfl, rfl, h0, r0⟩ := trodAll_cons hA
  obtain ⟨v1, vs1, d1, ds1, p1, q1, rfl, rfl, rfl, h1, r1⟩ := trodAll_cons r0
  obtain ⟨v2, vs2, d2, ds2, p2, q2, rfl, rfl, rfl, h2, r2⟩ := trodAll_cons r1
  obtain ⟨rfl, rfl, rfl⟩ := trodAll_nil r2
  obtain rfl : args = #[v0, v1, v2] := by cases args; simp_all
  obtain ⟨rfl, rfl⟩ := trodVars_none hV
  clear hA0 hval0
  have k0 := h0
  have lt0 : ∀ x ∈ p0, x.block < W.heap.size := by obtain ⟨m, hm⟩ := k0; exact DataW.trod_lt m _ _ _ hm
  have hwt0 : ∀ k ∈ d0.weights Try.prog 49, k ≤ reachBytes := fun k hk => by simpa using List.all_eq_true.1 hsz1 _ (DataW.weights_mem_each (j := 0) (t := 49) rfl rfl k hk)
  obtain ⟨cs0, rfl, hc0⟩ := okWide_agg Try.underlying49 (hval 0 49 v0 rfl rfl)
  obtain ⟨c0_0, c0_1, c0_2, c0_3, rfl⟩ := arr4 (c := cs0) (hc0.trans (by kernel_rfl))
  obtain ⟨fuel0, hf0⟩ := h0
  obtain ⟨u, hu, hok0_0⟩ := flat_ok (R := reachBytes) flatS0 hf0 hwt0 0 _ rfl
  obtain rfl : c0_0 = u := by simpa [Value.cells] using hu
  clear hu
  obtain ⟨a0_0, len0_0, cap0_0, V0_0, rfl, hS0_0, hL0_0⟩ := in_flat Try.underlying46 flat0 (by decide) (fun _ => rfl) (hok0_0)
  have hS0_0' : SlIn W 1 16 a0_0 len0_0 cap0_0 V0_0 := by simpa [flat0_bytesOf] using hS0_0
  have hq0_0_0 : ∀ i, i < len0_0 → Str (V0_0 (i * 1)) := fun i hi => str_ok (hL0_0 i hi 0 _ rfl)
  obtain ⟨u, hu, hok0_1⟩ := flat_ok (R := reachBytes) flatS0 hf0 hwt0 1 _ rfl
  obtain rfl : c0_1 = u := by simpa [Value.cells] using hu
  clear hu
  obtain ⟨a0_1, len0_1, cap0_1, V0_1, rfl, hS0_1, hL0_1⟩ := in_flat Try.underlying47 flat1 (by decide) (fun _ => rfl) (hok0_1)
  have hS0_1' : SlIn W 2 24 a0_1 len0_1 cap0_1 V0_1 := by simpa [flat1_bytesOf] using hS0_1
  have hq0_1_0 : ∀ i, i < len0_1 → I64 (V0_1 (i * 2)) := fun i hi => i64_ok (hL0_1 i hi 0 _ rfl)
  have hq0_1_1 : ∀ i, i < len0_1 → Str (V0_1 (i * 2 + 1)) := fun i hi => str_ok (hL0_1 i hi 1 _ rfl)
  obtain ⟨u, hu, hok0_2⟩ := flat_ok (R := reachBytes) flatS0 hf0 hwt0 2 _ rfl
  obtain rfl : c0_2 = u := by simpa [Value.cells] using hu
  clear hu
  obtain ⟨x0_2, rfl, wl0_2, wh0_2⟩ := i64_ok hok0_2
  obtain ⟨u, hu, hok0_3⟩ := flat_ok (R := reachBytes) flatS0 hf0 hwt0 3 _ rfl
  obtain rfl : c0_3 = u := by simpa [Value.cells] using hu
  clear hu
  obtain ⟨x0_3, rfl, wl0_3, wh0_3⟩ := i64_ok hok0_3
  have k1 := h1
  have lt1 : ∀ x ∈ p1, x.block < W.heap.size := by obtain ⟨m, hm⟩ := k1; exact DataW.trod_lt m _ _ _ hm
  have hwt1 : ∀ k ∈ d1.weights Try.prog 56, k ≤ reachBytes := fun k hk => by simpa using List.all_eq_true.1 hsz1 _ (DataW.weights_mem_each (j := 1) (t := 56) rfl rfl k hk)
  obtain ⟨cs1, rfl, hc1⟩ := okWide_agg Try.underlying56 (hval 1 56 v1 rfl rfl)
  obtain ⟨c1_0, c1_1, rfl⟩ := arr2 (c := cs1) (hc1.trans (by kernel_rfl))
  obtain ⟨fuel1, hf1⟩ := h1
  obtain ⟨u, hu, hok1_0⟩ := flat_ok (R := reachBytes) flatS1 hf1 hwt1 0 _ rfl
  obtain rfl : c1_0 = u := by simpa [Value.cells] using hu
  clear hu
  obtain ⟨x1_0, rfl, wl1_0, wh1_0⟩ := i64_ok hok1_0
  obtain ⟨u, hu, hok1_1⟩ := flat_ok (R := reachBytes) flatS1 hf1 hwt1 1 _ rfl
  obtain rfl : c1_1 = u := by simpa [Value.cells] using hu
  clear hu
  obtain ⟨s1_1, rfl, hs1_1⟩ := str_ok hok1_1
  have k2 := h2
  have lt2 : ∀ x ∈ p2, x.block < W.heap.size := by obtain ⟨m, hm⟩ := k2; exact DataW.trod_lt m _ _ _ hm
  have hwt2 : ∀ k ∈ d2.weights Try.prog 56, k ≤ reachBytes := fun k hk => by simpa using List.all_eq_true.1 hsz1 _ (DataW.weights_mem_each (j := 2) (t := 56) rfl rfl k hk)
  obtain ⟨cs2, rfl, hc2⟩ := okWide_agg Try.underlying56 (hval 2 56 v2 rfl rfl)
  obtain ⟨c2_0, c2_1, rfl⟩ := arr2 (c := cs2) (hc2.trans (by kernel_rfl))
  obtain ⟨fuel2, hf2⟩ := h2
  obtain ⟨u, hu, hok2_0⟩ := flat_ok (R := reachBytes) flatS2 hf2 hwt2 0 _ rfl
  obtain rfl : c2_0 = u := by simpa [Value.cells] using hu
  clear hu
  obtain ⟨x2_0, rfl, wl2_0, wh2_0⟩ := i64_ok hok2_0
  obtain ⟨u, hu, hok2_1⟩ := flat_ok (R := reachBytes) flatS2 hf2 hwt2 1 _ rfl
  obtain rfl : c2_1 = u := by simpa [Value.cells] using hu
  clear hu
  obtain ⟨s2_1, rfl, hs2_1⟩ := str_ok hok2_1
  refine (twins04_walk W a0_0 len0_0 cap0_0 V0_0 hS0_0' hq0_0_0 a0_1 len0_1 cap0_1 V0_1 hS0_1' hq0_1_0 hq0_1_1 x0_2 wl0_2 wh0_2 x0_3 wl0_3 wh0_3 x1_0 wl1_0 wh1_0 s1_1 hs1_1 x2_0 wl2_0 wh2_0 s2_1 hs2_1).mono fun e W' ⟨he, hg⟩ => ?_
  subst he
  have bel := hg.below0
  exact ⟨_, rfl, _, _, _, [], _, [], hW', trodAll_mk1 (shut_bool Try.underlying4 _), (trodAll_cons_mk (Below.trod laidOut (by kernel_rfl) (of_decide_eq_true (by kernel_rfl)) k0 bel lt0) (trodAll_cons_mk (Below.trod laidOut (by kernel_rfl) (of_decide_eq_true (by kernel_rfl)) k1 bel lt1) (trodAll_cons_mk (Below.trod laidOut (by kernel_rfl) (of_decide_eq_true (by kernel_rfl)) k2 bel lt2) trodAll_mk0))), rfl, bel.frame _, fun h => by cases h⟩

theorem over : Rows.diskTwinsRow.holds Try.pinned (OpenSpec.ofChange Rows.diskTwinsSpec) :=
  OpenClaim.holds_of_wide 10 Try.f10 rfl rfl rfl rfl rfl rfl rfl ⟨rfl, rfl, rfl, rfl, rfl⟩ rfl rfl rfl rfl rfl (by kernel_rfl) Try.func10 (by kernel_rfl)
    (of_decide_eq_true (by kernel_rfl)) (by unfold Func.isWrapper; first | (rw [if_pos (by decide +kernel)]; kernel_rfl) | (rw [if_neg (by decide +kernel)]; exact ⟨rfl, rfl⟩))
    (fun os started H enc _ => lifted os started H enc)

theorem proved : Rows.DiskTwinsSaid := over
#print axioms proved
end Go.Proofs.Ytkkahkgjedgjnaa.diskTwins
