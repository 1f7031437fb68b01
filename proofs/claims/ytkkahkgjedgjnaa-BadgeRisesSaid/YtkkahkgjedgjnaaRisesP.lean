/-
  BadgeRises, proved: for every number and every list of lives the law returns true, and its arguments read behind the call as before it. No condition.
-/
import Derived.Test.YtkkahkgjedgjnaaRows
import Derived.Test.YtkkahkgjedgjnaaOpen
import Derived.Test.YtkkahkgjedgjnaaRises
namespace Go.Proofs.Ytkkahkgjedgjnaa.badgeRises
open Go.ChangeShapes Go.WideShapes Go.ChangeAt Go.RowKit Go.Proofs.Ytkkahkgjedgjnaa
set_option linter.unusedVariables false

theorem own : ownKnob Try.prog.godebug = none := by kernel_rfl
theorem laidOut : laidOutB Try.prog = true := by kernel_rfl
theorem flatOp : flat Try.prog 5 30 = some [.int .i64, .int .i64] := by kernel_rfl

set_option maxRecDepth 100000 in
theorem lifted (os : Os) (started : os.Started) (H : Type) (enc : TypeId × Value → H) :
    ReturnsInHanded {} Try.checked os 3 .any (Rows.badgeRisesSpec.pre6 enc Try.prog Try.f3 Rows.badgeRisesRow.domain false) (Rows.badgeRisesSpec.post enc Try.prog Try.f3 false true false false) := by
  refine returnsInHanded_of_change_sized (C := Try.checked) own started (by kernel_rfl) Try.func3
    (ChangeSpec.witness6 (enc := enc) (C := Try.checked) false ⟨#[], #[.int .i64 0, .slice none 0 0], []⟩ 8 (by kernel_rfl) (by kernel_rfl) (by kernel_rfl) (by kernel_rfl)) ?_
  intro W base args ds gs before hval0 hW hcnd hsz0 _
  have hval : ∀ (j : Nat) t v, Try.f3.params[j]? = some t → args[j]? = some v → Value.okWide Try.prog W .any base t v := hval0
  have hsz1 : (DataW.weightsEach Try.prog (Try.f3.params.toList ++ []) (ds ++ gs)).all (· ≤ reachBytes) = true := hsz0
  have hW' := hW
  obtain ⟨p, q, hA0, hV, rfl, hfz, hnd⟩ := hW
  have hA : DataW.TrodAll enc Try.prog W 0 (fun _ => true) true Try.f3.params.toList args.toList ds p := hA0
  rw [Try.params3] at hA hval hsz1
  obtain ⟨v0, vs0, d0, ds0, p0, q0, hargs, rfl, rfl, h0, r0⟩ := trodAll_cons hA
  obtain ⟨v1, vs1, d1, ds1, p1, q1, rfl, rfl, rfl, h1, r1⟩ := trodAll_cons r0
  obtain ⟨rfl, rfl, rfl⟩ := trodAll_nil r1
  obtain rfl : args = #[v0, v1] := by cases args; simp_all
  obtain ⟨rfl, rfl⟩ := trodVars_none hV
  obtain ⟨a0, rfl, rfl, rfl, w0⟩ := open_int Try.underlying3 (hval 0 3 v0 rfl rfl) h0
  have k1 := h1
  have lt1 : ∀ x ∈ p1, x.block < W.heap.size := by obtain ⟨m, hm⟩ := k1; exact DataW.trod_lt m _ _ _ hm
  obtain ⟨a1, len1, cap1, rfl⟩ := okWide_slice Try.underlying22 (hval 1 22 v1 rfl rfl)
  obtain ⟨fuel, hf⟩ := h1
  have hwt : ∀ k ∈ d1.weights Try.prog 22, k ≤ reachBytes := fun k hk => by simpa using List.all_eq_true.1 hsz1 _ (DataW.weights_mem_each (j := 1) (t := 22) rfl rfl k hk)
  obtain ⟨a, len, cap, hv, hlc, hcm, hcr, hsome, V, hcell, hleaf⟩ := open_flat Try.underlying22 flatOp (fun _ => rfl) (by decide) hf hwt
  obtain ⟨rfl, rfl, rfl⟩ : a1 = a ∧ len1 = len ∧ cap1 = cap := by simpa using hv
  clear hA0 hval0
  have hx : -9223372036854775808 ≤ a0 ∧ a0 ≤ 9223372036854775807 := by simpa [Lit.wf, IntKind.min, IntKind.max, IntKind.signed, IntKind.bits] using w0
  unfold maxLen at hcm
  refine (rises_any a0 a1 len1 cap1 (fun i => intOf (V (i * 2))) (fun i => intOf (V (i * 2 + 1))) W hx.1 hx.2 (by omega) ?_ ?_).mono fun e W' ⟨he, hg⟩ => ?_
  · intro hpos
    obtain ⟨b, off, rfl⟩ := hsome hpos
    refine ⟨b, off, rfl, fun i hi => ⟨?_, ?_⟩⟩
    · have := hcell b off rfl (i * 2) (by simp; omega)
      obtain ⟨n, hn, _⟩ := hleaf i hi 0 _ rfl
      simp at hn
      rw [this, hn]; rfl
    · have := hcell b off rfl (i * 2 + 1) (by simp; omega)
      obtain ⟨n, hn, _⟩ := hleaf i hi 1 _ rfl
      simp at hn
      rw [Nat.add_assoc, this, hn]; rfl
  · intro i hi
    obtain ⟨n, hn, wn⟩ := hleaf i hi 0 _ rfl
    obtain ⟨n', hn', wn'⟩ := hleaf i hi 1 _ rfl
    simp at hn hn'
    have z1 : -9223372036854775808 ≤ n ∧ n ≤ 9223372036854775807 := by simpa [Lit.wf, IntKind.min, IntKind.max, IntKind.signed, IntKind.bits] using wn
    have z2 : -9223372036854775808 ≤ n' ∧ n' ≤ 9223372036854775807 := by simpa [Lit.wf, IntKind.min, IntKind.max, IntKind.signed, IntKind.bits] using wn'
    simp only [hn, hn', intOf]
    omega
  · subst he
    have bel := hg.below0
    exact ⟨_, rfl, _, _, _, [], _, [], hW', trodAll_mk1 (shut_bool Try.underlying4 _), (trodAll_cons_mk (shut_int Try.underlying3 w0) (trodAll_cons_mk (Below.trod laidOut (by kernel_rfl) (of_decide_eq_true (by kernel_rfl)) k1 bel lt1) trodAll_mk0)), rfl, bel.frame _, fun h => by cases h⟩

theorem over : Rows.badgeRisesRow.holds Try.pinned (OpenSpec.ofChange Rows.badgeRisesSpec) :=
  OpenClaim.holds_of_wide 3 Try.f3 rfl rfl rfl rfl rfl rfl rfl ⟨rfl, rfl, rfl, rfl, rfl⟩ rfl rfl rfl rfl rfl (by kernel_rfl) Try.func3 (by kernel_rfl)
    (of_decide_eq_true (by kernel_rfl)) (by unfold Func.isWrapper; first | (rw [if_pos (by decide +kernel)]; kernel_rfl) | (rw [if_neg (by decide +kernel)]; exact ⟨rfl, rfl⟩))
    (fun os started H enc _ => lifted os started H enc)

theorem proved : Rows.BadgeRisesSaid := over
#print axioms proved
end Go.Proofs.Ytkkahkgjedgjnaa.badgeRises
