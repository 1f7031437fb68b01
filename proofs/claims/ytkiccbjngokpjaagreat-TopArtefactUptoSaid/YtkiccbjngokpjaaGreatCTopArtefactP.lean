/-
  TopArtefact, proved: for every input the law returns true, and its arguments read behind the call as before it. The arguments are together of bulk at most 1048576 (the Upto statement).
-/
import Derived.Test.YtkiccbjngokpjaaGreatRows
import Derived.Deep.CondSized
import Derived.JoinedCond
import Derived.Test.YtkiccbjngokpjaaGreatM2
import Derived.Test.YtkiccbjngokpjaaGreatCTopArtefact
namespace Go.Proofs.YtkiccbjngokpjaaGreat.topArtefact
open Go.ChangeShapes Go.WideShapes Go.ChangeAt Go.RowKit Go.Proofs.YtkiccbjngokpjaaGreat
set_option linter.unusedVariables false

theorem own : ownKnob Tryz.prog.godebug = none := by kernel_rfl
theorem laidOut : laidOutB Tryz.prog = true := by kernel_rfl
theorem flat0 : flat Tryz.prog 6 37 = some [.int .i64, .int .i64, .str] := by kernel_rfl
theorem flat0_bytesOf : Tryz.prog.bytesOf 37 = 32 := by kernel_rfl
theorem one_le {H : Type} (d : DataW H) : 1 ≤ Rows.uptoBulk d := by
  cases d with
  | lit l => cases l <;> simp [Rows.uptoBulk]
  | nil => simp [Rows.uptoBulk]
  | ptr d => simp [Rows.uptoBulk]
  | slice elems spare => simp [Rows.uptoBulk]
  | agg parts => simp [Rows.uptoBulk]
  | iface t d => simp [Rows.uptoBulk]
  | map entries => simp [Rows.uptoBulk]
  | held h => simp [Rows.uptoBulk]
theorem length_le {H : Type} (l : List (DataW H)) : l.length ≤ Rows.uptoBulkAll l := by
  induction l with
  | nil => simp [Rows.uptoBulkAll]
  | cons x r ih => have := one_le x; simp only [Rows.uptoBulkAll, List.length_cons]; omega
theorem slice_len {H : Type} {enc : TypeId × Value → H} {w : World} {base fuel n cap : Nat} {spare : Nat → Bool} {held : Bool} {t e : TypeId} {a : Option Addr} {x : DataW H × List MemPlace} (ht : Tryz.prog.underlying t = some (.slice e))
    (h : DataW.trod enc Tryz.prog w base spare held fuel t [.slice a n cap] = some x) : n ≤ Rows.uptoBulk x.1 := by
  rcases DataW.trod_slice ht h with ⟨h1, _⟩ | ⟨a', len, cap', elems, rest, m, _, h1, rfl, _, _, _, hl, _⟩
  · simp at h1; omega
  · simp at h1
    have h2 := length_le (elems.map (·.1))
    rw [List.length_map] at h2
    simp only [Rows.uptoBulk]
    omega

set_option maxRecDepth 100000 in
theorem lifted (os : Os) (started : os.Started) (H : Type) (enc : TypeId × Value → H) (F : Stop.Interp) :
    ReturnsInHanded {} Tryz.checked os 3 .any ((Rows.OpenSpec.upto Rows.topArtefactSpec).pre6 enc Tryz.prog Tryz.f3 Rows.topArtefactUptoRow.domain false) (((Rows.OpenSpec.upto Rows.topArtefactSpec).at F).post enc Tryz.prog Tryz.f3 false true false false) := by
  refine returnsInHanded_of_cond_sized (C := Tryz.checked) (s := Rows.OpenSpec.upto Rows.topArtefactSpec) (k := Rows.uptoSmall) rfl own started (by kernel_rfl) Tryz.func3
    (OpenSpec.witness (enc := enc) (C := Tryz.checked) (s := Rows.OpenSpec.upto Rows.topArtefactSpec) (k := Rows.uptoSmall) rfl false ⟨#[], #[.int .i64 0, .int .i64 0, .slice none 0 0], []⟩ 8 (by kernel_rfl) (by kernel_rfl) (by kernel_rfl)
      (x := ([.lit (.int .i64 0), .lit (.int .i64 0), .nil], [], [])) (by kernel_rfl) rfl (by kernel_rfl)) ?_
  intro W base args ds gs before hval0 hW hcnd hbk hsz0 _
  have hval : ∀ (j : Nat) t v, Tryz.f3.params[j]? = some t → args[j]? = some v → Value.okWide Tryz.prog W .any base t v := hval0
  have hsz1 : (DataW.weightsEach Tryz.prog (Tryz.f3.params.toList ++ []) (ds ++ gs)).all (· ≤ reachBytes) = true := hsz0
  have hW' := hW
  obtain ⟨p, q, hA0, hV, rfl, hfz, hnd⟩ := hW
  have hA : DataW.TrodAll enc Tryz.prog W 0 (fun _ => true) true Tryz.f3.params.toList args.toList ds p := hA0
  rw [Tryz.params3] at hA hval hsz1
  obtain ⟨v0, vs0, d0, ds0, p0, q0, hargs, rfl, rfl, h0, r0⟩ := trodAll_cons hA
  obtain ⟨v1, vs1, d1, ds1, p1, q1, rfl, rfl, rfl, h1, r1⟩ := trodAll_cons r0
  obtain ⟨v2, vs2, d2, ds2, p2, q2, rfl, rfl, rfl, h2, r2⟩ := trodAll_cons r1
  obtain ⟨rfl, rfl, rfl⟩ := trodAll_nil r2
  obtain rfl : args = #[v0, v1, v2] := by cases args; simp_all
  obtain ⟨rfl, rfl⟩ := trodVars_none hV
  clear hA0 hval0
  obtain ⟨x0, rfl, rfl, rfl, w0⟩ := open_int Tryz.underlying3 (hval 0 3 v0 rfl rfl) h0
  obtain ⟨x1, rfl, rfl, rfl, w1⟩ := open_int Tryz.underlying3 (hval 1 3 v1 rfl rfl) h1
  have k2 := h2
  have lt2 : ∀ x ∈ p2, x.block < W.heap.size := by obtain ⟨m, hm⟩ := k2; exact DataW.trod_lt m _ _ _ hm
  have hwt2 : ∀ k ∈ d2.weights Tryz.prog 22, k ≤ reachBytes := fun k hk => by simpa using List.all_eq_true.1 hsz1 _ (DataW.weights_mem_each (j := 2) (t := 22) rfl rfl k hk)
  obtain ⟨a2', len2', cap2', hv2⟩ := okWide_slice Tryz.underlying22 (hval 2 22 v2 rfl rfl)
  obtain ⟨fuel2, hf2⟩ := h2
  have hf2' : DataW.trod enc Tryz.prog W 0 (fun _ => true) true fuel2 22 [v2] = some (d2, p2) := by rw [hv2] at hf2 ⊢; exact hf2
  clear hv2 hf2
  obtain ⟨a2, len2, cap2, V2, rfl, hS2, hL2⟩ := in_flat Tryz.underlying22 flat0 (by decide) (fun _ => rfl) (⟨_, _, hf2', hwt2⟩)
  have hS2' : SlIn W 3 32 a2 len2 cap2 V2 := by simpa [flat0_bytesOf] using hS2
  have hq2_0 : ∀ i, i < len2 → I64 (V2 (i * 3)) := fun i hi => i64_ok (hL2 i hi 0 _ rfl)
  have hq2_1 : ∀ i, i < len2 → I64 (V2 (i * 3 + 1)) := fun i hi => i64_ok (hL2 i hi 1 _ rfl)
  have hq2_2 : ∀ i, i < len2 → Str (V2 (i * 3 + 2)) := fun i hi => str_ok (hL2 i hi 2 _ rfl)
  have hn2 := slice_len Tryz.underlying22 hf2'
  have hbk1 : Rows.uptoBulkAll (([.lit (.int .i64 x0), .lit (.int .i64 x1), d2] : List (DataW H)) ++ []) ≤ 1048576 := of_decide_eq_true hbk
  simp only [Rows.uptoBulkAll, List.cons_append, List.nil_append] at hbk1
  refine (topart_walk W x0 (i64_wf w0).1 (i64_wf w0).2 x1 (i64_wf w1).1 (i64_wf w1).2 a2 len2 cap2 V2 hS2' hq2_0 hq2_1 hq2_2 (by simp only at hn2; omega)).mono fun e W' ⟨he, hg⟩ => ?_
  subst he
  have bel := hg.below0
  exact ⟨_, rfl, _, _, _, [], _, [], hW', trodAll_mk1 (shut_bool Tryz.underlying4 _), (trodAll_cons_mk (shut_int Tryz.underlying3 w0) (trodAll_cons_mk (shut_int Tryz.underlying3 w1) (trodAll_cons_mk (Below.trod laidOut (by kernel_rfl) (of_decide_eq_true (by kernel_rfl)) k2 bel lt2) trodAll_mk0))), rfl, bel.frame _, fun h => by cases h⟩

theorem over : Rows.topArtefactUptoRow.holds Tryz.pinned (Rows.OpenSpec.upto Rows.topArtefactSpec) :=
  OpenClaim.holds_of_cond 3 Tryz.f3 rfl rfl rfl rfl rfl rfl rfl ⟨rfl, rfl, rfl, rfl, rfl⟩ rfl rfl rfl rfl rfl (by kernel_rfl) Tryz.func3 (by kernel_rfl)
    (of_decide_eq_true (by kernel_rfl)) (by unfold Func.isWrapper; first | (rw [if_pos (by decide +kernel)]; kernel_rfl) | (rw [if_neg (by decide +kernel)]; exact ⟨rfl, rfl⟩))
    (fun os started H enc _ F => lifted os started H enc F)

theorem proved : Rows.TopArtefactUptoSaid := over
#print axioms proved
end Go.Proofs.YtkiccbjngokpjaaGreat.topArtefact
