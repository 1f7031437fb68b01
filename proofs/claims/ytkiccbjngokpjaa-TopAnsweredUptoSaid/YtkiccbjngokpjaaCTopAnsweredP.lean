/-
  TopAnswered, proved: for every input the law returns true, and its arguments read behind the call as before it. The arguments are together of bulk at most 1048576 (the Upto statement).
-/
import Derived.Test.YtkiccbjngokpjaaRows
import Derived.Deep.CondSized
import Derived.JoinedCond
import Derived.Test.YtkiccbjngokpjaaM2
import Derived.Test.YtkiccbjngokpjaaCTopAnswered
namespace Go.Proofs.Ytkiccbjngokpjaa.topAnswered
open Go.ChangeShapes Go.WideShapes Go.ChangeAt Go.RowKit Go.Proofs.Ytkiccbjngokpjaa
set_option linter.unusedVariables false

theorem own : ownKnob Try.prog.godebug = none := by kernel_rfl
theorem laidOut : laidOutB Try.prog = true := by kernel_rfl
theorem flat0 : flat Try.prog 6 52 = some [.int .i64, .int .i64] := by kernel_rfl
theorem flat0_bytesOf : Try.prog.bytesOf 52 = 16 := by kernel_rfl
theorem one_le {H : Type} (d : DataW H) : 1 ≤ Rows.uptoBulk d := by
  cases d with
  | lit l => cases l <;> simp [Rows.uptoBulk]
  | nil => simp [Rows.uptoBulk]
  | ptr d => simp [Rows.uptoBulk]
  | slice elems spare => simp [Rows.uptoBulk]
  | agg parts => simp [Rows.uptoBulk]
  | iface t d => simp [Rows.uptoBulk]
  | map entries => simp [Rows.uptoBulk]
  | held h => simp [Rows.uptoBulk]
theorem length_le {H : Type} (l : List (DataW H)) : l.length ≤ Rows.uptoBulkAll l := by
  induction l with
  | nil => simp [Rows.uptoBulkAll]
  | cons x r ih => have := one_le x; simp only [Rows.uptoBulkAll, List.length_cons]; omega
theorem slice_len {H : Type} {enc : TypeId × Value → H} {w : World} {base fuel n cap : Nat} {spare : Nat → Bool} {held : Bool} {t e : TypeId} {a : Option Addr} {x : DataW H × List MemPlace} (ht : Try.prog.underlying t = some (.slice e))
    (h : DataW.trod enc Try.prog w base spare held fuel t [.slice a n cap] = some x) : n ≤ Rows.uptoBulk x.1 := by
  rcases DataW.trod_slice ht h with ⟨h1, _⟩ | ⟨a', len, cap', elems, rest, m, _, h1, rfl, _, _, _, hl, _⟩
  · simp at h1; omega
  · simp at h1
    have h2 := length_le (elems.map (·.1))
    rw [List.length_map] at h2
    simp only [Rows.uptoBulk]
    omega

set_option maxRecDepth 100000 in
theorem lifted (os : Os) (started : os.Started) (H : Type) (enc : TypeId × Value → H) (F : Stop.Interp) :
    ReturnsInHanded {} Try.checked os 4 .any ((Rows.OpenSpec.upto Rows.topAnsweredSpec).pre6 enc Try.prog Try.f4 Rows.topAnsweredUptoRow.domain false) (((Rows.OpenSpec.upto Rows.topAnsweredSpec).at F).post enc Try.prog Try.f4 false true false false) := by
  refine returnsInHanded_of_cond_sized (C := Try.checked) (s := Rows.OpenSpec.upto Rows.topAnsweredSpec) (k := Rows.uptoSmall) rfl own started (by kernel_rfl) Try.func4
    (OpenSpec.witness (enc := enc) (C := Try.checked) (s := Rows.OpenSpec.upto Rows.topAnsweredSpec) (k := Rows.uptoSmall) rfl false ⟨#[], #[.int .i64 0, .slice none 0 0], []⟩ 8 (by kernel_rfl) (by kernel_rfl) (by kernel_rfl)
      (x := ([.lit (.int .i64 0), .nil], [], [])) (by kernel_rfl) rfl (by kernel_rfl)) ?_
  intro W base args ds gs before hval0 hW hcnd hbk hsz0 _
  have hval : ∀ (j : Nat) t v, Try.f4.params[j]? = some t → args[j]? = some v → Value.okWide Try.prog W .any base t v := hval0
  have hsz1 : (DataW.weightsEach Try.prog (Try.f4.params.toList ++ []) (ds ++ gs)).all (· ≤ reachBytes) = true := hsz0
  have hW' := hW
  obtain ⟨p, q, hA0, hV, rfl, hfz, hnd⟩ := hW
  have hA : DataW.TrodAll enc Try.prog W 0 (fun _ => true) true Try.f4.params.toList args.toList ds p := hA0
  rw [Try.params4] at hA hval hsz1
  obtain ⟨v0, vs0, d0, ds0, p0, q0, hargs, rfl, rfl, h0, r0⟩ := trodAll_cons hA
  obtain ⟨v1, vs1, d1, ds1, p1, q1, rfl, rfl, rfl, h1, r1⟩ := trodAll_cons r0
  obtain ⟨rfl, rfl, rfl⟩ := trodAll_nil r1
  obtain rfl : args = #[v0, v1] := by cases args; simp_all
  obtain ⟨rfl, rfl⟩ := trodVars_none hV
  clear hA0 hval0
  obtain ⟨x0, rfl, rfl, rfl, w0⟩ := open_int Try.underlying3 (hval 0 3 v0 rfl rfl) h0
  have k1 := h1
  have lt1 : ∀ x ∈ p1, x.block < W.heap.size := by obtain ⟨m, hm⟩ := k1; exact DataW.trod_lt m _ _ _ hm
  have hwt1 : ∀ k ∈ d1.weights Try.prog 40, k ≤ reachBytes := fun k hk => by simpa using List.all_eq_true.1 hsz1 _ (DataW.weights_mem_each (j := 1) (t := 40) rfl rfl k hk)
  obtain ⟨a1', len1', cap1', hv1⟩ := okWide_slice Try.underlying40 (hval 1 40 v1 rfl rfl)
  obtain ⟨fuel1, hf1⟩ := h1
  have hf1' : DataW.trod enc Try.prog W 0 (fun _ => true) true fuel1 40 [v1] = some (d1, p1) := by rw [hv1] at hf1 ⊢; exact hf1
  clear hv1 hf1
  obtain ⟨a1, len1, cap1, V1, rfl, hS1, hL1⟩ := in_flat Try.underlying40 flat0 (by decide) (fun _ => rfl) (⟨_, _, hf1', hwt1⟩)
  have hS1' : SlIn W 2 16 a1 len1 cap1 V1 := by simpa [flat0_bytesOf] using hS1
  have hq1_0 : ∀ i, i < len1 → I64 (V1 (i * 2)) := fun i hi => i64_ok (hL1 i hi 0 _ rfl)
  have hq1_1 : ∀ i, i < len1 → I64 (V1 (i * 2 + 1)) := fun i hi => i64_ok (hL1 i hi 1 _ rfl)
  have hn1 := slice_len Try.underlying40 hf1'
  have hbk1 : Rows.uptoBulkAll (([.lit (.int .i64 x0), d1] : List (DataW H)) ++ []) ≤ 1048576 := of_decide_eq_true hbk
  simp only [Rows.uptoBulkAll, List.cons_append, List.nil_append] at hbk1
  refine (topanswered_walk W x0 (i64_wf w0).1 (i64_wf w0).2 a1 len1 cap1 V1 hS1' hq1_0 hq1_1 (by simp only at hn1; omega)).mono fun e W' ⟨he, hg⟩ => ?_
  subst he
  have bel := hg.below0
  exact ⟨_, rfl, _, _, _, [], _, [], hW', trodAll_mk1 (shut_bool Try.underlying4 _), (trodAll_cons_mk (shut_int Try.underlying3 w0) (trodAll_cons_mk (Below.trod laidOut (by kernel_rfl) (of_decide_eq_true (by kernel_rfl)) k1 bel lt1) trodAll_mk0)), rfl, bel.frame _, fun h => by cases h⟩

theorem over : Rows.topAnsweredUptoRow.holds Try.pinned (Rows.OpenSpec.upto Rows.topAnsweredSpec) :=
  OpenClaim.holds_of_cond 4 Try.f4 rfl rfl rfl rfl rfl rfl rfl ⟨rfl, rfl, rfl, rfl, rfl⟩ rfl rfl rfl rfl rfl (by kernel_rfl) Try.func4 (by kernel_rfl)
    (of_decide_eq_true (by kernel_rfl)) (by unfold Func.isWrapper; first | (rw [if_pos (by decide +kernel)]; kernel_rfl) | (rw [if_neg (by decide +kernel)]; exact ⟨rfl, rfl⟩))
    (fun os started H enc _ F => lifted os started H enc F)

theorem proved : Rows.TopAnsweredUptoSaid := over
#print axioms proved
end Go.Proofs.Ytkiccbjngokpjaa.topAnswered
