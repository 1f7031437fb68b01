/-
  RecordJoins, proved: for every input the law returns true, and its arguments read behind the call as before it. The arguments are together of bulk at most 1048576 (the Upto statement).
-/
import Derived.Test.YtdobbmlaokolmaaRows
import Derived.Test.YtdobbmlaokolmaaIn
import Derived.Test.YtdobbmlaokolmaaRecordJoins
import Derived.Deep.CondSized
import Derived.JoinedCond
namespace Go.Proofs.Ytdobbmlaokolmaa.recordJoins
open Go.ChangeShapes Go.WideShapes Go.ChangeAt Go.RowKit Go.Proofs.Ytdobbmlaokolmaa
set_option linter.unusedVariables false

theorem own : ownKnob Try.prog.godebug = none := by kernel_rfl
theorem laidOut : laidOutB Try.prog = true := by kernel_rfl

theorem one_le {H : Type} (d : DataW H) : 1 ≤ Rows.uptoBulk d := by
  cases d with
  | lit l => cases l <;> simp [Rows.uptoBulk]
  | nil => simp [Rows.uptoBulk]
  | ptr d => simp [Rows.uptoBulk]
  | slice elems spare => simp [Rows.uptoBulk]
  | agg parts => simp [Rows.uptoBulk]
  | iface t d => simp [Rows.uptoBulk]
  | map entries => simp [Rows.uptoBulk]
  | held h => simp [Rows.uptoBulk]
theorem length_le {H : Type} (l : List (DataW H)) : l.length ≤ Rows.uptoBulkAll l := by
  induction l with
  | nil => simp [Rows.uptoBulkAll]
  | cons x r ih => have := one_le x; simp only [Rows.uptoBulkAll, List.length_cons]; omega
theorem slice_len {H : Type} {enc : TypeId × Value → H} {w : World} {base fuel n cap : Nat} {spare : Nat → Bool} {held : Bool} {t e : TypeId} {a : Option Addr} {x : DataW H × List MemPlace} (ht : Try.prog.underlying t = some (.slice e))
    (h : DataW.trod enc Try.prog w base spare held fuel t [.slice a n cap] = some x) : n ≤ Rows.uptoBulk x.1 := by
  rcases DataW.trod_slice ht h with ⟨h1, _⟩ | ⟨a', len, cap', elems, rest, m, _, h1, rfl, _, _, _, hl, _⟩
  · simp at h1; omega
  · simp at h1
    have h2 := length_le (elems.map (·.1))
    rw [List.length_map] at h2
    simp only [Rows.uptoBulk]
    omega
set_option maxRecDepth 100000 in
theorem lifted (os : Os) (started : os.Started) (H : Type) (enc : TypeId × Value → H) (F : Stop.Interp) :
    ReturnsInHanded {} Try.checked os 8 .any ((Rows.OpenSpec.upto Rows.recordJoinsSpec).pre6 enc Try.prog Try.f8 Rows.recordJoinsUptoRow.domain false) (((Rows.OpenSpec.upto Rows.recordJoinsSpec).at F).post enc Try.prog Try.f8 false true false false) := by
  refine returnsInHanded_of_cond_sized (C := Try.checked) (s := Rows.OpenSpec.upto Rows.recordJoinsSpec) (k := Rows.uptoSmall) rfl own started (by kernel_rfl) Try.func8
    (OpenSpec.witness (enc := enc) (C := Try.checked) (s := Rows.OpenSpec.upto Rows.recordJoinsSpec) (k := Rows.uptoSmall) rfl false ⟨#[], #[.slice none 0 0, .slice none 0 0], []⟩ 8 (by kernel_rfl) (by kernel_rfl) (by kernel_rfl)
      (x := ([.nil, .nil], [], [])) (by kernel_rfl) rfl (by kernel_rfl)) ?_
  intro W base args ds gs before hval0 hW hcnd hbk hsz0 _
  have hval : ∀ (j : Nat) t v, Try.f8.params[j]? = some t → args[j]? = some v → Value.okWide Try.prog W .any base t v := hval0
  have hsz1 : (DataW.weightsEach Try.prog (Try.f8.params.toList ++ []) (ds ++ gs)).all (· ≤ reachBytes) = true := hsz0
  have hW' := hW
  obtain ⟨p, q, hA0, hV, rfl, hfz, hnd⟩ := hW
  have hA : DataW.TrodAll enc Try.prog W 0 (fun _ => true) true Try.f8.params.toList args.toList ds p := hA0
  rw [Try.params8] at hA hval hsz1
  obtain ⟨v0, vs0, d0, ds0, p0, q0, hargs, rfl, rfl, h0, r0⟩ := trodAll_cons hA
  obtain ⟨v1, vs1, d1, ds1, p1, q1, rfl, rfl, rfl, h1, r1⟩ := trodAll_cons r0
  obtain ⟨rfl, rfl, rfl⟩ := trodAll_nil r1
  obtain rfl : args = #[v0, v1] := by cases args; simp_all
  obtain ⟨rfl, rfl⟩ := trodVars_none hV
  clear hA0 hval0
  have k0 := h0
  have lt0 : ∀ x ∈ p0, x.block < W.heap.size := by obtain ⟨m, hm⟩ := k0; exact DataW.trod_lt m _ _ _ hm
  have hwt0 : ∀ k ∈ d0.weights Try.prog 28, k ≤ reachBytes := fun k hk => by simpa using List.all_eq_true.1 hsz1 _ (DataW.weights_mem_each (j := 0) (t := 28) rfl rfl k hk)
  obtain ⟨a0', len0', cap0', hv0⟩ := okWide_slice Try.underlying28 (hval 0 28 v0 rfl rfl)
  obtain ⟨fuel0, hf0⟩ := h0
  have hf0' : DataW.trod enc Try.prog W 0 (fun _ => true) true fuel0 28 [v0] = some (d0, p0) := by rw [hv0] at hf0 ⊢; exact hf0
  clear hv0 hf0
  obtain ⟨a0, len0, cap0, l0, rfl, hC0⟩ := ch_arg (fun _ => rfl) ⟨_, _, hf0', hwt0⟩
  have hn0 := slice_len Try.underlying28 hf0'
  have k1 := h1
  have lt1 : ∀ x ∈ p1, x.block < W.heap.size := by obtain ⟨m, hm⟩ := k1; exact DataW.trod_lt m _ _ _ hm
  have hwt1 : ∀ k ∈ d1.weights Try.prog 28, k ≤ reachBytes := fun k hk => by simpa using List.all_eq_true.1 hsz1 _ (DataW.weights_mem_each (j := 1) (t := 28) rfl rfl k hk)
  obtain ⟨a1', len1', cap1', hv1⟩ := okWide_slice Try.underlying28 (hval 1 28 v1 rfl rfl)
  obtain ⟨fuel1, hf1⟩ := h1
  have hf1' : DataW.trod enc Try.prog W 0 (fun _ => true) true fuel1 28 [v1] = some (d1, p1) := by rw [hv1] at hf1 ⊢; exact hf1
  clear hv1 hf1
  obtain ⟨a1, len1, cap1, l1, rfl, hC1⟩ := ch_arg (fun _ => rfl) ⟨_, _, hf1', hwt1⟩
  have hn1 := slice_len Try.underlying28 hf1'
  have hbk1 : Rows.uptoBulkAll (([d0, d1] : List (DataW H)) ++ []) ≤ 1048576 := of_decide_eq_true hbk
  simp only [Rows.uptoBulkAll, List.cons_append, List.nil_append] at hbk1
  refine (join_walk W a0 len0 cap0 l0 hC0.ch a1 len1 cap1 l1 hC1.ch (by simp only at hn0 hn1; omega)).mono fun e W' ⟨he, hg⟩ => ?_
  subst he
  have bel := hg.below0
  exact ⟨_, rfl, _, _, _, [], _, [], hW', trodAll_mk1 (shut_bool Try.underlying4 _), (trodAll_cons_mk (Below.trod laidOut (by kernel_rfl) (of_decide_eq_true (by kernel_rfl)) k0 bel lt0) (trodAll_cons_mk (Below.trod laidOut (by kernel_rfl) (of_decide_eq_true (by kernel_rfl)) k1 bel lt1) trodAll_mk0)), rfl, bel.frame _, fun h => by cases h⟩

theorem over : Rows.recordJoinsUptoRow.holds Try.pinned (Rows.OpenSpec.upto Rows.recordJoinsSpec) :=
  OpenClaim.holds_of_cond 8 Try.f8 rfl rfl rfl rfl rfl rfl rfl ⟨rfl, rfl, rfl, rfl, rfl⟩ rfl rfl rfl rfl rfl (by kernel_rfl) Try.func8 (by kernel_rfl)
    (of_decide_eq_true (by kernel_rfl)) (by unfold Func.isWrapper; first | (rw [if_pos (by decide +kernel)]; kernel_rfl) | (rw [if_neg (by decide +kernel)]; exact ⟨rfl, rfl⟩))
    (fun os started H enc _ F => lifted os started H enc F)

theorem proved : Rows.RecordJoinsUptoSaid := over
#print axioms proved
end Go.Proofs.Ytdobbmlaokolmaa.recordJoins
