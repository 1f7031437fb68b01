/-
  slices.Clone, Clip, IndexFunc at rows.
-/
import Derived.Test.YthdcpenhfccagaaQ0
namespace Go.Proofs.Ythdcpenhfccagaa
open Go.RowKit
set_option linter.unusedVariables false
set_option linter.unusedSimpArgs false

theorem info_qrow : (Try.prog.info? 37).map (fun i => (i.zero, i.size, i.bytes)) = some (some (.agg #[.int .i64 0, .int .i64 0, .int .i64 0, .int .i64 0, .int .i64 0, .int .i64 0, .int .i64 0, .int .u64 0]), 8, 64) := by kernel_rfl

/-- The cells of an element. -/
theorem qrow_cells {w : World} {b o n cap : Nat} {l : List QR} (h : In w 8 (some ⟨b, o, none⟩) n cap (qL.at_ l)) (k : Nat) (hk : k < n) :
    w.cell? ⟨b, o + k * 8, none⟩ = some (.int .i64 (qL.nth l k).job) ∧ w.cell? ⟨b, o + k * 8 + 1, none⟩ = some (.int .i64 (qL.nth l k).st) ∧ w.cell? ⟨b, o + k * 8 + 2, none⟩ = some (.int .i64 (qL.nth l k).at_) ∧ w.cell? ⟨b, o + k * 8 + 3, none⟩ = some (.int .i64 (qL.nth l k).ba) ∧ w.cell? ⟨b, o + k * 8 + 4, none⟩ = some (.int .i64 (qL.nth l k).node) ∧ w.cell? ⟨b, o + k * 8 + 5, none⟩ = some (.int .i64 (qL.nth l k).life) ∧ w.cell? ⟨b, o + k * 8 + 6, none⟩ = some (.int .i64 (qL.nth l k).code) ∧ w.cell? ⟨b, o + k * 8 + 7, none⟩ = some (.int .u64 (qL.nth l k).bits) := by
  have c0 := h.cell b o rfl (k * 8) (by omega)
  rw [show k * 8 = k * qL.sz + 0 from rfl, qL.at_add _ _ 0 (by decide)] at c0
  have c1 := h.cell b o rfl (k * 8 + 1) (by omega)
  rw [show k * 8 + 1 = k * qL.sz + 1 from rfl, qL.at_add _ _ 1 (by decide)] at c1
  have c2 := h.cell b o rfl (k * 8 + 2) (by omega)
  rw [show k * 8 + 2 = k * qL.sz + 2 from rfl, qL.at_add _ _ 2 (by decide)] at c2
  have c3 := h.cell b o rfl (k * 8 + 3) (by omega)
  rw [show k * 8 + 3 = k * qL.sz + 3 from rfl, qL.at_add _ _ 3 (by decide)] at c3
  have c4 := h.cell b o rfl (k * 8 + 4) (by omega)
  rw [show k * 8 + 4 = k * qL.sz + 4 from rfl, qL.at_add _ _ 4 (by decide)] at c4
  have c5 := h.cell b o rfl (k * 8 + 5) (by omega)
  rw [show k * 8 + 5 = k * qL.sz + 5 from rfl, qL.at_add _ _ 5 (by decide)] at c5
  have c6 := h.cell b o rfl (k * 8 + 6) (by omega)
  rw [show k * 8 + 6 = k * qL.sz + 6 from rfl, qL.at_add _ _ 6 (by decide)] at c6
  have c7 := h.cell b o rfl (k * 8 + 7) (by omega)
  rw [show k * 8 + 7 = k * qL.sz + 7 from rfl, qL.at_add _ _ 7 (by decide)] at c7
  exact And.intro (c0) (And.intro (c1) (And.intro (c2) (And.intro (c3) (And.intro (c4) (And.intro (c5) (And.intro (c6) (c7)))))))

theorem clip_qrow (w : World) (a : Option Addr) (n cap : Nat) (h1 : n ≤ cap) (h2 : cap ≤ 9223372036854775807) (h3 : a = none → cap = 0) :
    Calls Try.prog 38 #[.slice a n cap] w fun e w' => e = .returned (.slice a n n) ∧ w = w' := by
  go_enter Try.func38, Try.ntmps38
  go_wp2
  go_ret
  exact ⟨rfl, rfl⟩

set_option maxHeartbeats 800000 in
set_option maxRecDepth 100000 in
theorem clone_qrow (w : World) (a : Option Addr) (cap : Nat) (l : List QR) (h : In w 8 a l.length cap (qL.at_ l)) (h0 : a = none → cap = 0) (hn : l.length * 64 ≤ 140737488355328) :
    Calls Try.prog 39 #[.slice a l.length cap] w fun e w' => ∃ a' c', e = .returned (.slice a' l.length c') ∧ Fr [] w w' ∧ w'.ownsRow 0 37 8 (.slice a' l.length c') l.length (qL.cells l) ∧ (∀ x, x ∈ (Value.slice a' l.length c').ownBlock.toList → w.heap.size ≤ x) ∧ (a' = none → c' = 0) := by
  rcases a with _ | ⟨b, off, sp⟩
  · have hn0 : l = [] := by
      rcases Nat.eq_zero_or_pos l.length with h1 | h1
      · exact List.length_eq_zero_iff.1 h1
      · obtain ⟨b, o, e⟩ := h.sm h1; cases e
    subst hn0
    obtain rfl := h0 rfl
    have heq := fun w1 => Lib.run_eql_slice_nil (P := Try.prog) w1 42 37 none 0 0 0 0 Try.underlying42
    clear h
    go_enter Try.func39, Try.ntmps39
    go_wp2
    go_ret
    exact ⟨none, 0, rfl, Fr.refl _ _, World.ownsRow_nil _ _ _ _, by simp [Value.ownBlock], fun _ => rfl⟩
  · obtain ⟨i0, hi, hz0, hz1, hz2⟩ := info_parts info_qrow
    have HI := hid (And.intro hi (And.intro hz0 (And.intro hz1 hz2)))
    have H := hid h
    have hlm := h.max
    clear hi hz0 hz1 hz2 h
    have heq := fun w1 => Lib.run_eql_slice_nil (P := Try.prog) w1 42 37 (some ⟨b, off, sp⟩) l.length cap 0 0 Try.underlying42
    go_enter Try.func39, Try.ntmps39
    go_wp2_with (at_builtin; refine wpList_copied rfl (.tmp 5) (.tmp 6) 42 rfl 37 i0 (.agg #[.int .i64 0, .int .i64 0, .int .i64 0, .int .i64 0, .int .i64 0, .int .i64 0, .int .i64 0, .int .u64 0]) 8 64 Try.underlying42 HI.out.1 HI.out.2.1 HI.out.2.2.1 HI.out.2.2.2 rfl (by decide) w.heap.size rfl (blk_alloc_at _ _ _ rfl) (some ⟨b, off, sp⟩) l.length cap (qL.at_ l) rfl ?qa (fun j _ => qL.at_one _ j) (by omega) ?_)
    case qa => exact H.out.fr0 ((Fr.refl [] w).alloc _)
    intro g cg w1 ho hF1 hg
    have hr : (List.range (l.length * 8)).map (qL.at_ l) = qL.cells l := qL.range l
    rw [hr] at ho
    have hF : Fr [] w w1 := ((Fr.refl [] w).alloc (.cells #[] 37)).step hF1 (by intro x hx; simp at hx; subst hx; exact .inr (Nat.le_refl _))
    have hg' : w.heap.size ≤ g := by rcases hg with h | h <;> first | omega | (simp at h; omega)
    have HZ := hid (And.intro ho (And.intro hF hg'))
    clear ho hF hF1 hg hg'
    go_wp2_with fail
    go_ret
    exact ⟨some ⟨g, 0, none⟩, cg, rfl, HZ.out.2.1, HZ.out.1, by simpa [Value.ownBlock] using HZ.out.2.2, fun h => by cases h⟩

theorem index_qrow (w : World) (b : Option Addr) (cb n : Nat) (l : List QR) (hln : l.length = n) (hb : In w 8 b n cb (qL.at_ l)) (fid : Nat) (cap : Array Value) (p : Nat → Bool) (he : ∀ args wx, (callFunc fid args).run Try.prog wx = .ok (.enter fid args) wx)
    (hf : ∀ k wx, k < n → Fr [] w wx → Calls Try.prog fid (#[.agg #[.int .i64 (qL.nth l k).job, .int .i64 (qL.nth l k).st, .int .i64 (qL.nth l k).at_, .int .i64 (qL.nth l k).ba, .int .i64 (qL.nth l k).node, .int .i64 (qL.nth l k).life, .int .i64 (qL.nth l k).code, .int .u64 (qL.nth l k).bits]] ++ cap) wx fun e w' => e = .returned (.bool (p k)) ∧ Fr [] wx w') :
    Calls Try.prog 47 #[.slice b n cb, .func (.func fid) #[] cap] w fun e w' => ∃ z : Int, e = .returned (.int .i64 z) ∧ Fr [] w w' ∧ ((∃ k, k < n ∧ p k = true ∧ (∀ j, j < k → p j = false) ∧ z = k) ∨ (∀ k, k < n → p k = false) ∧ z = -1) := by
  have hmb := hb.max
  have HB := hid hb
  have HF := hid hf
  have HE := hid he
  clear hb hf he
  go_enter Try.func47, Try.ntmps47
  go_wp2_with fail
  go_loopw [8] (fun i wr => ∃ k : Nat, k ≤ n ∧ i = .int .i64 k ∧ (∀ j, j < k → p j = false) ∧ Fr [] w wr) (fun i _ => n - (intOf i).toNat)
  case atStart => exact ⟨0, Nat.zero_le _, rfl, fun j hj => absurd hj (Nat.not_lt_zero _), Fr.refl _ _⟩
  case round =>
    obtain ⟨k, hk, rfl, hall, hF⟩ := hrel
    have HAll := hid (And.intro hall hF)
    clear hall hF
    by_cases hlt : k < n
    · obtain ⟨bb, ob, rfl⟩ := HB.out.sm (by omega)
      obtain ⟨c0, c1, c2, c3, c4, c5, c6, c7⟩ := qrow_cells (HB.out.fr0 HAll.out.2) k hlt
      have HC := hid (HF.out k wr hlt HAll.out.2)
      generalize hx : qL.nth l k = x at c0 c1 c2 c3 c4 c5 c6 c7 HC
      clear hx
      cases hp : p k
      · rw [hp] at HC
        have HPk := hid hp
        clear hp
        go_wp2_with fail
        rw [HE.out, Oper.upon_enter]
        refine HC.out.mono ?_
        rintro e w1 ⟨rfl, hF1⟩
        have HF1 := hid hF1
        clear hF1
        go_wp2_with fail
        go_roundw
        case rel => exact ⟨k + 1, by omega, by go_num, fun j hj => by by_cases hjk : j = k; (subst hjk; exact HPk.out); exact HAll.out.1 j (by omega), HAll.out.2.trans HF1.out⟩
        case measure => simp [intOf]; omega
      · rw [hp] at HC
        have HPk := hid hp
        clear hp
        go_wp2_with fail
        rw [HE.out, Oper.upon_enter]
        refine HC.out.mono ?_
        rintro e w1 ⟨rfl, hF1⟩
        have HF1 := hid hF1
        clear hF1
        go_wp2_with fail
        go_ret
        exact ⟨_, rfl, HAll.out.2.trans HF1.out, .inl ⟨k, hlt, HPk.out, HAll.out.1, rfl⟩⟩
    · obtain rfl : k = n := by omega
      go_wp2_with fail
      go_ret
      exact ⟨_, rfl, HAll.out.2, .inr ⟨HAll.out.1, rfl⟩⟩

end Go.Proofs.Ythdcpenhfccagaa
