/-
  Queue: the plain law of Load.
-/
import Derived.Test.YthdcpenhfccagaaQAt
namespace Go.Proofs.Ythdcpenhfccagaa
open Go.RowKit
set_option linter.unusedVariables false

theorem find_snd (q : QS) (b : Int) : (q.find b).2 = true ↔ ∃ i, i < q.rows.length ∧ 0 < b ∧ (qL.nth q.rows i).ba = b := by
  unfold QS.find
  rcases fIdx_cases (QR.pFind b) q.rows with ⟨k, hk, hp, _, he⟩ | ⟨ha, he⟩
  · rw [he, row_at hk rfl]
    simp only [QR.pFind, Bool.and_eq_true, beq_iff_eq, decide_eq_true_eq] at hp
    exact ⟨fun _ => ⟨k, hk, hp.2, hp.1⟩, fun _ => rfl⟩
  · rw [he, row_no (by omega)]
    refine ⟨(fun h => by cases h), fun ⟨i, hi, h0, h1⟩ => ?_⟩
    have h2 := ha i hi
    simp [QR.pFind, h1, h0] at h2

/-- One row more is as it may be. -/
theorem wf_snoc {q : QS} (hw : q.wf) (hl : q.rows.length < 8) (x : QR) : ({ q with rows := q.rows ++ [x] } : QS).wf ↔ (q.find x.ba).2 = false ∧ x.may q.att (q.rows.length + 1) = true := by
  constructor
  · intro h
    have hx : qL.nth (q.rows ++ [x]) q.rows.length = x := by rw [qL.nth_snoc, if_pos rfl]
    constructor
    · rw [← Bool.not_eq_true, find_snd]
      rintro ⟨i, hi, h0, h1⟩
      have h2 := h.ba i q.rows.length hi (by simp)
      simp only [hx] at h2
      rw [qL.nth_snoc, if_neg (by omega)] at h2
      exact h2 h0 h1
    · have h3 := h.ok q.rows.length (by simp)
      simp only [hx] at h3
      exact h3
  · rintro ⟨h1, h2⟩
    have h3 : ¬ (q.find x.ba).2 = true := by rw [h1]; simp
    rw [find_snd] at h3
    refine ⟨hw.a1, hw.a2, by simp; omega, fun k hk => ?_, fun i j hij hj h0 => ?_⟩
    · simp only [List.length_append, List.length_cons, List.length_nil] at hk
      show (qL.nth (q.rows ++ [x]) k).may q.att (k + 1) = true
      rw [qL.nth_snoc]
      split
      · rename_i he; rw [he]; exact h2
      · exact hw.ok k (by omega)
    · simp only [List.length_append, List.length_cons, List.length_nil] at hj
      revert h0
      show 0 < (qL.nth (q.rows ++ [x]) j).ba → (qL.nth (q.rows ++ [x]) i).ba ≠ (qL.nth (q.rows ++ [x]) j).ba
      rw [qL.nth_snoc, qL.nth_snoc, if_neg (show ¬ i = q.rows.length by omega)]
      split
      · exact fun h0 he => h3 ⟨i, by omega, h0, he⟩
      · exact fun h0 => hw.ba i j hij (by omega) h0

end Go.Proofs.Ythdcpenhfccagaa
