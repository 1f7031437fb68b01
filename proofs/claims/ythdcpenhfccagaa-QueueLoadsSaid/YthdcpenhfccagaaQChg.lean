/-
  Queue: what one call of a script changes.
-/
import Derived.Test.YthdcpenhfccagaaQ9
namespace Go.Proofs.Ythdcpenhfccagaa
open Go.RowKit
set_option linter.unusedVariables false

instance : DecidableEq QR := fun a b => decidable_of_iff _ (qr_eq a b)

/-- Rows that differ, of the first k. -/
def df (l r : List QR) : Nat → Nat
  | 0 => 0
  | k + 1 => df l r k + if qL.nth l k = qL.nth r k then 0 else 1

theorem df_same {l r : List QR} : ∀ (k : Nat), (∀ j, j < k → qL.nth l j = qL.nth r j) → df l r k = 0
  | 0, _ => rfl
  | k + 1, h => by unfold df; rw [df_same k (fun j hj => h j (by omega)), if_pos (h k (by omega))]
theorem df_one {l r : List QR} {i : Nat} (hi : qL.nth l i ≠ qL.nth r i) : ∀ (k : Nat), (∀ j, j < k → j ≠ i → qL.nth l j = qL.nth r j) → df l r k = if i < k then 1 else 0
  | 0, _ => by simp [df]
  | k + 1, h => by
    unfold df
    rw [df_one hi k (fun j hj => h j (by omega))]
    by_cases hk : k = i
    · subst hk; rw [if_neg (by omega), if_neg hi, if_pos (by omega)]
    · rw [if_pos (h k (by omega) hk)]
      by_cases h2 : i < k
      · rw [if_pos h2, if_pos (by omega)]
      · rw [if_neg h2, if_neg (by omega)]
theorem df_le (l r : List QR) : ∀ (k : Nat), df l r k ≤ k
  | 0 => Nat.le_refl _
  | k + 1 => by unfold df; have := df_le l r k; split <;> omega

/-- A call that is refused has changed nothing; another has made one row, or changed one. -/
inductive Chg (q q' : QS) (z : Bool) : Prop
  | no : z = true → q' = q → Chg q q' z
  | more (x : QR) : z = false → q' = { q with rows := q.rows ++ [x] } → q.rows.length < 8 → x.st = 1 → x.at_ = 0 → x.ba = 0 → Chg q q' z
  | set (k : Nat) (x : QR) : z = false → k < q.rows.length → q' = { q with rows := q.rows.set k x } → x.st ≠ (qL.nth q.rows k).st → (qL.nth q.rows k).at_ ≤ x.at_ → (qL.nth q.rows k).ba ≤ x.ba → ((qL.nth q.rows k).st = 1 ∨ (qL.nth q.rows k).st = 2) → Chg q q' z

theorem pGrant_none {b : Int} {l : List QR} (h : fIdx (QR.pGrant b) l < 0) : ∀ k, k < l.length → (qL.nth l k).ba < b := by
  rcases fIdx_cases (QR.pGrant b) l with ⟨k, _, _, _, he⟩ | ⟨ha, _⟩
  · omega
  · intro k hk
    have h1 := ha k hk
    simp only [QR.pGrant, decide_eq_false_iff_not] at h1
    omega

theorem submit_chg {q : QS} (hw : q.wf) : Chg q q.submit.2.2 (q.submit.2.1 != 0) := by
  unfold QS.submit
  split
  · exact .no rfl rfl
  · exact .more _ rfl rfl (by omega) rfl rfl rfl
theorem grant_chg {q : QS} (hw : q.wf) (job badge node life : Int) : Chg q (q.grant job badge node life).2 ((q.grant job badge node life).1 != 0) := by
  unfold QS.grant
  split
  · exact .no rfl rfl
  split
  · exact .no rfl rfl
  split
  · exact .no rfl rfl
  split
  · exact .no rfl rfl
  · rename_i h1 h2 h3 h4
    have h5 : (qL.nth q.rows (job - 1).toNat).ba < badge := pGrant_none (by omega) _ (by omega)
    refine .set (job - 1).toNat _ rfl (by omega) rfl ?_ ?_ ?_ (.inl (by simpa using h2))
    · show (2 : Int) ≠ _; omega
    · show _ ≤ (qL.nth q.rows (job - 1).toNat).at_ + 1; omega
    · show _ ≤ badge; omega
theorem expire_chg {q : QS} (hw : q.wf) (b : Int) : Chg q (q.expire b).2.2 ((q.expire b).2.1 != 0) := by
  unfold QS.expire
  split
  · exact .no rfl rfl
  · rename_i h
    obtain ⟨h1, h2, h3⟩ := held_facts hw h
    refine .set _ _ rfl h1 rfl ?_ ?_ ?_ (.inr h2)
    · rw [h2]; show (if _ then (4 : Int) else 1) ≠ 2; split <;> omega
    · exact Int.le_refl _
    · exact Int.le_refl _
theorem settle_chg {q : QS} (hw : q.wf) (b code bits : Int) : Chg q (q.settle b code bits).2.2 ((q.settle b code bits).2.1 != 0) := by
  unfold QS.settle
  split
  · exact .no rfl rfl
  split
  · exact .no rfl rfl
  · rename_i h _
    obtain ⟨h1, h2, h3⟩ := held_facts hw h
    refine .set _ _ rfl h1 rfl ?_ ?_ ?_ (.inr h2)
    · rw [h2]; show (3 : Int) ≠ 2; omega
    · exact Int.le_refl _
    · exact Int.le_refl _

theorem run_chg {q : QS} (hw : q.wf) {o : Op11} {z : Bool} {q' : QS} (hz : o.run q = (z, q')) : Chg q q' z := by
  unfold Op11.run QS.does at hz
  have e1 := fun (a : Bool) (b : QS) (h : (a, b) = (z, q')) => (Prod.mk.injEq a b z q').mp h
  split at hz
  · obtain ⟨rfl, rfl⟩ := e1 _ _ hz; exact submit_chg hw
  split at hz
  · obtain ⟨rfl, rfl⟩ := e1 _ _ hz; exact grant_chg hw _ _ _ _
  split at hz
  · obtain ⟨rfl, rfl⟩ := e1 _ _ hz; exact expire_chg hw _
  split at hz
  · obtain ⟨rfl, rfl⟩ := e1 _ _ hz; exact settle_chg hw _ _ _
  · obtain ⟨rfl, rfl⟩ := e1 _ _ hz; exact .no rfl rfl

/-- What QueueRefuses tells. -/
theorem chg_counts {q q' : QS} {z : Bool} (h : Chg q q' z) : q.rows.length ≤ q'.rows.length ∧ (z = true → df q.rows q'.rows q.rows.length = 0 ∧ q.rows.length = q'.rows.length) ∧ (z = false → (df q.rows q'.rows q.rows.length : Int) + q'.rows.length - q.rows.length = 1) := by
  rcases h with ⟨rfl, rfl⟩ | ⟨x, rfl, rfl, _⟩ | ⟨k, x, rfl, hk, rfl, hx, _⟩
  · exact ⟨Nat.le_refl _, fun _ => ⟨df_same _ (fun _ _ => rfl), rfl⟩, (fun h => by cases h)⟩
  · refine ⟨by simp, (fun h => by cases h), fun _ => ?_⟩
    rw [df_same _ (fun j hj => by rw [qL.nth_snoc, if_neg (by omega)])]
    simp
    omega
  · refine ⟨by simp, (fun h => by cases h), fun _ => ?_⟩
    rw [df_one (i := k) ?_ _ (fun j hj hjk => by rw [qL.nth_set _ _ _ _ hk, if_neg hjk]), if_pos hk]
    · simp
    · rw [qL.nth_set _ _ _ _ hk, if_pos rfl]; exact fun h => hx (by rw [h])

end Go.Proofs.Ythdcpenhfccagaa
