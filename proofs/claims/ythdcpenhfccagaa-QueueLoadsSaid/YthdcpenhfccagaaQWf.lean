/-
  What may be of a queue stays so, whatever is called. Plain.
-/
import Derived.Test.YthdcpenhfccagaaQ7
namespace Go.Proofs.Ythdcpenhfccagaa
open Go.RowKit
set_option linter.unusedVariables false
set_option linter.unusedSimpArgs false

theorem wf_set {q : QS} (hw : q.wf) {k : Nat} (hk : k < q.rows.length) {x : QR} (hm : x.may q.att (k + 1) = true) (hb : 0 < x.ba → ∀ i, i < q.rows.length → i ≠ k → (qL.nth q.rows i).ba ≠ x.ba) : ({ q with rows := q.rows.set k x } : QS).wf := by
  refine ⟨hw.a1, hw.a2, by simpa using hw.n, fun j hj => ?_, fun i j hij hj h0 => ?_⟩
  · simp only [List.length_set] at hj
    show (qL.nth (q.rows.set k x) j).may q.att (j + 1) = true
    rw [qL.nth_set _ _ _ _ hk]
    by_cases h : j = k
    · rw [if_pos h, h]; exact hm
    · rw [if_neg h]; exact hw.ok j hj
  · simp only [List.length_set] at hj
    change 0 < (qL.nth (q.rows.set k x) j).ba at h0
    show (qL.nth (q.rows.set k x) i).ba ≠ (qL.nth (q.rows.set k x) j).ba
    rw [qL.nth_set _ _ _ _ hk] at h0 ⊢
    rw [qL.nth_set _ _ _ _ hk]
    by_cases h1 : j = k
    · rw [if_pos h1] at h0 ⊢
      rw [if_neg (by omega)]
      exact hb h0 i (by omega) (by omega)
    · rw [if_neg h1] at h0 ⊢
      by_cases h2 : i = k
      · rw [if_pos h2]
        by_cases hx : 0 < x.ba
        · exact fun e => hb hx j hj h1 e.symm
        · exact fun e => hx (by rw [e]; exact h0)
      · rw [if_neg h2]; exact hw.ba i j hij hj h0

theorem kb_iff (r : QR) : r.kb = true ↔ (r.st = 2 ∨ r.node = 0 ∧ r.life = 0) ∧ (r.st = 3 ∨ r.code = 0 ∧ r.bits = 0) := by
  unfold QR.kb; simp
theorem may_mk {att : Int} {r : QR} {j : Int} (h1 : r.job = j) (h2 : 0 ≤ r.at_) (h3 : r.at_ ≤ att) (h4 : 0 ≤ r.ba) (h5 : r.ba ≤ 1099511627776) (h6 : 0 < r.ba ↔ 0 < r.at_) (h7 : r.kb = true) (h8 : r.kc att = true) : r.may att j = true := by
  unfold QR.may QR.ka inB
  simp only [Bool.and_eq_true, decide_eq_true_eq, beq_iff_eq, decide_eq_decide]
  exact ⟨⟨⟨⟨⟨h1, h2, h3⟩, h4, h5⟩, h6⟩, h7⟩, h8⟩

theorem kc_1 {att : Int} {r : QR} (h : r.st = 1) : r.kc att = decide (r.at_ < att) := by unfold QR.kc; rw [if_pos h]
theorem kc_2 {att : Int} {r : QR} (h : r.st = 2) : r.kc att = (decide (0 < r.at_) && holdB r.node r.life) := by unfold QR.kc; rw [if_neg (by omega), if_pos h]
theorem kc_3 {att : Int} {r : QR} (h : r.st = 3) : r.kc att = (decide (0 < r.at_) && resB r.code r.bits) := by unfold QR.kc; rw [if_neg (by omega), if_neg (by omega), if_pos h]
theorem kc_4 {att : Int} {r : QR} (h : r.st = 4) : r.kc att = (r.at_ == att) := by unfold QR.kc; rw [if_neg (by omega), if_neg (by omega), if_neg (by omega), if_pos h]

theorem submit_wf {q : QS} (hw : q.wf) : q.submit.2.2.wf := by
  unfold QS.submit
  by_cases h8 : 8 ≤ q.rows.length
  · rw [if_pos h8]; exact hw
  rw [if_neg h8]
  have ha := hw.a1
  refine ⟨hw.a1, hw.a2, by simp; omega, fun j hj => ?_, fun i j hij hj h0 => ?_⟩
  · simp only [List.length_append, List.length_singleton] at hj
    show (qL.nth (q.rows ++ [_]) j).may q.att (j + 1) = true
    rw [qL.nth_snoc]
    by_cases h : j = q.rows.length
    · rw [if_pos h, h]
      exact may_mk rfl (Int.le_refl _) (by simp only []; omega) (Int.le_refl _) (by simp) (by simp) (by rw [kb_iff]; simp) (by rw [kc_1 rfl]; simp; omega)
    · rw [if_neg h]; exact hw.ok j (by omega)
  · simp only [List.length_append, List.length_singleton] at hj
    change 0 < (qL.nth (q.rows ++ [_]) j).ba at h0
    show (qL.nth (q.rows ++ [_]) i).ba ≠ (qL.nth (q.rows ++ [_]) j).ba
    rw [qL.nth_snoc] at h0 ⊢
    rw [qL.nth_snoc]
    by_cases h : j = q.rows.length
    · rw [if_pos h] at h0; exact absurd h0 (by simp)
    · rw [if_neg h] at h0 ⊢
      rw [if_neg (by omega)]
      exact hw.ba i j hij (by omega) h0

theorem grant_wf {q : QS} (hw : q.wf) (job badge node life : Int) : (q.grant job badge node life).2.wf := by
  unfold QS.grant
  split
  · exact hw
  rename_i hj
  split
  · exact hw
  rename_i hst
  split
  · exact hw
  rename_i hb
  split
  · exact hw
  rename_i hh
  have hk : (job - 1).toNat < q.rows.length := by omega
  have hkj : (((job - 1).toNat : Nat) : Int) + 1 = job := by omega
  have hm := may_facts (hw.ok _ hk)
  have hst1 : (qL.nth q.rows (job - 1).toNat).st = 1 := by omega
  obtain ⟨m1, m2, m3, m4, m5, m6, m7, m8⟩ := hm
  rw [kc_1 hst1] at m8
  rw [kb_iff] at m7
  have hbb : 1 ≤ badge ∧ badge ≤ 1099511627776 := by
    have : inB badge 1 1099511627776 = true := by cases h : inB badge 1 1099511627776; exact absurd (.inl h) hb; rfl
    unfold inB at this; simpa using this
  have hgr : ∀ i, i < q.rows.length → (qL.nth q.rows i).ba < badge := fun i hi => by
    rcases fIdx_cases (QR.pGrant badge) q.rows with ⟨k, _, _, _, h⟩ | ⟨h, _⟩
    · exact absurd (.inr (by rw [h]; omega)) hb
    · have := h i hi; unfold QR.pGrant at this; simpa using this
  have hho : holdB node life = true := by cases h : holdB node life; exact absurd h hh; rfl
  refine wf_set hw hk (may_mk (by simp only []; omega) (by simp only []; omega) (by simp only [decide_eq_true_eq] at m8 ⊢; omega) (by simp only []; omega) (by simp only []; omega) (by simp only []; omega) ?_ ?_) (fun _ i hi _ => by have := hgr i hi; simp only []; omega)
  · rw [kb_iff]; exact ⟨.inl rfl, .inr (m7.2.resolve_left (by omega))⟩
  · rw [kc_2 rfl]; simp only [hho, Bool.and_true, decide_eq_true_eq]; omega

theorem held_facts {q : QS} (hw : q.wf) {b : Int} (h : ¬ fIdx (QR.pHeld b) q.rows < 0) : (fIdx (QR.pHeld b) q.rows).toNat < q.rows.length ∧ (qL.nth q.rows (fIdx (QR.pHeld b) q.rows).toNat).st = 2 ∧ (qL.nth q.rows (fIdx (QR.pHeld b) q.rows).toNat).ba = b := by
  rcases fIdx_cases (QR.pHeld b) q.rows with ⟨k, h1, h2, _, h3⟩ | ⟨_, h3⟩
  · rw [h3]
    simp only [Int.toNat_natCast]
    unfold QR.pHeld at h2
    simp only [Bool.and_eq_true, beq_iff_eq] at h2
    exact ⟨h1, h2⟩
  · omega

theorem ba_ne {q : QS} (hw : q.wf) {i k : Nat} (hi : i < q.rows.length) (hk : k < q.rows.length) (hik : i ≠ k) (h : 0 < (qL.nth q.rows k).ba) : (qL.nth q.rows i).ba ≠ (qL.nth q.rows k).ba := by
  rcases Nat.lt_or_ge i k with h1 | h1
  · exact hw.ba i k h1 hk h
  · intro e
    exact hw.ba k i (by omega) hi (by rw [e]; exact h) e.symm

theorem expire_wf {q : QS} (hw : q.wf) (b : Int) : (q.expire b).2.2.wf := by
  unfold QS.expire
  split
  · exact hw
  rename_i hneg
  obtain ⟨hk, hst, hba⟩ := held_facts hw hneg
  generalize (fIdx (QR.pHeld b) q.rows).toNat = k at hk hst hba
  obtain ⟨m1, m2, m3, m4, m5, m6, m7, m8⟩ := may_facts (hw.ok _ hk)
  rw [kb_iff] at m7
  refine wf_set hw hk (may_mk m1 m2 m3 m4 m5 m6 ?_ ?_) (fun h0 i hi hik => ba_ne hw hi hk hik h0)
  · rw [kb_iff]; exact ⟨.inr ⟨rfl, rfl⟩, .inr (m7.2.resolve_left (by omega))⟩
  · by_cases hge : q.att ≤ (qL.nth q.rows k).at_
    · rw [kc_4 (by simp only []; rw [if_pos hge])]; simp only [beq_iff_eq]; omega
    · rw [kc_1 (by simp only []; rw [if_neg hge])]; simp only [decide_eq_true_eq]; omega

theorem settle_wf {q : QS} (hw : q.wf) (b code bits : Int) : (q.settle b code bits).2.2.wf := by
  unfold QS.settle
  split
  · exact hw
  rename_i hneg
  split
  · exact hw
  rename_i hrs
  obtain ⟨hk, hst, hba⟩ := held_facts hw hneg
  generalize (fIdx (QR.pHeld b) q.rows).toNat = k at hk hst hba
  obtain ⟨m1, m2, m3, m4, m5, m6, m7, m8⟩ := may_facts (hw.ok _ hk)
  rw [kb_iff] at m7
  rw [kc_2 hst] at m8
  have hrs' : resB code bits = true := by cases h : resB code bits; exact absurd h hrs; rfl
  simp only [Bool.and_eq_true, decide_eq_true_eq] at m8
  refine wf_set hw hk (may_mk m1 m2 m3 m4 m5 m6 ?_ ?_) (fun h0 i hi hik => ba_ne hw hi hk hik h0)
  · rw [kb_iff]; exact ⟨.inr ⟨rfl, rfl⟩, .inl rfl⟩
  · rw [kc_3 rfl]; simp only [hrs', Bool.and_true, decide_eq_true_eq]; exact m8.1

theorem qnew_wf {n : Int} (h1 : 1 ≤ n) (h2 : n ≤ 8) : (⟨n, []⟩ : QS).wf := ⟨h1, h2, by simp, fun k hk => absurd hk (Nat.not_lt_zero _), fun i j _ hj => absurd hj (Nat.not_lt_zero _)⟩

end Go.Proofs.Ythdcpenhfccagaa
