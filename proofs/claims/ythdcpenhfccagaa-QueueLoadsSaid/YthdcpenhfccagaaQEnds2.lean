/-
  Queue: the plain law of QueueEnds, a round of it.
-/
import Derived.Test.YthdcpenhfccagaaQEnds
namespace Go.Proofs.Ythdcpenhfccagaa
open Go.RowKit
set_option linter.unusedVariables false

def lostRow (n : Int) (x : QR) (b : Int) : QR := { x with st := if n ≤ x.at_ + 1 then 4 else 1, ba := b, node := 0, life := 0, at_ := x.at_ + 1 }

theorem end_expire {n : Int} {m : Nat} {q : QS} {h : Nat} {t : Int} (I : EndI n m q h t) (hm8 : m ≤ 8) (hh : h < m) :
    ({ q with rows := q.rows.set h { qL.nth q.rows h with st := 2, ba := 2 * t + 2, node := 3, life := 2, at_ := (qL.nth q.rows h).at_ + 1 } } : QS).expire (2 * t + 2) = ((h : Int) + 1, 0, { q with rows := q.rows.set h (lostRow n (qL.nth q.rows h) (2 * t + 2)) }) := by
  have hl := I.len
  have hk : h < q.rows.length := by omega
  have hj : (qL.nth q.rows h).job = (h : Int) + 1 := (may_facts (I.wf.ok h hk)).1
  have ha := I.att
  unfold QS.expire
  simp only []
  rw [fIdx_some (p := QR.pHeld (2 * t + 2)) (k := h) (by simpa using hk) (by rw [qL.nth_set _ _ _ _ hk, if_pos rfl]; simp [QR.pHeld]) (fun j hj => by
    rw [qL.nth_set _ _ _ _ hk, if_neg (by omega)]
    simp [QR.pHeld, (I.lo j hj).1])]
  rw [if_neg (by omega), Int.toNat_natCast, qL.nth_set _ _ _ _ hk, if_pos rfl, List.set_set, ha]
  simp only [lostRow, hj]

theorem end_next {n : Int} {m : Nat} {q : QS} {h : Nat} {t : Int} (I : EndI n m q h t) (hm8 : m ≤ 8) (hh : h < m) :
    ∃ h', EndI n m { q with rows := q.rows.set h (lostRow n (qL.nth q.rows h) (2 * t + 2)) } h' (t + 1) := by
  have hl := I.len
  have hk : h < q.rows.length := by omega
  have hw : ({ q with rows := q.rows.set h (lostRow n (qL.nth q.rows h) (2 * t + 2)) } : QS).wf := by
    have h1 := grant_wf I.wf (h + 1) (2 * t + 2) 3 2
    rw [end_grant I hm8 hh] at h1
    have h2 := expire_wf h1 (2 * t + 2)
    rw [end_expire I hm8 hh] at h2
    exact h2
  obtain ⟨a1, a2, a3⟩ := I.at_ hh
  have a0 := (may_facts (I.wf.ok h hk)).2.1
  have hn1 : 1 ≤ n := by have := I.wf.a1; rw [I.att] at this; exact this
  have hba : ∀ i, i < m → (qL.nth (q.rows.set h (lostRow n (qL.nth q.rows h) (2 * t + 2))) i).ba ≤ 2 * (t + 1) := fun i hi => by
    rw [qL.nth_set _ _ _ _ hk]
    split
    · show 2 * t + 2 ≤ 2 * (t + 1); omega
    · have := I.ba i hi; omega
  by_cases hlast : n ≤ (qL.nth q.rows h).at_ + 1
  · have hat : (qL.nth q.rows h).at_ + 1 = n := by omega
    have htn : t + 1 = n * (h + 1 : Nat) := by rw [a3]; push_cast; rw [Int.mul_add, Int.mul_one]; omega
    refine ⟨h + 1, hw, I.att, by simpa using hl, hh, by have := I.t0; omega, hba, fun i hi => ?_, fun i hi him => ?_, fun him => ?_, fun he => by rw [htn, he]⟩
    · show (qL.nth (q.rows.set h _) i).st = 4 ∧ (qL.nth (q.rows.set h _) i).at_ = n
      rw [qL.nth_set _ _ _ _ hk]
      split
      · exact ⟨by show (if _ then (4 : Int) else 1) = 4; rw [if_pos hlast], hat⟩
      · exact I.lo i (by omega)
    · show (qL.nth (q.rows.set h _) i).st = 1 ∧ (qL.nth (q.rows.set h _) i).at_ = 0
      rw [qL.nth_set _ _ _ _ hk, if_neg (by omega)]
      exact I.hi i (by omega) him
    · show (qL.nth (q.rows.set h _) (h + 1)).st = 1 ∧ (qL.nth (q.rows.set h _) (h + 1)).at_ < n ∧ t + 1 = n * (h + 1 : Nat) + (qL.nth (q.rows.set h _) (h + 1)).at_
      rw [qL.nth_set _ _ _ _ hk, if_neg (by omega)]
      obtain ⟨b1, b2⟩ := I.hi (h + 1) (by omega) him
      exact ⟨b1, by omega, by rw [b2]; omega⟩
  · refine ⟨h, hw, I.att, by simpa using hl, Nat.le_of_lt hh, by have := I.t0; omega, hba, fun i hi => ?_, fun i hi him => ?_, fun _ => ?_, fun he => by omega⟩
    · show (qL.nth (q.rows.set h _) i).st = 4 ∧ (qL.nth (q.rows.set h _) i).at_ = n
      rw [qL.nth_set _ _ _ _ hk, if_neg (by omega)]
      exact I.lo i hi
    · show (qL.nth (q.rows.set h _) i).st = 1 ∧ (qL.nth (q.rows.set h _) i).at_ = 0
      rw [qL.nth_set _ _ _ _ hk, if_neg (by omega)]
      exact I.hi i hi him
    · show (qL.nth (q.rows.set h _) h).st = 1 ∧ (qL.nth (q.rows.set h _) h).at_ < n ∧ t + 1 = n * h + (qL.nth (q.rows.set h _) h).at_
      rw [qL.nth_set _ _ _ _ hk, if_pos rfl]
      exact ⟨by show (if _ then (4 : Int) else 1) = 1; rw [if_neg hlast], by show (qL.nth q.rows h).at_ + 1 < n; omega, by show t + 1 = n * h + ((qL.nth q.rows h).at_ + 1); omega⟩

/-- k fresh rows. -/
structure SubI (n : Int) (k : Nat) (q : QS) : Prop where
  wf : q.wf
  att : q.att = n
  len : q.rows.length = k
  all : ∀ i, i < k → (qL.nth q.rows i).st = 1 ∧ (qL.nth q.rows i).at_ = 0 ∧ (qL.nth q.rows i).ba = 0
theorem sub_next {n : Int} {k : Nat} {q : QS} (I : SubI n k q) (hk : k < 8) : SubI n (k + 1) q.submit.2.2 := by
  have hl := I.len
  refine ⟨submit_wf I.wf, ?_, ?_, ?_⟩
  all_goals unfold QS.submit; rw [if_neg (by omega)]
  · exact I.att
  · simp [hl]
  · intro i hi
    show (qL.nth (q.rows ++ [_]) i).st = 1 ∧ (qL.nth (q.rows ++ [_]) i).at_ = 0 ∧ (qL.nth (q.rows ++ [_]) i).ba = 0
    rw [qL.nth_snoc]
    split
    · exact ⟨rfl, rfl, rfl⟩
    · exact I.all i (by omega)
theorem sub_end {n : Int} {m : Nat} {q : QS} (I : SubI n m q) (hm : 0 < m) : EndI n m q 0 0 :=
  have hn1 : 1 ≤ n := by have := I.wf.a1; rw [I.att] at this; exact this
  ⟨I.wf, I.att, I.len, Nat.zero_le _, Int.le_refl _, fun i hi => by rw [(I.all i hi).2.2]; omega, fun i hi => absurd hi (Nat.not_lt_zero _), fun i _ hi => ⟨(I.all i hi).1, (I.all i hi).2.1⟩,
    fun h => ⟨(I.all 0 h).1, by rw [(I.all 0 h).2.1]; omega, by rw [(I.all 0 h).2.1]; simp⟩, fun h => by omega⟩

end Go.Proofs.Ythdcpenhfccagaa
