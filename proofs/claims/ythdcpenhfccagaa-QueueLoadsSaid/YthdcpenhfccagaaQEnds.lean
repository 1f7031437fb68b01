/-
  Queue: the plain law of QueueEnds.
-/
import Derived.Test.YthdcpenhfccagaaQAt
namespace Go.Proofs.Ythdcpenhfccagaa
open Go.RowKit
set_option linter.unusedVariables false

/-- Behind t attempts that ended without a result: the first h rows are lost. -/
structure EndI (n : Int) (m : Nat) (q : QS) (h : Nat) (t : Int) : Prop where
  wf : q.wf
  att : q.att = n
  len : q.rows.length = m
  hm : h ≤ m
  t0 : 0 ≤ t
  ba : ∀ i, i < m → (qL.nth q.rows i).ba ≤ 2 * t
  lo : ∀ i, i < h → (qL.nth q.rows i).st = 4 ∧ (qL.nth q.rows i).at_ = n
  hi : ∀ i, h < i → i < m → (qL.nth q.rows i).st = 1 ∧ (qL.nth q.rows i).at_ = 0
  at_ : h < m → (qL.nth q.rows h).st = 1 ∧ (qL.nth q.rows h).at_ < n ∧ t = n * h + (qL.nth q.rows h).at_
  all : h = m → t = n * m

theorem end_head {n : Int} {m : Nat} {q : QS} {h : Nat} {t : Int} (I : EndI n m q h t) : q.head = if h < m then (h : Int) + 1 else 0 := by
  unfold QS.head
  split
  · rename_i hh
    rw [fIdx_some (p := QR.pHead) (k := h) (by rw [I.len]; exact hh) (by simp [QR.pHead, (I.at_ hh).1]) (fun j hj => by simp [QR.pHead, (I.lo j hj).1])]
  · rename_i hh
    rw [fIdx_none (p := QR.pHead) (fun k hk => by have := I.len; simp [QR.pHead, (I.lo k (by omega)).1])]
    rfl

theorem end_t {n : Int} {m : Nat} {q : QS} {h : Nat} {t : Int} (I : EndI n m q h t) (hm8 : m ≤ 8) (hh : h < m) : t < 64 := by
  have h1 := I.at_ hh
  have h2 := I.wf.a2
  have h3 := I.wf.a1
  rw [I.att] at h2 h3
  have h4 : n * h ≤ 8 * h := Int.mul_le_mul_of_nonneg_right h2 (by omega)
  omega

/-- The row's grant. -/
theorem end_grant {n : Int} {m : Nat} {q : QS} {h : Nat} {t : Int} (I : EndI n m q h t) (hm8 : m ≤ 8) (hh : h < m) :
    q.grant (h + 1) (2 * t + 2) 3 2 = (0, { q with rows := q.rows.set h { qL.nth q.rows h with st := 2, ba := 2 * t + 2, node := 3, life := 2, at_ := (qL.nth q.rows h).at_ + 1 } }) := by
  have h64 := end_t I hm8 hh
  have h0 := I.t0
  have hl := I.len
  unfold QS.grant
  rw [show ((h : Int) + 1 - 1).toNat = h by omega]
  rw [if_neg (by omega), if_neg (by have := (I.at_ hh).1; omega), if_neg ?_, if_neg (by decide)]
  rw [fIdx_none (p := QR.pGrant (2 * t + 2)) (fun k hk => by have := I.ba k (by omega); simp [QR.pGrant]; omega)]
  unfold inB
  simp
  omega

theorem grant_112 {q : QS} {h : Nat} {b x y : Int} (hh : h < q.rows.length) (hs : (qL.nth q.rows h).st ≠ 1) : q.grant (h + 1) b x y = (112, q) := by
  unfold QS.grant
  rw [show ((h : Int) + 1 - 1).toNat = h by omega, if_neg (by omega), if_pos hs]

end Go.Proofs.Ythdcpenhfccagaa
