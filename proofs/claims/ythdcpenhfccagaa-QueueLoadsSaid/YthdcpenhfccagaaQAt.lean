/-
  Queue: what Row, Find, Open and Head tell, over things.
-/
import Derived.Test.YthdcpenhfccagaaQChg
namespace Go.Proofs.Ythdcpenhfccagaa
open Go.RowKit
set_option linter.unusedVariables false

theorem chg_att {q q' : QS} {z : Bool} (h : Chg q q' z) : q'.att = q.att := by
  rcases h with ⟨_, rfl⟩ | ⟨x, _, rfl, _⟩ | ⟨k, x, _, _, rfl, _⟩ <;> rfl

theorem row_at {q : QS} {k : Nat} (hk : k < q.rows.length) {j : Int} (hj : j = k + 1) : q.row j = (qL.nth q.rows k, true) := by
  unfold QS.row
  rw [if_neg (by omega), show (j - 1).toNat = k by omega]
theorem row_no {q : QS} {j : Int} (hj : j < 1 ∨ (q.rows.length : Int) < j) : q.row j = (.zero, false) := by unfold QS.row; rw [if_pos hj]
theorem find_at {q : QS} (hw : q.wf) {k : Nat} (hk : k < q.rows.length) (h0 : 0 < (qL.nth q.rows k).ba) : q.find (qL.nth q.rows k).ba = (qL.nth q.rows k, true) := by
  unfold QS.find
  rw [fIdx_some (p := QR.pFind (qL.nth q.rows k).ba) hk (by simp [QR.pFind, h0]) (fun j hj => by simp only [QR.pFind, Bool.and_eq_false_iff, beq_eq_false_iff_ne]; exact .inl (ba_ne hw (by omega) hk (by omega) h0))]
  exact row_at hk rfl
theorem find_no {q : QS} {b : Int} (h0 : b ≤ 0) : q.find b = (.zero, false) := by
  unfold QS.find
  rw [fIdx_none (p := QR.pFind b) (fun k hk => by simp only [QR.pFind, Bool.and_eq_false_iff, decide_eq_false_iff_not]; exact .inr (by omega))]
  exact row_no (by omega)

section
variable {W : Base} {w : World} {R : List Thing}

theorem st_rowIs (H : St W w R) (i : Nat) {Q : Nat} {q : QS} (hi : R[i]? = some (QkT Q q)) (hl : q.rows.length ≤ 8) {j : Int} {x : QR} {z : Bool} (hj : q.row j = (x, z)) :
    Calls Try.prog 16 #[.pointer (some ⟨Q, 0, none⟩), .int .i64 j] w fun e w' => e = .returned (.tuple #[.agg #[.int .i64 x.job, .int .i64 x.st, .int .i64 x.at_, .int .i64 x.ba, .int .i64 x.node, .int .i64 x.life, .int .i64 x.code, .int .u64 x.bits], .bool z]) ∧ St W w' R := by
  refine (st_row H i hi hl j).mono ?_
  rintro e w' ⟨x', z', h, rfl, hF⟩
  rw [hj] at h
  obtain ⟨rfl, rfl⟩ := (Prod.mk.injEq _ _ _ _).mp h
  exact ⟨rfl, H.same hF⟩
theorem st_findIs (H : St W w R) (i : Nat) {Q : Nat} {q : QS} (hi : R[i]? = some (QkT Q q)) (hl : q.rows.length ≤ 8) {b : Int} {x : QR} {z : Bool} (hj : q.find b = (x, z)) :
    Calls Try.prog 25 #[.pointer (some ⟨Q, 0, none⟩), .int .i64 b] w fun e w' => e = .returned (.tuple #[.agg #[.int .i64 x.job, .int .i64 x.st, .int .i64 x.at_, .int .i64 x.ba, .int .i64 x.node, .int .i64 x.life, .int .i64 x.code, .int .u64 x.bits], .bool z]) ∧ St W w' R := by
  refine (st_find H i hi hl b).mono ?_
  rintro e w' ⟨x', z', h, rfl, hF⟩
  rw [hj] at h
  obtain ⟨rfl, rfl⟩ := (Prod.mk.injEq _ _ _ _).mp h
  exact ⟨rfl, H.same hF⟩
theorem st_openT (H : St W w R) (i : Nat) {Q : Nat} {q : QS} (hi : R[i]? = some (QkT Q q)) (hw : q.wf) :
    Calls Try.prog 26 #[.pointer (some ⟨Q, 0, none⟩)] w fun e w' => e = .returned (.tuple #[.int .i64 q.opened.1, .int .i64 q.opened.2]) ∧ St W w' R :=
  (st_open H i hi hw).mono fun e w' ⟨h1, h2⟩ => ⟨h1, H.same h2⟩

/-- The head, found among the first rows. -/
def hdk (l : List QR) : Nat → Nat
  | 0 => 0
  | k + 1 => if (qL.nth l k).st = 1 ∧ hdk l k = 0 then k + 1 else hdk l k
theorem hdk_inv (l : List QR) : ∀ (k : Nat), hdk l k ≤ k ∧ (hdk l k = 0 → ∀ j, j < k → (qL.nth l j).st ≠ 1) ∧ ∀ i, hdk l k = i + 1 → i < k ∧ (qL.nth l i).st = 1 ∧ ∀ j, j < i → (qL.nth l j).st ≠ 1
  | 0 => ⟨Nat.le_refl _, fun _ j hj => absurd hj (Nat.not_lt_zero _), fun i h => by simp [hdk] at h⟩
  | k + 1 => by
    obtain ⟨h1, h2, h3⟩ := hdk_inv l k
    unfold hdk
    split
    · rename_i hs
      refine ⟨Nat.le_refl _, (fun h => by omega), fun i hi => ?_⟩
      obtain rfl : i = k := by omega
      exact ⟨by omega, hs.1, h2 hs.2⟩
    · rename_i hs
      refine ⟨by omega, fun h j hj => ?_, fun i hi => ?_⟩
      · by_cases hjk : j = k
        · subst hjk; exact fun h5 => hs ⟨h5, h⟩
        · exact h2 h j (by omega)
      · obtain ⟨a, b, c⟩ := h3 i hi; exact ⟨by omega, b, c⟩
theorem hdk_head (q : QS) : q.head = hdk q.rows q.rows.length := by
  obtain ⟨h1, h2, h3⟩ := hdk_inv q.rows q.rows.length
  unfold QS.head
  rcases Nat.eq_zero_or_pos (hdk q.rows q.rows.length) with h | h
  · rw [h, fIdx_none (p := QR.pHead) (fun k hk => by simp only [QR.pHead, beq_eq_false_iff_ne]; exact h2 h k hk)]; rfl
  · obtain ⟨i, hi⟩ : ∃ i, hdk q.rows q.rows.length = i + 1 := ⟨hdk q.rows q.rows.length - 1, by omega⟩
    obtain ⟨a, b, c⟩ := h3 i hi
    rw [hi, fIdx_some (p := QR.pHead) (k := i) a (by simp [QR.pHead, b]) (fun j hj => by simp only [QR.pHead, beq_eq_false_iff_ne]; exact c j hj)]
    push_cast; rfl
end

end Go.Proofs.Ythdcpenhfccagaa
