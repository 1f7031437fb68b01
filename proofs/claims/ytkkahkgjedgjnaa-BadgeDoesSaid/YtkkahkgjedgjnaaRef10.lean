/-
  What the functions of the package gafferref10 do, each by a contract.
-/
import Derived.Test.YtkkahkgjedgjnaaTwins10
namespace Go.Proofs.Ytkkahkgjedgjnaa
open Go.RowKit
set_option linter.unusedVariables false

/-- A counter of the document's stands in block B. -/
def RCtr (w : World) (B : Nat) (b l r : Int) : Prop := w.heap[B]? = some (.cells #[.int .i64 b, .int .i64 l, .int .i64 r] 44 (0, 0))

theorem ref_new_ok (b r : Int) (w : World) (h1 : 1 ≤ b) (h2 : b ≤ 16) (h3 : 0 ≤ r) (h4 : r ≤ 1099511627776) :
    Calls Try.prog 22 #[.int .i64 b, .int .i64 r] w fun e w' => e = .returned (.tuple #[.pointer (some ⟨w.heap.size, 0, none⟩), .int .i64 0]) ∧ w' = w.alloc (.cells #[.int .i64 b, .int .i64 r, .int .i64 r] 44) := by
  go_enter Try.func22, Try.ntmps22
  go_wp2
  go_ret2
  exact ⟨rfl, rfl⟩

theorem ref_new_block (b r : Int) (w : World) (h : b < 1 ∨ 16 < b) :
    Calls Try.prog 22 #[.int .i64 b, .int .i64 r] w fun e w' => e = .returned (.tuple #[.pointer none, .int .i64 100]) ∧ w' = w := by
  rcases h with h | h
  · go_enter Try.func22, Try.ntmps22
    go_wp2
    go_ret2
    exact ⟨rfl, rfl⟩
  · have : ¬ b < 1 := by omega
    go_enter Try.func22, Try.ntmps22
    go_wp2
    go_ret2
    exact ⟨rfl, rfl⟩

theorem ref_new_arg (b r : Int) (w : World) (h1 : 1 ≤ b) (h2 : b ≤ 16) (h : r < 0 ∨ 1099511627776 < r) :
    Calls Try.prog 22 #[.int .i64 b, .int .i64 r] w fun e w' => e = .returned (.tuple #[.pointer none, .int .i64 1]) ∧ w' = w := by
  rcases h with h | h
  · go_enter Try.func22, Try.ntmps22
    go_wp2
    go_ret2
    exact ⟨rfl, rfl⟩
  · have : ¬ r < 0 := by omega
    go_enter Try.func22, Try.ntmps22
    go_wp2
    go_ret2
    exact ⟨rfl, rfl⟩

theorem ref_copy (B : Nat) (b l r : Int) (w : World) (h : RCtr w B b l r) :
    Calls Try.prog 25 #[.pointer (some ⟨B, 0, none⟩)] w fun e w' => e = .returned (.pointer (some ⟨w.heap.size, 0, none⟩)) ∧ w' = w.alloc (.cells #[.int .i64 b, .int .i64 l, .int .i64 r] 44) := by
  have h0 : w.cell? ⟨B, 0, none⟩ = some (.int .i64 b) := cell_blk h rfl
  have h1 : w.cell? ⟨B, 1, none⟩ = some (.int .i64 l) := cell_blk h rfl
  have h2 : w.cell? ⟨B, 2, none⟩ = some (.int .i64 r) := cell_blk h rfl
  go_enter Try.func25, Try.ntmps25
  go_wp2
  go_ret
  exact ⟨rfl, rfl⟩

theorem ref_next_end (B : Nat) (b : Int) (r : Int) (w : World) (hC : RCtr w B b 1099511627776 r) :
    Calls Try.prog 23 #[.pointer (some ⟨B, 0, none⟩)] w fun e w' => e = .returned (.tuple #[.int .i64 0, .int .i64 0, .int .i64 101]) ∧ w = w' := by
  have h1 : w.cell? ⟨B, 1, none⟩ = some (.int .i64 1099511627776) := cell_blk hC rfl
  go_enter Try.func23, Try.ntmps23
  go_wp2
  go_ret3
  exact ⟨rfl, rfl⟩

theorem ref_next_low (B : Nat) (b l r : Int) (w : World) (hC : RCtr w B b l r) (hl : 0 ≤ l) (hl2 : l < 1099511627776) (hr : l + 1 ≤ r) :
    Calls Try.prog 23 #[.pointer (some ⟨B, 0, none⟩)] w fun e w' => e = .returned (.tuple #[.int .i64 (l + 1), .int .i64 0, .int .i64 0]) ∧ Fr [B] w w' ∧ RCtr w' B b (l + 1) r := by
  have h1 : w.cell? ⟨B, 1, none⟩ = some (.int .i64 l) := cell_blk hC rfl
  have h2 : w.cell? ⟨B, 2, none⟩ = some (.int .i64 r) := cell_blk hC rfl
  have f1 : w.frozen? ⟨B, 1, none⟩ = false := free_blk hC
  have hz : (l == 1099511627776) = false := by rw [beq_eq_false_iff_ne]; omega
  go_enter Try.func23, Try.ntmps23
  go_wp2
  go_region
  all_goals (go_wp2)
  all_goals go_ret3
  all_goals exact ⟨rfl, ((Fr.refl _ _).setCell (.inl (by simp)) _).drew, blk_setCell_at _ hC⟩

set_option maxHeartbeats 800000 in
theorem ref_next_high (B : Nat) (b l r : Int) (w : World) (hC : RCtr w B b l r) (hl : 0 ≤ l) (hl2 : l < 1099511627776) (hr : r < l + 1) (hr0 : 0 ≤ r) (hb1 : 1 ≤ b) (hb2 : b ≤ 16) (hc : r + b ≤ 1099511627776) :
    Calls Try.prog 23 #[.pointer (some ⟨B, 0, none⟩)] w fun e w' => e = .returned (.tuple #[.int .i64 (l + 1), .int .i64 (r + b), .int .i64 0]) ∧ Fr [B] w w' ∧ RCtr w' B b (l + 1) (r + b) := by
  have h0 : w.cell? ⟨B, 0, none⟩ = some (.int .i64 b) := cell_blk hC rfl
  have h1 : w.cell? ⟨B, 1, none⟩ = some (.int .i64 l) := cell_blk hC rfl
  have h2 : w.cell? ⟨B, 2, none⟩ = some (.int .i64 r) := cell_blk hC rfl
  have f1 : w.frozen? ⟨B, 1, none⟩ = false := free_blk hC
  have f2 : w.frozen? ⟨B, 2, none⟩ = false := free_blk hC
  have hz : (l == 1099511627776) = false := by rw [beq_eq_false_iff_ne]; omega
  go_enter Try.func23, Try.ntmps23
  go_wp2
  go_region
  all_goals (go_wp2)
  go_region
  all_goals (go_wp2)
  go_region
  all_goals (go_wp2)
  all_goals go_ret3
  all_goals exact ⟨rfl, (((((Fr.refl _ _).setCell (.inl (by simp)) _).setCell (.inl (by simp)) _).drew).drew).drew, blk_setCell_at _ (blk_setCell_at _ hC)⟩

set_option maxHeartbeats 800000 in
theorem ref_next_high2 (B : Nat) (b l r : Int) (w : World) (hC : RCtr w B b l r) (hl : 0 ≤ l) (hl2 : l < 1099511627776) (hr : r < l + 1) (hr0 : 0 ≤ r) (hb1 : 1 ≤ b) (hb2 : b ≤ 16) (hc : 1099511627776 < r + b) :
    Calls Try.prog 23 #[.pointer (some ⟨B, 0, none⟩)] w fun e w' => e = .returned (.tuple #[.int .i64 (l + 1), .int .i64 1099511627776, .int .i64 0]) ∧ Fr [B] w w' ∧ RCtr w' B b (l + 1) 1099511627776 := by
  have h0 : w.cell? ⟨B, 0, none⟩ = some (.int .i64 b) := cell_blk hC rfl
  have h1 : w.cell? ⟨B, 1, none⟩ = some (.int .i64 l) := cell_blk hC rfl
  have h2 : w.cell? ⟨B, 2, none⟩ = some (.int .i64 r) := cell_blk hC rfl
  have f1 : w.frozen? ⟨B, 1, none⟩ = false := free_blk hC
  have f2 : w.frozen? ⟨B, 2, none⟩ = false := free_blk hC
  have hz : (l == 1099511627776) = false := by rw [beq_eq_false_iff_ne]; omega
  go_enter Try.func23, Try.ntmps23
  go_wp2
  go_region
  all_goals (go_wp2)
  go_region
  all_goals (go_wp2)
  go_region
  all_goals (go_wp2)
  all_goals go_ret3
  all_goals exact ⟨rfl, (((((Fr.refl _ _).setCell (.inl (by simp)) _).setCell (.inl (by simp)) _).drew).drew).drew, blk_setCell_at _ (blk_setCell_at _ hC)⟩

theorem ref_next_any (B : Nat) (b l r : Int) (w : World) (hC : RCtr w B b l r) (hl : 0 ≤ l) (hl2 : l ≤ 1099511627776) (hr0 : 0 ≤ r) (hb1 : 1 ≤ b) (hb2 : b ≤ 16) :
    Calls Try.prog 23 #[.pointer (some ⟨B, 0, none⟩)] w fun e w' => e = .returned (.tuple #[.int .i64 (nB l), .int .i64 (nN b l r), .int .i64 (nE l)]) ∧ Fr [B] w w' ∧ RCtr w' B b (nL l) (nR b l r) := by
  by_cases h : l < 1099511627776
  · by_cases hr : r < l + 1
    · have e1 : nB l = l + 1 := by unfold nB; rw [if_pos h]
      have e2 : nE l = 0 := by unfold nE; rw [if_pos h]
      have e3 : nL l = l + 1 := by unfold nL; rw [if_pos h]
      have e4 : nR b l r = min (r + b) 1099511627776 := by unfold nR nextR; rw [if_pos h, if_pos hr]
      have e5 : nN b l r = min (r + b) 1099511627776 := by unfold nN nextR; rw [if_pos h, if_pos hr, if_pos hr]
      rw [e1, e2, e3, e4, e5]
      by_cases hc : r + b ≤ 1099511627776
      · rw [show min (r + b) 1099511627776 = r + b by omega]
        exact ref_next_high B b l r w hC hl h hr hr0 hb1 hb2 hc
      · rw [show min (r + b) 1099511627776 = 1099511627776 by omega]
        exact ref_next_high2 B b l r w hC hl h hr hr0 hb1 hb2 (by omega)
    · have e1 : nB l = l + 1 := by unfold nB; rw [if_pos h]
      have e2 : nE l = 0 := by unfold nE; rw [if_pos h]
      have e3 : nL l = l + 1 := by unfold nL; rw [if_pos h]
      have e4 : nR b l r = r := by unfold nR nextR; rw [if_pos h, if_neg hr]
      have e5 : nN b l r = 0 := by unfold nN; rw [if_pos h, if_neg hr]
      rw [e1, e2, e3, e4, e5]
      exact ref_next_low B b l r w hC hl h (by omega)
  · obtain rfl : l = 1099511627776 := by omega
    refine (ref_next_end B b r w hC).mono ?_
    unfold nB nN nE nL nR
    rw [if_neg h, if_neg h, if_neg h, if_neg h, if_neg h]
    rintro e w' ⟨he, rfl⟩
    exact ⟨he, Fr.refl _ _, hC⟩

end Go.Proofs.Ytkkahkgjedgjnaa
