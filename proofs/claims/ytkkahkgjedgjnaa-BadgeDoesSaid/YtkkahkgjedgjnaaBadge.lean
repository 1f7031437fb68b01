/-
  What the functions of the packages badge and gafferref10 do, each by a contract.
-/
import Derived.Test.YtkkahkgjedgjnaaBase
import Derived.Test.YtkkahkgjedgjnaaProg
import Derived.WalkSpells
import Derived.WalkLawsBesides
import Derived.BigRegion
import Derived.BigQuiet
import Derived.Deep.QuietTactic
import Derived.Handy
namespace Go.Proofs.Ytkkahkgjedgjnaa
open Go.RowKit

/-- A counter stands in block B. -/
def Ctr (w : World) (B : Nat) (b l r : Int) : Prop := w.heap[B]? = some (.cells #[.int .i64 b, .int .i64 l, .int .i64 r] 85 (0, 0))

theorem badge_new_ok (b r : Int) (w : World) (h1 : 1 ≤ b) (h2 : b ≤ 16) (h3 : 0 ≤ r) (h4 : r ≤ 1099511627776) :
    Calls Try.prog 16 #[.int .i64 b, .int .i64 r] w fun e w' => e = .returned (.tuple #[.pointer (some ⟨w.heap.size, 0, none⟩), .int .i64 0]) ∧ w' = w.alloc (.cells #[.int .i64 b, .int .i64 r, .int .i64 r] 85) := by
  go_enter Try.func16, Try.ntmps16
  go_wp2
  go_ret2
  exact ⟨rfl, rfl⟩

theorem badge_last (B : Nat) (b l r : Int) (w : World) (hC : Ctr w B b l r) :
    Calls Try.prog 19 #[.pointer (some ⟨B, 0, none⟩)] w fun e w' => e = .returned (.int .i64 l) ∧ w = w' := by
  have h1 : w.cell? ⟨B, 1, none⟩ = some (.int .i64 l) := cell_blk hC rfl
  go_enter Try.func19, Try.ntmps19
  go_wp2
  go_ret
  exact ⟨rfl, rfl⟩

theorem badge_reserved (B : Nat) (b l r : Int) (w : World) (hC : Ctr w B b l r) :
    Calls Try.prog 20 #[.pointer (some ⟨B, 0, none⟩)] w fun e w' => e = .returned (.int .i64 r) ∧ w = w' := by
  have h1 : w.cell? ⟨B, 2, none⟩ = some (.int .i64 r) := cell_blk hC rfl
  go_enter Try.func20, Try.ntmps20
  go_wp2
  go_ret
  exact ⟨rfl, rfl⟩

theorem badge_new_block (b r : Int) (w : World) (h : b < 1 ∨ 16 < b) :
    Calls Try.prog 16 #[.int .i64 b, .int .i64 r] w fun e w' => e = .returned (.tuple #[.pointer none, .int .i64 100]) ∧ w' = w := by
  rcases h with h | h
  · go_enter Try.func16, Try.ntmps16
    go_wp2
    go_ret2
    exact ⟨rfl, rfl⟩
  · have : ¬ b < 1 := by omega
    go_enter Try.func16, Try.ntmps16
    go_wp2
    go_ret2
    exact ⟨rfl, rfl⟩

theorem badge_new_arg (b r : Int) (w : World) (h1 : 1 ≤ b) (h2 : b ≤ 16) (h : r < 0 ∨ 1099511627776 < r) :
    Calls Try.prog 16 #[.int .i64 b, .int .i64 r] w fun e w' => e = .returned (.tuple #[.pointer none, .int .i64 1]) ∧ w' = w := by
  rcases h with h | h
  · go_enter Try.func16, Try.ntmps16
    go_wp2
    go_ret2
    exact ⟨rfl, rfl⟩
  · have : ¬ r < 0 := by omega
    go_enter Try.func16, Try.ntmps16
    go_wp2
    go_ret2
    exact ⟨rfl, rfl⟩

theorem badge_clone (B : Nat) (b l r : Int) (w : World) (hC : Ctr w B b l r) :
    Calls Try.prog 24 #[.pointer (some ⟨B, 0, none⟩)] w fun e w' => e = .returned (.pointer (some ⟨w.heap.size, 0, none⟩)) ∧ w' = w.alloc (.cells #[.int .i64 b, .int .i64 l, .int .i64 r] 85) := by
  have h0 : w.cell? ⟨B, 0, none⟩ = some (.int .i64 b) := cell_blk hC rfl
  have h1 : w.cell? ⟨B, 1, none⟩ = some (.int .i64 l) := cell_blk hC rfl
  have h2 : w.cell? ⟨B, 2, none⟩ = some (.int .i64 r) := cell_blk hC rfl
  go_enter Try.func24, Try.ntmps24
  go_wp2
  go_ret
  exact ⟨rfl, rfl⟩

/-- What is reserved behind the next badge. -/
def nextR (b l r : Int) : Int := if r < l + 1 then min (r + b) 1099511627776 else r

theorem badge_next_end (B : Nat) (b l r : Int) (w : World) (hC : Ctr w B b l r) (hl : 1099511627776 ≤ l) :
    Calls Try.prog 21 #[.pointer (some ⟨B, 0, none⟩)] w fun e w' => e = .returned (.tuple #[.int .i64 0, .int .i64 0, .int .i64 101]) ∧ Fr [] w w' := by
  have hlt := lt_of_block hC
  have h1 : w.cell? ⟨B, 1, none⟩ = some (.int .i64 l) := cell_blk hC rfl
  have hmf : ∀ (fn : Fn) (first cap : Array Value) (w : World), (Instr.makeFunc fn first cap).run Try.prog w = .ok (.func fn first cap) w := fun _ _ _ _ => rfl
  go_enter Try.func21, Try.ntmps21
  go_wp2
  go_returns
  exact ⟨rfl, ((Fr.refl _ _).alloc _).alloc _⟩

theorem badge_next_low (B : Nat) (b l r : Int) (w : World) (hC : Ctr w B b l r) (hl : 0 ≤ l) (hl2 : l < 1099511627776) (hr : l + 1 ≤ r) :
    Calls Try.prog 21 #[.pointer (some ⟨B, 0, none⟩)] w fun e w' => e = .returned (.tuple #[.int .i64 (l + 1), .int .i64 0, .int .i64 0]) ∧ Fr [B] w w' ∧ Ctr w' B b (l + 1) r := by
  have hlt := lt_of_block hC
  have h1 : w.cell? ⟨B, 1, none⟩ = some (.int .i64 l) := cell_blk hC rfl
  have h2 : w.cell? ⟨B, 2, none⟩ = some (.int .i64 r) := cell_blk hC rfl
  have f1 : w.frozen? ⟨B, 1, none⟩ = false := free_blk hC
  have hmf : ∀ (fn : Fn) (first cap : Array Value) (w : World), (Instr.makeFunc fn first cap).run Try.prog w = .ok (.func fn first cap) w := fun _ _ _ _ => rfl
  go_enter Try.func21, Try.ntmps21
  go_wp2
  go_region
  all_goals (go_wp2)
  go_region
  all_goals (go_wp2)
  go_returns
  exact ⟨rfl, (((((Fr.refl _ _).setCell (.inl (by simp)) _).alloc _).alloc _).drew).drew, blk_alloc_lt _ (blk_alloc_lt _ (blk_setCell_at _ hC))⟩

set_option maxHeartbeats 800000 in
theorem badge_next_high (B : Nat) (b l r : Int) (w : World) (hC : Ctr w B b l r) (hl : 0 ≤ l) (hl2 : l < 1099511627776) (hr : r < l + 1) (hr0 : 0 ≤ r) (hb1 : 1 ≤ b) (hb2 : b ≤ 16) (hc : r + b ≤ 1099511627776) :
    Calls Try.prog 21 #[.pointer (some ⟨B, 0, none⟩)] w fun e w' => e = .returned (.tuple #[.int .i64 (l + 1), .int .i64 (r + b), .int .i64 0]) ∧ Fr [B] w w' ∧ Ctr w' B b (l + 1) (r + b) := by
  have hlt := lt_of_block hC
  have h0 : w.cell? ⟨B, 0, none⟩ = some (.int .i64 b) := cell_blk hC rfl
  have h1 : w.cell? ⟨B, 1, none⟩ = some (.int .i64 l) := cell_blk hC rfl
  have h2 : w.cell? ⟨B, 2, none⟩ = some (.int .i64 r) := cell_blk hC rfl
  have f1 : w.frozen? ⟨B, 1, none⟩ = false := free_blk hC
  have f2 : w.frozen? ⟨B, 2, none⟩ = false := free_blk hC
  have hmf : ∀ (fn : Fn) (first cap : Array Value) (w : World), (Instr.makeFunc fn first cap).run Try.prog w = .ok (.func fn first cap) w := fun _ _ _ _ => rfl
  go_enter Try.func21, Try.ntmps21
  go_wp2
  go_region
  all_goals (go_wp2)
  go_region
  all_goals (go_wp2)
  go_region
  all_goals (go_wp2)
  go_returns
  exact ⟨rfl, (((((((Fr.refl _ _).setCell (.inl (by simp)) _).setCell (.inl (by simp)) _).alloc _).alloc _).drew).drew).drew, blk_alloc_lt _ (blk_alloc_lt _ (blk_setCell_at _ (blk_setCell_at _ hC)))⟩

set_option maxHeartbeats 800000 in
theorem badge_next_high2 (B : Nat) (b l r : Int) (w : World) (hC : Ctr w B b l r) (hl : 0 ≤ l) (hl2 : l < 1099511627776) (hr : r < l + 1) (hr0 : 0 ≤ r) (hb1 : 1 ≤ b) (hb2 : b ≤ 16) (hc : 1099511627776 < r + b) :
    Calls Try.prog 21 #[.pointer (some ⟨B, 0, none⟩)] w fun e w' => e = .returned (.tuple #[.int .i64 (l + 1), .int .i64 (1099511627776), .int .i64 0]) ∧ Fr [B] w w' ∧ Ctr w' B b (l + 1) (1099511627776) := by
  have hlt := lt_of_block hC
  have h0 : w.cell? ⟨B, 0, none⟩ = some (.int .i64 b) := cell_blk hC rfl
  have h1 : w.cell? ⟨B, 1, none⟩ = some (.int .i64 l) := cell_blk hC rfl
  have h2 : w.cell? ⟨B, 2, none⟩ = some (.int .i64 r) := cell_blk hC rfl
  have f1 : w.frozen? ⟨B, 1, none⟩ = false := free_blk hC
  have f2 : w.frozen? ⟨B, 2, none⟩ = false := free_blk hC
  have hmf : ∀ (fn : Fn) (first cap : Array Value) (w : World), (Instr.makeFunc fn first cap).run Try.prog w = .ok (.func fn first cap) w := fun _ _ _ _ => rfl
  go_enter Try.func21, Try.ntmps21
  go_wp2
  go_region
  all_goals (go_wp2)
  go_region
  all_goals (go_wp2)
  go_region
  all_goals (go_wp2)
  go_returns
  exact ⟨rfl, (((((((Fr.refl _ _).setCell (.inl (by simp)) _).setCell (.inl (by simp)) _).alloc _).alloc _).drew).drew).drew, blk_alloc_lt _ (blk_alloc_lt _ (blk_setCell_at _ (blk_setCell_at _ hC)))⟩


/-- One contract for every state: what Next tells, and what stands there behind it. -/
theorem badge_next (B : Nat) (b l r : Int) (w : World) (hC : Ctr w B b l r) (hl : 0 ≤ l) (hl2 : l < 1099511627776) (hr0 : 0 ≤ r) (hb1 : 1 ≤ b) (hb2 : b ≤ 16) :
    Calls Try.prog 21 #[.pointer (some ⟨B, 0, none⟩)] w fun e w' => e = .returned (.tuple #[.int .i64 (l + 1), .int .i64 (if r < l + 1 then nextR b l r else 0), .int .i64 0]) ∧ Fr [B] w w' ∧ Ctr w' B b (l + 1) (nextR b l r) := by
  by_cases hr : r < l + 1
  · by_cases hc : r + b ≤ 1099511627776
    · refine (badge_next_high B b l r w hC hl hl2 hr hr0 hb1 hb2 hc).mono ?_
      have : nextR b l r = r + b := by unfold nextR; rw [if_pos hr]; omega
      rw [this, if_pos hr]; exact fun e w' x => x
    · refine (badge_next_high2 B b l r w hC hl hl2 hr hr0 hb1 hb2 (by omega)).mono ?_
      have : nextR b l r = 1099511627776 := by unfold nextR; rw [if_pos hr]; omega
      rw [this, if_pos hr]; exact fun e w' x => x
  · refine (badge_next_low B b l r w hC hl hl2 (by omega)).mono ?_
    have : nextR b l r = r := by unfold nextR; rw [if_neg hr]
    rw [this, if_neg hr]; exact fun e w' x => x

end Go.Proofs.Ytkkahkgjedgjnaa
