/-
  The laws' helper 'place' of layer 4; a refused Arm.
-/
import Derived.Test.YtkkahkgjedgjnaaDisk1
namespace Go.Proofs.Ytkkahkgjedgjnaa
open Go.RowKit
set_option linter.unusedVariables false

theorem tmod_of_neg4 (n m : Int) (hn : n < 0) (hm : 1 ≤ m) : n.tmod m = if n % m = 0 then 0 else n % m - m := by
  have key : n.tmod m = - ((-n) % m) := by
    rw [← Int.tmod_eq_emod_of_nonneg (by omega : 0 ≤ -n), Int.neg_tmod]; simp
  rw [key]
  have h1 := Int.mul_ediv_add_emod n m
  have h2 := Int.mul_ediv_add_emod (-n) m
  have e1 : 0 ≤ (-n) % m := Int.emod_nonneg _ (by omega)
  have e2 : (-n) % m < m := Int.emod_lt_of_pos _ (by omega)
  have e3 : 0 ≤ n % m := Int.emod_nonneg _ (by omega)
  have e4 : n % m < m := Int.emod_lt_of_pos _ (by omega)
  have hd : (n % m + (-n) % m) % m = 0 := by
    rw [← Int.add_emod, Int.add_right_neg, Int.zero_emod]
  by_cases hz : n % m = 0
  · rw [if_pos hz]; rw [hz] at hd; simp at hd; omega
  · rw [if_neg hz]
    have : n % m + (-n) % m < 2 * m := by omega
    by_cases hlt : n % m + (-n) % m < m
    · rw [Int.emod_eq_of_lt (by omega) hlt] at hd; omega
    · have : (n % m + (-n) % m - m) % m = 0 := by rw [Int.sub_emod, hd]; simp
      rw [Int.emod_eq_of_lt (by omega) (by omega)] at this; omega

theorem place04 (n m : Int) (w : World) (h1 : -9223372036854775808 ≤ n) (h2 : n ≤ 9223372036854775807) (h3 : 1 ≤ m) (h4 : m ≤ 1000000) :
    Calls Try.prog 45 #[.int .i64 n, .int .i64 m] w fun e w' => e = .returned (.int .i64 (n % m)) ∧ w = w' := by
  have hm : (m == 0) = false := by simp; omega
  by_cases hn : 0 ≤ n
  · have e1 : 0 ≤ n % m := Int.emod_nonneg _ (by omega)
    have hp : ¬ n % m < 0 := by omega
    go_enter Try.func45, Try.ntmps45
    go_wp2
    go_ret
    exact ⟨rfl, rfl⟩
  · have ht := tmod_of_neg4 n m (by omega) h3
    have e3 : 0 ≤ n % m := Int.emod_nonneg _ (by omega)
    have e4 : n % m < m := Int.emod_lt_of_pos _ (by omega)
    by_cases hz : n % m = 0
    · rw [if_pos hz] at ht
      have b1 : 0 ≤ n.tmod m := by omega
      have b2 : n.tmod m ≤ 0 := by omega
      have b3 : ¬ n.tmod m < 0 := by omega
      have H := hid (ht.trans hz.symm)
      clear ht hz
      go_enter Try.func45, Try.ntmps45
      go_wp2
      go_ret
      exact ⟨by rw [← H.out]; rfl, rfl⟩
    · rw [if_neg hz] at ht
      have b1 : n.tmod m < 0 := by omega
      have b2 : -m < n.tmod m := by omega
      have H := hid (show n.tmod m + m = n % m by omega)
      clear ht hz
      go_enter Try.func45, Try.ntmps45
      go_wp2
      go_ret
      exact ⟨by rw [← H.out]; rfl, rfl⟩


theorem disk_arm_no (w : World) (F : List Nat) (D : Nat) (d : DS) (n b : Int) (h : Dk w F D d) (code : Int) (hc : d.dead = true ∧ code = 2 ∨ d.dead = false ∧ (n < 0 ∨ b < 0 ∨ 128 < b) ∧ code = 1) :
    Calls Try.prog 46 #[.pointer (some ⟨D, 0, none⟩), .int .i64 n, .int .i64 b] w fun e w' => e = .returned (.int .i64 code) ∧ w = w' := by
  obtain ⟨S, cap, rv, cur, rfl, h1, h2, h3, h4⟩ := h
  have c4 : w.cell? ⟨D, 4, none⟩ = some (.bool d.dead) := cell_blk h1 rfl
  rcases hc with ⟨hd, rfl⟩ | ⟨hd, hb, rfl⟩
  · rw [hd] at c4
    clear hd h1 h2 h3 h4
    go_enter Try.func46, Try.ntmps46
    go_wp2
    go_ret
    exact ⟨rfl, rfl⟩
  · rw [hd] at c4
    clear hd h1 h2 h3 h4
    by_cases hn : n < 0
    · go_enter Try.func46, Try.ntmps46
      go_wp2
      go_ret
      exact ⟨rfl, rfl⟩
    by_cases hb0 : b < 0
    · go_enter Try.func46, Try.ntmps46
      go_wp2
      go_ret
      exact ⟨rfl, rfl⟩
    · have hb1 : 128 < b := by omega
      clear hb
      go_enter Try.func46, Try.ntmps46
      go_wp2
      go_ret
      exact ⟨rfl, rfl⟩

end Go.Proofs.Ytkkahkgjedgjnaa
