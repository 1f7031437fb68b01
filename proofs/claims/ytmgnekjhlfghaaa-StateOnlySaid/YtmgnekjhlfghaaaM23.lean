/-
  Merged, in build order: Tmod.
-/
import Derived.Test.YtmgnekjhlfghaaaM5
/-
  The remainder of a number below nought. Of no program.
-/
namespace Go.Proofs.Ytmgnekjhlfghaaa
open Go.RowKit
set_option linter.unusedVariables false

theorem tmod_of_neg4 (n m : Int) (hn : n < 0) (hm : 1 ≤ m) : n.tmod m = if n % m = 0 then 0 else n % m - m := by
  have key : n.tmod m = - ((-n) % m) := by
    rw [← Int.tmod_eq_emod_of_nonneg (by omega : 0 ≤ -n), Int.neg_tmod]; simp
  rw [key]
  have h1 := Int.mul_ediv_add_emod n m
  have h2 := Int.mul_ediv_add_emod (-n) m
  have e1 : 0 ≤ (-n) % m := Int.emod_nonneg _ (by omega)
  have e2 : (-n) % m < m := Int.emod_lt_of_pos _ (by omega)
  have e3 : 0 ≤ n % m := Int.emod_nonneg _ (by omega)
  have e4 : n % m < m := Int.emod_lt_of_pos _ (by omega)
  have hd : (n % m + (-n) % m) % m = 0 := by
    rw [← Int.add_emod, Int.add_right_neg, Int.zero_emod]
  by_cases hz : n % m = 0
  · rw [if_pos hz]; rw [hz] at hd; simp at hd; omega
  · rw [if_neg hz]
    have : n % m + (-n) % m < 2 * m := by omega
    by_cases hlt : n % m + (-n) % m < m
    · rw [Int.emod_eq_of_lt (by omega) hlt] at hd; omega
    · have : (n % m + (-n) % m - m) % m = 0 := by rw [Int.sub_emod, hd]; simp
      rw [Int.emod_eq_of_lt (by omega) (by omega)] at this; omega

end Go.Proofs.Ytmgnekjhlfghaaa
