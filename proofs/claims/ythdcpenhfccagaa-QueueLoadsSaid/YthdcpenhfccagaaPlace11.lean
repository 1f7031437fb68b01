/-
  The laws' helper 'place' of layer 11.
-/
import Derived.Test.YthdcpenhfccagaaQEnds2
namespace Go.Proofs.Ythdcpenhfccagaa
open Go.RowKit
set_option linter.unusedVariables false

theorem tmod_of_neg4 (n m : Int) (hn : n < 0) (hm : 1 ≤ m) : n.tmod m = if n % m = 0 then 0 else n % m - m := by
  have key : n.tmod m = - ((-n) % m) := by
    rw [← Int.tmod_eq_emod_of_nonneg (by omega : 0 ≤ -n), Int.neg_tmod]; simp
  rw [key]
  have h1 := Int.mul_ediv_add_emod n m
  have h2 := Int.mul_ediv_add_emod (-n) m
  have e1 : 0 ≤ (-n) % m := Int.emod_nonneg _ (by omega)
  have e2 : (-n) % m < m := Int.emod_lt_of_pos _ (by omega)
  have e3 : 0 ≤ n % m := Int.emod_nonneg _ (by omega)
  have e4 : n % m < m := Int.emod_lt_of_pos _ (by omega)
  have hd : (n % m + (-n) % m) % m = 0 := by
    rw [← Int.add_emod, Int.add_right_neg, Int.zero_emod]
  by_cases hz : n % m = 0
  · rw [if_pos hz]; rw [hz] at hd; simp at hd; omega
  · rw [if_neg hz]
    have : n % m + (-n) % m < 2 * m := by omega
    by_cases hlt : n % m + (-n) % m < m
    · rw [Int.emod_eq_of_lt (by omega) hlt] at hd; omega
    · have : (n % m + (-n) % m - m) % m = 0 := by rw [Int.sub_emod, hd]; simp
      rw [Int.emod_eq_of_lt (by omega) (by omega)] at this; omega

theorem place11 (n m : Int) (w : World) (h1 : -9223372036854775808 ≤ n) (h2 : n ≤ 9223372036854775807) (h3 : 1 ≤ m) (h4 : m ≤ 1000000) :
    Calls Try.prog 13 #[.int .i64 n, .int .i64 m] w fun e w' => e = .returned (.int .i64 (n % m)) ∧ w = w' := by
  have hm : (m == 0) = false := by simp; omega
  by_cases hn : 0 ≤ n
  · have e1 : 0 ≤ n % m := Int.emod_nonneg _ (by omega)
    have hp : ¬ n % m < 0 := by omega
    go_enter Try.func13, Try.ntmps13
    go_wp2
    go_ret
    exact ⟨rfl, rfl⟩
  · have ht := tmod_of_neg4 n m (by omega) h3
    have e3 : 0 ≤ n % m := Int.emod_nonneg _ (by omega)
    have e4 : n % m < m := Int.emod_lt_of_pos _ (by omega)
    by_cases hz : n % m = 0
    · rw [if_pos hz] at ht
      have b1 : 0 ≤ n.tmod m := by omega
      have b2 : n.tmod m ≤ 0 := by omega
      have b3 : ¬ n.tmod m < 0 := by omega
      have H := hid (ht.trans hz.symm)
      clear ht hz
      go_enter Try.func13, Try.ntmps13
      go_wp2
      go_ret
      exact ⟨by rw [← H.out]; rfl, rfl⟩
    · rw [if_neg hz] at ht
      have b1 : n.tmod m < 0 := by omega
      have b2 : -m < n.tmod m := by omega
      have H := hid (show n.tmod m + m = n % m by omega)
      clear ht hz
      go_enter Try.func13, Try.ntmps13
      go_wp2
      go_ret
      exact ⟨by rw [← H.out]; rfl, rfl⟩

end Go.Proofs.Ythdcpenhfccagaa
