/-
  A law's arguments as lists of texts, of writes.
-/
import Derived.Test.YtkkahkgjedgjnaaIn
import Derived.Test.YtkkahkgjedgjnaaDisk4
namespace Go.Proofs.Ytkkahkgjedgjnaa
open Go.RowKit
set_option linter.unusedVariables false

theorem strs_of {w : World} {a : Option Addr} {len cap : Nat} {V : Nat → Value} (h : SlIn w 1 16 a len cap V) (hq : ∀ i, i < len → Str (V (i * 1))) :
    ∃ ss : List ByteArray, ss.length = len ∧ In w 1 a len cap (strV ss) ∧ len * 16 ≤ 140737488351232 ∧ ∀ i, i < len → (sAt ss i).size ≤ 140737488351232 := by
  have e : ∀ i, i < len → V i = .string (strOf (V i)) := fun i hi => by
    obtain ⟨s, hs, _⟩ := hq i hi
    rw [Nat.mul_one] at hs; rw [hs]; rfl
  have hat : ∀ i, i < len → sAt ((List.range len).map fun i => strOf (V i)) i = strOf (V i) := fun i hi => by
    unfold sAt; simp [List.getD, hi]
  have hle := h.le
  have hr := h.rch
  refine ⟨(List.range len).map fun i => strOf (V i), by simp, ⟨h.le, by unfold maxLen; exact h.mx, h.sm, fun b off e1 j hj => ?_⟩, ?_, fun i hi => ?_⟩
  · rw [h.cell b off e1 j hj]
    unfold strV
    rw [hat j (by omega), ← e j (by omega)]
  · omega
  · rw [hat i hi]
    obtain ⟨s, hs, hsz⟩ := hq i hi
    rw [Nat.mul_one] at hs
    rw [hs]; exact hsz

theorem wrs_of {w : World} {a : Option Addr} {len cap : Nat} {V : Nat → Value} (h : SlIn w 2 24 a len cap V) (hq0 : ∀ i, i < len → I64 (V (i * 2))) (hq1 : ∀ i, i < len → Str (V (i * 2 + 1))) :
    ∃ ws : List (Int × ByteArray), ws.length = len ∧ In w 2 a len cap (wrV ws) ∧ len * 24 ≤ 140737488351232 ∧ ∀ i, i < len → -9223372036854775808 ≤ (wAt ws i).1 ∧ (wAt ws i).1 ≤ 9223372036854775807 ∧ (wAt ws i).2.size ≤ 140737488351232 := by
  have hat : ∀ i, i < len → wAt ((List.range len).map fun i => (intOf (V (i * 2)), strOf (V (i * 2 + 1)))) i = (intOf (V (i * 2)), strOf (V (i * 2 + 1))) := fun i hi => by
    unfold wAt; simp [List.getD, hi]
  have hle := h.le
  have hr := h.rch
  refine ⟨(List.range len).map fun i => (intOf (V (i * 2)), strOf (V (i * 2 + 1))), by simp, ⟨h.le, by unfold maxLen; exact h.mx, h.sm, fun b off e1 j hj => ?_⟩, ?_, fun i hi => ?_⟩
  · rw [h.cell b off e1 j hj]
    unfold wrV
    rw [hat (j / 2) (by omega)]
    by_cases hj2 : j % 2 = 0
    · rw [if_pos hj2]
      obtain ⟨n, hn, _⟩ := hq0 (j / 2) (by omega)
      rw [show j / 2 * 2 = j by omega] at hn
      rw [show j / 2 * 2 = j by omega, hn]; rfl
    · rw [if_neg hj2]
      obtain ⟨s, hs, _⟩ := hq1 (j / 2) (by omega)
      rw [show j / 2 * 2 + 1 = j by omega] at hs
      rw [show j / 2 * 2 + 1 = j by omega, hs]; rfl
  · omega
  · rw [hat i hi]
    obtain ⟨n, hn, h1, h2⟩ := hq0 i hi
    obtain ⟨s, hs, hsz⟩ := hq1 i hi
    rw [hn, hs]; exact ⟨h1, h2, hsz⟩

end Go.Proofs.Ytkkahkgjedgjnaa
