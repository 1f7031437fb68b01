/-
  Merged, in build order: Made.
-/
import Derived.Deep.RegionWith
import Derived.Test.YthghnlgojmedgaaM19
/-
  The laws' helper 'made': a disk of sectors that may be, written to.
-/
namespace Go.Proofs.Ythghnlgojmedgaa
open Go.RowKit
set_option linter.unusedVariables false
set_option linter.unusedSimpArgs false

/-- The sectors that may be. -/
def okSecs (ss : List ByteArray) : Prop := 1 ≤ ss.length ∧ ss.length ≤ 1026 ∧ ∀ i, i < ss.length → (sAt ss i).size = 128

def DS.of (ss : List ByteArray) : DS := ⟨ss, [], 0, 0, false⟩
/-- The first k writes done. -/
def runW (d : DS) (ws : List (Int × ByteArray)) (k : Nat) : DS := (ws.take k).foldl (fun d x => (d.write x.1 x.2).2) d

theorem of_wf {ss : List ByteArray} (h : okSecs ss) : (DS.of ss).wf := ⟨h.1, h.2.1, h.2.2, by simp [DS.of], by simp [DS.of], by simp [DS.of], by simp [DS.of]⟩

theorem runW_succ (d : DS) (ws : List (Int × ByteArray)) (k : Nat) (hk : k < ws.length) : runW d ws (k + 1) = ((runW d ws k).write (wAt ws k).1 (wAt ws k).2).2 := by
  unfold runW
  rw [List.take_succ_eq_append_getElem hk, List.foldl_append]
  simp [wAt, List.getD, hk]
theorem runW_zero (d : DS) (ws : List (Int × ByteArray)) : runW d ws 0 = d := rfl
theorem runW_wf {d : DS} (hw : d.wf) (ws : List (Int × ByteArray)) (k : Nat) (hk : k ≤ ws.length) : (runW d ws k).wf := by
  induction k with
  | zero => exact hw
  | succ k ih => rw [runW_succ _ _ _ (by omega)]; exact write_wf (ih (by omega)) _ _
theorem runW_len (d : DS) (ws : List (Int × ByteArray)) (k : Nat) (hk : k ≤ ws.length) : (runW d ws k).sec.length = d.sec.length ∧ (runW d ws k).raw.length ≤ d.raw.length + k := by
  induction k with
  | zero => exact ⟨rfl, Nat.le_refl _⟩
  | succ k ih =>
    rw [runW_succ _ _ _ (by omega)]
    have h1 := ih (by omega)
    have h2 := write_len (runW d ws k) (wAt ws k).1 (wAt ws k).2
    omega

theorem load_split (ss : List ByteArray) : okSecs ss ∨ (ss.length < 1 ∨ 1026 < ss.length) ∨ 1 ≤ ss.length ∧ ss.length ≤ 1026 ∧ ∃ i, i < ss.length ∧ (sAt ss i).size ≠ 128 := by
  by_cases h : ss.length < 1 ∨ 1026 < ss.length
  · exact .inr (.inl h)
  by_cases h2 : ∃ i, i < ss.length ∧ (sAt ss i).size ≠ 128
  · exact .inr (.inr ⟨by omega, by omega, h2⟩)
  · refine .inl ⟨by omega, by omega, fun i hi => ?_⟩
    by_cases h3 : (sAt ss i).size = 128
    · exact h3
    · exact absurd ⟨i, hi, h3⟩ h2



end Go.Proofs.Ythghnlgojmedgaa
