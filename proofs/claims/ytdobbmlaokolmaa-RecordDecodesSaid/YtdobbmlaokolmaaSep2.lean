/-
  More on things in memory: a row that is appended to, a row's cells. Of no program.
-/
import Derived.Test.YtdobbmlaokolmaaSep
namespace Go.Proofs.Ytdobbmlaokolmaa
open Go.RowKit
set_option linter.unusedVariables false
set_option linter.unusedSimpArgs false

section
variable {W : Base} {w : World} {R : List Thing}

theorem St.append (H : St W w R) (i : Nat) {e : TypeId} {size n : Nat} {v : Value} {xs : List Value} (hi : R[i]? = some (RowT e size v n xs)) :
    w.ownsRow 0 e size v n xs ∧ ∀ (v' : Value) (w' : World) (n' : Nat) (xs' : List Value), w'.ownsRow 0 e size v' n' xs' → Fr v.ownBlock.toList w w' → (∀ x, x ∈ v'.ownBlock.toList → x ∈ v.ownBlock.toList ∨ w.heap.size ≤ x) → St W w' (R.set i (RowT e size v' n' xs')) := by
  obtain ⟨F, ⟨rfl, h1⟩, h2, h3⟩ := H.at i hi
  exact ⟨h1, fun v' w' n' xs' ho hF hb => h3 w' _ _ inferInstance ⟨rfl, ho⟩ hF hb⟩

theorem ownsRow_shape {B e size : Nat} {v : Value} {n : Nat} {xs : List Value} (h : w.ownsRow B e size v n xs) (hn : 0 < n) : ∃ g cap, v = .slice (some ⟨g, 0, none⟩) n cap ∧ n ≤ cap ∧ cap ≤ maxLen := by
  obtain ⟨_, h2⟩ := h
  rcases h2 with ⟨_, h2⟩ | ⟨g', cap', cur, hv, _, _, hle, hmx, _⟩
  · omega
  · exact ⟨g', cap', hv, hle, hmx⟩

theorem ownsRow_cell {B e size n cap g : Nat} {xs : List Value} (h : w.ownsRow B e size (.slice (some ⟨g, 0, none⟩) n cap) n xs) (j : Nat) {u : Value} (hu : xs[j]? = some u) : w.cell? ⟨g, j, none⟩ = some u ∧ w.frozen? ⟨g, j, none⟩ = false := by
  obtain ⟨hl, h⟩ := h
  have hj : j < n * size := by rw [← hl]; exact (List.getElem?_eq_some_iff.1 hu).1
  rcases h with ⟨h, _⟩ | ⟨g', cap', cur, hv, hb, hh, hle, hmx, hcs, htk⟩
  · simp at h
  · simp only [Value.slice.injEq, Option.some.injEq, Addr.mk.injEq, and_true, true_and] at hv
    obtain ⟨rfl, rfl⟩ := hv
    refine ⟨cell_blk hh ?_, free_blk hh⟩
    rw [← hu, ← htk, List.getElem?_take_of_lt hj, Array.getElem?_toList]

/-- A cell of a row of the list is written. -/
theorem St.setRowCell (H : St W w R) (i : Nat) {e : TypeId} {size n g cap : Nat} {xs : List Value} (hi : R[i]? = some (RowT e size (.slice (some ⟨g, 0, none⟩) n cap) n xs)) (j : Nat) (v : Value) :
    St W (w.setCell ⟨g, j, none⟩ v) (R.set i (RowT e size (.slice (some ⟨g, 0, none⟩) n cap) n (xs.set j v))) := by
  obtain ⟨h1, h2⟩ := H.append i hi
  exact h2 _ _ _ _ (ownsRow_set h1 j v) ((Fr.refl _ _).setCell (.inl (by simp [Value.ownBlock])) _) (fun x hx => .inl hx)
end

end Go.Proofs.Ytdobbmlaokolmaa
