/-
  Merged, in build order: Gen2.
-/
import Derived.Test.YtkiccbjngokpjaaGreatM4
import Derived.Test.YtkiccbjngokpjaaGreatM2
/-
  More that all layers' texts lean on: a slice argument as a list of elements, a row of the call's own that is written into. Of no program.
-/
namespace Go.Proofs.YtkiccbjngokpjaaGreat
open Go.RowKit
set_option linter.unusedVariables false
set_option linter.unusedSimpArgs false

theorem ret_bool {a b : Bool} (h : a = b) : Ending.returned (.bool a) = .returned (.bool b) := by rw [h]

/-- A slice argument, read as a list. -/
theorem in_lay {α : Type} (L : Lay α) {w : World} {bytes : Nat} {a : Option Addr} {len cap : Nat} {V : Nat → Value} (h : SlIn w L.sz bytes a len cap V) (g : Nat → α) (hg : ∀ i, i < len → ∀ q, q < L.sz → V (i * L.sz + q) = (L.f (g i)).getD q undef) :
    In w L.sz a len cap (L.at_ ((List.range len).map g)) := by
  refine ⟨h.le, by unfold maxLen; exact h.mx, h.sm, fun b off e j hj => ?_⟩
  rw [h.cell b off e j hj]
  have hjd := Nat.div_add_mod j L.sz
  have hjm := Nat.mod_lt j L.pos
  have hjs : j / L.sz < len := Nat.div_lt_of_lt_mul (by rw [Nat.mul_comm]; exact hj)
  have h1 := hg (j / L.sz) hjs (j % L.sz) hjm
  rw [Nat.mul_comm, hjd] at h1
  rw [h1]
  unfold Lay.at_ Lay.nth
  simp [List.getD, hjs]

/-- A row of the call's own, whatever it holds. -/
def Wr1 (e : TypeId) (sz : Nat) (a : Option Addr) (n : Nat) : Thing1 := fun w F => F = (a.map (·.block)).toList ∧ ∃ V, WRow w e sz a n V
def WrT (e : TypeId) (sz : Nat) (a : Option Addr) (n : Nat) : Thing := own (Wr1 e sz a n)
instance (e : TypeId) (sz : Nat) (a : Option Addr) (n : Nat) : Loc1 (Wr1 e sz a n) where
  keep := fun ⟨h1, V, h2⟩ hF hd => ⟨h1, V, h2.keep hF (fun g hg => hd g (by subst hg; rw [h1]; simp))⟩
  lt := fun ⟨h1, V, h2⟩ x hx => by
    subst h1
    rcases h2 with ⟨rfl, _⟩ | ⟨g, cur, rfl, hh, _⟩
    · simp at hx
    · simp at hx; subst hx; exact lt_of_block hh

section
variable {W : Base} {w : World} {R : List Thing}

theorem St.wr (H : St W w R) (i : Nat) {e : TypeId} {sz n : Nat} {a : Option Addr} (hi : R[i]? = some (WrT e sz a n)) : ∃ V, WRow w e sz a n V := by
  obtain ⟨F, ⟨_, h1⟩, _⟩ := H.get i hi; exact h1

theorem St.setWr (H : St W w R) (i : Nat) {e : TypeId} {sz n g : Nat} (hi : R[i]? = some (WrT e sz (some ⟨g, 0, none⟩) n)) (j : Nat) (v : Value) : St W (w.setCell ⟨g, j, none⟩ v) R := by
  obtain ⟨F, ⟨rfl, V, h1⟩, h2, h3⟩ := H.at i hi
  have h4 := h3 (w.setCell ⟨g, j, none⟩ v) [g] (Wr1 e sz (some ⟨g, 0, none⟩) n) inferInstance ⟨rfl, _, h1.set j v⟩ ((Fr.refl _ _).setCell (.inl (by simp)) _) (fun x hx => .inl hx)
  rwa [show own (Wr1 e sz (some ⟨g, 0, none⟩) n) = WrT e sz (some ⟨g, 0, none⟩) n from rfl, things_set_self hi] at h4
end

end Go.Proofs.YtkiccbjngokpjaaGreat
