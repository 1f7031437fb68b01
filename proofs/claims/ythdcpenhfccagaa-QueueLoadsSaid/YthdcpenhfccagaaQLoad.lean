/-
  Queue: Load. NOT WHOLE YET: a sorry stands in the append (region 12).
-/
import Derived.Test.YthdcpenhfccagaaQLoad0
namespace Go.Proofs.Ythdcpenhfccagaa
open Go.RowKit
set_option linter.unusedVariables false
set_option linter.unusedSimpArgs false

theorem wf_take {n : Int} {l : List QR} (hw : (⟨n, l⟩ : QS).wf) (k : Nat) : (⟨n, l.take k⟩ : QS).wf := by
  have hn : ∀ i, i < (l.take k).length → qL.nth (l.take k) i = qL.nth l i := fun i hi => by
    simp only [List.length_take] at hi
    have h1 := qL.nth_get (l := l.take k) (k := i) (by simp only [List.length_take]; omega)
    have h2 := qL.nth_get (l := l) (k := i) (by omega)
    rw [List.getElem?_take, if_pos (by omega), h2] at h1
    exact (Option.some.inj h1).symm
  have h8 := hw.n
  refine ⟨hw.a1, hw.a2, by show (l.take k).length ≤ 8; simp only [List.length_take]; have : l.length ≤ 8 := h8; omega, fun i hi => ?_, fun i j hij hj h0 => ?_⟩
  · show (qL.nth (l.take k) i).may n (i + 1) = true
    rw [hn i hi]
    exact hw.ok i (by have : i < (l.take k).length := hi; simp only [List.length_take] at this; show i < l.length; omega)
  · have hj' : j < (l.take k).length := hj
    revert h0
    show 0 < (qL.nth (l.take k) j).ba → (qL.nth (l.take k) i).ba ≠ (qL.nth (l.take k) j).ba
    rw [hn i (by omega), hn j hj']
    exact fun h0 => hw.ba i j hij (by simp only [List.length_take] at hj'; show j < l.length; omega) h0

theorem st_of_one {W : Base} {w w' : World} {R : List Thing} (H : St W w R) {Q : Nat} {q : QS} (h : St (.of w) w' [QkT Q q]) : St W w' (R ++ [QkT Q q]) := by
  obtain ⟨F, h1, h2⟩ := h.get 0 rfl
  exact H.new h.fr inferInstance h1 (fun x hx => (h2 x hx).elim (fun h => by cases h) id)

end Go.Proofs.Ythdcpenhfccagaa
