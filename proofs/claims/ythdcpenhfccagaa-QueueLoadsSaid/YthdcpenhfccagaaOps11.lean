/-
  A script of layer 11's laws, as it came in.
-/
import Derived.Test.YthdcpenhfccagaaQ8
import Derived.Test.YthdcpenhfccagaaIn
namespace Go.Proofs.Ythdcpenhfccagaa
open Go.RowKit
set_option linter.unusedVariables false

structure Op11 where
  on : Int
  kind : Int
  job : Int
  badge : Int
  node : Int
  life : Int
  code : Int
  bits : Int
def Op11.wf (o : Op11) : Prop := (-9223372036854775808 ≤ o.on ∧ o.on ≤ 9223372036854775807) ∧ (-9223372036854775808 ≤ o.job ∧ o.job ≤ 9223372036854775807) ∧ (-9223372036854775808 ≤ o.badge ∧ o.badge ≤ 9223372036854775807) ∧ (0 ≤ o.bits ∧ o.bits ≤ 18446744073709551615)

/-- The script's calls stand there. -/
def Ops11 (w : World) (s : Option Addr) (ns cs : Nat) (l : Nat → Op11) : Prop :=
  ns ≤ cs ∧ cs ≤ 9223372036854775807 ∧ cs * 64 ≤ 140737488351232 ∧ (∀ k, k < ns → (l k).wf) ∧ (0 < ns → ∃ b o, s = some ⟨b, o, none⟩) ∧ ∀ b o, s = some ⟨b, o, none⟩ → ∀ k, k < ns → ∀ wx, Fr [] w wx →
    wx.cell? ⟨b, o + k * 8, none⟩ = some (.int .i64 (l k).on) ∧ wx.cell? ⟨b, o + k * 8 + 1, none⟩ = some (.int .i64 (l k).kind) ∧ wx.cell? ⟨b, o + k * 8 + 2, none⟩ = some (.int .i64 (l k).job) ∧ wx.cell? ⟨b, o + k * 8 + 3, none⟩ = some (.int .i64 (l k).badge) ∧
    wx.cell? ⟨b, o + k * 8 + 4, none⟩ = some (.int .i64 (l k).node) ∧ wx.cell? ⟨b, o + k * 8 + 5, none⟩ = some (.int .i64 (l k).life) ∧ wx.cell? ⟨b, o + k * 8 + 6, none⟩ = some (.int .i64 (l k).code) ∧ wx.cell? ⟨b, o + k * 8 + 7, none⟩ = some (.int .u64 (l k).bits)

theorem ops11_of {w : World} {s : Option Addr} {ns cs : Nat} {U : Nat → Value} (hT : SlIn w 8 64 s ns cs U) (hq0 : ∀ i, i < ns → I64 (U (i * 8))) (hq1 : ∀ i, i < ns → I64 (U (i * 8 + 1))) (hq2 : ∀ i, i < ns → I64 (U (i * 8 + 2))) (hq3 : ∀ i, i < ns → I64 (U (i * 8 + 3)))
    (hq4 : ∀ i, i < ns → I64 (U (i * 8 + 4))) (hq5 : ∀ i, i < ns → I64 (U (i * 8 + 5))) (hq6 : ∀ i, i < ns → I64 (U (i * 8 + 6))) (hq7 : ∀ i, i < ns → U64 (U (i * 8 + 7))) : ∃ l, Ops11 w s ns cs l := by
  have ci : ∀ v, I64 v → v = .int .i64 (intOf v) ∧ -9223372036854775808 ≤ intOf v ∧ intOf v ≤ 9223372036854775807 := fun v ⟨n, h, h1, h2⟩ => by subst h; exact ⟨rfl, h1, h2⟩
  have cu : ∀ v, U64 v → v = .int .u64 (intOf v) ∧ 0 ≤ intOf v ∧ intOf v ≤ 18446744073709551615 := fun v ⟨n, h, h1, h2⟩ => by subst h; exact ⟨rfl, h1, h2⟩
  refine ⟨fun k => ⟨intOf (U (k * 8)), intOf (U (k * 8 + 1)), intOf (U (k * 8 + 2)), intOf (U (k * 8 + 3)), intOf (U (k * 8 + 4)), intOf (U (k * 8 + 5)), intOf (U (k * 8 + 6)), intOf (U (k * 8 + 7))⟩, hT.le, hT.mx, hT.rch,
    fun k hk => ⟨(ci _ (hq0 k hk)).2, (ci _ (hq2 k hk)).2, (ci _ (hq3 k hk)).2, (cu _ (hq7 k hk)).2⟩, hT.sm, fun b o e k hk wx hF => ?_⟩
  have hc : ∀ q, q < 8 → wx.cell? ⟨b, o + k * 8 + q, none⟩ = some (U (k * 8 + q)) := fun q hq => by
    rw [Nat.add_assoc]; exact hF.cell0 (hT.cell b o e (k * 8 + q) (by omega))
  exact ⟨by rw [← (ci _ (hq0 k hk)).1]; exact hc 0 (by omega), by rw [← (ci _ (hq1 k hk)).1]; exact hc 1 (by omega), by rw [← (ci _ (hq2 k hk)).1]; exact hc 2 (by omega), by rw [← (ci _ (hq3 k hk)).1]; exact hc 3 (by omega), by rw [← (ci _ (hq4 k hk)).1]; exact hc 4 (by omega),
    by rw [← (ci _ (hq5 k hk)).1]; exact hc 5 (by omega), by rw [← (ci _ (hq6 k hk)).1]; exact hc 6 (by omega), by rw [← (cu _ (hq7 k hk)).1]; exact hc 7 (by omega)⟩

def Op11.run (o : Op11) (q : QS) : Bool × QS := q.does o.kind o.job o.badge o.node o.life o.code o.bits

end Go.Proofs.Ythdcpenhfccagaa
