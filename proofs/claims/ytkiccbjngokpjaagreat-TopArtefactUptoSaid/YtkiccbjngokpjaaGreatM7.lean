/-
  Merged, in build order: Str.
-/
import Derived.Lib.VarintBits
import Derived.Lib.VarintMem
import Derived.Lib.AppendStr
import Derived.Lib.UnsafeStr
import Derived.Lib.Builder
import Derived.Laws.BytesString
import Derived.IntWalk
import Derived.Test.YtkiccbjngokpjaaGreatM5
import Derived.Test.YtkiccbjngokpjaaGreatM6
/-
  Texts and their bytes: a text out of bytes in memory. Of no program.
-/
namespace Go.Proofs.YtkiccbjngokpjaaGreat
open Go.RowKit
set_option linter.unusedVariables false
set_option linter.unusedSimpArgs false

theorem ret_str {a b : ByteArray} (h : a = b) : Ending.returned (.string a) = .returned (.string b) := by rw [h]
theorem ret_int' {k : IntKind} {a b : Int} (h : a = b) : Ending.returned (.int k a) = .returned (.int k b) := by rw [h]

theorem foldl_push' (l : List UInt8) (r : ByteArray) : l.foldl (fun r n => r.push n) r = ⟨(r.data.toList ++ l).toArray⟩ := by
  induction l generalizing r with
  | nil => simp
  | cons x l ih => rw [List.foldl_cons, ih]; simp [ByteArray.push]

/-- A text out of its bytes, wherever they lie. -/
theorem run_text' {P : Program} (w : World) (src dst e : TypeId) (g off cap : Nat) (l : List UInt8) (hsrc : P.underlying src = some (.slice e)) (he : P.underlying e = some (.int .u8)) (hdst : P.underlying dst = some .string)
    (h : ∀ j v, (Lib.byteCells l)[j]? = some v → w.cell? ⟨g, off + j, none⟩ = some v) :
    (convert src dst (.slice (some ⟨g, off, none⟩) l.length cap)).run P w = .ok (.string ⟨l.toArray⟩) w := by
  rw [run_convert_bytes_string w src dst e _ _ _ hsrc he hdst]
  have hld := run_loadCells_list (P := P) w ⟨g, off, none⟩ ((l.map fun b => ((b.toNat : Nat) : Int)).map (Value.int .u8)) (by
    intro j v hv
    have e1 : (⟨g, off, none⟩ : Addr).add j = ⟨g, off + j, none⟩ := by unfold Addr.add; by_cases hj : j = 0 <;> simp [hj]
    rw [e1]
    exact h j v (by simpa [Lib.byteCells] using hv))
  have := run_bytesToString (P := P) w ⟨g, off, none⟩ l.length cap (l.map fun b => ((b.toNat : Nat) : Int)) (by rw [← hld]; simp)
  rw [this]
  congr 2
  rw [List.foldl_map]
  have : (fun (r : ByteArray) (b : UInt8) => r.push (UInt8.ofNat ((b.toNat : Int)).toNat)) = fun r b => r.push b := by funext r b; simp
  rw [this, foldl_push']
  simp

theorem wpList_text' {P : Program} {w : World} {ops : Array Oper} {rest : List Oper} {o : Oper} {a : Act} {Q : Exit → Act → World → Prop} (hgd : o.guard = none) (src dst : TypeId) (x : Operand) (ho : o.op = .convert src dst x)
    (e : TypeId) (hsrc : P.underlying src = some (.slice e)) (he : P.underlying e = some (.int .u8)) (hdst : P.underlying dst = some .string)
    (g off n cap : Nat) (l : List UInt8) (hn : l.length = n) (hx : a.eval x = .slice (some ⟨g, off, none⟩) n cap) (hc : ∀ j v, (Lib.byteCells l)[j]? = some v → w.cell? ⟨g, off + j, none⟩ = some v)
    (h : wpList P ops Q rest (a.put o.dst (.string ⟨l.toArray⟩)) w) : wpList P ops Q (o :: rest) a w := by
  refine wpList_plain hgd fun K hK => ?_
  subst hn
  have hrun := run_text' (P := P) w src dst e g off cap l hsrc he hdst hc
  unfold Oper.wp
  simp [execOp, ho, hx, hrun, Result.andThen]
  exact hK _ _ h

theorem ownsRow_cells {w : World} {B e n cap g : Nat} {xs : List Value} (h : w.ownsRow B e 1 (.slice (some ⟨g, 0, none⟩) n cap) n xs) : ∀ j v, xs[j]? = some v → w.cell? ⟨g, 0 + j, none⟩ = some v := by
  intro j v hv
  rw [Nat.zero_add]
  exact (ownsRow_cell h j hv).1

end Go.Proofs.YtkiccbjngokpjaaGreat
