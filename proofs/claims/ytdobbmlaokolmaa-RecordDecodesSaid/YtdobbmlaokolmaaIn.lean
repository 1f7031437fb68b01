/-
  The standard facts that a law's walk is told of its arguments.
-/
import Derived.Test.YtdobbmlaokolmaaOpen
namespace Go.Proofs.Ytdobbmlaokolmaa
open Go.RowKit Go.ChangeShapes Go.WideShapes Go.ChangeAt
set_option linter.unusedVariables false

/-- An integer cell; a text's cell; a bool's cell. -/
def I64 (v : Value) : Prop := ∃ n : Int, v = .int .i64 n ∧ -9223372036854775808 ≤ n ∧ n ≤ 9223372036854775807
def U64 (v : Value) : Prop := ∃ n : Int, v = .int .u64 n ∧ 0 ≤ n ∧ n ≤ 18446744073709551615
def Str (v : Value) : Prop := ∃ s : ByteArray, v = .string s ∧ s.size ≤ 140737488351232
def strOf : Value → ByteArray | .string s => s | _ => ByteArray.empty

/-- A slice of flat elements that came in. -/
structure SlIn (w : World) (sz bytes : Nat) (a : Option Addr) (len cap : Nat) (V : Nat → Value) : Prop where
  le : len ≤ cap
  mx : cap ≤ 9223372036854775807
  rch : cap * bytes ≤ 140737488351232
  sm : 0 < len → ∃ b off, a = some ⟨b, off, none⟩
  cell : ∀ b off, a = some ⟨b, off, none⟩ → ∀ j, j < len * sz → w.cell? ⟨b, off + j, none⟩ = some (V j)

theorem SlIn.fr {w w' : World} {sz bytes : Nat} {a : Option Addr} {len cap : Nat} {V : Nat → Value} (h : SlIn w sz bytes a len cap V) (hF : Fr [] w w') : SlIn w' sz bytes a len cap V :=
  ⟨h.le, h.mx, h.rch, h.sm, fun b off e j hj => hF.cell0 (h.cell b off e j hj)⟩

section
variable {H : Type} {enc : TypeId × Value → H} {P : Program} {w : World} {R base : Nat} {spare : Nat → Bool} {held : Bool}

theorem i64_ok {v : Value} (h : (Leaf.int .i64).ok enc P w R base spare held v) : I64 v := by
  obtain ⟨n, hv, hw⟩ := h
  have : -9223372036854775808 ≤ n ∧ n ≤ 9223372036854775807 := by simpa [Lit.wf, IntKind.min, IntKind.max, IntKind.signed, IntKind.bits] using hw
  exact ⟨n, hv, this.1, this.2⟩
theorem u64_ok {v : Value} (h : (Leaf.int .u64).ok enc P w R base spare held v) : U64 v := by
  obtain ⟨n, hv, hw⟩ := h
  have : 0 ≤ n ∧ n ≤ 18446744073709551615 := by simpa [Lit.wf, IntKind.min, IntKind.max, IntKind.signed, IntKind.bits] using hw
  exact ⟨n, hv, this.1, this.2⟩
theorem str_ok {v : Value} (h : Leaf.str.ok enc P w reachBytes base spare held v) : Str v := by
  obtain ⟨s, hv, _, hs⟩ := h
  exact ⟨s, hv, hs⟩

theorem i64_wf {n : Int} (h : (Lit.int .i64 n).wf = true) : -9223372036854775808 ≤ n ∧ n ≤ 9223372036854775807 := by
  simpa [Lit.wf, IntKind.min, IntKind.max, IntKind.signed, IntKind.bits] using h

theorem in_flat {t e : TypeId} {ls : List Leaf} {m : Nat} {v : Value} (ht : P.underlying t = some (.slice e)) (hf : flat P m e = some ls) (hls : 0 < ls.length) (hsp : ∀ b, spare b = true)
    (h : (Leaf.other t).ok enc P w reachBytes base spare held v) :
    ∃ a len cap V, v = .slice a len cap ∧ SlIn w ls.length (P.bytesOf e) a len cap V ∧ ∀ i, i < len → ∀ (q : Nat) (L : Leaf), ls[q]? = some L → L.ok enc P w reachBytes base spare held (V (i * ls.length + q)) := by
  obtain ⟨n, x, hx, hw⟩ := h
  obtain ⟨a, len, cap, rfl, h1, h2, h3, h4, V, h5, h6⟩ := open_flat ht hf hsp hls hx hw
  exact ⟨a, len, cap, V, rfl, ⟨h1, h2, h3, h4, h5⟩, h6⟩

theorem arr2 {α : Type} {c : Array α} (h : c.size = 2) : ∃ a b, c = #[a, b] := by
  obtain ⟨l⟩ := c
  match l, h with
  | [a, b], _ => exact ⟨a, b, rfl⟩
theorem arr3 {α : Type} {c : Array α} (h : c.size = 3) : ∃ x0 x1 x2, c = #[x0, x1, x2] := by
  obtain ⟨l⟩ := c
  match l, h with
  | [a, b, d], _ => exact ⟨a, b, d, rfl⟩
theorem arr4 {α : Type} {c : Array α} (h : c.size = 4) : ∃ x0 x1 x2 x3, c = #[x0, x1, x2, x3] := by
  obtain ⟨l⟩ := c
  match l, h with
  | [a, b, d, e], _ => exact ⟨a, b, d, e, rfl⟩
theorem arr5 {α : Type} {c : Array α} (h : c.size = 5) : ∃ x0 x1 x2 x3 x4, c = #[x0, x1, x2, x3, x4] := by
  obtain ⟨l⟩ := c
  match l, h with
  | [a, b, d, e, f], _ => exact ⟨a, b, d, e, f, rfl⟩

theorem okWide_agg {r : Reach} {b0 : Nat} {t : TypeId} {fs : Array Field} {v : Value} (ht : P.underlying t = some (.struct fs)) (h : Value.okWide P w r b0 t v) : ∃ cs, v = .agg cs ∧ cs.size = P.cellsOf t := by
  simp only [Value.okWide, ht] at h
  obtain ⟨cs, h1, h2, _⟩ := h
  exact ⟨cs, h1, h2⟩
end
end Go.Proofs.Ytdobbmlaokolmaa
