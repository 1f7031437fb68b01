/-
  Merged, in build order: Open In.
-/
import Derived.ProofKit
import Derived.OpenShut
import Derived.ShutString
import Derived.ChangeOld
import Derived.SizedLaws
import Derived.Deep.Slices
import Derived.Test.YtkiccbjngokpjaaGreatM1
/-
  Arguments opened by their type's leaves: a struct of whatever depth (by value, or as a slice's element) is a row of cells, each an integer, a bool, a string, or the head of a slice. They speak of no program.
-/
namespace Go.Proofs.YtkiccbjngokpjaaGreat
open Go.RowKit Go.ChangeShapes Go.WideShapes Go.ChangeAt
set_option linter.unusedVariables false

/-- What a cell of a flat type holds. -/
inductive Leaf where
  | int (k : IntKind)
  | bool
  | str
  | other (t : TypeId)

def flatFs (g : TypeId → Option (List Leaf)) : List Field → Nat → Option (List Leaf)
  | [], _ => some []
  | f :: r, off => if f.offset = off then (g f.type).bind fun a => (flatFs g r (off + a.length)).bind fun b => some (a ++ b) else none

/-- The leaves of a type; the fuel bounds the structs' depth. -/
def flat (P : Program) : Nat → TypeId → Option (List Leaf)
  | 0, _ => none
  | n + 1, t => match P.underlying t with
    | some .bool => if P.cellsOf t = 1 then some [.bool] else none
    | some (.int k) => if P.cellsOf t = 1 then some [.int k] else none
    | some .string => if P.cellsOf t = 1 then some [.str] else none
    | some (.slice _) => if P.cellsOf t = 1 then some [.other t] else none
    | some (.struct fs) => (flatFs (flat P n) fs.toList 0).bind fun ls => if P.cellsOf t = ls.length then some ls else none
    | _ => none

def Leaf.ok (L : Leaf) {H : Type} (enc : TypeId × Value → H) (P : Program) (w : World) (R : Nat) (base : Nat) (spare : Nat → Bool) (held : Bool) (v : Value) : Prop :=
  match L with
  | .int k => ∃ n, v = .int k n ∧ (Lit.int k n).wf = true
  | .bool => ∃ b, v = .bool b
  | .str => ∃ s : ByteArray, v = .string s ∧ s.size ≤ maxLen ∧ s.size ≤ R
  | .other t => ∃ n x, DataW.trod enc P w base spare held n t [v] = some x ∧ ∀ k ∈ x.1.weights P t, k ≤ R

section
variable {H : Type} {enc : TypeId × Value → H} {P : Program} {w : World} {R base : Nat} {spare : Nat → Bool} {held : Bool}

theorem flat_len : ∀ {n : Nat} {t : TypeId} {ls : List Leaf}, flat P n t = some ls → ls.length = P.cellsOf t := by
  intro n t ls h
  cases n with
  | zero => simp [flat] at h
  | succ n =>
    unfold flat at h
    split at h
    · split at h <;> simp_all; subst h; simp
    · split at h <;> simp_all; subst h; simp
    · split at h <;> simp_all; subst h; simp
    · split at h <;> simp_all; subst h; simp
    · obtain ⟨l, h1, h2⟩ := Option.bind_eq_some_iff.1 h
      split at h2 <;> simp_all
    · simp at h

theorem weightsEach_mem {ts : List TypeId} {ds : List (DataW H)} {j : Nat} {t : TypeId} {d : DataW H} (ht : ts[j]? = some t) (hd : ds[j]? = some d) : ∀ n ∈ d.weights P t, n ∈ DataW.weightsEach P ts ds := DataW.weights_mem_each ht hd

theorem flatFs_ok {g : TypeId → Option (List Leaf)} {cs : List Value}
    (hg : ∀ t ls, g t = some ls → ls.length = P.cellsOf t) :
    ∀ (l : List Field) (off : Nat) (ls : List Leaf), flatFs g l off = some ls → off + ls.length ≤ cs.length →
      (∀ f ∈ l, ∀ a, g f.type = some a → ∀ (q : Nat) (L : Leaf), a[q]? = some L → ∃ v, ((cs.drop f.offset).take (P.cellsOf f.type))[q]? = some v ∧ L.ok enc P w R base spare held v) →
      ∀ (q : Nat) (L : Leaf), ls[q]? = some L → ∃ v, cs[off + q]? = some v ∧ L.ok enc P w R base spare held v := by
  intro l
  induction l with
  | nil => intro off ls h _ _ q L hq; simp [flatFs] at h; subst h; simp at hq
  | cons f r ih =>
    intro off ls h hlen hf q L hq
    unfold flatFs at h
    split at h
    · rename_i ho
      obtain ⟨a, ha, h2⟩ := Option.bind_eq_some_iff.1 h
      obtain ⟨b, hb, h3⟩ := Option.bind_eq_some_iff.1 h2
      simp only [Option.some.injEq] at h3
      subst h3
      simp only [List.length_append] at hlen
      by_cases hqa : q < a.length
      · rw [List.getElem?_append_left hqa] at hq
        obtain ⟨v, hv, hok⟩ := hf f (by simp) a ha q L hq
        refine ⟨v, ?_, hok⟩
        rw [List.getElem?_take] at hv
        split at hv
        · rw [List.getElem?_drop, ho] at hv; exact hv
        · simp at hv
      · rw [List.getElem?_append_right (by omega)] at hq
        obtain ⟨v, hv, hok⟩ := ih (off + a.length) b hb (by omega) (fun f' hf' => hf f' (by simp [hf'])) (q - a.length) L hq
        exact ⟨v, by rw [show off + q = off + a.length + (q - a.length) by omega]; exact hv, hok⟩
    · simp at h

/-- A FLAT TYPE's CELLS, leaf by leaf. -/
theorem flat_ok : ∀ {m : Nat} {t : TypeId} {ls : List Leaf} {n : Nat} {cs : List Value} {x : DataW H × List MemPlace}, flat P m t = some ls → DataW.trod enc P w base spare held n t cs = some x →
    (∀ k ∈ x.1.weights P t, k ≤ R) → ∀ (q : Nat) (L : Leaf), ls[q]? = some L → ∃ v, cs[q]? = some v ∧ L.ok enc P w R base spare held v := by
  intro m
  induction m with
  | zero => intro t ls n cs x h; simp [flat] at h
  | succ m ih =>
    intro t ls n cs x h htr hw q L hq
    have hlen := flat_len h
    unfold flat at h
    split at h
    · rename_i hu
      split at h
      · simp only [Option.some.injEq] at h; subst h
        obtain ⟨b, rfl, rfl⟩ := DataW.trod_bool hu htr
        match q, hq with
        | 0, hq => simp at hq; subst hq; exact ⟨_, rfl, b, rfl⟩
      · simp at h
    · rename_i k hu
      split at h
      · simp only [Option.some.injEq] at h; subst h
        obtain ⟨b, rfl, rfl, hwf⟩ := DataW.trod_int hu htr
        match q, hq with
        | 0, hq => simp at hq; subst hq; exact ⟨_, rfl, b, rfl, hwf⟩
      · simp at h
    · rename_i hu
      split at h
      · simp only [Option.some.injEq] at h; subst h
        obtain ⟨s, rfl, rfl, hs⟩ := DataW.trod_string hu htr
        match q, hq with
        | 0, hq => simp at hq; subst hq; exact ⟨_, rfl, s, rfl, hs, by have := hw s.size (by simp [DataW.weights]); exact this⟩
      · simp at h
    · rename_i e hu
      split at h
      · rename_i hc
        simp only [Option.some.injEq] at h; subst h
        match q, hq with
        | 0, hq =>
          simp at hq; subst hq
          have : ∃ v, cs = [v] := by
            rcases Go.Deep.open_slice hu htr with ⟨rfl, _⟩ | ⟨a, len, cap, _, _, _, _, rfl, _⟩
            · exact ⟨_, rfl⟩
            · exact ⟨_, rfl⟩
          obtain ⟨v, rfl⟩ := this
          exact ⟨v, rfl, n, x, htr, hw⟩
      · simp at h
    · rename_i fs hu
      obtain ⟨l, h1, h2⟩ := Option.bind_eq_some_iff.1 h
      split at h2
      · rename_i hsz
        simp only [Option.some.injEq] at h2; subst h2
        obtain ⟨xs, k, rfl, rfl, hl, hxl, hfx⟩ := DataW.trod_struct hu htr
        have := flatFs_ok (enc := enc) (w := w) (R := R) (base := base) (spare := spare) (held := held) (cs := cs) (P := P) (g := flat P m) (fun t ls => flat_len) fs.toList 0 l h1 (by omega) ?_ q L hq
        · simpa using this
        · intro f hf a ha q' L' hq'
          obtain ⟨i, hi, rfl⟩ := List.getElem_of_mem hf
          have hi' : i < fs.size := by simpa using hi
          have hfi : fs[i]? = some fs.toList[i] := by simp [hi']
          have h4 := hfx i _ hfi
          have hix : i < xs.length := by omega
          rw [List.getElem?_eq_getElem hix] at h4
          refine ih ha h4 ?_ q' L' hq'
          intro k' hk'
          refine hw k' ?_
          simp only [DataW.weights, hu]
          exact weightsEach_mem (j := i) (t := fs.toList[i].type) (d := xs[i].1) (by simp [hi']) (by simp [hix]) k' hk'
      · simp at h2
    · simp at h

/-- A slice of flat elements, opened: the value's shape; the capacity within the reach; cell by cell. -/
theorem open_flat {t e : TypeId} {ls : List Leaf} {m n : Nat} {v : Value} {x : DataW H × List MemPlace} (ht : P.underlying t = some (.slice e)) (hf : flat P m e = some ls) (hsp : ∀ b, spare b = true) (hls : 0 < ls.length)
    (h : DataW.trod enc P w base spare held n t [v] = some x) (hw : ∀ k ∈ x.1.weights P t, k ≤ R) :
    ∃ a len cap, v = .slice a len cap ∧ len ≤ cap ∧ cap ≤ maxLen ∧ cap * P.bytesOf e ≤ R ∧
      (0 < len → ∃ b off, a = some ⟨b, off, none⟩) ∧
      ∃ V : Nat → Value, (∀ b off, a = some ⟨b, off, none⟩ → ∀ j, j < len * ls.length → w.cell? ⟨b, off + j, none⟩ = some (V j)) ∧
        ∀ i, i < len → ∀ (q : Nat) (L : Leaf), ls[q]? = some L → L.ok enc P w R base spare held (V (i * ls.length + q)) := by
  have hlen := flat_len hf
  rcases Go.Deep.open_slice ht h with ⟨h0, _⟩ | ⟨a, len, cap, m', n', D, Pl, h0, hb, hl, hm, hmm, rfl, hx⟩
  · simp only [List.cons.injEq, and_true] at h0; subst h0
    exact ⟨none, 0, 0, rfl, Nat.le_refl _, by simp, by simp, fun h => absurd h (Nat.lt_irrefl _), fun _ => .bool false, fun _ _ h => by simp at h, fun i hi => absurd hi (Nat.not_lt_zero _)⟩
  · simp only [List.cons.injEq, and_true] at h0; subst h0
    simp only [hsp, if_true] at hmm
    have hmm' := hmm.symm
    subst hmm'
    have hcap : cap * P.bytesOf e ≤ R := by
      have := hw ((len + (cap - len)) * P.bytesOf e) (by simp [DataW.weights, ht])
      rwa [show len + (cap - len) = cap by omega] at this
    rw [← hlen] at hx
    have each : ∀ j, j < len * ls.length → ∃ u, w.cell? (a.add j) = some u ∧ ∀ (L : Leaf), ls[j % ls.length]? = some L → L.ok enc P w R base spare held u := by
      intro j hj
      have hpos : 0 < ls.length := by
        rcases Nat.eq_zero_or_pos ls.length with h0 | h0
        · simp [h0] at hj
        · exact h0
      have hi : j / ls.length < len := (Nat.div_lt_iff_lt_mul hpos).2 hj
      obtain ⟨cs', h1, h2⟩ := hx (j / ls.length) (by omega)
      obtain ⟨_, hlen', hcell⟩ := World.cells?_some h1
      have hwt : ∀ k ∈ (D (j / ls.length)).weights P e, k ≤ R := by
        intro k hk
        refine hw k ?_
        simp only [DataW.weights, ht]
        refine List.mem_cons_of_mem _ (List.mem_append_left _ ?_)
        have gen : ∀ (l : List (DataW H)) (d : DataW H), d ∈ l → ∀ k ∈ d.weights P e, k ∈ DataW.weightsAll P e l := by
          intro l
          induction l with
          | nil => intro d hd; cases hd
          | cons y r ih =>
            intro d hd k hk
            simp only [DataW.weightsAll, List.mem_append]
            rcases List.mem_cons.1 hd with rfl | hd
            · exact .inl hk
            · exact .inr (ih d hd k hk)
        exact gen _ (D (j / ls.length)) (List.mem_map.2 ⟨_, List.mem_range.2 hi, rfl⟩) k hk
      have hq : j % ls.length < ls.length := Nat.mod_lt _ hpos
      obtain ⟨v, hv, hok⟩ := flat_ok (R := R) hf h2 hwt (j % ls.length) _ (List.getElem?_eq_getElem hq)
      have h3 := hcell (j % ls.length) hq
      rw [Go.Deep.add_add, hv] at h3
      have e1 : j / ls.length * ls.length + j % ls.length = j := by rw [Nat.mul_comm]; exact Nat.div_add_mod j ls.length
      rw [e1] at h3
      refine ⟨v, h3, fun L hL => ?_⟩
      rw [List.getElem?_eq_getElem hq] at hL
      simp only [Option.some.injEq] at hL
      subst hL
      exact hok
    obtain ⟨V, hV⟩ := Go.Deep.choose_lt (α := Value) each
    have hadd : ∀ b off j, (⟨b, off, none⟩ : Addr).add j = ⟨b, off + j, none⟩ := by intro b off j; unfold Addr.add; by_cases hj : j = 0 <;> simp [hj]
    refine ⟨some a, len, cap, rfl, hl, hm, hcap, ?_, V, ?_, ?_⟩
    · intro hpos
      have := (hV 0 (Nat.mul_pos hpos hls)).1
      have hs := World.cell?_spot this
      obtain ⟨bb, oo, ss⟩ := a
      simp [Addr.add] at hs
      subst hs
      exact ⟨_, _, rfl⟩
    · intro b off hab j hj
      simp only [Option.some.injEq] at hab
      subst hab
      have := (hV j hj).1
      rwa [hadd] at this
    · intro i hi q L hL
      have hq : q < ls.length := by
        rcases Nat.lt_or_ge q ls.length with h1 | h1
        · exact h1
        · simp [List.getElem?_eq_none h1] at hL
      have hj : i * ls.length + q < len * ls.length := by
        have : (i + 1) * ls.length ≤ len * ls.length := Nat.mul_le_mul_right _ hi
        rw [Nat.succ_mul] at this; omega
      refine (hV _ hj).2 L ?_
      rw [Nat.add_comm, Nat.add_mul_mod_self_right, Nat.mod_eq_of_lt hq]; exact hL

end
end Go.Proofs.YtkiccbjngokpjaaGreat

/-
  The standard facts that a law's walk is told of its arguments.
-/
namespace Go.Proofs.YtkiccbjngokpjaaGreat
open Go.RowKit Go.ChangeShapes Go.WideShapes Go.ChangeAt
set_option linter.unusedVariables false

/-- An integer cell; a text's cell; a bool's cell. -/
def I64 (v : Value) : Prop := ∃ n : Int, v = .int .i64 n ∧ -9223372036854775808 ≤ n ∧ n ≤ 9223372036854775807
def U64 (v : Value) : Prop := ∃ n : Int, v = .int .u64 n ∧ 0 ≤ n ∧ n ≤ 18446744073709551615
def Str (v : Value) : Prop := ∃ s : ByteArray, v = .string s ∧ s.size ≤ 140737488351232
def strOf : Value → ByteArray | .string s => s | _ => ByteArray.empty

/-- A slice of flat elements that came in. -/
structure SlIn (w : World) (sz bytes : Nat) (a : Option Addr) (len cap : Nat) (V : Nat → Value) : Prop where
  le : len ≤ cap
  mx : cap ≤ 9223372036854775807
  rch : cap * bytes ≤ 140737488351232
  sm : 0 < len → ∃ b off, a = some ⟨b, off, none⟩
  cell : ∀ b off, a = some ⟨b, off, none⟩ → ∀ j, j < len * sz → w.cell? ⟨b, off + j, none⟩ = some (V j)

theorem SlIn.fr {w w' : World} {sz bytes : Nat} {a : Option Addr} {len cap : Nat} {V : Nat → Value} (h : SlIn w sz bytes a len cap V) (hF : Fr [] w w') : SlIn w' sz bytes a len cap V :=
  ⟨h.le, h.mx, h.rch, h.sm, fun b off e j hj => hF.cell0 (h.cell b off e j hj)⟩

section
variable {H : Type} {enc : TypeId × Value → H} {P : Program} {w : World} {R base : Nat} {spare : Nat → Bool} {held : Bool}

theorem i64_ok {v : Value} (h : (Leaf.int .i64).ok enc P w R base spare held v) : I64 v := by
  obtain ⟨n, hv, hw⟩ := h
  have : -9223372036854775808 ≤ n ∧ n ≤ 9223372036854775807 := by simpa [Lit.wf, IntKind.min, IntKind.max, IntKind.signed, IntKind.bits] using hw
  exact ⟨n, hv, this.1, this.2⟩
theorem u64_ok {v : Value} (h : (Leaf.int .u64).ok enc P w R base spare held v) : U64 v := by
  obtain ⟨n, hv, hw⟩ := h
  have : 0 ≤ n ∧ n ≤ 18446744073709551615 := by simpa [Lit.wf, IntKind.min, IntKind.max, IntKind.signed, IntKind.bits] using hw
  exact ⟨n, hv, this.1, this.2⟩
theorem str_ok {v : Value} (h : Leaf.str.ok enc P w reachBytes base spare held v) : Str v := by
  obtain ⟨s, hv, _, hs⟩ := h
  exact ⟨s, hv, hs⟩

theorem i64_wf {n : Int} (h : (Lit.int .i64 n).wf = true) : -9223372036854775808 ≤ n ∧ n ≤ 9223372036854775807 := by
  simpa [Lit.wf, IntKind.min, IntKind.max, IntKind.signed, IntKind.bits] using h

theorem in_flat {t e : TypeId} {ls : List Leaf} {m : Nat} {v : Value} (ht : P.underlying t = some (.slice e)) (hf : flat P m e = some ls) (hls : 0 < ls.length) (hsp : ∀ b, spare b = true)
    (h : (Leaf.other t).ok enc P w reachBytes base spare held v) :
    ∃ a len cap V, v = .slice a len cap ∧ SlIn w ls.length (P.bytesOf e) a len cap V ∧ ∀ i, i < len → ∀ (q : Nat) (L : Leaf), ls[q]? = some L → L.ok enc P w reachBytes base spare held (V (i * ls.length + q)) := by
  obtain ⟨n, x, hx, hw⟩ := h
  obtain ⟨a, len, cap, rfl, h1, h2, h3, h4, V, h5, h6⟩ := open_flat ht hf hsp hls hx hw
  exact ⟨a, len, cap, V, rfl, ⟨h1, h2, h3, h4, h5⟩, h6⟩

theorem arr2 {α : Type} {c : Array α} (h : c.size = 2) : ∃ a b, c = #[a, b] := by
  obtain ⟨l⟩ := c
  match l, h with
  | [a, b], _ => exact ⟨a, b, rfl⟩
theorem arr3 {α : Type} {c : Array α} (h : c.size = 3) : ∃ x0 x1 x2, c = #[x0, x1, x2] := by
  obtain ⟨l⟩ := c
  match l, h with
  | [a, b, d], _ => exact ⟨a, b, d, rfl⟩
theorem arr4 {α : Type} {c : Array α} (h : c.size = 4) : ∃ x0 x1 x2 x3, c = #[x0, x1, x2, x3] := by
  obtain ⟨l⟩ := c
  match l, h with
  | [a, b, d, e], _ => exact ⟨a, b, d, e, rfl⟩
theorem arr5 {α : Type} {c : Array α} (h : c.size = 5) : ∃ x0 x1 x2 x3 x4, c = #[x0, x1, x2, x3, x4] := by
  obtain ⟨l⟩ := c
  match l, h with
  | [a, b, d, e, f], _ => exact ⟨a, b, d, e, f, rfl⟩

theorem okWide_agg {r : Reach} {b0 : Nat} {t : TypeId} {fs : Array Field} {v : Value} (ht : P.underlying t = some (.struct fs)) (h : Value.okWide P w r b0 t v) : ∃ cs, v = .agg cs ∧ cs.size = P.cellsOf t := by
  simp only [Value.okWide, ht] at h
  obtain ⟨cs, h1, h2, _⟩ := h
  exact ⟨cs, h1, h2⟩
end
end Go.Proofs.YtkiccbjngokpjaaGreat
