/-
  Merged, in build order: Gen.
-/
import Derived.Deep.Upon
import Derived.Test.YtkiccbjngokpjaaGreatM3
/-
  What all layers' texts lean on: rows that a call owns, slices that are read, lists of elements of several cells. Of no program.
-/
namespace Go.Proofs.YtkiccbjngokpjaaGreat
open Go.RowKit
set_option linter.unusedVariables false
set_option linter.unusedSimpArgs false

theorem Fr.of_grown {w w' : World} {row : Option Nat} (h : w.grownBy w' row) : Fr row.toList w w' :=
  (Fr.refl row.toList w).grown h (fun k hk => .inl (by simp [hk]))
theorem Fr.step0 {S : List Nat} {a b c : World} (h : Fr S a b) (k : Fr [] b c) : Fr S a c := h.step k (fun x hx => by simp at hx)
theorem ne_of_elem {w : World} {a b : Nat} {c c' : Array Value} {t t' : TypeId} {f f' : Nat × Nat} (h : w.heap[a]? = some (.cells c t f)) (h' : w.heap[b]? = some (.cells c' t' f')) (ht : t ≠ t') : a ≠ b := by
  rintro rfl; rw [h] at h'; simp at h'; exact ht h'.2.1
theorem ownsRow_ne {w : World} {B e size n : Nat} {v : Value} {xs : List Value} {b : Nat} {c : Array Value} {t : TypeId} {f : Nat × Nat} (h : w.ownsRow B e size v n xs) (hb : w.heap[b]? = some (.cells c t f)) (ht : e ≠ t) : b ∉ v.ownBlock.toList := by
  intro hx
  obtain ⟨h1, h2⟩ := h
  rcases h2 with ⟨rfl, _⟩ | ⟨g', cap', cur, rfl, hg, hh, r⟩
  · simp [Value.ownBlock] at hx
  · simp [Value.ownBlock] at hx; subst hx; exact ne_of_elem hh hb ht rfl

theorem ownsRow_one {w : World} {B e size n : Nat} {v : Value} {xs : List Value} (h : w.ownsRow B e size v n xs) : v = .slice none 0 0 ∧ n = 0 ∧ xs = [] ∨ ∃ g cap, v = .slice (some ⟨g, 0, none⟩) n cap ∧ n ≤ cap ∧ cap ≤ maxLen := by
  obtain ⟨h1, h2⟩ := h
  rcases h2 with ⟨h2, rfl⟩ | ⟨g', cap', cur, hv, _, _, hle, hmx, _⟩
  · exact .inl ⟨h2, rfl, by simpa using h1⟩
  · exact .inr ⟨g', cap', hv, hle, hmx⟩


/-- A slice value '.slice a n cap' that is read: cell j of its first n elements (of sz cells each) holds 'V j'. -/
structure In (w : World) (sz : Nat) (a : Option Addr) (n cap : Nat) (V : Nat → Value) : Prop where
  le : n ≤ cap
  mx : cap ≤ maxLen
  sm : 0 < n → ∃ b off, a = some ⟨b, off, none⟩
  cell : ∀ b off, a = some ⟨b, off, none⟩ → ∀ j, j < n * sz → w.cell? ⟨b, off + j, none⟩ = some (V j)

theorem In.fr {w w' : World} {sz n cap : Nat} {a : Option Addr} {V : Nat → Value} {S : List Nat} (h : In w sz a n cap V) (hF : Fr S w w') (hS : ∀ b off, a = some ⟨b, off, none⟩ → b ∉ S) : In w' sz a n cap V :=
  ⟨h.le, h.mx, h.sm, fun b off e j hj => hF.cell (h.cell b off e j hj) (hS b off e)⟩

theorem In.fr0 {w w' : World} {sz n cap : Nat} {a : Option Addr} {V : Nat → Value} (h : In w sz a n cap V) (hF : Fr [] w w') : In w' sz a n cap V := h.fr hF (by simp)

theorem In.max {w : World} {sz n cap : Nat} {a : Option Addr} {V : Nat → Value} (h : In w sz a n cap V) : n ≤ 9223372036854775807 := by
  have h1 := h.mx; have h2 := h.le; unfold maxLen at h1; omega

theorem ownsRow_in {w : World} {B e size n g cap : Nat} {xs : List Value} (h : w.ownsRow B e size (.slice (some ⟨g, 0, none⟩) n cap) n xs) (V : Nat → Value) (hV : ∀ j, j < n * size → xs[j]? = some (V j)) : In w size (some ⟨g, 0, none⟩) n cap V := by
  have h0 := h
  obtain ⟨hl, hr⟩ := h0
  rcases hr with ⟨hr, _⟩ | ⟨g', cap', cur, hv, hg, hh, hle, hmx, _, _⟩
  · simp at hr
  simp only [Value.slice.injEq, Option.some.injEq, Addr.mk.injEq, and_true, true_and] at hv
  obtain ⟨rfl, rfl⟩ := hv
  refine ⟨hle, hmx, fun _ => ⟨g, 0, rfl⟩, fun b off e j hj => ?_⟩
  simp only [Option.some.injEq, Addr.mk.injEq, and_true] at e
  obtain ⟨rfl, rfl⟩ := e
  rw [Nat.zero_add, h.cellAt j hj]; exact hV j hj

/-- A row that may be written into. -/
def WRow (w : World) (e : TypeId) (size : Nat) (ao : Option Addr) (n : Nat) (V : Nat → Value) : Prop :=
  ao = none ∧ n = 0 ∨ ∃ g cur, ao = some ⟨g, 0, none⟩ ∧ w.heap[g]? = some (.cells cur e (0, 0)) ∧ n * size ≤ cur.size ∧ ∀ j, j < n * size → cur[j]? = some (V j)

theorem WRow.keep {w w' : World} {e : TypeId} {size n : Nat} {ao : Option Addr} {V : Nat → Value} {S : List Nat} (h : WRow w e size ao n V) (hF : Fr S w w') (hS : ∀ g, ao = some ⟨g, 0, none⟩ → g ∉ S) : WRow w' e size ao n V := by
  rcases h with h | ⟨g, cur, rfl, h1, h2, h3⟩
  · exact .inl h
  · exact .inr ⟨g, cur, rfl, hF.keep h1 (hS g rfl), h2, h3⟩

theorem WRow.sm {w : World} {e : TypeId} {size n : Nat} {ao : Option Addr} {V : Nat → Value} (h : WRow w e size ao n V) (hn : 0 < n) : ∃ g, ao = some ⟨g, 0, none⟩ := by
  rcases h with ⟨_, h⟩ | ⟨g, _, h, _⟩
  · omega
  · exact ⟨g, h⟩

theorem WRow.cell {w : World} {e : TypeId} {size n g : Nat} {V : Nat → Value} (h : WRow w e size (some ⟨g, 0, none⟩) n V) (j : Nat) (hj : j < n * size) : w.cell? ⟨g, 0 + j, none⟩ = some (V j) := by
  rcases h with ⟨h, _⟩ | ⟨g', cur, hg, h1, h2, h3⟩
  · simp at h
  · simp only [Option.some.injEq, Addr.mk.injEq, and_true] at hg
    subst hg
    rw [Nat.zero_add]
    exact cell_blk h1 (h3 j hj)

theorem WRow.free {w : World} {e : TypeId} {size n g : Nat} {V : Nat → Value} (h : WRow w e size (some ⟨g, 0, none⟩) n V) (j : Nat) : w.frozen? ⟨g, 0 + j, none⟩ = false := by
  rcases h with ⟨h, _⟩ | ⟨g', cur, hg, h1, h2, h3⟩
  · simp at h
  · simp only [Option.some.injEq, Addr.mk.injEq, and_true] at hg
    subst hg
    exact free_blk h1

theorem WRow.set {w : World} {e : TypeId} {size n g : Nat} {V : Nat → Value} (h : WRow w e size (some ⟨g, 0, none⟩) n V) (j : Nat) (v : Value) : WRow (w.setCell ⟨g, j, none⟩ v) e size (some ⟨g, 0, none⟩) n (fun i => if i = j then v else V i) := by
  rcases h with ⟨h, _⟩ | ⟨g', cur, hg, h1, h2, h3⟩
  · simp at h
  · simp only [Option.some.injEq, Addr.mk.injEq, and_true] at hg
    subst hg
    refine .inr ⟨g, _, rfl, blk_setCell_at v h1, by simpa using h2, fun i hi => ?_⟩
    rw [Array.getElem?_setIfInBounds]
    by_cases hij : j = i
    · subst hij; simp; omega
    · rw [if_neg hij, h3 i hi]; have hij' : ¬ i = j := fun h => hij h.symm; simp [hij']

theorem WRow.toIn {w : World} {e : TypeId} {size n cap : Nat} {ao : Option Addr} {V : Nat → Value} (h : WRow w e size ao n V) (h1 : n ≤ cap) (h2 : cap ≤ maxLen) : In w size ao n cap V := by
  refine ⟨h1, h2, fun hn => ?_, fun b off e1 j hj => ?_⟩
  · obtain ⟨g, hg⟩ := h.sm hn; exact ⟨g, 0, hg⟩
  · rcases h with ⟨rfl, _⟩ | ⟨g, cur, rfl, h1, h2, h3⟩
    · simp at e1
    · simp only [Option.some.injEq, Addr.mk.injEq, and_true] at e1
      obtain ⟨rfl, rfl⟩ := e1
      rw [Nat.zero_add]; exact cell_blk h1 (h3 j hj)

theorem ownsRow_W {w : World} {B size n cap : Nat} {e : TypeId} {ao : Option Addr} {xs : List Value} (h : w.ownsRow B e size (.slice ao n cap) n xs) (V : Nat → Value) (hV : ∀ j, j < n * size → xs[j]? = some (V j)) : WRow w e size ao n V := by
  obtain ⟨hl, h⟩ := h
  rcases h with ⟨h1, h2⟩ | ⟨g, cap', cur, hv, _, hh, hle, hmx, hcs, htk⟩
  · simp only [Value.slice.injEq] at h1; exact .inl ⟨h1.1, h2⟩
  · simp only [Value.slice.injEq, true_and] at hv
    obtain ⟨rfl, rfl⟩ := hv
    have hsz : n * size ≤ cur.size := by rw [hcs]; exact Nat.mul_le_mul_right _ hle
    refine .inr ⟨g, cur, rfl, hh, hsz, fun j hj => ?_⟩
    rw [← hV j hj, ← htk, List.getElem?_take_of_lt hj, Array.getElem?_toList]

/-- append([]T{}, x...), for the walk. -/
theorem wpList_copied {P : Program} {w : World} {ops : Array Oper} {rest : List Oper} {o : Oper} {a : Act} {Q : Exit → Act → World → Prop} (hgd : o.guard = none) (s x : Operand) (t : TypeId)
    (ho : o.op = .call { callee := .builtin .append, args := #[s, x], argTypes := #[t, t] })
    (e : TypeId) (i : TypeInfo) (z : Value) (size bytes : Nat) (ht : P.underlying t = some (.slice e)) (hi : P.info? e = some i) (hz : i.zero = some z)
    (hsize : i.size = size) (hby : i.bytes = bytes) (hzs : z.cells.size = size) (hsz : 0 < size)
    (B : Nat) (hs : a.eval s = .slice (some ⟨B, 0, none⟩) 0 0) (hB : w.heap[B]? = some (.cells #[] e (0, 0)))
    (ao : Option Addr) (m c : Nat) (V : Nat → Value) (hx : a.eval x = .slice ao m c) (hI : In w size ao m c V) (h1 : ∀ j, j < m * size → (V j).oneCell' = true) (hbytes : m * bytes ≤ 140737488355328)
    (h : ∀ g cap w', w'.ownsRow 0 e size (.slice (some ⟨g, 0, none⟩) m cap) m ((List.range (m * size)).map V) → Fr [B] w w' → (g = B ∨ w.heap.size ≤ g) → wpList P ops Q rest (a.put o.dst (.slice (some ⟨g, 0, none⟩) m cap)) w') : wpList P ops Q (o :: rest) a w := by
  have hown : w.ownsRow 0 e size (.slice (some ⟨B, 0, none⟩) 0 0) 0 [] := ⟨by simp, Or.inr ⟨_, _, #[], rfl, Nat.zero_le _, hB, Nat.le_refl _, by decide, by simp, by simp⟩⟩
  rcases ao with _ | ad
  · have hm : m = 0 := by
      rcases Nat.eq_zero_or_pos m with h0 | h0
      · exact h0
      · obtain ⟨b, off, hb⟩ := hI.sm h0; simp at hb
    subst hm
    refine wpList_plain hgd fun K hK => ?_
    unfold Oper.wp execOp
    have hr := run_append_nothing (P := P) w t t o.type e i ht hi (some ⟨B, 0, none⟩) 0 0 (Nat.le_refl _) (.slice none 0 c) (Src.ofNil w ht c)
    simp only [ho, resolve, invoke, builtin, Sem.run_bind, Sem.run_pure, Result.andThen_ok, List.map_toArray, List.map_cons, List.map_nil, hs, hx, hr]
    exact hK _ _ (h B 0 w (by simpa using hown) (Fr.refl _ _) (.inl rfl))
  · have hnews : ∀ j u, ((List.range (m * size)).map V)[j]? = some u → w.cell? (ad.add j) = some u := by
      intro j u hu
      have hj : j < m * size := by
        rcases Nat.lt_or_ge j (m * size) with h2 | h2
        · exact h2
        · rw [List.getElem?_eq_none (by simpa using h2)] at hu; simp at hu
      have hm : 0 < m := by
        rcases Nat.eq_zero_or_pos m with h0 | h0
        · subst h0; omega
        · exact h0
      obtain ⟨b, off, hb⟩ := hI.sm hm
      simp only [Option.some.injEq] at hb
      subst hb
      have e1 : (⟨b, off, none⟩ : Addr).add j = ⟨b, off + j, none⟩ := by unfold Addr.add; by_cases hj : j = 0 <;> simp [hj]
      rw [e1, hI.cell b off rfl j hj]
      simpa [hj] using hu
    refine wpList_append_blk hgd s x t ho e i z size bytes ht hi hz hsize hby hzs hsz _ 0 [] hs hown ad m c ((List.range (m * size)).map V) hx (by simp) hnews ?_ (by rw [Nat.zero_add]; exact Nat.le_trans hI.le hI.mx) (by rw [Nat.zero_add]; exact hbytes) ?_
    · intro u hu
      simp only [List.mem_map, List.mem_range] at hu
      obtain ⟨j, hj, rfl⟩ := hu
      exact h1 j hj
    · intro v' w' hown' hF hblk hnil
      rw [Nat.zero_add, List.nil_append] at hown'
      rcases ownsRow_one hown' with ⟨rfl, _, _⟩ | ⟨g, cap, rfl, _, _⟩
      · have := hnil.1 rfl; simp at this
      · refine h g cap w' hown' (by simpa [Value.ownBlock] using hF) ?_
        have := hblk g (by simp [Value.ownBlock])
        simpa [Value.ownBlock] using this

/-- append of one behind a row without room: the row is a new one. -/
theorem wpList_append_full {P : Program} {w : World} {ops : Array Oper} {rest : List Oper} {o : Oper} {a : Act} {Q : Exit → Act → World → Prop} (hgd : o.guard = none) (s x : Operand) (t : TypeId)
    (ho : o.op = .call { callee := .builtin .append, args := #[s, x], argTypes := #[t, t] })
    (e : TypeId) (i : TypeInfo) (z : Value) (size bytes : Nat) (ht : P.underlying t = some (.slice e)) (hi : P.info? e = some i) (hz : i.zero = some z)
    (hsize : i.size = size) (hby : i.bytes = bytes) (hzs : z.cells.size = size) (hsz : 0 < size)
    (ao : Option Addr) (n : Nat) (V : Nat → Value) (hs : a.eval s = .slice ao n n) (hI : In w size ao n n V)
    (ad : Addr) (m c : Nat) (news : List Value) (hx : a.eval x = .slice (some ad) m c) (hm : 0 < m) (hl : news.length = m * size) (hnews : ∀ j u, news[j]? = some u → w.cell? (ad.add j) = some u) (h1 : ∀ u ∈ news, u.oneCell' = true)
    (h63 : n + m ≤ maxLen) (hbytes : (n + m) * bytes ≤ 140737488355328)
    (h : ∀ g cap w', Fr [] w w' → wpList P ops Q rest (a.put o.dst (.slice (some ⟨g, 0, none⟩) (n + m) cap)) w') : wpList P ops Q (o :: rest) a w := by
  refine wpList_plain hgd fun K hK => ?_
  have hold : (Builtin.firstCells i.size n (.slice ao n n)).run P w.drew = .ok ((List.range (n * size)).map V).toArray w.drew := by
    rw [hsize]
    rcases ao with _ | b
    · have hn : n = 0 := by
        rcases Nat.eq_zero_or_pos n with h0 | h0
        · exact h0
        · obtain ⟨b, off, hb⟩ := hI.sm h0; simp at hb
      subst hn
      simpa using run_firstCells_none (P := P) w.drew size 0 0 0
    · refine run_firstCells_some w.drew size n b n n _ (by simp) ?_
      intro j u hu
      have hj : j < n * size := by
        rcases Nat.lt_or_ge j (n * size) with h2 | h2
        · exact h2
        · rw [List.getElem?_eq_none (by simpa using h2)] at hu; simp at hu
      have hn : 0 < n := by
        rcases Nat.eq_zero_or_pos n with h0 | h0
        · subst h0; omega
        · exact h0
      obtain ⟨b', off, hb⟩ := hI.sm hn
      simp only [Option.some.injEq] at hb
      subst hb
      have e1 : (⟨b', off, none⟩ : Addr).add j = ⟨b', off + j, none⟩ := by unfold Addr.add; by_cases hj : j = 0 <;> simp [hj]
      rw [e1]
      show w.cell? _ = _
      rw [hI.cell b' off rfl j hj]
      simpa [hj] using hu
  have hr := run_append_grow_src (P := P) w t t o.type e i z ht hi hz ao n n _ hold (.slice (some ad) m c) m news (by rw [hsize]; exact Src.ofSlice w ht ad m c news hl hnews h1) (by omega) (by unfold maxLen at h63; omega) (growslice_fits (by omega) (by rw [hby]; exact hbytes))
  unfold Oper.wp execOp
  simp only [ho, resolve, invoke, builtin, Sem.run_bind, Sem.run_pure, Result.andThen_ok, List.map_toArray, List.map_cons, List.map_nil, hs, hx, hr]
  exact hK _ _ (h _ _ _ ((Fr.refl [] w).drew.alloc _))

theorem WRow.congr {w : World} {e : TypeId} {size n : Nat} {ao : Option Addr} {V V' : Nat → Value} (h : WRow w e size ao n V) (hV : ∀ j, j < n * size → V j = V' j) : WRow w e size ao n V' := by
  rcases h with h | ⟨g, cur, h1, h2, h3, h4⟩
  · exact .inl h
  · exact .inr ⟨g, cur, h1, h2, h3, fun j hj => by rw [h4 j hj, hV j hj]⟩

theorem ownsRow_In {w : World} {B size n : Nat} {e : TypeId} {v : Value} {xs : List Value} (h : w.ownsRow B e size v n xs) (V : Nat → Value) (hV : ∀ j, j < n * size → xs[j]? = some (V j)) : ∃ a c, v = .slice a n c ∧ In w size a n c V ∧ (∀ b off, a = some ⟨b, off, none⟩ → b ∈ v.ownBlock.toList) := by
  rcases ownsRow_one h with ⟨rfl, rfl, rfl⟩ | ⟨g, cap, rfl, _, _⟩
  · exact ⟨none, 0, rfl, ⟨Nat.le_refl _, by decide, fun h => absurd h (Nat.lt_irrefl _), fun b off e => by cases e⟩, fun b off e => by cases e⟩
  · exact ⟨_, _, rfl, ownsRow_in h V hV, fun b off e => by cases e; simp [Value.ownBlock]⟩

/-- A slice that is read. -/
def In1 (sz : Nat) (a : Option Addr) (n cap : Nat) (V : Nat → Value) : Thing1 := fun w F => F = (a.map (·.block)).toList ∧ In w sz a n cap V ∧ ∀ p, a = some p → p.block < w.heap.size
def InT (sz : Nat) (a : Option Addr) (n cap : Nat) (V : Nat → Value) : Thing := own (In1 sz a n cap V)
instance (sz : Nat) (a : Option Addr) (n cap : Nat) (V : Nat → Value) : Loc1 (In1 sz a n cap V) where
  keep := fun ⟨h1, h2, h3⟩ hF hd => ⟨h1, h2.fr hF (fun b off e => hd b (by subst e; rw [h1]; simp)), fun p hp => Nat.lt_of_lt_of_le (h3 p hp) hF.size⟩
  lt := fun ⟨h1, h2, h3⟩ x hx => by
    subst h1
    simp only [Option.mem_toList, Option.map_eq_some_iff] at hx
    obtain ⟨p, hp, rfl⟩ := hx
    exact h3 p hp

theorem St.in_ {W : Base} {w : World} {R : List Thing} (h : St W w R) (i : Nat) {sz n cap : Nat} {a : Option Addr} {V : Nat → Value} (hi : R[i]? = some (InT sz a n cap V)) : In w sz a n cap V := by
  obtain ⟨F, ⟨_, h1, _⟩, _⟩ := h.get i hi; exact h1
theorem run_enter {P : Program} {f : FuncId} {fn : Func} {c : Code} (hf : P.funcs[f]? = some fn) (hname : (fn.name == "runtime.NumGoroutine") = false) (hb : fn.body = some c) (args : Array Value) (w : World) :
    (callFunc f args).run P w = .ok (.enter f args) w := by
  have hn : ¬ fn.name = "runtime.NumGoroutine" := by simpa using hname
  simp [callFunc, go_sem, hf, hb, hn]

theorem quiet_mine {P : Program} {f : FuncId} {args : Array Value} {w : World} {n : Nat} {v : Value}
    (h : Calls P f args (w.drewN n) fun e w' => e = .returned v ∧ w.drewN n = w') : Calls P f args (w.drewN n) fun e w'' => e = .returned v ∧ ∃ m, w'' = w.drewN m :=
  h.mono fun _ _ ⟨he, hm⟩ => ⟨he, n, hm.symm⟩

/-! ### Lists of elements of several cells -/
structure Lay (α : Type) where
  f : α → List Value
  d : α
  sz : Nat
  len : ∀ a, (f a).length = sz
  pos : 0 < sz
  one : ∀ a u, u ∈ f a → u.oneCell' = true

namespace Lay
variable {α : Type} (L : Lay α)
def cells (l : List α) : List Value := l.flatMap L.f
def nth (l : List α) (k : Nat) : α := l.getD k L.d
def at_ (l : List α) (j : Nat) : Value := (L.f (L.nth l (j / L.sz))).getD (j % L.sz) undef

theorem cells_len (l : List α) : (L.cells l).length = l.length * L.sz := by
  unfold cells
  induction l with
  | nil => simp
  | cons x r ih => simp only [List.flatMap_cons, List.length_append, ih, L.len, List.length_cons]; rw [Nat.add_mul]; omega
theorem cells_one (l : List α) : ∀ u ∈ L.cells l, u.oneCell' = true := by
  intro u hu
  simp only [cells, List.mem_flatMap] at hu
  obtain ⟨x, _, h⟩ := hu
  exact L.one x u h
theorem snoc (l : List α) (x : α) : L.cells l ++ L.f x = L.cells (l ++ [x]) := by simp [cells]
theorem at_add (l : List α) (k q : Nat) (hq : q < L.sz) : L.at_ l (k * L.sz + q) = (L.f (L.nth l k)).getD q undef := by
  unfold at_
  rw [show (k * L.sz + q) / L.sz = k by rw [Nat.add_comm, Nat.add_mul_div_right _ _ L.pos, Nat.div_eq_of_lt hq, Nat.zero_add],
    show (k * L.sz + q) % L.sz = q by rw [Nat.add_comm, Nat.add_mul_mod_self_right, Nat.mod_eq_of_lt hq]]
theorem get (l : List α) (j : Nat) (hj : j < l.length * L.sz) : (L.cells l)[j]? = some (L.at_ l j) := by
  induction l generalizing j with
  | nil => simp at hj
  | cons x r ih =>
    have hx := L.len x
    by_cases h : j < L.sz
    · have e : (L.cells (x :: r))[j]? = (L.f x)[j]? := by
        simp only [cells, List.flatMap_cons]; rw [List.getElem?_append_left (by omega)]
      rw [e]
      unfold at_ nth
      rw [Nat.div_eq_of_lt h, Nat.mod_eq_of_lt h]
      simp [List.getD, show j < (L.f x).length by omega]
    · have e : (L.cells (x :: r))[j]? = (L.cells r)[j - L.sz]? := by
        simp only [cells, List.flatMap_cons]; rw [List.getElem?_append_right (by omega), hx]
      have hj2 : j - L.sz < r.length * L.sz := by simp only [List.length_cons, Nat.add_mul] at hj; omega
      rw [e, ih _ hj2]
      unfold at_ nth
      have h1 : j / L.sz = (j - L.sz) / L.sz + 1 := by
        rw [← Nat.add_div_right _ L.pos]; congr 1; omega
      have h2 : j % L.sz = (j - L.sz) % L.sz := by
        rw [← Nat.add_mod_right (j - L.sz) L.sz]; congr 1; omega
      rw [h1, h2]
      simp [List.getD]
theorem at_one (l : List α) (j : Nat) : (L.at_ l j).oneCell' = true := by
  unfold at_
  have h : j % L.sz < (L.f (L.nth l (j / L.sz))).length := by rw [L.len]; exact Nat.mod_lt _ L.pos
  rw [List.getD, List.getElem?_eq_getElem h]
  exact L.one _ _ (List.getElem_mem h)
theorem range (l : List α) : (List.range (l.length * L.sz)).map (L.at_ l) = L.cells l := by
  refine List.ext_getElem? fun j => ?_
  rcases Nat.lt_or_ge j (l.length * L.sz) with h | h
  · rw [L.get l j h]; simp [h]
  · rw [List.getElem?_eq_none (by simpa using h), List.getElem?_eq_none (by rw [L.cells_len]; exact h)]
theorem set_cell (l : List α) (k q : Nat) (v : Value) (x : α) (hk : k < l.length) (hq : q < L.sz) (hx : L.f x = (L.f (L.nth l k)).set q v) : (L.cells l).set (k * L.sz + q) v = L.cells (l.set k x) := by
  refine List.ext_getElem? fun j => ?_
  rcases Nat.lt_or_ge j (l.length * L.sz) with h | h
  · rw [L.get _ _ (by simpa using h), List.getElem?_set]
    have hjs : j / L.sz < l.length := Nat.div_lt_of_lt_mul (by rw [Nat.mul_comm]; exact h)
    have hjm := Nat.mod_lt j L.pos
    have hjd := Nat.div_add_mod j L.sz
    by_cases hj : k * L.sz + q = j
    · rw [if_pos hj, if_pos (by rw [L.cells_len, hj]; exact h)]
      subst hj
      rw [L.at_add _ _ _ hq]
      unfold nth
      simp only [List.getD, List.getElem?_set_self hk, Option.getD_some]
      rw [hx, List.getElem?_set_self (by rw [L.len]; exact hq)]; rfl
    · rw [if_neg hj, L.get _ _ h]
      congr 1
      unfold at_
      by_cases hkj : j / L.sz = k
      · have hqj : j % L.sz ≠ q := fun e => hj (by rw [← hkj, ← e, Nat.mul_comm]; exact hjd)
        rw [hkj]
        unfold nth
        simp only [List.getD, List.getElem?_set_self hk, Option.getD_some]
        rw [hx, List.getElem?_set_ne (Ne.symm hqj)]; rfl
      · unfold nth
        simp only [List.getD, List.getElem?_set_ne (Ne.symm hkj)]
  · rw [List.getElem?_eq_none (by rw [List.length_set, L.cells_len]; exact h), List.getElem?_eq_none (by rw [L.cells_len, List.length_set]; exact h)]
theorem nth_set (l : List α) (k j : Nat) (x : α) (hk : k < l.length) : L.nth (l.set k x) j = if j = k then x else L.nth l j := by
  unfold nth
  by_cases hj : j = k
  · subst hj; rw [if_pos rfl]; simp [List.getD, hk]
  · rw [if_neg hj]; simp only [List.getD, List.getElem?_set_ne (Ne.symm hj)]
theorem nth_get {l : List α} {k : Nat} (hk : k < l.length) : l[k]? = some (L.nth l k) := by
  unfold nth; simp [List.getD, hk]
theorem nth_snoc (l : List α) (x : α) (k : Nat) : L.nth (l ++ [x]) k = if k = l.length then x else L.nth l k := by
  unfold nth
  simp only [List.getD]
  by_cases h : k < l.length
  · rw [if_neg (by omega), List.getElem?_append_left h]
  · rw [List.getElem?_append_right (by omega)]
    by_cases h2 : k = l.length
    · rw [if_pos h2, h2]; simp
    · rw [if_neg h2, List.getElem?_eq_none (by simp; omega), List.getElem?_eq_none (by omega)]
theorem ext {l r : List α} (hl : l.length = r.length) (h : ∀ j, j < l.length → L.nth l j = L.nth r j) : l = r := by
  apply List.ext_getElem hl
  intro i h1 h2
  have := h i h1
  simpa [nth, List.getD, h1, h2] using this
theorem mem_nth {l : List α} {k : Nat} (hk : k < l.length) : L.nth l k ∈ l := List.mem_of_getElem? (L.nth_get hk)
end Lay

end Go.Proofs.YtkiccbjngokpjaaGreat
