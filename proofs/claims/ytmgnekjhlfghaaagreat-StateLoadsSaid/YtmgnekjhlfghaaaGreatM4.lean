/-
  Merged, in build order: Gen Step Pack PackG.
-/
import Derived.Deep.Upon
import Derived.Test.YtmgnekjhlfghaaaGreatM3
/-
  What all layers' texts lean on: rows that a call owns, slices that are read, lists of elements of several cells. Of no program.
-/
namespace Go.Proofs.YtmgnekjhlfghaaaGreat
open Go.RowKit
set_option linter.unusedVariables false
set_option linter.unusedSimpArgs false

theorem Fr.of_grown {w w' : World} {row : Option Nat} (h : w.grownBy w' row) : Fr row.toList w w' :=
  (Fr.refl row.toList w).grown h (fun k hk => .inl (by simp [hk]))
theorem Fr.step0 {S : List Nat} {a b c : World} (h : Fr S a b) (k : Fr [] b c) : Fr S a c := h.step k (fun x hx => by simp at hx)
theorem ne_of_elem {w : World} {a b : Nat} {c c' : Array Value} {t t' : TypeId} {f f' : Nat × Nat} (h : w.heap[a]? = some (.cells c t f)) (h' : w.heap[b]? = some (.cells c' t' f')) (ht : t ≠ t') : a ≠ b := by
  rintro rfl; rw [h] at h'; simp at h'; exact ht h'.2.1
theorem ownsRow_ne {w : World} {B e size n : Nat} {v : Value} {xs : List Value} {b : Nat} {c : Array Value} {t : TypeId} {f : Nat × Nat} (h : w.ownsRow B e size v n xs) (hb : w.heap[b]? = some (.cells c t f)) (ht : e ≠ t) : b ∉ v.ownBlock.toList := by
  intro hx
  obtain ⟨h1, h2⟩ := h
  rcases h2 with ⟨rfl, _⟩ | ⟨g', cap', cur, rfl, hg, hh, r⟩
  · simp [Value.ownBlock] at hx
  · simp [Value.ownBlock] at hx; subst hx; exact ne_of_elem hh hb ht rfl

theorem ownsRow_one {w : World} {B e size n : Nat} {v : Value} {xs : List Value} (h : w.ownsRow B e size v n xs) : v = .slice none 0 0 ∧ n = 0 ∧ xs = [] ∨ ∃ g cap, v = .slice (some ⟨g, 0, none⟩) n cap ∧ n ≤ cap ∧ cap ≤ maxLen := by
  obtain ⟨h1, h2⟩ := h
  rcases h2 with ⟨h2, rfl⟩ | ⟨g', cap', cur, hv, _, _, hle, hmx, _⟩
  · exact .inl ⟨h2, rfl, by simpa using h1⟩
  · exact .inr ⟨g', cap', hv, hle, hmx⟩


/-- A slice value '.slice a n cap' that is read: cell j of its first n elements (of sz cells each) holds 'V j'. -/
structure In (w : World) (sz : Nat) (a : Option Addr) (n cap : Nat) (V : Nat → Value) : Prop where
  le : n ≤ cap
  mx : cap ≤ maxLen
  sm : 0 < n → ∃ b off, a = some ⟨b, off, none⟩
  cell : ∀ b off, a = some ⟨b, off, none⟩ → ∀ j, j < n * sz → w.cell? ⟨b, off + j, none⟩ = some (V j)

theorem In.fr {w w' : World} {sz n cap : Nat} {a : Option Addr} {V : Nat → Value} {S : List Nat} (h : In w sz a n cap V) (hF : Fr S w w') (hS : ∀ b off, a = some ⟨b, off, none⟩ → b ∉ S) : In w' sz a n cap V :=
  ⟨h.le, h.mx, h.sm, fun b off e j hj => hF.cell (h.cell b off e j hj) (hS b off e)⟩

theorem In.fr0 {w w' : World} {sz n cap : Nat} {a : Option Addr} {V : Nat → Value} (h : In w sz a n cap V) (hF : Fr [] w w') : In w' sz a n cap V := h.fr hF (by simp)

theorem In.max {w : World} {sz n cap : Nat} {a : Option Addr} {V : Nat → Value} (h : In w sz a n cap V) : n ≤ 9223372036854775807 := by
  have h1 := h.mx; have h2 := h.le; unfold maxLen at h1; omega

theorem ownsRow_in {w : World} {B e size n g cap : Nat} {xs : List Value} (h : w.ownsRow B e size (.slice (some ⟨g, 0, none⟩) n cap) n xs) (V : Nat → Value) (hV : ∀ j, j < n * size → xs[j]? = some (V j)) : In w size (some ⟨g, 0, none⟩) n cap V := by
  have h0 := h
  obtain ⟨hl, hr⟩ := h0
  rcases hr with ⟨hr, _⟩ | ⟨g', cap', cur, hv, hg, hh, hle, hmx, _, _⟩
  · simp at hr
  simp only [Value.slice.injEq, Option.some.injEq, Addr.mk.injEq, and_true, true_and] at hv
  obtain ⟨rfl, rfl⟩ := hv
  refine ⟨hle, hmx, fun _ => ⟨g, 0, rfl⟩, fun b off e j hj => ?_⟩
  simp only [Option.some.injEq, Addr.mk.injEq, and_true] at e
  obtain ⟨rfl, rfl⟩ := e
  rw [Nat.zero_add, h.cellAt j hj]; exact hV j hj

/-- A row that may be written into. -/
def WRow (w : World) (e : TypeId) (size : Nat) (ao : Option Addr) (n : Nat) (V : Nat → Value) : Prop :=
  ao = none ∧ n = 0 ∨ ∃ g cur, ao = some ⟨g, 0, none⟩ ∧ w.heap[g]? = some (.cells cur e (0, 0)) ∧ n * size ≤ cur.size ∧ ∀ j, j < n * size → cur[j]? = some (V j)

theorem WRow.keep {w w' : World} {e : TypeId} {size n : Nat} {ao : Option Addr} {V : Nat → Value} {S : List Nat} (h : WRow w e size ao n V) (hF : Fr S w w') (hS : ∀ g, ao = some ⟨g, 0, none⟩ → g ∉ S) : WRow w' e size ao n V := by
  rcases h with h | ⟨g, cur, rfl, h1, h2, h3⟩
  · exact .inl h
  · exact .inr ⟨g, cur, rfl, hF.keep h1 (hS g rfl), h2, h3⟩

theorem WRow.sm {w : World} {e : TypeId} {size n : Nat} {ao : Option Addr} {V : Nat → Value} (h : WRow w e size ao n V) (hn : 0 < n) : ∃ g, ao = some ⟨g, 0, none⟩ := by
  rcases h with ⟨_, h⟩ | ⟨g, _, h, _⟩
  · omega
  · exact ⟨g, h⟩

theorem WRow.cell {w : World} {e : TypeId} {size n g : Nat} {V : Nat → Value} (h : WRow w e size (some ⟨g, 0, none⟩) n V) (j : Nat) (hj : j < n * size) : w.cell? ⟨g, 0 + j, none⟩ = some (V j) := by
  rcases h with ⟨h, _⟩ | ⟨g', cur, hg, h1, h2, h3⟩
  · simp at h
  · simp only [Option.some.injEq, Addr.mk.injEq, and_true] at hg
    subst hg
    rw [Nat.zero_add]
    exact cell_blk h1 (h3 j hj)

theorem WRow.free {w : World} {e : TypeId} {size n g : Nat} {V : Nat → Value} (h : WRow w e size (some ⟨g, 0, none⟩) n V) (j : Nat) : w.frozen? ⟨g, 0 + j, none⟩ = false := by
  rcases h with ⟨h, _⟩ | ⟨g', cur, hg, h1, h2, h3⟩
  · simp at h
  · simp only [Option.some.injEq, Addr.mk.injEq, and_true] at hg
    subst hg
    exact free_blk h1

theorem WRow.set {w : World} {e : TypeId} {size n g : Nat} {V : Nat → Value} (h : WRow w e size (some ⟨g, 0, none⟩) n V) (j : Nat) (v : Value) : WRow (w.setCell ⟨g, j, none⟩ v) e size (some ⟨g, 0, none⟩) n (fun i => if i = j then v else V i) := by
  rcases h with ⟨h, _⟩ | ⟨g', cur, hg, h1, h2, h3⟩
  · simp at h
  · simp only [Option.some.injEq, Addr.mk.injEq, and_true] at hg
    subst hg
    refine .inr ⟨g, _, rfl, blk_setCell_at v h1, by simpa using h2, fun i hi => ?_⟩
    rw [Array.getElem?_setIfInBounds]
    by_cases hij : j = i
    · subst hij; simp; omega
    · rw [if_neg hij, h3 i hi]; have hij' : ¬ i = j := fun h => hij h.symm; simp [hij']

theorem WRow.toIn {w : World} {e : TypeId} {size n cap : Nat} {ao : Option Addr} {V : Nat → Value} (h : WRow w e size ao n V) (h1 : n ≤ cap) (h2 : cap ≤ maxLen) : In w size ao n cap V := by
  refine ⟨h1, h2, fun hn => ?_, fun b off e1 j hj => ?_⟩
  · obtain ⟨g, hg⟩ := h.sm hn; exact ⟨g, 0, hg⟩
  · rcases h with ⟨rfl, _⟩ | ⟨g, cur, rfl, h1, h2, h3⟩
    · simp at e1
    · simp only [Option.some.injEq, Addr.mk.injEq, and_true] at e1
      obtain ⟨rfl, rfl⟩ := e1
      rw [Nat.zero_add]; exact cell_blk h1 (h3 j hj)

theorem ownsRow_W {w : World} {B size n cap : Nat} {e : TypeId} {ao : Option Addr} {xs : List Value} (h : w.ownsRow B e size (.slice ao n cap) n xs) (V : Nat → Value) (hV : ∀ j, j < n * size → xs[j]? = some (V j)) : WRow w e size ao n V := by
  obtain ⟨hl, h⟩ := h
  rcases h with ⟨h1, h2⟩ | ⟨g, cap', cur, hv, _, hh, hle, hmx, hcs, htk⟩
  · simp only [Value.slice.injEq] at h1; exact .inl ⟨h1.1, h2⟩
  · simp only [Value.slice.injEq, true_and] at hv
    obtain ⟨rfl, rfl⟩ := hv
    have hsz : n * size ≤ cur.size := by rw [hcs]; exact Nat.mul_le_mul_right _ hle
    refine .inr ⟨g, cur, rfl, hh, hsz, fun j hj => ?_⟩
    rw [← hV j hj, ← htk, List.getElem?_take_of_lt hj, Array.getElem?_toList]

/-- append([]T{}, x...), for the walk. -/
theorem wpList_copied {P : Program} {w : World} {ops : Array Oper} {rest : List Oper} {o : Oper} {a : Act} {Q : Exit → Act → World → Prop} (hgd : o.guard = none) (s x : Operand) (t : TypeId)
    (ho : o.op = .call { callee := .builtin .append, args := #[s, x], argTypes := #[t, t] })
    (e : TypeId) (i : TypeInfo) (z : Value) (size bytes : Nat) (ht : P.underlying t = some (.slice e)) (hi : P.info? e = some i) (hz : i.zero = some z)
    (hsize : i.size = size) (hby : i.bytes = bytes) (hzs : z.cells.size = size) (hsz : 0 < size)
    (B : Nat) (hs : a.eval s = .slice (some ⟨B, 0, none⟩) 0 0) (hB : w.heap[B]? = some (.cells #[] e (0, 0)))
    (ao : Option Addr) (m c : Nat) (V : Nat → Value) (hx : a.eval x = .slice ao m c) (hI : In w size ao m c V) (h1 : ∀ j, j < m * size → (V j).oneCell' = true) (hbytes : m * bytes ≤ 140737488355328)
    (h : ∀ g cap w', w'.ownsRow 0 e size (.slice (some ⟨g, 0, none⟩) m cap) m ((List.range (m * size)).map V) → Fr [B] w w' → (g = B ∨ w.heap.size ≤ g) → wpList P ops Q rest (a.put o.dst (.slice (some ⟨g, 0, none⟩) m cap)) w') : wpList P ops Q (o :: rest) a w := by
  have hown : w.ownsRow 0 e size (.slice (some ⟨B, 0, none⟩) 0 0) 0 [] := ⟨by simp, Or.inr ⟨_, _, #[], rfl, Nat.zero_le _, hB, Nat.le_refl _, by decide, by simp, by simp⟩⟩
  rcases ao with _ | ad
  · have hm : m = 0 := by
      rcases Nat.eq_zero_or_pos m with h0 | h0
      · exact h0
      · obtain ⟨b, off, hb⟩ := hI.sm h0; simp at hb
    subst hm
    refine wpList_plain hgd fun K hK => ?_
    unfold Oper.wp execOp
    have hr := run_append_nothing (P := P) w t t o.type e i ht hi (some ⟨B, 0, none⟩) 0 0 (Nat.le_refl _) (.slice none 0 c) (Src.ofNil w ht c)
    simp only [ho, resolve, invoke, builtin, Sem.run_bind, Sem.run_pure, Result.andThen_ok, List.map_toArray, List.map_cons, List.map_nil, hs, hx, hr]
    exact hK _ _ (h B 0 w (by simpa using hown) (Fr.refl _ _) (.inl rfl))
  · have hnews : ∀ j u, ((List.range (m * size)).map V)[j]? = some u → w.cell? (ad.add j) = some u := by
      intro j u hu
      have hj : j < m * size := by
        rcases Nat.lt_or_ge j (m * size) with h2 | h2
        · exact h2
        · rw [List.getElem?_eq_none (by simpa using h2)] at hu; simp at hu
      have hm : 0 < m := by
        rcases Nat.eq_zero_or_pos m with h0 | h0
        · subst h0; omega
        · exact h0
      obtain ⟨b, off, hb⟩ := hI.sm hm
      simp only [Option.some.injEq] at hb
      subst hb
      have e1 : (⟨b, off, none⟩ : Addr).add j = ⟨b, off + j, none⟩ := by unfold Addr.add; by_cases hj : j = 0 <;> simp [hj]
      rw [e1, hI.cell b off rfl j hj]
      simpa [hj] using hu
    refine wpList_append_blk hgd s x t ho e i z size bytes ht hi hz hsize hby hzs hsz _ 0 [] hs hown ad m c ((List.range (m * size)).map V) hx (by simp) hnews ?_ (by rw [Nat.zero_add]; exact Nat.le_trans hI.le hI.mx) (by rw [Nat.zero_add]; exact hbytes) ?_
    · intro u hu
      simp only [List.mem_map, List.mem_range] at hu
      obtain ⟨j, hj, rfl⟩ := hu
      exact h1 j hj
    · intro v' w' hown' hF hblk hnil
      rw [Nat.zero_add, List.nil_append] at hown'
      rcases ownsRow_one hown' with ⟨rfl, _, _⟩ | ⟨g, cap, rfl, _, _⟩
      · have := hnil.1 rfl; simp at this
      · refine h g cap w' hown' (by simpa [Value.ownBlock] using hF) ?_
        have := hblk g (by simp [Value.ownBlock])
        simpa [Value.ownBlock] using this

/-- append of one behind a row without room: the row is a new one. -/
theorem wpList_append_full {P : Program} {w : World} {ops : Array Oper} {rest : List Oper} {o : Oper} {a : Act} {Q : Exit → Act → World → Prop} (hgd : o.guard = none) (s x : Operand) (t : TypeId)
    (ho : o.op = .call { callee := .builtin .append, args := #[s, x], argTypes := #[t, t] })
    (e : TypeId) (i : TypeInfo) (z : Value) (size bytes : Nat) (ht : P.underlying t = some (.slice e)) (hi : P.info? e = some i) (hz : i.zero = some z)
    (hsize : i.size = size) (hby : i.bytes = bytes) (hzs : z.cells.size = size) (hsz : 0 < size)
    (ao : Option Addr) (n : Nat) (V : Nat → Value) (hs : a.eval s = .slice ao n n) (hI : In w size ao n n V)
    (ad : Addr) (m c : Nat) (news : List Value) (hx : a.eval x = .slice (some ad) m c) (hm : 0 < m) (hl : news.length = m * size) (hnews : ∀ j u, news[j]? = some u → w.cell? (ad.add j) = some u) (h1 : ∀ u ∈ news, u.oneCell' = true)
    (h63 : n + m ≤ maxLen) (hbytes : (n + m) * bytes ≤ 140737488355328)
    (h : ∀ g cap w', Fr [] w w' → wpList P ops Q rest (a.put o.dst (.slice (some ⟨g, 0, none⟩) (n + m) cap)) w') : wpList P ops Q (o :: rest) a w := by
  refine wpList_plain hgd fun K hK => ?_
  have hold : (Builtin.firstCells i.size n (.slice ao n n)).run P w.drew = .ok ((List.range (n * size)).map V).toArray w.drew := by
    rw [hsize]
    rcases ao with _ | b
    · have hn : n = 0 := by
        rcases Nat.eq_zero_or_pos n with h0 | h0
        · exact h0
        · obtain ⟨b, off, hb⟩ := hI.sm h0; simp at hb
      subst hn
      simpa using run_firstCells_none (P := P) w.drew size 0 0 0
    · refine run_firstCells_some w.drew size n b n n _ (by simp) ?_
      intro j u hu
      have hj : j < n * size := by
        rcases Nat.lt_or_ge j (n * size) with h2 | h2
        · exact h2
        · rw [List.getElem?_eq_none (by simpa using h2)] at hu; simp at hu
      have hn : 0 < n := by
        rcases Nat.eq_zero_or_pos n with h0 | h0
        · subst h0; omega
        · exact h0
      obtain ⟨b', off, hb⟩ := hI.sm hn
      simp only [Option.some.injEq] at hb
      subst hb
      have e1 : (⟨b', off, none⟩ : Addr).add j = ⟨b', off + j, none⟩ := by unfold Addr.add; by_cases hj : j = 0 <;> simp [hj]
      rw [e1]
      show w.cell? _ = _
      rw [hI.cell b' off rfl j hj]
      simpa [hj] using hu
  have hr := run_append_grow_src (P := P) w t t o.type e i z ht hi hz ao n n _ hold (.slice (some ad) m c) m news (by rw [hsize]; exact Src.ofSlice w ht ad m c news hl hnews h1) (by omega) (by unfold maxLen at h63; omega) (growslice_fits (by omega) (by rw [hby]; exact hbytes))
  unfold Oper.wp execOp
  simp only [ho, resolve, invoke, builtin, Sem.run_bind, Sem.run_pure, Result.andThen_ok, List.map_toArray, List.map_cons, List.map_nil, hs, hx, hr]
  exact hK _ _ (h _ _ _ ((Fr.refl [] w).drew.alloc _))

theorem WRow.congr {w : World} {e : TypeId} {size n : Nat} {ao : Option Addr} {V V' : Nat → Value} (h : WRow w e size ao n V) (hV : ∀ j, j < n * size → V j = V' j) : WRow w e size ao n V' := by
  rcases h with h | ⟨g, cur, h1, h2, h3, h4⟩
  · exact .inl h
  · exact .inr ⟨g, cur, h1, h2, h3, fun j hj => by rw [h4 j hj, hV j hj]⟩

theorem ownsRow_In {w : World} {B size n : Nat} {e : TypeId} {v : Value} {xs : List Value} (h : w.ownsRow B e size v n xs) (V : Nat → Value) (hV : ∀ j, j < n * size → xs[j]? = some (V j)) : ∃ a c, v = .slice a n c ∧ In w size a n c V ∧ (∀ b off, a = some ⟨b, off, none⟩ → b ∈ v.ownBlock.toList) := by
  rcases ownsRow_one h with ⟨rfl, rfl, rfl⟩ | ⟨g, cap, rfl, _, _⟩
  · exact ⟨none, 0, rfl, ⟨Nat.le_refl _, by decide, fun h => absurd h (Nat.lt_irrefl _), fun b off e => by cases e⟩, fun b off e => by cases e⟩
  · exact ⟨_, _, rfl, ownsRow_in h V hV, fun b off e => by cases e; simp [Value.ownBlock]⟩

/-- A slice that is read. -/
def In1 (sz : Nat) (a : Option Addr) (n cap : Nat) (V : Nat → Value) : Thing1 := fun w F => F = (a.map (·.block)).toList ∧ In w sz a n cap V ∧ ∀ p, a = some p → p.block < w.heap.size
def InT (sz : Nat) (a : Option Addr) (n cap : Nat) (V : Nat → Value) : Thing := own (In1 sz a n cap V)
instance (sz : Nat) (a : Option Addr) (n cap : Nat) (V : Nat → Value) : Loc1 (In1 sz a n cap V) where
  keep := fun ⟨h1, h2, h3⟩ hF hd => ⟨h1, h2.fr hF (fun b off e => hd b (by subst e; rw [h1]; simp)), fun p hp => Nat.lt_of_lt_of_le (h3 p hp) hF.size⟩
  lt := fun ⟨h1, h2, h3⟩ x hx => by
    subst h1
    simp only [Option.mem_toList, Option.map_eq_some_iff] at hx
    obtain ⟨p, hp, rfl⟩ := hx
    exact h3 p hp

theorem St.in_ {W : Base} {w : World} {R : List Thing} (h : St W w R) (i : Nat) {sz n cap : Nat} {a : Option Addr} {V : Nat → Value} (hi : R[i]? = some (InT sz a n cap V)) : In w sz a n cap V := by
  obtain ⟨F, ⟨_, h1, _⟩, _⟩ := h.get i hi; exact h1
theorem run_enter {P : Program} {f : FuncId} {fn : Func} {c : Code} (hf : P.funcs[f]? = some fn) (hname : (fn.name == "runtime.NumGoroutine") = false) (hb : fn.body = some c) (args : Array Value) (w : World) :
    (callFunc f args).run P w = .ok (.enter f args) w := by
  have hn : ¬ fn.name = "runtime.NumGoroutine" := by simpa using hname
  simp [callFunc, go_sem, hf, hb, hn]

theorem quiet_mine {P : Program} {f : FuncId} {args : Array Value} {w : World} {n : Nat} {v : Value}
    (h : Calls P f args (w.drewN n) fun e w' => e = .returned v ∧ w.drewN n = w') : Calls P f args (w.drewN n) fun e w'' => e = .returned v ∧ ∃ m, w'' = w.drewN m :=
  h.mono fun _ _ ⟨he, hm⟩ => ⟨he, n, hm.symm⟩

/-! ### Lists of elements of several cells -/
structure Lay (α : Type) where
  f : α → List Value
  d : α
  sz : Nat
  len : ∀ a, (f a).length = sz
  pos : 0 < sz
  one : ∀ a u, u ∈ f a → u.oneCell' = true

namespace Lay
variable {α : Type} (L : Lay α)
def cells (l : List α) : List Value := l.flatMap L.f
def nth (l : List α) (k : Nat) : α := l.getD k L.d
def at_ (l : List α) (j : Nat) : Value := (L.f (L.nth l (j / L.sz))).getD (j % L.sz) undef

theorem cells_len (l : List α) : (L.cells l).length = l.length * L.sz := by
  unfold cells
  induction l with
  | nil => simp
  | cons x r ih => simp only [List.flatMap_cons, List.length_append, ih, L.len, List.length_cons]; rw [Nat.add_mul]; omega
theorem cells_one (l : List α) : ∀ u ∈ L.cells l, u.oneCell' = true := by
  intro u hu
  simp only [cells, List.mem_flatMap] at hu
  obtain ⟨x, _, h⟩ := hu
  exact L.one x u h
theorem snoc (l : List α) (x : α) : L.cells l ++ L.f x = L.cells (l ++ [x]) := by simp [cells]
theorem at_add (l : List α) (k q : Nat) (hq : q < L.sz) : L.at_ l (k * L.sz + q) = (L.f (L.nth l k)).getD q undef := by
  unfold at_
  rw [show (k * L.sz + q) / L.sz = k by rw [Nat.add_comm, Nat.add_mul_div_right _ _ L.pos, Nat.div_eq_of_lt hq, Nat.zero_add],
    show (k * L.sz + q) % L.sz = q by rw [Nat.add_comm, Nat.add_mul_mod_self_right, Nat.mod_eq_of_lt hq]]
theorem get (l : List α) (j : Nat) (hj : j < l.length * L.sz) : (L.cells l)[j]? = some (L.at_ l j) := by
  induction l generalizing j with
  | nil => simp at hj
  | cons x r ih =>
    have hx := L.len x
    by_cases h : j < L.sz
    · have e : (L.cells (x :: r))[j]? = (L.f x)[j]? := by
        simp only [cells, List.flatMap_cons]; rw [List.getElem?_append_left (by omega)]
      rw [e]
      unfold at_ nth
      rw [Nat.div_eq_of_lt h, Nat.mod_eq_of_lt h]
      simp [List.getD, show j < (L.f x).length by omega]
    · have e : (L.cells (x :: r))[j]? = (L.cells r)[j - L.sz]? := by
        simp only [cells, List.flatMap_cons]; rw [List.getElem?_append_right (by omega), hx]
      have hj2 : j - L.sz < r.length * L.sz := by simp only [List.length_cons, Nat.add_mul] at hj; omega
      rw [e, ih _ hj2]
      unfold at_ nth
      have h1 : j / L.sz = (j - L.sz) / L.sz + 1 := by
        rw [← Nat.add_div_right _ L.pos]; congr 1; omega
      have h2 : j % L.sz = (j - L.sz) % L.sz := by
        rw [← Nat.add_mod_right (j - L.sz) L.sz]; congr 1; omega
      rw [h1, h2]
      simp [List.getD]
theorem at_one (l : List α) (j : Nat) : (L.at_ l j).oneCell' = true := by
  unfold at_
  have h : j % L.sz < (L.f (L.nth l (j / L.sz))).length := by rw [L.len]; exact Nat.mod_lt _ L.pos
  rw [List.getD, List.getElem?_eq_getElem h]
  exact L.one _ _ (List.getElem_mem h)
theorem range (l : List α) : (List.range (l.length * L.sz)).map (L.at_ l) = L.cells l := by
  refine List.ext_getElem? fun j => ?_
  rcases Nat.lt_or_ge j (l.length * L.sz) with h | h
  · rw [L.get l j h]; simp [h]
  · rw [List.getElem?_eq_none (by simpa using h), List.getElem?_eq_none (by rw [L.cells_len]; exact h)]
theorem set_cell (l : List α) (k q : Nat) (v : Value) (x : α) (hk : k < l.length) (hq : q < L.sz) (hx : L.f x = (L.f (L.nth l k)).set q v) : (L.cells l).set (k * L.sz + q) v = L.cells (l.set k x) := by
  refine List.ext_getElem? fun j => ?_
  rcases Nat.lt_or_ge j (l.length * L.sz) with h | h
  · rw [L.get _ _ (by simpa using h), List.getElem?_set]
    have hjs : j / L.sz < l.length := Nat.div_lt_of_lt_mul (by rw [Nat.mul_comm]; exact h)
    have hjm := Nat.mod_lt j L.pos
    have hjd := Nat.div_add_mod j L.sz
    by_cases hj : k * L.sz + q = j
    · rw [if_pos hj, if_pos (by rw [L.cells_len, hj]; exact h)]
      subst hj
      rw [L.at_add _ _ _ hq]
      unfold nth
      simp only [List.getD, List.getElem?_set_self hk, Option.getD_some]
      rw [hx, List.getElem?_set_self (by rw [L.len]; exact hq)]; rfl
    · rw [if_neg hj, L.get _ _ h]
      congr 1
      unfold at_
      by_cases hkj : j / L.sz = k
      · have hqj : j % L.sz ≠ q := fun e => hj (by rw [← hkj, ← e, Nat.mul_comm]; exact hjd)
        rw [hkj]
        unfold nth
        simp only [List.getD, List.getElem?_set_self hk, Option.getD_some]
        rw [hx, List.getElem?_set_ne (Ne.symm hqj)]; rfl
      · unfold nth
        simp only [List.getD, List.getElem?_set_ne (Ne.symm hkj)]
  · rw [List.getElem?_eq_none (by rw [List.length_set, L.cells_len]; exact h), List.getElem?_eq_none (by rw [L.cells_len, List.length_set]; exact h)]
theorem nth_set (l : List α) (k j : Nat) (x : α) (hk : k < l.length) : L.nth (l.set k x) j = if j = k then x else L.nth l j := by
  unfold nth
  by_cases hj : j = k
  · subst hj; rw [if_pos rfl]; simp [List.getD, hk]
  · rw [if_neg hj]; simp only [List.getD, List.getElem?_set_ne (Ne.symm hj)]
theorem nth_get {l : List α} {k : Nat} (hk : k < l.length) : l[k]? = some (L.nth l k) := by
  unfold nth; simp [List.getD, hk]
theorem nth_snoc (l : List α) (x : α) (k : Nat) : L.nth (l ++ [x]) k = if k = l.length then x else L.nth l k := by
  unfold nth
  simp only [List.getD]
  by_cases h : k < l.length
  · rw [if_neg (by omega), List.getElem?_append_left h]
  · rw [List.getElem?_append_right (by omega)]
    by_cases h2 : k = l.length
    · rw [if_pos h2, h2]; simp
    · rw [if_neg h2, List.getElem?_eq_none (by simp; omega), List.getElem?_eq_none (by omega)]
theorem ext {l r : List α} (hl : l.length = r.length) (h : ∀ j, j < l.length → L.nth l j = L.nth r j) : l = r := by
  apply List.ext_getElem hl
  intro i h1 h2
  have := h i h1
  simpa [nth, List.getD, h1, h2] using this
theorem mem_nth {l : List α} {k : Nat} (hk : k < l.length) : L.nth l k ∈ l := List.mem_of_getElem? (L.nth_get hk)
end Lay

end Go.Proofs.YtmgnekjhlfghaaaGreat

/-
  append, over things in memory: a copy into an empty row; some behind a row. For a walk, and as steps of a region that draws its order.
-/
namespace Go.Proofs.YtmgnekjhlfghaaaGreat
open Go.RowKit
set_option linter.unusedVariables false

section
variable {W : Base} {w : World} {R : List Thing}
theorem wp_value {P : Program} {o : Oper} {a : Act} {K : Act → World → Prop} {Q : Exit → Act → World → Prop} {w w' : World} {v : Value} (h : (execOp a.eval o).run P w = .ok (.value v) w') (hK : K (a.put o.dst v) w') : Oper.wp P o a w K Q := by
  unfold Oper.wp
  rw [h]
  exact hK
/-- append([]T{}, x...): the empty row is owned, and becomes the copy. -/
theorem St.copied {P : Program} (H : St W w R) (j : Nat) {o : Oper} {a : Act} (s x : Operand) (t : TypeId)
    (ho : o.op = .call { callee := .builtin .append, args := #[s, x], argTypes := #[t, t] })
    (e : TypeId) (i : TypeInfo) (z : Value) (size bytes : Nat) (ht : P.underlying t = some (.slice e)) (hi : P.info? e = some i) (hz : i.zero = some z)
    (hsize : i.size = size) (hby : i.bytes = bytes) (hzs : z.cells.size = size) (hsz : 0 < size)
    (B : Nat) (hj : R[j]? = some (RowT e size (.slice (some ⟨B, 0, none⟩) 0 0) 0 [])) (hs : a.eval s = .slice (some ⟨B, 0, none⟩) 0 0)
    (ao : Option Addr) (m c : Nat) (V : Nat → Value) (hx : a.eval x = .slice ao m c) (hI : In w size ao m c V) (h1 : ∀ j, j < m * size → (V j).oneCell' = true) (hbytes : m * bytes ≤ 140737488355328) :
    ∃ g cap w', (execOp a.eval o).run P w = .ok (.value (.slice (some ⟨g, 0, none⟩) m cap)) w' ∧ St W w' (R.set j (RowT e size (.slice (some ⟨g, 0, none⟩) m cap) m ((List.range (m * size)).map V))) := by
  have hown := H.row j hj
  rcases ao with _ | ad
  · have hm : m = 0 := by
      rcases Nat.eq_zero_or_pos m with h0 | h0
      · exact h0
      · obtain ⟨b, off, hb⟩ := hI.sm h0; simp at hb
    subst hm
    have hr := run_append_nothing (P := P) w t t o.type e i ht hi (some ⟨B, 0, none⟩) 0 0 (Nat.le_refl _) (.slice none 0 c) (Src.ofNil w ht c)
    refine ⟨B, 0, w, ?_, ?_⟩
    · unfold execOp
      simp only [ho, resolve, invoke, builtin, Sem.run_bind, Sem.run_pure, Result.andThen_ok, List.map_toArray, List.map_cons, List.map_nil, hs, hx, hr]
    · have h := things_set_self hj
      rw [Nat.zero_mul, List.range_zero, List.map_nil, h]
      exact H
  · have hnews : ∀ j u, ((List.range (m * size)).map V)[j]? = some u → w.cell? (ad.add j) = some u := by
      intro j u hu
      have hj : j < m * size := by
        rcases Nat.lt_or_ge j (m * size) with h2 | h2
        · exact h2
        · rw [List.getElem?_eq_none (by simpa using h2)] at hu; simp at hu
      have hm : 0 < m := by
        rcases Nat.eq_zero_or_pos m with h0 | h0
        · subst h0; omega
        · exact h0
      obtain ⟨b, off, hb⟩ := hI.sm hm
      simp only [Option.some.injEq] at hb
      subst hb
      have e1 : (⟨b, off, none⟩ : Addr).add j = ⟨b, off + j, none⟩ := by unfold Addr.add; by_cases hj : j = 0 <;> simp [hj]
      rw [e1, hI.cell b off rfl j hj]
      simpa [hj] using hu
    obtain ⟨v', w', hr, h2, h3, h4, h5⟩ := append_own_blk (P := P) w t o.type e i z size bytes ht hi hz hsize hby hzs hsz _ 0 [] hown ad m c ((List.range (m * size)).map V) (by simp) hnews (fun u hu => by
      simp only [List.mem_map, List.mem_range] at hu
      obtain ⟨j, hj, rfl⟩ := hu
      exact h1 j hj) (by rw [Nat.zero_add]; exact Nat.le_trans hI.le hI.mx) (by rw [Nat.zero_add]; exact hbytes)
    have hF : Fr (Value.slice (some ⟨B, 0, none⟩) 0 0).ownBlock.toList w w' := (Fr.refl _ w).grown h3 (fun k hk => .inl (by simp [hk]))
    have hS := (H.append j hj).2 v' w' _ _ h2 hF h4
    rw [Nat.zero_add, List.nil_append] at hS h2
    rcases ownsRow_one h2 with ⟨rfl, _, _⟩ | ⟨g, cap, rfl, _, _⟩
    · have := h5.1 rfl; simp at this
    · refine ⟨g, cap, w', ?_, hS⟩
      unfold execOp
      simp only [ho, resolve, invoke, builtin, Sem.run_bind, Sem.run_pure, Result.andThen_ok, List.map_toArray, List.map_cons, List.map_nil, hs, hx, hr]
/-- Some behind an owned row. -/
theorem St.added {P : Program} (H : St W w R) (j : Nat) {o : Oper} {a : Act} (s x : Operand) (t : TypeId)
    (ho : o.op = .call { callee := .builtin .append, args := #[s, x], argTypes := #[t, t] })
    (e : TypeId) (i : TypeInfo) (z : Value) (size bytes : Nat) (ht : P.underlying t = some (.slice e)) (hi : P.info? e = some i) (hz : i.zero = some z)
    (hsize : i.size = size) (hby : i.bytes = bytes) (hzs : z.cells.size = size) (hsz : 0 < size)
    (v : Value) (n : Nat) (xs : List Value) (hj : R[j]? = some (RowT e size v n xs)) (hs : a.eval s = v)
    (ao : Option Addr) (m c : Nat) (V : Nat → Value) (hx : a.eval x = .slice ao m c) (hI : In w size ao m c V) (h1 : ∀ j, j < m * size → (V j).oneCell' = true)
    (h63 : n + m ≤ maxLen) (hbytes : (n + m) * bytes ≤ 140737488355328) :
    ∃ v' w', (execOp a.eval o).run P w = .ok (.value v') w' ∧ (∃ a' c', v' = .slice a' (n + m) c') ∧ St W w' (R.set j (RowT e size v' (n + m) (xs ++ (List.range (m * size)).map V))) := by
  have hown := H.row j hj
  rcases ao with _ | ad
  · have hm : m = 0 := by
      rcases Nat.eq_zero_or_pos m with h0 | h0
      · exact h0
      · obtain ⟨b, off, hb⟩ := hI.sm h0; simp at hb
    subst hm
    obtain ⟨a', c', hv, hnc⟩ : ∃ a' c', v = .slice a' n c' ∧ n ≤ c' := by
      rcases ownsRow_one hown with ⟨h1, h2, _⟩ | ⟨g, cap, h1, h2, _⟩
      · exact ⟨none, 0, by rw [h1, h2], by omega⟩
      · exact ⟨_, cap, h1, h2⟩
    subst hv
    have hr := run_append_nothing (P := P) w t t o.type e i ht hi a' n c' hnc (.slice none 0 c) (Src.ofNil w ht c)
    refine ⟨_, w, ?_, ⟨a', c', rfl⟩, ?_⟩
    · unfold execOp
      simp only [ho, resolve, invoke, builtin, Sem.run_bind, Sem.run_pure, Result.andThen_ok, List.map_toArray, List.map_cons, List.map_nil, hs, hx, hr]
      rfl
    · have h := things_set_self hj
      rw [Nat.zero_mul, List.range_zero, List.map_nil, List.append_nil, Nat.add_zero, h]
      exact H
  · have hnews : ∀ j u, ((List.range (m * size)).map V)[j]? = some u → w.cell? (ad.add j) = some u := by
      intro j u hu
      have hj : j < m * size := by
        rcases Nat.lt_or_ge j (m * size) with h2 | h2
        · exact h2
        · rw [List.getElem?_eq_none (by simpa using h2)] at hu; simp at hu
      have hm : 0 < m := by
        rcases Nat.eq_zero_or_pos m with h0 | h0
        · subst h0; omega
        · exact h0
      obtain ⟨b, off, hb⟩ := hI.sm hm
      simp only [Option.some.injEq] at hb
      subst hb
      have e1 : (⟨b, off, none⟩ : Addr).add j = ⟨b, off + j, none⟩ := by unfold Addr.add; by_cases hj : j = 0 <;> simp [hj]
      rw [e1, hI.cell b off rfl j hj]
      simpa [hj] using hu
    obtain ⟨v', w', hr, h2, h3, h4, h5⟩ := append_own_blk (P := P) w t o.type e i z size bytes ht hi hz hsize hby hzs hsz v n xs hown ad m c ((List.range (m * size)).map V) (by simp) hnews (fun u hu => by
      simp only [List.mem_map, List.mem_range] at hu
      obtain ⟨j, hj, rfl⟩ := hu
      exact h1 j hj) h63 hbytes
    have hF : Fr v.ownBlock.toList w w' := (Fr.refl _ w).grown h3 (fun k hk => .inl (by simp [hk]))
    have hS := (H.append j hj).2 v' w' _ _ h2 hF h4
    refine ⟨v', w', ?_, ?_, hS⟩
    · unfold execOp
      simp only [ho, resolve, invoke, builtin, Sem.run_bind, Sem.run_pure, Result.andThen_ok, List.map_toArray, List.map_cons, List.map_nil, hs, hx, hr]
    · rcases ownsRow_one h2 with ⟨h1, h2, _⟩ | ⟨g, cap, h1, h2, _⟩
      · exact ⟨none, 0, by rw [h1, h2]⟩
      · exact ⟨_, cap, h1⟩
/-- A block that was made is a row that is read. -/
theorem St.blkIn (H : St W w R) (j : Nat) {b : Nat} {l : List Value} {e : TypeId} (sz n : Nat) (hl : l.length = n * sz) (hn : n ≤ maxLen) (hj : R[j]? = some (BlkT b (.cells l.toArray e))) : In w sz (some ⟨b, 0, none⟩) n n (fun k => l.getD k undef) := by
  refine ⟨Nat.le_refl _, hn, fun _ => ⟨b, 0, rfl⟩, fun b' off e k hk => ?_⟩
  simp only [Option.some.injEq, Addr.mk.injEq] at e
  obtain ⟨rfl, rfl, _⟩ := e
  have hb := H.blk j hj
  rw [Nat.zero_add]
  exact cell_blk hb (by rw [List.getElem?_toArray, List.getElem?_eq_getElem (by omega), List.getD_eq_getElem?_getD, List.getElem?_eq_getElem (by omega)]; rfl)
theorem wpCopied {P : Program} {ops : Array Oper} {rest : List Oper} {o : Oper} {a : Act} {Q : Exit → Act → World → Prop} (H : St W w R) (j : Nat) (hgd : o.guard = none) (s x : Operand) (t : TypeId)
    (ho : o.op = .call { callee := .builtin .append, args := #[s, x], argTypes := #[t, t] })
    (e : TypeId) (i : TypeInfo) (z : Value) (size bytes : Nat) (ht : P.underlying t = some (.slice e)) (hi : P.info? e = some i) (hz : i.zero = some z)
    (hsize : i.size = size) (hby : i.bytes = bytes) (hzs : z.cells.size = size) (hsz : 0 < size)
    (B : Nat) (hj : R[j]? = some (RowT e size (.slice (some ⟨B, 0, none⟩) 0 0) 0 [])) (hs : a.eval s = .slice (some ⟨B, 0, none⟩) 0 0)
    (ao : Option Addr) (m c : Nat) (V : Nat → Value) (hx : a.eval x = .slice ao m c) (hI : In w size ao m c V) (h1 : ∀ j, j < m * size → (V j).oneCell' = true) (hbytes : m * bytes ≤ 140737488355328)
    (h : ∀ g cap w', St W w' (R.set j (RowT e size (.slice (some ⟨g, 0, none⟩) m cap) m ((List.range (m * size)).map V))) → wpList P ops Q rest (a.put o.dst (.slice (some ⟨g, 0, none⟩) m cap)) w') : wpList P ops Q (o :: rest) a w := by
  obtain ⟨g, cap, w', hr, hS⟩ := H.copied j s x t ho e i z size bytes ht hi hz hsize hby hzs hsz B hj hs ao m c V hx hI h1 hbytes
  exact wpList_plain hgd fun K hK => wp_value hr (hK _ _ (h g cap w' hS))
theorem stepCopied {P : Program} {ops : Array Oper} {o : Oper} {a : Act} {K : Act → World → Prop} {Q : Exit → Act → World → Prop} {E : Prop} (H : St W w R) (j : Nat) (hgd : o.guard = none) (s x : Operand) (t : TypeId)
    (ho : o.op = .call { callee := .builtin .append, args := #[s, x], argTypes := #[t, t] })
    (e : TypeId) (i : TypeInfo) (z : Value) (size bytes : Nat) (ht : P.underlying t = some (.slice e)) (hi : P.info? e = some i) (hz : i.zero = some z)
    (hsize : i.size = size) (hby : i.bytes = bytes) (hzs : z.cells.size = size) (hsz : 0 < size)
    (B : Nat) (hj : R[j]? = some (RowT e size (.slice (some ⟨B, 0, none⟩) 0 0) 0 [])) (hs : a.eval s = .slice (some ⟨B, 0, none⟩) 0 0)
    (ao : Option Addr) (m c : Nat) (V : Nat → Value) (hx : a.eval x = .slice ao m c) (hI : In w size ao m c V) (h1 : ∀ j, j < m * size → (V j).oneCell' = true) (hbytes : m * bytes ≤ 140737488355328)
    (h : ∀ g cap w', St W w' (R.set j (RowT e size (.slice (some ⟨g, 0, none⟩) m cap) m ((List.range (m * size)).map V))) → K (a.put o.dst (.slice (some ⟨g, 0, none⟩) m cap)) w') : if Region.wanted o (yielded ops a.tmps) = true then Oper.wp P o a w K Q else E := by
  have hw : Region.wanted o (yielded ops a.tmps) = true := by simp [Region.wanted, hgd]
  rw [if_pos hw]
  obtain ⟨g, cap, w', hr, hS⟩ := H.copied j s x t ho e i z size bytes ht hi hz hsize hby hzs hsz B hj hs ao m c V hx hI h1 hbytes
  exact wp_value hr (h g cap w' hS)
theorem wpAdded {P : Program} {ops : Array Oper} {rest : List Oper} {o : Oper} {a : Act} {Q : Exit → Act → World → Prop} (H : St W w R) (j : Nat) (hgd : o.guard = none) (s x : Operand) (t : TypeId)
    (ho : o.op = .call { callee := .builtin .append, args := #[s, x], argTypes := #[t, t] })
    (e : TypeId) (i : TypeInfo) (z : Value) (size bytes : Nat) (ht : P.underlying t = some (.slice e)) (hi : P.info? e = some i) (hz : i.zero = some z)
    (hsize : i.size = size) (hby : i.bytes = bytes) (hzs : z.cells.size = size) (hsz : 0 < size)
    (v : Value) (n : Nat) (xs : List Value) (hj : R[j]? = some (RowT e size v n xs)) (hs : a.eval s = v)
    (ao : Option Addr) (m c : Nat) (V : Nat → Value) (hx : a.eval x = .slice ao m c) (hI : In w size ao m c V) (h1 : ∀ j, j < m * size → (V j).oneCell' = true)
    (h63 : n + m ≤ maxLen) (hbytes : (n + m) * bytes ≤ 140737488355328)
    (h : ∀ a' c' w', St W w' (R.set j (RowT e size (.slice a' (n + m) c') (n + m) (xs ++ (List.range (m * size)).map V))) → wpList P ops Q rest (a.put o.dst (.slice a' (n + m) c')) w') : wpList P ops Q (o :: rest) a w := by
  obtain ⟨v', w', hr, ⟨a', c', rfl⟩, hS⟩ := H.added j s x t ho e i z size bytes ht hi hz hsize hby hzs hsz v n xs hj hs ao m c V hx hI h1 h63 hbytes
  exact wpList_plain hgd fun K hK => wp_value hr (hK _ _ (h a' c' w' hS))
theorem stepAdded {P : Program} {ops : Array Oper} {o : Oper} {a : Act} {K : Act → World → Prop} {Q : Exit → Act → World → Prop} {E : Prop} (H : St W w R) (j : Nat) (hgd : o.guard = none) (s x : Operand) (t : TypeId)
    (ho : o.op = .call { callee := .builtin .append, args := #[s, x], argTypes := #[t, t] })
    (e : TypeId) (i : TypeInfo) (z : Value) (size bytes : Nat) (ht : P.underlying t = some (.slice e)) (hi : P.info? e = some i) (hz : i.zero = some z)
    (hsize : i.size = size) (hby : i.bytes = bytes) (hzs : z.cells.size = size) (hsz : 0 < size)
    (v : Value) (n : Nat) (xs : List Value) (hj : R[j]? = some (RowT e size v n xs)) (hs : a.eval s = v)
    (ao : Option Addr) (m c : Nat) (V : Nat → Value) (hx : a.eval x = .slice ao m c) (hI : In w size ao m c V) (h1 : ∀ j, j < m * size → (V j).oneCell' = true)
    (h63 : n + m ≤ maxLen) (hbytes : (n + m) * bytes ≤ 140737488355328)
    (h : ∀ a' c' w', St W w' (R.set j (RowT e size (.slice a' (n + m) c') (n + m) (xs ++ (List.range (m * size)).map V))) → K (a.put o.dst (.slice a' (n + m) c')) w') : if Region.wanted o (yielded ops a.tmps) = true then Oper.wp P o a w K Q else E := by
  have hw : Region.wanted o (yielded ops a.tmps) = true := by simp [Region.wanted, hgd]
  rw [if_pos hw]
  obtain ⟨v', w', hr, ⟨a', c', rfl⟩, hS⟩ := H.added j s x t ho e i z size bytes ht hi hz hsize hby hzs hsz v n xs hj hs ao m c V hx hI h1 h63 hbytes
  exact wp_value hr (h a' c' w' hS)
end
end Go.Proofs.YtmgnekjhlfghaaaGreat

/-
  Things packed into one, and taken apart again. Of no program.
-/
namespace Go.Proofs.YtmgnekjhlfghaaaGreat
open Go.RowKit
set_option linter.unusedVariables false
set_option linter.unusedSimpArgs false

/-- Several things in one. -/
def Pack1 (L : List Thing1) : Thing1 := fun w F => (∀ A, A ∈ L → Loc1 A) ∧ ∃ FF : Nat → List Nat, F = (List.range L.length).flatMap FF ∧ (∀ (k : Nat) (A : Thing1), L[k]? = some A → A w (FF k)) ∧ ∀ j k : Nat, j < L.length → k < L.length → j ≠ k → ∀ x, x ∈ FF j → x ∉ FF k
def PackT (L : List Thing1) : Thing := own (Pack1 L)
theorem Pack1.keep {L : List Thing1} {w w' : World} {F S : List Nat} (h : Pack1 L w F) (hF : Fr S w w') (hd : ∀ x, x ∈ F → x ∉ S) : Pack1 L w' F := by
  obtain ⟨h0, FF, rfl, h1, h2⟩ := h
  refine ⟨h0, FF, rfl, fun k A hA => ?_, h2⟩
  have := h0 A (List.mem_of_getElem? hA)
  exact this.keep (h1 k A hA) hF (fun x hx => hd x (List.mem_flatMap.2 ⟨k, by simpa using (List.getElem?_eq_some_iff.1 hA).1, hx⟩))
theorem Pack1.lt {L : List Thing1} {w : World} {F : List Nat} (h : Pack1 L w F) : ∀ x, x ∈ F → x < w.heap.size := by
  obtain ⟨h0, FF, rfl, h1, h2⟩ := h
  intro x hx
  obtain ⟨k, hk, hx⟩ := List.mem_flatMap.1 hx
  have hk : k < L.length := by simpa using hk
  have := h0 _ (List.getElem_mem hk)
  exact this.lt (h1 k _ (List.getElem?_eq_getElem hk)) x hx
instance (L : List Thing1) : Loc1 (Pack1 L) where
  keep := fun h hF hd => h.keep hF hd
  lt := fun h x hx => h.lt x hx

/-- Nothing at all. -/
def Nil1 : Thing1 := fun _ F => F = []
def NilT : Thing := own Nil1
instance : Loc1 Nil1 where
  keep := fun h _ _ => h
  lt := fun h x hx => by rw [h] at hx; cases hx

section
variable {W : Base} {w : World} {R : List Thing}

theorem St.unpackG (H : St W w R) (i : Nat) {B : Thing1} (hi : R[i]? = some (own B)) : ∃ F, B w F ∧ ∀ L : List Thing1, Pack1 L w F → St W w (R.set i NilT ++ L.map own) := by
  obtain ⟨h1, Fs, Gs, h2, h3, h4⟩ := H
  have hlt := lt_of_get hi
  obtain ⟨⟨hG, hB⟩, hL, hf, hg⟩ := h2 i _ hi
  refine ⟨Fs i, hB, fun L hP => ?_⟩
  obtain ⟨p0, FF, pF, p1, p2⟩ := hP
  have hmem : ∀ k, k < L.length → ∀ x, x ∈ FF k → x ∈ Fs i := fun k hk x hx => by rw [pF]; exact List.mem_flatMap.2 ⟨k, by simpa using hk, hx⟩
  refine ⟨h1, fun j => if j < R.length then (if j = i then [] else Fs j) else FF (j - R.length), fun j => if j < R.length then (if j = i then [] else Gs j) else [], fun j A hA => ?_, fun j k hj hk hjk x hx hxk => ?_, fun j k hj hk x hx hxk => ?_⟩
  · by_cases hjr : j < R.length
    · rw [List.getElem?_append_left (by simpa using hjr)] at hA
      simp only [if_pos hjr]
      by_cases hji : j = i
      · subst hji
        rw [List.getElem?_set_self hlt] at hA
        cases hA
        simp only [if_pos]
        exact ⟨⟨rfl, rfl⟩, (inferInstance : Loc (own Nil1)), by simp, by simp⟩
      · rw [List.getElem?_set_ne (fun e => hji e.symm)] at hA
        simp only [if_neg hji]
        exact h2 j A hA
    · rw [List.getElem?_append_right (by simpa using hjr)] at hA
      simp only [List.length_set, List.getElem?_map] at hA
      obtain ⟨A1, hA1, rfl⟩ := Option.map_eq_some_iff.1 hA
      simp only [if_neg hjr]
      have hk := (List.getElem?_eq_some_iff.1 hA1).1
      have hl := p0 A1 (List.mem_of_getElem? hA1)
      exact ⟨⟨rfl, p1 _ _ hA1⟩, inferInstance, fun x hx => hf x (hmem _ hk x hx), by simp⟩
  · simp only [List.length_append, List.length_set, List.length_map] at hj hk
    by_cases hjr : j < R.length
    · simp only [if_pos hjr] at hx
      by_cases hji : j = i
      · simp [hji] at hx
      · simp only [if_neg hji] at hx
        by_cases hkr : k < R.length
        · simp only [if_pos hkr] at hxk
          by_cases hki : k = i
          · simp [hki] at hxk
          · simp only [if_neg hki] at hxk
            exact h3 j k hjr hkr hjk x hx hxk
        · simp only [if_neg hkr] at hxk
          exact h3 j i hjr hlt hji x hx (hmem _ (by omega) x hxk)
    · simp only [if_neg hjr] at hx
      by_cases hkr : k < R.length
      · simp only [if_pos hkr] at hxk
        by_cases hki : k = i
        · simp [hki] at hxk
        · simp only [if_neg hki] at hxk
          exact h3 k i hkr hlt hki x hxk (hmem _ (by omega) x hx)
      · simp only [if_neg hkr] at hxk
        exact p2 _ _ (by omega) (by omega) (by omega) x hx hxk
  · simp only [List.length_append, List.length_set, List.length_map] at hj hk
    by_cases hkr : k < R.length
    · simp only [if_pos hkr] at hxk
      by_cases hki : k = i
      · simp [hki] at hxk
      · simp only [if_neg hki] at hxk
        by_cases hjr : j < R.length
        · simp only [if_pos hjr] at hx
          by_cases hji : j = i
          · simp [hji] at hx
          · simp only [if_neg hji] at hx
            exact h4 j k hjr hkr x hx hxk
        · simp only [if_neg hjr] at hx
          exact h4 i k hlt hkr x (hmem _ (by omega) x hx) hxk
    · simp [if_neg hkr] at hxk

theorem St.packG {T : List Thing} {L : List Thing1} (H : St W w (T ++ L.map own)) (i : Nat) (hi : T[i]? = some NilT) (hL : ∀ A, A ∈ L → Loc1 A) {B : Thing1} [hB : Loc1 B] (h : ∀ F, Pack1 L w F → B w F) : St W w (T.set i (own B)) := by
  obtain ⟨h1, Fs, Gs, h2, h3, h4⟩ := H
  have hlt := lt_of_get hi
  have hget : ∀ k A, L[k]? = some A → (T ++ L.map own)[T.length + k]? = some (own A) := fun k A hk => by
    rw [List.getElem?_append_right (by omega), Nat.add_sub_cancel_left, List.getElem?_map, hk]; rfl
  have hP : Pack1 L w ((List.range L.length).flatMap fun k => Fs (T.length + k)) := by
    refine ⟨hL, fun k => Fs (T.length + k), rfl, fun k A hA => ?_, fun j k hj hk hjk => ?_⟩
    · exact (h2 _ _ (hget k A hA)).1.2
    · exact h3 _ _ (by simp; omega) (by simp; omega) (by omega)
  have hmem : ∀ x, x ∈ ((List.range L.length).flatMap fun k => Fs (T.length + k)) → ∃ k, k < L.length ∧ x ∈ Fs (T.length + k) := fun x hx => by
    obtain ⟨k, hk, hx⟩ := List.mem_flatMap.1 hx
    exact ⟨k, by simpa using hk, hx⟩
  refine ⟨h1, fun j => if j = i then (List.range L.length).flatMap (fun k => Fs (T.length + k)) else Fs j, fun j => if j = i then [] else Gs j, fun j A hA => ?_, fun j k hj hk hjk x hx hxk => ?_, fun j k hj hk x hx hxk => ?_⟩
  · by_cases hji : j = i
    · subst hji
      rw [List.getElem?_set_self hlt] at hA
      cases hA
      simp only [if_pos]
      refine ⟨⟨rfl, h _ hP⟩, inferInstance, fun x hx => ?_, by simp⟩
      obtain ⟨k, hk, hx⟩ := hmem x hx
      exact (h2 _ _ (hget k _ (List.getElem?_eq_getElem hk))).2.2.1 x hx
    · rw [List.getElem?_set_ne (fun e => hji e.symm)] at hA
      simp only [if_neg hji]
      have hj := lt_of_get hA
      exact h2 j A (by rw [List.getElem?_append_left hj]; exact hA)
  · simp only [List.length_set] at hj hk
    by_cases hji : j = i
    · simp only [if_pos hji] at hx
      have hki : ¬ k = i := fun e => hjk (hji.trans e.symm)
      simp only [if_neg hki] at hxk
      obtain ⟨m, hm, hx⟩ := hmem x hx
      exact h3 _ _ (by simp; omega) (by simp; omega) (by omega) x hx hxk
    · simp only [if_neg hji] at hx
      by_cases hki : k = i
      · simp only [if_pos hki] at hxk
        obtain ⟨m, hm, hxk⟩ := hmem x hxk
        exact h3 _ _ (by simp; omega) (by simp; omega) (by omega) x hx hxk
      · simp only [if_neg hki] at hxk
        exact h3 _ _ (by simp; omega) (by simp; omega) hjk x hx hxk
  · simp only [List.length_set] at hj hk
    by_cases hki : k = i
    · simp [if_pos hki] at hxk
    · simp only [if_neg hki] at hxk
      by_cases hji : j = i
      · simp only [if_pos hji] at hx
        obtain ⟨m, hm, hx⟩ := hmem x hx
        exact h4 _ _ (by simp; omega) (by simp; omega) x hx hxk
      · simp only [if_neg hji] at hx
        exact h4 _ _ (by simp; omega) (by simp; omega) x hx hxk

/-- Behind the end: several things become one. -/
theorem St.packEnd {L : List Thing1} (H : St W w (R ++ L.map own)) (hL : ∀ A, A ∈ L → Loc1 A) {B : Thing1} [hB : Loc1 B] (h : ∀ F, Pack1 L w F → B w F) : St W w (R ++ [own B]) := by
  have h1 : St W w ((R ++ L.map own) ++ [NilT]) := H.new (A := Nil1) (F := []) (Fr.refl _ _) inferInstance rfl (by simp)
  have h2 : St W w ((R ++ [NilT]) ++ L.map own) := by
    refine h1.pick (List.range R.length ++ [(R ++ L.map own).length] ++ (List.range L.length).map (R.length + ·)) ?_ (by simp <;> omega) (fun k j hk => ?_)
    · rw [List.nodup_append, List.nodup_append]
      refine ⟨⟨List.nodup_range, by simp, fun a ha b hb => by simp at ha hb; omega⟩, List.Pairwise.map _ (fun a b hab => by simpa using hab) List.nodup_range, fun a ha b hb => ?_⟩
      simp at ha hb
      obtain ⟨c, hc, rfl⟩ := hb
      omega
    · by_cases hk1 : k < R.length
      · rw [List.append_assoc, List.getElem?_append_left (by simpa using hk1), List.getElem?_range hk1] at hk
        cases hk
        rw [List.append_assoc, List.getElem?_append_left hk1, List.append_assoc, List.getElem?_append_left hk1]
      · by_cases hk2 : k = R.length
        · subst hk2
          have e0 : (List.range R.length ++ [(R ++ L.map own).length] ++ (List.range L.length).map (R.length + ·))[R.length]? = some (R ++ L.map own).length := by
            rw [List.append_assoc, List.getElem?_append_right (by simp)]; simp
          rw [e0] at hk
          cases hk
          have e1 : ((R ++ [NilT]) ++ L.map own)[R.length]? = some NilT := by
            rw [List.getElem?_append_left (by simp), List.getElem?_append_right (Nat.le_refl _), Nat.sub_self]; rfl
          have e2 : ((R ++ L.map own) ++ [NilT])[(R ++ L.map own).length]? = some NilT := by
            rw [List.getElem?_append_right (Nat.le_refl _), Nat.sub_self]; rfl
          rw [e1, e2]
        · rw [List.getElem?_append_right (by simp; omega)] at hk
          simp only [List.length_append, List.length_range, List.length_singleton, List.getElem?_map] at hk
          obtain ⟨m, hm, rfl⟩ := Option.map_eq_some_iff.1 hk
          obtain ⟨hm1, hm2⟩ := List.getElem?_eq_some_iff.1 hm
          simp at hm1 hm2
          rw [List.getElem?_append_right (by simp; omega), List.append_assoc, List.getElem?_append_right (by omega), Nat.add_sub_cancel_left, List.getElem?_append_left (by simpa using by omega)]
          congr 1
          simp; omega
  have h3 := h2.packG R.length (by simp) hL h
  rwa [List.set_append_right _ _ (by omega), Nat.sub_self] at h3

/-! ### The order of the things doesn't count -/
theorem St.swap {A B : Thing} {T : List Thing} (H : St W w (R ++ A :: B :: T)) : St W w (R ++ B :: A :: T) := by
  have hinj : ∀ a b : Nat, (if a = R.length then R.length + 1 else if a = R.length + 1 then R.length else a) = (if b = R.length then R.length + 1 else if b = R.length + 1 then R.length else b) → a = b := fun a b h => by
    split at h <;> split at h <;> (try split at h) <;> (try split at h) <;> omega
  refine H.pick ((List.range (R ++ A :: B :: T).length).map fun k => if k = R.length then R.length + 1 else if k = R.length + 1 then R.length else k) (List.Pairwise.map _ (fun a b hab h => hab (hinj a b h)) List.nodup_range) (by simp) (fun k i hk => ?_)
  rw [List.getElem?_map] at hk
  obtain ⟨j, hj, rfl⟩ := Option.map_eq_some_iff.1 hk
  obtain ⟨h1, h2⟩ := List.getElem?_eq_some_iff.1 hj
  simp at h1 h2
  subst h2
  by_cases e1 : k = R.length
  · subst e1
    rw [if_pos rfl, List.getElem?_append_right (Nat.le_refl _), List.getElem?_append_right (by omega)]
    simp
  · rw [if_neg e1]
    by_cases e2 : k = R.length + 1
    · subst e2
      rw [if_pos rfl, List.getElem?_append_right (by omega), List.getElem?_append_right (Nat.le_refl _)]
      simp
    · rw [if_neg e2]
      by_cases e3 : k < R.length
      · rw [List.getElem?_append_left e3, List.getElem?_append_left e3]
      · obtain ⟨m, hm⟩ : ∃ m, k = R.length + (m + 2) := ⟨k - R.length - 2, by omega⟩
        subst hm
        rw [List.getElem?_append_right (by omega), List.getElem?_append_right (by omega), Nat.add_sub_cancel_left]
        rfl
theorem St.permG {A B : List Thing} (h : A.Perm B) : ∀ {R : List Thing}, St W w (R ++ A) → St W w (R ++ B) := by
  induction h with
  | nil => exact fun H => H
  | cons x _ ih =>
    intro R H
    have h1 := ih (R := R ++ [x]) (by rw [List.append_assoc]; exact H)
    rw [List.append_assoc] at h1
    exact h1
  | swap x y l => exact fun H => H.swap
  | trans _ _ ih1 ih2 => exact fun H => ih2 (ih1 H)
theorem St.perm {R' : List Thing} (H : St W w R) (h : R.Perm R') : St W w R' := by
  have := St.permG (R := []) h (by simpa using H)
  simpa using this
/-- Some of the things, in any order. -/
theorem St.sub {A B : List Thing} (H : St W w R) (h : R.Perm (A ++ B)) : St W w A := by
  have h1 := (H.perm h).take A.length
  rwa [List.take_left'] at h1
  rfl
end
end Go.Proofs.YtmgnekjhlfghaaaGreat

/-
  Things that read, too, packed into one, and taken apart again. Of no program.
-/
namespace Go.Proofs.YtmgnekjhlfghaaaGreat
open Go.RowKit
set_option linter.unusedVariables false
set_option linter.unusedSimpArgs false

/-- Several things in one. -/
def PackG (L : List Thing) : Thing := fun w F G => (∀ A, A ∈ L → Loc A) ∧ ∃ FF GG : Nat → List Nat, F = (List.range L.length).flatMap FF ∧ G = (List.range L.length).flatMap GG ∧ (∀ (k : Nat) (A : Thing), L[k]? = some A → A w (FF k) (GG k)) ∧
  (∀ j k : Nat, j < L.length → k < L.length → j ≠ k → ∀ x, x ∈ FF j → x ∉ FF k) ∧ ∀ j k : Nat, j < L.length → k < L.length → ∀ x, x ∈ FF j → x ∉ GG k
theorem PackG.keep {L : List Thing} {w w' : World} {F G S : List Nat} (h : PackG L w F G) (hF : Fr S w w') (hd : ∀ x, x ∈ F → x ∉ S) (hg : ∀ x, x ∈ G → x ∉ S) : PackG L w' F G := by
  obtain ⟨h0, FF, GG, rfl, rfl, h1, h2, h3⟩ := h
  refine ⟨h0, FF, GG, rfl, rfl, fun k A hA => ?_, h2, h3⟩
  have := h0 A (List.mem_of_getElem? hA)
  have hk : k ∈ List.range L.length := by simpa using (List.getElem?_eq_some_iff.1 hA).1
  exact this.keep (h1 k A hA) hF (fun x hx => hd x (List.mem_flatMap.2 ⟨k, hk, hx⟩)) (fun x hx => hg x (List.mem_flatMap.2 ⟨k, hk, hx⟩))
theorem PackG.lt {L : List Thing} {w : World} {F G : List Nat} (h : PackG L w F G) : (∀ x, x ∈ F → x < w.heap.size) ∧ ∀ x, x ∈ G → x < w.heap.size := by
  obtain ⟨h0, FF, GG, rfl, rfl, h1, h2, h3⟩ := h
  constructor
  · intro x hx
    obtain ⟨k, hk, hx⟩ := List.mem_flatMap.1 hx
    have hk : k < L.length := by simpa using hk
    have := h0 _ (List.getElem_mem hk)
    exact (this.lt (h1 k _ (List.getElem?_eq_getElem hk))).1 x hx
  · intro x hx
    obtain ⟨k, hk, hx⟩ := List.mem_flatMap.1 hx
    have hk : k < L.length := by simpa using hk
    have := h0 _ (List.getElem_mem hk)
    exact (this.lt (h1 k _ (List.getElem?_eq_getElem hk))).2 x hx
instance (L : List Thing) : Loc (PackG L) where
  keep := fun h hF hd hg => h.keep hF hd hg
  lt := fun h => h.lt

section
variable {W : Base} {w : World} {R : List Thing}

theorem St.unpack2 (H : St W w R) (i : Nat) {B : Thing} (hi : R[i]? = some B) : ∃ F G, B w F G ∧ ∀ L : List Thing, PackG L w F G → St W w (R.set i NilT ++ L) := by
  obtain ⟨h1, Fs, Gs, h2, h3, h4⟩ := H
  have hlt := lt_of_get hi
  obtain ⟨hB, hL, hf, hg⟩ := h2 i _ hi
  refine ⟨Fs i, Gs i, hB, fun L hP => ?_⟩
  obtain ⟨p0, FF, GG, pF, pG, p1, p2, p3⟩ := hP
  have hmem : ∀ k, k < L.length → ∀ x, x ∈ FF k → x ∈ Fs i := fun k hk x hx => by rw [pF]; exact List.mem_flatMap.2 ⟨k, by simpa using hk, hx⟩
  have hmeg : ∀ k, k < L.length → ∀ x, x ∈ GG k → x ∈ Gs i := fun k hk x hx => by rw [pG]; exact List.mem_flatMap.2 ⟨k, by simpa using hk, hx⟩
  refine ⟨h1, fun j => if j < R.length then (if j = i then [] else Fs j) else FF (j - R.length), fun j => if j < R.length then (if j = i then [] else Gs j) else GG (j - R.length), fun j A hA => ?_, fun j k hj hk hjk x hx hxk => ?_, fun j k hj hk x hx hxk => ?_⟩
  · by_cases hjr : j < R.length
    · rw [List.getElem?_append_left (by simpa using hjr)] at hA
      simp only [if_pos hjr]
      by_cases hji : j = i
      · subst hji
        rw [List.getElem?_set_self hlt] at hA
        cases hA
        simp only [if_pos]
        exact ⟨⟨rfl, rfl⟩, (inferInstance : Loc (own Nil1)), by simp, by simp⟩
      · rw [List.getElem?_set_ne (fun e => hji e.symm)] at hA
        simp only [if_neg hji]
        exact h2 j A hA
    · rw [List.getElem?_append_right (by simpa using hjr)] at hA
      simp only [List.length_set] at hA
      simp only [if_neg hjr]
      have hk := (List.getElem?_eq_some_iff.1 hA).1
      exact ⟨p1 _ _ hA, p0 A (List.mem_of_getElem? hA), fun x hx => hf x (hmem _ hk x hx), fun x hx => hg x (hmeg _ hk x hx)⟩
  · simp only [List.length_append, List.length_set] at hj hk
    by_cases hjr : j < R.length
    · simp only [if_pos hjr] at hx
      by_cases hji : j = i
      · simp [hji] at hx
      · simp only [if_neg hji] at hx
        by_cases hkr : k < R.length
        · simp only [if_pos hkr] at hxk
          by_cases hki : k = i
          · simp [hki] at hxk
          · simp only [if_neg hki] at hxk
            exact h3 j k hjr hkr hjk x hx hxk
        · simp only [if_neg hkr] at hxk
          exact h3 j i hjr hlt hji x hx (hmem _ (by omega) x hxk)
    · simp only [if_neg hjr] at hx
      by_cases hkr : k < R.length
      · simp only [if_pos hkr] at hxk
        by_cases hki : k = i
        · simp [hki] at hxk
        · simp only [if_neg hki] at hxk
          exact h3 k i hkr hlt hki x hxk (hmem _ (by omega) x hx)
      · simp only [if_neg hkr] at hxk
        exact p2 _ _ (by omega) (by omega) (by omega) x hx hxk
  · simp only [List.length_append, List.length_set] at hj hk
    by_cases hjr : j < R.length
    · simp only [if_pos hjr] at hx
      by_cases hji : j = i
      · simp [hji] at hx
      · simp only [if_neg hji] at hx
        by_cases hkr : k < R.length
        · simp only [if_pos hkr] at hxk
          by_cases hki : k = i
          · simp [hki] at hxk
          · simp only [if_neg hki] at hxk
            exact h4 j k hjr hkr x hx hxk
        · simp only [if_neg hkr] at hxk
          exact h4 j i hjr hlt x hx (hmeg _ (by omega) x hxk)
    · simp only [if_neg hjr] at hx
      by_cases hkr : k < R.length
      · simp only [if_pos hkr] at hxk
        by_cases hki : k = i
        · simp [hki] at hxk
        · simp only [if_neg hki] at hxk
          exact h4 i k hlt hkr x (hmem _ (by omega) x hx) hxk
      · simp only [if_neg hkr] at hxk
        exact p3 _ _ (by omega) (by omega) x hx hxk

theorem St.pack2 {T : List Thing} {L : List Thing} (H : St W w (T ++ L)) (i : Nat) (hi : T[i]? = some NilT) (hL : ∀ A, A ∈ L → Loc A) {B : Thing} (hB : Loc B) (h : ∀ F G, PackG L w F G → B w F G) : St W w (T.set i B) := by
  obtain ⟨h1, Fs, Gs, h2, h3, h4⟩ := H
  have hlt := lt_of_get hi
  have hget : ∀ k A, L[k]? = some A → (T ++ L)[T.length + k]? = some A := fun k A hk => by
    rw [List.getElem?_append_right (by omega), Nat.add_sub_cancel_left, hk]
  have hP : PackG L w ((List.range L.length).flatMap fun k => Fs (T.length + k)) ((List.range L.length).flatMap fun k => Gs (T.length + k)) := by
    refine ⟨hL, fun k => Fs (T.length + k), fun k => Gs (T.length + k), rfl, rfl, fun k A hA => ?_, fun j k hj hk hjk => ?_, fun j k hj hk => ?_⟩
    · exact (h2 _ _ (hget k A hA)).1
    · exact h3 _ _ (by simp; omega) (by simp; omega) (by omega)
    · exact h4 _ _ (by simp; omega) (by simp; omega)
  have hmem : ∀ x, x ∈ ((List.range L.length).flatMap fun k => Fs (T.length + k)) → ∃ k, k < L.length ∧ x ∈ Fs (T.length + k) := fun x hx => by
    obtain ⟨k, hk, hx⟩ := List.mem_flatMap.1 hx
    exact ⟨k, by simpa using hk, hx⟩
  have hmeg : ∀ x, x ∈ ((List.range L.length).flatMap fun k => Gs (T.length + k)) → ∃ k, k < L.length ∧ x ∈ Gs (T.length + k) := fun x hx => by
    obtain ⟨k, hk, hx⟩ := List.mem_flatMap.1 hx
    exact ⟨k, by simpa using hk, hx⟩
  refine ⟨h1, fun j => if j = i then (List.range L.length).flatMap (fun k => Fs (T.length + k)) else Fs j, fun j => if j = i then (List.range L.length).flatMap (fun k => Gs (T.length + k)) else Gs j, fun j A hA => ?_, fun j k hj hk hjk x hx hxk => ?_, fun j k hj hk x hx hxk => ?_⟩
  · by_cases hji : j = i
    · subst hji
      rw [List.getElem?_set_self hlt] at hA
      cases hA
      simp only [if_pos]
      refine ⟨h _ _ hP, hB, fun x hx => ?_, fun x hx => ?_⟩
      · obtain ⟨k, hk, hx⟩ := hmem x hx
        exact (h2 _ _ (hget k _ (List.getElem?_eq_getElem hk))).2.2.1 x hx
      · obtain ⟨k, hk, hx⟩ := hmeg x hx
        exact (h2 _ _ (hget k _ (List.getElem?_eq_getElem hk))).2.2.2 x hx
    · rw [List.getElem?_set_ne (fun e => hji e.symm)] at hA
      simp only [if_neg hji]
      have hj := lt_of_get hA
      exact h2 j A (by rw [List.getElem?_append_left hj]; exact hA)
  · simp only [List.length_set] at hj hk
    by_cases hji : j = i
    · simp only [if_pos hji] at hx
      have hki : ¬ k = i := fun e => hjk (hji.trans e.symm)
      simp only [if_neg hki] at hxk
      obtain ⟨m, hm, hx⟩ := hmem x hx
      exact h3 _ _ (by simp; omega) (by simp; omega) (by omega) x hx hxk
    · simp only [if_neg hji] at hx
      by_cases hki : k = i
      · simp only [if_pos hki] at hxk
        obtain ⟨m, hm, hxk⟩ := hmem x hxk
        exact h3 _ _ (by simp; omega) (by simp; omega) (by omega) x hx hxk
      · simp only [if_neg hki] at hxk
        exact h3 _ _ (by simp; omega) (by simp; omega) hjk x hx hxk
  · simp only [List.length_set] at hj hk
    by_cases hki : k = i
    · simp only [if_pos hki] at hxk
      obtain ⟨m, hm, hxk⟩ := hmeg x hxk
      by_cases hji : j = i
      · simp only [if_pos hji] at hx
        obtain ⟨m2, hm2, hx⟩ := hmem x hx
        exact h4 _ _ (by simp; omega) (by simp; omega) x hx hxk
      · simp only [if_neg hji] at hx
        exact h4 _ _ (by simp; omega) (by simp; omega) x hx hxk
    · simp only [if_neg hki] at hxk
      by_cases hji : j = i
      · simp only [if_pos hji] at hx
        obtain ⟨m, hm, hx⟩ := hmem x hx
        exact h4 _ _ (by simp; omega) (by simp; omega) x hx hxk
      · simp only [if_neg hji] at hx
        exact h4 _ _ (by simp; omega) (by simp; omega) x hx hxk
/-- A thing is there that has nothing: room for a pack. -/
theorem St.room (H : St W w R) : St W w (NilT :: R) := by
  have h1 : St W w (R ++ [NilT]) := H.new (A := Nil1) (F := []) (Fr.refl _ _) inferInstance rfl (by simp)
  exact h1.perm List.perm_append_comm
/-- Behind the end: several things become one. -/
theorem St.packEnd2 {L : List Thing} (H : St W w (R ++ L)) (hL : ∀ A, A ∈ L → Loc A) {B : Thing} (hB : Loc B) (h : ∀ F G, PackG L w F G → B w F G) : St W w (R ++ [B]) := by
  have h1 : St W w ((NilT :: R) ++ L) := H.room
  have h2 := h1.pack2 0 rfl hL hB h
  exact h2.perm (List.perm_append_comm (l₁ := [B]) (l₂ := R))
end
end Go.Proofs.YtmgnekjhlfghaaaGreat
