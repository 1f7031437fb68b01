/-
  That a region may be walked in the text's order: by a small table of its operations (its destination, what it looks at, what it waits for). Of no program.
-/
import Derived.Test.YtdobbmlaokolmaaCalm
namespace Go.Proofs.Ytdobbmlaokolmaa
set_option linter.unusedVariables false

/-- What is asked of an operation: its destination, what it looks at, what it waits for. -/
def lexRow (ops : Array Oper) (o : Oper) : Option Nat × List Nat × List Nat :=
  (o.dst, o.looksAt ops, (o.after.toList.filter fun e => Region.binds .any e).map (·.on))
def rowApart (x y : Option Nat × List Nat × List Nat) : Bool :=
  (match x.1 with | some d => !(y.2.1.contains d) && y.1 != some d | none => true) &&
  (match y.1 with | some d => !(x.2.1.contains d) | none => true)
def rowsGood : Nat → List (Option Nat × List Nat × List Nat) → Bool
  | _, [] => true
  | k, x :: rest => x.2.2.all (fun i => Nat.blt i k) && rest.all (fun y => y.2.2.contains k || rowApart x y) && rowsGood (k + 1) rest

theorem rowApart_apart {ops : Array Oper} {x y : Oper} (h : rowApart (lexRow ops x) (lexRow ops y) = true) : x.apart ops y = true := h

theorem rowsGood_at : ∀ (D : List (Option Nat × List Nat × List Nat)) (k : Nat), rowsGood k D = true → ∀ (i : Nat) (x : Option Nat × List Nat × List Nat), D[i]? = some x →
    (∀ j, j ∈ x.2.2 → j < k + i) ∧ ∀ (j : Nat) (y : Option Nat × List Nat × List Nat), i < j → D[j]? = some y → (k + i) ∈ y.2.2 ∨ rowApart x y = true
  | [], _, _, i, x, hi => by simp at hi
  | z :: rest, k, h, i, x, hi => by
    simp only [rowsGood, Bool.and_eq_true] at h
    cases i with
    | zero =>
      simp at hi; subst hi
      refine ⟨fun j hj => by have := List.all_eq_true.1 h.1.1 j hj; simpa using this, fun j y hj hy => ?_⟩
      obtain ⟨j', rfl⟩ : ∃ j', j = j' + 1 := ⟨j - 1, by omega⟩
      have hm : y ∈ rest := List.mem_of_getElem? (by simpa using hy)
      have := List.all_eq_true.1 h.1.2 y hm
      simp only [Bool.or_eq_true, List.contains_iff_mem] at this
      exact this
    | succ i =>
      have := rowsGood_at rest (k + 1) h.2 i x (by simpa using hi)
      refine ⟨fun j hj => by have := this.1 j hj; omega, fun j y hj hy => ?_⟩
      obtain ⟨j', rfl⟩ : ∃ j', j = j' + 1 := ⟨j - 1, by omega⟩
      have h2 := this.2 j' y (by omega) (by simpa using hy)
      rwa [show k + 1 + i = k + (i + 1) by omega] at h2

theorem lexFrom_good {l : List Oper} {D : List (Option Nat × List Nat × List Nat)} (hD : l.map (lexRow l.toArray) = D) (hg : rowsGood 0 D = true) :
    ∀ (fuel k : Nat) (listed : Array Bool), k + fuel = l.length → listed.size = l.length → (∀ i, i < l.length → listed[i]? = some (decide (i < k))) → Region.lexFrom .any l.toArray fuel k listed = true := by
  intro fuel
  have hrow : ∀ (i : Nat) (o : Oper), l[i]? = some o → D[i]? = some (lexRow l.toArray o) := fun i o h => by rw [← hD, List.getElem?_map, h]; rfl
  have hgood := rowsGood_at D 0 hg
  induction fuel with
  | zero =>
    intro k listed hk hs hl
    rw [Region.lexFrom, List.isEmpty_iff]
    refine List.eq_nil_iff_forall_not_mem.2 fun i hi => ?_
    obtain ⟨h0, o, ho, _⟩ := mem_ready.1 hi
    have hlt : i < l.length := by
      have := (Array.getElem?_eq_some_iff.1 ho).1
      simpa using this
    have := hl i hlt
    simp [this] at h0
    omega
  | succ fuel ih =>
    intro k listed hk hs hl
    have hkl : k < l.length := by omega
    have ho : l[k]? = some l[k] := List.getElem?_eq_getElem hkl
    have hoA : l.toArray[k]? = some l[k] := by simp
    have hg0 := hgood k _ (hrow k _ ho)
    simp only [Region.lexFrom, Bool.and_eq_true, List.contains_iff_mem]
    refine ⟨⟨?_, ?_⟩, ?_⟩
    · refine mem_ready.2 ⟨?_, l[k], hoA, fun e he hb => ?_⟩
      · simp [hl k hkl]
      · have hm : e.on ∈ (lexRow l.toArray l[k]).2.2 := List.mem_map.2 ⟨e, List.mem_filter.2 ⟨by simpa using he, hb⟩, rfl⟩
        have := hg0.1 _ hm
        simp [hl e.on (by omega)]; omega
    · rw [Region.free, hoA]
      simp only [List.all_eq_true, List.mem_range, Bool.or_eq_true]
      intro j hj
      have hj' : j < l.length := by simpa using hj
      by_cases h1 : j = k
      · simp [h1]
      · by_cases h2 : j < k
        · left; right
          simp [hl j hj', h2]
        · right
          have hoj : l[j]? = some l[j] := List.getElem?_eq_getElem hj'
          have hojA : l.toArray[j]? = some l[j] := by simp
          rw [hojA]
          rcases hg0.2 j _ (by omega) (hrow j _ hoj) with h3 | h3
          · simp only [Bool.or_eq_true]
            left
            obtain ⟨e, he, hon⟩ := List.mem_map.1 h3
            obtain ⟨he1, he2⟩ := List.mem_filter.1 he
            rw [Array.any_eq_true']
            exact ⟨e, by simpa using he1, by simp [he2]; omega⟩
          · simp only [Bool.or_eq_true]
            exact .inr (rowApart_apart h3)
    · refine ih (k + 1) _ (by omega) (by simp [hs]) fun i hi => ?_
      by_cases h1 : i = k
      · subst h1
        rw [Array.getElem?_setIfInBounds_self_of_lt (by omega)]
        simp
      · rw [Array.getElem?_setIfInBounds_ne (by omega), hl i hi]
        congr 1
        simp only [decide_eq_decide]
        omega

/-- The table is laid; it is good. -/
theorem lexB_of {l : List Oper} {D : List (Option Nat × List Nat × List Nat)} (hn : Region.noSelect l.toArray = true) (hD : l.map (lexRow l.toArray) = D) (hg : rowsGood 0 D = true) : Region.lexB .any l.toArray = true := by
  rw [Region.lexB, hn, Bool.true_and]
  exact lexFrom_good hD hg _ 0 _ (by simp) (by simp) fun i hi => by simp [hi]

theorem lexB_of' {l : List Oper} (hn : Region.noSelect l.toArray = true) (hg : rowsGood 0 (l.map (lexRow l.toArray)) = true) : Region.lexB .any l.toArray = true := lexB_of hn rfl hg

/-- An operation whose guard's Bool isn't known. -/
theorem calmRow_sym {P : Program} {ops : Array Oper} {S : World → Prop} {Q : Act → Prop} {a : Act} {o : Oper} {rest : List Oper} {v : Value} (b : Bool) (hw : Region.wanted o (yielded ops a.tmps) = b) (hv : b = true → ∀ w, S w → calmTo P S v ((execOp a.eval o).run P w))
    (h : calmRow P ops S Q rest (a.put o.dst (if b then v else undef))) : calmRow P ops S Q (o :: rest) a := by
  cases b
  · exact calmRow_skip hw h
  · exact calmRow_take hw (hv rfl) h
/-- A pick by a Bool that isn't known. -/
theorem calmRow_pick {P : Program} {ops : Array Oper} {S : World → Prop} {Q : Act → Prop} {a : Act} {o : Oper} {rest : List Oper} (v : Value) (hw : Region.wanted o (yielded ops a.tmps) = true) (hv : ∀ w, S w → calmTo P S v ((execOp a.eval o).run P w))
    (h : calmRow P ops S Q rest (a.put o.dst v)) : calmRow P ops S Q (o :: rest) a := calmRow_take hw hv h

end Go.Proofs.Ytdobbmlaokolmaa
