/-
  Merged, in build order: Room App.
-/
import Derived.Deep.AppendSrc
import Derived.Test.YthghnlgojmedgaaM5
/-
  append where there is room: the row stays where it is. Of no program.
-/
namespace Go.Proofs.Ythghnlgojmedgaa
open Go.RowKit
set_option linter.unusedVariables false
set_option linter.unusedSimpArgs false

theorem append_in_blk {P : Program} (w : World) (t ty e : TypeId) (i : TypeInfo) (size : Nat) (ht : P.underlying t = some (.slice e)) (hi : P.info? e = some i) (hsize : i.size = size) (hsz : 0 < size)
    (g n cap : Nat) (xs : List Value) (hown : w.ownsRow 0 e size (.slice (some ⟨g, 0, none⟩) n cap) n xs)
    (ao : Option Addr) (m c : Nat) (V : Nat → Value) (hI : In w size ao m c V) (h1 : ∀ j, j < m * size → (V j).oneCell' = true) (hroom : n + m ≤ cap) :
    ∃ w', (Builtin.append_ #[t, t] ty #[.slice (some ⟨g, 0, none⟩) n cap, .slice ao m c]).run P w = .ok (.slice (some ⟨g, 0, none⟩) (n + m) cap) w' ∧
      w'.ownsRow 0 e size (.slice (some ⟨g, 0, none⟩) (n + m) cap) (n + m) (xs ++ (List.range (m * size)).map V) ∧ Fr [g] w w' := by
  have hown2 := hown
  obtain ⟨hxl, hown'⟩ := hown
  rcases hown' with ⟨h, _⟩ | ⟨g', cap', cur, hv, hbg, hg, hnc, hcm, hcs, htake⟩
  · simp at h
  simp only [Value.slice.injEq, Option.some.injEq, Addr.mk.injEq, and_true, true_and] at hv
  obtain ⟨rfl, rfl⟩ := hv
  rcases ao with _ | ad
  · have hm : m = 0 := by
      rcases Nat.eq_zero_or_pos m with h0 | h0
      · exact h0
      · obtain ⟨b, off, hb⟩ := hI.sm h0; simp at hb
    subst hm
    have hr := run_append_nothing (P := P) w t t ty e i ht hi (some ⟨g, 0, none⟩) n cap hnc (.slice none 0 c) (Src.ofNil w ht c)
    exact ⟨w, hr, by simpa using hown2, Fr.refl _ _⟩
  · have hnews : ∀ j u, ((List.range (m * size)).map V)[j]? = some u → w.cell? (ad.add j) = some u := by
      intro j u hu
      have hj : j < m * size := by
        rcases Nat.lt_or_ge j (m * size) with h2 | h2
        · exact h2
        · rw [List.getElem?_eq_none (by simpa using h2)] at hu; simp at hu
      have hm : 0 < m := by
        rcases Nat.eq_zero_or_pos m with h0 | h0
        · subst h0; omega
        · exact h0
      obtain ⟨b, off, hb⟩ := hI.sm hm
      simp only [Option.some.injEq] at hb
      subst hb
      have e1 : (⟨b, off, none⟩ : Addr).add j = ⟨b, off + j, none⟩ := by unfold Addr.add; by_cases hj : j = 0 <;> simp [hj]
      rw [e1, hI.cell b off rfl j hj]
      simpa [hj] using hu
    have hl : ((List.range (m * size)).map V).length = m * size := by simp
    have hone : ∀ u, u ∈ (List.range (m * size)).map V → u.oneCell' = true := by
      intro u hu
      simp only [List.mem_map, List.mem_range] at hu
      obtain ⟨j, hj, rfl⟩ := hu
      exact h1 j hj
    generalize (List.range (m * size)).map V = news at hnews hl hone ⊢
    subst hsize
    have hlen : (xs ++ news).length = (n + m) * i.size := by rw [List.length_append, hxl, hl, Nat.add_mul]
    have hfit : n * i.size + news.length ≤ cur.size := by rw [hl, hcs, ← Nat.add_mul]; exact Nat.mul_le_mul_right _ hroom
    have hr := run_append_room (P := P) w t ty e i ht hi g n cap cur hg ad m c news hl hnews hone hroom hfit
    refine ⟨_, hr, ⟨hlen, .inr ⟨g, cap, _, rfl, hbg, setRow_heap w g cur _ e _ hg, hroom, hcm, ?_, ?_⟩⟩, ⟨rfl, rfl, rfl, by simp, fun k _ hk => setRow_other w g k _ (fun e => hk (by simp [e]))⟩⟩
    · simp only [List.size_toArray, List.length_append, List.length_take, List.length_drop, Array.length_toList]
      omega
    · rw [htake, ← hlen]
      exact List.take_left

/-- The operation, for the walk. -/
theorem wpList_append_in {P : Program} {w : World} {ops : Array Oper} {rest : List Oper} {o : Oper} {a : Act} {Q : Exit → Act → World → Prop} (hgd : o.guard = none) (s x : Operand) (t : TypeId)
    (ho : o.op = .call { callee := .builtin .append, args := #[s, x], argTypes := #[t, t] })
    (e : TypeId) (i : TypeInfo) (size : Nat) (ht : P.underlying t = some (.slice e)) (hi : P.info? e = some i) (hsize : i.size = size) (hsz : 0 < size)
    (g n cap : Nat) (xs : List Value) (hs : a.eval s = .slice (some ⟨g, 0, none⟩) n cap) (hown : w.ownsRow 0 e size (.slice (some ⟨g, 0, none⟩) n cap) n xs)
    (ao : Option Addr) (m c : Nat) (V : Nat → Value) (hx : a.eval x = .slice ao m c) (hI : In w size ao m c V) (h1 : ∀ j, j < m * size → (V j).oneCell' = true) (hroom : n + m ≤ cap)
    (h : ∀ w', w'.ownsRow 0 e size (.slice (some ⟨g, 0, none⟩) (n + m) cap) (n + m) (xs ++ (List.range (m * size)).map V) → Fr [g] w w' → wpList P ops Q rest (a.put o.dst (.slice (some ⟨g, 0, none⟩) (n + m) cap)) w') : wpList P ops Q (o :: rest) a w := by
  refine wpList_plain hgd fun K hK => ?_
  obtain ⟨w', hr, h2, h3⟩ := append_in_blk (P := P) w t o.type e i size ht hi hsize hsz g n cap xs hown ao m c V hI h1 hroom
  unfold Oper.wp execOp
  simp only [ho, resolve, invoke, builtin, Sem.run_bind, Sem.run_pure, Result.andThen_ok, List.map_toArray, List.map_cons, List.map_nil, hs, hx, hr]
  exact hK _ _ (h w' h2 h3)

end Go.Proofs.Ythghnlgojmedgaa

/-
  append of any slice to a row of the call's own: it stays, or is a new one. Of no program.
-/
namespace Go.Proofs.Ythghnlgojmedgaa
open Go.RowKit
set_option linter.unusedVariables false
set_option linter.unusedSimpArgs false

theorem wpList_append_any {P : Program} {w : World} {ops : Array Oper} {rest : List Oper} {o : Oper} {a : Act} {Q : Exit → Act → World → Prop} (hgd : o.guard = none) (s x : Operand) (t : TypeId)
    (ho : o.op = .call { callee := .builtin .append, args := #[s, x], argTypes := #[t, t] })
    (e : TypeId) (i : TypeInfo) (z : Value) (size bytes : Nat) (ht : P.underlying t = some (.slice e)) (hi : P.info? e = some i) (hz : i.zero = some z)
    (hsize : i.size = size) (hby : i.bytes = bytes) (hzs : z.cells.size = size) (hsz : 0 < size)
    (B n cap : Nat) (xs : List Value) (hs : a.eval s = .slice (some ⟨B, 0, none⟩) n cap) (hown : w.ownsRow 0 e size (.slice (some ⟨B, 0, none⟩) n cap) n xs)
    (ao : Option Addr) (m c : Nat) (V : Nat → Value) (hx : a.eval x = .slice ao m c) (hI : In w size ao m c V) (h1 : ∀ j, j < m * size → (V j).oneCell' = true) (h63 : n + m ≤ maxLen) (hbytes : (n + m) * bytes ≤ 140737488355328)
    (h : ∀ g cap' w', w'.ownsRow 0 e size (.slice (some ⟨g, 0, none⟩) (n + m) cap') (n + m) (xs ++ (List.range (m * size)).map V) → Fr [B] w w' → (g = B ∨ w.heap.size ≤ g) → wpList P ops Q rest (a.put o.dst (.slice (some ⟨g, 0, none⟩) (n + m) cap')) w') : wpList P ops Q (o :: rest) a w := by
  rcases ao with _ | ad
  · have hm : m = 0 := by
      rcases Nat.eq_zero_or_pos m with h0 | h0
      · exact h0
      · obtain ⟨b, off, hb⟩ := hI.sm h0; simp at hb
    subst hm
    rcases ownsRow_one hown with ⟨h0, _⟩ | ⟨g', cap', h0, hle, _⟩
    · simp at h0
    simp only [Value.slice.injEq, Option.some.injEq, Addr.mk.injEq, and_true, true_and] at h0
    obtain ⟨rfl, rfl⟩ := h0
    refine wpList_plain hgd fun K hK => ?_
    unfold Oper.wp execOp
    have hr := run_append_nothing (P := P) w t t o.type e i ht hi (some ⟨B, 0, none⟩) n cap hle (.slice none 0 c) (Src.ofNil w ht c)
    simp only [ho, resolve, invoke, builtin, Sem.run_bind, Sem.run_pure, Result.andThen_ok, List.map_toArray, List.map_cons, List.map_nil, hs, hx, hr]
    exact hK _ _ (h B cap w (by simpa using hown) (Fr.refl _ _) (.inl rfl))
  · have hnews : ∀ j u, ((List.range (m * size)).map V)[j]? = some u → w.cell? (ad.add j) = some u := by
      intro j u hu
      have hj : j < m * size := by
        rcases Nat.lt_or_ge j (m * size) with h2 | h2
        · exact h2
        · rw [List.getElem?_eq_none (by simpa using h2)] at hu; simp at hu
      have hm : 0 < m := by
        rcases Nat.eq_zero_or_pos m with h0 | h0
        · subst h0; omega
        · exact h0
      obtain ⟨b, off, hb⟩ := hI.sm hm
      simp only [Option.some.injEq] at hb
      subst hb
      have e1 : (⟨b, off, none⟩ : Addr).add j = ⟨b, off + j, none⟩ := by unfold Addr.add; by_cases hj : j = 0 <;> simp [hj]
      rw [e1, hI.cell b off rfl j hj]
      simpa [hj] using hu
    refine wpList_append_blk hgd s x t ho e i z size bytes ht hi hz hsize hby hzs hsz _ n xs hs hown ad m c ((List.range (m * size)).map V) hx (by simp) hnews ?_ h63 hbytes ?_
    · intro u hu
      simp only [List.mem_map, List.mem_range] at hu
      obtain ⟨j, hj, rfl⟩ := hu
      exact h1 j hj
    · intro v' w' hown' hF hblk hnil
      rcases ownsRow_one hown' with ⟨rfl, _, _⟩ | ⟨g, cap', rfl, _, _⟩
      · have := hnil.1 rfl; simp at this
      · refine h g cap' w' hown' (by simpa [Value.ownBlock] using hF) ?_
        have := hblk g (by simp [Value.ownBlock])
        simpa [Value.ownBlock] using this
end Go.Proofs.Ythghnlgojmedgaa
