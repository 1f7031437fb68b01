/-
  Copies of lists, rows that are written into. Of no program.
-/
import Derived.Test.YtkkahkgjedgjnaaInD
import Derived.Test.YtkkahkgjedgjnaaDisk6
import Derived.Deep.Upon
namespace Go.Proofs.Ytkkahkgjedgjnaa
open Go.RowKit
set_option linter.unusedVariables false
set_option linter.unusedSimpArgs false

/-- A row that may be written into. -/
def WRow (w : World) (e : TypeId) (size : Nat) (ao : Option Addr) (n : Nat) (V : Nat → Value) : Prop :=
  ao = none ∧ n = 0 ∨ ∃ g cur, ao = some ⟨g, 0, none⟩ ∧ w.heap[g]? = some (.cells cur e (0, 0)) ∧ n * size ≤ cur.size ∧ ∀ j, j < n * size → cur[j]? = some (V j)

theorem WRow.keep {w w' : World} {e : TypeId} {size n : Nat} {ao : Option Addr} {V : Nat → Value} {S : List Nat} (h : WRow w e size ao n V) (hF : Fr S w w') (hS : ∀ g, ao = some ⟨g, 0, none⟩ → g ∉ S) : WRow w' e size ao n V := by
  rcases h with h | ⟨g, cur, rfl, h1, h2, h3⟩
  · exact .inl h
  · exact .inr ⟨g, cur, rfl, hF.keep h1 (hS g rfl), h2, h3⟩

theorem WRow.sm {w : World} {e : TypeId} {size n : Nat} {ao : Option Addr} {V : Nat → Value} (h : WRow w e size ao n V) (hn : 0 < n) : ∃ g, ao = some ⟨g, 0, none⟩ := by
  rcases h with ⟨_, h⟩ | ⟨g, _, h, _⟩
  · omega
  · exact ⟨g, h⟩

theorem WRow.cell {w : World} {e : TypeId} {size n g : Nat} {V : Nat → Value} (h : WRow w e size (some ⟨g, 0, none⟩) n V) (j : Nat) (hj : j < n * size) : w.cell? ⟨g, 0 + j, none⟩ = some (V j) := by
  rcases h with ⟨h, _⟩ | ⟨g', cur, hg, h1, h2, h3⟩
  · simp at h
  · simp only [Option.some.injEq, Addr.mk.injEq, and_true] at hg
    subst hg
    rw [Nat.zero_add]
    exact cell_blk h1 (h3 j hj)

theorem WRow.free {w : World} {e : TypeId} {size n g : Nat} {V : Nat → Value} (h : WRow w e size (some ⟨g, 0, none⟩) n V) (j : Nat) : w.frozen? ⟨g, 0 + j, none⟩ = false := by
  rcases h with ⟨h, _⟩ | ⟨g', cur, hg, h1, h2, h3⟩
  · simp at h
  · simp only [Option.some.injEq, Addr.mk.injEq, and_true] at hg
    subst hg
    exact free_blk h1

theorem WRow.set {w : World} {e : TypeId} {size n g : Nat} {V : Nat → Value} (h : WRow w e size (some ⟨g, 0, none⟩) n V) (j : Nat) (v : Value) : WRow (w.setCell ⟨g, j, none⟩ v) e size (some ⟨g, 0, none⟩) n (fun i => if i = j then v else V i) := by
  rcases h with ⟨h, _⟩ | ⟨g', cur, hg, h1, h2, h3⟩
  · simp at h
  · simp only [Option.some.injEq, Addr.mk.injEq, and_true] at hg
    subst hg
    refine .inr ⟨g, _, rfl, blk_setCell_at v h1, by simpa using h2, fun i hi => ?_⟩
    rw [Array.getElem?_setIfInBounds]
    by_cases hij : j = i
    · subst hij; simp; omega
    · rw [if_neg hij, h3 i hi]; have hij' : ¬ i = j := fun h => hij h.symm; simp [hij']

theorem WRow.toIn {w : World} {e : TypeId} {size n cap : Nat} {ao : Option Addr} {V : Nat → Value} (h : WRow w e size ao n V) (h1 : n ≤ cap) (h2 : cap ≤ maxLen) : In w size ao n cap V := by
  refine ⟨h1, h2, fun hn => ?_, fun b off e1 j hj => ?_⟩
  · obtain ⟨g, hg⟩ := h.sm hn; exact ⟨g, 0, hg⟩
  · rcases h with ⟨rfl, _⟩ | ⟨g, cur, rfl, h1, h2, h3⟩
    · simp at e1
    · simp only [Option.some.injEq, Addr.mk.injEq, and_true] at e1
      obtain ⟨rfl, rfl⟩ := e1
      rw [Nat.zero_add]; exact cell_blk h1 (h3 j hj)

theorem owns_W {w : World} {B size n cap : Nat} {e : TypeId} {ao : Option Addr} {xs : List Value} (h : w.ownsRow B e size (.slice ao n cap) n xs) (V : Nat → Value) (hV : ∀ j, j < n * size → xs[j]? = some (V j)) : WRow w e size ao n V := by
  obtain ⟨hl, h⟩ := h
  rcases h with ⟨h1, h2⟩ | ⟨g, cap', cur, hv, _, hh, hle, hmx, hcs, htk⟩
  · simp only [Value.slice.injEq] at h1; exact .inl ⟨h1.1, h2⟩
  · simp only [Value.slice.injEq, true_and] at hv
    obtain ⟨rfl, rfl⟩ := hv
    have hsz : n * size ≤ cur.size := by rw [hcs]; exact Nat.mul_le_mul_right _ hle
    refine .inr ⟨g, cur, rfl, hh, hsz, fun j hj => ?_⟩
    rw [← hV j hj, ← htk, List.getElem?_take_of_lt hj, Array.getElem?_toList]

/-- append([]T{}, x...), for the walk. -/
theorem wpList_copied {P : Program} {w : World} {ops : Array Oper} {rest : List Oper} {o : Oper} {a : Act} {Q : Exit → Act → World → Prop} (hgd : o.guard = none) (s x : Operand) (t : TypeId)
    (ho : o.op = .call { callee := .builtin .append, args := #[s, x], argTypes := #[t, t] })
    (e : TypeId) (i : TypeInfo) (z : Value) (size bytes : Nat) (ht : P.underlying t = some (.slice e)) (hi : P.info? e = some i) (hz : i.zero = some z)
    (hsize : i.size = size) (hby : i.bytes = bytes) (hzs : z.cells.size = size) (hsz : 0 < size)
    (B : Nat) (hs : a.eval s = .slice (some ⟨B, 0, none⟩) 0 0) (hB : w.heap[B]? = some (.cells #[] e (0, 0)))
    (ao : Option Addr) (m c : Nat) (V : Nat → Value) (hx : a.eval x = .slice ao m c) (hI : In w size ao m c V) (h1 : ∀ j, j < m * size → (V j).oneCell' = true) (hbytes : m * bytes ≤ 140737488355328)
    (h : ∀ g cap w', w'.ownsRow 0 e size (.slice (some ⟨g, 0, none⟩) m cap) m ((List.range (m * size)).map V) → Fr [B] w w' → (g = B ∨ w.heap.size ≤ g) → wpList P ops Q rest (a.put o.dst (.slice (some ⟨g, 0, none⟩) m cap)) w') : wpList P ops Q (o :: rest) a w := by
  have hown : w.ownsRow 0 e size (.slice (some ⟨B, 0, none⟩) 0 0) 0 [] := ⟨by simp, Or.inr ⟨_, _, #[], rfl, Nat.zero_le _, hB, Nat.le_refl _, by decide, by simp, by simp⟩⟩
  rcases ao with _ | ad
  · have hm : m = 0 := by
      rcases Nat.eq_zero_or_pos m with h0 | h0
      · exact h0
      · obtain ⟨b, off, hb⟩ := hI.sm h0; simp at hb
    subst hm
    refine wpList_plain hgd fun K hK => ?_
    unfold Oper.wp execOp
    have hr := run_append_nothing (P := P) w t t o.type e i ht hi (some ⟨B, 0, none⟩) 0 0 (Nat.le_refl _) (.slice none 0 c) (Src.ofNil w ht c)
    simp only [ho, resolve, invoke, builtin, Sem.run_bind, Sem.run_pure, Result.andThen_ok, List.map_toArray, List.map_cons, List.map_nil, hs, hx, hr]
    exact hK _ _ (h B 0 w (by simpa using hown) (Fr.refl _ _) (.inl rfl))
  · have hnews : ∀ j u, ((List.range (m * size)).map V)[j]? = some u → w.cell? (ad.add j) = some u := by
      intro j u hu
      have hj : j < m * size := by
        rcases Nat.lt_or_ge j (m * size) with h2 | h2
        · exact h2
        · rw [List.getElem?_eq_none (by simpa using h2)] at hu; simp at hu
      have hm : 0 < m := by
        rcases Nat.eq_zero_or_pos m with h0 | h0
        · subst h0; omega
        · exact h0
      obtain ⟨b, off, hb⟩ := hI.sm hm
      simp only [Option.some.injEq] at hb
      subst hb
      have e1 : (⟨b, off, none⟩ : Addr).add j = ⟨b, off + j, none⟩ := by unfold Addr.add; by_cases hj : j = 0 <;> simp [hj]
      rw [e1, hI.cell b off rfl j hj]
      simpa [hj] using hu
    refine wpList_append_blk hgd s x t ho e i z size bytes ht hi hz hsize hby hzs hsz _ 0 [] hs hown ad m c ((List.range (m * size)).map V) hx (by simp) hnews ?_ (by rw [Nat.zero_add]; exact Nat.le_trans hI.le hI.mx) (by rw [Nat.zero_add]; exact hbytes) ?_
    · intro u hu
      simp only [List.mem_map, List.mem_range] at hu
      obtain ⟨j, hj, rfl⟩ := hu
      exact h1 j hj
    · intro v' w' hown' hF hblk hnil
      rw [Nat.zero_add, List.nil_append] at hown'
      rcases owns_one hown' with ⟨rfl, _, _⟩ | ⟨g, cap, rfl, _, _⟩
      · have := hnil.1 rfl; simp at this
      · refine h g cap w' hown' (by simpa [Value.ownBlock] using hF) ?_
        have := hblk g (by simp [Value.ownBlock])
        simpa [Value.ownBlock] using this

/-- append of one behind a row without room: the row is a new one. -/
theorem wpList_append_full {P : Program} {w : World} {ops : Array Oper} {rest : List Oper} {o : Oper} {a : Act} {Q : Exit → Act → World → Prop} (hgd : o.guard = none) (s x : Operand) (t : TypeId)
    (ho : o.op = .call { callee := .builtin .append, args := #[s, x], argTypes := #[t, t] })
    (e : TypeId) (i : TypeInfo) (z : Value) (size bytes : Nat) (ht : P.underlying t = some (.slice e)) (hi : P.info? e = some i) (hz : i.zero = some z)
    (hsize : i.size = size) (hby : i.bytes = bytes) (hzs : z.cells.size = size) (hsz : 0 < size)
    (ao : Option Addr) (n : Nat) (V : Nat → Value) (hs : a.eval s = .slice ao n n) (hI : In w size ao n n V)
    (ad : Addr) (m c : Nat) (news : List Value) (hx : a.eval x = .slice (some ad) m c) (hm : 0 < m) (hl : news.length = m * size) (hnews : ∀ j u, news[j]? = some u → w.cell? (ad.add j) = some u) (h1 : ∀ u ∈ news, u.oneCell' = true)
    (h63 : n + m ≤ maxLen) (hbytes : (n + m) * bytes ≤ 140737488355328)
    (h : ∀ g cap w', Fr [] w w' → wpList P ops Q rest (a.put o.dst (.slice (some ⟨g, 0, none⟩) (n + m) cap)) w') : wpList P ops Q (o :: rest) a w := by
  refine wpList_plain hgd fun K hK => ?_
  have hold : (Builtin.firstCells i.size n (.slice ao n n)).run P w.drew = .ok ((List.range (n * size)).map V).toArray w.drew := by
    rw [hsize]
    rcases ao with _ | b
    · have hn : n = 0 := by
        rcases Nat.eq_zero_or_pos n with h0 | h0
        · exact h0
        · obtain ⟨b, off, hb⟩ := hI.sm h0; simp at hb
      subst hn
      simpa using run_firstCells_none (P := P) w.drew size 0 0 0
    · refine run_firstCells_some w.drew size n b n n _ (by simp) ?_
      intro j u hu
      have hj : j < n * size := by
        rcases Nat.lt_or_ge j (n * size) with h2 | h2
        · exact h2
        · rw [List.getElem?_eq_none (by simpa using h2)] at hu; simp at hu
      have hn : 0 < n := by
        rcases Nat.eq_zero_or_pos n with h0 | h0
        · subst h0; omega
        · exact h0
      obtain ⟨b', off, hb⟩ := hI.sm hn
      simp only [Option.some.injEq] at hb
      subst hb
      have e1 : (⟨b', off, none⟩ : Addr).add j = ⟨b', off + j, none⟩ := by unfold Addr.add; by_cases hj : j = 0 <;> simp [hj]
      rw [e1]
      show w.cell? _ = _
      rw [hI.cell b' off rfl j hj]
      simpa [hj] using hu
  have hr := run_append_grow_src (P := P) w t t o.type e i z ht hi hz ao n n _ hold (.slice (some ad) m c) m news (by rw [hsize]; exact Src.ofSlice w ht ad m c news hl hnews h1) (by omega) (by unfold maxLen at h63; omega) (growslice_fits (by omega) (by rw [hby]; exact hbytes))
  unfold Oper.wp execOp
  simp only [ho, resolve, invoke, builtin, Sem.run_bind, Sem.run_pure, Result.andThen_ok, List.map_toArray, List.map_cons, List.map_nil, hs, hx, hr]
  exact hK _ _ (h _ _ _ ((Fr.refl [] w).drew.alloc _))

theorem range_strs (ss : List ByteArray) : (List.range (ss.length * 1)).map (strV ss) = strs ss ss.length := by
  rw [Nat.mul_one]; rfl
theorem range_wrs (l : List (Int × ByteArray)) : (List.range (l.length * 2)).map (wrV l) = rawCells l := by
  refine List.ext_getElem? fun j => ?_
  rcases Nat.lt_or_ge j (l.length * 2) with h | h
  · rw [rawCells_get l j h]; simp [h]
  · rw [List.getElem?_eq_none (by simpa using h), List.getElem?_eq_none]
    have : (rawCells l).length = l.length * 2 := by
      unfold rawCells
      clear h
      induction l with
      | nil => rfl
      | cons x r ih => simp only [List.flatMap_cons, List.length_append, ih]; simp; omega
    omega
theorem strV_one (ss : List ByteArray) (j : Nat) : (strV ss j).oneCell' = true := rfl
theorem wrV_one (l : List (Int × ByteArray)) (j : Nat) : (wrV l j).oneCell' = true := by unfold wrV; split <;> rfl

/-- Raw, told with its row. -/
theorem disk_raw2 (w : World) (F : List Nat) (D : Nat) (d : DS) (h : Dk w F D d) (hn : d.raw.length * 24 ≤ 140737488355328) :
    Calls Try.prog 36 #[.pointer (some ⟨D, 0, none⟩)] w fun e w' => ∃ a, e = .returned (.slice a d.raw.length d.raw.length) ∧ Fr [] w w' ∧ WRow w' 56 2 a d.raw.length (wrV d.raw) ∧ ∀ b off, a = some ⟨b, off, none⟩ → w.heap.size ≤ b := by
  obtain ⟨S, dcap, rv, cur, hFeq, g1, g2, g3, g4⟩ := h
  have c1 : w.cell? ⟨D, 1, none⟩ = some rv := cell_blk g1 rfl
  have HC := hid (clone_writes w rv _ _ g4 (rawCells_one _) hn)
  clear g1 g2 g3 g4 hFeq
  go_enter Try.func36, Try.ntmps36
  go_wp2_with fail
  refine HC.out.mono ?_
  rintro e w1 ⟨v', rfl, hF, hown, hblk, _⟩
  rcases owns_one hown with ⟨rfl, hz, _⟩ | ⟨g, cap, rfl, hle, hmx⟩
  · have HZ := hid (And.intro hF (And.intro hz hown))
    clear hF hz hown hblk
    go_wp2_with fail
    refine (clip_writes w1 none 0 0 (Nat.le_refl _) (by omega) (fun _ => rfl)).mono ?_
    rintro e w2 ⟨rfl, rfl⟩
    go_wp2_with fail
    go_ret
    rw [HZ.out.2.1]
    exact ⟨none, rfl, HZ.out.1, .inl ⟨rfl, rfl⟩, fun b off e => by simp at e⟩
  · have HZ := hid (And.intro hF (And.intro hblk hown))
    clear hF hown hblk
    unfold maxLen at hmx
    go_wp2_with fail
    refine (clip_writes w1 _ _ _ hle hmx (fun h => by simp at h)).mono ?_
    rintro e w2 ⟨rfl, rfl⟩
    go_wp2_with fail
    go_ret
    refine ⟨_, rfl, HZ.out.1, owns_W HZ.out.2.2 (wrV d.raw) (fun j hj => rawCells_get _ j hj), fun b off e => ?_⟩
    simp only [Option.some.injEq, Addr.mk.injEq, and_true] at e
    exact HZ.out.2.1 b (by simp [Value.ownBlock, e.1])

end Go.Proofs.Ytkkahkgjedgjnaa
