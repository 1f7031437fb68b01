/-
  Merged, in build order: Wj Wk Wl Wm Wn Wo.
-/
import Derived.Lib.ConvBytes
import Derived.Lib.AtoiErrMem
import Derived.Deep.WholeRow
import Derived.Test.YtkiccbjngokpjaaGreatM15
/-
  wire: named: its letters.
-/
namespace Go.Proofs.YtkiccbjngokpjaaGreat
open Go.RowKit
set_option linter.unusedVariables false
set_option linter.unusedSimpArgs false

/-- A letter's function. -/
def letF (c : UInt8) : FuncId :=
  if c = 115 then 78 else if c = 110 then 79 else if c = 106 then 80 else if c = 98 then 81 else if c = 105 then 82 else if c = 99 then 83 else if c = 114 then 84 else if c = 116 then 85 else 86
def Letter (c : UInt8) : Prop := c = 115 ∨ c = 110 ∨ c = 106 ∨ c = 98 ∨ c = 105 ∨ c = 99 ∨ c = 114 ∨ c = 116 ∨ c = 112

theorem letF_enter {c : UInt8} (hc : Letter c) (args : Array Value) (w : World) : (callFunc (letF c) args).run Tryz.prog w = .ok (.enter (letF c) args) w := by
  rcases hc with rfl | rfl | rfl | rfl | rfl | rfl | rfl | rfl | rfl
  · exact run_enter Tryz.func78 (by kernel_rfl) rfl args w
  · exact run_enter Tryz.func79 (by kernel_rfl) rfl args w
  · exact run_enter Tryz.func80 (by kernel_rfl) rfl args w
  · exact run_enter Tryz.func81 (by kernel_rfl) rfl args w
  · exact run_enter Tryz.func82 (by kernel_rfl) rfl args w
  · exact run_enter Tryz.func83 (by kernel_rfl) rfl args w
  · exact run_enter Tryz.func84 (by kernel_rfl) rfl args w
  · exact run_enter Tryz.func85 (by kernel_rfl) rfl args w
  · exact run_enter Tryz.func86 (by kernel_rfl) rfl args w

section
variable {W : Base} {w : World} {R : List Thing}
theorem st_letter (H : St W w R) (i j : Nat) {mb nb : Nat} {m n : MV} (hi : R[i]? = some (BlkT mb (mO m))) (hj : R[j]? = some (BlkT nb (mO n))) {c : UInt8} (hc : Letter c) :
    Calls Tryz.prog (letF c) #[ptr nb, ptr mb] w fun e w' => e = .returned (.tuple #[]) ∧ St W w' (R.set j (BlkT nb (mO (letter m n c)))) := by
  rcases hc with rfl | rfl | rfl | rfl | rfl | rfl | rfl | rfl | rfl
  · have hbm := H.blk i hi
    have hbn := H.blk j hj
    show Calls Tryz.prog 78 _ _ _
    have x0 := cell_blk (i := 1) hbm rfl
    have y0 := cell_blk (i := 1) hbn rfl
    have z0 := free_blk (i := 1) hbn
    have HN := hid (H.setBlk j hj 1 (.int .i64 m.ses))
    dsimp only [MV.f] at x0 y0
    clear H hi hj hbm hbn
    go_enter Tryz.func78, Tryz.ntmps78
    go_wp2_with fail
    go_end0
    exact ⟨rfl, HN.out⟩
  · have hbm := H.blk i hi
    have hbn := H.blk j hj
    show Calls Tryz.prog 79 _ _ _
    have x0 := cell_blk (i := 2) hbm rfl
    have y0 := cell_blk (i := 2) hbn rfl
    have z0 := free_blk (i := 2) hbn
    have HN := hid (H.setBlk j hj 2 (.int .i64 m.num))
    dsimp only [MV.f] at x0 y0
    clear H hi hj hbm hbn
    go_enter Tryz.func79, Tryz.ntmps79
    go_wp2_with fail
    go_end0
    exact ⟨rfl, HN.out⟩
  · have hbm := H.blk i hi
    have hbn := H.blk j hj
    show Calls Tryz.prog 80 _ _ _
    have x0 := cell_blk (i := 3) hbm rfl
    have y0 := cell_blk (i := 3) hbn rfl
    have z0 := free_blk (i := 3) hbn
    have HN := hid (H.setBlk j hj 3 (.int .i64 m.job))
    dsimp only [MV.f] at x0 y0
    clear H hi hj hbm hbn
    go_enter Tryz.func80, Tryz.ntmps80
    go_wp2_with fail
    go_end0
    exact ⟨rfl, HN.out⟩
  · have hbm := H.blk i hi
    have hbn := H.blk j hj
    show Calls Tryz.prog 81 _ _ _
    have x0 := cell_blk (i := 4) hbm rfl
    have y0 := cell_blk (i := 4) hbn rfl
    have z0 := free_blk (i := 4) hbn
    have HN := hid (H.setBlk j hj 4 (.int .i64 m.bad))
    dsimp only [MV.f] at x0 y0
    clear H hi hj hbm hbn
    go_enter Tryz.func81, Tryz.ntmps81
    go_wp2_with fail
    go_end0
    exact ⟨rfl, HN.out⟩
  · have hbm := H.blk i hi
    have hbn := H.blk j hj
    show Calls Tryz.prog 82 _ _ _
    have x0 := cell_blk (i := 5) hbm rfl
    have y0 := cell_blk (i := 5) hbn rfl
    have z0 := free_blk (i := 5) hbn
    have HN := hid (H.setBlk j hj 5 (.int .i64 m.idx))
    dsimp only [MV.f] at x0 y0
    clear H hi hj hbm hbn
    go_enter Tryz.func82, Tryz.ntmps82
    go_wp2_with fail
    go_end0
    exact ⟨rfl, HN.out⟩
  · have hbm := H.blk i hi
    have hbn := H.blk j hj
    show Calls Tryz.prog 83 _ _ _
    have x0 := cell_blk (i := 6) hbm rfl
    have y0 := cell_blk (i := 6) hbn rfl
    have z0 := free_blk (i := 6) hbn
    have HN := hid (H.setBlk j hj 6 (.int .i64 m.cnt))
    dsimp only [MV.f] at x0 y0
    clear H hi hj hbm hbn
    go_enter Tryz.func83, Tryz.ntmps83
    go_wp2_with fail
    go_end0
    exact ⟨rfl, HN.out⟩
  · have hbm := H.blk i hi
    have hbn := H.blk j hj
    show Calls Tryz.prog 84 _ _ _
    have x0 := cell_blk (i := 7) hbm rfl
    have y0 := cell_blk (i := 7) hbn rfl
    have z0 := free_blk (i := 7) hbn
    have x1 := cell_blk (i := 8) hbm rfl
    have y1 := cell_blk (i := 8) hbn rfl
    have z1 := free_blk (i := 8) hbn
    have hjl := lt_of_get hj
    have HN := (H.setBlk j hj 7 (.int .i64 m.code)).setBlk j (List.getElem?_set_self hjl) 8 (.int .u64 m.bits)
    rw [List.set_set] at HN
    have HN := hid HN
    dsimp only [MV.f] at x0 y0 x1 y1
    clear H hi hj hbm hbn
    go_enter Tryz.func84, Tryz.ntmps84
    go_wp2_with fail
    go_end0
    exact ⟨rfl, HN.out⟩
  · have hbm := H.blk i hi
    have hbn := H.blk j hj
    show Calls Tryz.prog 85 _ _ _
    have x0 := cell_blk (i := 9) hbm rfl
    have y0 := cell_blk (i := 9) hbn rfl
    have z0 := free_blk (i := 9) hbn
    have HN := hid (H.setBlk j hj 9 (.string m.text))
    dsimp only [MV.f] at x0 y0
    clear H hi hj hbm hbn
    go_enter Tryz.func85, Tryz.ntmps85
    go_wp2_with fail
    go_end0
    exact ⟨rfl, HN.out⟩
  · have hbm := H.blk i hi
    have hbn := H.blk j hj
    show Calls Tryz.prog 86 _ _ _
    have x0 := cell_blk (i := 10) hbm rfl
    have y0 := cell_blk (i := 10) hbn rfl
    have z0 := free_blk (i := 10) hbn
    have HN := hid (H.setBlk j hj 10 (.string m.prog))
    dsimp only [MV.f] at x0 y0
    clear H hi hj hbm hbn
    go_enter Tryz.func86, Tryz.ntmps86
    go_wp2_with fail
    go_end0
    exact ⟨rfl, HN.out⟩
end

end Go.Proofs.YtkiccbjngokpjaaGreat

/-
  wire: named.
-/
namespace Go.Proofs.YtkiccbjngokpjaaGreat
open Go.RowKit
set_option linter.unusedVariables false
set_option linter.unusedSimpArgs false

/-- The letters' functions, in a table. -/
noncomputable def tabA (mb : Nat) : Array Value := (((((((((Tryz.zeroCells151.setIfInBounds 115 (.func (.func 78) #[] #[ptr mb])).setIfInBounds 110 (.func (.func 79) #[] #[ptr mb])).setIfInBounds 106 (.func (.func 80) #[] #[ptr mb])).setIfInBounds 98 (.func (.func 81) #[] #[ptr mb])).setIfInBounds 105 (.func (.func 82) #[] #[ptr mb])).setIfInBounds 99 (.func (.func 83) #[] #[ptr mb])).setIfInBounds 114 (.func (.func 84) #[] #[ptr mb])).setIfInBounds 116 (.func (.func 85) #[] #[ptr mb])).setIfInBounds 112 (.func (.func 86) #[] #[ptr mb]))
noncomputable def tabL (mb : Nat) : List Value := (((((((((Tryz.zeroCells151.toList.set 115 (.func (.func 78) #[] #[ptr mb])).set 110 (.func (.func 79) #[] #[ptr mb])).set 106 (.func (.func 80) #[] #[ptr mb])).set 98 (.func (.func 81) #[] #[ptr mb])).set 105 (.func (.func 82) #[] #[ptr mb])).set 99 (.func (.func 83) #[] #[ptr mb])).set 114 (.func (.func 84) #[] #[ptr mb])).set 116 (.func (.func 85) #[] #[ptr mb])).set 112 (.func (.func 86) #[] #[ptr mb]))
theorem tab_list (mb : Nat) : (tabA mb).toList = tabL mb := by simp [tabA, tabL]
theorem tab_size (mb : Nat) : (tabA mb).size = 117 := by simp [tabA, Tryz.zeroCells151_size]
theorem all_set {a : Array Value} {p : Value → Bool} (h : a.all p = true) (i : Nat) (v : Value) (hv : p v = true) : (a.setIfInBounds i v).all p = true := by
  rw [Array.all_eq_true] at h ⊢
  intro k hk
  rw [Array.getElem_setIfInBounds]
  split
  · exact hv
  · exact h k (by simpa using hk)
theorem tab_one (mb : Nat) : (tabA mb).all (·.oneCell') = true := by
  have hz : Tryz.zeroCells151.all (·.oneCell') = true := by kernel_rfl
  unfold tabA
  exact all_set (all_set (all_set (all_set (all_set (all_set (all_set (all_set (all_set hz _ _ rfl) _ _ rfl) _ _ rfl) _ _ rfl) _ _ rfl) _ _ rfl) _ _ rfl) _ _ rfl) _ _ rfl
theorem tab_at (mb : Nat) {c : UInt8} (hc : Letter c) : (tabA mb)[c.toNat]? = some (.func (.func (letF c)) #[] #[ptr mb]) := by
  rcases hc with rfl | rfl | rfl | rfl | rfl | rfl | rfl | rfl | rfl <;> simp [tabA, letF, Array.getElem?_setIfInBounds, Tryz.zeroCells151_size]
theorem letters_of {c : UInt8} {l : List UInt8} (h : c ∈ l) (hl : l.all (fun c => c == 115 || c == 110 || c == 106 || c == 98 || c == 105 || c == 99 || c == 114 || c == 116 || c == 112) = true) : Letter c := by
  have := List.all_eq_true.1 hl c h
  simp only [Bool.or_eq_true, beq_iff_eq] at this
  unfold Letter
  simpa [or_assoc] using this
theorem word_letters (k : Int) : ∀ c ∈ wordOf k, Letter c := by
  intro c hc
  refine letters_of hc ?_
  clear hc
  by_cases h2 : k = 2
  · subst h2; rfl
  by_cases h3 : k = 3
  · subst h3; rfl
  by_cases h4 : k = 4
  · subst h4; rfl
  by_cases h5 : k = 5
  · subst h5; rfl
  by_cases h6 : k = 6
  · subst h6; rfl
  by_cases h7 : k = 7
  · subst h7; rfl
  by_cases h8 : k = 8
  · subst h8; rfl
  by_cases h9 : k = 9
  · subst h9; rfl
  by_cases h10 : k = 10
  · subst h10; rfl
  by_cases h11 : k = 11
  · subst h11; rfl
  by_cases h12 : k = 12
  · subst h12; rfl
  by_cases h13 : k = 13
  · subst h13; rfl
  by_cases h14 : k = 14
  · subst h14; rfl
  by_cases h15 : k = 15
  · subst h15; rfl
  by_cases h16 : k = 16
  · subst h16; rfl
  unfold wordOf
  rw [if_neg h2, if_neg h3, if_neg h4, if_neg h5, if_neg h6, if_neg h7, if_neg h8, if_neg h9, if_neg h10, if_neg h11, if_neg h12, if_neg h13, if_neg h14, if_neg h15, if_neg h16]
  rfl
def wordB (k : Int) : ByteArray := ⟨(wordOf k).toArray⟩
end Go.Proofs.YtkiccbjngokpjaaGreat

/-
  wire: named: the walk.
-/
namespace Go.Proofs.YtkiccbjngokpjaaGreat
open Go.RowKit
set_option linter.unusedVariables false
set_option linter.unusedSimpArgs false

abbrev wordsA : Array Value := #[.string ⟨#[]⟩, .string ⟨#[]⟩, .string ⟨#[115, 110]⟩, .string ⟨#[115, 110, 98]⟩, .string ⟨#[115, 110, 98, 99, 114]⟩, .string ⟨#[98, 105, 116]⟩, .string ⟨#[106, 98, 105, 116]⟩, .string ⟨#[115]⟩, .string ⟨#[115, 110]⟩, .string ⟨#[115, 110, 106, 98, 112]⟩, .string ⟨#[115, 110]⟩, .string ⟨#[115, 110]⟩, .string ⟨#[115, 110]⟩, .string ⟨#[115, 110]⟩, .string ⟨#[98, 99]⟩, .string ⟨#[106, 98, 99]⟩, .string ⟨#[106, 98]⟩]
theorem words_at {k : Nat} (hk : k ≤ 16) : wordsA[k]? = some (.string (wordB k)) := by
  obtain rfl | rfl | rfl | rfl | rfl | rfl | rfl | rfl | rfl | rfl | rfl | rfl | rfl | rfl | rfl | rfl | rfl : k = 0 ∨ k = 1 ∨ k = 2 ∨ k = 3 ∨ k = 4 ∨ k = 5 ∨ k = 6 ∨ k = 7 ∨ k = 8 ∨ k = 9 ∨ k = 10 ∨ k = 11 ∨ k = 12 ∨ k = 13 ∨ k = 14 ∨ k = 15 ∨ k = 16 := by omega
  all_goals rfl

theorem fold_kind (m : MV) : ∀ (l : List UInt8) (n : MV), (l.foldl (letter m) n).kind = n.kind
  | [], n => rfl
  | c :: l, n => by
    rw [List.foldl_cons, fold_kind m l]
    unfold letter
    repeat' split
    all_goals rfl

theorem cell_same {w w' : World} {b j : Nat} (h : w.heap[b]? = w'.heap[b]?) : w.cell? ⟨b, j, none⟩ = w'.cell? ⟨b, j, none⟩ := by simp [World.cell?, h]
theorem letter_lt {c : UInt8} (hc : Letter c) : c.toNat < 117 := by
  rcases hc with rfl | rfl | rfl | rfl | rfl | rfl | rfl | rfl | rfl <;> decide

theorem word_len (k : Int) : (wordOf k).length ≤ 5 := by
  by_cases h2 : k = 2
  · subst h2; decide
  by_cases h3 : k = 3
  · subst h3; decide
  by_cases h4 : k = 4
  · subst h4; decide
  by_cases h5 : k = 5
  · subst h5; decide
  by_cases h6 : k = 6
  · subst h6; decide
  by_cases h7 : k = 7
  · subst h7; decide
  by_cases h8 : k = 8
  · subst h8; decide
  by_cases h9 : k = 9
  · subst h9; decide
  by_cases h10 : k = 10
  · subst h10; decide
  by_cases h11 : k = 11
  · subst h11; decide
  by_cases h12 : k = 12
  · subst h12; decide
  by_cases h13 : k = 13
  · subst h13; decide
  by_cases h14 : k = 14
  · subst h14; decide
  by_cases h15 : k = 15
  · subst h15; decide
  by_cases h16 : k = 16
  · subst h16; decide
  unfold wordOf
  rw [if_neg h2, if_neg h3, if_neg h4, if_neg h5, if_neg h6, if_neg h7, if_neg h8, if_neg h9, if_neg h10, if_neg h11, if_neg h12, if_neg h13, if_neg h14, if_neg h15, if_neg h16]
  decide

section
variable {W : Base} {w : World} {R : List Thing}
theorem St.split1 {T L : List Thing} {A : Thing} (H : St W w (T ++ (A :: L))) : St W w ((T ++ [A]) ++ L) := by rw [List.append_assoc]; exact H
theorem St.blk11 {T rest : List Thing} {b : Nat} {u0 u1 u2 u3 u4 u5 u6 u7 u8 u9 u10 : Value} {t : TypeId} (v0 v1 v2 v3 v4 v5 v6 v7 v8 v9 v10 : Value) (H : St W w (T ++ (BlkT b (.cells #[u0, u1, u2, u3, u4, u5, u6, u7, u8, u9, u10] t) :: rest))) :
    St W (((((((((((w.setCell ⟨b, 0, none⟩ v0).setCell ⟨b, 1, none⟩ v1).setCell ⟨b, 2, none⟩ v2).setCell ⟨b, 3, none⟩ v3).setCell ⟨b, 4, none⟩ v4).setCell ⟨b, 5, none⟩ v5).setCell ⟨b, 6, none⟩ v6).setCell ⟨b, 7, none⟩ v7).setCell ⟨b, 8, none⟩ v8).setCell ⟨b, 9, none⟩ v9).setCell ⟨b, 10, none⟩ v10) (T ++ (BlkT b (.cells #[v0, v1, v2, v3, v4, v5, v6, v7, v8, v9, v10] t) :: rest)) := by
  have e : ∀ A B : Thing, (T ++ (A :: rest)).set T.length B = T ++ (B :: rest) := fun A B => by simp
  have g : ∀ A : Thing, (T ++ (A :: rest))[T.length]? = some A := fun A => by simp
  have h0 := H.setBlk T.length (g _) 0 v0
  simp only [e, List.setIfInBounds_toArray, List.set_cons_zero, List.set_cons_succ] at h0
  have h1 := h0.setBlk T.length (g _) 1 v1
  simp only [e, List.setIfInBounds_toArray, List.set_cons_zero, List.set_cons_succ] at h1
  have h2 := h1.setBlk T.length (g _) 2 v2
  simp only [e, List.setIfInBounds_toArray, List.set_cons_zero, List.set_cons_succ] at h2
  have h3 := h2.setBlk T.length (g _) 3 v3
  simp only [e, List.setIfInBounds_toArray, List.set_cons_zero, List.set_cons_succ] at h3
  have h4 := h3.setBlk T.length (g _) 4 v4
  simp only [e, List.setIfInBounds_toArray, List.set_cons_zero, List.set_cons_succ] at h4
  have h5 := h4.setBlk T.length (g _) 5 v5
  simp only [e, List.setIfInBounds_toArray, List.set_cons_zero, List.set_cons_succ] at h5
  have h6 := h5.setBlk T.length (g _) 6 v6
  simp only [e, List.setIfInBounds_toArray, List.set_cons_zero, List.set_cons_succ] at h6
  have h7 := h6.setBlk T.length (g _) 7 v7
  simp only [e, List.setIfInBounds_toArray, List.set_cons_zero, List.set_cons_succ] at h7
  have h8 := h7.setBlk T.length (g _) 8 v8
  simp only [e, List.setIfInBounds_toArray, List.set_cons_zero, List.set_cons_succ] at h8
  have h9 := h8.setBlk T.length (g _) 9 v9
  simp only [e, List.setIfInBounds_toArray, List.set_cons_zero, List.set_cons_succ] at h9
  have h10 := h9.setBlk T.length (g _) 10 v10
  simp only [e, List.setIfInBounds_toArray, List.set_cons_zero, List.set_cons_succ] at h10
  exact h10
set_option maxHeartbeats 8000000 in
set_option maxRecDepth 100000 in
theorem st_named (H : St W w R) (m : MV) (hk : 1 ≤ m.kind ∧ m.kind ≤ 16) : Calls Tryz.prog 51 #[.agg m.f.toArray] w fun e w' => e = .returned (.agg m.named.f.toArray) ∧ St W w' R := by
  have hmf : ∀ (fn : Fn) (first cap : Array Value) (w : World), (Instr.makeFunc fn first cap).run Tryz.prog w = .ok (.func fn first cap) w := fun _ _ _ _ => rfl
  have hsf := run_store_func
  have hst : (storeCells ⟨w.heap.size + 1 + 1, 0, none⟩ (tabL w.heap.size)).run Tryz.prog (((w.alloc (mO m)).alloc (mO (.of 0))).alloc (.cells Tryz.zeroCells151 151)) = .ok () (((w.alloc (mO m)).alloc (mO (.of 0))).alloc (.cells (tabA w.heap.size) 151)) := by
    have h := run_storeCells_new (P := Tryz.prog) ((w.alloc (mO m)).alloc (mO (.of 0))) 151 Tryz.zeroCells151 (tabA w.heap.size) (by rw [tab_size]; kernel_rfl) (by rw [tab_size]; exact Tryz.zeroCells151_size) (tab_one _)
    rw [tab_list] at h
    have e : ((w.alloc (mO m)).alloc (mO (.of 0))).heap.size = w.heap.size + 1 + 1 := by simp
    rw [e] at h
    exact h
  obtain ⟨kn, hkn⟩ : ∃ kn : Nat, m.kind = (kn : Int) := ⟨m.kind.toNat, by omega⟩
  obtain ⟨M, hM⟩ : ∃ M, M = m := ⟨_, rfl⟩
  have hM := hid hM
  have hnm : m.named = (wordOf kn).foldl (letter m) (MV.of kn) := by unfold MV.named; rw [hkn]
  have hnm := hid hnm
  rw [hkn] at hk
  obtain ⟨k, a1, a2, a3, a4, a5, a6, a7, a8, a9, a10⟩ := m
  dsimp only at hkn
  subst hkn
  dsimp only [MV.f, mO, tabL, MV.of] at hst ⊢
  have hk17 : (kn : Int) < 17 := by omega
  have HK := hid hk
  have H := hid H
  clear hk
  go_enter Tryz.func51, Tryz.ntmps51
  go_upto_region 4 with (fail)
  have H5 := (((((H.out.alloc (mO M)).allocAt (mO (.of 0)) (w.heap.size + 1) (by simp)).allocAt (.cells (tabA w.heap.size) 151) (w.heap.size + 1 + 1) (by simp)).allocAt (.cells wordsA 152) (w.heap.size + 1 + 1 + 1) (by simp)).allocAt (mO (.of kn)) (w.heap.size + 1 + 1 + 1 + 1) (by simp))
  simp only [List.append_assoc, List.cons_append, List.nil_append] at H5
  rw [hM.out] at H5
  show Code.wp _ _ _ _ (((((w.alloc (mO ⟨kn, a1, a2, a3, a4, a5, a6, a7, a8, a9, a10⟩)).alloc (mO (.of 0))).alloc (.cells (tabA w.heap.size) 151)).alloc (.cells wordsA 152)).alloc (mO (.of kn)))
  generalize (((((w.alloc (mO ⟨kn, a1, a2, a3, a4, a5, a6, a7, a8, a9, a10⟩)).alloc (mO (.of 0))).alloc (.cells (tabA w.heap.size) 151)).alloc (.cells wordsA 152)).alloc (mO (.of kn))) = wA at H5 ⊢
  clear hst
  generalize w.heap.size = mb at H5 ⊢
  have b0 := H5.blk _ (get_behind R _ 0)
  have b3 := H5.blk _ (get_behind R _ 3)
  have x0 := cell_blk (i := 0) b0 rfl
  dsimp only [MV.f] at x0
  have x3 := cell_blk b3 (words_at (k := kn) (by have := HK.out; omega))
  have hwl := hid (show (wordB kn).data.toList = wordOf kn from by simp [wordB])
  generalize wordB kn = ws at x3 hwl
  have hcv := Lib.run_convert_string_bytes (P := Tryz.prog) wA 9 124 5 ws Tryz.underlying9 Tryz.underlying124 Tryz.underlying5
  have H5 := hid H5
  clear b0 b3
  go_wp2_with fail
  obtain ⟨Ob, hOb⟩ : ∃ Ob, (Lib.bytesWorld wA 5 ws).heap[wA.heap.size]? = some Ob := ⟨_, Lib.bytesWorld_at_new wA 5 ws⟩
  have H6 := H5.out.new (A := Blk1 wA.heap.size Ob) (F := [wA.heap.size]) (Fr.of_below (Lib.bytesWorld_below wA 5 ws) []) inferInstance ⟨rfl, hOb⟩ (fun x hx => by simp at hx; omega)
  have hcell := hid (show ∀ wr : World, wr.heap[wA.heap.size]? = some Ob → ∀ j (hj : j < (wordOf kn).length), wr.cell? ⟨wA.heap.size, j, none⟩ = some (.int .u8 ((wordOf kn)[j]).toNat) from fun wr hwr j hj => by
    rw [cell_same (hwr.trans hOb.symm), Lib.bytesWorld_cell _ _ _ _ (by rw [← hwl.out] at hj; exact hj)]
    rw [hwl.out, List.getD_eq_getElem?_getD, List.getElem?_eq_getElem hj]
    rfl)
  have hsz : (ws.size : Nat) = (wordOf kn).length := by rw [← hwl.out]; rfl
  rw [List.append_assoc] at H6
  clear hcv H5
  generalize Lib.bytesWorld wA 5 ws = wB at hOb H6 ⊢
  generalize grownCap wA ws.size 0 5 = cp
  generalize wA.heap.size = g at hOb H6 hcell ⊢
  clear hOb x0 x3
  rw [hsz]
  clear hsz hwl
  have hlet := hid (word_letters kn)
  have hw5 := hid (word_len kn)
  generalize wordOf kn = wl at hcell hnm hlet hw5 ⊢
  have H6 := hid H6
  clear hk17
  go_loopw [28] (fun iv wr => ∃ q : Nat, q ≤ wl.length ∧ iv = .int .i64 q ∧ St W wr (R ++ [BlkT mb (mO ⟨kn, a1, a2, a3, a4, a5, a6, a7, a8, a9, a10⟩), BlkT (mb + 1) (mO (.of 0)), BlkT (mb + 1 + 1) (.cells (tabA mb) 151), BlkT (mb + 1 + 1 + 1) (.cells wordsA 152), BlkT (mb + 1 + 1 + 1 + 1) (mO ((wl.take q).foldl (letter ⟨kn, a1, a2, a3, a4, a5, a6, a7, a8, a9, a10⟩) (.of kn))), BlkT g Ob])) (fun iv _ => wl.length - (intOf iv).toNat)
  case atStart => exact ⟨0, Nat.zero_le _, rfl, H6.out⟩
  case round =>
    obtain ⟨q, hq, rfl, HH⟩ := hrel
    by_cases hlt : q < wl.length
    · have hc := hcell.out _ (HH.blk _ (get_behind R _ 5)) q hlt
      have hL := hlet.out (wl[q]) (List.getElem_mem hlt)
      have hnext := hid (show (wl.take (q + 1)).foldl (letter ⟨kn, a1, a2, a3, a4, a5, a6, a7, a8, a9, a10⟩) (.of kn) = letter ⟨kn, a1, a2, a3, a4, a5, a6, a7, a8, a9, a10⟩ ((wl.take q).foldl (letter ⟨kn, a1, a2, a3, a4, a5, a6, a7, a8, a9, a10⟩) (.of kn)) (wl[q]) by
        rw [List.take_add_one, List.getElem?_eq_getElem hlt, List.foldl_append]; rfl)
      generalize wl[q] = c at hc hL hnext
      have ht := cell_blk (HH.blk _ (get_behind R _ 2)) (tab_at mb hL)
      have h117 : (c.toNat : Int) < 117 := by have := letter_lt hL; omega
      have hent := fun args w => letF_enter hL args w
      have HC := hid (st_letter HH (R.length + 0) (R.length + 4) (get_behind R _ 0) (get_behind R _ 4) hL)
      have hlt2 : (q : Int) < wl.length := by omega
      generalize letF c = F at ht hent HC
      have HL := hid (And.intro hlt (And.intro hq hL))
      clear hlt hq hL HH
      go_wp2_with fail
      refine HC.out.mono ?_
      rintro e w1 ⟨rfl, H2⟩
      rw [List.set_append_right _ _ (by omega), Nat.add_sub_cancel_left] at H2
      dsimp only [List.set] at H2
      rw [← hnext.out] at H2
      have H2 := hid H2
      go_wp2_with fail
      have hq1 : wrap64 ((q : Int) + 1) = ((q + 1 : Nat) : Int) := by
        have := HL.out.1; have := hw5.out
        rw [IntWalk.wrap64_in _ (by omega)]; rfl
      rw [hq1]
      refine ⟨⟨q + 1, by have := HL.out.1; omega, rfl, H2.out⟩, ?_⟩
      show wl.length - ((q + 1 : Nat) : Int).toNat < wl.length - (q : Int).toNat
      have := HL.out.1
      omega
    · obtain rfl : q = wl.length := by omega
      rw [List.take_length, ← hnm.out] at HH
      obtain ⟨N, hN⟩ : ∃ N, MV.named ⟨kn, a1, a2, a3, a4, a5, a6, a7, a8, a9, a10⟩ = N := ⟨_, rfl⟩
      rw [hN] at HH
      have hN := hid hN
      have hb4 := HH.blk _ (get_behind R _ 4)
      have hb1 := HH.blk _ (get_behind R _ 1)
      obtain ⟨n0, n1, n2, n3, n4, n5, n6, n7, n8, n9, n10⟩ := N
      dsimp only [MV.f, mO, MV.of] at hb4 hb1 ⊢
      have y0 := cell_blk (i := 0) hb4 rfl
      have z0 := cell_blk (i := 0) hb1 rfl
      have f0 := free_blk (i := 0) hb1
      have y1 := cell_blk (i := 1) hb4 rfl
      have z1 := cell_blk (i := 1) hb1 rfl
      have f1 := free_blk (i := 1) hb1
      have y2 := cell_blk (i := 2) hb4 rfl
      have z2 := cell_blk (i := 2) hb1 rfl
      have f2 := free_blk (i := 2) hb1
      have y3 := cell_blk (i := 3) hb4 rfl
      have z3 := cell_blk (i := 3) hb1 rfl
      have f3 := free_blk (i := 3) hb1
      have y4 := cell_blk (i := 4) hb4 rfl
      have z4 := cell_blk (i := 4) hb1 rfl
      have f4 := free_blk (i := 4) hb1
      have y5 := cell_blk (i := 5) hb4 rfl
      have z5 := cell_blk (i := 5) hb1 rfl
      have f5 := free_blk (i := 5) hb1
      have y6 := cell_blk (i := 6) hb4 rfl
      have z6 := cell_blk (i := 6) hb1 rfl
      have f6 := free_blk (i := 6) hb1
      have y7 := cell_blk (i := 7) hb4 rfl
      have z7 := cell_blk (i := 7) hb1 rfl
      have f7 := free_blk (i := 7) hb1
      have y8 := cell_blk (i := 8) hb4 rfl
      have z8 := cell_blk (i := 8) hb1 rfl
      have f8 := free_blk (i := 8) hb1
      have y9 := cell_blk (i := 9) hb4 rfl
      have z9 := cell_blk (i := 9) hb1 rfl
      have f9 := free_blk (i := 9) hb1
      have y10 := cell_blk (i := 10) hb4 rfl
      have z10 := cell_blk (i := 10) hb1 rfl
      have f10 := free_blk (i := 10) hb1
      have HZ := hid (HH.split1.blk11 (.int .i64 n0) (.int .i64 n1) (.int .i64 n2) (.int .i64 n3) (.int .i64 n4) (.int .i64 n5) (.int .i64 n6) (.int .i64 n7) (.int .u64 n8) (.string n9) (.string n10))
      clear HH hb4 hb1
      go_wp2_with fail
      have HZ := HZ.out
      have hr := HZ.blk (R ++ [BlkT mb (mO ⟨kn, a1, a2, a3, a4, a5, a6, a7, a8, a9, a10⟩)]).length (by rw [List.getElem?_append_right (Nat.le_refl _), Nat.sub_self]; rfl)
      have r0 := cell_blk (i := 0) hr rfl
      have r1 := cell_blk (i := 1) hr rfl
      have r2 := cell_blk (i := 2) hr rfl
      have r3 := cell_blk (i := 3) hr rfl
      have r4 := cell_blk (i := 4) hr rfl
      have r5 := cell_blk (i := 5) hr rfl
      have r6 := cell_blk (i := 6) hr rfl
      have r7 := cell_blk (i := 7) hr rfl
      have r8 := cell_blk (i := 8) hr rfl
      have r9 := cell_blk (i := 9) hr rfl
      have r10 := cell_blk (i := 10) hr rfl
      refine bodyPost_ret (v := .agg #[.int .i64 n0, .int .i64 n1, .int .i64 n2, .int .i64 n3, .int .i64 n4, .int .i64 n5, .int .i64 n6, .int .i64 n7, .int .u64 n8, .string n9, .string n10]) ?_ rfl ⟨by rw [hN.out], HZ.drop.drop⟩
      simp [results, Tryz.results51, go_sem, r0, r1, r2, r3, r4, r5, r6, r7, r8, r9, r10]
end

end Go.Proofs.YtkiccbjngokpjaaGreat

/-
  wire: Check.
-/
namespace Go.Proofs.YtkiccbjngokpjaaGreat
open Go.RowKit
set_option linter.unusedVariables false
set_option linter.unusedSimpArgs false

/-- A field, by its kind. -/
inductive FdOk : Fd → Prop where
  | int (s : Nat) (l u : Int) (hs : 1 ≤ s ∧ s ≤ 6) (hl : 0 ≤ l) (hu : u ≤ 1099511627776) : FdOk (.int s l u)
  | text (s : Nat) (l u : Int) (hs : 9 ≤ s ∧ s ≤ 10) (hu : u ≤ 1024) : FdOk (.text s l u)
theorem ok_fS : FdOk fS := .int _ _ _ (by decide) (by decide) (by decide)
theorem ok_fN : FdOk fN := .int _ _ _ (by decide) (by decide) (by decide)
theorem ok_fJ : FdOk fJ := .int _ _ _ (by decide) (by decide) (by decide)
theorem ok_fB : FdOk fB := .int _ _ _ (by decide) (by decide) (by decide)
theorem ok_fI {u : Int} (h : u ≤ 1099511627776) : FdOk (fI u) := .int _ _ _ (by decide) (by decide) h
theorem ok_fC {u : Int} (h : u ≤ 1099511627776) : FdOk (fC u) := .int _ _ _ (by decide) (by decide) h
theorem ok_fL : FdOk fL := .text _ _ _ (by decide) (by decide)
theorem ok_fP : FdOk fP := .text _ _ _ (by decide) (by decide)
theorem fds_ok (k : Int) (h4 : k ≠ 4) : ∀ f ∈ fdsOf k, FdOk f := by
  have h1 := ok_fS; have h2 := ok_fN; have h3 := ok_fJ; have h5 := ok_fB; have h6 := ok_fL; have h7 := ok_fP
  have h8 : FdOk (fI 31) := ok_fI (by decide)
  have h9 : FdOk (fI 16) := ok_fI (by decide)
  have h10 : FdOk (fC 32) := ok_fC (by decide)
  have h11 : FdOk (fC 17) := ok_fC (by decide)
  unfold fdsOf
  rw [if_neg h4]
  intro f hf
  repeat' split at hf
  all_goals (simp at hf)
  all_goals (first | (rcases hf with rfl | rfl | rfl | rfl | rfl <;> assumption) | (rcases hf with rfl | rfl | rfl | rfl <;> assumption) | (rcases hf with rfl | rfl | rfl <;> assumption) | (rcases hf with rfl | rfl <;> assumption) | (rcases hf with rfl <;> assumption))
theorem fds_len (k : Int) : (fdsOf k).length ≤ 5 := by
  unfold fdsOf
  repeat' split
  all_goals decide

/-- The cells of fields in a row. -/
theorem fs_cells : ∀ (l : List (Nat × Fd)) (q : Nat) (p : Nat × Fd) (c : Nat), l[q]? = some p → c < 3 → (l.flatMap (fun p => Fd.v p.1 p.2))[q * 3 + c]? = (Fd.v p.1 p.2)[c]?
  | [], q, p, c, h, hc => by simp at h
  | x :: l, 0, p, c, h, hc => by
    simp at h
    subst h
    have hx : (Fd.v x.1 x.2).length = 3 := by cases x.2 <;> rfl
    rw [List.flatMap_cons, List.getElem?_append_left (by omega), Nat.zero_mul, Nat.zero_add]
  | x :: l, q + 1, p, c, h, hc => by
    have hx : (Fd.v x.1 x.2).length = 3 := by cases x.2 <;> rfl
    rw [List.flatMap_cons, List.getElem?_append_right (by omega), hx, show (q + 1) * 3 + c - 3 = q * 3 + c by omega]
    exact fs_cells l q p c (by simpa using h) hc

theorem fs_int {wx : World} {B b q s : Nat} {lo up : Int} {l : List (Nat × Fd)} (h : wx.heap[B]? = some (fsO l)) (hp : l[q]? = some (b, .int s lo up)) :
    wx.cell? ⟨B, q * 3, none⟩ = some (.func (.func 87) #[] #[ptr b, ptr (b + 1), ptr (b + 2)]) ∧ wx.cell? ⟨B, q * 3 + 1, none⟩ = some (.func (.func 88) #[] #[ptr b]) ∧ wx.cell? ⟨B, q * 3 + 2, none⟩ = some (.func (.func 89) #[] #[ptr b]) := by
  have h0 := fs_cells l q _ 0 hp (by decide)
  have h1 := fs_cells l q _ 1 hp (by decide)
  have h2 := fs_cells l q _ 2 hp (by decide)
  exact ⟨cell_blk h (by rw [List.getElem?_toArray]; exact h0), cell_blk h (by rw [List.getElem?_toArray]; exact h1), cell_blk h (by rw [List.getElem?_toArray]; exact h2)⟩
theorem fs_text {wx : World} {B b q s : Nat} {lo up : Int} {l : List (Nat × Fd)} (h : wx.heap[B]? = some (fsO l)) (hp : l[q]? = some (b, .text s lo up)) :
    wx.cell? ⟨B, q * 3, none⟩ = some (.func (.func 90) #[] #[ptr b, ptr (b + 1), ptr (b + 2)]) ∧ wx.cell? ⟨B, q * 3 + 1, none⟩ = some (.func (.func 91) #[] #[ptr b]) ∧ wx.cell? ⟨B, q * 3 + 2, none⟩ = some (.func (.func 93) #[] #[ptr (b + 2), ptr b]) := by
  have h0 := fs_cells l q _ 0 hp (by decide)
  have h1 := fs_cells l q _ 1 hp (by decide)
  have h2 := fs_cells l q _ 2 hp (by decide)
  exact ⟨cell_blk h (by rw [List.getElem?_toArray]; exact h0), cell_blk h (by rw [List.getElem?_toArray]; exact h1), cell_blk h (by rw [List.getElem?_toArray]; exact h2)⟩

section
variable {W : Base} {w : World} {R : List Thing}
theorem named_fr (w : World) (m : MV) (hk : 1 ≤ m.kind ∧ m.kind ≤ 16) : Calls Tryz.prog 51 #[.agg m.f.toArray] w fun e w' => e = .returned (.agg m.named.f.toArray) ∧ Fr [] w w' := by
  refine (st_named (St.refl w) m hk).mono ?_
  rintro e w1 ⟨rfl, h⟩
  exact ⟨rfl, h.fr⟩
theorem msg_cells {wx : World} {b : Nat} {m : MV} (h : wx.heap[b]? = some (mO m)) : wx.cell? ⟨b, 0, none⟩ = some (.int .i64 m.kind) ∧ wx.cell? ⟨b, 1, none⟩ = some (.int .i64 m.ses) ∧ wx.cell? ⟨b, 2, none⟩ = some (.int .i64 m.num) ∧ wx.cell? ⟨b, 3, none⟩ = some (.int .i64 m.job) ∧ wx.cell? ⟨b, 4, none⟩ = some (.int .i64 m.bad) ∧ wx.cell? ⟨b, 5, none⟩ = some (.int .i64 m.idx) ∧ wx.cell? ⟨b, 6, none⟩ = some (.int .i64 m.cnt) ∧ wx.cell? ⟨b, 7, none⟩ = some (.int .i64 m.code) ∧ wx.cell? ⟨b, 8, none⟩ = some (.int .u64 m.bits) ∧ wx.cell? ⟨b, 9, none⟩ = some (.string m.text) ∧ wx.cell? ⟨b, 10, none⟩ = some (.string m.prog) :=
  ⟨cell_blk h rfl, cell_blk h rfl, cell_blk h rfl, cell_blk h rfl, cell_blk h rfl, cell_blk h rfl, cell_blk h rfl, cell_blk h rfl, cell_blk h rfl, cell_blk h rfl, cell_blk h rfl⟩

set_option maxHeartbeats 8000000 in
set_option maxRecDepth 100000 in
theorem st_wcheck (H : St W w R) (m : MV) (hm : m.Ok) : Calls Tryz.prog 36 #[.agg m.f.toArray] w fun e w' => e = .returned (.int .i64 0) ∧ St W w' R := by
  have hsf := run_store_func
  have hN := named_fr
  have HN := hid (fun wx => show Calls Tryz.prog 51 #[.agg m.f.toArray] wx fun e w' => e = .returned (.agg m.f.toArray) ∧ Fr [] wx w' from by have h := named_fr wx m hm.k; rw [hm.nm] at h; exact h)
  clear hN
  have HF := hid (fun (wx : World) (R : List Thing) (h : St W wx R) => st_fields h m.kind hm.k4)
  have HO := hid hm
  have hk1 : (m.kind < 1) = False := by have := hm.k; simp; omega
  have hk2 : (16 < m.kind) = False := by have := hm.k; simp; omega
  have hpt := hid hm.pt
  obtain ⟨M, hM⟩ : ∃ M, M = m := ⟨_, rfl⟩
  have hM := hid hM
  have HK := hid (show ∀ wx, Fr [] (w.alloc (mO m)) wx → _ from fun wx (h : Fr [] (w.alloc (mO m)) wx) => msg_cells (h.keep (blk_alloc_at w (mO m) w.heap.size rfl) (by simp)))
  have H0 := hid (H.alloc (mO m))
  clear H hm
  obtain ⟨k, a1, a2, a3, a4, a5, a6, a7, a8, a9, a10⟩ := m
  dsimp only [MV.f] at hk1 hk2 HN HK hpt HF ⊢
  dsimp only [mO, MV.f] at HK
  cases c6 : (k == 6)
  · go_enter Tryz.func36, Tryz.ntmps36
    go_wp2_with fail
    refine wp_region_calm (S := fun wx : World => Fr [] (w.alloc (mO ⟨k, a1, a2, a3, a4, a5, a6, a7, a8, a9, a10⟩)) wx) (by kernel_rfl) (by kernel_rfl) ((Fr.refl _ _).drew) ?_
    repeat (first | (refine calmRow_free (v := ?_) rfl ?_ ?_; rotate_left; (focus (intro wx hSx; (try dsimp only at hSx); have hcx := HK.out wx hSx; go_simp; (first | with_reducible rfl | exact ⟨rfl, hSx⟩ | (refine (HN.out _).mono ?_; rintro e w1 ⟨rfl, hF1⟩; refine ⟨?_, hSx.trans hF1⟩; with_reducible rfl)))); (try simp only [Act.put, List.setIfInBounds_toArray, List.set_cons_zero, List.set_cons_succ])) | (refine calmRow_skip ?_ ?_; (focus (go_simp; (try (intro hx; cases hx)); done)); (try simp only [Act.put, List.setIfInBounds_toArray, List.set_cons_zero, List.set_cons_succ])) | (refine calmRow_take (v := ?_) ?_ ?_ ?_; rotate_left; (focus (go_simp; done)); (focus (intro wx hSx; (try dsimp only at hSx); have hcx := HK.out wx hSx; go_simp; (first | with_reducible rfl | exact ⟨rfl, hSx⟩ | (refine (HN.out _).mono ?_; rintro e w1 ⟨rfl, hF1⟩; refine ⟨?_, hSx.trans hF1⟩; with_reducible rfl)))); (try simp only [Act.put, List.setIfInBounds_toArray, List.set_cons_zero, List.set_cons_succ])))
    refine calmRow_nil ?_
    intro wn hFx
    try dsimp only at hFx
    have HKn := hid (HK.out _ hFx)
    have H1 := H0.out.same hFx
    have x0 := HKn.out.1
    clear H0
    go_wp2_with fail
    refine (HF.out _ _ H1).mono ?_
    clear H1 x0
    rintro e w2 ⟨a, l, T, hl, rfl, H2, hT⟩
    have HT := hid hT
    have HL := hid hl
    rw [List.append_assoc] at H2
    have H2 := hid H2
    clear hT hl hFx
    generalize w.heap.size = mb at H2 ⊢
    have hl5 : l.length ≤ 5 := by
      have h1 := fds_len k
      rw [← HL.out, List.length_map] at h1
      exact h1
    generalize hn : l.length = n at hl5 ⊢
    have hN := hid hn
    have HN5 := hid hl5
    clear hn hl5
    go_wp2_with fail
    go_loopw [38, 3] (fun iv okv wr => ∃ q : Nat, q ≤ n ∧ iv = .int .i64 q ∧ okv = .bool true ∧ St W wr (R ++ ([BlkT mb (mO ⟨k, a1, a2, a3, a4, a5, a6, a7, a8, a9, a10⟩)] ++ T))) (fun iv _ _ => n - (intOf iv).toNat)
    case atStart => exact ⟨0, Nat.zero_le _, rfl, rfl, H2.out⟩
    case round =>
      obtain ⟨q, hq, rfl, rfl, HH⟩ := hrel
      by_cases hlt : q < n
      · have hql : q < l.length := by rw [hN.out]; exact hlt
        rcases HT.out with ⟨rfl, _⟩ | ⟨B, rfl, rfl⟩
        · exact absurd hql (Nat.not_lt_zero _)
        obtain ⟨⟨b, f⟩, hp⟩ : ∃ p, l[q]? = some p := ⟨_, List.getElem?_eq_getElem hql⟩
        have hfm : f ∈ fdsOf k := by
          have h1 : (b, f) ∈ l := List.mem_of_getElem? hp
          have h2 := List.mem_map_of_mem (f := (·.2)) h1
          rw [HL.out] at h2
          exact h2
        have hok := fds_ok k HO.out.k4 f hfm
        have hmay := HO.out.fd f hfm
        have hbB := HH.blk _ (get_behind R _ 1)
        have hj : (R ++ ([BlkT mb (mO ⟨k, a1, a2, a3, a4, a5, a6, a7, a8, a9, a10⟩)] ++ (BlkT B (fsO l) :: l.map (fun p => FdT p.1 p.2))))[R.length + (q + 1 + 1)]? = some (FdT b f) := by
          rw [get_behind, List.cons_append, List.nil_append, List.getElem?_cons_succ, List.getElem?_cons_succ, List.getElem?_map, hp]
          rfl
        have hlt2 : (q : Int) < n := by omega
        have hBl := lt_of_block hbB
        cases hok with
        | int s lo up hs hlo hup =>
          have HC := hid (fun o => st_may_i (HH.alloc_ o) (R.length + 0) _ hs (get_behind R _ 0) hj)
          rw [hmay] at HC
          obtain ⟨y0, y1, y2⟩ := fs_int hbB hp
          have HQ := hid (And.intro hlt hq)
          clear hj hp hbB HH hlt hq hql hs hlo hup hmay hfm
          go_wp2_with fail
          refine (HC.out _).mono ?_
          rintro e w3 ⟨rfl, H3⟩
          have HH := hid H3
          clear H3
          go_wp2_with fail
          have hq1 : wrap64 ((q : Int) + 1) = ((q + 1 : Nat) : Int) := by
            have := HQ.out.1; have := HN5.out
            rw [IntWalk.wrap64_in _ (by omega)]; rfl
          rw [hq1]
          refine ⟨⟨q + 1, by have := HQ.out.1; omega, rfl, rfl, HH.out⟩, ?_⟩
          show n - ((q + 1 : Nat) : Int).toNat < n - (q : Int).toNat
          have := HQ.out.1
          omega
        | text s lo up hs hup =>
          have HC := hid (fun o => st_may_s (HH.alloc_ o) (R.length + 0) _ hs (get_behind R _ 0) hj)
          rw [hmay] at HC
          obtain ⟨y0, y1, y2⟩ := fs_text hbB hp
          have HQ := hid (And.intro hlt hq)
          clear hj hp hbB HH hlt hq hql hs hup hmay hfm
          go_wp2_with fail
          refine (HC.out _).mono ?_
          rintro e w3 ⟨rfl, H3⟩
          have HH := hid H3
          clear H3
          go_wp2_with fail
          have hq1 : wrap64 ((q : Int) + 1) = ((q + 1 : Nat) : Int) := by
            have := HQ.out.1; have := HN5.out
            rw [IntWalk.wrap64_in _ (by omega)]; rfl
          rw [hq1]
          refine ⟨⟨q + 1, by have := HQ.out.1; omega, rfl, rfl, HH.out⟩, ?_⟩
          show n - ((q + 1 : Nat) : Int).toNat < n - (q : Int).toNat
          have := HQ.out.1
          omega
      · have HX := hid HH
        clear HH
        obtain rfl : q = n := by omega
        clear hlt hq
        go_wp2_with fail
        go_ret
        exact ⟨rfl, HX.out.drop⟩
  · cases c0 : (a5 == 0)
    · go_enter Tryz.func36, Tryz.ntmps36
      go_wp2_with fail
      refine wp_region_calm (S := fun wx : World => Fr [] (w.alloc (mO ⟨k, a1, a2, a3, a4, a5, a6, a7, a8, a9, a10⟩)) wx) (by kernel_rfl) (by kernel_rfl) ((Fr.refl _ _).drew) ?_
      repeat (first | (refine calmRow_free (v := ?_) rfl ?_ ?_; rotate_left; (focus (intro wx hSx; (try dsimp only at hSx); have hcx := HK.out wx hSx; go_simp; (first | with_reducible rfl | exact ⟨rfl, hSx⟩ | (refine (HN.out _).mono ?_; rintro e w1 ⟨rfl, hF1⟩; refine ⟨?_, hSx.trans hF1⟩; with_reducible rfl)))); (try simp only [Act.put, List.setIfInBounds_toArray, List.set_cons_zero, List.set_cons_succ])) | (refine calmRow_skip ?_ ?_; (focus (go_simp; (try (intro hx; cases hx)); done)); (try simp only [Act.put, List.setIfInBounds_toArray, List.set_cons_zero, List.set_cons_succ])) | (refine calmRow_take (v := ?_) ?_ ?_ ?_; rotate_left; (focus (go_simp; done)); (focus (intro wx hSx; (try dsimp only at hSx); have hcx := HK.out wx hSx; go_simp; (first | with_reducible rfl | exact ⟨rfl, hSx⟩ | (refine (HN.out _).mono ?_; rintro e w1 ⟨rfl, hF1⟩; refine ⟨?_, hSx.trans hF1⟩; with_reducible rfl)))); (try simp only [Act.put, List.setIfInBounds_toArray, List.set_cons_zero, List.set_cons_succ])))
      refine calmRow_nil ?_
      intro wn hFx
      try dsimp only at hFx
      have HKn := hid (HK.out _ hFx)
      have H1 := H0.out.same hFx
      have x0 := HKn.out.1
      clear H0
      go_wp2_with fail
      refine (HF.out _ _ H1).mono ?_
      clear H1 x0
      rintro e w2 ⟨a, l, T, hl, rfl, H2, hT⟩
      have HT := hid hT
      have HL := hid hl
      rw [List.append_assoc] at H2
      have H2 := hid H2
      clear hT hl hFx
      generalize w.heap.size = mb at H2 ⊢
      have hl5 : l.length ≤ 5 := by
        have h1 := fds_len k
        rw [← HL.out, List.length_map] at h1
        exact h1
      generalize hn : l.length = n at hl5 ⊢
      have hN := hid hn
      have HN5 := hid hl5
      clear hn hl5
      go_wp2_with fail
      go_loopw [38, 3] (fun iv okv wr => ∃ q : Nat, q ≤ n ∧ iv = .int .i64 q ∧ okv = .bool true ∧ St W wr (R ++ ([BlkT mb (mO ⟨k, a1, a2, a3, a4, a5, a6, a7, a8, a9, a10⟩)] ++ T))) (fun iv _ _ => n - (intOf iv).toNat)
      case atStart => exact ⟨0, Nat.zero_le _, rfl, rfl, H2.out⟩
      case round =>
        obtain ⟨q, hq, rfl, rfl, HH⟩ := hrel
        by_cases hlt : q < n
        · have hql : q < l.length := by rw [hN.out]; exact hlt
          rcases HT.out with ⟨rfl, _⟩ | ⟨B, rfl, rfl⟩
          · exact absurd hql (Nat.not_lt_zero _)
          obtain ⟨⟨b, f⟩, hp⟩ : ∃ p, l[q]? = some p := ⟨_, List.getElem?_eq_getElem hql⟩
          have hfm : f ∈ fdsOf k := by
            have h1 : (b, f) ∈ l := List.mem_of_getElem? hp
            have h2 := List.mem_map_of_mem (f := (·.2)) h1
            rw [HL.out] at h2
            exact h2
          have hok := fds_ok k HO.out.k4 f hfm
          have hmay := HO.out.fd f hfm
          have hbB := HH.blk _ (get_behind R _ 1)
          have hj : (R ++ ([BlkT mb (mO ⟨k, a1, a2, a3, a4, a5, a6, a7, a8, a9, a10⟩)] ++ (BlkT B (fsO l) :: l.map (fun p => FdT p.1 p.2))))[R.length + (q + 1 + 1)]? = some (FdT b f) := by
            rw [get_behind, List.cons_append, List.nil_append, List.getElem?_cons_succ, List.getElem?_cons_succ, List.getElem?_map, hp]
            rfl
          have hlt2 : (q : Int) < n := by omega
          have hBl := lt_of_block hbB
          cases hok with
          | int s lo up hs hlo hup =>
            have HC := hid (fun o => st_may_i (HH.alloc_ o) (R.length + 0) _ hs (get_behind R _ 0) hj)
            rw [hmay] at HC
            obtain ⟨y0, y1, y2⟩ := fs_int hbB hp
            have HQ := hid (And.intro hlt hq)
            clear hj hp hbB HH hlt hq hql hs hlo hup hmay hfm
            go_wp2_with fail
            refine (HC.out _).mono ?_
            rintro e w3 ⟨rfl, H3⟩
            have HH := hid H3
            clear H3
            go_wp2_with fail
            have hq1 : wrap64 ((q : Int) + 1) = ((q + 1 : Nat) : Int) := by
              have := HQ.out.1; have := HN5.out
              rw [IntWalk.wrap64_in _ (by omega)]; rfl
            rw [hq1]
            refine ⟨⟨q + 1, by have := HQ.out.1; omega, rfl, rfl, HH.out⟩, ?_⟩
            show n - ((q + 1 : Nat) : Int).toNat < n - (q : Int).toNat
            have := HQ.out.1
            omega
          | text s lo up hs hup =>
            have HC := hid (fun o => st_may_s (HH.alloc_ o) (R.length + 0) _ hs (get_behind R _ 0) hj)
            rw [hmay] at HC
            obtain ⟨y0, y1, y2⟩ := fs_text hbB hp
            have HQ := hid (And.intro hlt hq)
            clear hj hp hbB HH hlt hq hql hs hup hmay hfm
            go_wp2_with fail
            refine (HC.out _).mono ?_
            rintro e w3 ⟨rfl, H3⟩
            have HH := hid H3
            clear H3
            go_wp2_with fail
            have hq1 : wrap64 ((q : Int) + 1) = ((q + 1 : Nat) : Int) := by
              have := HQ.out.1; have := HN5.out
              rw [IntWalk.wrap64_in _ (by omega)]; rfl
            rw [hq1]
            refine ⟨⟨q + 1, by have := HQ.out.1; omega, rfl, rfl, HH.out⟩, ?_⟩
            show n - ((q + 1 : Nat) : Int).toNat < n - (q : Int).toNat
            have := HQ.out.1
            omega
        · have HX := hid HH
          clear HH
          obtain rfl : q = n := by omega
          clear hlt hq
          go_wp2_with fail
          go_ret
          exact ⟨rfl, HX.out.drop⟩
    · have ht : a9 = ⟨#[]⟩ := by
        have h1 : k = 6 := by simpa using c6
        have h2 : a5 = 0 := by simpa using c0
        exact Classical.byContradiction fun h3 => hpt.out ⟨h1, h2, h3⟩
      have e9 : a9.toList.isEmpty = true := by rw [ht]; simp [ByteArray.toList_eq]
      have hT9 := hid ht
      clear ht
      go_enter Tryz.func36, Tryz.ntmps36
      go_wp2_with fail
      refine wp_region_calm (S := fun wx : World => Fr [] (w.alloc (mO ⟨k, a1, a2, a3, a4, a5, a6, a7, a8, a9, a10⟩)) wx) (by kernel_rfl) (by kernel_rfl) ((Fr.refl _ _).drew) ?_
      repeat (first | (refine calmRow_free (v := ?_) rfl ?_ ?_; rotate_left; (focus (intro wx hSx; (try dsimp only at hSx); have hcx := HK.out wx hSx; go_simp; (first | with_reducible rfl | exact ⟨rfl, hSx⟩ | (refine (HN.out _).mono ?_; rintro e w1 ⟨rfl, hF1⟩; refine ⟨?_, hSx.trans hF1⟩; with_reducible rfl)))); (try simp only [Act.put, List.setIfInBounds_toArray, List.set_cons_zero, List.set_cons_succ])) | (refine calmRow_skip ?_ ?_; (focus (go_simp; (try (intro hx; cases hx)); done)); (try simp only [Act.put, List.setIfInBounds_toArray, List.set_cons_zero, List.set_cons_succ])) | (refine calmRow_take (v := ?_) ?_ ?_ ?_; rotate_left; (focus (go_simp; done)); (focus (intro wx hSx; (try dsimp only at hSx); have hcx := HK.out wx hSx; go_simp; (first | with_reducible rfl | exact ⟨rfl, hSx⟩ | (refine (HN.out _).mono ?_; rintro e w1 ⟨rfl, hF1⟩; refine ⟨?_, hSx.trans hF1⟩; with_reducible rfl)))); (try simp only [Act.put, List.setIfInBounds_toArray, List.set_cons_zero, List.set_cons_succ])))
      refine calmRow_nil ?_
      intro wn hFx
      try dsimp only at hFx
      have HKn := hid (HK.out _ hFx)
      have H1 := H0.out.same hFx
      have x0 := HKn.out.1
      clear H0
      go_wp2_with fail
      refine (HF.out _ _ H1).mono ?_
      clear H1 x0
      rintro e w2 ⟨a, l, T, hl, rfl, H2, hT⟩
      have HT := hid hT
      have HL := hid hl
      rw [List.append_assoc] at H2
      have H2 := hid H2
      clear hT hl hFx
      generalize w.heap.size = mb at H2 ⊢
      have hl5 : l.length ≤ 5 := by
        have h1 := fds_len k
        rw [← HL.out, List.length_map] at h1
        exact h1
      generalize hn : l.length = n at hl5 ⊢
      have hN := hid hn
      have HN5 := hid hl5
      clear hn hl5
      go_wp2_with fail
      go_loopw [38, 3] (fun iv okv wr => ∃ q : Nat, q ≤ n ∧ iv = .int .i64 q ∧ okv = .bool true ∧ St W wr (R ++ ([BlkT mb (mO ⟨k, a1, a2, a3, a4, a5, a6, a7, a8, a9, a10⟩)] ++ T))) (fun iv _ _ => n - (intOf iv).toNat)
      case atStart => exact ⟨0, Nat.zero_le _, rfl, rfl, H2.out⟩
      case round =>
        obtain ⟨q, hq, rfl, rfl, HH⟩ := hrel
        by_cases hlt : q < n
        · have hql : q < l.length := by rw [hN.out]; exact hlt
          rcases HT.out with ⟨rfl, _⟩ | ⟨B, rfl, rfl⟩
          · exact absurd hql (Nat.not_lt_zero _)
          obtain ⟨⟨b, f⟩, hp⟩ : ∃ p, l[q]? = some p := ⟨_, List.getElem?_eq_getElem hql⟩
          have hfm : f ∈ fdsOf k := by
            have h1 : (b, f) ∈ l := List.mem_of_getElem? hp
            have h2 := List.mem_map_of_mem (f := (·.2)) h1
            rw [HL.out] at h2
            exact h2
          have hok := fds_ok k HO.out.k4 f hfm
          have hmay := HO.out.fd f hfm
          have hbB := HH.blk _ (get_behind R _ 1)
          have hj : (R ++ ([BlkT mb (mO ⟨k, a1, a2, a3, a4, a5, a6, a7, a8, a9, a10⟩)] ++ (BlkT B (fsO l) :: l.map (fun p => FdT p.1 p.2))))[R.length + (q + 1 + 1)]? = some (FdT b f) := by
            rw [get_behind, List.cons_append, List.nil_append, List.getElem?_cons_succ, List.getElem?_cons_succ, List.getElem?_map, hp]
            rfl
          have hlt2 : (q : Int) < n := by omega
          have hBl := lt_of_block hbB
          cases hok with
          | int s lo up hs hlo hup =>
            have HC := hid (fun o => st_may_i (HH.alloc_ o) (R.length + 0) _ hs (get_behind R _ 0) hj)
            rw [hmay] at HC
            obtain ⟨y0, y1, y2⟩ := fs_int hbB hp
            have HQ := hid (And.intro hlt hq)
            clear hj hp hbB HH hlt hq hql hs hlo hup hmay hfm
            go_wp2_with fail
            refine (HC.out _).mono ?_
            rintro e w3 ⟨rfl, H3⟩
            have HH := hid H3
            clear H3
            go_wp2_with fail
            have hq1 : wrap64 ((q : Int) + 1) = ((q + 1 : Nat) : Int) := by
              have := HQ.out.1; have := HN5.out
              rw [IntWalk.wrap64_in _ (by omega)]; rfl
            rw [hq1]
            refine ⟨⟨q + 1, by have := HQ.out.1; omega, rfl, rfl, HH.out⟩, ?_⟩
            show n - ((q + 1 : Nat) : Int).toNat < n - (q : Int).toNat
            have := HQ.out.1
            omega
          | text s lo up hs hup =>
            have HC := hid (fun o => st_may_s (HH.alloc_ o) (R.length + 0) _ hs (get_behind R _ 0) hj)
            rw [hmay] at HC
            obtain ⟨y0, y1, y2⟩ := fs_text hbB hp
            have HQ := hid (And.intro hlt hq)
            clear hj hp hbB HH hlt hq hql hs hup hmay hfm
            go_wp2_with fail
            refine (HC.out _).mono ?_
            rintro e w3 ⟨rfl, H3⟩
            have HH := hid H3
            clear H3
            go_wp2_with fail
            have hq1 : wrap64 ((q : Int) + 1) = ((q + 1 : Nat) : Int) := by
              have := HQ.out.1; have := HN5.out
              rw [IntWalk.wrap64_in _ (by omega)]; rfl
            rw [hq1]
            refine ⟨⟨q + 1, by have := HQ.out.1; omega, rfl, rfl, HH.out⟩, ?_⟩
            show n - ((q + 1 : Nat) : Int).toNat < n - (q : Int).toNat
            have := HQ.out.1
            omega
        · have HX := hid HH
          clear HH
          obtain rfl : q = n := by omega
          clear hlt hq
          go_wp2_with fail
          go_ret
          exact ⟨rfl, HX.out.drop⟩
end

end Go.Proofs.YtkiccbjngokpjaaGreat

/-
  wire: Encode.
-/
namespace Go.Proofs.YtkiccbjngokpjaaGreat
open Go.RowKit
set_option linter.unusedVariables false
set_option linter.unusedSimpArgs false

def encTo (m : MV) (q : Nat) : ByteArray := ((fdsOf m.kind).take q).foldl (fun b f => b ++ f.lay m) (nf m.kind.toNat)
theorem encTo_succ {m : MV} {q : Nat} {f : Fd} (h : (fdsOf m.kind)[q]? = some f) : encTo m (q + 1) = encTo m q ++ f.lay m := by
  unfold encTo
  rw [List.take_add_one, h, List.foldl_append]
  rfl
theorem encTo_all (m : MV) : encTo m (fdsOf m.kind).length = m.enc := by
  unfold encTo
  rw [List.take_length]
  rfl
theorem nf_ten (n : Nat) (hn : n < 18446744073709551616) : (nf n).size ≤ 10 := by
  have := Lib.uvarint_length64 (x := n) hn
  show (Lib.uvarint n).toArray.size ≤ 10
  simpa using this
theorem fd_lay_le {m : MV} {f : Fd} (hf : FdOk f) (hm : f.may m = true) : (f.lay m).size ≤ 1034 := by
  cases hf with
  | int s l u hs hl hu =>
    simp only [Fd.may, Bool.and_eq_true, decide_eq_true_eq] at hm
    have := nf_ten (m.int s).toNat (by omega)
    show (nf (m.int s).toNat).size ≤ 1034
    omega
  | text s l u hs hu =>
    simp only [Fd.may, Bool.and_eq_true, decide_eq_true_eq] at hm
    have := nf_ten (m.str s).size (by omega)
    show (nf (m.str s).size ++ m.str s).size ≤ 1034
    rw [ByteArray.size_append]
    omega
theorem encTo_le {m : MV} (hm : m.Ok) : ∀ q, q ≤ (fdsOf m.kind).length → (encTo m q).size ≤ 10 + 1034 * q
  | 0, _ => by
    unfold encTo
    have := hm.k
    have := nf_ten m.kind.toNat (by omega)
    simpa using this
  | q + 1, h => by
    have ih := encTo_le hm q (by omega)
    have hq : (fdsOf m.kind)[q]? = some ((fdsOf m.kind)[q]'(by omega)) := List.getElem?_eq_getElem (by omega)
    have hmem : ((fdsOf m.kind)[q]'(by omega)) ∈ fdsOf m.kind := List.getElem_mem _
    have := fd_lay_le (fds_ok _ hm.k4 _ hmem) (hm.fd _ hmem)
    rw [encTo_succ hq, ByteArray.size_append]
    omega
def Fd.cost : Fd → Nat
  | .int _ _ _ => 10
  | _ => 1034
/-- The longest message. -/
theorem MV.Ok.enc_le {m : MV} (hm : m.Ok) : m.enc.size ≤ 2048 := by
  have hk := hm.k
  have h1 : ∀ {f : Fd}, f ∈ fdsOf m.kind → ∀ s l u, f = .int s l u → (f.lay m).size ≤ 10 := fun {f} hf s l u e => by
    have hk := fds_ok _ hm.k4 f hf
    have hmay := hm.fd f hf
    subst e
    cases hk with
    | int _ _ _ hs hl hu =>
      simp only [Fd.may, Bool.and_eq_true, decide_eq_true_eq] at hmay
      exact nf_ten (m.int s).toNat (by omega)
  have h2 : ∀ {f : Fd}, f ∈ fdsOf m.kind → (f.lay m).size ≤ 1034 := fun {f} hf => fd_lay_le (fds_ok _ hm.k4 f hf) (hm.fd f hf)
  have h0 := nf_ten m.kind.toNat (by omega)
  have hl : m.enc.size = (nf m.kind.toNat).size + (layB m (fdsOf m.kind)).length := by
    have := congrArg List.length (enc_bl m)
    rw [List.length_append, bl_len, bl_len] at this
    exact this
  rw [hl]
  have key : ∀ (l : List Fd), (∀ f ∈ l, (f.lay m).size ≤ f.cost) → (layB m l).length ≤ (l.map Fd.cost).sum := by
    intro l
    induction l with
    | nil => intro _; exact Nat.zero_le _
    | cons f l ih =>
      intro h
      have hf := h f (by simp)
      have := ih (fun g hg => h g (by simp [hg]))
      rw [List.map_cons, List.sum_cons, layB, List.length_append, bl_len]
      omega
  have h3 := key (fdsOf m.kind) (fun f hf => by
    cases f with
    | int s l u => exact h1 hf s l u rfl
    | text s l u => exact h2 hf
    | res => exact h2 hf)
  have h4 : ((fdsOf m.kind).map Fd.cost).sum ≤ 1074 := by
    have hkk := kinds hm.k hm.k4
    rcases hkk with e | e | e | e | e | e | e | e | e | e | e | e | e | e | e <;> (rw [e]; decide)
  omega

section
variable {W : Base} {w : World} {R : List Thing}
theorem St.msgAt {T : List Thing} {b : Nat} {m : MV} (h : St W w (R ++ (BlkT b (mO m) :: T))) : w.heap[b]? = some (mO m) := h.blk _ (get_behind R _ 0)
set_option maxHeartbeats 8000000 in
set_option maxRecDepth 100000 in
theorem st_wencode (H : St W w R) (m : MV) (hm : m.Ok) : Calls Tryz.prog 18 #[.agg m.f.toArray] w fun e w' => e = .returned (.tuple #[.string m.enc, .int .i64 0]) ∧ St W w' R := by
  have hsf := run_store_func
  have H0 := hid (H.alloc (mO m))
  have HCk := hid (fun (wx : World) (R : List Thing) (h : St W wx R) => st_wcheck h m hm)
  have HF := hid (fun (wx : World) (R : List Thing) (h : St W wx R) => st_fields h m.kind hm.k4)
  have HP := hid (fun wx => pack_num wx m.kind.toNat (by have := hm.k; omega))
  have HO := hid hm
  obtain ⟨kn, hkn⟩ : ∃ kn : Nat, m.kind = (kn : Int) := ⟨m.kind.toNat, by have := hm.k; omega⟩
  have hcv : IntKind.u64.wrap (kn : Int) = kn := IntWalk.u64_in _ (by have := hm.k; omega)
  have HE0 := hid (show encTo m 0 = nf kn by unfold encTo; rw [hkn]; simp)
  have HEn := hid (encTo_all m)
  have HEl := hid (fun q hq => encTo_le hm q hq)
  have HES := hid (fun q f h => encTo_succ (m := m) (q := q) (f := f) h)
  rw [hkn] at HF HP HEn HEl HES
  rw [Int.toNat_natCast] at HP
  obtain ⟨ET, hET⟩ : ∃ ET, ET = encTo m := ⟨_, rfl⟩
  rw [← hET] at HE0 HEn HEl HES
  obtain ⟨EN, hEN⟩ : ∃ EN, EN = m.enc := ⟨_, rfl⟩
  rw [← hEN] at HEn ⊢
  clear H hm hET hEN
  have hc0 := msg_cells H0.out.msgAt
  obtain ⟨k, a1, a2, a3, a4, a5, a6, a7, a8, a9, a10⟩ := m
  dsimp only at hkn
  subst hkn
  dsimp only [MV.f] at HCk ⊢
  dsimp only [mO, MV.f] at hc0
  obtain ⟨x0, x1, x2, x3, x4, x5, x6, x7, x8, x9, x10⟩ := hc0
  go_enter Tryz.func18, Tryz.ntmps18
  go_wp2_with fail
  refine (HCk.out _ _ H0.out).mono ?_
  clear x0 x1 x2 x3 x4 x5 x6 x7 x8 x9 x10 HCk
  rintro e w1 ⟨rfl, H1⟩
  have x0 := (msg_cells H1.msgAt).1
  dsimp only at x0
  have H1 := hid H1
  clear H0
  go_wp2_with fail
  refine (HP.out _).mono ?_
  rintro e w2 ⟨rfl, hF2⟩
  have H2 := H1.out.same hF2
  clear x0 H1 hF2
  have x0 := (msg_cells H2.msgAt).1
  dsimp only at x0
  have H2 := hid H2
  go_wp2_with fail
  refine (HF.out _ _ H2.out).mono ?_
  clear x0 H2
  rintro e w2 ⟨a, l, T, hl, rfl, H2, hT⟩
  have HT := hid hT
  have HL := hid hl
  rw [List.append_assoc] at H2
  have H2 := hid H2
  clear hT hl
  generalize w.heap.size = mb at H2 ⊢
  have hl5 : l.length ≤ 5 := by
    have h1 := fds_len kn
    rw [← HL.out, List.length_map] at h1
    exact h1
  rw [← HL.out, List.length_map] at HEn HEl
  generalize hn : l.length = n at hl5 HEn HEl ⊢
  have hN := hid hn
  have HN5 := hid hl5
  clear hn hl5
  rw [← HE0.out]
  go_wp2_with fail
  go_loopw [21, 5] (fun iv bv wr => ∃ q : Nat, q ≤ n ∧ iv = .int .i64 q ∧ bv = .string (ET q) ∧ St W wr (R ++ ([BlkT mb (mO ⟨kn, a1, a2, a3, a4, a5, a6, a7, a8, a9, a10⟩)] ++ T))) (fun iv _ _ => n - (intOf iv).toNat)
  case atStart => exact ⟨0, Nat.zero_le _, rfl, rfl, H2.out⟩
  case round =>
    obtain ⟨q, hq, rfl, rfl, HH⟩ := hrel
    by_cases hlt : q < n
    · have hql : q < l.length := by rw [hN.out]; exact hlt
      rcases HT.out with ⟨rfl, _⟩ | ⟨B, rfl, rfl⟩
      · exact absurd hql (Nat.not_lt_zero _)
      obtain ⟨⟨b, f⟩, hp⟩ : ∃ p, l[q]? = some p := ⟨_, List.getElem?_eq_getElem hql⟩
      have hfq : (fdsOf kn)[q]? = some f := by
        rw [← HL.out, List.getElem?_map, hp]; rfl
      have hfm : f ∈ fdsOf kn := List.mem_of_getElem? hfq
      have hok := fds_ok kn HO.out.k4 f hfm
      have hmay := HO.out.fd f hfm
      have hll := fd_lay_le hok hmay
      have hES := hid (HES.out q f hfq)
      have hsz := hid (HEl.out q hq)
      have hbB := HH.blk _ (get_behind R _ 1)
      have hj : (R ++ ([BlkT mb (mO ⟨kn, a1, a2, a3, a4, a5, a6, a7, a8, a9, a10⟩)] ++ (BlkT B (fsO l) :: l.map (fun p => FdT p.1 p.2))))[R.length + (q + 1 + 1)]? = some (FdT b f) := by
        rw [get_behind, List.cons_append, List.nil_append, List.getElem?_cons_succ, List.getElem?_cons_succ, List.getElem?_map, hp]
        rfl
      have hlt2 : (q : Int) < n := by omega
      have hBl := lt_of_block hbB
      cases hok with
      | int s lo up hs hlo hup =>
        have hmay2 : 0 ≤ MV.int ⟨kn, a1, a2, a3, a4, a5, a6, a7, a8, a9, a10⟩ s ∧ MV.int ⟨kn, a1, a2, a3, a4, a5, a6, a7, a8, a9, a10⟩ s ≤ 1099511627776 := by
          simp only [Fd.may, Bool.and_eq_true, decide_eq_true_eq] at hmay
          omega
        have HC := hid (fun o => st_lay_i (HH.alloc_ o) (R.length + 0) _ hs (get_behind R _ 0) hj hmay2)
        obtain ⟨y0, y1, y2⟩ := fs_int hbB hp
        have HQ := hid (And.intro hlt hq)
        generalize Fd.lay ⟨kn, a1, a2, a3, a4, a5, a6, a7, a8, a9, a10⟩ (.int s lo up) = fl at HC hES hll
        have hlen : ¬ 9223372036854775807 < (ET q).size + fl.size := by have := hsz.out; have := HN5.out; omega
        generalize ET q = eq at hES hlen ⊢
        clear hj hp hbB HH hlt hq hql hs hlo hup hmay hmay2 hfm hfq hll hsz
        go_wp2_with fail
        refine (HC.out _).mono ?_
        rintro e w3 ⟨rfl, H3⟩
        have HH := hid H3
        clear H3
        go_wp2_with fail
        have hq1 : wrap64 ((q : Int) + 1) = ((q + 1 : Nat) : Int) := by
          have := HQ.out.1; have := HN5.out
          rw [IntWalk.wrap64_in _ (by omega)]; rfl
        rw [hq1]
        refine ⟨⟨q + 1, by have := HQ.out.1; omega, rfl, by rw [hES.out], HH.out⟩, ?_⟩
        show n - ((q + 1 : Nat) : Int).toNat < n - (q : Int).toNat
        have := HQ.out.1
        omega
      | text s lo up hs hup =>
        have hmay2 : (MV.str ⟨kn, a1, a2, a3, a4, a5, a6, a7, a8, a9, a10⟩ s).size ≤ 1024 := by
          simp only [Fd.may, Bool.and_eq_true, decide_eq_true_eq] at hmay
          omega
        have HC := hid (fun o => st_lay_s (HH.alloc_ o) (R.length + 0) _ hs (get_behind R _ 0) hj hmay2)
        obtain ⟨y0, y1, y2⟩ := fs_text hbB hp
        have HQ := hid (And.intro hlt hq)
        generalize Fd.lay ⟨kn, a1, a2, a3, a4, a5, a6, a7, a8, a9, a10⟩ (.text s lo up) = fl at HC hES hll
        have hlen : ¬ 9223372036854775807 < (ET q).size + fl.size := by have := hsz.out; have := HN5.out; omega
        generalize ET q = eq at hES hlen ⊢
        clear hj hp hbB HH hlt hq hql hs hup hmay hmay2 hfm hfq hll hsz
        go_wp2_with fail
        refine (HC.out _).mono ?_
        rintro e w3 ⟨rfl, H3⟩
        have HH := hid H3
        clear H3
        go_wp2_with fail
        have hq1 : wrap64 ((q : Int) + 1) = ((q + 1 : Nat) : Int) := by
          have := HQ.out.1; have := HN5.out
          rw [IntWalk.wrap64_in _ (by omega)]; rfl
        rw [hq1]
        refine ⟨⟨q + 1, by have := HQ.out.1; omega, rfl, by rw [hES.out], HH.out⟩, ?_⟩
        show n - ((q + 1 : Nat) : Int).toNat < n - (q : Int).toNat
        have := HQ.out.1
        omega
    · have HX := hid HH
      clear HH
      obtain rfl : q = n := by omega
      clear hlt hq
      rw [HEn.out]
      go_wp2_with fail
      go_ret2
      exact ⟨rfl, HX.out.drop⟩
end

end Go.Proofs.YtkiccbjngokpjaaGreat

/-
  wire: Decode, of a message's bytes.
-/
namespace Go.Proofs.YtkiccbjngokpjaaGreat
open Go.RowKit
set_option linter.unusedVariables false
set_option linter.unusedSimpArgs false

theorem layB_app (m : MV) : ∀ (l l' : List Fd), layB m (l ++ l') = layB m l ++ layB m l'
  | [], l' => rfl
  | f :: l, l' => by rw [List.cons_append, layB, layB_app m l l', layB, List.append_assoc]
/-- The first fields, read. -/
theorem MV.Ok.pre {m : MV} (hm : m.Ok) {q0 : Nat} (hr : Rds m.enc q0 (layB m (fdsOf m.kind)) m.enc.size) (hq0 : q0 ≤ m.enc.size) (j : Nat) :
    ∃ p, rdF ⟨m.enc, q0, 0⟩ (MV.of m.kind) ((fdsOf m.kind).take j) = (⟨m.enc, p, 0⟩, ((fdsOf m.kind).take j).foldl (Fd.copy m) (MV.of m.kind)) ∧ p ≤ m.enc.size := by
  have hs := hm.enc_le
  rw [← List.take_append_drop j (fdsOf m.kind), layB_app] at hr
  obtain ⟨p, h1, h2⟩ := Rds.append.1 hr
  refine ⟨p, ?_, h1.le⟩
  exact rdF_ok (m := m) ((fdsOf m.kind).take j) ⟨m.enc, q0, 0⟩ (MV.of m.kind) p rfl ⟨hq0, show m.enc.size ≤ 140737488355328 by omega⟩ (fun f hf => ⟨fds_kinds _ hm.k4 f (List.mem_of_mem_take hf), hm.fd f (List.mem_of_mem_take hf), (fds_bounds _ f (List.mem_of_mem_take hf)).1, (fds_bounds _ f (List.mem_of_mem_take hf)).2⟩) h1

theorem set_beh {α : Type} (R L : List α) (k : Nat) (x : α) : (R ++ L).set (R.length + k) x = R ++ L.set k x := by
  rw [List.set_append_right _ _ (by omega), Nat.add_sub_cancel_left]

section
variable {W : Base} {w : World} {R : List Thing}
set_option maxHeartbeats 8000000 in
set_option maxRecDepth 100000 in
theorem st_wdecode (H : St W w R) (m : MV) (hm : m.Ok) : Calls Tryz.prog 45 #[.string m.enc] w fun e w' => e = .returned (.tuple #[.agg m.f.toArray, .int .i64 0]) ∧ St W w' R := by
  have hsf := run_store_func
  have hel := hm.enc_le
  obtain ⟨hr1, hr2⟩ := Rds.front (enc_bl m)
  have hk := hm.k
  obtain ⟨kn, hkn⟩ : ∃ kn : Nat, m.kind = (kn : Int) := ⟨m.kind.toNat, by omega⟩
  have hkn2 : m.kind.toNat = kn := by omega
  rw [hkn2] at hr1 hr2
  generalize (bl (nf kn)).length = q0 at hr1 hr2
  have hX : rdMost m.enc 0 16 21 = .ok (kn, q0) := rdMost_iff.2 ⟨hr1, by omega, by omega⟩
  have hwf0 : RS.wf ⟨m.enc, 0, 0⟩ := ⟨Nat.zero_le _, show m.enc.size ≤ 140737488355328 by omega⟩
  have hpre := hid (fun j => hm.pre hr2 hr1.le j)
  have HSn := hid (fun (l : List Fd) (f : Fd) => rdF_snoc ⟨m.enc, q0, 0⟩ (MV.of m.kind) l f)
  have hall := hid (show rdF ⟨m.enc, q0, 0⟩ (MV.of m.kind) (fdsOf m.kind) = (⟨m.enc, m.enc.size, 0⟩, m) by
    have h3 := rdF_ok (m := m) (fdsOf m.kind) ⟨m.enc, q0, 0⟩ (MV.of m.kind) m.enc.size rfl ⟨hr1.le, show m.enc.size ≤ 140737488355328 by omega⟩ (fun f hf => ⟨fds_kinds _ hm.k4 f hf, hm.fd f hf, (fds_bounds _ f hf).1, (fds_bounds _ f hf).2⟩) hr2
    rw [named_copy hm] at h3
    exact h3)
  have HR := hid (fun (wx : World) (R : List Thing) (h : St W wx R) => st_read0 h m.enc)
  have HNm := hid (fun (wx : World) (R : List Thing) (r : Nat) (h : St W wx (R ++ [RdT r ⟨m.enc, 0, 0⟩])) => show Calls Tryz.prog 66 #[ptr r, .int .u64 16] wx fun e w' => e = .returned (.int .u64 kn) ∧ St W w' (R ++ [RdT r ⟨m.enc, q0, 0⟩]) from by
    have h1 := st_Num h R.length (r := r) (s := ⟨m.enc, 0, 0⟩) (by simp) hwf0 (most := 16) (by decide)
    refine h1.mono ?_
    rintro e w' ⟨rfl, h2⟩
    have e1 : (16 : Int) = ((16 : Nat) : Int) := rfl
    rw [← e1, hX] at h2
    rw [← e1, hX]
    simp only [RS.got, RS.face, if_true] at h2 ⊢
    rw [List.set_append_right _ _ (Nat.le_refl _), Nat.sub_self] at h2
    exact ⟨trivial, h2⟩)
  have HCk := hid (fun (wx : World) (R : List Thing) (h : St W wx R) => st_wcheck h m hm)
  have HF := hid (fun (wx : World) (R : List Thing) (h : St W wx R) => st_fields h m.kind hm.k4)
  have hk4 := hid hm.k4
  have hcv : IntKind.i64.wrap (kn : Int) = kn := IntWalk.i64_in _ (by omega)
  have hlen : (m.enc.size : Int) ≤ 2048 := by omega
  have H0 := hid (H.alloc (mO (.of 0)))
  clear H hwf0 hr1 hr2 hX hk hkn2 hm
  rw [hkn] at hpre HSn hall HF hk4
  generalize m.enc = en at *
  clear hel
  have hKN := hid hkn
  clear hkn
  go_enter Tryz.func45, Tryz.ntmps45
  go_wp2_with fail
  refine (HR.out _ _ H0.out).mono ?_
  clear HR
  rintro e w1 ⟨r, rfl, H1⟩
  have HN := hid (HNm.out _ _ _ H1)
  clear HNm H0 H1
  go_wp2_with fail
  refine HN.out.mono ?_
  clear HN
  rintro e w2 ⟨rfl, H2⟩
  have H2 := hid H2
  go_wp2_with fail
  have H3 := H2.out.alloc (mO (.of kn))
  simp only [List.append_assoc, List.cons_append, List.nil_append] at H3
  refine (HF.out _ _ H3).mono ?_
  clear H3 H2 HF
  rintro e w3 ⟨a, l, T, hl, rfl, H2, hT⟩
  have HT := hid hT
  have HL := hid hl
  rw [List.append_assoc] at H2
  have H2 := hid H2
  clear hT hl
  generalize w.heap.size = zb at H2 ⊢
  generalize w2.heap.size = nb at H2 ⊢
  have hl5 : l.length ≤ 5 := by
    have h1 := fds_len kn
    rw [← HL.out, List.length_map] at h1
    exact h1
  have hlF : l.length = (fdsOf kn).length := by rw [← HL.out, List.length_map]
  generalize hn : l.length = n at hl5 hlF ⊢
  have hN := hid hn
  have HN5 := hid (And.intro hl5 hlF)
  clear hn hl5 hlF
  go_wp2_with fail
  go_loopw [24] (fun iv wr => ∃ q : Nat, q ≤ n ∧ iv = .int .i64 q ∧ St W wr (R ++ ([BlkT zb (mO (.of 0)), RdT r (rdF ⟨en, q0, 0⟩ (MV.of kn) ((fdsOf kn).take q)).1, BlkT nb (mO (rdF ⟨en, q0, 0⟩ (MV.of kn) ((fdsOf kn).take q)).2)] ++ T))) (fun iv _ => n - (intOf iv).toNat)
  case atStart => exact ⟨0, Nat.zero_le _, rfl, H2.out⟩
  case round =>
    obtain ⟨q, hq, rfl, HH⟩ := hrel
    by_cases hlt : q < n
    · have hql : q < l.length := by rw [hN.out]; exact hlt
      rcases HT.out with ⟨rfl, _⟩ | ⟨B, rfl, rfl⟩
      · exact absurd hql (Nat.not_lt_zero _)
      obtain ⟨⟨b, f⟩, hp⟩ : ∃ p, l[q]? = some p := ⟨_, List.getElem?_eq_getElem hql⟩
      have hfq : (fdsOf kn)[q]? = some f := by
        rw [← HL.out, List.getElem?_map, hp]; rfl
      have hfm : f ∈ fdsOf kn := List.mem_of_getElem? hfq
      have hok := fds_ok kn hk4.out f hfm
      have hSn : (fdsOf kn).take (q + 1) = (fdsOf kn).take q ++ [f] := by rw [List.take_add_one, hfq]; rfl
      have hnx := HSn.out ((fdsOf kn).take q) f
      rw [← hSn] at hnx
      obtain ⟨p, hrd, hpl⟩ := hpre.out q
      rw [hrd] at HH hnx
      generalize ((fdsOf kn).take q).foldl (Fd.copy m) (MV.of kn) = nm at HH hnx hrd
      dsimp only at HH hnx
      have hnx := hid hnx
      have hwf : RS.wf ⟨en, p, 0⟩ := ⟨hpl, show en.size ≤ 140737488355328 by omega⟩
      have hbB := HH.blk _ (get_behind R _ 3)
      have hj : (R ++ ([BlkT zb (mO (.of 0)), RdT r ⟨en, p, 0⟩, BlkT nb (mO nm)] ++ (BlkT B (fsO l) :: l.map (fun p => FdT p.1 p.2))))[R.length + (q + 1 + 1 + 1 + 1)]? = some (FdT b f) := by
        rw [get_behind, List.cons_append, List.cons_append, List.cons_append, List.nil_append, List.getElem?_cons_succ, List.getElem?_cons_succ, List.getElem?_cons_succ, List.getElem?_cons_succ, List.getElem?_map, hp]
        rfl
      have hlt2 : (q : Int) < n := by omega
      have hBl := lt_of_block hbB
      cases hok with
      | int s lo up hs hlo hup =>
        have HC := hid (fun o => st_read_i (HH.alloc_ o) (R.length + 2) _ (R.length + 1) hs (get_behind R _ 2) hj (get_behind R _ 1) (by omega) hwf)
        obtain ⟨y0, y1, y2⟩ := fs_int hbB hp
        have HQ := hid (And.intro hlt hq)
        clear hj hp hbB HH hlt hq hql hs hlo hup hfm hfq hrd hpl hwf hSn
        go_wp2_with fail
        refine (HC.out _).mono ?_
        rintro e w4 ⟨rfl, H3⟩
        rw [set_beh, set_beh] at H3
        have HH := hid H3
        clear H3
        go_wp2_with fail
        have hq1 : wrap64 ((q : Int) + 1) = ((q + 1 : Nat) : Int) := by
          have := HQ.out.1; have := HN5.out.1
          rw [IntWalk.wrap64_in _ (by omega)]; rfl
        rw [hq1]
        refine ⟨⟨q + 1, by have := HQ.out.1; omega, rfl, by rw [hnx.out]; exact HH.out⟩, ?_⟩
        show n - ((q + 1 : Nat) : Int).toNat < n - (q : Int).toNat
        have := HQ.out.1
        omega
      | text s lo up hs hup =>
        have HC := hid (fun o => st_read_s (HH.alloc_ o) (R.length + 2) _ (R.length + 1) hs (get_behind R _ 2) hj (get_behind R _ 1) (by omega) hwf hup)
        obtain ⟨y0, y1, y2⟩ := fs_text hbB hp
        have HQ := hid (And.intro hlt hq)
        clear hj hp hbB HH hlt hq hql hs hup hfm hfq hrd hpl hwf hSn
        go_wp2_with fail
        refine (HC.out _).mono ?_
        rintro e w4 ⟨rfl, H3⟩
        rw [set_beh, set_beh] at H3
        have HH := hid H3
        clear H3
        go_wp2_with fail
        have hq1 : wrap64 ((q : Int) + 1) = ((q + 1 : Nat) : Int) := by
          have := HQ.out.1; have := HN5.out.1
          rw [IntWalk.wrap64_in _ (by omega)]; rfl
        rw [hq1]
        refine ⟨⟨q + 1, by have := HQ.out.1; omega, rfl, by rw [hnx.out]; exact HH.out⟩, ?_⟩
        show n - ((q + 1 : Nat) : Int).toNat < n - (q : Int).toNat
        have := HQ.out.1
        omega
    · obtain rfl : q = n := by omega
      rw [HN5.out.2, List.take_length, hall.out] at HH
      dsimp only at HH
      have HE := hid (st_end HH (R.length + 1) (get_behind R _ 1))
      have hee : RS.end_ ⟨en, en.size, 0⟩ = (0, 0) := by simp [RS.end_, RS.fault]
      rw [hee] at HE
      clear hlt hq HH hee
      go_wp2_with fail
      refine HE.out.mono ?_
      clear HE
      rintro e w5 ⟨rfl, H5⟩
      obtain ⟨x0, x1, x2, x3, x4, x5, x6, x7, x8, x9, x10⟩ := msg_cells (H5.blk _ (get_behind R _ 2))
      have HC := HCk.out _ _ H5
      dsimp only [MV.f] at HC
      have HC := hid HC
      clear H5
      go_wp2_with fail
      refine HC.out.mono ?_
      clear HC x0 x1 x2 x3 x4 x5 x6 x7 x8 x9 x10
      rintro e w6 ⟨rfl, H6⟩
      obtain ⟨x0, x1, x2, x3, x4, x5, x6, x7, x8, x9, x10⟩ := msg_cells (H6.blk _ (get_behind R _ 2))
      have hb1 := H6.blk _ (get_behind R _ 0)
      obtain ⟨z0, z1, z2, z3, z4, z5, z6, z7, z8, z9, z10⟩ := msg_cells hb1
      dsimp only [MV.of] at z0 z1 z2 z3 z4 z5 z6 z7 z8 z9 z10
      have f0 := free_blk (i := 0) hb1
      have f1 := free_blk (i := 1) hb1
      have f2 := free_blk (i := 2) hb1
      have f3 := free_blk (i := 3) hb1
      have f4 := free_blk (i := 4) hb1
      have f5 := free_blk (i := 5) hb1
      have f6 := free_blk (i := 6) hb1
      have f7 := free_blk (i := 7) hb1
      have f8 := free_blk (i := 8) hb1
      have f9 := free_blk (i := 9) hb1
      have f10 := free_blk (i := 10) hb1
      have HZ := hid (St.blk11 (T := R) (rest := _) (.int .i64 m.kind) (.int .i64 m.ses) (.int .i64 m.num) (.int .i64 m.job) (.int .i64 m.bad) (.int .i64 m.idx) (.int .i64 m.cnt) (.int .i64 m.code) (.int .u64 m.bits) (.string m.text) (.string m.prog) H6)
      clear H6 hb1
      go_wp2_with fail
      have HZ := HZ.out
      have hr := HZ.blk _ (get_behind R _ 0)
      have r0 := cell_blk (i := 0) hr rfl
      have r1 := cell_blk (i := 1) hr rfl
      have r2 := cell_blk (i := 2) hr rfl
      have r3 := cell_blk (i := 3) hr rfl
      have r4 := cell_blk (i := 4) hr rfl
      have r5 := cell_blk (i := 5) hr rfl
      have r6 := cell_blk (i := 6) hr rfl
      have r7 := cell_blk (i := 7) hr rfl
      have r8 := cell_blk (i := 8) hr rfl
      have r9 := cell_blk (i := 9) hr rfl
      have r10 := cell_blk (i := 10) hr rfl
      refine bodyPost_ret (v := .tuple #[.agg #[.int .i64 m.kind, .int .i64 m.ses, .int .i64 m.num, .int .i64 m.job, .int .i64 m.bad, .int .i64 m.idx, .int .i64 m.cnt, .int .i64 m.code, .int .u64 m.bits, .string m.text, .string m.prog], .int .i64 0]) ?_ rfl ⟨rfl, HZ.drop⟩
      simp [results, Tryz.results45, go_sem, r0, r1, r2, r3, r4, r5, r6, r7, r8, r9, r10]
end

end Go.Proofs.YtkiccbjngokpjaaGreat
