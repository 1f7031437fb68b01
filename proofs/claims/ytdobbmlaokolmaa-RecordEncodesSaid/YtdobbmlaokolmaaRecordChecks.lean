/-
  RecordChecks: the walk.
-/
import Derived.Test.YtdobbmlaokolmaaCp
import Derived.Test.YtdobbmlaokolmaaX1
import Derived.Test.YtdobbmlaokolmaaLex
namespace Go.Proofs.Ytdobbmlaokolmaa
open Go.RowKit
set_option linter.unusedVariables false
set_option linter.unusedSimpArgs false

theorem OneArg.fr0 {w w' : World} {x : CV × TS} (h : OneArg w x) (hF : Fr [] w w') : OneArg w' x := ⟨⟨h.tx.row.fr0 hF, h.tx.le, h.tx.cap, h.tx.str⟩, h.bits, h.prog, h.nums⟩
theorem same_self (w : World) (c : CV) (t u : TS) (ht : In w 1 t.a c.texts.length t.c (sL.at_ c.texts)) (hu : In w 1 u.a c.texts.length u.c (sL.at_ c.texts)) :
    Calls Try.prog 13 #[.agg (c.f t).toArray, .agg (c.f u).toArray] w fun e w' => e = .returned (.bool true) ∧ Fr [] w w' :=
  (sameOne_walk w c c t u ht hu).mono fun e w' ⟨⟨z, h1, h2⟩, h3⟩ => ⟨by rw [h1, h2.2 rfl], h3⟩
theorem St.rwIn {W : Base} {w : World} {R : List Thing} (H : St W w R) (i : Nat) {x : CV × TS} (hi : R[i]? = some (RwX x)) : In w 1 x.2.a x.1.texts.length x.2.c (sL.at_ x.1.texts) := by
  obtain ⟨a, c, h1, h2⟩ := ownsRow_In (H.row i hi) (sL.at_ x.1.texts) (fun j hj => sL.get _ j hj)
  simp only [Value.slice.injEq] at h1
  obtain ⟨h3, _, h4⟩ := h1
  rw [h3, h4]
  exact h2.1

open Go.ChangeShapes Go.WideShapes Go.ChangeAt in
theorem ch_one {H : Type} {enc : TypeId × Value → H} {w : World} {base n : Nat} {spare : Nat → Bool} {held : Bool} {cs : Array Value} {l : List Value} {x : DataW H × List MemPlace} (hc : cs.size = 10) (hsp : ∀ b, spare b = true) (hl : l = cs.toList)
    (hf : DataW.trod enc Try.prog w base spare held n 27 l = some x) (hw : ∀ k ∈ x.1.weights Try.prog 27, k ≤ reachBytes) : ∃ y : CV × TS, cs = (cL.f y).toArray ∧ OneArg w y := by
  subst hl
  obtain ⟨y, h1, h2⟩ := one_arg (enc := enc) (w := w) (base := base) (spare := spare) (held := held) (c := fun q => cs.toList.getD q undef) hsp (fun q L hq => by
    obtain ⟨v, hv, hok⟩ := flat_ok (R := reachBytes) flat_ch hf hw q L hq
    rw [List.getD_eq_getElem?_getD, hv]
    exact hok)
  refine ⟨y, ?_, h1⟩
  have hlen : cs.toList.length = 10 := by simpa using hc
  have e : cs.toList = cL.f y := List.ext_getElem? fun q => by
    by_cases hq : q < 10
    · have := h2 q hq
      rw [List.getD_eq_getElem?_getD, List.getD_eq_getElem?_getD] at this
      rw [List.getElem?_eq_getElem (by omega), List.getElem?_eq_getElem (show q < (cL.f y).length by rw [cL.len]; exact hq)] at this ⊢
      simpa using this
    · rw [List.getElem?_eq_none (by omega), List.getElem?_eq_none (by rw [cL.len]; show 10 ≤ q; omega)]
  rw [← e]

set_option maxHeartbeats 4000000 in
set_option maxRecDepth 100000 in
theorem recordChecks_walk (w : World) (x : CV × TS) (hx : OneArg w x) :
    Calls Try.prog 3 #[.agg #[.int .i64 x.1.kind, .int .i64 x.1.n, .int .i64 x.1.job, .int .i64 x.1.badge, .int .i64 x.1.slot, .int .i64 x.1.life, .int .i64 x.1.code, .int .u64 x.1.bits, .string x.1.prog, .slice x.2.a x.1.texts.length x.2.c]] w fun e w' => e = .returned (.bool true) ∧ Fr [] w w' := by
  obtain ⟨w1, hw1⟩ : ∃ w1, (w.alloc (.cells #[.int .i64 x.1.kind, .int .i64 x.1.n, .int .i64 x.1.job, .int .i64 x.1.badge, .int .i64 x.1.slot, .int .i64 x.1.life, .int .i64 x.1.code, .int .u64 x.1.bits, .string x.1.prog, .slice x.2.a x.1.texts.length x.2.c] 27)).alloc (.cells #[.int .i64 x.1.kind, .int .i64 x.1.n, .int .i64 x.1.job, .int .i64 x.1.badge, .int .i64 x.1.slot, .int .i64 x.1.life, .int .i64 x.1.code, .int .u64 x.1.bits, .string x.1.prog, .slice x.2.a x.1.texts.length x.2.c] 27) = w1 := ⟨_, rfl⟩
  have hF1 : Fr [] w w1 := by rw [← hw1]; exact ((Fr.refl _ _).alloc _).alloc _
  have hb1 : w1.heap[w.heap.size]? = some (.cells #[.int .i64 x.1.kind, .int .i64 x.1.n, .int .i64 x.1.job, .int .i64 x.1.badge, .int .i64 x.1.slot, .int .i64 x.1.life, .int .i64 x.1.code, .int .u64 x.1.bits, .string x.1.prog, .slice x.2.a x.1.texts.length x.2.c] 27 (0, 0)) := by rw [← hw1]; exact blk_alloc_lt _ (blk_alloc_at _ _ _ rfl)
  have hb2 : w1.heap[w.heap.size + 1]? = some (.cells (cL.cells [x]).toArray 27 (0, 0)) := by rw [← hw1]; exact blk_alloc_at _ _ _ (by simp)
  have hC : ChArg w1 (some ⟨w.heap.size + 1, 0, none⟩) 1 1 [x] := ⟨in_new hb2 (by show 1 ≤ maxLen; unfold maxLen; omega), rfl, Nat.le_refl _, by omega, fun y hy => by rw [List.mem_singleton.1 hy]; exact hx.fr0 hF1⟩
  have hcp := st_copy (St.refl w1) hC
  have hx1 := hx.fr0 hF1
  rw [← hw1] at hcp
  have hcp := hid hcp
  have hW := hid (And.intro hF1 (And.intro hb1 (And.intro hx1 hw1)))
  clear hF1 hb1 hb2 hC hx1 hw1 hx
  go_enter Try.func3, Try.ntmps3
  go_wp2_with fail
  refine hcp.out.mono ?_
  rintro e w2 ⟨g, l', rfl, hmap, hroomy, H2⟩
  obtain ⟨y, rfl⟩ : ∃ y, l' = [y] := by
    rcases l' with _ | ⟨y, _ | ⟨z, l⟩⟩
    · simp at hmap
    · exact ⟨y, rfl⟩
    · simp at hmap
  obtain ⟨c, t⟩ := y
  simp only [List.map_cons, List.map_nil, List.cons.injEq, and_true] at hmap
  subst hmap
  rw [hW.out.2.2.2] at H2
  have hF2 : Fr [] w1 w2 := H2.fr
  have hown : w2.ownsRow 0 27 10 (.slice (some ⟨g, 0, none⟩) 1 3) 1 (cL.cells [(x.1, t)]) := H2.row 0 rfl
  have hin : In w2 10 (some ⟨g, 0, none⟩) 1 3 (cL.at_ [(x.1, t)]) := ownsRow_in hown _ (fun j hj => cL.get _ j hj)
  have hT := hid (H2.rwIn 1 (x := (x.1, t)) rfl)
  have hcg := ch_cells hin 0 (Nat.zero_lt_succ 0) (x.1, t) rfl
  simp only [Nat.zero_add, Nat.zero_mul] at hcg
  have hbx := hF2.keep hW.out.2.1 (by simp)
  have hT0 := hid (hW.out.2.2.1.tx.row.fr0 hF2)
  have HK := hid (show ∀ wx, Fr [] w2 wx → (wx.cell? ⟨g, 0, none⟩ = some (.int .i64 x.1.kind) ∧ wx.cell? ⟨g, 1, none⟩ = some (.int .i64 x.1.n) ∧ wx.cell? ⟨g, 2, none⟩ = some (.int .i64 x.1.job) ∧ wx.cell? ⟨g, 3, none⟩ = some (.int .i64 x.1.badge) ∧ wx.cell? ⟨g, 4, none⟩ = some (.int .i64 x.1.slot) ∧ wx.cell? ⟨g, 5, none⟩ = some (.int .i64 x.1.life) ∧ wx.cell? ⟨g, 6, none⟩ = some (.int .i64 x.1.code) ∧ wx.cell? ⟨g, 7, none⟩ = some (.int .u64 x.1.bits) ∧ wx.cell? ⟨g, 8, none⟩ = some (.string x.1.prog) ∧ wx.cell? ⟨g, 9, none⟩ = some (.slice t.a x.1.texts.length t.c)) ∧ (wx.cell? ⟨w.heap.size, 0, none⟩ = some (.int .i64 x.1.kind) ∧ wx.cell? ⟨w.heap.size, 1, none⟩ = some (.int .i64 x.1.n) ∧ wx.cell? ⟨w.heap.size, 2, none⟩ = some (.int .i64 x.1.job) ∧ wx.cell? ⟨w.heap.size, 3, none⟩ = some (.int .i64 x.1.badge) ∧ wx.cell? ⟨w.heap.size, 4, none⟩ = some (.int .i64 x.1.slot) ∧ wx.cell? ⟨w.heap.size, 5, none⟩ = some (.int .i64 x.1.life) ∧ wx.cell? ⟨w.heap.size, 6, none⟩ = some (.int .i64 x.1.code) ∧ wx.cell? ⟨w.heap.size, 7, none⟩ = some (.int .u64 x.1.bits) ∧ wx.cell? ⟨w.heap.size, 8, none⟩ = some (.string x.1.prog) ∧ wx.cell? ⟨w.heap.size, 9, none⟩ = some (.slice x.2.a x.1.texts.length x.2.c)) from fun wx hS => ⟨⟨hS.cell0 hcg.1, hS.cell0 hcg.2.1, hS.cell0 hcg.2.2.1, hS.cell0 hcg.2.2.2.1, hS.cell0 hcg.2.2.2.2.1, hS.cell0 hcg.2.2.2.2.2.1, hS.cell0 hcg.2.2.2.2.2.2.1, hS.cell0 hcg.2.2.2.2.2.2.2.1, hS.cell0 hcg.2.2.2.2.2.2.2.2.1, hS.cell0 hcg.2.2.2.2.2.2.2.2.2⟩,
    ⟨hS.cell0 (cell_blk (i := 0) hbx rfl), hS.cell0 (cell_blk (i := 1) hbx rfl), hS.cell0 (cell_blk (i := 2) hbx rfl), hS.cell0 (cell_blk (i := 3) hbx rfl), hS.cell0 (cell_blk (i := 4) hbx rfl), hS.cell0 (cell_blk (i := 5) hbx rfl), hS.cell0 (cell_blk (i := 6) hbx rfl), hS.cell0 (cell_blk (i := 7) hbx rfl), hS.cell0 (cell_blk (i := 8) hbx rfl), hS.cell0 (cell_blk (i := 9) hbx rfl)⟩⟩)
  have hF := hid (hW.out.1.trans hF2)
  clear H2 hown hin hcg hbx hF2 hroomy
  go_wp2_with fail
  refine wp_region_calm (S := fun wx : World => Fr [] w2 wx) (by kernel_rfl) (lexB_of' (by kernel_rfl) (by kernel_rfl)) ((Fr.refl _ _).drew) ?_
  repeat (first | (refine calmRow_free (v := ?_) rfl ?_ ?_; rotate_left; (focus (intro wx hSx; (try dsimp only at hSx); have hcx := HK.out wx hSx; go_simp; (first | with_reducible rfl | exact ⟨rfl, hSx⟩ | (refine (check_walk _ x.1 t (hT.out.fr0 hSx)).mono ?_; rintro e w1 ⟨rfl, hF1⟩; refine ⟨?_, hSx.trans hF1⟩; with_reducible rfl) | (refine (rcheck_walk _ x.1 x.2 (hT0.out.fr0 hSx)).mono ?_; rintro e w1 ⟨rfl, hF1⟩; refine ⟨?_, hSx.trans hF1⟩; with_reducible rfl) | (refine (same_self _ x.1 t x.2 (hT.out.fr0 hSx) (hT0.out.fr0 hSx)).mono ?_; rintro e w1 ⟨rfl, hF1⟩; refine ⟨?_, hSx.trans hF1⟩; with_reducible rfl) | (refine (fixed_walk _).mono ?_; rintro e w1 ⟨rfl, hF1⟩; refine ⟨?_, hSx.trans hF1⟩; with_reducible rfl)))); (try simp only [Act.put, List.setIfInBounds_toArray, List.set_cons_zero, List.set_cons_succ])) | (refine calmRow_skip ?_ ?_; (focus (go_simp; (try (intro hx; cases hx)); done)); (try simp only [Act.put, List.setIfInBounds_toArray, List.set_cons_zero, List.set_cons_succ])) | (refine calmRow_take (v := ?_) ?_ ?_ ?_; rotate_left; (focus (go_simp; done)); (focus (intro wx hSx; (try dsimp only at hSx); have hcx := HK.out wx hSx; go_simp; (first | with_reducible rfl | exact ⟨rfl, hSx⟩ | (refine (check_walk _ x.1 t (hT.out.fr0 hSx)).mono ?_; rintro e w1 ⟨rfl, hF1⟩; refine ⟨?_, hSx.trans hF1⟩; with_reducible rfl) | (refine (rcheck_walk _ x.1 x.2 (hT0.out.fr0 hSx)).mono ?_; rintro e w1 ⟨rfl, hF1⟩; refine ⟨?_, hSx.trans hF1⟩; with_reducible rfl) | (refine (same_self _ x.1 t x.2 (hT.out.fr0 hSx) (hT0.out.fr0 hSx)).mono ?_; rintro e w1 ⟨rfl, hF1⟩; refine ⟨?_, hSx.trans hF1⟩; with_reducible rfl) | (refine (fixed_walk _).mono ?_; rintro e w1 ⟨rfl, hF1⟩; refine ⟨?_, hSx.trans hF1⟩; with_reducible rfl)))); (try simp only [Act.put, List.setIfInBounds_toArray, List.set_cons_zero, List.set_cons_succ])))
  refine calmRow_nil ?_
  intro wn hFx
  try dsimp only at hFx
  go_wp2_with fail
  go_ret
  exact ⟨rfl, hF.out.trans hFx⟩
end Go.Proofs.Ytdobbmlaokolmaa
