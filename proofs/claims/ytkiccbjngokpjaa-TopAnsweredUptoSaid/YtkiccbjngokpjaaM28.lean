/-
  Merged, in build order: Se1 Se2 Se3 Se4 Ap0 Ap1 Ap2.
-/
import Derived.Test.YtkiccbjngokpjaaM27
import Derived.Test.YtkiccbjngokpjaaM6
import Derived.Test.YtkiccbjngokpjaaM14
/-
  session: fits, Hear.
-/
namespace Go.Proofs.Ytkiccbjngokpjaa
open Go.RowKit
set_option linter.unusedVariables false
set_option linter.unusedSimpArgs false

section
variable {W : Base} {w : World} {R : List Thing}
def fitsB (k r : Int) : Bool := if k = 2 then r == 10 || r == 9 else if k = 3 then r == 11 || r == 12 else false
theorem st_fits2 (w : World) (r : Int) : Calls Try.prog 70 #[.int .i64 2, .int .i64 r] w fun e w' => e = .returned (.bool (fitsB 2 r)) ∧ w = w' := by
  have HF := hid (show fitsB 2 r = (r == 10 || r == 9) from rfl)
  rcases h10 : (r == 10) with _ | _
  · go_enter Try.func70, Try.ntmps70
    go_wp2_with fail
    go_ret
    exact ⟨by rw [HF.out, h10]; simp, rfl⟩
  · go_enter Try.func70, Try.ntmps70
    go_wp2_with fail
    go_ret
    exact ⟨by rw [HF.out, h10]; simp, rfl⟩
theorem st_fits3 (w : World) (r : Int) : Calls Try.prog 70 #[.int .i64 3, .int .i64 r] w fun e w' => e = .returned (.bool (fitsB 3 r)) ∧ w = w' := by
  have HF := hid (show fitsB 3 r = (r == 11 || r == 12) from rfl)
  rcases h10 : (r == 11) with _ | _
  · rcases h12 : (r == 12) with _ | _
    · go_enter Try.func70, Try.ntmps70
      go_wp2_with fail
      go_ret
      exact ⟨by rw [HF.out, h10, h12]; simp, rfl⟩
    · go_enter Try.func70, Try.ntmps70
      go_wp2_with fail
      go_ret
      exact ⟨by rw [HF.out, h10, h12]; simp, rfl⟩
  · go_enter Try.func70, Try.ntmps70
    go_wp2_with fail
    go_ret
    exact ⟨by rw [HF.out, h10]; simp, rfl⟩

set_option maxHeartbeats 3200000 in
set_option maxRecDepth 100000 in
theorem st_hear_n1 (H : St W w R) (i : Nat) {C : Nat} {cm : MV} {tm res ses gre last : Int} (hi : R[i]? = some (BlkT C (clO cm tm res ses gre last))) (m : MV) (h1 : (cm.kind == 1) = false) (h2 : (cm.num == 0) = true) :
    Calls Try.prog 47 #[ptr C, .agg m.f.toArray] w fun e w' => e = .returned (.int .i64 0) ∧ St W w' R := by
  have hil := hid (lt_of_get hi)
  have H1 := H.alloc (mO m)
  have hi1 : (R ++ [BlkT w.heap.size (mO m)])[i]? = some (BlkT C (clO cm tm res ses gre last)) := by rw [List.getElem?_append_left hil.out]; exact hi
  have hb := H1.blk i hi1
  have hbm := H1.blk _ (get_behind _ _ 0)
  have hg := lt_of_block hb
  clear H hi
  dsimp only [MV.f, mO] at H1 hb hbm ⊢
  go_enter Try.func47, Try.ntmps47
  go_upto_region 1 with (fail)
  generalize w.alloc (.cells #[.int .i64 m.kind, .int .i64 m.ses, .int .i64 m.num, .int .i64 m.job, .int .i64 m.bad, .int .i64 m.idx, .int .i64 m.cnt, .int .i64 m.code, .int .u64 m.bits, .string m.text, .string m.prog] 57) = w1 at H1 hb hbm hg ⊢
  generalize w.heap.size = pm at H1 hi1 hbm ⊢
  have HK := hid (show ∀ wx, Fr [] w1 wx → (wx.cell? ⟨C, 0, none⟩ = some (.int .i64 cm.kind) ∧ wx.cell? ⟨C, 1, none⟩ = some (.int .i64 cm.ses) ∧ wx.cell? ⟨C, 2, none⟩ = some (.int .i64 cm.num) ∧ wx.cell? ⟨C, 14, none⟩ = some (.int .i64 gre)) ∧ wx.cell? ⟨pm, 0, none⟩ = some (.int .i64 m.kind) ∧ wx.cell? ⟨pm, 1, none⟩ = some (.int .i64 m.ses) ∧ wx.cell? ⟨pm, 2, none⟩ = some (.int .i64 m.num) from fun wx hF =>
    ⟨⟨cell_blk (i := 0) (hF.keep hb (by simp)) rfl, cell_blk (i := 1) (hF.keep hb (by simp)) rfl, cell_blk (i := 2) (hF.keep hb (by simp)) rfl, cell_blk (i := 14) (hF.keep hb (by simp)) rfl⟩, cell_blk (i := 0) (hF.keep hbm (by simp)) rfl, cell_blk (i := 1) (hF.keep hbm (by simp)) rfl, cell_blk (i := 2) (hF.keep hbm (by simp)) rfl⟩)
  have HWt := hid (show ∀ wx, Fr [] w1 wx → Calls Try.prog 69 #[ptr C] wx fun e w' => e = .returned (.int .i64 cm.num) ∧ wx = w' from fun wx hF => st_waits (hF.keep hb (by simp)))
  have H1 := hid H1
  have hi1 := hid hi1
  clear hb hbm hg
  go_wp2_with fail
  refine wp_region_calm (S := fun wx : World => Fr [] w1 wx) (by kernel_rfl) (by kernel_rfl) ((Fr.refl _ _).drew) ?_
  repeat (first | (refine calmRow_free (v := ?_) rfl ?_ ?_; rotate_left; (focus (intro wx hSx; (try dsimp only at hSx); have hcx := HK.out wx hSx; go_simp; (first | with_reducible rfl | exact ⟨rfl, hSx⟩ | fail))); (try simp only [Act.put, List.setIfInBounds_toArray, List.set_cons_zero, List.set_cons_succ])) | (refine calmRow_skip ?_ ?_; (focus (go_simp; (try (intro hx; cases hx)); done)); (try simp only [Act.put, List.setIfInBounds_toArray, List.set_cons_zero, List.set_cons_succ])) | (refine calmRow_take (v := ?_) ?_ ?_ ?_; rotate_left; (focus (go_simp; done)); (focus (intro wx hSx; (try dsimp only at hSx); have hcx := HK.out wx hSx; go_simp; (first | with_reducible rfl | exact ⟨rfl, hSx⟩ | fail))); (try simp only [Act.put, List.setIfInBounds_toArray, List.set_cons_zero, List.set_cons_succ])))
  refine calmRow_nil ?_
  intro w2 hFx
  try dsimp only at hFx
  have hF1 := hFx
  have HK2 := hid (fun wx (h : Fr [] w2 wx) => HK.out wx (hF1.trans h))
  have HT2 := hid (fun wx (h : Fr [] w2 wx) => HWt.out wx (hF1.trans h))
  clear HK HWt hFx
  go_wp2_with fail
  refine wp_region_calm (S := fun wx : World => Fr [] w2 wx) (by kernel_rfl) (by kernel_rfl) ((Fr.refl _ _).drew) ?_
  repeat (first | (refine calmRow_free (v := ?_) rfl ?_ ?_; rotate_left; (focus (intro wx hSx; (try dsimp only at hSx); have hcx := HK2.out wx hSx; go_simp; (first | with_reducible rfl | exact ⟨rfl, hSx⟩ | (refine (HT2.out _ hSx).mono ?_; rintro e w9 ⟨rfl, rfl⟩; refine ⟨?_, hSx⟩; with_reducible rfl)))); (try simp only [Act.put, List.setIfInBounds_toArray, List.set_cons_zero, List.set_cons_succ])) | (refine calmRow_skip ?_ ?_; (focus (go_simp; (try (intro hx; cases hx)); done)); (try simp only [Act.put, List.setIfInBounds_toArray, List.set_cons_zero, List.set_cons_succ])) | (refine calmRow_take (v := ?_) ?_ ?_ ?_; rotate_left; (focus (go_simp; done)); (focus (intro wx hSx; (try dsimp only at hSx); have hcx := HK2.out wx hSx; go_simp; (first | with_reducible rfl | exact ⟨rfl, hSx⟩ | (refine (HT2.out _ hSx).mono ?_; rintro e w9 ⟨rfl, rfl⟩; refine ⟨?_, hSx⟩; with_reducible rfl)))); (try simp only [Act.put, List.setIfInBounds_toArray, List.set_cons_zero, List.set_cons_succ])))
  refine calmRow_nil ?_
  intro w3 hFx
  try dsimp only at hFx
  have hF2 := hFx
  have HK3 := hid (fun wx (h : Fr [] w3 wx) => HK2.out wx (hF2.trans h))
  obtain ⟨⟨y0, y1, y2, y3⟩, z0, z1, z2⟩ := HK3.out w3 (Fr.refl _ _)
  clear hFx y0 y1 y2 y3 z1 z2
  go_wp2_with fail
  go_ret
  exact ⟨rfl, (H1.out.drop).same (hF1.trans hF2)⟩

set_option maxHeartbeats 3200000 in
set_option maxRecDepth 100000 in
theorem st_hear_n2 (H : St W w R) (i : Nat) {C : Nat} {cm : MV} {tm res ses gre last : Int} (hi : R[i]? = some (BlkT C (clO cm tm res ses gre last))) (m : MV) (h1 : (cm.kind == 1) = true) (h3 : (m.kind == 7) = false) (h2 : (cm.num == 0) = true) :
    Calls Try.prog 47 #[ptr C, .agg m.f.toArray] w fun e w' => e = .returned (.int .i64 0) ∧ St W w' R := by
  have hil := hid (lt_of_get hi)
  have H1 := H.alloc (mO m)
  have hi1 : (R ++ [BlkT w.heap.size (mO m)])[i]? = some (BlkT C (clO cm tm res ses gre last)) := by rw [List.getElem?_append_left hil.out]; exact hi
  have hb := H1.blk i hi1
  have hbm := H1.blk _ (get_behind _ _ 0)
  have hg := lt_of_block hb
  clear H hi
  dsimp only [MV.f, mO] at H1 hb hbm ⊢
  go_enter Try.func47, Try.ntmps47
  go_upto_region 1 with (fail)
  generalize w.alloc (.cells #[.int .i64 m.kind, .int .i64 m.ses, .int .i64 m.num, .int .i64 m.job, .int .i64 m.bad, .int .i64 m.idx, .int .i64 m.cnt, .int .i64 m.code, .int .u64 m.bits, .string m.text, .string m.prog] 57) = w1 at H1 hb hbm hg ⊢
  generalize w.heap.size = pm at H1 hi1 hbm ⊢
  have HK := hid (show ∀ wx, Fr [] w1 wx → (wx.cell? ⟨C, 0, none⟩ = some (.int .i64 cm.kind) ∧ wx.cell? ⟨C, 1, none⟩ = some (.int .i64 cm.ses) ∧ wx.cell? ⟨C, 2, none⟩ = some (.int .i64 cm.num) ∧ wx.cell? ⟨C, 14, none⟩ = some (.int .i64 gre)) ∧ wx.cell? ⟨pm, 0, none⟩ = some (.int .i64 m.kind) ∧ wx.cell? ⟨pm, 1, none⟩ = some (.int .i64 m.ses) ∧ wx.cell? ⟨pm, 2, none⟩ = some (.int .i64 m.num) from fun wx hF =>
    ⟨⟨cell_blk (i := 0) (hF.keep hb (by simp)) rfl, cell_blk (i := 1) (hF.keep hb (by simp)) rfl, cell_blk (i := 2) (hF.keep hb (by simp)) rfl, cell_blk (i := 14) (hF.keep hb (by simp)) rfl⟩, cell_blk (i := 0) (hF.keep hbm (by simp)) rfl, cell_blk (i := 1) (hF.keep hbm (by simp)) rfl, cell_blk (i := 2) (hF.keep hbm (by simp)) rfl⟩)
  have HWt := hid (show ∀ wx, Fr [] w1 wx → Calls Try.prog 69 #[ptr C] wx fun e w' => e = .returned (.int .i64 cm.num) ∧ wx = w' from fun wx hF => st_waits (hF.keep hb (by simp)))
  have H1 := hid H1
  have hi1 := hid hi1
  clear hb hbm hg
  go_wp2_with fail
  refine wp_region_calm (S := fun wx : World => Fr [] w1 wx) (by kernel_rfl) (by kernel_rfl) ((Fr.refl _ _).drew) ?_
  repeat (first | (refine calmRow_free (v := ?_) rfl ?_ ?_; rotate_left; (focus (intro wx hSx; (try dsimp only at hSx); have hcx := HK.out wx hSx; go_simp; (first | with_reducible rfl | exact ⟨rfl, hSx⟩ | fail))); (try simp only [Act.put, List.setIfInBounds_toArray, List.set_cons_zero, List.set_cons_succ])) | (refine calmRow_skip ?_ ?_; (focus (go_simp; (try (intro hx; cases hx)); done)); (try simp only [Act.put, List.setIfInBounds_toArray, List.set_cons_zero, List.set_cons_succ])) | (refine calmRow_take (v := ?_) ?_ ?_ ?_; rotate_left; (focus (go_simp; done)); (focus (intro wx hSx; (try dsimp only at hSx); have hcx := HK.out wx hSx; go_simp; (first | with_reducible rfl | exact ⟨rfl, hSx⟩ | fail))); (try simp only [Act.put, List.setIfInBounds_toArray, List.set_cons_zero, List.set_cons_succ])))
  refine calmRow_nil ?_
  intro w2 hFx
  try dsimp only at hFx
  have hF1 := hFx
  have HK2 := hid (fun wx (h : Fr [] w2 wx) => HK.out wx (hF1.trans h))
  have HT2 := hid (fun wx (h : Fr [] w2 wx) => HWt.out wx (hF1.trans h))
  clear HK HWt hFx
  go_wp2_with fail
  refine wp_region_calm (S := fun wx : World => Fr [] w2 wx) (by kernel_rfl) (by kernel_rfl) ((Fr.refl _ _).drew) ?_
  repeat (first | (refine calmRow_free (v := ?_) rfl ?_ ?_; rotate_left; (focus (intro wx hSx; (try dsimp only at hSx); have hcx := HK2.out wx hSx; go_simp; (first | with_reducible rfl | exact ⟨rfl, hSx⟩ | (refine (HT2.out _ hSx).mono ?_; rintro e w9 ⟨rfl, rfl⟩; refine ⟨?_, hSx⟩; with_reducible rfl)))); (try simp only [Act.put, List.setIfInBounds_toArray, List.set_cons_zero, List.set_cons_succ])) | (refine calmRow_skip ?_ ?_; (focus (go_simp; (try (intro hx; cases hx)); done)); (try simp only [Act.put, List.setIfInBounds_toArray, List.set_cons_zero, List.set_cons_succ])) | (refine calmRow_take (v := ?_) ?_ ?_ ?_; rotate_left; (focus (go_simp; done)); (focus (intro wx hSx; (try dsimp only at hSx); have hcx := HK2.out wx hSx; go_simp; (first | with_reducible rfl | exact ⟨rfl, hSx⟩ | (refine (HT2.out _ hSx).mono ?_; rintro e w9 ⟨rfl, rfl⟩; refine ⟨?_, hSx⟩; with_reducible rfl)))); (try simp only [Act.put, List.setIfInBounds_toArray, List.set_cons_zero, List.set_cons_succ])))
  refine calmRow_nil ?_
  intro w3 hFx
  try dsimp only at hFx
  have hF2 := hFx
  have HK3 := hid (fun wx (h : Fr [] w3 wx) => HK2.out wx (hF2.trans h))
  obtain ⟨⟨y0, y1, y2, y3⟩, z0, z1, z2⟩ := HK3.out w3 (Fr.refl _ _)
  clear hFx y0 y1 y2 y3 z1 z2
  go_wp2_with fail
  go_ret
  exact ⟨rfl, (H1.out.drop).same (hF1.trans hF2)⟩

set_option maxHeartbeats 3200000 in
set_option maxRecDepth 100000 in
theorem st_hear_n3 (H : St W w R) (i : Nat) {C : Nat} {cm : MV} {tm res ses gre last : Int} (hi : R[i]? = some (BlkT C (clO cm tm res ses gre last))) (m : MV) (h1 : (cm.kind == 1) = true) (h3 : (m.kind == 7) = true) (h4 : ¬ gre < m.ses) (h2 : (cm.num == 0) = true) :
    Calls Try.prog 47 #[ptr C, .agg m.f.toArray] w fun e w' => e = .returned (.int .i64 0) ∧ St W w' R := by
  have hil := hid (lt_of_get hi)
  have H1 := H.alloc (mO m)
  have hi1 : (R ++ [BlkT w.heap.size (mO m)])[i]? = some (BlkT C (clO cm tm res ses gre last)) := by rw [List.getElem?_append_left hil.out]; exact hi
  have hb := H1.blk i hi1
  have hbm := H1.blk _ (get_behind _ _ 0)
  have hg := lt_of_block hb
  clear H hi
  dsimp only [MV.f, mO] at H1 hb hbm ⊢
  go_enter Try.func47, Try.ntmps47
  go_upto_region 1 with (fail)
  generalize w.alloc (.cells #[.int .i64 m.kind, .int .i64 m.ses, .int .i64 m.num, .int .i64 m.job, .int .i64 m.bad, .int .i64 m.idx, .int .i64 m.cnt, .int .i64 m.code, .int .u64 m.bits, .string m.text, .string m.prog] 57) = w1 at H1 hb hbm hg ⊢
  generalize w.heap.size = pm at H1 hi1 hbm ⊢
  have HK := hid (show ∀ wx, Fr [] w1 wx → (wx.cell? ⟨C, 0, none⟩ = some (.int .i64 cm.kind) ∧ wx.cell? ⟨C, 1, none⟩ = some (.int .i64 cm.ses) ∧ wx.cell? ⟨C, 2, none⟩ = some (.int .i64 cm.num) ∧ wx.cell? ⟨C, 14, none⟩ = some (.int .i64 gre)) ∧ wx.cell? ⟨pm, 0, none⟩ = some (.int .i64 m.kind) ∧ wx.cell? ⟨pm, 1, none⟩ = some (.int .i64 m.ses) ∧ wx.cell? ⟨pm, 2, none⟩ = some (.int .i64 m.num) from fun wx hF =>
    ⟨⟨cell_blk (i := 0) (hF.keep hb (by simp)) rfl, cell_blk (i := 1) (hF.keep hb (by simp)) rfl, cell_blk (i := 2) (hF.keep hb (by simp)) rfl, cell_blk (i := 14) (hF.keep hb (by simp)) rfl⟩, cell_blk (i := 0) (hF.keep hbm (by simp)) rfl, cell_blk (i := 1) (hF.keep hbm (by simp)) rfl, cell_blk (i := 2) (hF.keep hbm (by simp)) rfl⟩)
  have HWt := hid (show ∀ wx, Fr [] w1 wx → Calls Try.prog 69 #[ptr C] wx fun e w' => e = .returned (.int .i64 cm.num) ∧ wx = w' from fun wx hF => st_waits (hF.keep hb (by simp)))
  have H1 := hid H1
  have hi1 := hid hi1
  clear hb hbm hg
  go_wp2_with fail
  refine wp_region_calm (S := fun wx : World => Fr [] w1 wx) (by kernel_rfl) (by kernel_rfl) ((Fr.refl _ _).drew) ?_
  repeat (first | (refine calmRow_free (v := ?_) rfl ?_ ?_; rotate_left; (focus (intro wx hSx; (try dsimp only at hSx); have hcx := HK.out wx hSx; go_simp; (first | with_reducible rfl | exact ⟨rfl, hSx⟩ | fail))); (try simp only [Act.put, List.setIfInBounds_toArray, List.set_cons_zero, List.set_cons_succ])) | (refine calmRow_skip ?_ ?_; (focus (go_simp; (try (intro hx; cases hx)); done)); (try simp only [Act.put, List.setIfInBounds_toArray, List.set_cons_zero, List.set_cons_succ])) | (refine calmRow_take (v := ?_) ?_ ?_ ?_; rotate_left; (focus (go_simp; done)); (focus (intro wx hSx; (try dsimp only at hSx); have hcx := HK.out wx hSx; go_simp; (first | with_reducible rfl | exact ⟨rfl, hSx⟩ | fail))); (try simp only [Act.put, List.setIfInBounds_toArray, List.set_cons_zero, List.set_cons_succ])))
  refine calmRow_nil ?_
  intro w2 hFx
  try dsimp only at hFx
  have hF1 := hFx
  have HK2 := hid (fun wx (h : Fr [] w2 wx) => HK.out wx (hF1.trans h))
  have HT2 := hid (fun wx (h : Fr [] w2 wx) => HWt.out wx (hF1.trans h))
  clear HK HWt hFx
  go_wp2_with fail
  refine wp_region_calm (S := fun wx : World => Fr [] w2 wx) (by kernel_rfl) (by kernel_rfl) ((Fr.refl _ _).drew) ?_
  repeat (first | (refine calmRow_free (v := ?_) rfl ?_ ?_; rotate_left; (focus (intro wx hSx; (try dsimp only at hSx); have hcx := HK2.out wx hSx; go_simp; (first | with_reducible rfl | exact ⟨rfl, hSx⟩ | (refine (HT2.out _ hSx).mono ?_; rintro e w9 ⟨rfl, rfl⟩; refine ⟨?_, hSx⟩; with_reducible rfl)))); (try simp only [Act.put, List.setIfInBounds_toArray, List.set_cons_zero, List.set_cons_succ])) | (refine calmRow_skip ?_ ?_; (focus (go_simp; (try (intro hx; cases hx)); done)); (try simp only [Act.put, List.setIfInBounds_toArray, List.set_cons_zero, List.set_cons_succ])) | (refine calmRow_take (v := ?_) ?_ ?_ ?_; rotate_left; (focus (go_simp; done)); (focus (intro wx hSx; (try dsimp only at hSx); have hcx := HK2.out wx hSx; go_simp; (first | with_reducible rfl | exact ⟨rfl, hSx⟩ | (refine (HT2.out _ hSx).mono ?_; rintro e w9 ⟨rfl, rfl⟩; refine ⟨?_, hSx⟩; with_reducible rfl)))); (try simp only [Act.put, List.setIfInBounds_toArray, List.set_cons_zero, List.set_cons_succ])))
  refine calmRow_nil ?_
  intro w3 hFx
  try dsimp only at hFx
  have hF2 := hFx
  have HK3 := hid (fun wx (h : Fr [] w3 wx) => HK2.out wx (hF2.trans h))
  obtain ⟨⟨y0, y1, y2, y3⟩, z0, z1, z2⟩ := HK3.out w3 (Fr.refl _ _)
  clear hFx y0 y1 y2 y3 z1 z2
  go_wp2_with fail
  go_ret
  exact ⟨rfl, (H1.out.drop).same (hF1.trans hF2)⟩

set_option maxHeartbeats 3200000 in
set_option maxRecDepth 100000 in
theorem st_hear_n4 (H : St W w R) (i : Nat) {C : Nat} {cm : MV} {tm res ses gre last : Int} (hi : R[i]? = some (BlkT C (clO cm tm res ses gre last))) (m : MV) (h1 : (cm.kind == 1) = false) (h2 : (cm.num == 0) = false) (h3 : (m.ses == cm.ses) = false) :
    Calls Try.prog 47 #[ptr C, .agg m.f.toArray] w fun e w' => e = .returned (.int .i64 0) ∧ St W w' R := by
  have b3 : (m.ses != cm.ses) = true := by unfold bne; rw [h3]; rfl
  have hil := hid (lt_of_get hi)
  have H1 := H.alloc (mO m)
  have hi1 : (R ++ [BlkT w.heap.size (mO m)])[i]? = some (BlkT C (clO cm tm res ses gre last)) := by rw [List.getElem?_append_left hil.out]; exact hi
  have hb := H1.blk i hi1
  have hbm := H1.blk _ (get_behind _ _ 0)
  have hg := lt_of_block hb
  clear H hi
  dsimp only [MV.f, mO] at H1 hb hbm ⊢
  go_enter Try.func47, Try.ntmps47
  go_upto_region 1 with (fail)
  generalize w.alloc (.cells #[.int .i64 m.kind, .int .i64 m.ses, .int .i64 m.num, .int .i64 m.job, .int .i64 m.bad, .int .i64 m.idx, .int .i64 m.cnt, .int .i64 m.code, .int .u64 m.bits, .string m.text, .string m.prog] 57) = w1 at H1 hb hbm hg ⊢
  generalize w.heap.size = pm at H1 hi1 hbm ⊢
  have HK := hid (show ∀ wx, Fr [] w1 wx → (wx.cell? ⟨C, 0, none⟩ = some (.int .i64 cm.kind) ∧ wx.cell? ⟨C, 1, none⟩ = some (.int .i64 cm.ses) ∧ wx.cell? ⟨C, 2, none⟩ = some (.int .i64 cm.num) ∧ wx.cell? ⟨C, 14, none⟩ = some (.int .i64 gre)) ∧ wx.cell? ⟨pm, 0, none⟩ = some (.int .i64 m.kind) ∧ wx.cell? ⟨pm, 1, none⟩ = some (.int .i64 m.ses) ∧ wx.cell? ⟨pm, 2, none⟩ = some (.int .i64 m.num) from fun wx hF =>
    ⟨⟨cell_blk (i := 0) (hF.keep hb (by simp)) rfl, cell_blk (i := 1) (hF.keep hb (by simp)) rfl, cell_blk (i := 2) (hF.keep hb (by simp)) rfl, cell_blk (i := 14) (hF.keep hb (by simp)) rfl⟩, cell_blk (i := 0) (hF.keep hbm (by simp)) rfl, cell_blk (i := 1) (hF.keep hbm (by simp)) rfl, cell_blk (i := 2) (hF.keep hbm (by simp)) rfl⟩)
  have HWt := hid (show ∀ wx, Fr [] w1 wx → Calls Try.prog 69 #[ptr C] wx fun e w' => e = .returned (.int .i64 cm.num) ∧ wx = w' from fun wx hF => st_waits (hF.keep hb (by simp)))
  have H1 := hid H1
  have hi1 := hid hi1
  clear hb hbm hg
  go_wp2_with fail
  refine wp_region_calm (S := fun wx : World => Fr [] w1 wx) (by kernel_rfl) (by kernel_rfl) ((Fr.refl _ _).drew) ?_
  repeat (first | (refine calmRow_free (v := ?_) rfl ?_ ?_; rotate_left; (focus (intro wx hSx; (try dsimp only at hSx); have hcx := HK.out wx hSx; go_simp; (first | with_reducible rfl | exact ⟨rfl, hSx⟩ | fail))); (try simp only [Act.put, List.setIfInBounds_toArray, List.set_cons_zero, List.set_cons_succ])) | (refine calmRow_skip ?_ ?_; (focus (go_simp; (try (intro hx; cases hx)); done)); (try simp only [Act.put, List.setIfInBounds_toArray, List.set_cons_zero, List.set_cons_succ])) | (refine calmRow_take (v := ?_) ?_ ?_ ?_; rotate_left; (focus (go_simp; done)); (focus (intro wx hSx; (try dsimp only at hSx); have hcx := HK.out wx hSx; go_simp; (first | with_reducible rfl | exact ⟨rfl, hSx⟩ | fail))); (try simp only [Act.put, List.setIfInBounds_toArray, List.set_cons_zero, List.set_cons_succ])))
  refine calmRow_nil ?_
  intro w2 hFx
  try dsimp only at hFx
  have hF1 := hFx
  have HK2 := hid (fun wx (h : Fr [] w2 wx) => HK.out wx (hF1.trans h))
  have HT2 := hid (fun wx (h : Fr [] w2 wx) => HWt.out wx (hF1.trans h))
  clear HK HWt hFx
  go_wp2_with fail
  refine wp_region_calm (S := fun wx : World => Fr [] w2 wx) (by kernel_rfl) (by kernel_rfl) ((Fr.refl _ _).drew) ?_
  repeat (first | (refine calmRow_free (v := ?_) rfl ?_ ?_; rotate_left; (focus (intro wx hSx; (try dsimp only at hSx); have hcx := HK2.out wx hSx; go_simp; (first | with_reducible rfl | exact ⟨rfl, hSx⟩ | (refine (HT2.out _ hSx).mono ?_; rintro e w9 ⟨rfl, rfl⟩; refine ⟨?_, hSx⟩; with_reducible rfl)))); (try simp only [Act.put, List.setIfInBounds_toArray, List.set_cons_zero, List.set_cons_succ])) | (refine calmRow_skip ?_ ?_; (focus (go_simp; (try (intro hx; cases hx)); done)); (try simp only [Act.put, List.setIfInBounds_toArray, List.set_cons_zero, List.set_cons_succ])) | (refine calmRow_take (v := ?_) ?_ ?_ ?_; rotate_left; (focus (go_simp; done)); (focus (intro wx hSx; (try dsimp only at hSx); have hcx := HK2.out wx hSx; go_simp; (first | with_reducible rfl | exact ⟨rfl, hSx⟩ | (refine (HT2.out _ hSx).mono ?_; rintro e w9 ⟨rfl, rfl⟩; refine ⟨?_, hSx⟩; with_reducible rfl)))); (try simp only [Act.put, List.setIfInBounds_toArray, List.set_cons_zero, List.set_cons_succ])))
  refine calmRow_nil ?_
  intro w3 hFx
  try dsimp only at hFx
  have hF2 := hFx
  have HK3 := hid (fun wx (h : Fr [] w3 wx) => HK2.out wx (hF2.trans h))
  obtain ⟨⟨y0, y1, y2, y3⟩, z0, z1, z2⟩ := HK3.out w3 (Fr.refl _ _)
  clear hFx y0 y1 y2 y3 z1 z2
  go_wp2_with fail
  go_ret
  exact ⟨rfl, (H1.out.drop).same (hF1.trans hF2)⟩

set_option maxHeartbeats 3200000 in
set_option maxRecDepth 100000 in
theorem st_hear_n5 (H : St W w R) (i : Nat) {C : Nat} {cm : MV} {tm res ses gre last : Int} (hi : R[i]? = some (BlkT C (clO cm tm res ses gre last))) (m : MV) (h1 : (cm.kind == 1) = false) (h2 : (cm.num == 0) = false) (h3 : (m.ses == cm.ses) = true) (h4 : (m.num == cm.num) = false) :
    Calls Try.prog 47 #[ptr C, .agg m.f.toArray] w fun e w' => e = .returned (.int .i64 0) ∧ St W w' R := by
  have b3 : (m.ses != cm.ses) = false := by unfold bne; rw [h3]; rfl
  have b4 : (m.num != cm.num) = true := by unfold bne; rw [h4]; rfl
  have hil := hid (lt_of_get hi)
  have H1 := H.alloc (mO m)
  have hi1 : (R ++ [BlkT w.heap.size (mO m)])[i]? = some (BlkT C (clO cm tm res ses gre last)) := by rw [List.getElem?_append_left hil.out]; exact hi
  have hb := H1.blk i hi1
  have hbm := H1.blk _ (get_behind _ _ 0)
  have hg := lt_of_block hb
  clear H hi
  dsimp only [MV.f, mO] at H1 hb hbm ⊢
  go_enter Try.func47, Try.ntmps47
  go_upto_region 1 with (fail)
  generalize w.alloc (.cells #[.int .i64 m.kind, .int .i64 m.ses, .int .i64 m.num, .int .i64 m.job, .int .i64 m.bad, .int .i64 m.idx, .int .i64 m.cnt, .int .i64 m.code, .int .u64 m.bits, .string m.text, .string m.prog] 57) = w1 at H1 hb hbm hg ⊢
  generalize w.heap.size = pm at H1 hi1 hbm ⊢
  have HK := hid (show ∀ wx, Fr [] w1 wx → (wx.cell? ⟨C, 0, none⟩ = some (.int .i64 cm.kind) ∧ wx.cell? ⟨C, 1, none⟩ = some (.int .i64 cm.ses) ∧ wx.cell? ⟨C, 2, none⟩ = some (.int .i64 cm.num) ∧ wx.cell? ⟨C, 14, none⟩ = some (.int .i64 gre)) ∧ wx.cell? ⟨pm, 0, none⟩ = some (.int .i64 m.kind) ∧ wx.cell? ⟨pm, 1, none⟩ = some (.int .i64 m.ses) ∧ wx.cell? ⟨pm, 2, none⟩ = some (.int .i64 m.num) from fun wx hF =>
    ⟨⟨cell_blk (i := 0) (hF.keep hb (by simp)) rfl, cell_blk (i := 1) (hF.keep hb (by simp)) rfl, cell_blk (i := 2) (hF.keep hb (by simp)) rfl, cell_blk (i := 14) (hF.keep hb (by simp)) rfl⟩, cell_blk (i := 0) (hF.keep hbm (by simp)) rfl, cell_blk (i := 1) (hF.keep hbm (by simp)) rfl, cell_blk (i := 2) (hF.keep hbm (by simp)) rfl⟩)
  have HWt := hid (show ∀ wx, Fr [] w1 wx → Calls Try.prog 69 #[ptr C] wx fun e w' => e = .returned (.int .i64 cm.num) ∧ wx = w' from fun wx hF => st_waits (hF.keep hb (by simp)))
  have H1 := hid H1
  have hi1 := hid hi1
  clear hb hbm hg
  go_wp2_with fail
  refine wp_region_calm (S := fun wx : World => Fr [] w1 wx) (by kernel_rfl) (by kernel_rfl) ((Fr.refl _ _).drew) ?_
  repeat (first | (refine calmRow_free (v := ?_) rfl ?_ ?_; rotate_left; (focus (intro wx hSx; (try dsimp only at hSx); have hcx := HK.out wx hSx; go_simp; (first | with_reducible rfl | exact ⟨rfl, hSx⟩ | fail))); (try simp only [Act.put, List.setIfInBounds_toArray, List.set_cons_zero, List.set_cons_succ])) | (refine calmRow_skip ?_ ?_; (focus (go_simp; (try (intro hx; cases hx)); done)); (try simp only [Act.put, List.setIfInBounds_toArray, List.set_cons_zero, List.set_cons_succ])) | (refine calmRow_take (v := ?_) ?_ ?_ ?_; rotate_left; (focus (go_simp; done)); (focus (intro wx hSx; (try dsimp only at hSx); have hcx := HK.out wx hSx; go_simp; (first | with_reducible rfl | exact ⟨rfl, hSx⟩ | fail))); (try simp only [Act.put, List.setIfInBounds_toArray, List.set_cons_zero, List.set_cons_succ])))
  refine calmRow_nil ?_
  intro w2 hFx
  try dsimp only at hFx
  have hF1 := hFx
  have HK2 := hid (fun wx (h : Fr [] w2 wx) => HK.out wx (hF1.trans h))
  have HT2 := hid (fun wx (h : Fr [] w2 wx) => HWt.out wx (hF1.trans h))
  clear HK HWt hFx
  go_wp2_with fail
  refine wp_region_calm (S := fun wx : World => Fr [] w2 wx) (by kernel_rfl) (by kernel_rfl) ((Fr.refl _ _).drew) ?_
  repeat (first | (refine calmRow_free (v := ?_) rfl ?_ ?_; rotate_left; (focus (intro wx hSx; (try dsimp only at hSx); have hcx := HK2.out wx hSx; go_simp; (first | with_reducible rfl | exact ⟨rfl, hSx⟩ | (refine (HT2.out _ hSx).mono ?_; rintro e w9 ⟨rfl, rfl⟩; refine ⟨?_, hSx⟩; with_reducible rfl)))); (try simp only [Act.put, List.setIfInBounds_toArray, List.set_cons_zero, List.set_cons_succ])) | (refine calmRow_skip ?_ ?_; (focus (go_simp; (try (intro hx; cases hx)); done)); (try simp only [Act.put, List.setIfInBounds_toArray, List.set_cons_zero, List.set_cons_succ])) | (refine calmRow_take (v := ?_) ?_ ?_ ?_; rotate_left; (focus (go_simp; done)); (focus (intro wx hSx; (try dsimp only at hSx); have hcx := HK2.out wx hSx; go_simp; (first | with_reducible rfl | exact ⟨rfl, hSx⟩ | (refine (HT2.out _ hSx).mono ?_; rintro e w9 ⟨rfl, rfl⟩; refine ⟨?_, hSx⟩; with_reducible rfl)))); (try simp only [Act.put, List.setIfInBounds_toArray, List.set_cons_zero, List.set_cons_succ])))
  refine calmRow_nil ?_
  intro w3 hFx
  try dsimp only at hFx
  have hF2 := hFx
  have HK3 := hid (fun wx (h : Fr [] w3 wx) => HK2.out wx (hF2.trans h))
  obtain ⟨⟨y0, y1, y2, y3⟩, z0, z1, z2⟩ := HK3.out w3 (Fr.refl _ _)
  clear hFx y0 y1 y2 y3 z1 z2
  go_wp2_with fail
  go_ret
  exact ⟨rfl, (H1.out.drop).same (hF1.trans hF2)⟩

set_option maxHeartbeats 3200000 in
set_option maxRecDepth 100000 in
theorem st_hear_in (H : St W w R) (i : Nat) {C : Nat} {cm : MV} {tm res ses gre last : Int} (hi : R[i]? = some (BlkT C (clO cm tm res ses gre last))) (m : MV) (h1 : (cm.kind == 1) = true) (h3 : (m.kind == 7) = true) (h4 : gre < m.ses) :
    Calls Try.prog 47 #[ptr C, .agg m.f.toArray] w fun e w' => e = .returned (.int .i64 1) ∧ St W w' (R.set i (BlkT C (clO (MV.of 0) 0 res m.ses m.ses 0))) := by
  have hil := hid (lt_of_get hi)
  have H1 := H.alloc (mO m)
  have hi1 : (R ++ [BlkT w.heap.size (mO m)])[i]? = some (BlkT C (clO cm tm res ses gre last)) := by rw [List.getElem?_append_left hil.out]; exact hi
  have hb := H1.blk i hi1
  have hbm := H1.blk _ (get_behind _ _ 0)
  have hg := lt_of_block hb
  clear H hi
  dsimp only [MV.f, mO] at H1 hb hbm ⊢
  go_enter Try.func47, Try.ntmps47
  go_upto_region 1 with (fail)
  generalize w.alloc (.cells #[.int .i64 m.kind, .int .i64 m.ses, .int .i64 m.num, .int .i64 m.job, .int .i64 m.bad, .int .i64 m.idx, .int .i64 m.cnt, .int .i64 m.code, .int .u64 m.bits, .string m.text, .string m.prog] 57) = w1 at H1 hb hbm hg ⊢
  generalize w.heap.size = pm at H1 hi1 hbm ⊢
  have HK := hid (show ∀ wx, Fr [] w1 wx → (wx.cell? ⟨C, 0, none⟩ = some (.int .i64 cm.kind) ∧ wx.cell? ⟨C, 1, none⟩ = some (.int .i64 cm.ses) ∧ wx.cell? ⟨C, 2, none⟩ = some (.int .i64 cm.num) ∧ wx.cell? ⟨C, 14, none⟩ = some (.int .i64 gre)) ∧ wx.cell? ⟨pm, 0, none⟩ = some (.int .i64 m.kind) ∧ wx.cell? ⟨pm, 1, none⟩ = some (.int .i64 m.ses) ∧ wx.cell? ⟨pm, 2, none⟩ = some (.int .i64 m.num) from fun wx hF =>
    ⟨⟨cell_blk (i := 0) (hF.keep hb (by simp)) rfl, cell_blk (i := 1) (hF.keep hb (by simp)) rfl, cell_blk (i := 2) (hF.keep hb (by simp)) rfl, cell_blk (i := 14) (hF.keep hb (by simp)) rfl⟩, cell_blk (i := 0) (hF.keep hbm (by simp)) rfl, cell_blk (i := 1) (hF.keep hbm (by simp)) rfl, cell_blk (i := 2) (hF.keep hbm (by simp)) rfl⟩)
  have HWt := hid (show ∀ wx, Fr [] w1 wx → Calls Try.prog 69 #[ptr C] wx fun e w' => e = .returned (.int .i64 cm.num) ∧ wx = w' from fun wx hF => st_waits (hF.keep hb (by simp)))
  have H1 := hid H1
  have hi1 := hid hi1
  clear hb hbm hg
  go_wp2_with fail
  have hmx : max gre m.ses = m.ses := by omega
  refine wp_region_calm (S := fun wx : World => Fr [] w1 wx) (by kernel_rfl) (by kernel_rfl) ((Fr.refl _ _).drew) ?_
  repeat (first | (refine calmRow_free (v := ?_) rfl ?_ ?_; rotate_left; (focus (intro wx hSx; (try dsimp only at hSx); have hcx := HK.out wx hSx; go_simp; (first | with_reducible rfl | exact ⟨rfl, hSx⟩ | fail))); (try simp only [Act.put, List.setIfInBounds_toArray, List.set_cons_zero, List.set_cons_succ])) | (refine calmRow_skip ?_ ?_; (focus (go_simp; (try (intro hx; cases hx)); done)); (try simp only [Act.put, List.setIfInBounds_toArray, List.set_cons_zero, List.set_cons_succ])) | (refine calmRow_take (v := ?_) ?_ ?_ ?_; rotate_left; (focus (go_simp; done)); (focus (intro wx hSx; (try dsimp only at hSx); have hcx := HK.out wx hSx; go_simp; (first | with_reducible rfl | exact ⟨rfl, hSx⟩ | fail))); (try simp only [Act.put, List.setIfInBounds_toArray, List.set_cons_zero, List.set_cons_succ])))
  refine calmRow_nil ?_
  intro w2 hFx
  try dsimp only at hFx
  have hF1 := hFx
  have HK2 := hid (fun wx (h : Fr [] w2 wx) => HK.out wx (hF1.trans h))
  have HT2 := hid (fun wx (h : Fr [] w2 wx) => HWt.out wx (hF1.trans h))
  clear HK HWt hFx
  go_wp2_with fail
  refine (show Calls Try.prog 65 _ _ _ from st_begin (H1.out.same (hF1)) i hi1.out (MV.of 0)).mono ?_
  rintro e w4 ⟨rfl, H4⟩
  rw [List.set_append_left _ _ hil.out] at H4
  have p1 := cell_blk (i := 1) (H4.blk _ (get_behind _ _ 0)) rfl
  have hi4 := hid (show (R.set i (BlkT C (clO (MV.of 0) 0 res ses gre last)) ++ [BlkT pm (mO m)])[i]? = some (BlkT C (clO (MV.of 0) 0 res ses gre last)) from by rw [List.getElem?_append_left (by rw [List.length_set]; exact hil.out)]; exact List.getElem?_set_self hil.out)
  have H4 := hid H4
  go_wp2_with fail
  refine (st_enter H4.out i hi4.out m.ses m.ses hmx).mono ?_
  rintro e w5 ⟨rfl, H5⟩
  rw [List.set_append_left _ _ (by rw [List.length_set]; exact hil.out), List.set_set] at H5
  have H5 := hid H5
  go_wp2_with fail
  go_ret
  exact ⟨rfl, H5.out.drop⟩

set_option maxHeartbeats 3200000 in
set_option maxRecDepth 100000 in
theorem st_hear_out (H : St W w R) (i : Nat) {C : Nat} {cm : MV} {tm res ses gre last : Int} (hi : R[i]? = some (BlkT C (clO cm tm res ses gre last))) (m : MV) (h1 : (cm.kind == 1) = false) (h2 : (cm.num == 0) = false) (h3 : (m.ses == cm.ses) = true) (h4 : (m.num == cm.num) = true) (h5 : (m.kind == 8) = true) (h6 : 0 ≤ gre) :
    Calls Try.prog 47 #[ptr C, .agg m.f.toArray] w fun e w' => e = .returned (.int .i64 2) ∧ St W w' (R.set i (BlkT C (clO (MV.of 0) 0 res 0 gre 0))) := by
  have b3 : (m.ses != cm.ses) = false := by unfold bne; rw [h3]; rfl
  have b4 : (m.num != cm.num) = false := by unfold bne; rw [h4]; rfl
  have hil := hid (lt_of_get hi)
  have H1 := H.alloc (mO m)
  have hi1 : (R ++ [BlkT w.heap.size (mO m)])[i]? = some (BlkT C (clO cm tm res ses gre last)) := by rw [List.getElem?_append_left hil.out]; exact hi
  have hb := H1.blk i hi1
  have hbm := H1.blk _ (get_behind _ _ 0)
  have hg := lt_of_block hb
  clear H hi
  dsimp only [MV.f, mO] at H1 hb hbm ⊢
  go_enter Try.func47, Try.ntmps47
  go_upto_region 1 with (fail)
  generalize w.alloc (.cells #[.int .i64 m.kind, .int .i64 m.ses, .int .i64 m.num, .int .i64 m.job, .int .i64 m.bad, .int .i64 m.idx, .int .i64 m.cnt, .int .i64 m.code, .int .u64 m.bits, .string m.text, .string m.prog] 57) = w1 at H1 hb hbm hg ⊢
  generalize w.heap.size = pm at H1 hi1 hbm ⊢
  have HK := hid (show ∀ wx, Fr [] w1 wx → (wx.cell? ⟨C, 0, none⟩ = some (.int .i64 cm.kind) ∧ wx.cell? ⟨C, 1, none⟩ = some (.int .i64 cm.ses) ∧ wx.cell? ⟨C, 2, none⟩ = some (.int .i64 cm.num) ∧ wx.cell? ⟨C, 14, none⟩ = some (.int .i64 gre)) ∧ wx.cell? ⟨pm, 0, none⟩ = some (.int .i64 m.kind) ∧ wx.cell? ⟨pm, 1, none⟩ = some (.int .i64 m.ses) ∧ wx.cell? ⟨pm, 2, none⟩ = some (.int .i64 m.num) from fun wx hF =>
    ⟨⟨cell_blk (i := 0) (hF.keep hb (by simp)) rfl, cell_blk (i := 1) (hF.keep hb (by simp)) rfl, cell_blk (i := 2) (hF.keep hb (by simp)) rfl, cell_blk (i := 14) (hF.keep hb (by simp)) rfl⟩, cell_blk (i := 0) (hF.keep hbm (by simp)) rfl, cell_blk (i := 1) (hF.keep hbm (by simp)) rfl, cell_blk (i := 2) (hF.keep hbm (by simp)) rfl⟩)
  have HWt := hid (show ∀ wx, Fr [] w1 wx → Calls Try.prog 69 #[ptr C] wx fun e w' => e = .returned (.int .i64 cm.num) ∧ wx = w' from fun wx hF => st_waits (hF.keep hb (by simp)))
  have H1 := hid H1
  have hi1 := hid hi1
  clear hb hbm hg
  go_wp2_with fail
  have hmx : max gre 0 = gre := by omega
  refine wp_region_calm (S := fun wx : World => Fr [] w1 wx) (by kernel_rfl) (by kernel_rfl) ((Fr.refl _ _).drew) ?_
  repeat (first | (refine calmRow_free (v := ?_) rfl ?_ ?_; rotate_left; (focus (intro wx hSx; (try dsimp only at hSx); have hcx := HK.out wx hSx; go_simp; (first | with_reducible rfl | exact ⟨rfl, hSx⟩ | fail))); (try simp only [Act.put, List.setIfInBounds_toArray, List.set_cons_zero, List.set_cons_succ])) | (refine calmRow_skip ?_ ?_; (focus (go_simp; (try (intro hx; cases hx)); done)); (try simp only [Act.put, List.setIfInBounds_toArray, List.set_cons_zero, List.set_cons_succ])) | (refine calmRow_take (v := ?_) ?_ ?_ ?_; rotate_left; (focus (go_simp; done)); (focus (intro wx hSx; (try dsimp only at hSx); have hcx := HK.out wx hSx; go_simp; (first | with_reducible rfl | exact ⟨rfl, hSx⟩ | fail))); (try simp only [Act.put, List.setIfInBounds_toArray, List.set_cons_zero, List.set_cons_succ])))
  refine calmRow_nil ?_
  intro w2 hFx
  try dsimp only at hFx
  have hF1 := hFx
  have HK2 := hid (fun wx (h : Fr [] w2 wx) => HK.out wx (hF1.trans h))
  have HT2 := hid (fun wx (h : Fr [] w2 wx) => HWt.out wx (hF1.trans h))
  clear HK HWt hFx
  go_wp2_with fail
  refine wp_region_calm (S := fun wx : World => Fr [] w2 wx) (by kernel_rfl) (by kernel_rfl) ((Fr.refl _ _).drew) ?_
  repeat (first | (refine calmRow_free (v := ?_) rfl ?_ ?_; rotate_left; (focus (intro wx hSx; (try dsimp only at hSx); have hcx := HK2.out wx hSx; go_simp; (first | with_reducible rfl | exact ⟨rfl, hSx⟩ | (refine (HT2.out _ hSx).mono ?_; rintro e w9 ⟨rfl, rfl⟩; refine ⟨?_, hSx⟩; with_reducible rfl)))); (try simp only [Act.put, List.setIfInBounds_toArray, List.set_cons_zero, List.set_cons_succ])) | (refine calmRow_skip ?_ ?_; (focus (go_simp; (try (intro hx; cases hx)); done)); (try simp only [Act.put, List.setIfInBounds_toArray, List.set_cons_zero, List.set_cons_succ])) | (refine calmRow_take (v := ?_) ?_ ?_ ?_; rotate_left; (focus (go_simp; done)); (focus (intro wx hSx; (try dsimp only at hSx); have hcx := HK2.out wx hSx; go_simp; (first | with_reducible rfl | exact ⟨rfl, hSx⟩ | (refine (HT2.out _ hSx).mono ?_; rintro e w9 ⟨rfl, rfl⟩; refine ⟨?_, hSx⟩; with_reducible rfl)))); (try simp only [Act.put, List.setIfInBounds_toArray, List.set_cons_zero, List.set_cons_succ])))
  refine calmRow_nil ?_
  intro w3 hFx
  try dsimp only at hFx
  have hF2 := hFx
  have HK3 := hid (fun wx (h : Fr [] w3 wx) => HK2.out wx (hF2.trans h))
  obtain ⟨⟨y0, y1, y2, y3⟩, z0, z1, z2⟩ := HK3.out w3 (Fr.refl _ _)
  clear hFx y0 y1 y2 y3 z1 z2
  go_wp2_with fail
  refine (show Calls Try.prog 65 _ _ _ from st_begin (H1.out.same (hF1.trans hF2)) i hi1.out (MV.of 0)).mono ?_
  rintro e w4 ⟨rfl, H4⟩
  rw [List.set_append_left _ _ hil.out] at H4
  have p1 := cell_blk (i := 1) (H4.blk _ (get_behind _ _ 0)) rfl
  have hi4 := hid (show (R.set i (BlkT C (clO (MV.of 0) 0 res ses gre last)) ++ [BlkT pm (mO m)])[i]? = some (BlkT C (clO (MV.of 0) 0 res ses gre last)) from by rw [List.getElem?_append_left (by rw [List.length_set]; exact hil.out)]; exact List.getElem?_set_self hil.out)
  have H4 := hid H4
  go_wp2_with fail
  refine (st_enter H4.out i hi4.out 0 gre hmx).mono ?_
  rintro e w5 ⟨rfl, H5⟩
  rw [List.set_append_left _ _ (by rw [List.length_set]; exact hil.out), List.set_set] at H5
  have H5 := hid H5
  go_wp2_with fail
  go_ret
  exact ⟨rfl, H5.out.drop⟩

set_option maxHeartbeats 3200000 in
set_option maxRecDepth 100000 in
theorem st_hear_yes (H : St W w R) (i : Nat) {C : Nat} {cm : MV} {tm res ses gre last : Int} (hi : R[i]? = some (BlkT C (clO cm tm res ses gre last))) (m : MV) (h1 : (cm.kind == 1) = false) (h2 : (cm.num == 0) = false) (h3 : (m.ses == cm.ses) = true) (h4 : (m.num == cm.num) = true) (h5 : (m.kind == 8) = false) (HFt : Hid (∀ wx : World, Calls Try.prog 70 #[.int .i64 cm.kind, .int .i64 m.kind] wx fun e w' => e = .returned (.bool true) ∧ wx = w')) :
    Calls Try.prog 47 #[ptr C, .agg m.f.toArray] w fun e w' => e = .returned (.int .i64 3) ∧ St W w' (R.set i (BlkT C (clO (MV.of 0) 0 res ses gre last))) := by
  have b3 : (m.ses != cm.ses) = false := by unfold bne; rw [h3]; rfl
  have b4 : (m.num != cm.num) = false := by unfold bne; rw [h4]; rfl
  have hil := hid (lt_of_get hi)
  have H1 := H.alloc (mO m)
  have hi1 : (R ++ [BlkT w.heap.size (mO m)])[i]? = some (BlkT C (clO cm tm res ses gre last)) := by rw [List.getElem?_append_left hil.out]; exact hi
  have hb := H1.blk i hi1
  have hbm := H1.blk _ (get_behind _ _ 0)
  have hg := lt_of_block hb
  clear H hi
  dsimp only [MV.f, mO] at H1 hb hbm ⊢
  go_enter Try.func47, Try.ntmps47
  go_upto_region 1 with (fail)
  generalize w.alloc (.cells #[.int .i64 m.kind, .int .i64 m.ses, .int .i64 m.num, .int .i64 m.job, .int .i64 m.bad, .int .i64 m.idx, .int .i64 m.cnt, .int .i64 m.code, .int .u64 m.bits, .string m.text, .string m.prog] 57) = w1 at H1 hb hbm hg ⊢
  generalize w.heap.size = pm at H1 hi1 hbm ⊢
  have HK := hid (show ∀ wx, Fr [] w1 wx → (wx.cell? ⟨C, 0, none⟩ = some (.int .i64 cm.kind) ∧ wx.cell? ⟨C, 1, none⟩ = some (.int .i64 cm.ses) ∧ wx.cell? ⟨C, 2, none⟩ = some (.int .i64 cm.num) ∧ wx.cell? ⟨C, 14, none⟩ = some (.int .i64 gre)) ∧ wx.cell? ⟨pm, 0, none⟩ = some (.int .i64 m.kind) ∧ wx.cell? ⟨pm, 1, none⟩ = some (.int .i64 m.ses) ∧ wx.cell? ⟨pm, 2, none⟩ = some (.int .i64 m.num) from fun wx hF =>
    ⟨⟨cell_blk (i := 0) (hF.keep hb (by simp)) rfl, cell_blk (i := 1) (hF.keep hb (by simp)) rfl, cell_blk (i := 2) (hF.keep hb (by simp)) rfl, cell_blk (i := 14) (hF.keep hb (by simp)) rfl⟩, cell_blk (i := 0) (hF.keep hbm (by simp)) rfl, cell_blk (i := 1) (hF.keep hbm (by simp)) rfl, cell_blk (i := 2) (hF.keep hbm (by simp)) rfl⟩)
  have HWt := hid (show ∀ wx, Fr [] w1 wx → Calls Try.prog 69 #[ptr C] wx fun e w' => e = .returned (.int .i64 cm.num) ∧ wx = w' from fun wx hF => st_waits (hF.keep hb (by simp)))
  have H1 := hid H1
  have hi1 := hid hi1
  clear hb hbm hg
  go_wp2_with fail
  refine wp_region_calm (S := fun wx : World => Fr [] w1 wx) (by kernel_rfl) (by kernel_rfl) ((Fr.refl _ _).drew) ?_
  repeat (first | (refine calmRow_free (v := ?_) rfl ?_ ?_; rotate_left; (focus (intro wx hSx; (try dsimp only at hSx); have hcx := HK.out wx hSx; go_simp; (first | with_reducible rfl | exact ⟨rfl, hSx⟩ | fail))); (try simp only [Act.put, List.setIfInBounds_toArray, List.set_cons_zero, List.set_cons_succ])) | (refine calmRow_skip ?_ ?_; (focus (go_simp; (try (intro hx; cases hx)); done)); (try simp only [Act.put, List.setIfInBounds_toArray, List.set_cons_zero, List.set_cons_succ])) | (refine calmRow_take (v := ?_) ?_ ?_ ?_; rotate_left; (focus (go_simp; done)); (focus (intro wx hSx; (try dsimp only at hSx); have hcx := HK.out wx hSx; go_simp; (first | with_reducible rfl | exact ⟨rfl, hSx⟩ | fail))); (try simp only [Act.put, List.setIfInBounds_toArray, List.set_cons_zero, List.set_cons_succ])))
  refine calmRow_nil ?_
  intro w2 hFx
  try dsimp only at hFx
  have hF1 := hFx
  have HK2 := hid (fun wx (h : Fr [] w2 wx) => HK.out wx (hF1.trans h))
  have HT2 := hid (fun wx (h : Fr [] w2 wx) => HWt.out wx (hF1.trans h))
  clear HK HWt hFx
  go_wp2_with fail
  refine wp_region_calm (S := fun wx : World => Fr [] w2 wx) (by kernel_rfl) (by kernel_rfl) ((Fr.refl _ _).drew) ?_
  repeat (first | (refine calmRow_free (v := ?_) rfl ?_ ?_; rotate_left; (focus (intro wx hSx; (try dsimp only at hSx); have hcx := HK2.out wx hSx; go_simp; (first | with_reducible rfl | exact ⟨rfl, hSx⟩ | (refine (HT2.out _ hSx).mono ?_; rintro e w9 ⟨rfl, rfl⟩; refine ⟨?_, hSx⟩; with_reducible rfl)))); (try simp only [Act.put, List.setIfInBounds_toArray, List.set_cons_zero, List.set_cons_succ])) | (refine calmRow_skip ?_ ?_; (focus (go_simp; (try (intro hx; cases hx)); done)); (try simp only [Act.put, List.setIfInBounds_toArray, List.set_cons_zero, List.set_cons_succ])) | (refine calmRow_take (v := ?_) ?_ ?_ ?_; rotate_left; (focus (go_simp; done)); (focus (intro wx hSx; (try dsimp only at hSx); have hcx := HK2.out wx hSx; go_simp; (first | with_reducible rfl | exact ⟨rfl, hSx⟩ | (refine (HT2.out _ hSx).mono ?_; rintro e w9 ⟨rfl, rfl⟩; refine ⟨?_, hSx⟩; with_reducible rfl)))); (try simp only [Act.put, List.setIfInBounds_toArray, List.set_cons_zero, List.set_cons_succ])))
  refine calmRow_nil ?_
  intro w3 hFx
  try dsimp only at hFx
  have hF2 := hFx
  have HK3 := hid (fun wx (h : Fr [] w3 wx) => HK2.out wx (hF2.trans h))
  obtain ⟨⟨y0, y1, y2, y3⟩, z0, z1, z2⟩ := HK3.out w3 (Fr.refl _ _)
  clear hFx y0 y1 y2 y3 z1 z2
  go_wp2_with fail
  refine wp_region_calm (S := fun wx : World => Fr [] w3 wx) (by kernel_rfl) (by kernel_rfl) ((Fr.refl _ _).drew) ?_
  repeat (first | (refine calmRow_free (v := ?_) rfl ?_ ?_; rotate_left; (focus (intro wx hSx; (try dsimp only at hSx); have hcx := HK3.out wx hSx; go_simp; (first | with_reducible rfl | exact ⟨rfl, hSx⟩ | (refine (HFt.out _).mono ?_; rintro e w9 ⟨rfl, rfl⟩; refine ⟨?_, hSx⟩; with_reducible rfl)))); (try simp only [Act.put, List.setIfInBounds_toArray, List.set_cons_zero, List.set_cons_succ])) | (refine calmRow_skip ?_ ?_; (focus (go_simp; (try (intro hx; cases hx)); done)); (try simp only [Act.put, List.setIfInBounds_toArray, List.set_cons_zero, List.set_cons_succ])) | (refine calmRow_take (v := ?_) ?_ ?_ ?_; rotate_left; (focus (go_simp; done)); (focus (intro wx hSx; (try dsimp only at hSx); have hcx := HK3.out wx hSx; go_simp; (first | with_reducible rfl | exact ⟨rfl, hSx⟩ | (refine (HFt.out _).mono ?_; rintro e w9 ⟨rfl, rfl⟩; refine ⟨?_, hSx⟩; with_reducible rfl)))); (try simp only [Act.put, List.setIfInBounds_toArray, List.set_cons_zero, List.set_cons_succ])))
  refine calmRow_nil ?_
  intro w6 hFx
  try dsimp only at hFx
  have hF3 := hFx
  go_wp2_with fail
  refine (show Calls Try.prog 65 _ _ _ from st_begin (H1.out.same ((hF1.trans hF2).trans hF3)) i hi1.out (MV.of 0)).mono ?_
  rintro e w4 ⟨rfl, H4⟩
  rw [List.set_append_left _ _ hil.out] at H4
  have p1 := cell_blk (i := 1) (H4.blk _ (get_behind _ _ 0)) rfl
  have hi4 := hid (show (R.set i (BlkT C (clO (MV.of 0) 0 res ses gre last)) ++ [BlkT pm (mO m)])[i]? = some (BlkT C (clO (MV.of 0) 0 res ses gre last)) from by rw [List.getElem?_append_left (by rw [List.length_set]; exact hil.out)]; exact List.getElem?_set_self hil.out)
  have H4 := hid H4
  go_wp2_with fail
  go_ret
  have h := H4.out
  exact ⟨rfl, h.drop⟩

set_option maxHeartbeats 3200000 in
set_option maxRecDepth 100000 in
theorem st_hear_no (H : St W w R) (i : Nat) {C : Nat} {cm : MV} {tm res ses gre last : Int} (hi : R[i]? = some (BlkT C (clO cm tm res ses gre last))) (m : MV) (h1 : (cm.kind == 1) = false) (h2 : (cm.num == 0) = false) (h3 : (m.ses == cm.ses) = true) (h4 : (m.num == cm.num) = true) (h5 : (m.kind == 8) = false) (HFt : Hid (∀ wx : World, Calls Try.prog 70 #[.int .i64 cm.kind, .int .i64 m.kind] wx fun e w' => e = .returned (.bool false) ∧ wx = w')) :
    Calls Try.prog 47 #[ptr C, .agg m.f.toArray] w fun e w' => e = .returned (.int .i64 0) ∧ St W w' R := by
  have b3 : (m.ses != cm.ses) = false := by unfold bne; rw [h3]; rfl
  have b4 : (m.num != cm.num) = false := by unfold bne; rw [h4]; rfl
  have hil := hid (lt_of_get hi)
  have H1 := H.alloc (mO m)
  have hi1 : (R ++ [BlkT w.heap.size (mO m)])[i]? = some (BlkT C (clO cm tm res ses gre last)) := by rw [List.getElem?_append_left hil.out]; exact hi
  have hb := H1.blk i hi1
  have hbm := H1.blk _ (get_behind _ _ 0)
  have hg := lt_of_block hb
  clear H hi
  dsimp only [MV.f, mO] at H1 hb hbm ⊢
  go_enter Try.func47, Try.ntmps47
  go_upto_region 1 with (fail)
  generalize w.alloc (.cells #[.int .i64 m.kind, .int .i64 m.ses, .int .i64 m.num, .int .i64 m.job, .int .i64 m.bad, .int .i64 m.idx, .int .i64 m.cnt, .int .i64 m.code, .int .u64 m.bits, .string m.text, .string m.prog] 57) = w1 at H1 hb hbm hg ⊢
  generalize w.heap.size = pm at H1 hi1 hbm ⊢
  have HK := hid (show ∀ wx, Fr [] w1 wx → (wx.cell? ⟨C, 0, none⟩ = some (.int .i64 cm.kind) ∧ wx.cell? ⟨C, 1, none⟩ = some (.int .i64 cm.ses) ∧ wx.cell? ⟨C, 2, none⟩ = some (.int .i64 cm.num) ∧ wx.cell? ⟨C, 14, none⟩ = some (.int .i64 gre)) ∧ wx.cell? ⟨pm, 0, none⟩ = some (.int .i64 m.kind) ∧ wx.cell? ⟨pm, 1, none⟩ = some (.int .i64 m.ses) ∧ wx.cell? ⟨pm, 2, none⟩ = some (.int .i64 m.num) from fun wx hF =>
    ⟨⟨cell_blk (i := 0) (hF.keep hb (by simp)) rfl, cell_blk (i := 1) (hF.keep hb (by simp)) rfl, cell_blk (i := 2) (hF.keep hb (by simp)) rfl, cell_blk (i := 14) (hF.keep hb (by simp)) rfl⟩, cell_blk (i := 0) (hF.keep hbm (by simp)) rfl, cell_blk (i := 1) (hF.keep hbm (by simp)) rfl, cell_blk (i := 2) (hF.keep hbm (by simp)) rfl⟩)
  have HWt := hid (show ∀ wx, Fr [] w1 wx → Calls Try.prog 69 #[ptr C] wx fun e w' => e = .returned (.int .i64 cm.num) ∧ wx = w' from fun wx hF => st_waits (hF.keep hb (by simp)))
  have H1 := hid H1
  have hi1 := hid hi1
  clear hb hbm hg
  go_wp2_with fail
  refine wp_region_calm (S := fun wx : World => Fr [] w1 wx) (by kernel_rfl) (by kernel_rfl) ((Fr.refl _ _).drew) ?_
  repeat (first | (refine calmRow_free (v := ?_) rfl ?_ ?_; rotate_left; (focus (intro wx hSx; (try dsimp only at hSx); have hcx := HK.out wx hSx; go_simp; (first | with_reducible rfl | exact ⟨rfl, hSx⟩ | fail))); (try simp only [Act.put, List.setIfInBounds_toArray, List.set_cons_zero, List.set_cons_succ])) | (refine calmRow_skip ?_ ?_; (focus (go_simp; (try (intro hx; cases hx)); done)); (try simp only [Act.put, List.setIfInBounds_toArray, List.set_cons_zero, List.set_cons_succ])) | (refine calmRow_take (v := ?_) ?_ ?_ ?_; rotate_left; (focus (go_simp; done)); (focus (intro wx hSx; (try dsimp only at hSx); have hcx := HK.out wx hSx; go_simp; (first | with_reducible rfl | exact ⟨rfl, hSx⟩ | fail))); (try simp only [Act.put, List.setIfInBounds_toArray, List.set_cons_zero, List.set_cons_succ])))
  refine calmRow_nil ?_
  intro w2 hFx
  try dsimp only at hFx
  have hF1 := hFx
  have HK2 := hid (fun wx (h : Fr [] w2 wx) => HK.out wx (hF1.trans h))
  have HT2 := hid (fun wx (h : Fr [] w2 wx) => HWt.out wx (hF1.trans h))
  clear HK HWt hFx
  go_wp2_with fail
  refine wp_region_calm (S := fun wx : World => Fr [] w2 wx) (by kernel_rfl) (by kernel_rfl) ((Fr.refl _ _).drew) ?_
  repeat (first | (refine calmRow_free (v := ?_) rfl ?_ ?_; rotate_left; (focus (intro wx hSx; (try dsimp only at hSx); have hcx := HK2.out wx hSx; go_simp; (first | with_reducible rfl | exact ⟨rfl, hSx⟩ | (refine (HT2.out _ hSx).mono ?_; rintro e w9 ⟨rfl, rfl⟩; refine ⟨?_, hSx⟩; with_reducible rfl)))); (try simp only [Act.put, List.setIfInBounds_toArray, List.set_cons_zero, List.set_cons_succ])) | (refine calmRow_skip ?_ ?_; (focus (go_simp; (try (intro hx; cases hx)); done)); (try simp only [Act.put, List.setIfInBounds_toArray, List.set_cons_zero, List.set_cons_succ])) | (refine calmRow_take (v := ?_) ?_ ?_ ?_; rotate_left; (focus (go_simp; done)); (focus (intro wx hSx; (try dsimp only at hSx); have hcx := HK2.out wx hSx; go_simp; (first | with_reducible rfl | exact ⟨rfl, hSx⟩ | (refine (HT2.out _ hSx).mono ?_; rintro e w9 ⟨rfl, rfl⟩; refine ⟨?_, hSx⟩; with_reducible rfl)))); (try simp only [Act.put, List.setIfInBounds_toArray, List.set_cons_zero, List.set_cons_succ])))
  refine calmRow_nil ?_
  intro w3 hFx
  try dsimp only at hFx
  have hF2 := hFx
  have HK3 := hid (fun wx (h : Fr [] w3 wx) => HK2.out wx (hF2.trans h))
  obtain ⟨⟨y0, y1, y2, y3⟩, z0, z1, z2⟩ := HK3.out w3 (Fr.refl _ _)
  clear hFx y0 y1 y2 y3 z1 z2
  go_wp2_with fail
  refine wp_region_calm (S := fun wx : World => Fr [] w3 wx) (by kernel_rfl) (by kernel_rfl) ((Fr.refl _ _).drew) ?_
  repeat (first | (refine calmRow_free (v := ?_) rfl ?_ ?_; rotate_left; (focus (intro wx hSx; (try dsimp only at hSx); have hcx := HK3.out wx hSx; go_simp; (first | with_reducible rfl | exact ⟨rfl, hSx⟩ | (refine (HFt.out _).mono ?_; rintro e w9 ⟨rfl, rfl⟩; refine ⟨?_, hSx⟩; with_reducible rfl)))); (try simp only [Act.put, List.setIfInBounds_toArray, List.set_cons_zero, List.set_cons_succ])) | (refine calmRow_skip ?_ ?_; (focus (go_simp; (try (intro hx; cases hx)); done)); (try simp only [Act.put, List.setIfInBounds_toArray, List.set_cons_zero, List.set_cons_succ])) | (refine calmRow_take (v := ?_) ?_ ?_ ?_; rotate_left; (focus (go_simp; done)); (focus (intro wx hSx; (try dsimp only at hSx); have hcx := HK3.out wx hSx; go_simp; (first | with_reducible rfl | exact ⟨rfl, hSx⟩ | (refine (HFt.out _).mono ?_; rintro e w9 ⟨rfl, rfl⟩; refine ⟨?_, hSx⟩; with_reducible rfl)))); (try simp only [Act.put, List.setIfInBounds_toArray, List.set_cons_zero, List.set_cons_succ])))
  refine calmRow_nil ?_
  intro w6 hFx
  try dsimp only at hFx
  have hF3 := hFx
  go_wp2_with fail
  go_ret
  exact ⟨rfl, (H1.out.drop).same ((hF1.trans hF2).trans hF3)⟩

end

end Go.Proofs.Ytkiccbjngokpjaa

/-
  session: Ask of a caller.
-/
namespace Go.Proofs.Ytkiccbjngokpjaa
open Go.RowKit
set_option linter.unusedVariables false
set_option linter.unusedSimpArgs false

section
variable {W : Base} {w : World} {R : List Thing}
set_option maxHeartbeats 6400000 in
set_option maxRecDepth 100000 in
theorem st_cask (H : St W w R) (i : Nat) {C : Nat} {m0 : MV} {tm res ses gre last : Int} (hi : R[i]? = some (BlkT C (clO m0 tm res ses gre last))) (hk : m0.kind = 0) (hs : (ses == 0) = false) (hl : (last == 1099511627776) = false)
    (l1 : Int) (hl1 : wrap64 (last + 1) = l1) (m : MV) (h1 : ¬ m.kind < 2) (h2 : ¬ 4 < m.kind) :
    Calls Try.prog 41 #[ptr C, .agg m.f.toArray] w fun e w' => e = .returned (.int .i64 0) ∧ St W w' (R.set i (BlkT C (clO { m with ses := ses, num := l1 } 0 res ses gre l1))) := by
  have hil := hid (lt_of_get hi)
  have hb := H.blk i hi
  have hg := lt_of_block hb
  have x13 := cell_blk (i := 13) hb rfl
  have x15 := cell_blk (i := 15) hb rfl
  have f15 := free_blk (i := 15) hb
  have HB := hid (fun o => st_busy ((H.alloc_ o).blk i hi))
  rw [hk] at HB
  have H4 := hid (show St W ((w.setCell ⟨C, 15, none⟩ (.int .i64 l1)).alloc (mO m)) (R.set i (BlkT C (clO m0 tm res ses gre l1)) ++ [BlkT w.heap.size (mO m)]) from (H.setBlk i hi 15 (.int .i64 l1)).allocAt (mO m) w.heap.size (by simp))
  clear H hi hk hb
  dsimp only [MV.f, mO] at H4 ⊢
  go_enter Try.func41, Try.ntmps41
  go_wp2_with fail
  refine (HB.out _).mono ?_
  rintro e w1 ⟨rfl, rfl⟩
  clear HB
  go_wp2_with fail
  rw [hl1]
  generalize (w.setCell ⟨C, 15, none⟩ (.int .i64 l1)).alloc (.cells #[.int .i64 m.kind, .int .i64 m.ses, .int .i64 m.num, .int .i64 m.job, .int .i64 m.bad, .int .i64 m.idx, .int .i64 m.cnt, .int .i64 m.code, .int .u64 m.bits, .string m.text, .string m.prog] 57) = w4 at H4 ⊢
  generalize w.heap.size = pm at H4 ⊢
  have HC := hid (show ∀ (wx : World) (ob : Obj), St W wx (R.set i (BlkT C (clO m0 tm res ses gre l1)) ++ [BlkT pm ob]) → wx.cell? ⟨C, 13, none⟩ = some (.int .i64 ses) ∧ wx.cell? ⟨C, 15, none⟩ = some (.int .i64 l1) from fun wx ob h => by
    have b := h.blk i (by rw [List.getElem?_append_left (by rw [List.length_set]; exact hil.out)]; exact List.getElem?_set_self hil.out)
    exact ⟨cell_blk (i := 13) b rfl, cell_blk (i := 15) b rfl⟩)
  have H5 := hid (show St W (w4.setCell ⟨pm, 1, none⟩ (.int .i64 ses)) (R.set i (BlkT C (clO m0 tm res ses gre l1)) ++ [BlkT pm (mO { m with ses := ses })]) from by
    have h := H4.out.setBlk _ (get_behind _ _ 0) 1 (.int .i64 ses)
    rw [set_bh] at h
    exact h)
  have H6 := hid (show St W ((w4.setCell ⟨pm, 1, none⟩ (.int .i64 ses)).setCell ⟨pm, 2, none⟩ (.int .i64 l1)) (R.set i (BlkT C (clO m0 tm res ses gre l1)) ++ [BlkT pm (mO { m with ses := ses, num := l1 })]) from by
    have h := H5.out.setBlk _ (get_behind _ _ 0) 2 (.int .i64 l1)
    rw [set_bh] at h
    exact h)
  have b4 := H4.out.blk _ (get_behind _ _ 0)
  have c1 := cell_blk (i := 1) b4 rfl
  have f1 := free_blk (i := 1) b4
  have b5 := H5.out.blk _ (get_behind _ _ 0)
  have c2 := cell_blk (i := 2) b5 rfl
  have f2 := free_blk (i := 2) b5
  clear b4 b5
  refine wp_region_U (S := fun wx : World => wx.cell? ⟨C, 13, none⟩ = some (.int .i64 ses) ∧ wx.cell? ⟨C, 15, none⟩ = some (.int .i64 l1)) 11 (by kernel_rfl) (HC.out _ _ (H4.out.same ((Fr.refl _ _).drew))) (fun hHeld => ?_)
  refine takeU (i := 0) (d := 39) (v := ?_) rfl rfl (by kernel_rfl) (by kernel_rfl) (by kernel_rfl) (by kernel_rfl) (by kernel_rfl) (fun _ _ _ h => h) (Or.inl ⟨by rfl, ?_⟩) hHeld ?_
  rotate_left
  · intro wq hSw; (try dsimp only at hSw); go_simp; all_goals (with_reducible rfl)
  simp only [Act.put, List.setIfInBounds_toArray, List.set_cons_zero, List.set_cons_succ]
  refine takeU (i := 1) (d := 40) (v := ?_) rfl rfl (by kernel_rfl) (by kernel_rfl) (by kernel_rfl) (by kernel_rfl) (by kernel_rfl) (fun _ _ _ h => h) (Or.inl ⟨by rfl, ?_⟩) hHeld ?_
  rotate_left
  · intro wq hSw; (try dsimp only at hSw); go_simp; all_goals (with_reducible rfl)
  simp only [Act.put, List.setIfInBounds_toArray, List.set_cons_zero, List.set_cons_succ]
  refine takeU (i := 2) (d := 41) (v := ?_) rfl rfl (by kernel_rfl) (by kernel_rfl) (by kernel_rfl) (by kernel_rfl) (by kernel_rfl) (fun _ _ _ h => h) (Or.inl ⟨by rfl, ?_⟩) hHeld ?_
  rotate_left
  · intro wq hSw; (try dsimp only at hSw); go_simp; all_goals (with_reducible rfl)
  simp only [Act.put, List.setIfInBounds_toArray, List.set_cons_zero, List.set_cons_succ]
  refine takeU (i := 3) (d := 42) (v := ?_) rfl rfl (by kernel_rfl) (by kernel_rfl) (by kernel_rfl) (by kernel_rfl) (by kernel_rfl) (fun _ _ _ h => h) (Or.inl ⟨by rfl, ?_⟩) hHeld ?_
  rotate_left
  · intro wq hSw; (try dsimp only at hSw); go_simp; all_goals (with_reducible rfl)
  simp only [Act.put, List.setIfInBounds_toArray, List.set_cons_zero, List.set_cons_succ]
  refine takeU (i := 4) (d := 43) (v := ?_) rfl rfl (by kernel_rfl) (by kernel_rfl) (by kernel_rfl) (by kernel_rfl) (by kernel_rfl) (fun _ _ _ h => h) (Or.inl ⟨by rfl, ?_⟩) hHeld ?_
  rotate_left
  · intro wq hSw; (try dsimp only at hSw); go_simp; all_goals (with_reducible rfl)
  simp only [Act.put, List.setIfInBounds_toArray, List.set_cons_zero, List.set_cons_succ]
  refine takeU (i := 5) (d := 44) (v := ?_) rfl rfl (by kernel_rfl) (by kernel_rfl) (by kernel_rfl) (by kernel_rfl) (by kernel_rfl) (fun _ _ _ h => h) (Or.inl ⟨by rfl, ?_⟩) hHeld ?_
  rotate_left
  · intro wq hSw; (try dsimp only at hSw); go_simp; all_goals (with_reducible rfl)
  simp only [Act.put, List.setIfInBounds_toArray, List.set_cons_zero, List.set_cons_succ]
  refine takeU (i := 6) (d := 45) (v := ?_) rfl rfl (by kernel_rfl) (by kernel_rfl) (by kernel_rfl) (by kernel_rfl) (by kernel_rfl) (fun _ _ _ h => h) (Or.inl ⟨by rfl, ?_⟩) hHeld ?_
  rotate_left
  · intro wq hSw; (try dsimp only at hSw); go_simp; all_goals (with_reducible rfl)
  simp only [Act.put, List.setIfInBounds_toArray, List.set_cons_zero, List.set_cons_succ]
  refine takeU (i := 7) (d := 46) (v := ?_) rfl rfl (by kernel_rfl) (by kernel_rfl) (by kernel_rfl) (by kernel_rfl) (by kernel_rfl) (fun _ _ _ h => h) (Or.inl ⟨by rfl, ?_⟩) hHeld ?_
  rotate_left
  · intro wq hSw; (try dsimp only at hSw); go_simp; all_goals (with_reducible rfl)
  simp only [Act.put, List.setIfInBounds_toArray, List.set_cons_zero, List.set_cons_succ]
  refine takeU (i := 8) (d := 47) (v := ?_) rfl rfl (by kernel_rfl) (by kernel_rfl) (by kernel_rfl) (by kernel_rfl) (by kernel_rfl) (fun _ _ _ h => h) (Or.inl ⟨by rfl, ?_⟩) hHeld ?_
  rotate_left
  · intro wq hSw; (try dsimp only at hSw); go_simp; all_goals (with_reducible rfl)
  simp only [Act.put, List.setIfInBounds_toArray, List.set_cons_zero, List.set_cons_succ]
  refine wpAnyU_ready (rs := [9]) (by kernel_rfl) (by simp) ?_
  refine AllReadyU.cons rfl (fun K1 hK => ?_) AllReadyU.nil
  go_simp
  refine hK.out _ _ (fun _ => HC.out _ _ (H5.out.same ((Fr.refl _ _).drew))) (fun hHeld => ?_)
  clear hK K1
  have hHeld := hHeld (by decide)
  refine takeU (i := 10) (d := 48) (v := ?_) rfl rfl (by kernel_rfl) (by kernel_rfl) (by kernel_rfl) (by kernel_rfl) (by kernel_rfl) (fun _ _ _ h => h) (Or.inl ⟨by rfl, ?_⟩) hHeld ?_
  rotate_left
  · intro wq hSw; (try dsimp only at hSw); go_simp; all_goals (with_reducible rfl)
  simp only [Act.put, List.setIfInBounds_toArray, List.set_cons_zero, List.set_cons_succ]
  refine wpAnyU_ready (rs := [11]) (by kernel_rfl) (by simp) ?_
  refine AllReadyU.cons rfl (fun K1 hK => ?_) AllReadyU.nil
  go_simp
  refine hK.out _ _ (fun h => absurd rfl h) (fun _ => ?_)
  clear hK K1 hHeld
  refine wpAnyU_done (by kernel_rfl) ?_ _
  have H7 := hid (H6.out.same ((Fr.refl _ _).drew))
  generalize ((w4.setCell ⟨pm, 1, none⟩ (.int .i64 ses)).setCell ⟨pm, 2, none⟩ (.int .i64 l1)).drew = w7 at H7 ⊢
  clear H4 H5 H6 c1 c2 f1 f2
  have HM := hid (fun (wx : World) (h : St W wx (R.set i (BlkT C (clO m0 tm res ses gre l1)) ++ [BlkT pm (mO { m with ses := ses, num := l1 })])) => msg_cells (h.blk _ (get_behind _ _ 0)))
  go_wp2_with fail
  refine wp_region_U (S := fun wx : World => (wx.cell? ⟨pm, 0, none⟩ = some (.int .i64 m.kind) ∧ wx.cell? ⟨pm, 1, none⟩ = some (.int .i64 ses) ∧ wx.cell? ⟨pm, 2, none⟩ = some (.int .i64 l1)) ∧ (wx.cell? ⟨pm, 3, none⟩ = some (.int .i64 m.job) ∧ wx.cell? ⟨pm, 4, none⟩ = some (.int .i64 m.bad) ∧ wx.cell? ⟨pm, 5, none⟩ = some (.int .i64 m.idx)) ∧ (wx.cell? ⟨pm, 6, none⟩ = some (.int .i64 m.cnt) ∧ wx.cell? ⟨pm, 7, none⟩ = some (.int .i64 m.code) ∧ wx.cell? ⟨pm, 8, none⟩ = some (.int .u64 m.bits)) ∧ wx.cell? ⟨pm, 9, none⟩ = some (.string m.text) ∧ wx.cell? ⟨pm, 10, none⟩ = some (.string m.prog)) 4 (by kernel_rfl) (by
    obtain ⟨a0, a1, a2, a3, a4, a5, a6, a7, a8, a9, a10⟩ := HM.out _ (H7.out.same ((Fr.refl _ _).drew))
    exact ⟨⟨a0, a1, a2⟩, ⟨a3, a4, a5⟩, ⟨a6, a7, a8⟩, a9, a10⟩) (fun hHeld => ?_)
  refine takeU (i := 0) (d := 49) (v := ?_) rfl rfl (by kernel_rfl) (by kernel_rfl) (by kernel_rfl) (by kernel_rfl) (by kernel_rfl) (fun _ _ _ h => h) (Or.inl ⟨by rfl, ?_⟩) hHeld ?_
  rotate_left
  · intro wq hSw; (try dsimp only at hSw); go_simp; all_goals (with_reducible rfl)
  simp only [Act.put, List.setIfInBounds_toArray, List.set_cons_zero, List.set_cons_succ]
  refine takeU (i := 1) (d := 50) (v := ?_) rfl rfl (by kernel_rfl) (by kernel_rfl) (by kernel_rfl) (by kernel_rfl) (by kernel_rfl) (fun _ _ _ h => h) (Or.inl ⟨by rfl, ?_⟩) hHeld ?_
  rotate_left
  · intro wq hSw; (try dsimp only at hSw); go_simp; all_goals (with_reducible rfl)
  simp only [Act.put, List.setIfInBounds_toArray, List.set_cons_zero, List.set_cons_succ]
  refine takeU (i := 2) (d := 51) (v := ?_) rfl rfl (by kernel_rfl) (by kernel_rfl) (by kernel_rfl) (by kernel_rfl) (by kernel_rfl) (fun _ _ _ h => h) (Or.inl ⟨by rfl, ?_⟩) hHeld ?_
  rotate_left
  · intro wq hSw; (try dsimp only at hSw); go_simp; all_goals (with_reducible rfl)
  simp only [Act.put, List.setIfInBounds_toArray, List.set_cons_zero, List.set_cons_succ]
  refine takeU (i := 3) (d := 52) (v := ?_) rfl rfl (by kernel_rfl) (by kernel_rfl) (by kernel_rfl) (by kernel_rfl) (by kernel_rfl) (fun _ _ _ h => h) (Or.inl ⟨by rfl, ?_⟩) hHeld ?_
  rotate_left
  · intro wq hSw; (try dsimp only at hSw); go_simp; all_goals (with_reducible rfl)
  simp only [Act.put, List.setIfInBounds_toArray, List.set_cons_zero, List.set_cons_succ]
  refine wpAnyU_ready (rs := [4]) (by kernel_rfl) (by simp) ?_
  refine AllReadyU.cons rfl (fun K1 hK => ?_) AllReadyU.nil
  go_simp
  go_at_call 65
  refine (show Calls Try.prog 65 _ _ _ from st_begin (H7.out.same ((Fr.refl _ _).drew)) i (by rw [List.getElem?_append_left (by rw [List.length_set]; exact hil.out)]; exact List.getElem?_set_self hil.out) { m with ses := ses, num := l1 }).mono ?_
  rintro e w8 ⟨rfl, H8⟩
  rw [List.set_append_left _ _ (by rw [List.length_set]; exact hil.out), List.set_set] at H8
  have H8 := hid H8
  go_simp
  refine hK.out _ _ (fun h => absurd rfl h) (fun _ => ?_)
  clear hK K1 hHeld
  refine wpAnyU_done (by kernel_rfl) ?_ _
  go_wp2_with fail
  go_ret
  exact ⟨rfl, H8.out.drop⟩
end

end Go.Proofs.Ytkiccbjngokpjaa

/-
  session: a table of one slot as a thing.
-/
namespace Go.Proofs.Ytkiccbjngokpjaa
open Go.RowKit
set_option linter.unusedVariables false
set_option linter.unusedSimpArgs false

structure Dk where
  life : Int
  ses : Int
  last : Int
  rep : ByteArray
def Dk.f (d : Dk) : List Value := [.int .i64 0, .int .i64 d.life, .int .i64 d.ses, .int .i64 d.last, .string d.rep]
abbrev tbO (v : Value) : Obj := .cells #[v] 147
abbrev TbT (T : Nat) (d : Dk) : Thing := ObT T tbO 149 5 1 d.f
abbrev tbS (g cap : Nat) : Value := .slice (some ⟨g, 0, none⟩) 1 cap
abbrev tbL (T : Nat) (d : Dk) (g cap : Nat) : List Thing := [BlkT T (tbO (tbS g cap)), RowT 149 5 (tbS g cap) 1 d.f]

section
variable {W : Base} {w : World} {R : List Thing}
theorem St.tb (H : St W w R) (i : Nat) {T : Nat} {d : Dk} (hi : R[i]? = some (TbT T d)) : ∃ g cap, 1 ≤ cap ∧ St W w (R.set i NilT ++ tbL T d g cap) := by
  obtain ⟨v, H2⟩ := H.ob i hi
  obtain ⟨g, cap, rfl, h1, h2⟩ := ownsRow_shape (H2.row _ (get_behind _ _ 1)) (by omega)
  exact ⟨g, cap, h1, H2⟩
theorem tb_cells {T g cap : Nat} {d : Dk} (H : St W w (R ++ tbL T d g cap)) : w.cell? ⟨T, 0, none⟩ = some (tbS g cap) ∧ w.cell? ⟨g, 0, none⟩ = some (.int .i64 0) ∧ w.cell? ⟨g, 1, none⟩ = some (.int .i64 d.life) ∧ w.cell? ⟨g, 2, none⟩ = some (.int .i64 d.ses) ∧ w.cell? ⟨g, 3, none⟩ = some (.int .i64 d.last) ∧ w.cell? ⟨g, 4, none⟩ = some (.string d.rep) := by
  have hr := H.row _ (get_behind _ _ 1)
  exact ⟨cell_blk (i := 0) (H.blk _ (get_behind _ _ 0)) rfl, (ownsRow_cell hr 0 rfl).1, (ownsRow_cell hr 1 rfl).1, (ownsRow_cell hr 2 rfl).1, (ownsRow_cell hr 3 rfl).1, (ownsRow_cell hr 4 rfl).1⟩
theorem tb_free {T g cap : Nat} {d : Dk} (H : St W w (R ++ tbL T d g cap)) : w.frozen? ⟨g, 0, none⟩ = false ∧ w.frozen? ⟨g, 1, none⟩ = false ∧ w.frozen? ⟨g, 2, none⟩ = false ∧ w.frozen? ⟨g, 3, none⟩ = false ∧ w.frozen? ⟨g, 4, none⟩ = false := by
  have hr := H.row _ (get_behind _ _ 1)
  exact ⟨(ownsRow_cell hr 0 rfl).2, (ownsRow_cell hr 1 rfl).2, (ownsRow_cell hr 2 rfl).2, (ownsRow_cell hr 3 rfl).2, (ownsRow_cell hr 4 rfl).2⟩
theorem St.tbSet {T g cap : Nat} {l : List Value} (H : St W w (R ++ [BlkT T (tbO (tbS g cap)), RowT 149 5 (tbS g cap) 1 l])) (j : Nat) (v : Value) :
    St W (w.setCell ⟨g, j, none⟩ v) (R ++ [BlkT T (tbO (tbS g cap)), RowT 149 5 (tbS g cap) 1 (l.set j v)]) := by
  have h := H.setRowCell _ (get_behind _ _ 1) j v
  rwa [set_bh] at h

theorem st_thas {T g cap : Nat} (x0 : w.cell? ⟨T, 0, none⟩ = some (tbS g cap)) :
    Calls Try.prog 71 #[ptr T, .int .i64 0] w fun e w' => e = .returned (.bool true) ∧ w = w' := by
  go_enter Try.func71, Try.ntmps71
  go_wp2
  go_ret
  exact ⟨rfl, rfl⟩
theorem st_counts (w : World) (n : Int) (h1 : 1 ≤ n) (h2 : n ≤ 1099511627776) :
    Calls Try.prog 72 #[.int .i64 n] w fun e w' => e = .returned (.bool true) ∧ w = w' := by
  go_enter Try.func72, Try.ntmps72
  go_wp2
  go_ret
  exact ⟨rfl, rfl⟩

set_option maxHeartbeats 1600000 in
theorem st_thello (H : St W w R) (i : Nat) {T : Nat} {d : Dk} (hi : R[i]? = some (TbT T d)) (hl : d.life = 0) :
    Calls Try.prog 48 #[ptr T, .int .i64 0, .int .i64 1] w fun e w' => e = .returned (.tuple #[.int .i64 2, .int .i64 0]) ∧ w = w' := by
  obtain ⟨g, cap, hc, H2⟩ := H.tb i hi
  obtain ⟨x0, y0, y1, y2, y3, y4⟩ := tb_cells H2
  rw [hl] at y1
  have HH := hid (st_thas x0)
  have HC := hid (st_counts w 1 (by decide) (by decide))
  clear H H2 hi
  go_enter Try.func48, Try.ntmps48
  go_wp2_with fail
  refine HH.out.mono ?_
  rintro e w1 ⟨rfl, rfl⟩
  clear HH
  go_wp2_with fail
  refine HC.out.mono ?_
  rintro e w1 ⟨rfl, rfl⟩
  clear HC
  go_wp2_with fail
  go_ret2
  exact ⟨rfl, rfl⟩
set_option maxHeartbeats 1600000 in
theorem st_thello_old (H : St W w R) (i : Nat) {T : Nat} {d : Dk} (hi : R[i]? = some (TbT T d)) (hl : d.life = 1) :
    Calls Try.prog 48 #[ptr T, .int .i64 0, .int .i64 1] w fun e w' => e = .returned (.tuple #[.int .i64 1, .int .i64 d.ses]) ∧ Fr [] w w' := by
  obtain ⟨g, cap, hc, H2⟩ := H.tb i hi
  obtain ⟨x0, y0, y1, y2, y3, y4⟩ := tb_cells H2
  rw [hl] at y1
  have HH := hid (st_thas x0)
  have HC := hid (st_counts w 1 (by decide) (by decide))
  have HK := hid (show ∀ wx, Fr [] w wx → wx.cell? ⟨T, 0, none⟩ = some (tbS g cap) ∧ wx.cell? ⟨g, 2, none⟩ = some (.int .i64 d.ses) from fun wx hF => ⟨hF.cell0 x0, hF.cell0 y2⟩)
  clear H H2 hi
  go_enter Try.func48, Try.ntmps48
  go_wp2_with fail
  refine HH.out.mono ?_
  rintro e w1 ⟨rfl, rfl⟩
  clear HH
  go_wp2_with fail
  refine HC.out.mono ?_
  rintro e w1 ⟨rfl, rfl⟩
  clear HC
  go_wp2_with fail
  refine wp_region_calm (S := fun wx : World => Fr [] w wx) (by kernel_rfl) (by kernel_rfl) ((Fr.refl _ _).drew) ?_
  repeat (first | (refine calmRow_free (v := ?_) rfl ?_ ?_; rotate_left; (focus (intro wx hSx; (try dsimp only at hSx); have hcx := HK.out wx hSx; go_simp; (first | with_reducible rfl | exact ⟨rfl, hSx⟩ | fail))); (try simp only [Act.put, List.setIfInBounds_toArray, List.set_cons_zero, List.set_cons_succ])) | (refine calmRow_skip ?_ ?_; (focus (go_simp; (try (intro hx; cases hx)); done)); (try simp only [Act.put, List.setIfInBounds_toArray, List.set_cons_zero, List.set_cons_succ])) | (refine calmRow_take (v := ?_) ?_ ?_ ?_; rotate_left; (focus (go_simp; done)); (focus (intro wx hSx; (try dsimp only at hSx); have hcx := HK.out wx hSx; go_simp; (first | with_reducible rfl | exact ⟨rfl, hSx⟩ | fail))); (try simp only [Act.put, List.setIfInBounds_toArray, List.set_cons_zero, List.set_cons_succ])))
  refine calmRow_nil ?_
  intro w2 hFx
  try dsimp only at hFx
  go_wp2_with fail
  go_ret2
  exact ⟨rfl, hFx⟩

set_option maxHeartbeats 3200000 in
theorem st_topen (H : St W w R) (i : Nat) {T : Nat} {d : Dk} (hi : R[i]? = some (TbT T d)) (hl : d.life = 0) (s : Int) (h1 : 1 ≤ s) (h2 : s ≤ 1099511627776) :
    Calls Try.prog 49 #[ptr T, .int .i64 0, .int .i64 1, .int .i64 s] w fun e w' => e = .returned (.int .i64 0) ∧ St W w' (R.set i (TbT T ⟨1, s, 0, ⟨#[]⟩⟩)) := by
  have hil := hid (lt_of_get hi)
  obtain ⟨g, cap, hc, H2⟩ := H.tb i hi
  obtain ⟨x0, y0, y1, y2, y3, y4⟩ := tb_cells H2
  obtain ⟨f0, f1, f2, f3, f4⟩ := tb_free H2
  rw [hl] at y1
  have HH := hid (st_thas x0)
  have HC := hid (st_counts w 1 (by decide) (by decide))
  have HC2 := hid (st_counts w s h1 h2)
  have HE := hid (St.obBack hil.out (((((H2.tbSet 0 (.int .i64 0)).tbSet 1 (.int .i64 1)).tbSet 2 (.int .i64 s)).tbSet 3 (.int .i64 0)).tbSet 4 (.string ⟨#[]⟩)))
  clear H H2 hi
  go_enter Try.func49, Try.ntmps49
  go_wp2_with fail
  refine HH.out.mono ?_
  rintro e w1 ⟨rfl, rfl⟩
  clear HH
  go_wp2_with fail
  refine HC.out.mono ?_
  rintro e w1 ⟨rfl, rfl⟩
  clear HC
  go_wp2_with fail
  refine HC2.out.mono ?_
  rintro e w1 ⟨rfl, rfl⟩
  clear HC2
  go_wp2_with fail
  go_ret
  exact ⟨rfl, HE.out⟩
end

end Go.Proofs.Ytkiccbjngokpjaa

/-
  session: Ask and Answer of a table, NewTable.
-/
namespace Go.Proofs.Ytkiccbjngokpjaa
open Go.RowKit
set_option linter.unusedVariables false
set_option linter.unusedSimpArgs false

section
variable {W : Base} {w : World} {R : List Thing}
set_option maxHeartbeats 1600000 in
theorem st_task_dead (H : St W w R) (i : Nat) {T : Nat} {d : Dk} (hi : R[i]? = some (TbT T d)) (hl : d.life = 0) (s n : Int) :
    Calls Try.prog 50 #[ptr T, .int .i64 0, .int .i64 1, .int .i64 s, .int .i64 n] w fun e w' => e = .returned (.tuple #[.int .i64 1, .string ⟨#[]⟩]) ∧ St W w' R := by
  obtain ⟨g, cap, hc, H2⟩ := H.tb i hi
  obtain ⟨x0, y0, y1, y2, y3, y4⟩ := tb_cells H2
  have hgT := World.block_lt_of_cell? _ _ x0
  have hgg := World.block_lt_of_cell? _ _ y0
  rw [hl] at y1
  have HH := hid (st_thas x0)
  have HR := hid H
  clear H H2 hi
  go_enter Try.func50, Try.ntmps50
  go_wp2_with fail
  refine HH.out.mono ?_
  rintro e w1 ⟨rfl, rfl⟩
  clear HH
  go_wp2_with fail
  go_ret2
  exact ⟨rfl, HR.out.alloc_ _⟩
set_option maxHeartbeats 1600000 in
theorem st_task_stale (H : St W w R) (i : Nat) {T : Nat} {d : Dk} (hi : R[i]? = some (TbT T d)) (hl : d.life = 1) {s n : Int} (hs : (d.ses == s) = false) :
    Calls Try.prog 50 #[ptr T, .int .i64 0, .int .i64 1, .int .i64 s, .int .i64 n] w fun e w' => e = .returned (.tuple #[.int .i64 1, .string ⟨#[]⟩]) ∧ St W w' R := by
  have hb : (d.ses != s) = true := by unfold bne; rw [hs]; rfl
  obtain ⟨g, cap, hc, H2⟩ := H.tb i hi
  obtain ⟨x0, y0, y1, y2, y3, y4⟩ := tb_cells H2
  have hgT := World.block_lt_of_cell? _ _ x0
  have hgg := World.block_lt_of_cell? _ _ y0
  rw [hl] at y1
  have HH := hid (st_thas x0)
  have HR := hid H
  clear H H2 hi
  go_enter Try.func50, Try.ntmps50
  go_wp2_with fail
  refine HH.out.mono ?_
  rintro e w1 ⟨rfl, rfl⟩
  clear HH
  go_wp2_with fail
  go_ret2
  exact ⟨rfl, HR.out.alloc_ _⟩
set_option maxHeartbeats 1600000 in
theorem st_task_new (H : St W w R) (i : Nat) {T : Nat} {d : Dk} (hi : R[i]? = some (TbT T d)) (hl : d.life = 1) {s n : Int} (hs : (d.ses == s) = true) (hn : ¬ n < 1) (h1 : (n == d.last) = false) (l1 : Int) (hl1 : wrap64 (d.last + 1) = l1) (h2 : (n == l1) = true) :
    Calls Try.prog 50 #[ptr T, .int .i64 0, .int .i64 1, .int .i64 s, .int .i64 n] w fun e w' => e = .returned (.tuple #[.int .i64 3, .string ⟨#[]⟩]) ∧ St W w' R := by
  have hb : (d.ses != s) = false := by unfold bne; rw [hs]; rfl
  obtain ⟨g, cap, hc, H2⟩ := H.tb i hi
  obtain ⟨x0, y0, y1, y2, y3, y4⟩ := tb_cells H2
  have hgT := World.block_lt_of_cell? _ _ x0
  have hgg := World.block_lt_of_cell? _ _ y0
  rw [hl] at y1
  have HH := hid (st_thas x0)
  have HR := hid H
  clear H H2 hi
  go_enter Try.func50, Try.ntmps50
  go_wp2_with fail
  refine HH.out.mono ?_
  rintro e w1 ⟨rfl, rfl⟩
  clear HH
  go_wp2_with fail
  go_ret2
  exact ⟨rfl, HR.out.alloc_ _⟩
set_option maxHeartbeats 1600000 in
theorem st_task_pass (H : St W w R) (i : Nat) {T : Nat} {d : Dk} (hi : R[i]? = some (TbT T d)) (hl : d.life = 1) {s n : Int} (hs : (d.ses == s) = true) (hn : ¬ n < 1) (h1 : (n == d.last) = false) (l1 : Int) (hl1 : wrap64 (d.last + 1) = l1) (h2 : (n == l1) = false) :
    Calls Try.prog 50 #[ptr T, .int .i64 0, .int .i64 1, .int .i64 s, .int .i64 n] w fun e w' => e = .returned (.tuple #[.int .i64 0, .string ⟨#[]⟩]) ∧ St W w' R := by
  have hb : (d.ses != s) = false := by unfold bne; rw [hs]; rfl
  obtain ⟨g, cap, hc, H2⟩ := H.tb i hi
  obtain ⟨x0, y0, y1, y2, y3, y4⟩ := tb_cells H2
  have hgT := World.block_lt_of_cell? _ _ x0
  have hgg := World.block_lt_of_cell? _ _ y0
  rw [hl] at y1
  have HH := hid (st_thas x0)
  have HR := hid H
  clear H H2 hi
  go_enter Try.func50, Try.ntmps50
  go_wp2_with fail
  refine HH.out.mono ?_
  rintro e w1 ⟨rfl, rfl⟩
  clear HH
  go_wp2_with fail
  go_ret2
  exact ⟨rfl, HR.out.alloc_ _⟩
set_option maxHeartbeats 1600000 in
theorem st_task_again (H : St W w R) (i : Nat) {T : Nat} {d : Dk} (hi : R[i]? = some (TbT T d)) (hl : d.life = 1) {s n : Int} (hs : (d.ses == s) = true) (hn : ¬ n < 1) (h1 : (n == d.last) = true) :
    Calls Try.prog 50 #[ptr T, .int .i64 0, .int .i64 1, .int .i64 s, .int .i64 n] w fun e w' => e = .returned (.tuple #[.int .i64 2, .string d.rep]) ∧ St W w' R := by
  have hb : (d.ses != s) = false := by unfold bne; rw [hs]; rfl
  obtain ⟨g, cap, hc, H2⟩ := H.tb i hi
  obtain ⟨x0, y0, y1, y2, y3, y4⟩ := tb_cells H2
  have hgT := World.block_lt_of_cell? _ _ x0
  have hgg := World.block_lt_of_cell? _ _ y0
  rw [hl] at y1
  have HH := hid (st_thas x0)
  have HR := hid H
  clear H H2 hi
  go_enter Try.func50, Try.ntmps50
  go_wp2_with fail
  refine HH.out.mono ?_
  rintro e w1 ⟨rfl, rfl⟩
  clear HH
  go_wp2_with fail
  have H4 := HR.out.allocAt (.cells #[.int .i64 0, .int .i64 1, .int .i64 d.ses, .int .i64 d.last, .string d.rep] 149) w.heap.size rfl
  clear HR
  generalize w.alloc (.cells #[.int .i64 0, .int .i64 1, .int .i64 d.ses, .int .i64 d.last, .string d.rep] 149) = w4 at H4 ⊢
  generalize w.heap.size = pm at H4 ⊢
  have b4 := H4.blk _ (get_behind _ _ 0)
  have HK := hid (show ∀ wx, Fr [] w4 wx → wx.cell? ⟨pm, 4, none⟩ = some (.string d.rep) from fun wx hF => cell_blk (i := 4) (hF.keep b4 (by simp)) rfl)
  have H4 := hid H4
  clear b4
  refine wp_region_calm (S := fun wx : World => Fr [] w4 wx) (by kernel_rfl) (by kernel_rfl) ((Fr.refl _ _).drew) ?_
  repeat (first | (refine calmRow_free (v := ?_) rfl ?_ ?_; rotate_left; (focus (intro wx hSx; (try dsimp only at hSx); have hcx := HK.out wx hSx; go_simp; (first | with_reducible rfl | exact ⟨rfl, hSx⟩ | fail))); (try simp only [Act.put, List.setIfInBounds_toArray, List.set_cons_zero, List.set_cons_succ])) | (refine calmRow_skip ?_ ?_; (focus (go_simp; (try (intro hx; cases hx)); done)); (try simp only [Act.put, List.setIfInBounds_toArray, List.set_cons_zero, List.set_cons_succ])) | (refine calmRow_take (v := ?_) ?_ ?_ ?_; rotate_left; (focus (go_simp; done)); (focus (intro wx hSx; (try dsimp only at hSx); have hcx := HK.out wx hSx; go_simp; (first | with_reducible rfl | exact ⟨rfl, hSx⟩ | fail))); (try simp only [Act.put, List.setIfInBounds_toArray, List.set_cons_zero, List.set_cons_succ])))
  refine calmRow_nil ?_
  intro w5 hFx
  try dsimp only at hFx
  go_wp2_with fail
  go_ret2
  exact ⟨rfl, H4.out.drop.same hFx⟩

set_option maxHeartbeats 1600000 in
theorem st_tanswer (H : St W w R) (i : Nat) {T : Nat} {d : Dk} (hi : R[i]? = some (TbT T d)) (hl : d.life = 1) (h1 : (d.last == 1099511627776) = false) (l1 : Int) (hl1 : wrap64 (d.last + 1) = l1) (b : ByteArray) :
    Calls Try.prog 51 #[ptr T, .int .i64 0, .string b] w fun e w' => e = .returned (.int .i64 0) ∧ St W w' (R.set i (TbT T ⟨1, d.ses, l1, b⟩)) := by
  have hil := hid (lt_of_get hi)
  obtain ⟨g, cap, hc, H2⟩ := H.tb i hi
  obtain ⟨x0, y0, y1, y2, y3, y4⟩ := tb_cells H2
  obtain ⟨f0, f1, f2, f3, f4⟩ := tb_free H2
  have HH := hid (st_thas x0)
  have HE := hid (show St W ((w.setCell ⟨g, 3, none⟩ (.int .i64 l1)).setCell ⟨g, 4, none⟩ (.string b)) (R.set i (TbT T ⟨1, d.ses, l1, b⟩)) from by
    have h := (H2.tbSet 3 (.int .i64 l1)).tbSet 4 (.string b)
    rw [show (d.f.set 3 (.int .i64 l1)).set 4 (.string b) = Dk.f ⟨1, d.ses, l1, b⟩ from by simp [Dk.f, hl]] at h
    exact St.obBack hil.out h)
  rw [hl] at y1
  clear H H2 hi
  go_enter Try.func51, Try.ntmps51
  go_wp2_with fail
  refine HH.out.mono ?_
  rintro e w1 ⟨rfl, rfl⟩
  clear HH
  go_wp2_with fail
  rw [hl1]
  go_ret
  exact ⟨rfl, HE.out⟩

theorem info_dk : (Try.prog.info? 149).map (fun i => (i.zero, i.size, i.bytes)) = some (some (.agg #[.int .i64 0, .int .i64 0, .int .i64 0, .int .i64 0, .string ByteArray.empty]), 5, 48) := by kernel_rfl
set_option maxHeartbeats 3200000 in
theorem st_tnew (H : St W w R) :
    Calls Try.prog 38 #[.int .i64 1] w fun e w' => ∃ T, e = .returned (.tuple #[ptr T, .int .i64 0]) ∧ St W w' (R ++ [TbT T ⟨0, 0, 0, ⟨#[]⟩⟩]) := by
  have H1 := hid (show St W (w.alloc (tbO (.slice none 0 0))) (R ++ obL w.heap.size tbO 149 5 0 [] (.slice none 0 0)) from by
    have h := (H.alloc (tbO (.slice none 0 0))).nilRow 149 5
    rw [List.append_assoc] at h
    exact h)
  clear H
  go_enter Try.func38, Try.ntmps38
  go_wp2_with fail
  generalize w.alloc (tbO (.slice none 0 0)) = w1 at H1 ⊢
  generalize w.heap.size = T at H1 ⊢
  obtain ⟨i0, hi0, hz0, hz1, hz2⟩ := info_parts info_dk
  have HI := hid (And.intro hi0 (And.intro hz0 (And.intro hz1 hz2)))
  clear hi0 hz0 hz1 hz2
  go_loopw [15] (fun iv wr => (iv = .int .i64 0 ∧ Hid (St W wr (R ++ obL T tbO 149 5 0 [] (.slice none 0 0)))) ∨ (iv = .int .i64 1 ∧ Hid (St W wr (R ++ [TbT T ⟨0, 0, 0, ⟨#[]⟩⟩])))) (fun iv _ => 1 - (intOf iv).toNat)
  case atStart => exact .inl ⟨rfl, H1⟩
  case round =>
    rcases hrel with ⟨rfl, H2⟩ | ⟨rfl, H2⟩
    · have x0 := cell_blk (i := 0) (H2.out.blk _ (get_behind _ _ 0)) rfl
      have HB := hid (show St W (wr.alloc (.cells #[.int .i64 0, .int .i64 0, .int .i64 0, .int .i64 0, .string ⟨#[]⟩] 149)) (R ++ (obL T tbO 149 5 0 [] (.slice none 0 0) ++ [BlkT wr.heap.size (.cells #[.int .i64 0, .int .i64 0, .int .i64 0, .int .i64 0, .string ⟨#[]⟩] 149)])) from by
        have h := H2.out.alloc (.cells #[.int .i64 0, .int .i64 0, .int .i64 0, .int .i64 0, .string ⟨#[]⟩] 149)
        rwa [List.append_assoc] at h)
      clear H1
      go_wp2_with (at_builtin; refine wpAdded HB.out (R.length + 1) rfl (.tmp 22) (.tmp 25) 145 rfl 149 i0 (.agg #[.int .i64 0, .int .i64 0, .int .i64 0, .int .i64 0, .string ByteArray.empty]) 5 48 Try.underlying145 HI.out.1 HI.out.2.1 HI.out.2.2.1 HI.out.2.2.2 rfl (by decide) (.slice none 0 0) 0 [] (by rw [get_behind]; rfl) rfl (some ⟨wr.heap.size, 0, none⟩) 1 1 (fun q => (Dk.f ⟨0, 0, 0, ⟨#[]⟩⟩).getD q undef) rfl (HB.out.blkIn (R.length + 2) 5 1 rfl (by decide) (by rw [get_behind]; rfl)) (fun j hj => by (obtain rfl | rfl | rfl | rfl | rfl : j = 0 ∨ j = 1 ∨ j = 2 ∨ j = 3 ∨ j = 4 := by omega) <;> rfl) (by unfold maxLen; omega) (by omega) ?_)
      intro a5 c5 w5 H5
      have H5 : St W w5 (R ++ [BlkT T (tbO (.slice none 0 0)), RowT 149 5 (.slice a5 (0 + 1) c5) (0 + 1) (Dk.f ⟨0, 0, 0, ⟨#[]⟩⟩), BlkT wr.heap.size (.cells #[.int .i64 0, .int .i64 0, .int .i64 0, .int .i64 0, .string ⟨#[]⟩] 149)]) := H5
      have b5 := H5.blk _ (get_behind _ _ 0)
      have z0 := cell_blk (i := 0) b5 rfl
      have k0 := free_blk (i := 0) b5
      have H6 := hid (show St W (w5.setCell ⟨T, 0, none⟩ (.slice a5 (0 + 1) c5)) (R ++ [TbT T ⟨0, 0, 0, ⟨#[]⟩⟩]) from by
        have h := H5.setBlk _ (get_behind _ _ 0) 0 (.slice a5 (0 + 1) c5)
        rw [set_bh] at h
        have h2 : St W (w5.setCell ⟨T, 0, none⟩ (.slice a5 (0 + 1) c5)) ((R ++ obL T tbO 149 5 1 (Dk.f ⟨0, 0, 0, ⟨#[]⟩⟩) (.slice a5 (0 + 1) c5)) ++ [BlkT wr.heap.size (.cells #[.int .i64 0, .int .i64 0, .int .i64 0, .int .i64 0, .string ⟨#[]⟩] 149)]) := by
          rw [List.append_assoc]; exact h
        exact St.obEnd h2.drop)
      clear H5 b5 HB x0 H2
      go_wp2_with fail
      refine ⟨.inr ⟨rfl, H6⟩, ?_⟩
      decide
    · clear H1
      go_wp2_with fail
      go_ret2
      exact ⟨_, rfl, H2.out⟩
end

end Go.Proofs.Ytkiccbjngokpjaa

/-
  the pair of top: messages; the pair's block; sends, newPair.
-/
namespace Go.Proofs.Ytkiccbjngokpjaa
open Go.RowKit
set_option linter.unusedVariables false
set_option linter.unusedSimpArgs false

/-! ### Messages -/
def mSN (k : Int) (s n : Nat) : MV := { MV.of k with ses := s, num := n }
def mBeat (s n : Nat) : MV := { MV.of 3 with ses := s, num := n, bad := 1 }
def mWel (s : Nat) : MV := { MV.of 7 with ses := s }
theorem mSN_ok {k : Int} {s n : Nat} (hk : k = 2 ∨ k = 8 ∨ k = 10 ∨ k = 11) (h1 : 1 ≤ s) (h2 : s ≤ 1099511627776) (h3 : 1 ≤ n) (h4 : n ≤ 1099511627776) : (mSN k s n).Ok := by
  have hkk : (mSN k s n).kind = k := rfl
  refine ⟨by rw [hkk]; omega, by rw [hkk]; omega, by rcases hk with rfl | rfl | rfl | rfl <;> rfl, fun h => by have := hkk.symm.trans h.1; omega, fun f hf => ?_⟩
  have hl : fdsOf (mSN k s n).kind = [fS, fN] := by rcases hk with rfl | rfl | rfl | rfl <;> rfl
  rw [hl] at hf
  simp at hf
  rcases hf with rfl | rfl
  · simp [Fd.may, MV.int, mSN, MV.of]; omega
  · simp [Fd.may, MV.int, mSN, MV.of]; omega
theorem mBeat_ok {s n : Nat} (h1 : 1 ≤ s) (h2 : s ≤ 1099511627776) (h3 : 1 ≤ n) (h4 : n ≤ 1099511627776) : (mBeat s n).Ok := by
  have hk : (mBeat s n).kind = 3 := rfl
  refine ⟨by rw [hk]; decide, by rw [hk]; decide, rfl, fun h => absurd (hk.symm.trans h.1) (by decide), fun f hf => ?_⟩
  have hl : fdsOf (mBeat s n).kind = [fS, fN, fB] := rfl
  rw [hl] at hf
  simp at hf
  rcases hf with rfl | rfl | rfl
  · simp [Fd.may, MV.int, mBeat, MV.of]; omega
  · simp [Fd.may, MV.int, mBeat, MV.of]; omega
  · simp [Fd.may, MV.int, mBeat, MV.of]
theorem mWel_ok {s : Nat} (h1 : 1 ≤ s) (h2 : s ≤ 1099511627776) : (mWel s).Ok := by
  have hk : (mWel s).kind = 7 := rfl
  refine ⟨by rw [hk]; decide, by rw [hk]; decide, rfl, fun h => absurd (hk.symm.trans h.1) (by decide), fun f hf => ?_⟩
  have hl : fdsOf (mWel s).kind = [fS] := rfl
  rw [hl] at hf
  simp at hf
  rcases hf with rfl
  simp [Fd.may, MV.int, mWel, MV.of]; omega
theorem mHello_ok : (MV.of 1).Ok := by
  have hk : (MV.of 1).kind = 1 := rfl
  refine ⟨by rw [hk]; decide, by rw [hk]; decide, rfl, fun h => absurd (hk.symm.trans h.1) (by decide), fun f hf => ?_⟩
  have hl : fdsOf (MV.of 1).kind = [] := rfl
  rw [hl] at hf
  cases hf
def mReq (b : Bool) (s n : Nat) : MV := if b then mBeat s n else mSN 2 s n
def mRep (b : Bool) (s n : Nat) : MV := mSN (if b then 11 else 10) s n
def Pq.m : Pq → MV
  | .hello => MV.of 1
  | .req b s n => mReq b s n
  | .welcome s => mWel s
  | .stale s n => mSN 8 s n
  | .reply b s n => mRep b s n
def Cq.m : Cq → MV
  | .idle => MV.of 0
  | .hello => MV.of 1
  | .req b s n => mReq b s n
/-- The numbers of a message are small. -/
def Pq.fits : Pq → Prop
  | .hello => True
  | .req b s n => (1 ≤ s ∧ s ≤ 1099511627776) ∧ 1 ≤ n ∧ n ≤ 1099511627776
  | .welcome s => 1 ≤ s ∧ s ≤ 1099511627776
  | .stale s n => (1 ≤ s ∧ s ≤ 1099511627776) ∧ 1 ≤ n ∧ n ≤ 1099511627776
  | .reply b s n => (1 ≤ s ∧ s ≤ 1099511627776) ∧ 1 ≤ n ∧ n ≤ 1099511627776
theorem Pq.fits.ok {p : Pq} (h : p.fits) : p.m.Ok := by
  cases p with
  | hello => exact mHello_ok
  | req b s n =>
    obtain ⟨⟨h1, h2⟩, h3, h4⟩ := h
    cases b
    · exact mSN_ok (.inl rfl) h1 h2 h3 h4
    · exact mBeat_ok h1 h2 h3 h4
  | welcome s => exact mWel_ok h.1 h.2
  | stale s n => exact mSN_ok (.inr (.inl rfl)) h.1.1 h.1.2 h.2.1 h.2.2
  | reply b s n =>
    obtain ⟨⟨h1, h2⟩, h3, h4⟩ := h
    cases b
    · exact mSN_ok (.inr (.inr (.inl rfl))) h1 h2 h3 h4
    · exact mSN_ok (.inr (.inr (.inr rfl))) h1 h2 h3 h4

/-! ### A pair -/
abbrev prO (C T N : Nat) (us ac an : Int) : Obj := .cells #[ptr C, ptr T, ptr N, .int .i64 us, .int .i64 ac, .int .i64 an, .bool false] 49
abbrev clC (c : Cl) : Obj := clO c.u.m c.timer c.res c.ses c.gre c.last
def Tb.dk (t : Tb) : Dk := ⟨if t.live then 1 else 0, t.ses, t.last, if t.live then (if t.last = 0 then ⟨#[]⟩ else (mRep t.rb t.ses t.last).enc) else ⟨#[]⟩⟩

section
variable {W : Base} {w : World} {R : List Thing}
set_option maxHeartbeats 3200000 in
set_option maxRecDepth 100000 in
theorem st_psends (H : St W w R) (i j : Nat) {X : Nat} {C T N : Nat} {us ac an : Int} (hi : R[i]? = some (BlkT X (prO C T N us ac an))) {bag : List Dg} {sn : Int} (hj : R[j]? = some (NtT N bag sn)) (hbl : bag.length ≤ 1073741824)
    (fn fl tn tl : Int) (m : MV) (hm : m.Ok) :
    Calls Try.prog 43 #[ptr X, adV fn fl, adV tn tl, .agg m.f.toArray] w fun e w' => e = .returned (.tuple #[]) ∧ St W w' (R.set j (NtT N (bag ++ [⟨nextN sn, fn, fl, tn, tl, m.enc⟩]) (nextN sn))) := by
  have H3 := ((H.alloc (ads fn fl)).allocAt (ads tn tl) (w.heap.size + 1) (by simp)).allocAt (mO m) (w.heap.size + 2) (by simp)
  simp only [List.append_assoc, List.cons_append, List.nil_append] at H3
  have hil := lt_of_get hi
  have hjl := hid (lt_of_get hj)
  have hj' : (R ++ [BlkT w.heap.size (ads fn fl), BlkT (w.heap.size + 1) (ads tn tl), BlkT (w.heap.size + 2) (mO m)])[j]? = some (NtT N bag sn) := by rw [List.getElem?_append_left hjl.out]; exact hj
  have HE := hid (st_wencode H3 m hm)
  have HS := hid (show ∀ (wx : World), St W wx (R ++ [BlkT w.heap.size (ads fn fl), BlkT (w.heap.size + 1) (ads tn tl), BlkT (w.heap.size + 2) (mO m)]) → wx.cell? ⟨X, 2, none⟩ = some (ptr N) ∧ (wx.cell? ⟨w.heap.size, 0, none⟩ = some (.int .i64 fn) ∧ wx.cell? ⟨w.heap.size, 1, none⟩ = some (.int .i64 fl)) ∧ wx.cell? ⟨w.heap.size + 1, 0, none⟩ = some (.int .i64 tn) ∧ wx.cell? ⟨w.heap.size + 1, 1, none⟩ = some (.int .i64 tl) from fun wx h => by
    have b0 := h.blk i (by rw [List.getElem?_append_left hil]; exact hi)
    have b1 := h.blk _ (get_behind _ _ 0)
    have b2 := h.blk _ (get_behind _ _ 1)
    exact ⟨cell_blk (i := 2) b0 rfl, ⟨cell_blk (i := 0) b1 rfl, cell_blk (i := 1) b1 rfl⟩, cell_blk (i := 0) b2 rfl, cell_blk (i := 1) b2 rfl⟩)
  have HN := hid (fun (wx : World) (h : St W wx (R ++ [BlkT w.heap.size (ads fn fl), BlkT (w.heap.size + 1) (ads tn tl), BlkT (w.heap.size + 2) (mO m)])) => st_nsend h j hj' fn fl tn tl m.enc hbl)
  have b3 := H3.blk _ (get_behind _ _ 2)
  obtain ⟨m0, m1, m2, m3, m4, m5, m6, m7, m8, m9, m10⟩ := msg_cells b3
  clear H H3 hi hj hil hj' hbl hm b3
  dsimp only [MV.f] at HE ⊢
  go_enter Try.func43, Try.ntmps43
  go_wp2_with fail
  refine HE.out.mono ?_
  rintro e w1 ⟨rfl, H4⟩
  clear HE m0 m1 m2 m3 m4 m5 m6 m7 m8 m9 m10
  have H4 := hid H4
  go_wp2_with fail
  refine wp_region_U (S := fun wx : World => wx.cell? ⟨X, 2, none⟩ = some (ptr N) ∧ (wx.cell? ⟨w.heap.size, 0, none⟩ = some (.int .i64 fn) ∧ wx.cell? ⟨w.heap.size, 1, none⟩ = some (.int .i64 fl)) ∧ wx.cell? ⟨w.heap.size + 1, 0, none⟩ = some (.int .i64 tn) ∧ wx.cell? ⟨w.heap.size + 1, 1, none⟩ = some (.int .i64 tl)) 7 (by kernel_rfl) (HS.out _ (H4.out.same ((Fr.refl _ _).drew))) (fun hHeld => ?_)
  refine takeU (i := 0) (d := 20) (v := ?_) rfl rfl (by kernel_rfl) (by kernel_rfl) (by kernel_rfl) (by kernel_rfl) (by kernel_rfl) (fun _ _ _ h => h) (Or.inl ⟨by rfl, ?_⟩) hHeld ?_
  rotate_left
  · intro wq hSw; (try dsimp only at hSw); go_simp; all_goals (with_reducible rfl)
  simp only [Act.put, List.setIfInBounds_toArray, List.set_cons_zero, List.set_cons_succ]
  refine takeU (i := 1) (d := 21) (v := ?_) rfl rfl (by kernel_rfl) (by kernel_rfl) (by kernel_rfl) (by kernel_rfl) (by kernel_rfl) (fun _ _ _ h => h) (Or.inl ⟨by rfl, ?_⟩) hHeld ?_
  rotate_left
  · intro wq hSw; (try dsimp only at hSw); go_simp; all_goals (with_reducible rfl)
  simp only [Act.put, List.setIfInBounds_toArray, List.set_cons_zero, List.set_cons_succ]
  refine takeU (i := 2) (d := 22) (v := ?_) rfl rfl (by kernel_rfl) (by kernel_rfl) (by kernel_rfl) (by kernel_rfl) (by kernel_rfl) (fun _ _ _ h => h) (Or.inl ⟨by rfl, ?_⟩) hHeld ?_
  rotate_left
  · intro wq hSw; (try dsimp only at hSw); go_simp; all_goals (with_reducible rfl)
  simp only [Act.put, List.setIfInBounds_toArray, List.set_cons_zero, List.set_cons_succ]
  refine takeU (i := 3) (d := 23) (v := ?_) rfl rfl (by kernel_rfl) (by kernel_rfl) (by kernel_rfl) (by kernel_rfl) (by kernel_rfl) (fun _ _ _ h => h) (Or.inl ⟨by rfl, ?_⟩) hHeld ?_
  rotate_left
  · intro wq hSw; (try dsimp only at hSw); go_simp; all_goals (with_reducible rfl)
  simp only [Act.put, List.setIfInBounds_toArray, List.set_cons_zero, List.set_cons_succ]
  refine takeU (i := 4) (d := 24) (v := ?_) rfl rfl (by kernel_rfl) (by kernel_rfl) (by kernel_rfl) (by kernel_rfl) (by kernel_rfl) (fun _ _ _ h => h) (Or.inl ⟨by rfl, ?_⟩) hHeld ?_
  rotate_left
  · intro wq hSw; (try dsimp only at hSw); go_simp; all_goals (with_reducible rfl)
  simp only [Act.put, List.setIfInBounds_toArray, List.set_cons_zero, List.set_cons_succ]
  refine takeU (i := 5) (d := 25) (v := ?_) rfl rfl (by kernel_rfl) (by kernel_rfl) (by kernel_rfl) (by kernel_rfl) (by kernel_rfl) (fun _ _ _ h => h) (Or.inl ⟨by rfl, ?_⟩) hHeld ?_
  rotate_left
  · intro wq hSw; (try dsimp only at hSw); go_simp; all_goals (with_reducible rfl)
  simp only [Act.put, List.setIfInBounds_toArray, List.set_cons_zero, List.set_cons_succ]
  refine takeU (i := 6) (d := 26) (v := ?_) rfl rfl (by kernel_rfl) (by kernel_rfl) (by kernel_rfl) (by kernel_rfl) (by kernel_rfl) (fun _ _ _ h => h) (Or.inl ⟨by rfl, ?_⟩) hHeld ?_
  rotate_left
  · intro wq hSw; (try dsimp only at hSw); go_simp; all_goals (with_reducible rfl)
  simp only [Act.put, List.setIfInBounds_toArray, List.set_cons_zero, List.set_cons_succ]
  refine wpAnyU_ready (rs := [7]) (by kernel_rfl) (by simp) ?_
  refine AllReadyU.cons rfl (fun K hK => ?_) AllReadyU.nil
  go_simp
  go_at_call 30
  refine (HN.out _ (H4.out.same ((Fr.refl _ _).drew))).mono ?_
  rintro e w2 ⟨rfl, H5⟩
  have H5 := hid H5
  go_simp
  refine hK.out _ _ (fun h => absurd rfl h) (fun _ => ?_)
  clear hK K
  refine wpAnyU_done (by kernel_rfl) ?_ _
  clear hHeld
  go_wp2_with fail
  go_end0
  have h := H5.out
  rw [List.set_append_left _ _ hjl.out] at h
  exact ⟨rfl, h.drop⟩

set_option maxHeartbeats 3200000 in
theorem st_pnew (H : St W w R) (res : Int) (h1 : 1 ≤ res) (h2 : res ≤ 16) :
    Calls Try.prog 12 #[.int .i64 res] w fun e w' => ∃ X C T N, e = .returned (ptr X) ∧ St W w' (R ++ [NtT N [] 0, BlkT X (prO C T N 0 0 0), BlkT C (clO (MV.of 0) 0 res 0 0 0), TbT T ⟨0, 0, 0, ⟨#[]⟩⟩]) := by
  have HN := hid (st_nnew H)
  clear H
  have HC := hid (And.intro h1 h2)
  clear h1 h2
  go_enter Try.func12, Try.ntmps12
  go_wp2_with fail
  refine HN.out.mono ?_
  rintro e w1 ⟨N, rfl, H1⟩
  clear HN
  have H2 := hid (H1.alloc (.cells #[.pointer none, .pointer none, ptr N, .int .i64 0, .int .i64 0, .int .i64 0, .bool false] 49))
  clear H1
  go_wp2_with fail
  generalize w1.alloc (.cells #[.pointer none, .pointer none, ptr N, .int .i64 0, .int .i64 0, .int .i64 0, .bool false] 49) = w2 at H2 ⊢
  generalize w1.heap.size = X at H2 ⊢
  refine (st_cnew H2.out res HC.out.1 HC.out.2).mono ?_
  rintro e w3 ⟨C, rfl, H3⟩
  clear H2
  simp only [List.append_assoc, List.cons_append, List.nil_append] at H3
  have b3 := H3.blk _ (get_behind _ _ 1)
  have x0 := cell_blk (i := 0) b3 rfl
  have f0 := free_blk (i := 0) b3
  have H4 := H3.setBlk _ (get_behind _ _ 1) 0 (ptr C)
  rw [set_bh] at H4
  have H4 := hid H4
  clear H3 b3
  go_wp2_with fail
  refine (st_tnew H4.out).mono ?_
  rintro e w5 ⟨T, rfl, H5⟩
  clear H4 x0 f0
  simp only [List.append_assoc, List.set_cons_succ, List.set_cons_zero, List.cons_append, List.nil_append] at H5
  have b5 := H5.blk _ (get_behind _ _ 1)
  have x0 := cell_blk (i := 0) b5 rfl
  have x1 := cell_blk (i := 1) b5 rfl
  have f1 := free_blk (i := 1) b5
  have x2 := cell_blk (i := 2) b5 rfl
  have x6 := cell_blk (i := 6) b5 rfl
  have f6 := free_blk (i := 6) b5
  have H6 := H5.setBlk _ (get_behind _ _ 1) 1 (ptr T)
  rw [set_bh] at H6
  have H7 := H6.setBlk _ (get_behind _ _ 1) 6 (.bool false)
  rw [set_bh] at H7
  have H7 := hid H7
  clear H5 H6 b5
  go_wp2_with fail
  go_ret
  exact ⟨_, _, _, _, rfl, H7.out⟩
end

end Go.Proofs.Ytkiccbjngokpjaa

/-
  the pair of top: says, asks.
-/
namespace Go.Proofs.Ytkiccbjngokpjaa
open Go.RowKit
set_option linter.unusedVariables false
set_option linter.unusedSimpArgs false

def pkD (p : Int × Pq) : Dg := if p.2.isBack then ⟨p.1, 0, 0, 2, 1, p.2.m.enc⟩ else ⟨p.1, 2, 1, 0, 0, p.2.m.enc⟩
abbrev paL (X C T N : Nat) (x : Pm) : List Thing := [NtT N (x.bag.map pkD) x.sent, BlkT X (prO C T N x.used x.acted.length x.answered.length), BlkT C (clC x.c), TbT T x.t.dk]

section
variable {W : Base} {w : World}
theorem nt_send {N : Nat} (x : Pm) (p : Pq) : NtT N ((x.send p).bag.map pkD) (x.send p).sent = NtT N (x.bag.map pkD ++ [pkD (nextN x.sent, p)]) (nextN x.sent) := by
  simp only [Pm.send, List.map_append, List.map_cons, List.map_nil]
theorem Cq.m_pq {u : Cq} (h : u.isIdle = false) : u.m = u.pq.m := by
  cases u with
  | idle => cases h
  | hello => rfl
  | req b s n => rfl
theorem Cq.pq_front (u : Cq) : u.pq.isBack = false := by cases u <;> rfl
theorem Cq.kind_ne {u : Cq} (h : u.isIdle = false) : (u.m.kind == 0) = false := by
  cases u with
  | idle => cases h
  | hello => rfl
  | req b s n => cases b <;> rfl

set_option maxHeartbeats 3200000 in
set_option maxRecDepth 100000 in
theorem st_psays {X C T N : Nat} {x : Pm} (H : St W w (paL X C T N x)) (hb : x.bag.length ≤ 1073741824) (hf : x.c.u.pq.fits) :
    Calls Try.prog 16 #[ptr X] w fun e w' => e = .returned (.tuple #[]) ∧ St W w' (paL X C T N x.says) := by
  have x0 := cell_blk (i := 0) (H.blk 1 rfl) rfl
  rcases hd : x.c.isDue with _ | _
  · have hs : x.says = x := by unfold Pm.says; rw [hd]; rfl
    rw [hs]
    have HD := hid (st_cdue_no H 2 rfl (by
      unfold Cl.isDue at hd
      rcases hi : x.c.u.isIdle with _ | _
      · right
        refine ⟨Cq.kind_ne hi, ?_⟩
        rw [hi] at hd
        simp at hd
        omega
      · left
        rw [Cq.isIdle_iff.1 hi]
        rfl))
    clear H hd hs
    dsimp only [MV.f, MV.of] at HD
    go_enter Try.func16, Try.ntmps16
    go_wp2_with fail
    refine HD.out.mono ?_
    rintro e w1 ⟨rfl, H1⟩
    clear HD x0
    have H1 := hid H1
    go_wp2_with fail
    go_end0
    exact ⟨rfl, H1.out.alloc_ _⟩
  · have hs : x.says = Pm.send { x with c := x.c.said } x.c.u.pq := by unfold Pm.says; rw [hd]; rfl
    rw [hs]
    obtain ⟨hi, ht⟩ : x.c.u.isIdle = false ∧ x.c.timer = 0 := by
      unfold Cl.isDue at hd
      simpa using hd
    have hm := Cq.m_pq hi
    have HD := hid (st_cdue H 2 rfl (Cq.kind_ne hi) (by rw [ht]; decide))
    have HS := hid (fun (wx : World) (R : List Thing) (H : St W wx R) (i j : Nat) (hi : R[i]? = some (BlkT X (prO C T N x.used x.acted.length x.answered.length))) (hj : R[j]? = some (NtT N (x.bag.map pkD) x.sent)) => st_psends H i j hi hj (by rw [List.length_map]; exact hb) 2 1 0 0 x.c.u.pq.m hf.ok)
    have HE := hid (show pkD (nextN x.sent, x.c.u.pq) = ⟨nextN x.sent, 2, 1, 0, 0, x.c.u.pq.m.enc⟩ from by unfold pkD; rw [Cq.pq_front]; rfl)
    rw [hm] at HD
    clear H hd hs hf hb hi ht
    generalize hM : x.c.u.pq.m = m at HD HS HE hm
    have HC := hid hm
    clear hM hm
    dsimp only [MV.f] at HD HS
    go_enter Try.func16, Try.ntmps16
    go_wp2_with fail
    refine HD.out.mono ?_
    rintro e w1 ⟨rfl, H1⟩
    clear HD x0
    have y0 := cell_blk (i := 0) (H1.blk 1 rfl) rfl
    have H2 := hid (H1.alloc_ (mO m))
    clear H1
    dsimp only [mO, MV.f] at H2
    go_wp2_with fail
    refine (HS.out _ _ H2.out 1 0 rfl rfl).mono ?_
    rintro e w3 ⟨rfl, H3⟩
    clear H2 y0
    have H3 := hid H3
    go_wp2_with fail
    go_end0
    refine ⟨rfl, ?_⟩
    show St W _ (NtT N ((Pm.send { x with c := x.c.said } x.c.u.pq).bag.map pkD) (Pm.send { x with c := x.c.said } x.c.u.pq).sent :: _)
    rw [nt_send { x with c := x.c.said } x.c.u.pq, HE.out]
    show St W _ [NtT N (x.bag.map pkD ++ [⟨nextN x.sent, 2, 1, 0, 0, m.enc⟩]) (nextN x.sent), BlkT X (prO C T N x.used x.acted.length x.answered.length), BlkT C (clO x.c.u.m x.c.res x.c.res x.c.ses x.c.gre x.c.last), TbT T x.t.dk]
    rw [HC.out]
    exact H3.out

set_option maxHeartbeats 3200000 in
set_option maxRecDepth 100000 in
theorem st_pasks {X C T N : Nat} {x : Pm} (H : St W w (paL X C T N x)) (n : Int) (b : Bool) (hn : (Int.tmod n 2 == 0) = !b) (hl : x.c.last < 1099511627776) :
    Calls Try.prog 15 #[ptr X, .int .i64 n] w fun e w' => e = .returned (.tuple #[]) ∧ St W w' (paL X C T N (x.asks b)) := by
  have x0 := cell_blk (i := 0) (H.blk 1 rfl) rfl
  have hgX := World.block_lt_of_cell? _ _ x0
  have HB := hid (st_busy (H.blk 2 rfl))
  have HH := hid H
  have HSe := hid (fun (wx : World) (h : St W wx (paL X C T N x)) => st_session (h.blk 2 rfl))
  have HX := hid (fun (wx : World) (h : St W wx (paL X C T N x)) => cell_blk (i := 0) (h.blk 1 rfl) rfl)
  rcases hi : x.c.u.isIdle with _ | _
  · have hk := Cq.kind_ne hi
    have hs : x.asks b = x := by unfold Pm.asks Cl.asks; rw [hi]; rfl
    rw [hs]
    rw [hk] at HB
    clear H hi hk hs
    go_enter Try.func15, Try.ntmps15
    go_wp2_with fail
    refine HB.out.mono ?_
    rintro e w1 ⟨rfl, rfl⟩
    clear HB
    go_wp2_with fail
    refine bodyPost_ret (results_none rfl _ _ _) rfl ?_
    exact ⟨rfl, HH.out⟩
  · have hu := Cq.isIdle_iff.1 hi
    have hk : (x.c.u.m.kind == 0) = true := by rw [hu]; rfl
    have hk0 : x.c.u.m.kind = 0 := by rw [hu]; rfl
    rw [hk] at HB
    by_cases hs0 : x.c.ses = 0
    · have HQ := hid (show x.asks b = { x with c := { x.c with u := .hello, timer := 0, ses := 0, last := 0 } } from by unfold Pm.asks Cl.asks; rw [hi, if_pos rfl, if_pos hs0, ← hs0])
      have hg : max (x.c.gre : Int) 0 = x.c.gre := by omega
      have HHe := hid (fun (wx : World) (h : St W wx (paL X C T N x)) => st_chello h 2 rfl hk0 x.c.gre hg)
      have hse : ((x.c.ses : Int) == 0) = true := by rw [hs0]; rfl
      rw [HQ.out]
      clear H hi hk hk0 hu hs0 hg
      rcases b with _ | _
      · have hn2 : (Int.tmod n 2 == 0) = true := hn
        have hn3 : (Int.tmod n 2 != 0) = false := by unfold bne; rw [hn2]; rfl
        go_enter Try.func15, Try.ntmps15
        go_wp2_with fail
        refine HB.out.mono ?_
        rintro e w1 ⟨rfl, rfl⟩
        clear HB
        go_wp2_with fail
        have H1 := hid (HH.out.alloc_ (mO (MV.of 2)))
        dsimp only [mO, MV.of, MV.f] at H1
        refine (HSe.out _ H1.out).mono ?_
        rintro e w1 ⟨rfl, rfl⟩
        go_wp2_with fail
        refine (HHe.out _ H1.out).mono ?_
        rintro e w2 ⟨rfl, H2⟩
        have H2 := hid H2
        go_wp2_with fail
        go_end0
        exact ⟨rfl, H2.out⟩
      · have hn2 : (Int.tmod n 2 == 0) = false := hn
        have hn3 : (Int.tmod n 2 != 0) = true := by unfold bne; rw [hn2]; rfl
        go_enter Try.func15, Try.ntmps15
        go_wp2_with fail
        refine HB.out.mono ?_
        rintro e w1 ⟨rfl, rfl⟩
        clear HB
        go_wp2_with fail
        have H1 := hid (HH.out.alloc_ (mO { MV.of 3 with bad := 1 }))
        dsimp only [mO, MV.of, MV.f] at H1
        refine (HSe.out _ H1.out).mono ?_
        rintro e w1 ⟨rfl, rfl⟩
        go_wp2_with fail
        refine (HHe.out _ H1.out).mono ?_
        rintro e w2 ⟨rfl, H2⟩
        have H2 := hid H2
        go_wp2_with fail
        go_end0
        exact ⟨rfl, H2.out⟩
    · have hse : ((x.c.ses : Int) == 0) = false := by rw [beq_eq_false_iff_ne]; omega
      have hle : ((x.c.last : Int) == 1099511627776) = false := by rw [beq_eq_false_iff_ne]; omega
      have hw1 : wrap64 ((x.c.last : Int) + 1) = ((x.c.last + 1 : Nat) : Int) := by rw [IntWalk.wrap64_in _ (by omega)]; rfl
      have HQ := hid (show x.asks b = { x with c := { x.c with u := .req b x.c.ses (x.c.last + 1), timer := 0, last := x.c.last + 1 } } from by unfold Pm.asks Cl.asks; rw [hi, if_pos rfl, if_neg hs0])
      have HAs := hid (fun (m : MV) (h1 : ¬ m.kind < 2) (h2 : ¬ 4 < m.kind) (wx : World) (h : St W wx (paL X C T N x)) => st_cask h 2 rfl hk0 hse hle _ hw1 m h1 h2)
      rw [HQ.out]
      clear H hi hk hk0 hu hs0 hle hw1 hl
      rcases b with _ | _
      · have hn2 : (Int.tmod n 2 == 0) = true := hn
        have hn3 : (Int.tmod n 2 != 0) = false := by unfold bne; rw [hn2]; rfl
        go_enter Try.func15, Try.ntmps15
        go_wp2_with fail
        refine HB.out.mono ?_
        rintro e w1 ⟨rfl, rfl⟩
        clear HB
        go_wp2_with fail
        have H1 := hid (HH.out.allocAt (mO (MV.of 2)) w.heap.size rfl)
        have H1S := hid (HSe.out _ H1.out.drop)
        dsimp only [mO, MV.of, MV.f] at H1 H1S
        refine H1S.out.mono ?_
        rintro e w1 ⟨rfl, rfl⟩
        clear H1S
        generalize w.alloc _ = w2 at H1 ⊢
        generalize w.heap.size = pm at H1 ⊢
        go_wp2_with fail
        have HM := hid (fun (wx : World) (h : Fr [] w2 wx) => msg_cells (m := MV.of 2) ((H1.out.same h).blk 4 rfl))
        dsimp only [MV.of] at HM
        refine wp_region_U (S := fun wx : World => wx.cell? ⟨X, 0, none⟩ = some (ptr C) ∧ wx.cell? ⟨pm, 0, none⟩ = some (.int .i64 (MV.kind (MV.of 2))) ∧ wx.cell? ⟨pm, 1, none⟩ = some (.int .i64 0) ∧ wx.cell? ⟨pm, 2, none⟩ = some (.int .i64 0) ∧ wx.cell? ⟨pm, 3, none⟩ = some (.int .i64 0) ∧ wx.cell? ⟨pm, 4, none⟩ = some (.int .i64 (MV.bad (MV.of 2))) ∧ wx.cell? ⟨pm, 5, none⟩ = some (.int .i64 0) ∧ wx.cell? ⟨pm, 6, none⟩ = some (.int .i64 0) ∧ wx.cell? ⟨pm, 7, none⟩ = some (.int .i64 0) ∧ wx.cell? ⟨pm, 8, none⟩ = some (.int .u64 0) ∧ wx.cell? ⟨pm, 9, none⟩ = some (.string ⟨#[]⟩) ∧ wx.cell? ⟨pm, 10, none⟩ = some (.string ⟨#[]⟩)) 5 (by kernel_rfl) ⟨HX.out _ (H1.out.drop.same ((Fr.refl _ _).drew)), HM.out _ ((Fr.refl _ _).drew)⟩ (fun hHeld => ?_)
        dsimp only [MV.of] at hHeld
        refine takeU (i := 0) (d := 28) (v := ?_) rfl rfl (by kernel_rfl) (by kernel_rfl) (by kernel_rfl) (by kernel_rfl) (by kernel_rfl) (fun _ _ _ h => h) (Or.inl ⟨by rfl, ?_⟩) hHeld ?_
        rotate_left
        · intro wq hSw; (try dsimp only at hSw); go_simp; all_goals (with_reducible rfl)
        simp only [Act.put, List.setIfInBounds_toArray, List.set_cons_zero, List.set_cons_succ]
        refine takeU (i := 1) (d := 29) (v := ?_) rfl rfl (by kernel_rfl) (by kernel_rfl) (by kernel_rfl) (by kernel_rfl) (by kernel_rfl) (fun _ _ _ h => h) (Or.inl ⟨by rfl, ?_⟩) hHeld ?_
        rotate_left
        · intro wq hSw; (try dsimp only at hSw); go_simp; all_goals (with_reducible rfl)
        simp only [Act.put, List.setIfInBounds_toArray, List.set_cons_zero, List.set_cons_succ]
        refine takeU (i := 2) (d := 30) (v := ?_) rfl rfl (by kernel_rfl) (by kernel_rfl) (by kernel_rfl) (by kernel_rfl) (by kernel_rfl) (fun _ _ _ h => h) (Or.inl ⟨by rfl, ?_⟩) hHeld ?_
        rotate_left
        · intro wq hSw; (try dsimp only at hSw); go_simp; all_goals (with_reducible rfl)
        simp only [Act.put, List.setIfInBounds_toArray, List.set_cons_zero, List.set_cons_succ]
        refine takeU (i := 3) (d := 31) (v := ?_) rfl rfl (by kernel_rfl) (by kernel_rfl) (by kernel_rfl) (by kernel_rfl) (by kernel_rfl) (fun _ _ _ h => h) (Or.inl ⟨by rfl, ?_⟩) hHeld ?_
        rotate_left
        · intro wq hSw; (try dsimp only at hSw); go_simp; all_goals (with_reducible rfl)
        simp only [Act.put, List.setIfInBounds_toArray, List.set_cons_zero, List.set_cons_succ]
        refine takeU (i := 4) (d := 32) (v := ?_) rfl rfl (by kernel_rfl) (by kernel_rfl) (by kernel_rfl) (by kernel_rfl) (by kernel_rfl) (fun _ _ _ h => h) (Or.inl ⟨by rfl, ?_⟩) hHeld ?_
        rotate_left
        · intro wq hSw; (try dsimp only at hSw); go_simp; all_goals (with_reducible rfl)
        simp only [Act.put, List.setIfInBounds_toArray, List.set_cons_zero, List.set_cons_succ]
        refine wpAnyU_ready (rs := [5]) (by kernel_rfl) (by simp) ?_
        refine AllReadyU.cons rfl (fun K1 hK => ?_) AllReadyU.nil
        go_simp
        go_at_call 41
        refine (HAs.out (MV.of 2) (by decide) (by decide) _ (H1.out.drop.same ((Fr.refl _ _).drew))).mono ?_
        rintro e w4 ⟨rfl, H4⟩
        have H4 := hid H4
        go_simp
        refine hK.out _ _ (fun h => absurd rfl h) (fun _ => ?_)
        clear hK K1 hHeld
        refine wpAnyU_done (by kernel_rfl) ?_ _
        go_wp2_with fail
        go_end0
        exact ⟨rfl, H4.out⟩
      · have hn2 : (Int.tmod n 2 == 0) = false := hn
        have hn3 : (Int.tmod n 2 != 0) = true := by unfold bne; rw [hn2]; rfl
        go_enter Try.func15, Try.ntmps15
        go_wp2_with fail
        refine HB.out.mono ?_
        rintro e w1 ⟨rfl, rfl⟩
        clear HB
        go_wp2_with fail
        have H1 := hid (HH.out.allocAt (mO ({ MV.of 3 with bad := 1 })) w.heap.size rfl)
        have H1S := hid (HSe.out _ H1.out.drop)
        dsimp only [mO, MV.of, MV.f] at H1 H1S
        refine H1S.out.mono ?_
        rintro e w1 ⟨rfl, rfl⟩
        clear H1S
        generalize w.alloc _ = w2 at H1 ⊢
        generalize w.heap.size = pm at H1 ⊢
        go_wp2_with fail
        have HM := hid (fun (wx : World) (h : Fr [] w2 wx) => msg_cells (m := { MV.of 3 with bad := 1 }) ((H1.out.same h).blk 4 rfl))
        dsimp only [MV.of] at HM
        refine wp_region_U (S := fun wx : World => wx.cell? ⟨X, 0, none⟩ = some (ptr C) ∧ wx.cell? ⟨pm, 0, none⟩ = some (.int .i64 (MV.kind ({ MV.of 3 with bad := 1 }))) ∧ wx.cell? ⟨pm, 1, none⟩ = some (.int .i64 0) ∧ wx.cell? ⟨pm, 2, none⟩ = some (.int .i64 0) ∧ wx.cell? ⟨pm, 3, none⟩ = some (.int .i64 0) ∧ wx.cell? ⟨pm, 4, none⟩ = some (.int .i64 (MV.bad ({ MV.of 3 with bad := 1 }))) ∧ wx.cell? ⟨pm, 5, none⟩ = some (.int .i64 0) ∧ wx.cell? ⟨pm, 6, none⟩ = some (.int .i64 0) ∧ wx.cell? ⟨pm, 7, none⟩ = some (.int .i64 0) ∧ wx.cell? ⟨pm, 8, none⟩ = some (.int .u64 0) ∧ wx.cell? ⟨pm, 9, none⟩ = some (.string ⟨#[]⟩) ∧ wx.cell? ⟨pm, 10, none⟩ = some (.string ⟨#[]⟩)) 5 (by kernel_rfl) ⟨HX.out _ (H1.out.drop.same ((Fr.refl _ _).drew)), HM.out _ ((Fr.refl _ _).drew)⟩ (fun hHeld => ?_)
        dsimp only [MV.of] at hHeld
        refine takeU (i := 0) (d := 28) (v := ?_) rfl rfl (by kernel_rfl) (by kernel_rfl) (by kernel_rfl) (by kernel_rfl) (by kernel_rfl) (fun _ _ _ h => h) (Or.inl ⟨by rfl, ?_⟩) hHeld ?_
        rotate_left
        · intro wq hSw; (try dsimp only at hSw); go_simp; all_goals (with_reducible rfl)
        simp only [Act.put, List.setIfInBounds_toArray, List.set_cons_zero, List.set_cons_succ]
        refine takeU (i := 1) (d := 29) (v := ?_) rfl rfl (by kernel_rfl) (by kernel_rfl) (by kernel_rfl) (by kernel_rfl) (by kernel_rfl) (fun _ _ _ h => h) (Or.inl ⟨by rfl, ?_⟩) hHeld ?_
        rotate_left
        · intro wq hSw; (try dsimp only at hSw); go_simp; all_goals (with_reducible rfl)
        simp only [Act.put, List.setIfInBounds_toArray, List.set_cons_zero, List.set_cons_succ]
        refine takeU (i := 2) (d := 30) (v := ?_) rfl rfl (by kernel_rfl) (by kernel_rfl) (by kernel_rfl) (by kernel_rfl) (by kernel_rfl) (fun _ _ _ h => h) (Or.inl ⟨by rfl, ?_⟩) hHeld ?_
        rotate_left
        · intro wq hSw; (try dsimp only at hSw); go_simp; all_goals (with_reducible rfl)
        simp only [Act.put, List.setIfInBounds_toArray, List.set_cons_zero, List.set_cons_succ]
        refine takeU (i := 3) (d := 31) (v := ?_) rfl rfl (by kernel_rfl) (by kernel_rfl) (by kernel_rfl) (by kernel_rfl) (by kernel_rfl) (fun _ _ _ h => h) (Or.inl ⟨by rfl, ?_⟩) hHeld ?_
        rotate_left
        · intro wq hSw; (try dsimp only at hSw); go_simp; all_goals (with_reducible rfl)
        simp only [Act.put, List.setIfInBounds_toArray, List.set_cons_zero, List.set_cons_succ]
        refine takeU (i := 4) (d := 32) (v := ?_) rfl rfl (by kernel_rfl) (by kernel_rfl) (by kernel_rfl) (by kernel_rfl) (by kernel_rfl) (fun _ _ _ h => h) (Or.inl ⟨by rfl, ?_⟩) hHeld ?_
        rotate_left
        · intro wq hSw; (try dsimp only at hSw); go_simp; all_goals (with_reducible rfl)
        simp only [Act.put, List.setIfInBounds_toArray, List.set_cons_zero, List.set_cons_succ]
        refine wpAnyU_ready (rs := [5]) (by kernel_rfl) (by simp) ?_
        refine AllReadyU.cons rfl (fun K1 hK => ?_) AllReadyU.nil
        go_simp
        go_at_call 41
        refine (HAs.out ({ MV.of 3 with bad := 1 }) (by decide) (by decide) _ (H1.out.drop.same ((Fr.refl _ _).drew))).mono ?_
        rintro e w4 ⟨rfl, H4⟩
        have H4 := hid H4
        go_simp
        refine hK.out _ _ (fun h => absurd rfl h) (fun _ => ?_)
        clear hK K1 hHeld
        refine wpAnyU_done (by kernel_rfl) ?_ _
        go_wp2_with fail
        go_end0
        exact ⟨rfl, H4.out⟩
end

end Go.Proofs.Ytkiccbjngokpjaa

/-
  the pair of top: what a caller hears.
-/
namespace Go.Proofs.Ytkiccbjngokpjaa
open Go.RowKit
set_option linter.unusedVariables false
set_option linter.unusedSimpArgs false

theorem set_same {α : Type} {R : List α} {i : Nat} {a : α} (h : R[i]? = some a) : R.set i a = R := by
  obtain ⟨hl, rfl⟩ := List.getElem?_eq_some_iff.1 h
  exact List.set_getElem_self hl

section
variable {W : Base} {w : World} {R : List Thing}
abbrev hearTo (W : Base) (R : List Thing) (i C : Nat) (c : Cl) (p : Pq) (e : Ending) (w' : World) : Prop := ∃ k : Int, e = .returned (.int .i64 k) ∧ (k == 3) = (c.hear p).2.isSome ∧ St W w' (R.set i (BlkT C (clC (c.hear p).1)))
theorem hear_none {i C : Nat} {c : Cl} {p : Pq} (hi : R[i]? = some (BlkT C (clC c))) (hh : c.hear p = (c, none)) {e : Ending} {w' : World} (h : e = .returned (.int .i64 0) ∧ St W w' R) : hearTo W R i C c p e w' := by
  refine ⟨0, h.1, by rw [hh]; rfl, ?_⟩
  rw [hh]
  show St W w' (R.set i (BlkT C (clC c)))
  rw [set_same hi]
  exact h.2
theorem beqZ {a b : Nat} (h : a ≠ b) : ((a : Int) == b) = false := by rw [beq_eq_false_iff_ne]; omega
theorem beqT {a b : Nat} (h : a = b) : ((a : Int) == b) = true := by rw [h]; exact beq_self_eq_true _
theorem st_hear_cl (H : St W w R) (i : Nat) {C : Nat} {c : Cl} (hi : R[i]? = some (BlkT C (clC c))) (p : Pq) (hp : p.isBack = true) (hf : p.fits) (hu : c.u.pq.fits) :
    Calls Try.prog 47 #[ptr C, .agg p.m.f.toArray] w fun e w' => hearTo W R i C c p e w' := by
  rcases hc : c.u with _ | _ | ⟨b, s, n⟩
  · have e0 : c.u.m = MV.of 0 := by rw [hc]; rfl
    refine (st_hear_n1 H i hi p.m (by rw [e0]; rfl) (by rw [e0]; rfl)).mono fun e w' h => hear_none hi ?_ h
    cases p with
    | hello => cases hp
    | req _ _ _ => cases hp
    | welcome s => rw [Cl.hear_welcome, hc]; rfl
    | stale s n => rw [Cl.hear_stale, hc]; rfl
    | reply b s n => rw [Cl.hear_reply, hc]; rfl
  · have e0 : c.u.m = MV.of 1 := by rw [hc]; rfl
    cases p with
    | hello => cases hp
    | req _ _ _ => cases hp
    | welcome s =>
      by_cases hg : c.gre < s
      · refine (st_hear_in H i hi (mWel s) (by rw [e0]; rfl) rfl (by show (c.gre : Int) < s; omega)).mono fun e w' h => ⟨1, h.1, ?_, ?_⟩
        · rw [Cl.hear_welcome, hc, if_pos (by simp [Cq.isHello, hg])]; rfl
        · rw [Cl.hear_welcome, hc, if_pos (by simp [Cq.isHello, hg])]; exact h.2
      · refine (st_hear_n3 H i hi (mWel s) (by rw [e0]; rfl) rfl (by show ¬ (c.gre : Int) < s; omega) (by rw [e0]; rfl)).mono fun e w' h => hear_none hi ?_ h
        rw [Cl.hear_welcome, if_neg (by simp [hg])]
    | stale s n =>
      refine (st_hear_n2 H i hi (mSN 8 s n) (by rw [e0]; rfl) rfl (by rw [e0]; rfl)).mono fun e w' h => hear_none hi ?_ h
      rw [Cl.hear_stale, hc]; rfl
    | reply b s n =>
      refine (st_hear_n2 H i hi (mRep b s n) (by rw [e0]; rfl) (by cases b <;> rfl) (by rw [e0]; rfl)).mono fun e w' h => hear_none hi ?_ h
      rw [Cl.hear_reply, hc]; rfl
  · have e0 : c.u.m = mReq b s n := by rw [hc]; rfl
    rw [hc] at hu
    obtain ⟨⟨hs1, hs2⟩, hn1, hn2⟩ := hu
    have k1 : (c.u.m.kind == 1) = false := by rw [e0]; cases b <;> rfl
    have q1 : c.u.m.ses = s := by rw [e0]; cases b <;> rfl
    have q2 : c.u.m.num = n := by rw [e0]; cases b <;> rfl
    have k2 : (c.u.m.num == 0) = false := by rw [q2, beq_eq_false_iff_ne]; omega
    cases p with
    | hello => cases hp
    | req _ _ _ => cases hp
    | welcome s' =>
      have hh : c.hear (.welcome s') = (c, none) := by rw [Cl.hear_welcome, hc]; rfl
      by_cases hs : s' = s
      · exact (st_hear_n5 H i hi (mWel s') k1 k2 (by rw [q1]; exact beqT hs) (by rw [q2, beq_eq_false_iff_ne]; show (0 : Int) ≠ n; omega)).mono fun e w' h => hear_none hi hh h
      · exact (st_hear_n4 H i hi (mWel s') k1 k2 (by rw [q1]; exact beqZ hs)).mono fun e w' h => hear_none hi hh h
    | stale s' n' =>
      by_cases hs : s' = s
      · by_cases hn : n' = n
        · have hh : c.hear (.stale s' n') = (c.lapsed, none) := by rw [Cl.hear_stale, hc, if_pos (by simp [Cq.isNum, hs, hn])]
          refine (st_hear_out H i hi (mSN 8 s' n') k1 k2 (by rw [q1]; exact beqT hs) (by rw [q2]; exact beqT hn) rfl (by omega)).mono fun e w' h => ⟨2, h.1, by rw [hh]; rfl, ?_⟩
          rw [hh]
          exact h.2
        · have hh : c.hear (.stale s' n') = (c, none) := by rw [Cl.hear_stale, hc, if_neg (by simp [Cq.isNum]; omega)]
          exact (st_hear_n5 H i hi (mSN 8 s' n') k1 k2 (by rw [q1]; exact beqT hs) (by rw [q2]; exact beqZ hn)).mono fun e w' h => hear_none hi hh h
      · have hh : c.hear (.stale s' n') = (c, none) := by rw [Cl.hear_stale, hc, if_neg (by simp [Cq.isNum]; omega)]
        exact (st_hear_n4 H i hi (mSN 8 s' n') k1 k2 (by rw [q1]; exact beqZ hs)).mono fun e w' h => hear_none hi hh h
    | reply b' s' n' =>
      by_cases hs : s' = s
      · by_cases hn : n' = n
        · have h8 : ((mRep b' s' n').kind == 8) = false := by cases b' <;> rfl
          by_cases hb : b' = b
          · have hh : c.hear (.reply b' s' n') = (c.answered, some (s', n')) := by rw [Cl.hear_reply, hc, if_pos (by simp [Cq.isReq, hs, hn, hb])]
            refine (st_hear_yes H i hi (mRep b' s' n') k1 k2 (by rw [q1]; exact beqT hs) (by rw [q2]; exact beqT hn) h8 (hid (fun wx => ?_))).mono fun e w' h => ⟨3, h.1, by rw [hh]; rfl, ?_⟩
            · subst hb
              rw [e0]
              cases b'
              · exact st_fits2 wx 10
              · exact st_fits3 wx 11
            · rw [hh]
              exact h.2
          · have hh : c.hear (.reply b' s' n') = (c, none) := by rw [Cl.hear_reply, hc, if_neg (by simp [Cq.isReq]; intro h; exact absurd h.symm hb)]
            refine (st_hear_no H i hi (mRep b' s' n') k1 k2 (by rw [q1]; exact beqT hs) (by rw [q2]; exact beqT hn) h8 (hid (fun wx => ?_))).mono fun e w' h => hear_none hi hh h
            rw [e0]
            cases b' <;> cases b
            · exact absurd rfl hb
            · exact st_fits3 wx 10
            · exact st_fits2 wx 11
            · exact absurd rfl hb
        · have hh : c.hear (.reply b' s' n') = (c, none) := by rw [Cl.hear_reply, hc, if_neg (by simp [Cq.isReq]; intro _ _ h; exact absurd h.symm hn)]
          exact (st_hear_n5 H i hi (mRep b' s' n') k1 k2 (by rw [q1]; exact beqT hs) (by rw [q2]; exact beqZ hn)).mono fun e w' h => hear_none hi hh h
      · have hh : c.hear (.reply b' s' n') = (c, none) := by rw [Cl.hear_reply, hc, if_neg (by simp [Cq.isReq]; intro _ h; exact absurd h.symm hs)]
        exact (st_hear_n4 H i hi (mRep b' s' n') k1 k2 (by rw [q1]; exact beqZ hs)).mono fun e w' h => hear_none hi hh h
end

end Go.Proofs.Ytkiccbjngokpjaa
