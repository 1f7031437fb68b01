/-
  Merged, in build order: TG HeldF TH Room.
-/
import Derived.Deep.DeepCutAuto
import Derived.Deep.CutRange
import Derived.Test.YtmgnekjhlfghaaaGreatM27
import Derived.Test.YtmgnekjhlfghaaaGreatM1
import Derived.Deep.RegionHeld3
import Derived.Deep.AppendSrc
import Derived.Test.YtmgnekjhlfghaaaGreatM8
/-
  The laws' helper of layer 17: alike.
-/
namespace Go.Proofs.YtmgnekjhlfghaaaGreat
open Go.RowKit
set_option linter.unusedVariables false
set_option linter.unusedSimpArgs false

abbrev prO (S X : Nat) : Obj := .cells #[.pointer (some ⟨S, 0, none⟩), .pointer (some ⟨X, 0, none⟩)] 64
section
variable {W : Base} {w : World} {R : List Thing}
set_option maxHeartbeats 1000000 in
set_option maxRecDepth 100000 in
theorem st_alike (H : St W w R) (i j : Nat) {S X : Nat} {v : SV} (hi : R[i]? = some (SkT S v)) (hj : R[j]? = some (XsT X v)) (hv : v.wf) :
    Calls Tryz.prog 48 #[.agg #[.pointer (some ⟨S, 0, none⟩), .pointer (some ⟨X, 0, none⟩)]] w fun e w' => e = .returned (.bool true) ∧ St W w' R := by
  have H1 := hid (H.alloc (prO S X))
  obtain ⟨b, hb⟩ : ∃ b, w.heap.size = b := ⟨_, rfl⟩
  rw [hb] at H1
  have HB := hid hb
  have HGi := hid (show ∀ T : List Thing, ((R ++ [BlkT b (prO S X)]) ++ T)[i]? = some (SkT S v) from fun T => get_l (get_l hi))
  have HGj := hid (show ∀ T : List Thing, ((R ++ [BlkT b (prO S X)]) ++ T)[j]? = some (XsT X v) from fun T => get_l (get_l hj))
  have HS := hid (show ∀ (wx : World) (T : List Thing), St W wx ((R ++ [BlkT b (prO S X)]) ++ T) → wx.cell? ⟨b, 0, none⟩ = some (.pointer (some ⟨S, 0, none⟩)) ∧ wx.cell? ⟨b, 1, none⟩ = some (.pointer (some ⟨X, 0, none⟩)) from fun wx T h => ⟨cell_blk (i := 0) (h.drop.chB) rfl, cell_blk (i := 1) (h.drop.chB) rfl⟩)
  clear H hi hj hb
  go_enter Tryz.func48, Tryz.ntmps48
  go_wp2_with fail
  rw [HB.out]
  have H0 := hid (show St W (w.alloc (prO S X)).drew ((R ++ [BlkT b (prO S X)]) ++ []) from by rw [List.append_nil]; exact H1.out.drew)
  generalize (w.alloc (prO S X)) = w1 at H0 ⊢
  refine wp_region_U (S := fun wx : World => wx.cell? ⟨b, 0, none⟩ = some (.pointer (some ⟨S, 0, none⟩)) ∧ wx.cell? ⟨b, 1, none⟩ = some (.pointer (some ⟨X, 0, none⟩))) 43 (by kernel_rfl) (HS.out _ _ H0.out) (fun hHeld => ?_)
  refine takeU (i := 0) (d := 3) (v := ?_) rfl rfl (by kernel_rfl) (by kernel_rfl) (by kernel_rfl) (by kernel_rfl) (by kernel_rfl) (fun _ _ _ h => h) (Or.inl ⟨by rfl, ?_⟩) hHeld ?_
  rotate_left
  · intro wq hSw; (try dsimp only at hSw); go_simp; all_goals (with_reducible rfl)
  simp only [Act.put, List.setIfInBounds_toArray, List.set_cons_zero, List.set_cons_succ]
  refine takeU (i := 1) (d := 4) (v := ?_) rfl rfl (by kernel_rfl) (by kernel_rfl) (by kernel_rfl) (by kernel_rfl) (by kernel_rfl) (fun _ _ _ h => h) (Or.inl ⟨by rfl, ?_⟩) hHeld ?_
  rotate_left
  · intro wq hSw; (try dsimp only at hSw); go_simp; all_goals (with_reducible rfl)
  simp only [Act.put, List.setIfInBounds_toArray, List.set_cons_zero, List.set_cons_succ]
  refine takeU (i := 3) (d := 6) (v := ?_) rfl rfl (by kernel_rfl) (by kernel_rfl) (by kernel_rfl) (by kernel_rfl) (by kernel_rfl) (fun _ _ _ h => h) (Or.inl ⟨by rfl, ?_⟩) hHeld ?_
  rotate_left
  · intro wq hSw; (try dsimp only at hSw); go_simp; all_goals (with_reducible rfl)
  simp only [Act.put, List.setIfInBounds_toArray, List.set_cons_zero, List.set_cons_succ]
  refine takeU (i := 4) (d := 7) (v := ?_) rfl rfl (by kernel_rfl) (by kernel_rfl) (by kernel_rfl) (by kernel_rfl) (by kernel_rfl) (fun _ _ _ h => h) (Or.inl ⟨by rfl, ?_⟩) hHeld ?_
  rotate_left
  · intro wq hSw; (try dsimp only at hSw); go_simp; all_goals (with_reducible rfl)
  simp only [Act.put, List.setIfInBounds_toArray, List.set_cons_zero, List.set_cons_succ]
  refine wpAnyU_ready (rs := [2]) (by kernel_rfl) (by simp) ?_
  refine AllReadyU.cons rfl (fun K hK => ?_) AllReadyU.nil
  go_simp
  go_at_call 10
  with_reducible refine (st_sview H0.out i (HGi.out _) hv).mono ?_
  rintro e w2 ⟨a2, l2, rfl, h2a, h2b, H2⟩
  rw [List.append_assoc] at H2
  have H2 := hid H2
  have HD := hid (show VOk v l2 from ⟨hv, h2a, h2b⟩)
  clear h2a h2b
  refine hK.out _ _ (fun _ => HS.out _ _ H2.out) (fun hHeld => ?_)
  clear hK K
  have hHeld := hHeld (by decide)
  refine wpAnyU_ready (rs := [5]) (by kernel_rfl) (by simp) ?_
  refine AllReadyU.cons rfl (fun K hK => ?_) AllReadyU.nil
  go_simp
  go_at_call 16
  with_reducible refine (st_tview H2.out j (HGj.out _) hv).mono ?_
  rintro e w3 ⟨a3, c3, l3, rfl, h3, H3⟩
  rw [List.append_assoc] at H3
  have hvk := H3.vok ((R ++ [BlkT b (prO S X)]).length + 0) (by rw [get_behind]; rfl) HD.out
  have hdv := H3.dvIn ((R ++ [BlkT b (prO S X)]).length + 1) (by rw [get_behind]; rfl)
  have HVD := hid (And.intro hvk hdv)
  have H3 := hid H3
  have h3 := hid h3
  clear hvk hdv
  refine hK.out _ _ (fun _ => HS.out _ _ H3.out) (fun hHeld => ?_)
  clear hK K
  have hHeld := hHeld (by decide)
  refine wpAnyU_ready (rs := [6]) (by kernel_rfl) (by simp) ?_
  refine AllReadyU.cons rfl (fun K hK => ?_) AllReadyU.nil
  go_simp
  go_at_call 15
  with_reducible refine (st_vsame H3.out v.res HVD.out.1 HVD.out.2 (HD.out.eq.trans h3.out.symm)).mono ?_
  rintro e w4 ⟨rfl, H4⟩
  have H4 := hid H4
  refine hK.out _ _ (fun _ => HS.out _ _ H4.out) (fun hHeld => ?_)
  clear hK K
  have hHeld := hHeld (by decide)
  refine takeU (i := 7) (d := 10) (v := ?_) rfl rfl (by kernel_rfl) (by kernel_rfl) (by kernel_rfl) (by kernel_rfl) (by kernel_rfl) (fun _ _ _ h => h) (Or.inl ⟨by rfl, ?_⟩) hHeld ?_
  rotate_left
  · intro wq hSw; (try dsimp only at hSw); go_simp; all_goals (with_reducible rfl)
  simp only [Act.put, List.setIfInBounds_toArray, List.set_cons_zero, List.set_cons_succ]
  refine takeU (i := 8) (d := 11) (v := ?_) rfl rfl (by kernel_rfl) (by kernel_rfl) (by kernel_rfl) (by kernel_rfl) (by kernel_rfl) (fun _ _ _ h => h) (Or.inl ⟨by rfl, ?_⟩) hHeld ?_
  rotate_left
  · intro wq hSw; (try dsimp only at hSw); go_simp; all_goals (with_reducible rfl)
  simp only [Act.put, List.setIfInBounds_toArray, List.set_cons_zero, List.set_cons_succ]
  refine takeU (i := 9) (d := 12) (v := ?_) rfl rfl (by kernel_rfl) (by kernel_rfl) (by kernel_rfl) (by kernel_rfl) (by kernel_rfl) (fun _ _ _ h => h) (Or.inl ⟨by rfl, ?_⟩) hHeld ?_
  rotate_left
  · intro wq hSw; (try dsimp only at hSw); go_simp; all_goals (with_reducible rfl)
  simp only [Act.put, List.setIfInBounds_toArray, List.set_cons_zero, List.set_cons_succ]
  refine takeU (i := 11) (d := 14) (v := ?_) rfl rfl (by kernel_rfl) (by kernel_rfl) (by kernel_rfl) (by kernel_rfl) (by kernel_rfl) (fun _ _ _ h => h) (Or.inl ⟨by rfl, ?_⟩) hHeld ?_
  rotate_left
  · intro wq hSw; (try dsimp only at hSw); go_simp; all_goals (with_reducible rfl)
  simp only [Act.put, List.setIfInBounds_toArray, List.set_cons_zero, List.set_cons_succ]
  refine takeU (i := 12) (d := 15) (v := ?_) rfl rfl (by kernel_rfl) (by kernel_rfl) (by kernel_rfl) (by kernel_rfl) (by kernel_rfl) (fun _ _ _ h => h) (Or.inl ⟨by rfl, ?_⟩) hHeld ?_
  rotate_left
  · intro wq hSw; (try dsimp only at hSw); go_simp; all_goals (with_reducible rfl)
  simp only [Act.put, List.setIfInBounds_toArray, List.set_cons_zero, List.set_cons_succ]
  refine wpAnyU_ready (rs := [10]) (by kernel_rfl) (by simp) ?_
  refine AllReadyU.cons rfl (fun K hK => ?_) AllReadyU.nil
  go_simp
  go_at_call 17
  with_reducible refine (st_sbytes H4.out i (HGi.out _) hv).mono ?_
  rintro e w5 ⟨rfl, H5⟩
  have H5 := hid H5
  refine hK.out _ _ (fun _ => HS.out _ _ H5.out) (fun hHeld => ?_)
  clear hK K
  have hHeld := hHeld (by decide)
  refine wpAnyU_ready (rs := [13]) (by kernel_rfl) (by simp) ?_
  refine AllReadyU.cons rfl (fun K hK => ?_) AllReadyU.nil
  go_simp
  go_at_call 18
  with_reducible refine (st_tbytes H5.out j (HGj.out _) hv).mono ?_
  rintro e w6 ⟨rfl, H6⟩
  have H6 := hid H6
  refine hK.out _ _ (fun _ => HS.out _ _ H6.out) (fun hHeld => ?_)
  clear hK K
  have hHeld := hHeld (by decide)
  refine takeU (i := 14) (d := 17) (v := ?_) rfl rfl (by kernel_rfl) (by kernel_rfl) (by kernel_rfl) (by kernel_rfl) (by kernel_rfl) (fun _ _ _ h => h) (Or.inl ⟨by rfl, ?_⟩) hHeld ?_
  rotate_left
  · intro wq hSw; (try dsimp only at hSw); go_simp; all_goals (with_reducible rfl)
  simp only [Act.put, List.setIfInBounds_toArray, List.set_cons_zero, List.set_cons_succ]
  refine takeU (i := 15) (d := 18) (v := ?_) rfl rfl (by kernel_rfl) (by kernel_rfl) (by kernel_rfl) (by kernel_rfl) (by kernel_rfl) (fun _ _ _ h => h) (Or.inl ⟨by rfl, ?_⟩) hHeld ?_
  rotate_left
  · intro wq hSw; (try dsimp only at hSw); go_simp; all_goals (with_reducible rfl)
  simp only [Act.put, List.setIfInBounds_toArray, List.set_cons_zero, List.set_cons_succ]
  refine takeU (i := 16) (d := 19) (v := ?_) rfl rfl (by kernel_rfl) (by kernel_rfl) (by kernel_rfl) (by kernel_rfl) (by kernel_rfl) (fun _ _ _ h => h) (Or.inl ⟨by rfl, ?_⟩) hHeld ?_
  rotate_left
  · intro wq hSw; (try dsimp only at hSw); go_simp; all_goals (with_reducible rfl)
  simp only [Act.put, List.setIfInBounds_toArray, List.set_cons_zero, List.set_cons_succ]
  obtain ⟨Q, pv, lv, ll, hll, K1⟩ := H6.out.sk i (HGi.out _)
  obtain ⟨Q2, qa, qc, pa, pc, la, lc, ll2, hX⟩ := H6.out.xsIn j (HGj.out _)
  have d0 := cell_blk (i := 0) K1.skS rfl
  have hxx := hX.c0
  have hlS := lt_of_block K1.skS
  have HK1 := hid K1
  have HX := hid hX
  have HS2 := hid (show ∀ wx, Fr [] w6 wx → wx.cell? ⟨b, 0, none⟩ = some (.pointer (some ⟨S, 0, none⟩)) ∧ wx.cell? ⟨b, 1, none⟩ = some (.pointer (some ⟨X, 0, none⟩)) ∧ wx.cell? ⟨S, 0, none⟩ = some (.pointer (some ⟨Q, 0, none⟩)) ∧ wx.cell? ⟨X, 0, none⟩ = some (.int .i64 v.res) ∧ wx.cell? ⟨X, 1, none⟩ = some (.pointer (some ⟨Q2, 0, none⟩)) from fun wx hF => ⟨(HS.out _ _ (H6.out.same hF)).1, (HS.out _ _ (H6.out.same hF)).2, hF.cell0 d0, hF.cell0 hxx.1, hF.cell0 hxx.2.1⟩)
  have HF := hid (Fr.refl [] w6)
  refine wpAnyU_mono (S' := fun wx : World => wx.cell? ⟨b, 0, none⟩ = some (.pointer (some ⟨S, 0, none⟩)) ∧ wx.cell? ⟨b, 1, none⟩ = some (.pointer (some ⟨X, 0, none⟩)) ∧ wx.cell? ⟨S, 0, none⟩ = some (.pointer (some ⟨Q, 0, none⟩)) ∧ wx.cell? ⟨X, 0, none⟩ = some (.int .i64 v.res) ∧ wx.cell? ⟨X, 1, none⟩ = some (.pointer (some ⟨Q2, 0, none⟩))) (fun _ h => ⟨h.1, h.2.1⟩) _ _ _ _ ?_
  have hHeld := HS2.out _ HF.out
  clear d0 hxx hX K1 hll
  refine takeU (i := 17) (d := 20) (v := ?_) rfl rfl (by kernel_rfl) (by kernel_rfl) (by kernel_rfl) (by kernel_rfl) (by kernel_rfl) (fun _ _ _ h => h) (Or.inl ⟨by rfl, ?_⟩) hHeld ?_
  rotate_left
  · intro wq hSw; (try dsimp only at hSw); go_simp; all_goals (with_reducible rfl)
  simp only [Act.put, List.setIfInBounds_toArray, List.set_cons_zero, List.set_cons_succ]
  refine takeU (i := 18) (d := 21) (v := ?_) rfl rfl (by kernel_rfl) (by kernel_rfl) (by kernel_rfl) (by kernel_rfl) (by kernel_rfl) (fun _ _ _ h => h) (Or.inl ⟨by rfl, ?_⟩) hHeld ?_
  rotate_left
  · intro wq hSw; (try dsimp only at hSw); go_simp; all_goals (with_reducible rfl)
  simp only [Act.put, List.setIfInBounds_toArray, List.set_cons_zero, List.set_cons_succ]
  refine takeU (i := 19) (d := 22) (v := ?_) rfl rfl (by kernel_rfl) (by kernel_rfl) (by kernel_rfl) (by kernel_rfl) (by kernel_rfl) (fun _ _ _ h => h) (Or.inl ⟨by rfl, ?_⟩) hHeld ?_
  rotate_left
  · intro wq hSw; (try dsimp only at hSw); go_simp; all_goals (with_reducible rfl)
  simp only [Act.put, List.setIfInBounds_toArray, List.set_cons_zero, List.set_cons_succ]
  refine takeU (i := 20) (d := 23) (v := ?_) rfl rfl (by kernel_rfl) (by kernel_rfl) (by kernel_rfl) (by kernel_rfl) (by kernel_rfl) (fun _ _ _ h => h) (Or.inl ⟨by rfl, ?_⟩) hHeld ?_
  rotate_left
  · intro wq hSw; (try dsimp only at hSw); go_simp; all_goals (with_reducible rfl)
  simp only [Act.put, List.setIfInBounds_toArray, List.set_cons_zero, List.set_cons_succ]
  refine takeU (i := 21) (d := 24) (v := ?_) rfl rfl (by kernel_rfl) (by kernel_rfl) (by kernel_rfl) (by kernel_rfl) (by kernel_rfl) (fun _ _ _ h => h) (Or.inl ⟨by rfl, ?_⟩) hHeld ?_
  rotate_left
  · intro wq hSw; (try dsimp only at hSw); go_simp; all_goals (with_reducible rfl)
  simp only [Act.put, List.setIfInBounds_toArray, List.set_cons_zero, List.set_cons_succ]
  refine takeU (i := 22) (d := 25) (v := ?_) rfl rfl (by kernel_rfl) (by kernel_rfl) (by kernel_rfl) (by kernel_rfl) (by kernel_rfl) (fun _ _ _ h => h) (Or.inl ⟨by rfl, ?_⟩) hHeld ?_
  rotate_left
  · intro wq hSw; (try dsimp only at hSw); go_simp; all_goals (with_reducible rfl)
  simp only [Act.put, List.setIfInBounds_toArray, List.set_cons_zero, List.set_cons_succ]
  refine takeU (i := 24) (d := 27) (v := ?_) rfl rfl (by kernel_rfl) (by kernel_rfl) (by kernel_rfl) (by kernel_rfl) (by kernel_rfl) (fun _ _ _ h => h) (Or.inl ⟨by rfl, ?_⟩) hHeld ?_
  rotate_left
  · intro wq hSw; (try dsimp only at hSw); go_simp; all_goals (with_reducible rfl)
  simp only [Act.put, List.setIfInBounds_toArray, List.set_cons_zero, List.set_cons_succ]
  refine takeU (i := 25) (d := 28) (v := ?_) rfl rfl (by kernel_rfl) (by kernel_rfl) (by kernel_rfl) (by kernel_rfl) (by kernel_rfl) (fun _ _ _ h => h) (Or.inl ⟨by rfl, ?_⟩) hHeld ?_
  rotate_left
  · intro wq hSw; (try dsimp only at hSw); go_simp; all_goals (with_reducible rfl)
  simp only [Act.put, List.setIfInBounds_toArray, List.set_cons_zero, List.set_cons_succ]
  refine takeU (i := 26) (d := 29) (v := ?_) rfl rfl (by kernel_rfl) (by kernel_rfl) (by kernel_rfl) (by kernel_rfl) (by kernel_rfl) (fun _ _ _ h => h) (Or.inl ⟨by rfl, ?_⟩) hHeld ?_
  rotate_left
  · intro wq hSw; (try dsimp only at hSw); go_simp; all_goals (with_reducible rfl)
  simp only [Act.put, List.setIfInBounds_toArray, List.set_cons_zero, List.set_cons_succ]
  refine takeU (i := 27) (d := 30) (v := ?_) rfl rfl (by kernel_rfl) (by kernel_rfl) (by kernel_rfl) (by kernel_rfl) (by kernel_rfl) (fun _ _ _ h => h) (Or.inl ⟨by rfl, ?_⟩) hHeld ?_
  rotate_left
  · intro wq hSw; (try dsimp only at hSw); go_simp; all_goals (with_reducible rfl)
  simp only [Act.put, List.setIfInBounds_toArray, List.set_cons_zero, List.set_cons_succ]
  refine takeU (i := 28) (d := 31) (v := ?_) rfl rfl (by kernel_rfl) (by kernel_rfl) (by kernel_rfl) (by kernel_rfl) (by kernel_rfl) (fun _ _ _ h => h) (Or.inl ⟨by rfl, ?_⟩) hHeld ?_
  rotate_left
  · intro wq hSw; (try dsimp only at hSw); go_simp; all_goals (with_reducible rfl)
  simp only [Act.put, List.setIfInBounds_toArray, List.set_cons_zero, List.set_cons_succ]
  refine wpAnyU_ready (rs := [23]) (by kernel_rfl) (by simp) ?_
  refine AllReadyU.cons rfl (fun K hK => ?_) AllReadyU.nil
  go_simp
  go_at_call 95
  with_reducible refine (st_head HK1.out _ sk_get1 hv.q.n).mono ?_
  rintro e w7 ⟨rfl, hF⟩
  have HF := hid hF
  clear hF
  refine hK.out _ _ (fun _ => HS2.out _ HF.out) (fun hHeld => ?_)
  clear hK K
  have hHeld := hHeld (by decide)
  refine wpAnyU_ready (rs := [29]) (by kernel_rfl) (by simp) ?_
  refine AllReadyU.cons rfl (fun K hK => ?_) AllReadyU.nil
  go_simp
  go_at_call 96
  with_reducible refine (x_head _ Q2 v.q qa qc (HX.out.q.fr0 HF.out) hv.q.n).mono ?_
  rintro e w8 ⟨rfl, rfl⟩
  refine hK.out _ _ (fun _ => HS2.out _ HF.out) (fun hHeld => ?_)
  clear hK K
  have hHeld := hHeld (by decide)
  refine takeU (i := 30) (d := 33) (v := ?_) rfl rfl (by kernel_rfl) (by kernel_rfl) (by kernel_rfl) (by kernel_rfl) (by kernel_rfl) (fun _ _ _ h => h) (Or.inl ⟨by rfl, ?_⟩) hHeld ?_
  rotate_left
  · intro wq hSw; (try dsimp only at hSw); go_simp; all_goals (with_reducible rfl)
  simp only [Act.put, List.setIfInBounds_toArray, List.set_cons_zero, List.set_cons_succ]
  refine takeU (i := 31) (d := 34) (v := ?_) rfl rfl (by kernel_rfl) (by kernel_rfl) (by kernel_rfl) (by kernel_rfl) (by kernel_rfl) (fun _ _ _ h => h) (Or.inl ⟨by rfl, ?_⟩) hHeld ?_
  rotate_left
  · intro wq hSw; (try dsimp only at hSw); go_simp; all_goals (with_reducible rfl)
  simp only [Act.put, List.setIfInBounds_toArray, List.set_cons_zero, List.set_cons_succ]
  refine takeU (i := 32) (d := 35) (v := ?_) rfl rfl (by kernel_rfl) (by kernel_rfl) (by kernel_rfl) (by kernel_rfl) (by kernel_rfl) (fun _ _ _ h => h) (Or.inl ⟨by rfl, ?_⟩) hHeld ?_
  rotate_left
  · intro wq hSw; (try dsimp only at hSw); go_simp; all_goals (with_reducible rfl)
  simp only [Act.put, List.setIfInBounds_toArray, List.set_cons_zero, List.set_cons_succ]
  refine takeU (i := 33) (d := 36) (v := ?_) rfl rfl (by kernel_rfl) (by kernel_rfl) (by kernel_rfl) (by kernel_rfl) (by kernel_rfl) (fun _ _ _ h => h) (Or.inl ⟨by rfl, ?_⟩) hHeld ?_
  rotate_left
  · intro wq hSw; (try dsimp only at hSw); go_simp; all_goals (with_reducible rfl)
  simp only [Act.put, List.setIfInBounds_toArray, List.set_cons_zero, List.set_cons_succ]
  refine takeU (i := 34) (d := 37) (v := ?_) rfl rfl (by kernel_rfl) (by kernel_rfl) (by kernel_rfl) (by kernel_rfl) (by kernel_rfl) (fun _ _ _ h => h) (Or.inl ⟨by rfl, ?_⟩) hHeld ?_
  rotate_left
  · intro wq hSw; (try dsimp only at hSw); go_simp; all_goals (with_reducible rfl)
  simp only [Act.put, List.setIfInBounds_toArray, List.set_cons_zero, List.set_cons_succ]
  refine takeU (i := 36) (d := 39) (v := ?_) rfl rfl (by kernel_rfl) (by kernel_rfl) (by kernel_rfl) (by kernel_rfl) (by kernel_rfl) (fun _ _ _ h => h) (Or.inl ⟨by rfl, ?_⟩) hHeld ?_
  rotate_left
  · intro wq hSw; (try dsimp only at hSw); go_simp; all_goals (with_reducible rfl)
  simp only [Act.put, List.setIfInBounds_toArray, List.set_cons_zero, List.set_cons_succ]
  refine takeU (i := 37) (d := 40) (v := ?_) rfl rfl (by kernel_rfl) (by kernel_rfl) (by kernel_rfl) (by kernel_rfl) (by kernel_rfl) (fun _ _ _ h => h) (Or.inl ⟨by rfl, ?_⟩) hHeld ?_
  rotate_left
  · intro wq hSw; (try dsimp only at hSw); go_simp; all_goals (with_reducible rfl)
  simp only [Act.put, List.setIfInBounds_toArray, List.set_cons_zero, List.set_cons_succ]
  refine takeU (i := 38) (d := 41) (v := ?_) rfl rfl (by kernel_rfl) (by kernel_rfl) (by kernel_rfl) (by kernel_rfl) (by kernel_rfl) (fun _ _ _ h => h) (Or.inl ⟨by rfl, ?_⟩) hHeld ?_
  rotate_left
  · intro wq hSw; (try dsimp only at hSw); go_simp; all_goals (with_reducible rfl)
  simp only [Act.put, List.setIfInBounds_toArray, List.set_cons_zero, List.set_cons_succ]
  refine takeU (i := 39) (d := 42) (v := ?_) rfl rfl (by kernel_rfl) (by kernel_rfl) (by kernel_rfl) (by kernel_rfl) (by kernel_rfl) (fun _ _ _ h => h) (Or.inl ⟨by rfl, ?_⟩) hHeld ?_
  rotate_left
  · intro wq hSw; (try dsimp only at hSw); go_simp; all_goals (with_reducible rfl)
  simp only [Act.put, List.setIfInBounds_toArray, List.set_cons_zero, List.set_cons_succ]
  refine takeU (i := 40) (d := 43) (v := ?_) rfl rfl (by kernel_rfl) (by kernel_rfl) (by kernel_rfl) (by kernel_rfl) (by kernel_rfl) (fun _ _ _ h => h) (Or.inl ⟨by rfl, ?_⟩) hHeld ?_
  rotate_left
  · intro wq hSw; (try dsimp only at hSw); go_simp; all_goals (with_reducible rfl)
  simp only [Act.put, List.setIfInBounds_toArray, List.set_cons_zero, List.set_cons_succ]
  refine wpAnyU_ready (rs := [35]) (by kernel_rfl) (by simp) ?_
  refine AllReadyU.cons rfl (fun K hK => ?_) AllReadyU.nil
  go_simp
  go_at_call 45
  with_reducible refine (st_sreserved (H6.out.same HF.out) i (HGi.out _)).mono ?_
  rintro e w9 ⟨rfl, rfl⟩
  refine hK.out _ _ (fun _ => HS2.out _ HF.out) (fun hHeld => ?_)
  clear hK K
  have hHeld := hHeld (by decide)
  refine takeU (i := 41) (d := 44) (v := ?_) rfl rfl (by kernel_rfl) (by kernel_rfl) (by kernel_rfl) (by kernel_rfl) (by kernel_rfl) (fun _ _ _ h => h) (Or.inl ⟨by rfl, ?_⟩) hHeld ?_
  rotate_left
  · intro wq hSw; (try dsimp only at hSw); go_simp; all_goals (with_reducible rfl)
  simp only [Act.put, List.setIfInBounds_toArray, List.set_cons_zero, List.set_cons_succ]
  refine takeU (i := 42) (d := 45) (v := ?_) rfl rfl (by kernel_rfl) (by kernel_rfl) (by kernel_rfl) (by kernel_rfl) (by kernel_rfl) (fun _ _ _ h => h) (Or.inl ⟨by rfl, ?_⟩) hHeld ?_
  rotate_left
  · intro wq hSw; (try dsimp only at hSw); go_simp; all_goals (with_reducible rfl)
  simp only [Act.put, List.setIfInBounds_toArray, List.set_cons_zero, List.set_cons_succ]
  refine wpAnyU_ready (rs := [43]) (by kernel_rfl) (by simp) ?_
  refine AllReadyU.cons rfl (fun K hK => ?_) AllReadyU.nil
  go_simp
  refine hK.out _ _ (fun h => absurd rfl h) (fun _ => ?_)
  clear hK K
  refine wpAnyU_done (by kernel_rfl) ?_ _
  go_wp2_with fail
  go_ret
  have h := (H6.out.same HF.out).drop
  exact ⟨rfl, h.drop⟩
end
end Go.Proofs.YtmgnekjhlfghaaaGreat

/-
  A region that draws its order: two conditions on the worlds: a weak one, that stands throughout, and a strong one, that stands till the operations that are let off.
-/
namespace Go.Proofs.YtmgnekjhlfghaaaGreat
set_option linter.unusedVariables false

section
variable {P : Program} {ops : Array Oper} {Q : Exit → Act → World → Prop} {md : Region.Mode} {Sw S : World → Prop} {ex : Nat → Bool}

/-- Whatever order is picked; behind each operation but the last S holds. -/
def wpAnyF (P : Program) (md : Region.Mode) (ops : Array Oper) (Q : Exit → Act → World → Prop) (Sw S : World → Prop) (ex : Nat → Bool) : Nat → Array Bool → Act → World → Prop
  | 0, listed, a, w => Region.ready md ops listed = [] ∧ Q .normal a w
  | fuel + 1, listed, a, w =>
    (Region.ready md ops listed = [] → Q .normal a w) ∧
    ∀ i ∈ Region.ready md ops listed, wpOp P ops Q i (fun a' w' => (Sw w' ∧ (ex i = false → S w')) ∧ wpAnyF P md ops Q Sw S ex fuel (listed.setIfInBounds i true) a' w') a w

theorem wpAny_of_F : ∀ (fuel : Nat) (listed : Array Bool) (a : Act) (w : World), wpAnyF P md ops Q Sw S ex fuel listed a w → wpAny P md ops Q fuel listed a w
  | 0, _, _, _, h => h
  | fuel + 1, _, _, _, h => ⟨h.1, fun i hi => wpOp_mono (fun a' w' h' => wpAny_of_F fuel _ a' w' h'.2) (h.2 i hi)⟩

/-- Taken first: what yields in every world that meets S, and for which the last one waits. -/
theorem wpAnyF_first {i : Nat} {oi : Oper} {v : Value} (hi : ops[i]? = some oi) (hsel : ∀ (j : Nat) (o : Oper) cs b, ops[j]? = some o → o.op ≠ .select cs b)
    (hQ : ∀ c a w, Q (.panic c) (a.put oi.dst v) w → Q (.panic c) a w) (f : Nat) (hwait : ∀ j, ex j = true → waitsB md ops i f j = true) :
    ∀ (fuel : Nat) (listed : Array Bool) (a : Act) (w : World),
      (∀ j oj, ops[j]? = some oj → j ≠ i → listed.getD j true = false → (∀ e ∈ oj.after, Region.binds md e = true → e.on ≠ i) → oi.apart ops oj = true) →
      Closed md ops listed → i ∈ Region.ready md ops listed → YieldsIf P ops S oi v a → Sw w → S w →
      wpAnyF P md ops Q Sw S ex fuel (listed.setIfInBounds i true) (a.put oi.dst v) w → wpAnyF P md ops Q Sw S ex (fuel + 1) listed a w := by
  intro fuel
  induction fuel with
  | zero =>
    intro listed a w _ _ hr hy hSw hS H
    refine ⟨fun h => (by rw [h] at hr; cases hr), fun j hj => ?_⟩
    by_cases hji : j = i
    · subst hji; exact hy.wpOp hi hS ⟨⟨hSw, fun _ => hS⟩, H⟩
    · have := ready_mono hj hji
      rw [H.1] at this
      cases this
  | succ fuel ih =>
    intro listed a w hfree hcl hr hy hSw hS H
    refine ⟨fun h => (by rw [h] at hr; cases hr), fun j hj => ?_⟩
    by_cases hji : j = i
    · subst hji; exact hy.wpOp hi hS ⟨⟨hSw, fun _ => hS⟩, H⟩
    · have h1 := H.2 j (ready_mono hj hji)
      obtain ⟨hjun, oj, hoj, hall⟩ := mem_ready.1 hj
      have hil : listed.getD i false = false := by
        have h0 := (mem_ready.1 hr).1
        rcases Nat.lt_or_ge i listed.size with h' | h'
        · simp [h'] at h0 ⊢; exact h0
        · simp [Array.getElem?_eq_none h']
      have hjl : ex j = false := by
        cases e : ex j
        · rfl
        · rw [waits_listed hcl f j oj hoj hall (hwait j e)] at hil
          cases hil
      have hnot : ∀ e ∈ oj.after, Region.binds md e = true → e.on ≠ i := fun e he hb heq => by
        have h1 := hall e he hb
        rw [heq, hil] at h1
        cases h1
      have h2 := wpOp_putIf hoj (hfree j oj hoj hji hjun hnot) (fun cs b => hsel i oi cs b hi) (fun cs b => hsel j oj cs b hoj) hQ hy h1
      have hfree' : ∀ k ok, ops[k]? = some ok → k ≠ i → (listed.setIfInBounds j true).getD k true = false →
          (∀ e ∈ ok.after, Region.binds md e = true → e.on ≠ i) → oi.apart ops ok = true := fun k ok hk hki hun hno => by
        refine hfree k ok hk hki ?_ hno
        by_cases hjk : j = k
        · subst hjk; exact hjun
        · rw [getD_set_ne true hjk] at hun; exact hun
      refine wpOp_mono (fun a' w' h3 => ⟨h3.2.1, ih (listed.setIfInBounds j true) a' w' hfree' (closed_set hcl hj) (ready_mono hr (Ne.symm hji)) h3.1 h3.2.1.1 (h3.2.1.2 hjl) ?_⟩) h2
      rw [Array.setIfInBounds_comm _ _ hji]
      exact h3.2.2

/-- Taken first: what yields in every world that meets the weak condition. -/
theorem wpAnyF_firstW {i : Nat} {oi : Oper} {v : Value} (hi : ops[i]? = some oi) (hsel : ∀ (j : Nat) (o : Oper) cs b, ops[j]? = some o → o.op ≠ .select cs b)
    (hQ : ∀ c a w, Q (.panic c) (a.put oi.dst v) w → Q (.panic c) a w) (he : ex i = true) :
    ∀ (fuel : Nat) (listed : Array Bool) (a : Act) (w : World),
      (∀ j oj, ops[j]? = some oj → j ≠ i → listed.getD j true = false → (∀ e ∈ oj.after, Region.binds md e = true → e.on ≠ i) → oi.apart ops oj = true) →
      i ∈ Region.ready md ops listed → YieldsIf P ops Sw oi v a → Sw w →
      wpAnyF P md ops Q Sw S ex fuel (listed.setIfInBounds i true) (a.put oi.dst v) w → wpAnyF P md ops Q Sw S ex (fuel + 1) listed a w := by
  intro fuel
  induction fuel with
  | zero =>
    intro listed a w _ hr hy hSw H
    refine ⟨fun h => (by rw [h] at hr; cases hr), fun j hj => ?_⟩
    by_cases hji : j = i
    · subst hji; exact hy.wpOp hi hSw ⟨⟨hSw, fun h => by rw [he] at h; cases h⟩, H⟩
    · have := ready_mono hj hji
      rw [H.1] at this
      cases this
  | succ fuel ih =>
    intro listed a w hfree hr hy hSw H
    refine ⟨fun h => (by rw [h] at hr; cases hr), fun j hj => ?_⟩
    by_cases hji : j = i
    · subst hji; exact hy.wpOp hi hSw ⟨⟨hSw, fun h => by rw [he] at h; cases h⟩, H⟩
    · have h1 := H.2 j (ready_mono hj hji)
      obtain ⟨hjun, oj, hoj, hall⟩ := mem_ready.1 hj
      have hil : listed.getD i false = false := by
        have h0 := (mem_ready.1 hr).1
        rcases Nat.lt_or_ge i listed.size with h' | h'
        · simp [h'] at h0 ⊢; exact h0
        · simp [Array.getElem?_eq_none h']
      have hnot : ∀ e ∈ oj.after, Region.binds md e = true → e.on ≠ i := fun e he hb heq => by
        have h1 := hall e he hb
        rw [heq, hil] at h1
        cases h1
      have h2 := wpOp_putIf hoj (hfree j oj hoj hji hjun hnot) (fun cs b => hsel i oi cs b hi) (fun cs b => hsel j oj cs b hoj) hQ hy h1
      have hfree' : ∀ k ok, ops[k]? = some ok → k ≠ i → (listed.setIfInBounds j true).getD k true = false →
          (∀ e ∈ ok.after, Region.binds md e = true → e.on ≠ i) → oi.apart ops ok = true := fun k ok hk hki hun hno => by
        refine hfree k ok hk hki ?_ hno
        by_cases hjk : j = k
        · subst hjk; exact hjun
        · rw [getD_set_ne true hjk] at hun; exact hun
      refine wpOp_mono (fun a' w' h3 => ⟨h3.2.1, ih (listed.setIfInBounds j true) a' w' hfree' (ready_mono hr (Ne.symm hji)) h3.1 h3.2.1.1 ?_⟩) h2
      rw [Array.setIfInBounds_comm _ _ hji]
      exact h3.2.2

theorem takeS {i : Nat} {d : Tmp} {oi : Oper} {v : Value} {fuel : Nat} {listed : Array Bool} {a : Act} {w : World} (hi : ops[i]? = some oi) (hd : oi.dst = some d)
    (h1 : Region.noSelect ops = true) (h2 : Region.free md ops listed i = true) (h3 : (Region.ready md ops listed).contains i = true) (h4 : closedB md ops listed = true) (h5 : ((List.range ops.size).all fun j => !ex j || waitsB md ops i ops.size j) = true) (h6 : ∀ j, ops.size ≤ j → ex j = false)
    (hQ : ∀ c a w, Q (.panic c) (a.put (some d) v) w → Q (.panic c) a w) (hy : YieldsIf P ops S oi v a) (hS : Sw w ∧ S w)
    (h : wpAnyF P md ops Q Sw S ex fuel (listed.setIfInBounds i true) (a.put (some d) v) w) : wpAnyF P md ops Q Sw S ex (fuel + 1) listed a w := by
  exact wpAnyF_first hi (Region.noSelect_spec h1) (by rw [hd]; exact hQ) ops.size (fun j hj => by
    rcases Nat.lt_or_ge j ops.size with h | h
    · have := List.all_eq_true.1 h5 j (List.mem_range.2 h)
      simpa [hj] using this
    · rw [h6 j h] at hj; cases hj) fuel listed a w (Region.free_spec hi h2) (closed_of h4) (by simpa using h3) hy hS.1 hS.2 (by rw [hd]; exact h)

theorem takeW {i : Nat} {d : Tmp} {oi : Oper} {v : Value} {fuel : Nat} {listed : Array Bool} {a : Act} {w : World} (hi : ops[i]? = some oi) (hd : oi.dst = some d)
    (h1 : Region.noSelect ops = true) (h2 : Region.free md ops listed i = true) (h3 : (Region.ready md ops listed).contains i = true) (he : ex i = true)
    (hQ : ∀ c a w, Q (.panic c) (a.put (some d) v) w → Q (.panic c) a w) (hy : YieldsIf P ops Sw oi v a) (hS : Sw w)
    (h : wpAnyF P md ops Q Sw S ex fuel (listed.setIfInBounds i true) (a.put (some d) v) w) : wpAnyF P md ops Q Sw S ex (fuel + 1) listed a w :=
  wpAnyF_firstW hi (Region.noSelect_spec h1) (by rw [hd]; exact hQ) he fuel listed a w (Region.free_spec hi h2) (by simpa using h3) hy hS (by rw [hd]; exact h)

def AllReadyF (P : Program) (md : Region.Mode) (ops : Array Oper) (Q : Exit → Act → World → Prop) (Sw S : World → Prop) (ex : Nat → Bool) (fuel : Nat) (listed : Array Bool) (a : Act) (w : World) (rs : List Nat) : Prop :=
  ∀ i ∈ rs, wpOp P ops Q i (fun a' w' => (Sw w' ∧ (ex i = false → S w')) ∧ wpAnyF P md ops Q Sw S ex fuel (listed.setIfInBounds i true) a' w') a w
theorem AllReadyF.nil {fuel : Nat} {listed : Array Bool} {a : Act} {w : World} : AllReadyF P md ops Q Sw S ex fuel listed a w [] := fun _ h => by cases h
theorem AllReadyF.cons {fuel : Nat} {listed : Array Bool} {a : Act} {w : World} {i : Nat} {o : Oper} {rs : List Nat} (ho : ops[i]? = some o)
    (h : ∀ K' : Act → World → Prop, Shut (∀ a w, Sw w → (ex i = false → S w) → (Sw w ∧ (ex i = false → S w) → wpAnyF P md ops Q Sw S ex fuel (listed.setIfInBounds i true) a w) → K' a w) → if Region.wanted o (yielded ops a.tmps) = true then Oper.wp P o a w K' Q else K' (a.put o.dst undef) w)
    (hs : AllReadyF P md ops Q Sw S ex fuel listed a w rs) : AllReadyF P md ops Q Sw S ex fuel listed a w (i :: rs) := fun j hj => by
  rcases List.mem_cons.1 hj with rfl | hj
  · exact wpOp_step ho (fun K' hK => h K' (fun a w hS1 hS hW => hK a w ⟨⟨hS1, hS⟩, hW ⟨hS1, hS⟩⟩))
  · exact hs j hj
theorem wpAnyF_ready {rs : List Nat} {fuel : Nat} {listed : Array Bool} {a : Act} {w : World} (hr : Region.ready md ops listed = rs) (hne : rs ≠ [])
    (h : AllReadyF P md ops Q Sw S ex fuel listed a w rs) : wpAnyF P md ops Q Sw S ex (fuel + 1) listed a w :=
  ⟨fun h0 => absurd (hr ▸ h0) hne, hr ▸ h⟩
theorem wpAnyF_done {listed : Array Bool} {a : Act} {w : World} (hr : Region.ready md ops listed = []) (h : Q .normal a w) : ∀ fuel, wpAnyF P md ops Q Sw S ex fuel listed a w
  | 0 => ⟨hr, h⟩
  | _ + 1 => ⟨fun _ => h, by rw [hr]; simp⟩
theorem wp_region_F {id : Nat} {a : Act} {w : World} (ex : Nat → Bool) (hm : P.follows .mixedOrders = true) (hS : Sw w.drew ∧ S w.drew)
    (h : Sw w.drew ∧ S w.drew → wpAnyF P .any ops Q Sw S ex ops.size (Array.replicate ops.size false) a w.drew) : (Code.region id ops true).wp P Q a w :=
  wp_region_any hm (wpAny_of_F _ _ _ _ (h hS))
end
end Go.Proofs.YtmgnekjhlfghaaaGreat

/-
  The laws' helper of layer 17: answers: what changes nothing.
-/
namespace Go.Proofs.YtmgnekjhlfghaaaGreat
open Go.RowKit
set_option linter.unusedVariables false
set_option linter.unusedSimpArgs false

abbrev opO (on kind n : Int) (ca : Option Addr) (cn cc : Nat) : Obj := .cells #[.int .i64 on, .int .i64 kind, .int .i64 n, .slice ca cn cc] 109
def ex21 (j : Nat) : Bool := Nat.ble 26 j && Nat.ble j 34
theorem ex21_hi (j : Nat) (h : 35 ≤ j) : ex21 j = false := by
  have h2 : Nat.ble j 34 = false := by
    cases e : Nat.ble j 34
    · rfl
    · exact absurd (Nat.le_of_ble_eq_true e) (by omega)
  unfold ex21
  rw [h2, Bool.and_false]
section
variable {W : Base} {w : World} {R : List Thing}
set_option maxHeartbeats 1000000 in
set_option maxRecDepth 100000 in
theorem st_answers_tells (H : St W w R) (i j : Nat) {S X : Nat} {v : SV} (hi : R[i]? = some (SkT S v)) (hj : R[j]? = some (XsT X v)) (hv : v.wf) (on kind n : Int) (ca : Option Addr) (cn cc : Nat) (k0 : (kind == 0) = false) (k1 : (kind == 1) = false) (k3 : (kind == 3) = false) :
    Calls Tryz.prog 47 #[.agg #[.pointer (some ⟨S, 0, none⟩), .pointer (some ⟨X, 0, none⟩)], .agg #[.int .i64 on, .int .i64 kind, .int .i64 n, .slice ca cn cc]] w fun e w' => e = .returned (.bool true) ∧ St W w' R := by
  obtain ⟨b, hb⟩ : ∃ b, w.heap.size = b := ⟨_, rfl⟩
  have H1 := hid (show St W ((w.alloc (prO S X)).alloc (opO on kind n ca cn cc)) ((R ++ [BlkT b (prO S X), BlkT (b + 1) (opO on kind n ca cn cc)]) ++ []) from by
    have h := (H.alloc (prO S X)).allocAt (opO on kind n ca cn cc) (w.heap.size + 1) (by simp)
    rw [List.append_assoc, hb] at h
    rw [List.append_nil]
    exact h)
  have HB := hid hb
  have HGi := hid (show ∀ T : List Thing, ((R ++ [BlkT b (prO S X), BlkT (b + 1) (opO on kind n ca cn cc)]) ++ T)[i]? = some (SkT S v) from fun T => get_l (get_l hi))
  have HGj := hid (show ∀ T : List Thing, ((R ++ [BlkT b (prO S X), BlkT (b + 1) (opO on kind n ca cn cc)]) ++ T)[j]? = some (XsT X v) from fun T => get_l (get_l hj))
  have HS := hid (show ∀ (wx : World) (T : List Thing), St W wx ((R ++ [BlkT b (prO S X), BlkT (b + 1) (opO on kind n ca cn cc)]) ++ T) → wx.cell? ⟨b, 0, none⟩ = some (.pointer (some ⟨S, 0, none⟩)) ∧ wx.cell? ⟨b, 1, none⟩ = some (.pointer (some ⟨X, 0, none⟩)) ∧ wx.cell? ⟨b + 1, 1, none⟩ = some (.int .i64 kind) ∧ wx.cell? ⟨b + 1, 2, none⟩ = some (.int .i64 n) ∧ wx.cell? ⟨b + 1, 3, none⟩ = some (.slice ca cn cc) from fun wx T h => by
    have b1 := h.drop.blk (R.length + 0) (by rw [get_behind]; rfl)
    have b2 := h.drop.blk (R.length + 1) (by rw [get_behind]; rfl)
    exact ⟨cell_blk (i := 0) b1 rfl, cell_blk (i := 1) b1 rfl, cell_blk (i := 1) b2 rfl, cell_blk (i := 2) b2 rfl, cell_blk (i := 3) b2 rfl⟩)
  have hlb : b < ((w.alloc (prO S X)).alloc (opO on kind n ca cn cc)).heap.size := by simp; omega
  clear H hi hj hb
  go_enter Tryz.func47, Tryz.ntmps47
  go_upto_region 1 with (fail)
  rw [HB.out]
  generalize (w.alloc (prO S X)).alloc (opO on kind n ca cn cc) = w1 at H1 hlb ⊢
  obtain ⟨q0, q1, q2, q3, q4⟩ := HS.out _ _ H1.out
  go_wp2_with fail
  have H2 := hid H1.out.drew
  obtain ⟨Q, pv, lv, ll, hll, K1⟩ := H2.out.sk i (HGi.out _)
  obtain ⟨Q2, qa, qc, pa, pc, la, lc, ll2, hX⟩ := H2.out.xsIn j (HGj.out _)
  have d0 := cell_blk (i := 0) K1.skS rfl
  have hxx := hX.c0
  have hlS := lt_of_block K1.skS
  have HK1 := hid K1
  have HX := hid hX
  have HS2 := hid (show ∀ wx, Fr [] w1.drew wx → wx.cell? ⟨b, 0, none⟩ = some (.pointer (some ⟨S, 0, none⟩)) ∧ wx.cell? ⟨b, 1, none⟩ = some (.pointer (some ⟨X, 0, none⟩)) ∧ wx.cell? ⟨S, 0, none⟩ = some (.pointer (some ⟨Q, 0, none⟩)) ∧ wx.cell? ⟨X, 0, none⟩ = some (.int .i64 v.res) ∧ wx.cell? ⟨X, 1, none⟩ = some (.pointer (some ⟨Q2, 0, none⟩)) from fun wx hF => ⟨(HS.out _ _ (H2.out.same hF)).1, (HS.out _ _ (H2.out.same hF)).2.1, hF.cell0 d0, hF.cell0 hxx.1, hF.cell0 hxx.2.1⟩)
  have HF := hid (Fr.refl [] w1.drew)
  clear q0 q1 q2 q3 q4 d0 hxx hX K1 hll k0 k1 k3
  have HS1 := hid (show ∀ (wx : World) (T : List Thing), St W wx ((R ++ [BlkT b (prO S X), BlkT (b + 1) (opO on kind n ca cn cc)]) ++ T) → (fun wx : World => wx.cell? ⟨b, 0, none⟩ = some (.pointer (some ⟨S, 0, none⟩)) ∧ wx.cell? ⟨b, 1, none⟩ = some (.pointer (some ⟨X, 0, none⟩))) wx from fun wx T h => ⟨(HS.out wx T h).1, (HS.out wx T h).2.1⟩)
  refine wp_region_F (Sw := fun wx : World => wx.cell? ⟨b, 0, none⟩ = some (.pointer (some ⟨S, 0, none⟩)) ∧ wx.cell? ⟨b, 1, none⟩ = some (.pointer (some ⟨X, 0, none⟩))) (S := fun wx : World => wx.cell? ⟨b, 0, none⟩ = some (.pointer (some ⟨S, 0, none⟩)) ∧ wx.cell? ⟨b, 1, none⟩ = some (.pointer (some ⟨X, 0, none⟩)) ∧ wx.cell? ⟨S, 0, none⟩ = some (.pointer (some ⟨Q, 0, none⟩)) ∧ wx.cell? ⟨X, 0, none⟩ = some (.int .i64 v.res) ∧ wx.cell? ⟨X, 1, none⟩ = some (.pointer (some ⟨Q2, 0, none⟩))) ex21 (by kernel_rfl) ⟨HS1.out _ _ H2.out, HS2.out _ HF.out⟩ (fun hHeld => ?_)
  refine takeS (i := 0) (d := 112) (v := ?_) rfl rfl (by kernel_rfl) (by kernel_rfl) (by kernel_rfl) (by kernel_rfl) (by kernel_rfl) ex21_hi (fun _ _ _ h => h) (Or.inl ⟨by rfl, ?_⟩) hHeld ?_
  rotate_left
  · intro wq hSw; (try dsimp only at hSw); go_simp; all_goals (with_reducible rfl)
  simp only [Act.put, List.setIfInBounds_toArray, List.set_cons_zero, List.set_cons_succ]
  refine takeS (i := 1) (d := 113) (v := ?_) rfl rfl (by kernel_rfl) (by kernel_rfl) (by kernel_rfl) (by kernel_rfl) (by kernel_rfl) ex21_hi (fun _ _ _ h => h) (Or.inl ⟨by rfl, ?_⟩) hHeld ?_
  rotate_left
  · intro wq hSw; (try dsimp only at hSw); go_simp; all_goals (with_reducible rfl)
  simp only [Act.put, List.setIfInBounds_toArray, List.set_cons_zero, List.set_cons_succ]
  refine takeS (i := 2) (d := 114) (v := ?_) rfl rfl (by kernel_rfl) (by kernel_rfl) (by kernel_rfl) (by kernel_rfl) (by kernel_rfl) ex21_hi (fun _ _ _ h => h) (Or.inl ⟨by rfl, ?_⟩) hHeld ?_
  rotate_left
  · intro wq hSw; (try dsimp only at hSw); go_simp; all_goals (with_reducible rfl)
  simp only [Act.put, List.setIfInBounds_toArray, List.set_cons_zero, List.set_cons_succ]
  refine takeS (i := 3) (d := 115) (v := ?_) rfl rfl (by kernel_rfl) (by kernel_rfl) (by kernel_rfl) (by kernel_rfl) (by kernel_rfl) ex21_hi (fun _ _ _ h => h) (Or.inl ⟨by rfl, ?_⟩) hHeld ?_
  rotate_left
  · intro wq hSw; (try dsimp only at hSw); go_simp; all_goals (with_reducible rfl)
  simp only [Act.put, List.setIfInBounds_toArray, List.set_cons_zero, List.set_cons_succ]
  refine takeS (i := 4) (d := 116) (v := ?_) rfl rfl (by kernel_rfl) (by kernel_rfl) (by kernel_rfl) (by kernel_rfl) (by kernel_rfl) ex21_hi (fun _ _ _ h => h) (Or.inl ⟨by rfl, ?_⟩) hHeld ?_
  rotate_left
  · intro wq hSw; (try dsimp only at hSw); go_simp; all_goals (with_reducible rfl)
  simp only [Act.put, List.setIfInBounds_toArray, List.set_cons_zero, List.set_cons_succ]
  refine takeS (i := 5) (d := 117) (v := ?_) rfl rfl (by kernel_rfl) (by kernel_rfl) (by kernel_rfl) (by kernel_rfl) (by kernel_rfl) ex21_hi (fun _ _ _ h => h) (Or.inl ⟨by rfl, ?_⟩) hHeld ?_
  rotate_left
  · intro wq hSw; (try dsimp only at hSw); go_simp; all_goals (with_reducible rfl)
  simp only [Act.put, List.setIfInBounds_toArray, List.set_cons_zero, List.set_cons_succ]
  refine takeS (i := 7) (d := 119) (v := ?_) rfl rfl (by kernel_rfl) (by kernel_rfl) (by kernel_rfl) (by kernel_rfl) (by kernel_rfl) ex21_hi (fun _ _ _ h => h) (Or.inl ⟨by rfl, ?_⟩) hHeld ?_
  rotate_left
  · intro wq hSw; (try dsimp only at hSw); go_simp; all_goals (with_reducible rfl)
  simp only [Act.put, List.setIfInBounds_toArray, List.set_cons_zero, List.set_cons_succ]
  refine takeS (i := 8) (d := 120) (v := ?_) rfl rfl (by kernel_rfl) (by kernel_rfl) (by kernel_rfl) (by kernel_rfl) (by kernel_rfl) ex21_hi (fun _ _ _ h => h) (Or.inl ⟨by rfl, ?_⟩) hHeld ?_
  rotate_left
  · intro wq hSw; (try dsimp only at hSw); go_simp; all_goals (with_reducible rfl)
  simp only [Act.put, List.setIfInBounds_toArray, List.set_cons_zero, List.set_cons_succ]
  refine takeS (i := 9) (d := 121) (v := ?_) rfl rfl (by kernel_rfl) (by kernel_rfl) (by kernel_rfl) (by kernel_rfl) (by kernel_rfl) ex21_hi (fun _ _ _ h => h) (Or.inl ⟨by rfl, ?_⟩) hHeld ?_
  rotate_left
  · intro wq hSw; (try dsimp only at hSw); go_simp; all_goals (with_reducible rfl)
  simp only [Act.put, List.setIfInBounds_toArray, List.set_cons_zero, List.set_cons_succ]
  refine takeS (i := 10) (d := 122) (v := ?_) rfl rfl (by kernel_rfl) (by kernel_rfl) (by kernel_rfl) (by kernel_rfl) (by kernel_rfl) ex21_hi (fun _ _ _ h => h) (Or.inl ⟨by rfl, ?_⟩) hHeld ?_
  rotate_left
  · intro wq hSw; (try dsimp only at hSw); go_simp; all_goals (with_reducible rfl)
  simp only [Act.put, List.setIfInBounds_toArray, List.set_cons_zero, List.set_cons_succ]
  refine takeS (i := 11) (d := 123) (v := ?_) rfl rfl (by kernel_rfl) (by kernel_rfl) (by kernel_rfl) (by kernel_rfl) (by kernel_rfl) ex21_hi (fun _ _ _ h => h) (Or.inl ⟨by rfl, ?_⟩) hHeld ?_
  rotate_left
  · intro wq hSw; (try dsimp only at hSw); go_simp; all_goals (with_reducible rfl)
  simp only [Act.put, List.setIfInBounds_toArray, List.set_cons_zero, List.set_cons_succ]
  refine wpAnyF_ready (rs := [6]) (by kernel_rfl) (by simp) ?_
  refine AllReadyF.cons rfl (fun K hK => ?_) AllReadyF.nil
  go_simp
  go_at_call 95
  with_reducible refine (st_head HK1.out _ sk_get1 hv.q.n).mono ?_
  rintro e w7 ⟨rfl, hF⟩
  have HF := hid hF
  clear hF
  refine hK.out _ _ (HS1.out _ _ (H2.out.same HF.out)) (fun _ => HS2.out _ HF.out) (fun hHeld => ?_)
  clear hK K
  have hHeld := And.intro hHeld.1 (hHeld.2 (by decide))
  refine wpAnyF_ready (rs := [12]) (by kernel_rfl) (by simp) ?_
  refine AllReadyF.cons rfl (fun K hK => ?_) AllReadyF.nil
  go_simp
  go_at_call 96
  with_reducible refine (x_head _ Q2 v.q qa qc (HX.out.q.fr0 HF.out) hv.q.n).mono ?_
  rintro e w8 ⟨rfl, rfl⟩
  refine hK.out _ _ (HS1.out _ _ (H2.out.same HF.out)) (fun _ => HS2.out _ HF.out) (fun hHeld => ?_)
  clear hK K
  have hHeld := And.intro hHeld.1 (hHeld.2 (by decide))
  refine takeS (i := 13) (d := 125) (v := ?_) rfl rfl (by kernel_rfl) (by kernel_rfl) (by kernel_rfl) (by kernel_rfl) (by kernel_rfl) ex21_hi (fun _ _ _ h => h) (Or.inl ⟨by rfl, ?_⟩) hHeld ?_
  rotate_left
  · intro wq hSw; (try dsimp only at hSw); go_simp; all_goals (with_reducible rfl)
  simp only [Act.put, List.setIfInBounds_toArray, List.set_cons_zero, List.set_cons_succ]
  refine takeS (i := 14) (d := 126) (v := ?_) rfl rfl (by kernel_rfl) (by kernel_rfl) (by kernel_rfl) (by kernel_rfl) (by kernel_rfl) ex21_hi (fun _ _ _ h => h) (Or.inl ⟨by rfl, ?_⟩) hHeld ?_
  rotate_left
  · intro wq hSw; (try dsimp only at hSw); go_simp; all_goals (with_reducible rfl)
  simp only [Act.put, List.setIfInBounds_toArray, List.set_cons_zero, List.set_cons_succ]
  refine takeS (i := 15) (d := 127) (v := ?_) rfl rfl (by kernel_rfl) (by kernel_rfl) (by kernel_rfl) (by kernel_rfl) (by kernel_rfl) ex21_hi (fun _ _ _ h => h) (Or.inl ⟨by rfl, ?_⟩) hHeld ?_
  rotate_left
  · intro wq hSw; (try dsimp only at hSw); go_simp; all_goals (with_reducible rfl)
  simp only [Act.put, List.setIfInBounds_toArray, List.set_cons_zero, List.set_cons_succ]
  refine takeS (i := 16) (d := 128) (v := ?_) rfl rfl (by kernel_rfl) (by kernel_rfl) (by kernel_rfl) (by kernel_rfl) (by kernel_rfl) ex21_hi (fun _ _ _ h => h) (Or.inl ⟨by rfl, ?_⟩) hHeld ?_
  rotate_left
  · intro wq hSw; (try dsimp only at hSw); go_simp; all_goals (with_reducible rfl)
  simp only [Act.put, List.setIfInBounds_toArray, List.set_cons_zero, List.set_cons_succ]
  refine takeS (i := 18) (d := 130) (v := ?_) rfl rfl (by kernel_rfl) (by kernel_rfl) (by kernel_rfl) (by kernel_rfl) (by kernel_rfl) ex21_hi (fun _ _ _ h => h) (Or.inl ⟨by rfl, ?_⟩) hHeld ?_
  rotate_left
  · intro wq hSw; (try dsimp only at hSw); go_simp; all_goals (with_reducible rfl)
  simp only [Act.put, List.setIfInBounds_toArray, List.set_cons_zero, List.set_cons_succ]
  refine takeS (i := 19) (d := 131) (v := ?_) rfl rfl (by kernel_rfl) (by kernel_rfl) (by kernel_rfl) (by kernel_rfl) (by kernel_rfl) ex21_hi (fun _ _ _ h => h) (Or.inl ⟨by rfl, ?_⟩) hHeld ?_
  rotate_left
  · intro wq hSw; (try dsimp only at hSw); go_simp; all_goals (with_reducible rfl)
  simp only [Act.put, List.setIfInBounds_toArray, List.set_cons_zero, List.set_cons_succ]
  refine takeS (i := 20) (d := 132) (v := ?_) rfl rfl (by kernel_rfl) (by kernel_rfl) (by kernel_rfl) (by kernel_rfl) (by kernel_rfl) ex21_hi (fun _ _ _ h => h) (Or.inl ⟨by rfl, ?_⟩) hHeld ?_
  rotate_left
  · intro wq hSw; (try dsimp only at hSw); go_simp; all_goals (with_reducible rfl)
  simp only [Act.put, List.setIfInBounds_toArray, List.set_cons_zero, List.set_cons_succ]
  refine takeS (i := 21) (d := 133) (v := ?_) rfl rfl (by kernel_rfl) (by kernel_rfl) (by kernel_rfl) (by kernel_rfl) (by kernel_rfl) ex21_hi (fun _ _ _ h => h) (Or.inl ⟨by rfl, ?_⟩) hHeld ?_
  rotate_left
  · intro wq hSw; (try dsimp only at hSw); go_simp; all_goals (with_reducible rfl)
  simp only [Act.put, List.setIfInBounds_toArray, List.set_cons_zero, List.set_cons_succ]
  refine takeS (i := 22) (d := 134) (v := ?_) rfl rfl (by kernel_rfl) (by kernel_rfl) (by kernel_rfl) (by kernel_rfl) (by kernel_rfl) ex21_hi (fun _ _ _ h => h) (Or.inl ⟨by rfl, ?_⟩) hHeld ?_
  rotate_left
  · intro wq hSw; (try dsimp only at hSw); go_simp; all_goals (with_reducible rfl)
  simp only [Act.put, List.setIfInBounds_toArray, List.set_cons_zero, List.set_cons_succ]
  refine wpAnyF_ready (rs := [17]) (by kernel_rfl) (by simp) ?_
  refine AllReadyF.cons rfl (fun K hK => ?_) AllReadyF.nil
  go_simp
  go_at_call 45
  with_reducible refine (st_sreserved (H2.out.same HF.out) i (HGi.out _)).mono ?_
  rintro e w9 ⟨rfl, rfl⟩
  refine hK.out _ _ (HS1.out _ _ (H2.out.same HF.out)) (fun _ => HS2.out _ HF.out) (fun hHeld => ?_)
  clear hK K
  have hHeld := And.intro hHeld.1 (hHeld.2 (by decide))
  refine takeS (i := 23) (d := 135) (v := ?_) rfl rfl (by kernel_rfl) (by kernel_rfl) (by kernel_rfl) (by kernel_rfl) (by kernel_rfl) ex21_hi (fun _ _ _ h => h) (Or.inl ⟨by rfl, ?_⟩) hHeld ?_
  rotate_left
  · intro wq hSw; (try dsimp only at hSw); go_simp; all_goals (with_reducible rfl)
  simp only [Act.put, List.setIfInBounds_toArray, List.set_cons_zero, List.set_cons_succ]
  refine takeS (i := 24) (d := 136) (v := ?_) rfl rfl (by kernel_rfl) (by kernel_rfl) (by kernel_rfl) (by kernel_rfl) (by kernel_rfl) ex21_hi (fun _ _ _ h => h) (Or.inl ⟨by rfl, ?_⟩) hHeld ?_
  rotate_left
  · intro wq hSw; (try dsimp only at hSw); go_simp; all_goals (with_reducible rfl)
  simp only [Act.put, List.setIfInBounds_toArray, List.set_cons_zero, List.set_cons_succ]
  refine takeS (i := 25) (d := 137) (v := ?_) rfl rfl (by kernel_rfl) (by kernel_rfl) (by kernel_rfl) (by kernel_rfl) (by kernel_rfl) ex21_hi (fun _ _ _ h => h) (Or.inl ⟨by rfl, ?_⟩) hHeld ?_
  rotate_left
  · intro wq hSw; (try dsimp only at hSw); go_simp; all_goals (with_reducible rfl)
  simp only [Act.put, List.setIfInBounds_toArray, List.set_cons_zero, List.set_cons_succ]
  refine takeW (i := 26) (d := 138) (v := ?_) rfl rfl (by kernel_rfl) (by kernel_rfl) (by kernel_rfl) (by kernel_rfl) (fun _ _ _ h => h) (Or.inl ⟨by rfl, ?_⟩) hHeld.1 ?_
  rotate_left
  · intro wq hSw; (try dsimp only at hSw); go_simp; all_goals (with_reducible rfl)
  simp only [Act.put, List.setIfInBounds_toArray, List.set_cons_zero, List.set_cons_succ]
  refine takeW (i := 27) (d := 139) (v := ?_) rfl rfl (by kernel_rfl) (by kernel_rfl) (by kernel_rfl) (by kernel_rfl) (fun _ _ _ h => h) (Or.inl ⟨by rfl, ?_⟩) hHeld.1 ?_
  rotate_left
  · intro wq hSw; (try dsimp only at hSw); go_simp; all_goals (with_reducible rfl)
  simp only [Act.put, List.setIfInBounds_toArray, List.set_cons_zero, List.set_cons_succ]
  refine takeW (i := 29) (d := 141) (v := ?_) rfl rfl (by kernel_rfl) (by kernel_rfl) (by kernel_rfl) (by kernel_rfl) (fun _ _ _ h => h) (Or.inl ⟨by rfl, ?_⟩) hHeld.1 ?_
  rotate_left
  · intro wq hSw; (try dsimp only at hSw); go_simp; all_goals (with_reducible rfl)
  simp only [Act.put, List.setIfInBounds_toArray, List.set_cons_zero, List.set_cons_succ]
  refine takeW (i := 30) (d := 142) (v := ?_) rfl rfl (by kernel_rfl) (by kernel_rfl) (by kernel_rfl) (by kernel_rfl) (fun _ _ _ h => h) (Or.inl ⟨by rfl, ?_⟩) hHeld.1 ?_
  rotate_left
  · intro wq hSw; (try dsimp only at hSw); go_simp; all_goals (with_reducible rfl)
  simp only [Act.put, List.setIfInBounds_toArray, List.set_cons_zero, List.set_cons_succ]
  have H5 := hid (H2.out.same HF.out)
  refine wpAnyF_ready (rs := [28]) (by kernel_rfl) (by simp) ?_
  refine AllReadyF.cons rfl (fun K hK => ?_) AllReadyF.nil
  go_simp
  go_at_call 10
  with_reducible refine (st_sview H5.out i (HGi.out _) hv).mono ?_
  rintro e w2 ⟨a2, l2, rfl, h2a, h2b, H6⟩
  rw [List.append_assoc] at H6
  have H6 := hid H6
  have HD := hid (show VOk v l2 from ⟨hv, h2a, h2b⟩)
  clear h2a h2b
  refine hK.out _ _ (HS1.out _ _ H6.out) (fun h => absurd h (by decide)) (fun hHeld => ?_)
  clear hK K
  refine wpAnyF_ready (rs := [31]) (by kernel_rfl) (by simp) ?_
  refine AllReadyF.cons rfl (fun K hK => ?_) AllReadyF.nil
  go_simp
  go_at_call 16
  with_reducible refine (st_tview H6.out j (HGj.out _) hv).mono ?_
  rintro e w3 ⟨a3, c3, l3, rfl, h3, H7⟩
  rw [List.append_assoc] at H7
  have hvk := H7.vok ((R ++ [BlkT b (prO S X), BlkT (b + 1) (opO on kind n ca cn cc)]).length + 0) (by rw [get_behind]; rfl) HD.out
  have hdv := H7.dvIn ((R ++ [BlkT b (prO S X), BlkT (b + 1) (opO on kind n ca cn cc)]).length + 1) (by rw [get_behind]; rfl)
  have HVD := hid (And.intro hvk hdv)
  have H7 := hid H7
  have h3 := hid h3
  clear hvk hdv
  refine hK.out _ _ (HS1.out _ _ H7.out) (fun h => absurd h (by decide)) (fun hHeld => ?_)
  clear hK K
  refine wpAnyF_ready (rs := [32]) (by kernel_rfl) (by simp) ?_
  refine AllReadyF.cons rfl (fun K hK => ?_) AllReadyF.nil
  go_simp
  go_at_call 15
  with_reducible refine (st_vsame H7.out v.res HVD.out.1 HVD.out.2 (HD.out.eq.trans h3.out.symm)).mono ?_
  rintro e w4 ⟨rfl, H8⟩
  have H8 := hid H8
  refine hK.out _ _ (HS1.out _ _ H8.out) (fun h => absurd h (by decide)) (fun hHeld => ?_)
  clear hK K
  refine takeW (i := 33) (d := 145) (v := ?_) rfl rfl (by kernel_rfl) (by kernel_rfl) (by kernel_rfl) (by kernel_rfl) (fun _ _ _ h => h) (Or.inl ⟨by rfl, ?_⟩) hHeld.1 ?_
  rotate_left
  · intro wq hSw; (try dsimp only at hSw); go_simp; all_goals (with_reducible rfl)
  simp only [Act.put, List.setIfInBounds_toArray, List.set_cons_zero, List.set_cons_succ]
  refine wpAnyF_ready (rs := [34]) (by kernel_rfl) (by simp) ?_
  refine AllReadyF.cons rfl (fun K hK => ?_) AllReadyF.nil
  go_simp
  refine hK.out _ _ (HS1.out _ _ H8.out) (fun h => absurd h (by decide)) (fun hHeld => ?_)
  clear hK K
  refine wpAnyF_done (by kernel_rfl) ?_ _
  go_wp2_with fail
  go_ret
  have h := H8.out.drop
  exact ⟨rfl, h.drop⟩
set_option maxHeartbeats 1000000 in
set_option maxRecDepth 100000 in
theorem st_answers_bytes (H : St W w R) (i j : Nat) {S X : Nat} {v : SV} (hi : R[i]? = some (SkT S v)) (hj : R[j]? = some (XsT X v)) (hv : v.wf) (on n : Int) (ca : Option Addr) (cn cc : Nat) :
    Calls Tryz.prog 47 #[.agg #[.pointer (some ⟨S, 0, none⟩), .pointer (some ⟨X, 0, none⟩)], .agg #[.int .i64 on, .int .i64 1, .int .i64 n, .slice ca cn cc]] w fun e w' => e = .returned (.bool true) ∧ St W w' R := by
  obtain ⟨kind, hkind⟩ : ∃ kind : Int, kind = 1 := ⟨_, rfl⟩
  rw [← hkind]
  have HKD := hid hkind
  clear hkind
  obtain ⟨b, hb⟩ : ∃ b, w.heap.size = b := ⟨_, rfl⟩
  have H1 := hid (show St W ((w.alloc (prO S X)).alloc (opO on kind n ca cn cc)) ((R ++ [BlkT b (prO S X), BlkT (b + 1) (opO on kind n ca cn cc)]) ++ []) from by
    have h := (H.alloc (prO S X)).allocAt (opO on kind n ca cn cc) (w.heap.size + 1) (by simp)
    rw [List.append_assoc, hb] at h
    rw [List.append_nil]
    exact h)
  have HB := hid hb
  have HGi := hid (show ∀ T : List Thing, ((R ++ [BlkT b (prO S X), BlkT (b + 1) (opO on kind n ca cn cc)]) ++ T)[i]? = some (SkT S v) from fun T => get_l (get_l hi))
  have HGj := hid (show ∀ T : List Thing, ((R ++ [BlkT b (prO S X), BlkT (b + 1) (opO on kind n ca cn cc)]) ++ T)[j]? = some (XsT X v) from fun T => get_l (get_l hj))
  have HS := hid (show ∀ (wx : World) (T : List Thing), St W wx ((R ++ [BlkT b (prO S X), BlkT (b + 1) (opO on kind n ca cn cc)]) ++ T) → wx.cell? ⟨b, 0, none⟩ = some (.pointer (some ⟨S, 0, none⟩)) ∧ wx.cell? ⟨b, 1, none⟩ = some (.pointer (some ⟨X, 0, none⟩)) ∧ wx.cell? ⟨b + 1, 1, none⟩ = some (.int .i64 kind) ∧ wx.cell? ⟨b + 1, 2, none⟩ = some (.int .i64 n) ∧ wx.cell? ⟨b + 1, 3, none⟩ = some (.slice ca cn cc) from fun wx T h => by
    have b1 := h.drop.blk (R.length + 0) (by rw [get_behind]; rfl)
    have b2 := h.drop.blk (R.length + 1) (by rw [get_behind]; rfl)
    exact ⟨cell_blk (i := 0) b1 rfl, cell_blk (i := 1) b1 rfl, cell_blk (i := 1) b2 rfl, cell_blk (i := 2) b2 rfl, cell_blk (i := 3) b2 rfl⟩)
  have hlb : b < ((w.alloc (prO S X)).alloc (opO on kind n ca cn cc)).heap.size := by simp; omega
  clear H hi hj hb
  go_enter Tryz.func47, Tryz.ntmps47
  go_upto_region 1 with (fail)
  rw [HB.out]
  generalize (w.alloc (prO S X)).alloc (opO on kind n ca cn cc) = w1 at H1 hlb ⊢
  obtain rfl := HKD.out
  obtain ⟨q0, q1, q2, q3, q4⟩ := HS.out _ _ H1.out
  have HN0 := hid (show w1.drew.cell? ⟨b, 0, none⟩ = some (.pointer (some ⟨S, 0, none⟩)) ∧ w1.drew.cell? ⟨b, 1, none⟩ = some (.pointer (some ⟨X, 0, none⟩)) from ⟨q0, q1⟩)
  have H2 := hid H1.out.drew
  go_wp2_with fail
  go_region_held3 (fun wx : World => wx.cell? ⟨b, 0, none⟩ = some (.pointer (some ⟨S, 0, none⟩)) ∧ wx.cell? ⟨b, 1, none⟩ = some (.pointer (some ⟨X, 0, none⟩))) ((first | with_reducible exact hNow.out | with_reducible exact HN0.out))
    (first
      | (go_at_call 17; with_reducible refine (st_sbytes H2.out i (HGi.out _) hv).mono ?_; rintro e w5 ⟨rfl, H5⟩; have hNow := hid (And.intro (HS.out _ _ H5).1 (HS.out _ _ H5).2.1); have H5 := hid H5)
      | (go_at_call 18; with_reducible refine (st_tbytes H5.out j (HGj.out _) hv).mono ?_; rintro e w6 ⟨rfl, H6⟩; have hNow := hid (And.intro (HS.out _ _ H6).1 (HS.out _ _ H6).2.1); have H6 := hid H6))
  go_wp2_with fail
  go_ret
  have h := H6.out.drop
  exact ⟨rfl, h.drop⟩
set_option maxHeartbeats 1000000 in
set_option maxRecDepth 100000 in
theorem st_answers_find (H : St W w R) (i j : Nat) {S X : Nat} {v : SV} (hi : R[i]? = some (SkT S v)) (hj : R[j]? = some (XsT X v)) (hv : v.wf) (on n : Int) (ca : Option Addr) (cn cc : Nat) :
    Calls Tryz.prog 47 #[.agg #[.pointer (some ⟨S, 0, none⟩), .pointer (some ⟨X, 0, none⟩)], .agg #[.int .i64 on, .int .i64 3, .int .i64 n, .slice ca cn cc]] w fun e w' => e = .returned (.bool true) ∧ St W w' R := by
  obtain ⟨p, z, hp⟩ : ∃ p z, v.sfind n = (p, z) := ⟨_, _, rfl⟩
  have HP := hid hp
  have H32 := hid (sfind_small hv hp)
  clear hp
  obtain ⟨kind, hkind⟩ : ∃ kind : Int, kind = 3 := ⟨_, rfl⟩
  rw [← hkind]
  have HKD := hid hkind
  clear hkind
  obtain ⟨b, hb⟩ : ∃ b, w.heap.size = b := ⟨_, rfl⟩
  have H1 := hid (show St W ((w.alloc (prO S X)).alloc (opO on kind n ca cn cc)) ((R ++ [BlkT b (prO S X), BlkT (b + 1) (opO on kind n ca cn cc)]) ++ []) from by
    have h := (H.alloc (prO S X)).allocAt (opO on kind n ca cn cc) (w.heap.size + 1) (by simp)
    rw [List.append_assoc, hb] at h
    rw [List.append_nil]
    exact h)
  have HB := hid hb
  have HGi := hid (show ∀ T : List Thing, ((R ++ [BlkT b (prO S X), BlkT (b + 1) (opO on kind n ca cn cc)]) ++ T)[i]? = some (SkT S v) from fun T => get_l (get_l hi))
  have HGj := hid (show ∀ T : List Thing, ((R ++ [BlkT b (prO S X), BlkT (b + 1) (opO on kind n ca cn cc)]) ++ T)[j]? = some (XsT X v) from fun T => get_l (get_l hj))
  have HS := hid (show ∀ (wx : World) (T : List Thing), St W wx ((R ++ [BlkT b (prO S X), BlkT (b + 1) (opO on kind n ca cn cc)]) ++ T) → wx.cell? ⟨b, 0, none⟩ = some (.pointer (some ⟨S, 0, none⟩)) ∧ wx.cell? ⟨b, 1, none⟩ = some (.pointer (some ⟨X, 0, none⟩)) ∧ wx.cell? ⟨b + 1, 1, none⟩ = some (.int .i64 kind) ∧ wx.cell? ⟨b + 1, 2, none⟩ = some (.int .i64 n) ∧ wx.cell? ⟨b + 1, 3, none⟩ = some (.slice ca cn cc) from fun wx T h => by
    have b1 := h.drop.blk (R.length + 0) (by rw [get_behind]; rfl)
    have b2 := h.drop.blk (R.length + 1) (by rw [get_behind]; rfl)
    exact ⟨cell_blk (i := 0) b1 rfl, cell_blk (i := 1) b1 rfl, cell_blk (i := 1) b2 rfl, cell_blk (i := 2) b2 rfl, cell_blk (i := 3) b2 rfl⟩)
  have hlb : b < ((w.alloc (prO S X)).alloc (opO on kind n ca cn cc)).heap.size := by simp; omega
  clear H hi hj hb
  go_enter Tryz.func47, Tryz.ntmps47
  go_upto_region 1 with (fail)
  rw [HB.out]
  generalize (w.alloc (prO S X)).alloc (opO on kind n ca cn cc) = w1 at H1 hlb ⊢
  obtain rfl := HKD.out
  obtain ⟨q0, q1, q2, q3, q4⟩ := HS.out _ _ H1.out
  go_wp2_with fail
  refine (st_sfindV H1.out i (HGi.out _) hv n HP.out).mono ?_
  rintro e w2 ⟨a2, rfl, H2⟩
  rw [List.append_assoc] at H2
  clear q0 q1 q2 q3 q4
  obtain ⟨q0, q1, q2, q3, q4⟩ := HS.out _ _ H2
  have H3 := hid (H2.alloc (pO (p, ⟨a2, p.log.length⟩)))
  have hl2 := lt_of_block (H2.drop.blk (R.length + 1) (by rw [get_behind]; rfl))
  have hl1 := lt_of_block (H2.drop.blk (R.length + 0) (by rw [get_behind]; rfl))
  clear H2 hlb
  unfold pF
  go_wp2_with fail
  generalize w2.heap.size = g2 at H3 ⊢
  have h3 := H3.out
  rw [List.append_assoc] at h3
  refine (st_tfindV h3 j (HGj.out _) hv n HP.out).mono ?_
  rintro e w4 ⟨a4, c4, rfl, H4⟩
  rw [List.append_assoc] at H4
  have hg := H4.blk ((R ++ [BlkT b (prO S X), BlkT (b + 1) (opO on 3 n ca cn cc)]).length + 1) (by rw [get_behind]; rfl)
  have x0 := cell_blk (i := 0) hg rfl
  have x1 := cell_blk (i := 1) hg rfl
  have x2 := cell_blk (i := 2) hg rfl
  have x3 := cell_blk (i := 3) hg rfl
  have x4 := cell_blk (i := 4) hg rfl
  have x5 := cell_blk (i := 5) hg rfl
  have x6 := cell_blk (i := 6) hg rfl
  have x7 := cell_blk (i := 7) hg rfl
  have x8 := cell_blk (i := 8) hg rfl
  have x9 := cell_blk (i := 9) hg rfl
  have hlg := lt_of_block hg
  dsimp only at x0 x1 x2 x3 x4 x5 x6 x7 x8 x9
  have hpv1 := H4.pvS ((R ++ [BlkT b (prO S X), BlkT (b + 1) (opO on 3 n ca cn cc)]).length + 0) (by rw [get_behind]; rfl) H32.out
  have hpv2 := H4.pvR ((R ++ [BlkT b (prO S X), BlkT (b + 1) (opO on 3 n ca cn cc)]).length + 2) (by rw [get_behind]; rfl)
  have HPV := hid (And.intro hpv1 hpv2)
  have H5 := hid (H4.alloc_ (pO (p, ⟨a4, c4⟩)))
  have HSM := hid (fun (wx : World) (hF : Fr [] w4 wx) => st_psame (W := W) (R := (R ++ [BlkT b (prO S X), BlkT (b + 1) (opO on 3 n ca cn cc)]) ++ [LgT a2 p.log]) ((H4.same hF).sub (A := (R ++ [BlkT b (prO S X), BlkT (b + 1) (opO on 3 n ca cn cc)]) ++ [LgT a2 p.log]) (B := [BlkT g2 (pO (p, ⟨a2, p.log.length⟩)), lgR (p.log, ⟨a4, c4⟩)]) (List.Perm.of_eq (by simp))) (p, ⟨a2, p.log.length⟩) (p, ⟨a4, c4⟩) (In.fr0 hpv1 hF) (In.fr0 hpv2 hF) rfl)
  clear hg H4 h3 H3 hpv1 hpv2 q0 q1 q2 q3 q4 hl2
  unfold pF
  cases z
  · go_wp2_with fail
    refine (HSM.out _ ((Fr.refl [] w4).alloc _)).mono ?_
    rintro e w6 ⟨rfl, H6⟩
    have H6 := hid H6
    clear x0 x1 x2 x3 x4 x5 x6 x7 x8 x9 hlg
    go_wp2_with fail
    go_ret
    exact ⟨rfl, H6.out.drop.drop⟩
  · go_wp2_with fail
    refine (HSM.out _ ((Fr.refl [] w4).alloc _)).mono ?_
    rintro e w6 ⟨rfl, H6⟩
    have H6 := hid H6
    clear x0 x1 x2 x3 x4 x5 x6 x7 x8 x9 hlg
    go_wp2_with fail
    go_ret
    exact ⟨rfl, H6.out.drop.drop⟩
end
end Go.Proofs.YtmgnekjhlfghaaaGreat

/-
  append where there is room: the row stays where it is. Of no program.
-/
namespace Go.Proofs.YtmgnekjhlfghaaaGreat
open Go.RowKit
set_option linter.unusedVariables false
set_option linter.unusedSimpArgs false

theorem append_in_blk {P : Program} (w : World) (t ty e : TypeId) (i : TypeInfo) (size : Nat) (ht : P.underlying t = some (.slice e)) (hi : P.info? e = some i) (hsize : i.size = size) (hsz : 0 < size)
    (g n cap : Nat) (xs : List Value) (hown : w.ownsRow 0 e size (.slice (some ⟨g, 0, none⟩) n cap) n xs)
    (ao : Option Addr) (m c : Nat) (V : Nat → Value) (hI : In w size ao m c V) (h1 : ∀ j, j < m * size → (V j).oneCell' = true) (hroom : n + m ≤ cap) :
    ∃ w', (Builtin.append_ #[t, t] ty #[.slice (some ⟨g, 0, none⟩) n cap, .slice ao m c]).run P w = .ok (.slice (some ⟨g, 0, none⟩) (n + m) cap) w' ∧
      w'.ownsRow 0 e size (.slice (some ⟨g, 0, none⟩) (n + m) cap) (n + m) (xs ++ (List.range (m * size)).map V) ∧ Fr [g] w w' := by
  have hown2 := hown
  obtain ⟨hxl, hown'⟩ := hown
  rcases hown' with ⟨h, _⟩ | ⟨g', cap', cur, hv, hbg, hg, hnc, hcm, hcs, htake⟩
  · simp at h
  simp only [Value.slice.injEq, Option.some.injEq, Addr.mk.injEq, and_true, true_and] at hv
  obtain ⟨rfl, rfl⟩ := hv
  rcases ao with _ | ad
  · have hm : m = 0 := by
      rcases Nat.eq_zero_or_pos m with h0 | h0
      · exact h0
      · obtain ⟨b, off, hb⟩ := hI.sm h0; simp at hb
    subst hm
    have hr := run_append_nothing (P := P) w t t ty e i ht hi (some ⟨g, 0, none⟩) n cap hnc (.slice none 0 c) (Src.ofNil w ht c)
    exact ⟨w, hr, by simpa using hown2, Fr.refl _ _⟩
  · have hnews : ∀ j u, ((List.range (m * size)).map V)[j]? = some u → w.cell? (ad.add j) = some u := by
      intro j u hu
      have hj : j < m * size := by
        rcases Nat.lt_or_ge j (m * size) with h2 | h2
        · exact h2
        · rw [List.getElem?_eq_none (by simpa using h2)] at hu; simp at hu
      have hm : 0 < m := by
        rcases Nat.eq_zero_or_pos m with h0 | h0
        · subst h0; omega
        · exact h0
      obtain ⟨b, off, hb⟩ := hI.sm hm
      simp only [Option.some.injEq] at hb
      subst hb
      have e1 : (⟨b, off, none⟩ : Addr).add j = ⟨b, off + j, none⟩ := by unfold Addr.add; by_cases hj : j = 0 <;> simp [hj]
      rw [e1, hI.cell b off rfl j hj]
      simpa [hj] using hu
    have hl : ((List.range (m * size)).map V).length = m * size := by simp
    have hone : ∀ u, u ∈ (List.range (m * size)).map V → u.oneCell' = true := by
      intro u hu
      simp only [List.mem_map, List.mem_range] at hu
      obtain ⟨j, hj, rfl⟩ := hu
      exact h1 j hj
    generalize (List.range (m * size)).map V = news at hnews hl hone ⊢
    subst hsize
    have hlen : (xs ++ news).length = (n + m) * i.size := by rw [List.length_append, hxl, hl, Nat.add_mul]
    have hfit : n * i.size + news.length ≤ cur.size := by rw [hl, hcs, ← Nat.add_mul]; exact Nat.mul_le_mul_right _ hroom
    have hr := run_append_room (P := P) w t ty e i ht hi g n cap cur hg ad m c news hl hnews hone hroom hfit
    refine ⟨_, hr, ⟨hlen, .inr ⟨g, cap, _, rfl, hbg, setRow_heap w g cur _ e _ hg, hroom, hcm, ?_, ?_⟩⟩, ⟨rfl, rfl, rfl, by simp, fun k _ hk => setRow_other w g k _ (fun e => hk (by simp [e]))⟩⟩
    · simp only [List.size_toArray, List.length_append, List.length_take, List.length_drop, Array.length_toList]
      omega
    · rw [htake, ← hlen]
      exact List.take_left

/-- The operation, for the walk. -/
theorem wpList_append_in {P : Program} {w : World} {ops : Array Oper} {rest : List Oper} {o : Oper} {a : Act} {Q : Exit → Act → World → Prop} (hgd : o.guard = none) (s x : Operand) (t : TypeId)
    (ho : o.op = .call { callee := .builtin .append, args := #[s, x], argTypes := #[t, t] })
    (e : TypeId) (i : TypeInfo) (size : Nat) (ht : P.underlying t = some (.slice e)) (hi : P.info? e = some i) (hsize : i.size = size) (hsz : 0 < size)
    (g n cap : Nat) (xs : List Value) (hs : a.eval s = .slice (some ⟨g, 0, none⟩) n cap) (hown : w.ownsRow 0 e size (.slice (some ⟨g, 0, none⟩) n cap) n xs)
    (ao : Option Addr) (m c : Nat) (V : Nat → Value) (hx : a.eval x = .slice ao m c) (hI : In w size ao m c V) (h1 : ∀ j, j < m * size → (V j).oneCell' = true) (hroom : n + m ≤ cap)
    (h : ∀ w', w'.ownsRow 0 e size (.slice (some ⟨g, 0, none⟩) (n + m) cap) (n + m) (xs ++ (List.range (m * size)).map V) → Fr [g] w w' → wpList P ops Q rest (a.put o.dst (.slice (some ⟨g, 0, none⟩) (n + m) cap)) w') : wpList P ops Q (o :: rest) a w := by
  refine wpList_plain hgd fun K hK => ?_
  obtain ⟨w', hr, h2, h3⟩ := append_in_blk (P := P) w t o.type e i size ht hi hsize hsz g n cap xs hown ao m c V hI h1 hroom
  unfold Oper.wp execOp
  simp only [ho, resolve, invoke, builtin, Sem.run_bind, Sem.run_pure, Result.andThen_ok, List.map_toArray, List.map_cons, List.map_nil, hs, hx, hr]
  exact hK _ _ (h w' h2 h3)

end Go.Proofs.YtmgnekjhlfghaaaGreat
