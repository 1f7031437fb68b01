/-
  Merged, in build order: Ts7.
-/
import Derived.Test.YtkiccbjngokpjaaGreatM23
import Derived.Test.YtkiccbjngokpjaaGreatM24
/-
  the streams of top: behind; begins, newStream (a log).
-/
namespace Go.Proofs.YtkiccbjngokpjaaGreat
open Go.RowKit
set_option linter.unusedVariables false
set_option linter.unusedSimpArgs false

section
variable {W : Base} {w : World} {R : List Thing}
set_option maxHeartbeats 3200000 in
theorem st_behind (H : St W w R) (i j : Nat) {a1 a2 : Option Addr} {c1 c2 : Nat} {got put : List ByteArray} (hi : R[i]? = some (RowT 9 1 (.slice a1 got.length c1) got.length (txC got))) (hj : R[j]? = some (RowT 9 1 (.slice a2 put.length c2) put.length (txC put)))
    (hb : ∀ (k : Nat) (t : ByteArray), got[k]? = some t → put[k]? = some t) :
    Calls Tryz.prog 8 #[.slice a1 got.length c1, .slice a2 put.length c2] w fun e w' => e = .returned (.bool true) ∧ Fr [] w w' := by
  have h1 := hid (H.row i hi)
  have h2 := hid (H.row j hj)
  have H0 := hid H
  have hb := hid hb
  clear H hi hj
  obtain ⟨n, hn⟩ : ∃ n, got.length = n := ⟨_, rfl⟩
  have hmx : n ≤ 9223372036854775807 := by
    have h := h1.out
    rcases ownsRow_one h with ⟨_, h3, _⟩ | ⟨g, cap, _, h3, h4⟩
    · omega
    · unfold maxLen at h4; omega
  rw [hn] at h1 ⊢
  have HN := hid hn
  have HMX := hid hmx
  clear hn hmx
  go_enter Tryz.func8, Tryz.ntmps8
  go_wp2_with fail
  go_loopw [5] (fun iv wr => ∃ q : Nat, q ≤ n ∧ iv = .int .i64 q ∧ Hid (Fr [] w wr)) (fun iv _ => n - (intOf iv).toNat)
  case atStart => exact ⟨0, Nat.zero_le _, rfl, Fr.refl _ _⟩
  case round =>
    obtain ⟨q, hq, rfl, HF⟩ := hrel
    by_cases hlt : q < n
    · obtain ⟨t, ht⟩ : ∃ t, got[q]? = some t := ⟨_, List.getElem?_eq_getElem (by rw [HN.out]; exact hlt)⟩
      have ht2 := hb.out q t ht
      have hl2 := (List.getElem?_eq_some_iff.1 ht2).1
      obtain ⟨g1, cap1, e1, _, _⟩ := ownsRow_shape h1.out (by omega)
      obtain ⟨g2, cap2, e2, _, _⟩ := ownsRow_shape h2.out (by omega)
      simp only [Value.slice.injEq, true_and] at e1 e2
      obtain ⟨rfl, rfl⟩ := e1
      obtain ⟨rfl, rfl⟩ := e2
      have y1 := (ownsRow_cell h1.out q (txC_at ht)).1
      have y2 := (ownsRow_cell h2.out q (txC_at ht2)).1
      have HK := hid (show ∀ wx, Fr [] wr wx → wx.cell? ⟨g1, q, none⟩ = some (.string t) ∧ wx.cell? ⟨g2, q, none⟩ = some (.string t) from fun wx hF => ⟨(HF.out.trans hF).cell0 y1, (HF.out.trans hF).cell0 y2⟩)
      have hlt2 : (q : Int) < n := by omega
      have b1 : decide (put.length ≤ q) = false := by simp; omega
      have b2 : (q : Int) < put.length := by omega
      have HL := hid (And.intro hlt hq)
      have hq8 := HMX.out
      clear ht ht2 hl2 y1 y2 hlt hq
      go_wp2_with fail
      refine wp_region_calm (S := fun wx : World => Fr [] wr wx) (by kernel_rfl) (by kernel_rfl) ((Fr.refl _ _).drew) ?_
      repeat (first | (refine calmRow_free (v := ?_) rfl ?_ ?_; rotate_left; (focus (intro wx hSx; (try dsimp only at hSx); have hcx := HK.out wx hSx; go_simp; (first | with_reducible rfl | exact ⟨rfl, hSx⟩ | fail))); (try simp only [Act.put, List.setIfInBounds_toArray, List.set_cons_zero, List.set_cons_succ])) | (refine calmRow_skip ?_ ?_; (focus (go_simp; (try (intro hx; cases hx)); done)); (try simp only [Act.put, List.setIfInBounds_toArray, List.set_cons_zero, List.set_cons_succ])) | (refine calmRow_take (v := ?_) ?_ ?_ ?_; rotate_left; (focus (go_simp; done)); (focus (intro wx hSx; (try dsimp only at hSx); have hcx := HK.out wx hSx; go_simp; (first | with_reducible rfl | exact ⟨rfl, hSx⟩ | fail))); (try simp only [Act.put, List.setIfInBounds_toArray, List.set_cons_zero, List.set_cons_succ])))
      refine calmRow_nil ?_
      intro wn hFx
      try dsimp only at hFx
      go_wp2_with fail
      have hq1 : (q : Int) + 1 = ((q + 1 : Nat) : Int) := by omega
      refine ⟨⟨q + 1, by have := HL.out.1; omega, by rw [hq1], HF.out.trans hFx⟩, ?_⟩
      show n - ((q : Int) + 1).toNat < n - (q : Int).toNat
      have := HL.out.1
      omega
    · obtain rfl : q = n := by omega
      clear hlt hq
      go_wp2_with fail
      go_ret
      exact ⟨rfl, HF.out⟩

set_option maxHeartbeats 3200000 in
set_option maxRecDepth 100000 in
theorem st_begins_log (H : St W w R) (i : Nat) {X P K N : Nat} {s pv sv : Value} {win res : Nat} {bd : Nat} (hi : R[i]? = some (BlkT X (stO s (ptr P) (ptr K) N win res bd pv sv))) (h1 : 1 ≤ win ∧ win ≤ 8) (h2 : 1 ≤ res ∧ res ≤ 16) (hbd : bd ≤ 1099511627776) :
    Calls Tryz.prog 22 #[ptr X] w fun e w' => ∃ S, e = .returned (.tuple #[]) ∧ St W w' (R.set i (BlkT X (stO (ptr S) (ptr P) (ptr K) N win res ((bd + 1 : Nat) : Int) (.slice none 0 0) sv)) ++ [SnT S (.new win res)]) := by
  obtain ⟨b1, hb1⟩ : ∃ b1 : Int, ((bd + 1 : Nat) : Int) = b1 := ⟨_, rfl⟩
  rw [hb1]
  have hb := H.blk i hi
  have hil := lt_of_get hi
  have x6 := cell_blk (i := 6) hb rfl
  have f6 := free_blk (i := 6) hb
  have x7 := cell_blk (i := 7) hb rfl
  have f7 := free_blk (i := 7) hb
  have H2 := H.setBlk i hi 6 (.int .i64 b1)
  have H3 := H2.setBlk i (List.getElem?_set_self hil) 7 (.slice none 0 0)
  rw [List.set_set] at H3
  have hw : wrap64 ((bd : Int) + 1) = b1 := by rw [IntWalk.wrap64_in _ (by omega), ← hb1]; rfl
  have H3 : St W ((w.setCell ⟨X, 6, none⟩ (.int .i64 b1)).setCell ⟨X, 7, none⟩ (.slice none 0 0)) (R.set i (BlkT X (stO s (ptr P) (ptr K) N win res b1 (.slice none 0 0) sv))) := H3
  have hi3 : (R.set i (BlkT X (stO s (ptr P) (ptr K) N win res b1 (.slice none 0 0) sv)))[i]? = some (BlkT X (stO s (ptr P) (ptr K) N win res b1 (.slice none 0 0) sv)) := List.getElem?_set_self hil
  have HN := hid (fun (wx : World) (h : St W wx (R.set i (BlkT X (stO s (ptr P) (ptr K) N win res b1 (.slice none 0 0) sv)))) => st_snew h win res h1 h2)
  have HS := hid (show ∀ (wx : World) (T : List Thing), St W wx (R.set i (BlkT X (stO s (ptr P) (ptr K) N win res b1 (.slice none 0 0) sv)) ++ T) → wx.cell? ⟨X, 4, none⟩ = some (.int .i64 win) ∧ wx.cell? ⟨X, 5, none⟩ = some (.int .i64 res) from fun wx T h => by
    have b := h.blk i (by rw [List.getElem?_append_left (by simpa using hil)]; exact hi3)
    exact ⟨cell_blk (i := 4) b rfl, cell_blk (i := 5) b rfl⟩)
  have H3 := hid H3
  have HI := hid (And.intro hil (And.intro hi3 hw))
  clear H H2 hb hi h1 h2 hbd hi3 hil hb1
  go_enter Tryz.func22, Tryz.ntmps22
  go_wp2_with fail
  generalize (w.setCell ⟨X, 6, none⟩ _).setCell ⟨X, 7, none⟩ _ = w3 at H3 ⊢
  clear x6 f6 x7 f7 hw
  refine wp_region_U (S := fun wx : World => wx.cell? ⟨X, 4, none⟩ = some (.int .i64 win) ∧ wx.cell? ⟨X, 5, none⟩ = some (.int .i64 res)) 15 (by kernel_rfl) (HS.out _ [] (by rw [List.append_nil]; exact H3.out.same ((Fr.refl _ _).drew))) (fun hHeld => ?_)
  refine takeU (i := 0) (d := 13) (v := ?_) rfl rfl (by kernel_rfl) (by kernel_rfl) (by kernel_rfl) (by kernel_rfl) (by kernel_rfl) (fun _ _ _ h => h) (Or.inl ⟨by rfl, ?_⟩) hHeld ?_
  rotate_left
  · intro wq hSw; (try dsimp only at hSw); go_simp; all_goals (with_reducible rfl)
  simp only [Act.put, List.setIfInBounds_toArray, List.set_cons_zero, List.set_cons_succ]
  refine takeU (i := 1) (d := 14) (v := ?_) rfl rfl (by kernel_rfl) (by kernel_rfl) (by kernel_rfl) (by kernel_rfl) (by kernel_rfl) (fun _ _ _ h => h) (Or.inl ⟨by rfl, ?_⟩) hHeld ?_
  rotate_left
  · intro wq hSw; (try dsimp only at hSw); go_simp; all_goals (with_reducible rfl)
  simp only [Act.put, List.setIfInBounds_toArray, List.set_cons_zero, List.set_cons_succ]
  refine takeU (i := 2) (d := 15) (v := ?_) rfl rfl (by kernel_rfl) (by kernel_rfl) (by kernel_rfl) (by kernel_rfl) (by kernel_rfl) (fun _ _ _ h => h) (Or.inl ⟨by rfl, ?_⟩) hHeld ?_
  rotate_left
  · intro wq hSw; (try dsimp only at hSw); go_simp; all_goals (with_reducible rfl)
  simp only [Act.put, List.setIfInBounds_toArray, List.set_cons_zero, List.set_cons_succ]
  refine takeU (i := 3) (d := 16) (v := ?_) rfl rfl (by kernel_rfl) (by kernel_rfl) (by kernel_rfl) (by kernel_rfl) (by kernel_rfl) (fun _ _ _ h => h) (Or.inl ⟨by rfl, ?_⟩) hHeld ?_
  rotate_left
  · intro wq hSw; (try dsimp only at hSw); go_simp; all_goals (with_reducible rfl)
  simp only [Act.put, List.setIfInBounds_toArray, List.set_cons_zero, List.set_cons_succ]
  refine takeU (i := 4) (d := 17) (v := ?_) rfl rfl (by kernel_rfl) (by kernel_rfl) (by kernel_rfl) (by kernel_rfl) (by kernel_rfl) (fun _ _ _ h => h) (Or.inl ⟨by rfl, ?_⟩) hHeld ?_
  rotate_left
  · intro wq hSw; (try dsimp only at hSw); go_simp; all_goals (with_reducible rfl)
  simp only [Act.put, List.setIfInBounds_toArray, List.set_cons_zero, List.set_cons_succ]
  refine takeU (i := 5) (d := 18) (v := ?_) rfl rfl (by kernel_rfl) (by kernel_rfl) (by kernel_rfl) (by kernel_rfl) (by kernel_rfl) (fun _ _ _ h => h) (Or.inl ⟨by rfl, ?_⟩) hHeld ?_
  rotate_left
  · intro wq hSw; (try dsimp only at hSw); go_simp; all_goals (with_reducible rfl)
  simp only [Act.put, List.setIfInBounds_toArray, List.set_cons_zero, List.set_cons_succ]
  refine takeU (i := 6) (d := 19) (v := ?_) rfl rfl (by kernel_rfl) (by kernel_rfl) (by kernel_rfl) (by kernel_rfl) (by kernel_rfl) (fun _ _ _ h => h) (Or.inl ⟨by rfl, ?_⟩) hHeld ?_
  rotate_left
  · intro wq hSw; (try dsimp only at hSw); go_simp; all_goals (with_reducible rfl)
  simp only [Act.put, List.setIfInBounds_toArray, List.set_cons_zero, List.set_cons_succ]
  refine takeU (i := 7) (d := 20) (v := ?_) rfl rfl (by kernel_rfl) (by kernel_rfl) (by kernel_rfl) (by kernel_rfl) (by kernel_rfl) (fun _ _ _ h => h) (Or.inl ⟨by rfl, ?_⟩) hHeld ?_
  rotate_left
  · intro wq hSw; (try dsimp only at hSw); go_simp; all_goals (with_reducible rfl)
  simp only [Act.put, List.setIfInBounds_toArray, List.set_cons_zero, List.set_cons_succ]
  refine takeU (i := 8) (d := 21) (v := ?_) rfl rfl (by kernel_rfl) (by kernel_rfl) (by kernel_rfl) (by kernel_rfl) (by kernel_rfl) (fun _ _ _ h => h) (Or.inl ⟨by rfl, ?_⟩) hHeld ?_
  rotate_left
  · intro wq hSw; (try dsimp only at hSw); go_simp; all_goals (with_reducible rfl)
  simp only [Act.put, List.setIfInBounds_toArray, List.set_cons_zero, List.set_cons_succ]
  refine wpAnyU_ready (rs := [9]) (by kernel_rfl) (by simp) ?_
  refine AllReadyU.cons rfl (fun K1 hK => ?_) AllReadyU.nil
  go_simp
  go_at_call 12
  refine (HN.out _ (H3.out.same ((Fr.refl _ _).drew))).mono ?_
  rintro e w4 ⟨S, rfl, H4⟩
  go_simp
  refine hK.out _ _ (fun _ => HS.out _ _ H4) (fun hHeld => ?_)
  clear hK K1
  have hHeld := hHeld (by decide)
  refine takeU (i := 10) (d := 12) (v := ?_) rfl rfl (by kernel_rfl) (by kernel_rfl) (by kernel_rfl) (by kernel_rfl) (by kernel_rfl) (fun _ _ _ h => h) (Or.inl ⟨by rfl, ?_⟩) hHeld ?_
  rotate_left
  · intro wq hSw; (try dsimp only at hSw); go_simp; all_goals (with_reducible rfl)
  simp only [Act.put, List.setIfInBounds_toArray, List.set_cons_zero, List.set_cons_succ]
  refine takeU (i := 11) (d := 23) (v := ?_) rfl rfl (by kernel_rfl) (by kernel_rfl) (by kernel_rfl) (by kernel_rfl) (by kernel_rfl) (fun _ _ _ h => h) (Or.inl ⟨by rfl, ?_⟩) hHeld ?_
  rotate_left
  · intro wq hSw; (try dsimp only at hSw); go_simp; all_goals (with_reducible rfl)
  simp only [Act.put, List.setIfInBounds_toArray, List.set_cons_zero, List.set_cons_succ]
  refine takeU (i := 13) (d := 25) (v := ?_) rfl rfl (by kernel_rfl) (by kernel_rfl) (by kernel_rfl) (by kernel_rfl) (by kernel_rfl) (fun _ _ _ h => h) (Or.inl ⟨by rfl, ?_⟩) hHeld ?_
  rotate_left
  · intro wq hSw; (try dsimp only at hSw); go_simp; all_goals (with_reducible rfl)
  simp only [Act.put, List.setIfInBounds_toArray, List.set_cons_zero, List.set_cons_succ]
  refine takeU (i := 14) (d := 26) (v := ?_) rfl rfl (by kernel_rfl) (by kernel_rfl) (by kernel_rfl) (by kernel_rfl) (by kernel_rfl) (fun _ _ _ h => h) (Or.inl ⟨by rfl, ?_⟩) hHeld ?_
  rotate_left
  · intro wq hSw; (try dsimp only at hSw); go_simp; all_goals (with_reducible rfl)
  simp only [Act.put, List.setIfInBounds_toArray, List.set_cons_zero, List.set_cons_succ]
  have b4 := H4.blk i (by rw [List.getElem?_append_left (by simpa using HI.out.1)]; exact HI.out.2.1)
  have f0 := free_blk (i := 0) b4
  have x0 := cell_blk (i := 0) b4 rfl
  have H5 := H4.setBlk i (by rw [List.getElem?_append_left (by simpa using HI.out.1)]; exact HI.out.2.1) 0 (ptr S)
  rw [List.set_append_left _ _ (by simpa using HI.out.1), List.set_set] at H5
  have H5 : St W (w4.setCell ⟨X, 0, none⟩ (ptr S)) (R.set i (BlkT X (stO (ptr S) (ptr P) (ptr K) N win res b1 (.slice none 0 0) sv)) ++ [SnT S (.new win res)]) := H5
  have h4S := HS.out _ _ H4
  have h5S : (w4.setCell ⟨X, 0, none⟩ (ptr S)).cell? ⟨X, 4, none⟩ = some (.int .i64 win) ∧ (w4.setCell ⟨X, 0, none⟩ (ptr S)).cell? ⟨X, 5, none⟩ = some (.int .i64 res) := by
    have b5 := H5.blk i (by rw [List.getElem?_append_left (by simpa using HI.out.1)]; exact List.getElem?_set_self HI.out.1)
    exact ⟨cell_blk (i := 4) b5 rfl, cell_blk (i := 5) b5 rfl⟩
  refine wpAnyU_ready (rs := [12, 15]) (by kernel_rfl) (by simp) ?_
  refine AllReadyU.cons rfl (fun K1 hK => ?_) (AllReadyU.cons rfl (fun K1 hK => ?_) AllReadyU.nil)
  · go_simp
    refine hK.out _ _ (fun _ => h4S) (fun _ => ?_)
    clear hK K1 hHeld
    refine wpAnyU_ready (rs := [15]) (by kernel_rfl) (by simp) ?_
    refine AllReadyU.cons rfl (fun K1 hK => ?_) AllReadyU.nil
    go_simp
    refine hK.out _ _ (fun h => absurd rfl h) (fun _ => ?_)
    clear hK K1
    refine wpAnyU_done (by kernel_rfl) ?_ _
    have b5 := H5.blk i (by rw [List.getElem?_append_left (by simpa using HI.out.1)]; exact List.getElem?_set_self HI.out.1)
    have y0 := cell_blk (i := 0) b5 rfl
    have y1 := cell_blk (i := 1) b5 rfl
    have y2 := cell_blk (i := 2) b5 rfl
    have y3 := cell_blk (i := 3) b5 rfl
    have H5 := hid H5
    generalize w4.setCell ⟨X, 0, none⟩ _ = w5 at H5 y0 y1 y2 y3 ⊢
    clear b4 b5 f0 x0 H4
    go_wp2_with fail
    go_end0
    exact ⟨_, rfl, H5.out⟩
  · go_simp
    refine hK.out _ _ (fun h => absurd rfl h) (fun _ => ?_)
    clear hK K1 hHeld
    refine wpAnyU_ready (rs := [12]) (by kernel_rfl) (by simp) ?_
    refine AllReadyU.cons rfl (fun K1 hK => ?_) AllReadyU.nil
    go_simp
    refine hK.out _ _ (fun _ => h5S) (fun _ => ?_)
    clear hK K1
    refine wpAnyU_done (by kernel_rfl) ?_ _
    have b5 := H5.blk i (by rw [List.getElem?_append_left (by simpa using HI.out.1)]; exact List.getElem?_set_self HI.out.1)
    have y0 := cell_blk (i := 0) b5 rfl
    have y1 := cell_blk (i := 1) b5 rfl
    have y2 := cell_blk (i := 2) b5 rfl
    have y3 := cell_blk (i := 3) b5 rfl
    have H5 := hid H5
    generalize w4.setCell ⟨X, 0, none⟩ _ = w5 at H5 y0 y1 y2 y3 ⊢
    clear b4 b5 f0 x0 H4
    go_wp2_with fail
    go_end0
    exact ⟨_, rfl, H5.out⟩
end

end Go.Proofs.YtkiccbjngokpjaaGreat
