/-
  Merged, in build order: Ap3 Ap4 Ap5 Ap6 Ap7 Ap8.
-/
import Derived.Test.YtkiccbjngokpjaaM28
import Derived.Test.YtkiccbjngokpjaaM27
/-
  the pair of top: comes, at the caller.
-/
namespace Go.Proofs.Ytkiccbjngokpjaa
open Go.RowKit
set_option linter.unusedVariables false
set_option linter.unusedSimpArgs false

section
variable {W : Base} {w : World}
theorem Pm.comes_back (x : Pm) {p : Pq} (hp : p.isBack = true) : x.comes p = x.heard p := by
  cases p with
  | hello => cases hp
  | req _ _ _ => cases hp
  | welcome s => rfl
  | stale s n => rfl
  | reply b s n => rfl
theorem Pm.heard_len {x : Pm} {p : Pq} (b : Bool) (h : b = (x.c.hear p).2.isSome) : (x.heard p).answered.length = if b then x.answered.length + 1 else x.answered.length := by
  subst h
  unfold Pm.heard
  rcases (x.c.hear p).2 with _ | q <;> simp
set_option maxHeartbeats 6400000 in
set_option maxRecDepth 100000 in
theorem st_pcomes_back {X C T N : Nat} {x : Pm} (H : St W w (paL X C T N x)) (q : Int) (p : Pq) (hp : p.isBack = true) (hf : p.fits) (hu : x.c.u.pq.fits) (hlen : x.answered.length < 1073741824) :
    Calls Try.prog 19 #[ptr X, dgV ⟨q, 0, 0, 2, 1, p.m.enc⟩] w fun e w' => e = .returned (.tuple #[]) ∧ St W w' (paL X C T N (x.comes p)) := by
  have HCo := hid (Pm.comes_back x hp)
  have HLn := hid (fun b h => Pm.heard_len (x := x) (p := p) b h)
  have hw1 : wrap64 ((x.answered.length : Int) + 1) = ((x.answered.length + 1 : Nat) : Int) := by rw [IntWalk.wrap64_in _ (by omega)]; rfl
  have H2 := H.alloc (dgO ⟨q, 0, 0, 2, 1, p.m.enc⟩)
  obtain ⟨d0, d1, d2, d3, d4, d5⟩ := dg_cells (H2.blk 4 rfl)
  have HD := hid (st_wdecode H2 p.m hf.ok)
  have HHe := hid (fun (wx : World) (R : List Thing) (h : St W wx R) (i : Nat) (hi : R[i]? = some (BlkT C (clC x.c))) => st_hear_cl h i hi p hp hf hu)
  rw [HCo.out]
  clear H hf hu hlen hp HCo
  generalize p.m = m at HD HHe H2 d5 ⊢
  have H2 := hid H2
  dsimp only [dgV]
  go_enter Try.func19, Try.ntmps19
  go_wp2_with fail
  refine HD.out.mono ?_
  rintro e w1 ⟨rfl, H3⟩
  clear HD d0 d1 d2 d3 d4 d5 H2
  have H4 := hid (H3.alloc (mO m))
  obtain ⟨d0, d1, d2, d3, d4, d5⟩ := dg_cells (H3.blk 4 rfl)
  have hgd := World.block_lt_of_cell? _ _ d0
  clear H3
  dsimp only [MV.f, mO] at H4 HHe ⊢
  go_wp2_with fail
  clear d0 d1 d2 d3 d4 d5 hgd
  generalize w1.alloc (.cells #[.int .i64 m.kind, .int .i64 m.ses, .int .i64 m.num, .int .i64 m.job, .int .i64 m.bad, .int .i64 m.idx, .int .i64 m.cnt, .int .i64 m.code, .int .u64 m.bits, .string m.text, .string m.prog] 57) = w2 at H4 ⊢
  generalize w1.heap.size = pm at H4 ⊢
  have HS := hid (show ∀ wx, Fr [] w2 wx → wx.cell? ⟨X, 0, none⟩ = some (ptr C) ∧ wx.cell? ⟨pm, 0, none⟩ = some (.int .i64 m.kind) ∧ wx.cell? ⟨pm, 1, none⟩ = some (.int .i64 m.ses) ∧ wx.cell? ⟨pm, 2, none⟩ = some (.int .i64 m.num) ∧ wx.cell? ⟨pm, 3, none⟩ = some (.int .i64 m.job) ∧ wx.cell? ⟨pm, 4, none⟩ = some (.int .i64 m.bad) ∧ wx.cell? ⟨pm, 5, none⟩ = some (.int .i64 m.idx) ∧ wx.cell? ⟨pm, 6, none⟩ = some (.int .i64 m.cnt) ∧ wx.cell? ⟨pm, 7, none⟩ = some (.int .i64 m.code) ∧ wx.cell? ⟨pm, 8, none⟩ = some (.int .u64 m.bits) ∧ wx.cell? ⟨pm, 9, none⟩ = some (.string m.text) ∧ wx.cell? ⟨pm, 10, none⟩ = some (.string m.prog) from fun wx h => by
    have h4 := H4.out.same h
    exact ⟨cell_blk (i := 0) (h4.blk 1 rfl) rfl, msg_cells (h4.blk 5 rfl)⟩)
  have HS2 := hid (show ∀ wx, Fr [] w2 wx → wx.cell? ⟨X, 0, none⟩ = some (ptr C) from fun wx h => (HS.out wx h).1)
  refine wp_region_U (S := fun wx : World => wx.cell? ⟨X, 0, none⟩ = some (ptr C) ∧ wx.cell? ⟨pm, 0, none⟩ = some (.int .i64 m.kind) ∧ wx.cell? ⟨pm, 1, none⟩ = some (.int .i64 m.ses) ∧ wx.cell? ⟨pm, 2, none⟩ = some (.int .i64 m.num) ∧ wx.cell? ⟨pm, 3, none⟩ = some (.int .i64 m.job) ∧ wx.cell? ⟨pm, 4, none⟩ = some (.int .i64 m.bad) ∧ wx.cell? ⟨pm, 5, none⟩ = some (.int .i64 m.idx) ∧ wx.cell? ⟨pm, 6, none⟩ = some (.int .i64 m.cnt) ∧ wx.cell? ⟨pm, 7, none⟩ = some (.int .i64 m.code) ∧ wx.cell? ⟨pm, 8, none⟩ = some (.int .u64 m.bits) ∧ wx.cell? ⟨pm, 9, none⟩ = some (.string m.text) ∧ wx.cell? ⟨pm, 10, none⟩ = some (.string m.prog)) 6 (by kernel_rfl) (HS.out _ ((Fr.refl _ _).drew)) (fun hHeld => ?_)
  refine takeU (i := 0) (d := 28) (v := ?_) rfl rfl (by kernel_rfl) (by kernel_rfl) (by kernel_rfl) (by kernel_rfl) (by kernel_rfl) (fun _ _ _ h => h) (Or.inl ⟨by rfl, ?_⟩) hHeld ?_
  rotate_left
  · intro wq hSw; (try dsimp only at hSw); go_simp; all_goals (with_reducible rfl)
  simp only [Act.put, List.setIfInBounds_toArray, List.set_cons_zero, List.set_cons_succ]
  refine takeU (i := 1) (d := 29) (v := ?_) rfl rfl (by kernel_rfl) (by kernel_rfl) (by kernel_rfl) (by kernel_rfl) (by kernel_rfl) (fun _ _ _ h => h) (Or.inl ⟨by rfl, ?_⟩) hHeld ?_
  rotate_left
  · intro wq hSw; (try dsimp only at hSw); go_simp; all_goals (with_reducible rfl)
  simp only [Act.put, List.setIfInBounds_toArray, List.set_cons_zero, List.set_cons_succ]
  refine takeU (i := 2) (d := 30) (v := ?_) rfl rfl (by kernel_rfl) (by kernel_rfl) (by kernel_rfl) (by kernel_rfl) (by kernel_rfl) (fun _ _ _ h => h) (Or.inl ⟨by rfl, ?_⟩) hHeld ?_
  rotate_left
  · intro wq hSw; (try dsimp only at hSw); go_simp; all_goals (with_reducible rfl)
  simp only [Act.put, List.setIfInBounds_toArray, List.set_cons_zero, List.set_cons_succ]
  refine takeU (i := 3) (d := 31) (v := ?_) rfl rfl (by kernel_rfl) (by kernel_rfl) (by kernel_rfl) (by kernel_rfl) (by kernel_rfl) (fun _ _ _ h => h) (Or.inl ⟨by rfl, ?_⟩) hHeld ?_
  rotate_left
  · intro wq hSw; (try dsimp only at hSw); go_simp; all_goals (with_reducible rfl)
  simp only [Act.put, List.setIfInBounds_toArray, List.set_cons_zero, List.set_cons_succ]
  refine takeU (i := 4) (d := 32) (v := ?_) rfl rfl (by kernel_rfl) (by kernel_rfl) (by kernel_rfl) (by kernel_rfl) (by kernel_rfl) (fun _ _ _ h => h) (Or.inl ⟨by rfl, ?_⟩) hHeld ?_
  rotate_left
  · intro wq hSw; (try dsimp only at hSw); go_simp; all_goals (with_reducible rfl)
  simp only [Act.put, List.setIfInBounds_toArray, List.set_cons_zero, List.set_cons_succ]
  refine wpAnyU_ready (rs := [5]) (by kernel_rfl) (by simp) ?_
  refine AllReadyU.cons rfl (fun K1 hK => ?_) AllReadyU.nil
  go_simp
  go_at_call 47
  refine (HHe.out _ _ (H4.out.same ((Fr.refl _ _).drew)) 2 rfl).mono ?_
  rintro e w3 ⟨k, rfl, hk, H5⟩
  have h5b := H5.blk 1 rfl
  have h5m := H5.blk 5 rfl
  have hcl := hid (show _ ∧ _ from ⟨cell_blk (i := 0) h5b rfl, msg_cells h5m⟩)
  have z5 := cell_blk (i := 5) h5b rfl
  have f5 := free_blk (i := 5) h5b
  have H5 := hid H5
  have HLk := hid (HLn.out _ hk)
  clear h5b h5m HHe HS HS2 H4 HLn hk
  go_simp
  refine hK.out _ _ (fun _ => hcl.out) (fun hHeld => ?_)
  clear hK K1
  refine wpAnyU_ready (rs := [6]) (by kernel_rfl) (by simp) ?_
  refine AllReadyU.cons rfl (fun K1 hK => ?_) AllReadyU.nil
  go_simp
  refine hK.out _ _ (fun h => absurd rfl h) (fun _ => ?_)
  clear hK K1 hHeld
  refine wpAnyU_done (by kernel_rfl) ?_ _
  clear hcl
  have h6 := hid (St.drop (T := [BlkT w.heap.size (dgO ⟨q, 0, 0, 2, 1, m.enc⟩), BlkT pm (mO m)]) (show St W w3 ([NtT N (x.bag.map pkD) x.sent, BlkT X (prO C T N x.used x.acted.length x.answered.length), BlkT C (clC (x.c.hear p).1), TbT T x.t.dk] ++ [BlkT w.heap.size (dgO ⟨q, 0, 0, 2, 1, m.enc⟩), BlkT pm (mO m)]) from H5.out))
  rcases hk3 : (k == 3) with _ | _
  · rw [hk3] at HLk
    go_wp2_with fail
    refine bodyPost_ret (results_none rfl _ _ _) rfl ⟨rfl, ?_⟩
    show St W _ [NtT N (x.bag.map pkD) x.sent, BlkT X (prO C T N x.used x.acted.length ((x.heard p).answered.length : Nat)), BlkT C (clC (x.c.hear p).1), TbT T x.t.dk]
    rw [show (x.heard p).answered.length = x.answered.length from HLk.out]
    exact h6.out
  · rw [hk3] at HLk
    go_wp2_with fail
    refine bodyPost_ret (results_none rfl _ _ _) rfl ⟨rfl, ?_⟩
    show St W _ [NtT N (x.bag.map pkD) x.sent, BlkT X (prO C T N x.used x.acted.length ((x.heard p).answered.length : Nat)), BlkT C (clC (x.c.hear p).1), TbT T x.t.dk]
    rw [show (x.heard p).answered.length = x.answered.length + 1 from HLk.out]
    have h := h6.out.setBlk 1 rfl 5 (.int .i64 ((x.answered.length + 1 : Nat) : Int))
    first | exact h | exact h.same ((Fr.refl _ _).drew)
end

end Go.Proofs.Ytkiccbjngokpjaa

/-
  the pair of top: a hello comes at the desk.
-/
namespace Go.Proofs.Ytkiccbjngokpjaa
open Go.RowKit
set_option linter.unusedVariables false
set_option linter.unusedSimpArgs false

section
variable {W : Base} {w : World}
set_option maxHeartbeats 3200000 in
set_option maxRecDepth 100000 in
theorem st_pcomes_hello {X C T N : Nat} {x : Pm} (H : St W w (paL X C T N x)) (q : Int) (hl : x.t.live = true) (h1 : 1 ≤ x.t.ses) (h2 : x.t.ses ≤ 1099511627776) (hb : x.bag.length ≤ 1073741824) :
    Calls Try.prog 19 #[ptr X, dgV ⟨q, 2, 1, 0, 0, (MV.of 1).enc⟩] w fun e w' => e = .returned (.tuple #[]) ∧ St W w' (paL X C T N (x.comes .hello)) := by
  have HQ := hid (show x.comes .hello = x.send (.welcome x.t.ses) from by simp only [Pm.comes]; rw [hl]; rfl)
  have hlf : x.t.dk.life = 1 := by unfold Tb.dk; rw [hl]; rfl
  have HS := hid (fun (wx : World) (R : List Thing) (H : St W wx R) (i j : Nat) (hi : R[i]? = some (BlkT X (prO C T N x.used x.acted.length x.answered.length))) (hj : R[j]? = some (NtT N (x.bag.map pkD) x.sent)) => st_psends H i j hi hj (by rw [List.length_map]; exact hb) 0 0 2 1 (mWel x.t.ses) (mWel_ok h1 h2))
  rw [HQ.out]
  dsimp only [MV.f, mWel, MV.of] at HS
  clear hl h1 h2 hb
  have H2 := H.alloc (dgO ⟨q, 2, 1, 0, 0, (MV.of 1).enc⟩)
  obtain ⟨d0, d1, d2, d3, d4, d5⟩ := dg_cells (H2.blk 4 rfl)
  have HD := hid (st_wdecode H2 (MV.of 1) mHello_ok)
  generalize (MV.of 1).enc = be at HD H2 d5 ⊢
  have H2 := hid H2
  clear H
  dsimp only [dgV, MV.of, MV.f] at HD ⊢
  go_enter Try.func19, Try.ntmps19
  go_wp2_with fail
  refine HD.out.mono ?_
  rintro e w1 ⟨rfl, H3⟩
  clear HD d0 d1 d2 d3 d4 d5 H2
  have H4 := hid (H3.alloc (mO (MV.of 1)))
  obtain ⟨d0, d1, d2, d3, d4, d5⟩ := dg_cells (H3.blk 4 rfl)
  have x1 := cell_blk (i := 1) (H3.blk 1 rfl) rfl
  have hgd := World.block_lt_of_cell? _ _ d0
  have hgX := World.block_lt_of_cell? _ _ x1
  clear H3
  dsimp only [MV.f, MV.of, mO] at H4 ⊢
  go_wp2_with fail
  clear d0 d1 d2 d3 d4 d5 hgd hgX x1
  generalize w1.alloc _ = w2 at H4 ⊢
  generalize w1.heap.size = pm at H4 ⊢
  refine (st_thello_old H4.out 3 rfl hlf).mono ?_
  rintro e w3 ⟨rfl, hF⟩
  have H5 := hid (H4.out.same hF)
  clear H4 hF
  obtain ⟨d0, d1, d2, d3, d4, d5⟩ := dg_cells (H5.out.blk 4 rfl)
  go_wp2_with fail
  refine (HS.out _ _ H5.out 1 0 rfl rfl).mono ?_
  rintro e w4 ⟨rfl, H6⟩
  clear H5 d0 d1 d2 d3 d4 d5
  have H6 := hid (St.drop (T := [BlkT w.heap.size (dgO ⟨q, 2, 1, 0, 0, be⟩), BlkT pm (mO (MV.of 1))]) (show St W w4 ([NtT N (x.bag.map pkD ++ [pkD (nextN x.sent, .welcome x.t.ses)]) (nextN x.sent), BlkT X (prO C T N x.used x.acted.length x.answered.length), BlkT C (clC x.c), TbT T x.t.dk] ++ [BlkT w.heap.size (dgO ⟨q, 2, 1, 0, 0, be⟩), BlkT pm (mO (MV.of 1))]) from H6))
  go_wp2_with fail
  refine bodyPost_ret (results_none rfl _ _ _) rfl ⟨rfl, ?_⟩
  show St W _ (NtT N ((x.send _).bag.map pkD) (x.send _).sent :: _)
  rw [nt_send]
  exact H6.out
set_option maxHeartbeats 3200000 in
set_option maxRecDepth 100000 in
theorem st_pcomes_fresh {X C T N : Nat} {x : Pm} (H : St W w (paL X C T N x)) (q : Int) (hl : x.t.live = false) (h2 : x.used < 1099511627776) (hb : x.bag.length ≤ 1073741824) :
    Calls Try.prog 19 #[ptr X, dgV ⟨q, 2, 1, 0, 0, (MV.of 1).enc⟩] w fun e w' => e = .returned (.tuple #[]) ∧ St W w' (paL X C T N (x.comes .hello)) := by
  have HQ := hid (show x.comes .hello = x.opened.send (.welcome (x.used + 1)) from by simp only [Pm.comes]; rw [hl]; rfl)
  have hlf : x.t.dk.life = 0 := by unfold Tb.dk; rw [hl]; rfl
  have hw1 : wrap64 ((x.used : Int) + 1) = ((x.used + 1 : Nat) : Int) := by rw [IntWalk.wrap64_in _ (by omega)]; rfl
  have HS := hid (fun (wx : World) (R : List Thing) (H : St W wx R) (i j : Nat) (hi : R[i]? = some (BlkT X (prO C T N ((x.used + 1 : Nat) : Int) x.acted.length x.answered.length))) (hj : R[j]? = some (NtT N (x.bag.map pkD) x.sent)) => st_psends H i j hi hj (by rw [List.length_map]; exact hb) 0 0 2 1 (mWel (x.used + 1)) (mWel_ok (by omega) (by omega)))
  have HO := hid (And.intro (show (1 : Int) ≤ ((x.used + 1 : Nat) : Int) from by omega) (show ((x.used + 1 : Nat) : Int) ≤ 1099511627776 from by omega))
  rw [HQ.out]
  dsimp only [MV.f, mWel, MV.of] at HS
  clear hl h2 hb
  have H2 := H.alloc (dgO ⟨q, 2, 1, 0, 0, (MV.of 1).enc⟩)
  obtain ⟨d0, d1, d2, d3, d4, d5⟩ := dg_cells (H2.blk 4 rfl)
  have HD := hid (st_wdecode H2 (MV.of 1) mHello_ok)
  generalize (MV.of 1).enc = be at HD H2 d5 ⊢
  have H2 := hid H2
  clear H
  dsimp only [dgV, MV.of, MV.f] at HD ⊢
  go_enter Try.func19, Try.ntmps19
  go_wp2_with fail
  refine HD.out.mono ?_
  rintro e w1 ⟨rfl, H3⟩
  clear HD d0 d1 d2 d3 d4 d5 H2
  have H4 := hid (H3.alloc (mO (MV.of 1)))
  obtain ⟨d0, d1, d2, d3, d4, d5⟩ := dg_cells (H3.blk 4 rfl)
  have x1 := cell_blk (i := 1) (H3.blk 1 rfl) rfl
  have hgd := World.block_lt_of_cell? _ _ d0
  have hgX := World.block_lt_of_cell? _ _ x1
  clear H3
  dsimp only [MV.f, MV.of, mO] at H4 ⊢
  go_wp2_with fail
  clear d0 d1 d2 d3 d4 d5 hgd hgX x1
  generalize w1.alloc _ = w2 at H4 ⊢
  generalize w1.heap.size = pm at H4 ⊢
  refine (st_thello H4.out 3 rfl hlf).mono ?_
  rintro e w3 ⟨rfl, rfl⟩
  have b4 := H4.out.blk 1 rfl
  have x1 := cell_blk (i := 1) b4 rfl
  have x3 := cell_blk (i := 3) b4 rfl
  have f3 := free_blk (i := 3) b4
  obtain ⟨us, hus⟩ : ∃ us : Int, ((x.used + 1 : Nat) : Int) = us := ⟨_, rfl⟩
  rw [hus] at hw1 HS HO
  have H5 := hid (H4.out.setBlk 1 rfl 3 (.int .i64 us))
  clear b4
  go_wp2_with fail
  refine (st_topen H5.out 3 rfl hlf us HO.out.1 HO.out.2).mono ?_
  rintro e w4 ⟨rfl, H6⟩
  clear H5 H4 x1 x3 f3
  have H6 := hid H6
  obtain ⟨d0, d1, d2, d3, d4, d5⟩ := dg_cells (H6.out.blk 4 rfl)
  go_wp2_with fail
  refine (HS.out _ _ H6.out 1 0 rfl rfl).mono ?_
  rintro e w5 ⟨rfl, H7⟩
  clear H6 d0 d1 d2 d3 d4 d5
  have H7 := hid H7
  go_wp2_with fail
  refine bodyPost_ret (results_none rfl _ _ _) rfl ⟨rfl, ?_⟩
  subst hus
  have H8 := hid (St.drop (T := [BlkT w.heap.size (dgO ⟨q, 2, 1, 0, 0, be⟩), BlkT pm (mO (MV.of 1))]) (show St W w5 ([NtT N (x.bag.map pkD ++ [pkD (nextN x.sent, .welcome (x.used + 1))]) (nextN x.sent), BlkT X (prO C T N ((x.used + 1 : Nat) : Int) x.acted.length x.answered.length), BlkT C (clC x.c), TbT T ⟨1, ((x.used + 1 : Nat) : Int), 0, ⟨#[]⟩⟩] ++ [BlkT w.heap.size (dgO ⟨q, 2, 1, 0, 0, be⟩), BlkT pm (mO (MV.of 1))]) from H7.out))
  show St W _ (NtT N ((x.opened.send _).bag.map pkD) (x.opened.send _).sent :: _)
  rw [nt_send]
  exact H8.out
end

end Go.Proofs.Ytkiccbjngokpjaa

/-
  the pair of top: a request comes at the desk.
-/
namespace Go.Proofs.Ytkiccbjngokpjaa
open Go.RowKit
set_option linter.unusedVariables false
set_option linter.unusedSimpArgs false

section
variable {W : Base} {w : World}
set_option maxHeartbeats 6400000 in
set_option maxRecDepth 100000 in
theorem st_pcomes_stale {X C T N : Nat} {x : Pm} (H : St W w (paL X C T N x)) (q : Int) (b : Bool) (s n : Nat) (hf : (Pq.req b s n).fits) (hc : (x.t.live && x.t.ses == s) = false) (hb : x.bag.length ≤ 1073741824)
    (HA : Hid (∀ (wx : World) (R : List Thing) (h : St W wx R) (i : Nat) (hi : R[i]? = some (TbT T x.t.dk)), Calls Try.prog 50 #[ptr T, .int .i64 0, .int .i64 1, .int .i64 s, .int .i64 n] wx fun e w' => e = .returned (.tuple #[.int .i64 1, .string ⟨#[]⟩]) ∧ St W w' R)) :
    Calls Try.prog 19 #[ptr X, dgV ⟨q, 2, 1, 0, 0, (mReq b s n).enc⟩] w fun e w' => e = .returned (.tuple #[]) ∧ St W w' (paL X C T N (x.comes (.req b s n))) := by
  have HQ := hid (show x.comes (.req b s n) = x.send (.stale s n) from by simp only [Pm.comes]; rw [hc]; rfl)
  have hst : (Pq.stale s n).m.Ok := Pq.fits.ok (p := .stale s n) hf
  have HS := hid (fun (wx : World) (R : List Thing) (H : St W wx R) (i j : Nat) (hi : R[i]? = some (BlkT X (prO C T N x.used x.acted.length x.answered.length))) (hj : R[j]? = some (NtT N (x.bag.map pkD) x.sent)) => st_psends H i j hi hj (by rw [List.length_map]; exact hb) 0 0 2 1 (mSN 8 s n) hst)
  rw [HQ.out]
  dsimp only [MV.f, mSN, MV.of] at HS
  have q1 : (mReq b s n).ses = s := by cases b <;> rfl
  have q2 : (mReq b s n).num = n := by cases b <;> rfl
  have q3 : ((mReq b s n).kind == 1) = false := by cases b <;> rfl
  have hok : (mReq b s n).Ok := Pq.fits.ok (p := .req b s n) hf
  clear hc hb hst hf
  generalize mReq b s n = m at q1 q2 q3 hok ⊢
  replace q1 := hid q1
  replace q2 := hid q2
  have H2 := H.alloc (dgO ⟨q, 2, 1, 0, 0, m.enc⟩)
  obtain ⟨d0, d1, d2, d3, d4, d5⟩ := dg_cells (H2.blk 4 rfl)
  have HD := hid (st_wdecode H2 m hok)
  clear H hok
  have H2 := hid H2
  dsimp only [dgV]
  go_enter Try.func19, Try.ntmps19
  go_wp2_with fail
  refine HD.out.mono ?_
  rintro e w1 ⟨rfl, H3⟩
  clear HD d0 d1 d2 d3 d4 d5 H2
  have H4 := hid (H3.alloc (mO m))
  obtain ⟨d0, d1, d2, d3, d4, d5⟩ := dg_cells (H3.blk 4 rfl)
  have hgd := World.block_lt_of_cell? _ _ d0
  clear H3
  dsimp only [MV.f, mO] at H4 ⊢
  go_wp2_with fail
  clear d0 d1 d2 d3 d4 d5 hgd
  generalize w1.alloc (.cells #[.int .i64 m.kind, .int .i64 m.ses, .int .i64 m.num, .int .i64 m.job, .int .i64 m.bad, .int .i64 m.idx, .int .i64 m.cnt, .int .i64 m.code, .int .u64 m.bits, .string m.text, .string m.prog] 57) = w2 at H4 ⊢
  generalize w1.heap.size = pm at H4 ⊢
  have HC := hid (show ∀ wx, St W wx (paL X C T N x ++ [BlkT w.heap.size (dgO ⟨q, 2, 1, 0, 0, m.enc⟩)] ++ [BlkT pm (mO m)]) → wx.cell? ⟨X, 1, none⟩ = some (ptr T) ∧ wx.cell? ⟨pm, 1, none⟩ = some (.int .i64 s) ∧ wx.cell? ⟨pm, 2, none⟩ = some (.int .i64 n) from fun wx h => by
    obtain ⟨m0, m1, m2, _⟩ := msg_cells (h.blk 5 rfl)
    rw [q1.out] at m1
    rw [q2.out] at m2
    exact ⟨cell_blk (i := 1) (h.blk 1 rfl) rfl, m1, m2⟩)
  refine wp_region_U (S := fun wx : World => wx.cell? ⟨X, 1, none⟩ = some (ptr T) ∧ wx.cell? ⟨pm, 1, none⟩ = some (.int .i64 s) ∧ wx.cell? ⟨pm, 2, none⟩ = some (.int .i64 n)) 13 (by kernel_rfl) (HC.out _ (H4.out.same ((Fr.refl _ _).drew))) (fun hHeld => ?_)
  refine takeU (i := 0) (d := 81) (v := ?_) rfl rfl (by kernel_rfl) (by kernel_rfl) (by kernel_rfl) (by kernel_rfl) (by kernel_rfl) (fun _ _ _ h => h) (Or.inl ⟨by rfl, ?_⟩) hHeld ?_
  rotate_left
  · intro wq hSw; (try dsimp only at hSw); go_simp; all_goals (with_reducible rfl)
  simp only [Act.put, List.setIfInBounds_toArray, List.set_cons_zero, List.set_cons_succ]
  refine takeU (i := 1) (d := 82) (v := ?_) rfl rfl (by kernel_rfl) (by kernel_rfl) (by kernel_rfl) (by kernel_rfl) (by kernel_rfl) (fun _ _ _ h => h) (Or.inl ⟨by rfl, ?_⟩) hHeld ?_
  rotate_left
  · intro wq hSw; (try dsimp only at hSw); go_simp; all_goals (with_reducible rfl)
  simp only [Act.put, List.setIfInBounds_toArray, List.set_cons_zero, List.set_cons_succ]
  refine takeU (i := 2) (d := 83) (v := ?_) rfl rfl (by kernel_rfl) (by kernel_rfl) (by kernel_rfl) (by kernel_rfl) (by kernel_rfl) (fun _ _ _ h => h) (Or.inl ⟨by rfl, ?_⟩) hHeld ?_
  rotate_left
  · intro wq hSw; (try dsimp only at hSw); go_simp; all_goals (with_reducible rfl)
  simp only [Act.put, List.setIfInBounds_toArray, List.set_cons_zero, List.set_cons_succ]
  refine takeU (i := 3) (d := 84) (v := ?_) rfl rfl (by kernel_rfl) (by kernel_rfl) (by kernel_rfl) (by kernel_rfl) (by kernel_rfl) (fun _ _ _ h => h) (Or.inl ⟨by rfl, ?_⟩) hHeld ?_
  rotate_left
  · intro wq hSw; (try dsimp only at hSw); go_simp; all_goals (with_reducible rfl)
  simp only [Act.put, List.setIfInBounds_toArray, List.set_cons_zero, List.set_cons_succ]
  refine takeU (i := 4) (d := 85) (v := ?_) rfl rfl (by kernel_rfl) (by kernel_rfl) (by kernel_rfl) (by kernel_rfl) (by kernel_rfl) (fun _ _ _ h => h) (Or.inl ⟨by rfl, ?_⟩) hHeld ?_
  rotate_left
  · intro wq hSw; (try dsimp only at hSw); go_simp; all_goals (with_reducible rfl)
  simp only [Act.put, List.setIfInBounds_toArray, List.set_cons_zero, List.set_cons_succ]
  refine takeU (i := 5) (d := 86) (v := ?_) rfl rfl (by kernel_rfl) (by kernel_rfl) (by kernel_rfl) (by kernel_rfl) (by kernel_rfl) (fun _ _ _ h => h) (Or.inl ⟨by rfl, ?_⟩) hHeld ?_
  rotate_left
  · intro wq hSw; (try dsimp only at hSw); go_simp; all_goals (with_reducible rfl)
  simp only [Act.put, List.setIfInBounds_toArray, List.set_cons_zero, List.set_cons_succ]
  refine takeU (i := 6) (d := 87) (v := ?_) rfl rfl (by kernel_rfl) (by kernel_rfl) (by kernel_rfl) (by kernel_rfl) (by kernel_rfl) (fun _ _ _ h => h) (Or.inl ⟨by rfl, ?_⟩) hHeld ?_
  rotate_left
  · intro wq hSw; (try dsimp only at hSw); go_simp; all_goals (with_reducible rfl)
  simp only [Act.put, List.setIfInBounds_toArray, List.set_cons_zero, List.set_cons_succ]
  refine takeU (i := 7) (d := 88) (v := ?_) rfl rfl (by kernel_rfl) (by kernel_rfl) (by kernel_rfl) (by kernel_rfl) (by kernel_rfl) (fun _ _ _ h => h) (Or.inl ⟨by rfl, ?_⟩) hHeld ?_
  rotate_left
  · intro wq hSw; (try dsimp only at hSw); go_simp; all_goals (with_reducible rfl)
  simp only [Act.put, List.setIfInBounds_toArray, List.set_cons_zero, List.set_cons_succ]
  refine wpAnyU_ready (rs := [8]) (by kernel_rfl) (by simp) ?_
  refine AllReadyU.cons rfl (fun K1 hK => ?_) AllReadyU.nil
  go_simp
  go_at_call 50
  refine (HA.out _ _ (H4.out.same ((Fr.refl _ _).drew)) 3 rfl).mono ?_
  rintro e w3 ⟨rfl, H5⟩
  have H5 := hid H5
  clear H4
  go_simp
  refine hK.out _ _ (fun _ => HC.out _ H5.out) (fun hHeld => ?_)
  clear hK K1
  have hHeld := hHeld (by decide)
  refine takeU (i := 9) (d := 80) (v := ?_) rfl rfl (by kernel_rfl) (by kernel_rfl) (by kernel_rfl) (by kernel_rfl) (by kernel_rfl) (fun _ _ _ h => h) (Or.inl ⟨by rfl, ?_⟩) hHeld ?_
  rotate_left
  · intro wq hSw; (try dsimp only at hSw); go_simp; all_goals (with_reducible rfl)
  simp only [Act.put, List.setIfInBounds_toArray, List.set_cons_zero, List.set_cons_succ]
  refine takeU (i := 10) (d := 90) (v := ?_) rfl rfl (by kernel_rfl) (by kernel_rfl) (by kernel_rfl) (by kernel_rfl) (by kernel_rfl) (fun _ _ _ h => h) (Or.inl ⟨by rfl, ?_⟩) hHeld ?_
  rotate_left
  · intro wq hSw; (try dsimp only at hSw); go_simp; all_goals (with_reducible rfl)
  simp only [Act.put, List.setIfInBounds_toArray, List.set_cons_zero, List.set_cons_succ]
  refine takeU (i := 11) (d := 91) (v := ?_) rfl rfl (by kernel_rfl) (by kernel_rfl) (by kernel_rfl) (by kernel_rfl) (by kernel_rfl) (fun _ _ _ h => h) (Or.inl ⟨by rfl, ?_⟩) hHeld ?_
  rotate_left
  · intro wq hSw; (try dsimp only at hSw); go_simp; all_goals (with_reducible rfl)
  simp only [Act.put, List.setIfInBounds_toArray, List.set_cons_zero, List.set_cons_succ]
  refine takeU (i := 12) (d := 8) (v := ?_) rfl rfl (by kernel_rfl) (by kernel_rfl) (by kernel_rfl) (by kernel_rfl) (by kernel_rfl) (fun _ _ _ h => h) (Or.inl ⟨by rfl, ?_⟩) hHeld ?_
  rotate_left
  · intro wq hSw; (try dsimp only at hSw); go_simp; all_goals (with_reducible rfl)
  simp only [Act.put, List.setIfInBounds_toArray, List.set_cons_zero, List.set_cons_succ]
  refine wpAnyU_ready (rs := [13]) (by kernel_rfl) (by simp) ?_
  refine AllReadyU.cons rfl (fun K1 hK => ?_) AllReadyU.nil
  go_simp
  refine hK.out _ _ (fun h => absurd rfl h) (fun _ => ?_)
  clear hK K1 hHeld
  refine wpAnyU_done (by kernel_rfl) ?_ _
  obtain ⟨y1, z1, z2⟩ := HC.out _ H5.out
  obtain ⟨d0, d1, d2, d3, d4, d5⟩ := dg_cells (H5.out.blk 4 rfl)
  go_wp2_with fail
  refine (HS.out _ _ H5.out 1 0 rfl rfl).mono ?_
  rintro e w4 ⟨rfl, H6⟩
  clear H5 d0 d1 d2 d3 d4 d5 y1 z1 z2
  have H6 := hid (St.drop (T := [BlkT w.heap.size (dgO ⟨q, 2, 1, 0, 0, m.enc⟩), BlkT pm (mO m)]) (show St W w4 ([NtT N (x.bag.map pkD ++ [pkD (nextN x.sent, .stale s n)]) (nextN x.sent), BlkT X (prO C T N x.used x.acted.length x.answered.length), BlkT C (clC x.c), TbT T x.t.dk] ++ [BlkT w.heap.size (dgO ⟨q, 2, 1, 0, 0, m.enc⟩), BlkT pm (mO m)]) from H6))
  go_wp2_with fail
  go_end0
  refine ⟨rfl, ?_⟩
  show St W _ (NtT N ((x.send _).bag.map pkD) (x.send _).sent :: _)
  rw [nt_send]
  exact H6.out
end

end Go.Proofs.Ytkiccbjngokpjaa

/-
  the pair of top: a request that is passed, or said again.
-/
namespace Go.Proofs.Ytkiccbjngokpjaa
open Go.RowKit
set_option linter.unusedVariables false
set_option linter.unusedSimpArgs false

section
variable {W : Base} {w : World}
set_option maxHeartbeats 6400000 in
set_option maxRecDepth 100000 in
theorem st_pcomes_pass {X C T N : Nat} {x : Pm} (H : St W w (paL X C T N x)) (q : Int) (b : Bool) (s n : Nat) (hf : (Pq.req b s n).fits) (hc : x.comes (.req b s n) = x)
    (HA : Hid (∀ (wx : World) (R : List Thing) (h : St W wx R) (i : Nat) (hi : R[i]? = some (TbT T x.t.dk)), Calls Try.prog 50 #[ptr T, .int .i64 0, .int .i64 1, .int .i64 s, .int .i64 n] wx fun e w' => e = .returned (.tuple #[.int .i64 0, .string ⟨#[]⟩]) ∧ St W w' R)) :
    Calls Try.prog 19 #[ptr X, dgV ⟨q, 2, 1, 0, 0, (mReq b s n).enc⟩] w fun e w' => e = .returned (.tuple #[]) ∧ St W w' (paL X C T N (x.comes (.req b s n))) := by
  rw [hc]
  have q1 : (mReq b s n).ses = s := by cases b <;> rfl
  have q2 : (mReq b s n).num = n := by cases b <;> rfl
  have q3 : ((mReq b s n).kind == 1) = false := by cases b <;> rfl
  have hok : (mReq b s n).Ok := Pq.fits.ok (p := .req b s n) hf
  clear hc hf
  generalize mReq b s n = m at q1 q2 q3 hok ⊢
  replace q1 := hid q1
  replace q2 := hid q2
  have H2 := H.alloc (dgO ⟨q, 2, 1, 0, 0, m.enc⟩)
  obtain ⟨d0, d1, d2, d3, d4, d5⟩ := dg_cells (H2.blk 4 rfl)
  have HD := hid (st_wdecode H2 m hok)
  clear H hok
  have H2 := hid H2
  dsimp only [dgV]
  go_enter Try.func19, Try.ntmps19
  go_wp2_with fail
  refine HD.out.mono ?_
  rintro e w1 ⟨rfl, H3⟩
  clear HD d0 d1 d2 d3 d4 d5 H2
  have H4 := hid (H3.alloc (mO m))
  obtain ⟨d0, d1, d2, d3, d4, d5⟩ := dg_cells (H3.blk 4 rfl)
  have hgd := World.block_lt_of_cell? _ _ d0
  clear H3
  dsimp only [MV.f, mO] at H4 ⊢
  go_wp2_with fail
  clear d0 d1 d2 d3 d4 d5 hgd
  generalize w1.alloc (.cells #[.int .i64 m.kind, .int .i64 m.ses, .int .i64 m.num, .int .i64 m.job, .int .i64 m.bad, .int .i64 m.idx, .int .i64 m.cnt, .int .i64 m.code, .int .u64 m.bits, .string m.text, .string m.prog] 57) = w2 at H4 ⊢
  generalize w1.heap.size = pm at H4 ⊢
  have HC := hid (show ∀ wx, St W wx (paL X C T N x ++ [BlkT w.heap.size (dgO ⟨q, 2, 1, 0, 0, m.enc⟩)] ++ [BlkT pm (mO m)]) → wx.cell? ⟨X, 1, none⟩ = some (ptr T) ∧ wx.cell? ⟨pm, 1, none⟩ = some (.int .i64 s) ∧ wx.cell? ⟨pm, 2, none⟩ = some (.int .i64 n) from fun wx h => by
    obtain ⟨m0, m1, m2, _⟩ := msg_cells (h.blk 5 rfl)
    rw [q1.out] at m1
    rw [q2.out] at m2
    exact ⟨cell_blk (i := 1) (h.blk 1 rfl) rfl, m1, m2⟩)
  refine wp_region_U (S := fun wx : World => wx.cell? ⟨X, 1, none⟩ = some (ptr T) ∧ wx.cell? ⟨pm, 1, none⟩ = some (.int .i64 s) ∧ wx.cell? ⟨pm, 2, none⟩ = some (.int .i64 n)) 13 (by kernel_rfl) (HC.out _ (H4.out.same ((Fr.refl _ _).drew))) (fun hHeld => ?_)
  refine takeU (i := 0) (d := 81) (v := ?_) rfl rfl (by kernel_rfl) (by kernel_rfl) (by kernel_rfl) (by kernel_rfl) (by kernel_rfl) (fun _ _ _ h => h) (Or.inl ⟨by rfl, ?_⟩) hHeld ?_
  rotate_left
  · intro wq hSw; (try dsimp only at hSw); go_simp; all_goals (with_reducible rfl)
  simp only [Act.put, List.setIfInBounds_toArray, List.set_cons_zero, List.set_cons_succ]
  refine takeU (i := 1) (d := 82) (v := ?_) rfl rfl (by kernel_rfl) (by kernel_rfl) (by kernel_rfl) (by kernel_rfl) (by kernel_rfl) (fun _ _ _ h => h) (Or.inl ⟨by rfl, ?_⟩) hHeld ?_
  rotate_left
  · intro wq hSw; (try dsimp only at hSw); go_simp; all_goals (with_reducible rfl)
  simp only [Act.put, List.setIfInBounds_toArray, List.set_cons_zero, List.set_cons_succ]
  refine takeU (i := 2) (d := 83) (v := ?_) rfl rfl (by kernel_rfl) (by kernel_rfl) (by kernel_rfl) (by kernel_rfl) (by kernel_rfl) (fun _ _ _ h => h) (Or.inl ⟨by rfl, ?_⟩) hHeld ?_
  rotate_left
  · intro wq hSw; (try dsimp only at hSw); go_simp; all_goals (with_reducible rfl)
  simp only [Act.put, List.setIfInBounds_toArray, List.set_cons_zero, List.set_cons_succ]
  refine takeU (i := 3) (d := 84) (v := ?_) rfl rfl (by kernel_rfl) (by kernel_rfl) (by kernel_rfl) (by kernel_rfl) (by kernel_rfl) (fun _ _ _ h => h) (Or.inl ⟨by rfl, ?_⟩) hHeld ?_
  rotate_left
  · intro wq hSw; (try dsimp only at hSw); go_simp; all_goals (with_reducible rfl)
  simp only [Act.put, List.setIfInBounds_toArray, List.set_cons_zero, List.set_cons_succ]
  refine takeU (i := 4) (d := 85) (v := ?_) rfl rfl (by kernel_rfl) (by kernel_rfl) (by kernel_rfl) (by kernel_rfl) (by kernel_rfl) (fun _ _ _ h => h) (Or.inl ⟨by rfl, ?_⟩) hHeld ?_
  rotate_left
  · intro wq hSw; (try dsimp only at hSw); go_simp; all_goals (with_reducible rfl)
  simp only [Act.put, List.setIfInBounds_toArray, List.set_cons_zero, List.set_cons_succ]
  refine takeU (i := 5) (d := 86) (v := ?_) rfl rfl (by kernel_rfl) (by kernel_rfl) (by kernel_rfl) (by kernel_rfl) (by kernel_rfl) (fun _ _ _ h => h) (Or.inl ⟨by rfl, ?_⟩) hHeld ?_
  rotate_left
  · intro wq hSw; (try dsimp only at hSw); go_simp; all_goals (with_reducible rfl)
  simp only [Act.put, List.setIfInBounds_toArray, List.set_cons_zero, List.set_cons_succ]
  refine takeU (i := 6) (d := 87) (v := ?_) rfl rfl (by kernel_rfl) (by kernel_rfl) (by kernel_rfl) (by kernel_rfl) (by kernel_rfl) (fun _ _ _ h => h) (Or.inl ⟨by rfl, ?_⟩) hHeld ?_
  rotate_left
  · intro wq hSw; (try dsimp only at hSw); go_simp; all_goals (with_reducible rfl)
  simp only [Act.put, List.setIfInBounds_toArray, List.set_cons_zero, List.set_cons_succ]
  refine takeU (i := 7) (d := 88) (v := ?_) rfl rfl (by kernel_rfl) (by kernel_rfl) (by kernel_rfl) (by kernel_rfl) (by kernel_rfl) (fun _ _ _ h => h) (Or.inl ⟨by rfl, ?_⟩) hHeld ?_
  rotate_left
  · intro wq hSw; (try dsimp only at hSw); go_simp; all_goals (with_reducible rfl)
  simp only [Act.put, List.setIfInBounds_toArray, List.set_cons_zero, List.set_cons_succ]
  refine wpAnyU_ready (rs := [8]) (by kernel_rfl) (by simp) ?_
  refine AllReadyU.cons rfl (fun K1 hK => ?_) AllReadyU.nil
  go_simp
  go_at_call 50
  refine (HA.out _ _ (H4.out.same ((Fr.refl _ _).drew)) 3 rfl).mono ?_
  rintro e w3 ⟨rfl, H5⟩
  have H5 := hid H5
  clear H4
  go_simp
  refine hK.out _ _ (fun _ => HC.out _ H5.out) (fun hHeld => ?_)
  clear hK K1
  have hHeld := hHeld (by decide)
  refine takeU (i := 9) (d := 80) (v := ?_) rfl rfl (by kernel_rfl) (by kernel_rfl) (by kernel_rfl) (by kernel_rfl) (by kernel_rfl) (fun _ _ _ h => h) (Or.inl ⟨by rfl, ?_⟩) hHeld ?_
  rotate_left
  · intro wq hSw; (try dsimp only at hSw); go_simp; all_goals (with_reducible rfl)
  simp only [Act.put, List.setIfInBounds_toArray, List.set_cons_zero, List.set_cons_succ]
  refine takeU (i := 10) (d := 90) (v := ?_) rfl rfl (by kernel_rfl) (by kernel_rfl) (by kernel_rfl) (by kernel_rfl) (by kernel_rfl) (fun _ _ _ h => h) (Or.inl ⟨by rfl, ?_⟩) hHeld ?_
  rotate_left
  · intro wq hSw; (try dsimp only at hSw); go_simp; all_goals (with_reducible rfl)
  simp only [Act.put, List.setIfInBounds_toArray, List.set_cons_zero, List.set_cons_succ]
  refine takeU (i := 11) (d := 91) (v := ?_) rfl rfl (by kernel_rfl) (by kernel_rfl) (by kernel_rfl) (by kernel_rfl) (by kernel_rfl) (fun _ _ _ h => h) (Or.inl ⟨by rfl, ?_⟩) hHeld ?_
  rotate_left
  · intro wq hSw; (try dsimp only at hSw); go_simp; all_goals (with_reducible rfl)
  simp only [Act.put, List.setIfInBounds_toArray, List.set_cons_zero, List.set_cons_succ]
  refine takeU (i := 12) (d := 8) (v := ?_) rfl rfl (by kernel_rfl) (by kernel_rfl) (by kernel_rfl) (by kernel_rfl) (by kernel_rfl) (fun _ _ _ h => h) (Or.inl ⟨by rfl, ?_⟩) hHeld ?_
  rotate_left
  · intro wq hSw; (try dsimp only at hSw); go_simp; all_goals (with_reducible rfl)
  simp only [Act.put, List.setIfInBounds_toArray, List.set_cons_zero, List.set_cons_succ]
  refine wpAnyU_ready (rs := [13]) (by kernel_rfl) (by simp) ?_
  refine AllReadyU.cons rfl (fun K1 hK => ?_) AllReadyU.nil
  go_simp
  refine hK.out _ _ (fun h => absurd rfl h) (fun _ => ?_)
  clear hK K1 hHeld
  refine wpAnyU_done (by kernel_rfl) ?_ _
  obtain ⟨y1, z1, z2⟩ := HC.out _ H5.out
  obtain ⟨d0, d1, d2, d3, d4, d5⟩ := dg_cells (H5.out.blk 4 rfl)
  go_wp2_with fail
  go_end0
  have h6 := hid (St.drop (T := [BlkT w.heap.size (dgO ⟨q, 2, 1, 0, 0, m.enc⟩), BlkT pm (mO m)]) (show St W w3 ([NtT N (x.bag.map pkD) x.sent, BlkT X (prO C T N x.used x.acted.length x.answered.length), BlkT C (clC x.c), TbT T x.t.dk] ++ [BlkT w.heap.size (dgO ⟨q, 2, 1, 0, 0, m.enc⟩), BlkT pm (mO m)]) from H5.out))
  exact ⟨rfl, h6.out⟩
set_option maxHeartbeats 6400000 in
set_option maxRecDepth 100000 in
theorem st_pcomes_again {X C T N : Nat} {x : Pm} (H : St W w (paL X C T N x)) (q : Int) (b : Bool) (s n : Nat) (hf : (Pq.req b s n).fits) (hc : x.comes (.req b s n) = x.send (.reply x.t.rb s n)) (hrep : x.t.dk.rep = (mRep x.t.rb s n).enc) (hb : x.bag.length ≤ 1073741824)
    (HA : Hid (∀ (wx : World) (R : List Thing) (h : St W wx R) (i : Nat) (hi : R[i]? = some (TbT T x.t.dk)), Calls Try.prog 50 #[ptr T, .int .i64 0, .int .i64 1, .int .i64 s, .int .i64 n] wx fun e w' => e = .returned (.tuple #[.int .i64 2, .string x.t.dk.rep]) ∧ St W w' R)) :
    Calls Try.prog 19 #[ptr X, dgV ⟨q, 2, 1, 0, 0, (mReq b s n).enc⟩] w fun e w' => e = .returned (.tuple #[]) ∧ St W w' (paL X C T N (x.comes (.req b s n))) := by
  have HS := hid (fun (wx : World) (R : List Thing) (H : St W wx R) (j : Nat) (hj : R[j]? = some (NtT N (x.bag.map pkD) x.sent)) => st_nsend H j hj 0 0 2 1 x.t.dk.rep (by rw [List.length_map]; exact hb))
  have HR := hid hrep
  rw [hc]
  have q1 : (mReq b s n).ses = s := by cases b <;> rfl
  have q2 : (mReq b s n).num = n := by cases b <;> rfl
  have q3 : ((mReq b s n).kind == 1) = false := by cases b <;> rfl
  have hok : (mReq b s n).Ok := Pq.fits.ok (p := .req b s n) hf
  clear hc hb hf hrep
  generalize mReq b s n = m at q1 q2 q3 hok ⊢
  replace q1 := hid q1
  replace q2 := hid q2
  have H2 := H.alloc (dgO ⟨q, 2, 1, 0, 0, m.enc⟩)
  obtain ⟨d0, d1, d2, d3, d4, d5⟩ := dg_cells (H2.blk 4 rfl)
  have HD := hid (st_wdecode H2 m hok)
  clear H hok
  have H2 := hid H2
  dsimp only [dgV]
  go_enter Try.func19, Try.ntmps19
  go_wp2_with fail
  refine HD.out.mono ?_
  rintro e w1 ⟨rfl, H3⟩
  clear HD d0 d1 d2 d3 d4 d5 H2
  have H4 := hid (H3.alloc (mO m))
  obtain ⟨d0, d1, d2, d3, d4, d5⟩ := dg_cells (H3.blk 4 rfl)
  have hgd := World.block_lt_of_cell? _ _ d0
  clear H3
  dsimp only [MV.f, mO] at H4 ⊢
  go_wp2_with fail
  clear d0 d1 d2 d3 d4 d5 hgd
  generalize w1.alloc (.cells #[.int .i64 m.kind, .int .i64 m.ses, .int .i64 m.num, .int .i64 m.job, .int .i64 m.bad, .int .i64 m.idx, .int .i64 m.cnt, .int .i64 m.code, .int .u64 m.bits, .string m.text, .string m.prog] 57) = w2 at H4 ⊢
  generalize w1.heap.size = pm at H4 ⊢
  have HC := hid (show ∀ wx, St W wx (paL X C T N x ++ [BlkT w.heap.size (dgO ⟨q, 2, 1, 0, 0, m.enc⟩)] ++ [BlkT pm (mO m)]) → wx.cell? ⟨X, 1, none⟩ = some (ptr T) ∧ wx.cell? ⟨pm, 1, none⟩ = some (.int .i64 s) ∧ wx.cell? ⟨pm, 2, none⟩ = some (.int .i64 n) from fun wx h => by
    obtain ⟨m0, m1, m2, _⟩ := msg_cells (h.blk 5 rfl)
    rw [q1.out] at m1
    rw [q2.out] at m2
    exact ⟨cell_blk (i := 1) (h.blk 1 rfl) rfl, m1, m2⟩)
  refine wp_region_U (S := fun wx : World => wx.cell? ⟨X, 1, none⟩ = some (ptr T) ∧ wx.cell? ⟨pm, 1, none⟩ = some (.int .i64 s) ∧ wx.cell? ⟨pm, 2, none⟩ = some (.int .i64 n)) 13 (by kernel_rfl) (HC.out _ (H4.out.same ((Fr.refl _ _).drew))) (fun hHeld => ?_)
  refine takeU (i := 0) (d := 81) (v := ?_) rfl rfl (by kernel_rfl) (by kernel_rfl) (by kernel_rfl) (by kernel_rfl) (by kernel_rfl) (fun _ _ _ h => h) (Or.inl ⟨by rfl, ?_⟩) hHeld ?_
  rotate_left
  · intro wq hSw; (try dsimp only at hSw); go_simp; all_goals (with_reducible rfl)
  simp only [Act.put, List.setIfInBounds_toArray, List.set_cons_zero, List.set_cons_succ]
  refine takeU (i := 1) (d := 82) (v := ?_) rfl rfl (by kernel_rfl) (by kernel_rfl) (by kernel_rfl) (by kernel_rfl) (by kernel_rfl) (fun _ _ _ h => h) (Or.inl ⟨by rfl, ?_⟩) hHeld ?_
  rotate_left
  · intro wq hSw; (try dsimp only at hSw); go_simp; all_goals (with_reducible rfl)
  simp only [Act.put, List.setIfInBounds_toArray, List.set_cons_zero, List.set_cons_succ]
  refine takeU (i := 2) (d := 83) (v := ?_) rfl rfl (by kernel_rfl) (by kernel_rfl) (by kernel_rfl) (by kernel_rfl) (by kernel_rfl) (fun _ _ _ h => h) (Or.inl ⟨by rfl, ?_⟩) hHeld ?_
  rotate_left
  · intro wq hSw; (try dsimp only at hSw); go_simp; all_goals (with_reducible rfl)
  simp only [Act.put, List.setIfInBounds_toArray, List.set_cons_zero, List.set_cons_succ]
  refine takeU (i := 3) (d := 84) (v := ?_) rfl rfl (by kernel_rfl) (by kernel_rfl) (by kernel_rfl) (by kernel_rfl) (by kernel_rfl) (fun _ _ _ h => h) (Or.inl ⟨by rfl, ?_⟩) hHeld ?_
  rotate_left
  · intro wq hSw; (try dsimp only at hSw); go_simp; all_goals (with_reducible rfl)
  simp only [Act.put, List.setIfInBounds_toArray, List.set_cons_zero, List.set_cons_succ]
  refine takeU (i := 4) (d := 85) (v := ?_) rfl rfl (by kernel_rfl) (by kernel_rfl) (by kernel_rfl) (by kernel_rfl) (by kernel_rfl) (fun _ _ _ h => h) (Or.inl ⟨by rfl, ?_⟩) hHeld ?_
  rotate_left
  · intro wq hSw; (try dsimp only at hSw); go_simp; all_goals (with_reducible rfl)
  simp only [Act.put, List.setIfInBounds_toArray, List.set_cons_zero, List.set_cons_succ]
  refine takeU (i := 5) (d := 86) (v := ?_) rfl rfl (by kernel_rfl) (by kernel_rfl) (by kernel_rfl) (by kernel_rfl) (by kernel_rfl) (fun _ _ _ h => h) (Or.inl ⟨by rfl, ?_⟩) hHeld ?_
  rotate_left
  · intro wq hSw; (try dsimp only at hSw); go_simp; all_goals (with_reducible rfl)
  simp only [Act.put, List.setIfInBounds_toArray, List.set_cons_zero, List.set_cons_succ]
  refine takeU (i := 6) (d := 87) (v := ?_) rfl rfl (by kernel_rfl) (by kernel_rfl) (by kernel_rfl) (by kernel_rfl) (by kernel_rfl) (fun _ _ _ h => h) (Or.inl ⟨by rfl, ?_⟩) hHeld ?_
  rotate_left
  · intro wq hSw; (try dsimp only at hSw); go_simp; all_goals (with_reducible rfl)
  simp only [Act.put, List.setIfInBounds_toArray, List.set_cons_zero, List.set_cons_succ]
  refine takeU (i := 7) (d := 88) (v := ?_) rfl rfl (by kernel_rfl) (by kernel_rfl) (by kernel_rfl) (by kernel_rfl) (by kernel_rfl) (fun _ _ _ h => h) (Or.inl ⟨by rfl, ?_⟩) hHeld ?_
  rotate_left
  · intro wq hSw; (try dsimp only at hSw); go_simp; all_goals (with_reducible rfl)
  simp only [Act.put, List.setIfInBounds_toArray, List.set_cons_zero, List.set_cons_succ]
  refine wpAnyU_ready (rs := [8]) (by kernel_rfl) (by simp) ?_
  refine AllReadyU.cons rfl (fun K1 hK => ?_) AllReadyU.nil
  go_simp
  go_at_call 50
  refine (HA.out _ _ (H4.out.same ((Fr.refl _ _).drew)) 3 rfl).mono ?_
  rintro e w3 ⟨rfl, H5⟩
  have H5 := hid H5
  clear H4
  go_simp
  refine hK.out _ _ (fun _ => HC.out _ H5.out) (fun hHeld => ?_)
  clear hK K1
  have hHeld := hHeld (by decide)
  refine takeU (i := 9) (d := 80) (v := ?_) rfl rfl (by kernel_rfl) (by kernel_rfl) (by kernel_rfl) (by kernel_rfl) (by kernel_rfl) (fun _ _ _ h => h) (Or.inl ⟨by rfl, ?_⟩) hHeld ?_
  rotate_left
  · intro wq hSw; (try dsimp only at hSw); go_simp; all_goals (with_reducible rfl)
  simp only [Act.put, List.setIfInBounds_toArray, List.set_cons_zero, List.set_cons_succ]
  refine takeU (i := 10) (d := 90) (v := ?_) rfl rfl (by kernel_rfl) (by kernel_rfl) (by kernel_rfl) (by kernel_rfl) (by kernel_rfl) (fun _ _ _ h => h) (Or.inl ⟨by rfl, ?_⟩) hHeld ?_
  rotate_left
  · intro wq hSw; (try dsimp only at hSw); go_simp; all_goals (with_reducible rfl)
  simp only [Act.put, List.setIfInBounds_toArray, List.set_cons_zero, List.set_cons_succ]
  refine takeU (i := 11) (d := 91) (v := ?_) rfl rfl (by kernel_rfl) (by kernel_rfl) (by kernel_rfl) (by kernel_rfl) (by kernel_rfl) (fun _ _ _ h => h) (Or.inl ⟨by rfl, ?_⟩) hHeld ?_
  rotate_left
  · intro wq hSw; (try dsimp only at hSw); go_simp; all_goals (with_reducible rfl)
  simp only [Act.put, List.setIfInBounds_toArray, List.set_cons_zero, List.set_cons_succ]
  refine takeU (i := 12) (d := 8) (v := ?_) rfl rfl (by kernel_rfl) (by kernel_rfl) (by kernel_rfl) (by kernel_rfl) (by kernel_rfl) (fun _ _ _ h => h) (Or.inl ⟨by rfl, ?_⟩) hHeld ?_
  rotate_left
  · intro wq hSw; (try dsimp only at hSw); go_simp; all_goals (with_reducible rfl)
  simp only [Act.put, List.setIfInBounds_toArray, List.set_cons_zero, List.set_cons_succ]
  refine wpAnyU_ready (rs := [13]) (by kernel_rfl) (by simp) ?_
  refine AllReadyU.cons rfl (fun K1 hK => ?_) AllReadyU.nil
  go_simp
  refine hK.out _ _ (fun h => absurd rfl h) (fun _ => ?_)
  clear hK K1 hHeld
  refine wpAnyU_done (by kernel_rfl) ?_ _
  obtain ⟨y1, z1, z2⟩ := HC.out _ H5.out
  obtain ⟨d0, d1, d2, d3, d4, d5⟩ := dg_cells (H5.out.blk 4 rfl)
  have HD2 := hid (show ∀ wx, Fr [] w3 wx → wx.cell? ⟨X, 2, none⟩ = some (ptr N) ∧ (wx.cell? ⟨w.heap.size, 1, none⟩ = some (.int .i64 2) ∧ wx.cell? ⟨w.heap.size, 2, none⟩ = some (.int .i64 1)) ∧ wx.cell? ⟨w.heap.size, 3, none⟩ = some (.int .i64 0) ∧ wx.cell? ⟨w.heap.size, 4, none⟩ = some (.int .i64 0) from fun wx h => by
    have h5 := H5.out.same h
    obtain ⟨e0, e1, e2, e3, e4, e5⟩ := dg_cells (h5.blk 4 rfl)
    exact ⟨cell_blk (i := 2) (h5.blk 1 rfl) rfl, ⟨e1, e2⟩, e3, e4⟩)
  clear d0 d1 d2 d3 d4 d5 y1 z1 z2
  go_wp2_with fail
  refine wp_region_U (S := fun wx : World => wx.cell? ⟨X, 2, none⟩ = some (ptr N) ∧ (wx.cell? ⟨w.heap.size, 1, none⟩ = some (.int .i64 2) ∧ wx.cell? ⟨w.heap.size, 2, none⟩ = some (.int .i64 1)) ∧ wx.cell? ⟨w.heap.size, 3, none⟩ = some (.int .i64 0) ∧ wx.cell? ⟨w.heap.size, 4, none⟩ = some (.int .i64 0)) 9 (by kernel_rfl) (HD2.out _ ((Fr.refl _ _).drew)) (fun hHeld => ?_)
  refine takeU (i := 0) (d := 108) (v := ?_) rfl rfl (by kernel_rfl) (by kernel_rfl) (by kernel_rfl) (by kernel_rfl) (by kernel_rfl) (fun _ _ _ h => h) (Or.inl ⟨by rfl, ?_⟩) hHeld ?_
  rotate_left
  · intro wq hSw; (try dsimp only at hSw); go_simp; all_goals (with_reducible rfl)
  simp only [Act.put, List.setIfInBounds_toArray, List.set_cons_zero, List.set_cons_succ]
  refine takeU (i := 1) (d := 109) (v := ?_) rfl rfl (by kernel_rfl) (by kernel_rfl) (by kernel_rfl) (by kernel_rfl) (by kernel_rfl) (fun _ _ _ h => h) (Or.inl ⟨by rfl, ?_⟩) hHeld ?_
  rotate_left
  · intro wq hSw; (try dsimp only at hSw); go_simp; all_goals (with_reducible rfl)
  simp only [Act.put, List.setIfInBounds_toArray, List.set_cons_zero, List.set_cons_succ]
  refine takeU (i := 2) (d := 110) (v := ?_) rfl rfl (by kernel_rfl) (by kernel_rfl) (by kernel_rfl) (by kernel_rfl) (by kernel_rfl) (fun _ _ _ h => h) (Or.inl ⟨by rfl, ?_⟩) hHeld ?_
  rotate_left
  · intro wq hSw; (try dsimp only at hSw); go_simp; all_goals (with_reducible rfl)
  simp only [Act.put, List.setIfInBounds_toArray, List.set_cons_zero, List.set_cons_succ]
  refine takeU (i := 3) (d := 111) (v := ?_) rfl rfl (by kernel_rfl) (by kernel_rfl) (by kernel_rfl) (by kernel_rfl) (by kernel_rfl) (fun _ _ _ h => h) (Or.inl ⟨by rfl, ?_⟩) hHeld ?_
  rotate_left
  · intro wq hSw; (try dsimp only at hSw); go_simp; all_goals (with_reducible rfl)
  simp only [Act.put, List.setIfInBounds_toArray, List.set_cons_zero, List.set_cons_succ]
  refine takeU (i := 4) (d := 112) (v := ?_) rfl rfl (by kernel_rfl) (by kernel_rfl) (by kernel_rfl) (by kernel_rfl) (by kernel_rfl) (fun _ _ _ h => h) (Or.inl ⟨by rfl, ?_⟩) hHeld ?_
  rotate_left
  · intro wq hSw; (try dsimp only at hSw); go_simp; all_goals (with_reducible rfl)
  simp only [Act.put, List.setIfInBounds_toArray, List.set_cons_zero, List.set_cons_succ]
  refine takeU (i := 5) (d := 113) (v := ?_) rfl rfl (by kernel_rfl) (by kernel_rfl) (by kernel_rfl) (by kernel_rfl) (by kernel_rfl) (fun _ _ _ h => h) (Or.inl ⟨by rfl, ?_⟩) hHeld ?_
  rotate_left
  · intro wq hSw; (try dsimp only at hSw); go_simp; all_goals (with_reducible rfl)
  simp only [Act.put, List.setIfInBounds_toArray, List.set_cons_zero, List.set_cons_succ]
  refine takeU (i := 6) (d := 114) (v := ?_) rfl rfl (by kernel_rfl) (by kernel_rfl) (by kernel_rfl) (by kernel_rfl) (by kernel_rfl) (fun _ _ _ h => h) (Or.inl ⟨by rfl, ?_⟩) hHeld ?_
  rotate_left
  · intro wq hSw; (try dsimp only at hSw); go_simp; all_goals (with_reducible rfl)
  simp only [Act.put, List.setIfInBounds_toArray, List.set_cons_zero, List.set_cons_succ]
  refine takeU (i := 7) (d := 115) (v := ?_) rfl rfl (by kernel_rfl) (by kernel_rfl) (by kernel_rfl) (by kernel_rfl) (by kernel_rfl) (fun _ _ _ h => h) (Or.inl ⟨by rfl, ?_⟩) hHeld ?_
  rotate_left
  · intro wq hSw; (try dsimp only at hSw); go_simp; all_goals (with_reducible rfl)
  simp only [Act.put, List.setIfInBounds_toArray, List.set_cons_zero, List.set_cons_succ]
  refine takeU (i := 8) (d := 116) (v := ?_) rfl rfl (by kernel_rfl) (by kernel_rfl) (by kernel_rfl) (by kernel_rfl) (by kernel_rfl) (fun _ _ _ h => h) (Or.inl ⟨by rfl, ?_⟩) hHeld ?_
  rotate_left
  · intro wq hSw; (try dsimp only at hSw); go_simp; all_goals (with_reducible rfl)
  simp only [Act.put, List.setIfInBounds_toArray, List.set_cons_zero, List.set_cons_succ]
  refine wpAnyU_ready (rs := [9]) (by kernel_rfl) (by simp) ?_
  refine AllReadyU.cons rfl (fun K1 hK => ?_) AllReadyU.nil
  go_simp
  go_at_call 30
  refine (HS.out _ _ (H5.out.same ((Fr.refl _ _).drew)) 0 rfl).mono ?_
  rintro e w4 ⟨rfl, H6⟩
  have H6 := hid H6
  go_simp
  refine hK.out _ _ (fun h => absurd rfl h) (fun _ => ?_)
  clear hK K1 hHeld
  refine wpAnyU_done (by kernel_rfl) ?_ _
  go_wp2_with fail
  go_end0
  have h6 := hid (St.drop (T := [BlkT w.heap.size (dgO ⟨q, 2, 1, 0, 0, m.enc⟩), BlkT pm (mO m)]) (show St W w4 ([NtT N (x.bag.map pkD ++ [⟨nextN x.sent, 0, 0, 2, 1, x.t.dk.rep⟩]) (nextN x.sent), BlkT X (prO C T N x.used x.acted.length x.answered.length), BlkT C (clC x.c), TbT T x.t.dk] ++ [BlkT w.heap.size (dgO ⟨q, 2, 1, 0, 0, m.enc⟩), BlkT pm (mO m)]) from H6.out))
  refine ⟨rfl, ?_⟩
  show St W _ (NtT N ((x.send _).bag.map pkD) (x.send _).sent :: _)
  rw [nt_send, show pkD (nextN x.sent, .reply x.t.rb s n) = ⟨nextN x.sent, 0, 0, 2, 1, x.t.dk.rep⟩ from by rw [HR.out]; rfl]
  exact h6.out
end

end Go.Proofs.Ytkiccbjngokpjaa

/-
  the pair of top: a new request.
-/
namespace Go.Proofs.Ytkiccbjngokpjaa
open Go.RowKit
set_option linter.unusedVariables false
set_option linter.unusedSimpArgs false

section
variable {W : Base} {w : World}
set_option maxHeartbeats 6400000 in
set_option maxRecDepth 100000 in
theorem st_pcomes_new {X C T N : Nat} {x : Pm} (H : St W w (paL X C T N x)) (q : Int) (b : Bool) (s n : Nat) (hf : (Pq.req b s n).fits) (hc : x.comes (.req b s n) = (x.acts b s n).send (.reply b s n)) (hlf : x.t.dk.life = 1) (hla : x.t.last < 1099511627776) (hac : x.acted.length < 1073741824) (hdk : (x.acts b s n).t.dk = ⟨1, x.t.ses, ((x.t.last + 1 : Nat) : Int), (mRep b s n).enc⟩) (hb : x.bag.length ≤ 1073741824)
    (HA : Hid (∀ (wx : World) (R : List Thing) (h : St W wx R) (i : Nat) (hi : R[i]? = some (TbT T x.t.dk)), Calls Try.prog 50 #[ptr T, .int .i64 0, .int .i64 1, .int .i64 s, .int .i64 n] wx fun e w' => e = .returned (.tuple #[.int .i64 3, .string ⟨#[]⟩]) ∧ St W w' R)) :
    Calls Try.prog 19 #[ptr X, dgV ⟨q, 2, 1, 0, 0, (mReq b s n).enc⟩] w fun e w' => e = .returned (.tuple #[]) ∧ St W w' (paL X C T N (x.comes (.req b s n))) := by
  have HS := hid (fun (wx : World) (R : List Thing) (H : St W wx R) (j : Nat) (hj : R[j]? = some (NtT N (x.bag.map pkD) x.sent)) => st_nsend H j hj 0 0 2 1 (mRep b s n).enc (by rw [List.length_map]; exact hb))
  have HK := hid hdk
  have hwa : wrap64 ((x.acted.length : Int) + 1) = ((x.acted.length + 1 : Nat) : Int) := by rw [IntWalk.wrap64_in _ (by omega)]; rfl
  have hle : ((x.t.last : Int) == 1099511627776) = false := by rw [beq_eq_false_iff_ne]; omega
  have hwl : wrap64 ((x.t.last : Int) + 1) = ((x.t.last + 1 : Nat) : Int) := by rw [IntWalk.wrap64_in _ (by omega)]; rfl
  have HAn := hid (fun (wx : World) (R : List Thing) (h : St W wx R) (i : Nat) (hi : R[i]? = some (TbT T x.t.dk)) => st_tanswer h i hi hlf hle _ hwl (mRep b s n).enc)
  have HEn := hid (fun (wx : World) (R : List Thing) (h : St W wx R) => st_wencode h (mRep b s n) (Pq.fits.ok (p := .reply b s n) hf))
  rw [hc]
  have q1 : (mReq b s n).ses = s := by cases b <;> rfl
  have q2 : (mReq b s n).num = n := by cases b <;> rfl
  have q3 : ((mReq b s n).kind == 1) = false := by cases b <;> rfl
  have q4 : ((mReq b s n).kind == 3) = b := by cases b <;> rfl
  have hok : (mReq b s n).Ok := Pq.fits.ok (p := .req b s n) hf
  clear hc hb hf hlf hla hac hdk hle hwl
  generalize mReq b s n = m at q1 q2 q3 q4 hok ⊢
  replace q1 := hid q1
  replace q2 := hid q2
  have H2 := H.alloc (dgO ⟨q, 2, 1, 0, 0, m.enc⟩)
  obtain ⟨d0, d1, d2, d3, d4, d5⟩ := dg_cells (H2.blk 4 rfl)
  have HD := hid (st_wdecode H2 m hok)
  clear H hok
  have H2 := hid H2
  dsimp only [dgV]
  go_enter Try.func19, Try.ntmps19
  go_wp2_with fail
  refine HD.out.mono ?_
  rintro e w1 ⟨rfl, H3⟩
  clear HD d0 d1 d2 d3 d4 d5 H2
  have H4 := hid (H3.alloc (mO m))
  obtain ⟨d0, d1, d2, d3, d4, d5⟩ := dg_cells (H3.blk 4 rfl)
  have hgd := World.block_lt_of_cell? _ _ d0
  clear H3
  dsimp only [MV.f, mO] at H4 ⊢
  go_wp2_with fail
  clear d0 d1 d2 d3 d4 d5 hgd
  generalize w1.alloc (.cells #[.int .i64 m.kind, .int .i64 m.ses, .int .i64 m.num, .int .i64 m.job, .int .i64 m.bad, .int .i64 m.idx, .int .i64 m.cnt, .int .i64 m.code, .int .u64 m.bits, .string m.text, .string m.prog] 57) = w2 at H4 ⊢
  generalize w1.heap.size = pm at H4 ⊢
  have HC := hid (show ∀ wx, St W wx (paL X C T N x ++ [BlkT w.heap.size (dgO ⟨q, 2, 1, 0, 0, m.enc⟩)] ++ [BlkT pm (mO m)]) → wx.cell? ⟨X, 1, none⟩ = some (ptr T) ∧ wx.cell? ⟨pm, 1, none⟩ = some (.int .i64 s) ∧ wx.cell? ⟨pm, 2, none⟩ = some (.int .i64 n) from fun wx h => by
    obtain ⟨m0, m1, m2, _⟩ := msg_cells (h.blk 5 rfl)
    rw [q1.out] at m1
    rw [q2.out] at m2
    exact ⟨cell_blk (i := 1) (h.blk 1 rfl) rfl, m1, m2⟩)
  refine wp_region_U (S := fun wx : World => wx.cell? ⟨X, 1, none⟩ = some (ptr T) ∧ wx.cell? ⟨pm, 1, none⟩ = some (.int .i64 s) ∧ wx.cell? ⟨pm, 2, none⟩ = some (.int .i64 n)) 13 (by kernel_rfl) (HC.out _ (H4.out.same ((Fr.refl _ _).drew))) (fun hHeld => ?_)
  refine takeU (i := 0) (d := 81) (v := ?_) rfl rfl (by kernel_rfl) (by kernel_rfl) (by kernel_rfl) (by kernel_rfl) (by kernel_rfl) (fun _ _ _ h => h) (Or.inl ⟨by rfl, ?_⟩) hHeld ?_
  rotate_left
  · intro wq hSw; (try dsimp only at hSw); go_simp; all_goals (with_reducible rfl)
  simp only [Act.put, List.setIfInBounds_toArray, List.set_cons_zero, List.set_cons_succ]
  refine takeU (i := 1) (d := 82) (v := ?_) rfl rfl (by kernel_rfl) (by kernel_rfl) (by kernel_rfl) (by kernel_rfl) (by kernel_rfl) (fun _ _ _ h => h) (Or.inl ⟨by rfl, ?_⟩) hHeld ?_
  rotate_left
  · intro wq hSw; (try dsimp only at hSw); go_simp; all_goals (with_reducible rfl)
  simp only [Act.put, List.setIfInBounds_toArray, List.set_cons_zero, List.set_cons_succ]
  refine takeU (i := 2) (d := 83) (v := ?_) rfl rfl (by kernel_rfl) (by kernel_rfl) (by kernel_rfl) (by kernel_rfl) (by kernel_rfl) (fun _ _ _ h => h) (Or.inl ⟨by rfl, ?_⟩) hHeld ?_
  rotate_left
  · intro wq hSw; (try dsimp only at hSw); go_simp; all_goals (with_reducible rfl)
  simp only [Act.put, List.setIfInBounds_toArray, List.set_cons_zero, List.set_cons_succ]
  refine takeU (i := 3) (d := 84) (v := ?_) rfl rfl (by kernel_rfl) (by kernel_rfl) (by kernel_rfl) (by kernel_rfl) (by kernel_rfl) (fun _ _ _ h => h) (Or.inl ⟨by rfl, ?_⟩) hHeld ?_
  rotate_left
  · intro wq hSw; (try dsimp only at hSw); go_simp; all_goals (with_reducible rfl)
  simp only [Act.put, List.setIfInBounds_toArray, List.set_cons_zero, List.set_cons_succ]
  refine takeU (i := 4) (d := 85) (v := ?_) rfl rfl (by kernel_rfl) (by kernel_rfl) (by kernel_rfl) (by kernel_rfl) (by kernel_rfl) (fun _ _ _ h => h) (Or.inl ⟨by rfl, ?_⟩) hHeld ?_
  rotate_left
  · intro wq hSw; (try dsimp only at hSw); go_simp; all_goals (with_reducible rfl)
  simp only [Act.put, List.setIfInBounds_toArray, List.set_cons_zero, List.set_cons_succ]
  refine takeU (i := 5) (d := 86) (v := ?_) rfl rfl (by kernel_rfl) (by kernel_rfl) (by kernel_rfl) (by kernel_rfl) (by kernel_rfl) (fun _ _ _ h => h) (Or.inl ⟨by rfl, ?_⟩) hHeld ?_
  rotate_left
  · intro wq hSw; (try dsimp only at hSw); go_simp; all_goals (with_reducible rfl)
  simp only [Act.put, List.setIfInBounds_toArray, List.set_cons_zero, List.set_cons_succ]
  refine takeU (i := 6) (d := 87) (v := ?_) rfl rfl (by kernel_rfl) (by kernel_rfl) (by kernel_rfl) (by kernel_rfl) (by kernel_rfl) (fun _ _ _ h => h) (Or.inl ⟨by rfl, ?_⟩) hHeld ?_
  rotate_left
  · intro wq hSw; (try dsimp only at hSw); go_simp; all_goals (with_reducible rfl)
  simp only [Act.put, List.setIfInBounds_toArray, List.set_cons_zero, List.set_cons_succ]
  refine takeU (i := 7) (d := 88) (v := ?_) rfl rfl (by kernel_rfl) (by kernel_rfl) (by kernel_rfl) (by kernel_rfl) (by kernel_rfl) (fun _ _ _ h => h) (Or.inl ⟨by rfl, ?_⟩) hHeld ?_
  rotate_left
  · intro wq hSw; (try dsimp only at hSw); go_simp; all_goals (with_reducible rfl)
  simp only [Act.put, List.setIfInBounds_toArray, List.set_cons_zero, List.set_cons_succ]
  refine wpAnyU_ready (rs := [8]) (by kernel_rfl) (by simp) ?_
  refine AllReadyU.cons rfl (fun K1 hK => ?_) AllReadyU.nil
  go_simp
  go_at_call 50
  refine (HA.out _ _ (H4.out.same ((Fr.refl _ _).drew)) 3 rfl).mono ?_
  rintro e w3 ⟨rfl, H5⟩
  have H5 := hid H5
  clear H4
  go_simp
  refine hK.out _ _ (fun _ => HC.out _ H5.out) (fun hHeld => ?_)
  clear hK K1
  have hHeld := hHeld (by decide)
  refine takeU (i := 9) (d := 80) (v := ?_) rfl rfl (by kernel_rfl) (by kernel_rfl) (by kernel_rfl) (by kernel_rfl) (by kernel_rfl) (fun _ _ _ h => h) (Or.inl ⟨by rfl, ?_⟩) hHeld ?_
  rotate_left
  · intro wq hSw; (try dsimp only at hSw); go_simp; all_goals (with_reducible rfl)
  simp only [Act.put, List.setIfInBounds_toArray, List.set_cons_zero, List.set_cons_succ]
  refine takeU (i := 10) (d := 90) (v := ?_) rfl rfl (by kernel_rfl) (by kernel_rfl) (by kernel_rfl) (by kernel_rfl) (by kernel_rfl) (fun _ _ _ h => h) (Or.inl ⟨by rfl, ?_⟩) hHeld ?_
  rotate_left
  · intro wq hSw; (try dsimp only at hSw); go_simp; all_goals (with_reducible rfl)
  simp only [Act.put, List.setIfInBounds_toArray, List.set_cons_zero, List.set_cons_succ]
  refine takeU (i := 11) (d := 91) (v := ?_) rfl rfl (by kernel_rfl) (by kernel_rfl) (by kernel_rfl) (by kernel_rfl) (by kernel_rfl) (fun _ _ _ h => h) (Or.inl ⟨by rfl, ?_⟩) hHeld ?_
  rotate_left
  · intro wq hSw; (try dsimp only at hSw); go_simp; all_goals (with_reducible rfl)
  simp only [Act.put, List.setIfInBounds_toArray, List.set_cons_zero, List.set_cons_succ]
  refine takeU (i := 12) (d := 8) (v := ?_) rfl rfl (by kernel_rfl) (by kernel_rfl) (by kernel_rfl) (by kernel_rfl) (by kernel_rfl) (fun _ _ _ h => h) (Or.inl ⟨by rfl, ?_⟩) hHeld ?_
  rotate_left
  · intro wq hSw; (try dsimp only at hSw); go_simp; all_goals (with_reducible rfl)
  simp only [Act.put, List.setIfInBounds_toArray, List.set_cons_zero, List.set_cons_succ]
  refine wpAnyU_ready (rs := [13]) (by kernel_rfl) (by simp) ?_
  refine AllReadyU.cons rfl (fun K1 hK => ?_) AllReadyU.nil
  go_simp
  refine hK.out _ _ (fun h => absurd rfl h) (fun _ => ?_)
  clear hK K1 hHeld
  refine wpAnyU_done (by kernel_rfl) ?_ _
  obtain ⟨y1, z1, z2⟩ := HC.out _ H5.out
  obtain ⟨d0, d1, d2, d3, d4, d5⟩ := dg_cells (H5.out.blk 4 rfl)
  have z0 := (msg_cells (H5.out.blk 5 rfl)).1
  have b5 := H5.out.blk 1 rfl
  have c4 := cell_blk (i := 4) b5 rfl
  have f4 := free_blk (i := 4) b5
  have hgp := World.block_lt_of_cell? _ _ z0
  have H6 := hid (H5.out.setBlk 1 rfl 4 (.int .i64 ((x.acted.length : Int) + 1)))
  clear b5
  rcases b with _ | _
  · go_wp2_with fail
    refine (show Calls Try.prog 27 _ _ _ from HEn.out _ _ (H6.out.alloc_ (mO (mRep false s n)))).mono ?_
    rintro e w5 ⟨rfl, H7⟩
    have H7 := hid H7
    have x1 := cell_blk (i := 1) (H7.out.blk 1 rfl) rfl
    clear H6
    go_wp2_with fail
    refine (HAn.out _ _ H7.out 3 rfl).mono ?_
    rintro e w6 ⟨rfl, H8⟩
    have H8 := hid H8
    clear H7 x1
    have HD2 := hid (show ∀ wx, Fr [] w6 wx → wx.cell? ⟨X, 2, none⟩ = some (ptr N) ∧ (wx.cell? ⟨w.heap.size, 1, none⟩ = some (.int .i64 2) ∧ wx.cell? ⟨w.heap.size, 2, none⟩ = some (.int .i64 1)) ∧ wx.cell? ⟨w.heap.size, 3, none⟩ = some (.int .i64 0) ∧ wx.cell? ⟨w.heap.size, 4, none⟩ = some (.int .i64 0) from fun wx h => by
      have h5 := H8.out.same h
      obtain ⟨e0, e1, e2, e3, e4, e5⟩ := dg_cells (h5.blk 4 rfl)
      exact ⟨cell_blk (i := 2) (h5.blk 1 rfl) rfl, ⟨e1, e2⟩, e3, e4⟩)
    go_wp2_with fail
    refine wp_region_U (S := fun wx : World => wx.cell? ⟨X, 2, none⟩ = some (ptr N) ∧ (wx.cell? ⟨w.heap.size, 1, none⟩ = some (.int .i64 2) ∧ wx.cell? ⟨w.heap.size, 2, none⟩ = some (.int .i64 1)) ∧ wx.cell? ⟨w.heap.size, 3, none⟩ = some (.int .i64 0) ∧ wx.cell? ⟨w.heap.size, 4, none⟩ = some (.int .i64 0)) 9 (by kernel_rfl) (HD2.out _ ((Fr.refl _ _).drew)) (fun hHeld => ?_)
    refine takeU (i := 0) (d := 147) (v := ?_) rfl rfl (by kernel_rfl) (by kernel_rfl) (by kernel_rfl) (by kernel_rfl) (by kernel_rfl) (fun _ _ _ h => h) (Or.inl ⟨by rfl, ?_⟩) hHeld ?_
    rotate_left
    · intro wq hSw; (try dsimp only at hSw); go_simp; all_goals (with_reducible rfl)
    simp only [Act.put, List.setIfInBounds_toArray, List.set_cons_zero, List.set_cons_succ]
    refine takeU (i := 1) (d := 148) (v := ?_) rfl rfl (by kernel_rfl) (by kernel_rfl) (by kernel_rfl) (by kernel_rfl) (by kernel_rfl) (fun _ _ _ h => h) (Or.inl ⟨by rfl, ?_⟩) hHeld ?_
    rotate_left
    · intro wq hSw; (try dsimp only at hSw); go_simp; all_goals (with_reducible rfl)
    simp only [Act.put, List.setIfInBounds_toArray, List.set_cons_zero, List.set_cons_succ]
    refine takeU (i := 2) (d := 149) (v := ?_) rfl rfl (by kernel_rfl) (by kernel_rfl) (by kernel_rfl) (by kernel_rfl) (by kernel_rfl) (fun _ _ _ h => h) (Or.inl ⟨by rfl, ?_⟩) hHeld ?_
    rotate_left
    · intro wq hSw; (try dsimp only at hSw); go_simp; all_goals (with_reducible rfl)
    simp only [Act.put, List.setIfInBounds_toArray, List.set_cons_zero, List.set_cons_succ]
    refine takeU (i := 3) (d := 150) (v := ?_) rfl rfl (by kernel_rfl) (by kernel_rfl) (by kernel_rfl) (by kernel_rfl) (by kernel_rfl) (fun _ _ _ h => h) (Or.inl ⟨by rfl, ?_⟩) hHeld ?_
    rotate_left
    · intro wq hSw; (try dsimp only at hSw); go_simp; all_goals (with_reducible rfl)
    simp only [Act.put, List.setIfInBounds_toArray, List.set_cons_zero, List.set_cons_succ]
    refine takeU (i := 4) (d := 151) (v := ?_) rfl rfl (by kernel_rfl) (by kernel_rfl) (by kernel_rfl) (by kernel_rfl) (by kernel_rfl) (fun _ _ _ h => h) (Or.inl ⟨by rfl, ?_⟩) hHeld ?_
    rotate_left
    · intro wq hSw; (try dsimp only at hSw); go_simp; all_goals (with_reducible rfl)
    simp only [Act.put, List.setIfInBounds_toArray, List.set_cons_zero, List.set_cons_succ]
    refine takeU (i := 5) (d := 152) (v := ?_) rfl rfl (by kernel_rfl) (by kernel_rfl) (by kernel_rfl) (by kernel_rfl) (by kernel_rfl) (fun _ _ _ h => h) (Or.inl ⟨by rfl, ?_⟩) hHeld ?_
    rotate_left
    · intro wq hSw; (try dsimp only at hSw); go_simp; all_goals (with_reducible rfl)
    simp only [Act.put, List.setIfInBounds_toArray, List.set_cons_zero, List.set_cons_succ]
    refine takeU (i := 6) (d := 153) (v := ?_) rfl rfl (by kernel_rfl) (by kernel_rfl) (by kernel_rfl) (by kernel_rfl) (by kernel_rfl) (fun _ _ _ h => h) (Or.inl ⟨by rfl, ?_⟩) hHeld ?_
    rotate_left
    · intro wq hSw; (try dsimp only at hSw); go_simp; all_goals (with_reducible rfl)
    simp only [Act.put, List.setIfInBounds_toArray, List.set_cons_zero, List.set_cons_succ]
    refine takeU (i := 7) (d := 154) (v := ?_) rfl rfl (by kernel_rfl) (by kernel_rfl) (by kernel_rfl) (by kernel_rfl) (by kernel_rfl) (fun _ _ _ h => h) (Or.inl ⟨by rfl, ?_⟩) hHeld ?_
    rotate_left
    · intro wq hSw; (try dsimp only at hSw); go_simp; all_goals (with_reducible rfl)
    simp only [Act.put, List.setIfInBounds_toArray, List.set_cons_zero, List.set_cons_succ]
    refine takeU (i := 8) (d := 155) (v := ?_) rfl rfl (by kernel_rfl) (by kernel_rfl) (by kernel_rfl) (by kernel_rfl) (by kernel_rfl) (fun _ _ _ h => h) (Or.inl ⟨by rfl, ?_⟩) hHeld ?_
    rotate_left
    · intro wq hSw; (try dsimp only at hSw); go_simp; all_goals (with_reducible rfl)
    simp only [Act.put, List.setIfInBounds_toArray, List.set_cons_zero, List.set_cons_succ]
    refine wpAnyU_ready (rs := [9]) (by kernel_rfl) (by simp) ?_
    refine AllReadyU.cons rfl (fun K1 hK => ?_) AllReadyU.nil
    go_simp
    go_at_call 30
    refine (HS.out _ _ (H8.out.same ((Fr.refl _ _).drew)) 0 rfl).mono ?_
    rintro e w7 ⟨rfl, H9⟩
    have H9 := hid H9
    go_simp
    refine hK.out _ _ (fun h => absurd rfl h) (fun _ => ?_)
    clear hK K1 hHeld
    refine wpAnyU_done (by kernel_rfl) ?_ _
    go_wp2_with fail
    go_end0
    have h6 := hid (St.drop (T := [BlkT w.heap.size (dgO ⟨q, 2, 1, 0, 0, m.enc⟩), BlkT pm (mO m)]) (show St W w7 ([NtT N (x.bag.map pkD ++ [⟨nextN x.sent, 0, 0, 2, 1, (mRep false s n).enc⟩]) (nextN x.sent), BlkT X (prO C T N x.used ((x.acted.length : Int) + 1) x.answered.length), BlkT C (clC x.c), TbT T ⟨1, x.t.ses, ((x.t.last + 1 : Nat) : Int), (mRep false s n).enc⟩] ++ [BlkT w.heap.size (dgO ⟨q, 2, 1, 0, 0, m.enc⟩), BlkT pm (mO m)]) from H9.out))
    refine ⟨rfl, ?_⟩
    show St W _ [NtT N (((x.acts false s n).send (.reply false s n)).bag.map pkD) ((x.acts false s n).send (.reply false s n)).sent, BlkT X (prO C T N x.used ((x.acted.length : Int) + 1) x.answered.length), BlkT C (clC x.c), TbT T (x.acts false s n).t.dk]
    rw [nt_send, HK.out]
    exact h6.out
  · go_wp2_with fail
    refine (show Calls Try.prog 27 _ _ _ from HEn.out _ _ (H6.out.alloc_ (mO (mRep true s n)))).mono ?_
    rintro e w5 ⟨rfl, H7⟩
    have H7 := hid H7
    have x1 := cell_blk (i := 1) (H7.out.blk 1 rfl) rfl
    clear H6
    go_wp2_with fail
    refine (HAn.out _ _ H7.out 3 rfl).mono ?_
    rintro e w6 ⟨rfl, H8⟩
    have H8 := hid H8
    clear H7 x1
    have HD2 := hid (show ∀ wx, Fr [] w6 wx → wx.cell? ⟨X, 2, none⟩ = some (ptr N) ∧ (wx.cell? ⟨w.heap.size, 1, none⟩ = some (.int .i64 2) ∧ wx.cell? ⟨w.heap.size, 2, none⟩ = some (.int .i64 1)) ∧ wx.cell? ⟨w.heap.size, 3, none⟩ = some (.int .i64 0) ∧ wx.cell? ⟨w.heap.size, 4, none⟩ = some (.int .i64 0) from fun wx h => by
      have h5 := H8.out.same h
      obtain ⟨e0, e1, e2, e3, e4, e5⟩ := dg_cells (h5.blk 4 rfl)
      exact ⟨cell_blk (i := 2) (h5.blk 1 rfl) rfl, ⟨e1, e2⟩, e3, e4⟩)
    go_wp2_with fail
    refine wp_region_U (S := fun wx : World => wx.cell? ⟨X, 2, none⟩ = some (ptr N) ∧ (wx.cell? ⟨w.heap.size, 1, none⟩ = some (.int .i64 2) ∧ wx.cell? ⟨w.heap.size, 2, none⟩ = some (.int .i64 1)) ∧ wx.cell? ⟨w.heap.size, 3, none⟩ = some (.int .i64 0) ∧ wx.cell? ⟨w.heap.size, 4, none⟩ = some (.int .i64 0)) 9 (by kernel_rfl) (HD2.out _ ((Fr.refl _ _).drew)) (fun hHeld => ?_)
    refine takeU (i := 0) (d := 147) (v := ?_) rfl rfl (by kernel_rfl) (by kernel_rfl) (by kernel_rfl) (by kernel_rfl) (by kernel_rfl) (fun _ _ _ h => h) (Or.inl ⟨by rfl, ?_⟩) hHeld ?_
    rotate_left
    · intro wq hSw; (try dsimp only at hSw); go_simp; all_goals (with_reducible rfl)
    simp only [Act.put, List.setIfInBounds_toArray, List.set_cons_zero, List.set_cons_succ]
    refine takeU (i := 1) (d := 148) (v := ?_) rfl rfl (by kernel_rfl) (by kernel_rfl) (by kernel_rfl) (by kernel_rfl) (by kernel_rfl) (fun _ _ _ h => h) (Or.inl ⟨by rfl, ?_⟩) hHeld ?_
    rotate_left
    · intro wq hSw; (try dsimp only at hSw); go_simp; all_goals (with_reducible rfl)
    simp only [Act.put, List.setIfInBounds_toArray, List.set_cons_zero, List.set_cons_succ]
    refine takeU (i := 2) (d := 149) (v := ?_) rfl rfl (by kernel_rfl) (by kernel_rfl) (by kernel_rfl) (by kernel_rfl) (by kernel_rfl) (fun _ _ _ h => h) (Or.inl ⟨by rfl, ?_⟩) hHeld ?_
    rotate_left
    · intro wq hSw; (try dsimp only at hSw); go_simp; all_goals (with_reducible rfl)
    simp only [Act.put, List.setIfInBounds_toArray, List.set_cons_zero, List.set_cons_succ]
    refine takeU (i := 3) (d := 150) (v := ?_) rfl rfl (by kernel_rfl) (by kernel_rfl) (by kernel_rfl) (by kernel_rfl) (by kernel_rfl) (fun _ _ _ h => h) (Or.inl ⟨by rfl, ?_⟩) hHeld ?_
    rotate_left
    · intro wq hSw; (try dsimp only at hSw); go_simp; all_goals (with_reducible rfl)
    simp only [Act.put, List.setIfInBounds_toArray, List.set_cons_zero, List.set_cons_succ]
    refine takeU (i := 4) (d := 151) (v := ?_) rfl rfl (by kernel_rfl) (by kernel_rfl) (by kernel_rfl) (by kernel_rfl) (by kernel_rfl) (fun _ _ _ h => h) (Or.inl ⟨by rfl, ?_⟩) hHeld ?_
    rotate_left
    · intro wq hSw; (try dsimp only at hSw); go_simp; all_goals (with_reducible rfl)
    simp only [Act.put, List.setIfInBounds_toArray, List.set_cons_zero, List.set_cons_succ]
    refine takeU (i := 5) (d := 152) (v := ?_) rfl rfl (by kernel_rfl) (by kernel_rfl) (by kernel_rfl) (by kernel_rfl) (by kernel_rfl) (fun _ _ _ h => h) (Or.inl ⟨by rfl, ?_⟩) hHeld ?_
    rotate_left
    · intro wq hSw; (try dsimp only at hSw); go_simp; all_goals (with_reducible rfl)
    simp only [Act.put, List.setIfInBounds_toArray, List.set_cons_zero, List.set_cons_succ]
    refine takeU (i := 6) (d := 153) (v := ?_) rfl rfl (by kernel_rfl) (by kernel_rfl) (by kernel_rfl) (by kernel_rfl) (by kernel_rfl) (fun _ _ _ h => h) (Or.inl ⟨by rfl, ?_⟩) hHeld ?_
    rotate_left
    · intro wq hSw; (try dsimp only at hSw); go_simp; all_goals (with_reducible rfl)
    simp only [Act.put, List.setIfInBounds_toArray, List.set_cons_zero, List.set_cons_succ]
    refine takeU (i := 7) (d := 154) (v := ?_) rfl rfl (by kernel_rfl) (by kernel_rfl) (by kernel_rfl) (by kernel_rfl) (by kernel_rfl) (fun _ _ _ h => h) (Or.inl ⟨by rfl, ?_⟩) hHeld ?_
    rotate_left
    · intro wq hSw; (try dsimp only at hSw); go_simp; all_goals (with_reducible rfl)
    simp only [Act.put, List.setIfInBounds_toArray, List.set_cons_zero, List.set_cons_succ]
    refine takeU (i := 8) (d := 155) (v := ?_) rfl rfl (by kernel_rfl) (by kernel_rfl) (by kernel_rfl) (by kernel_rfl) (by kernel_rfl) (fun _ _ _ h => h) (Or.inl ⟨by rfl, ?_⟩) hHeld ?_
    rotate_left
    · intro wq hSw; (try dsimp only at hSw); go_simp; all_goals (with_reducible rfl)
    simp only [Act.put, List.setIfInBounds_toArray, List.set_cons_zero, List.set_cons_succ]
    refine wpAnyU_ready (rs := [9]) (by kernel_rfl) (by simp) ?_
    refine AllReadyU.cons rfl (fun K1 hK => ?_) AllReadyU.nil
    go_simp
    go_at_call 30
    refine (HS.out _ _ (H8.out.same ((Fr.refl _ _).drew)) 0 rfl).mono ?_
    rintro e w7 ⟨rfl, H9⟩
    have H9 := hid H9
    go_simp
    refine hK.out _ _ (fun h => absurd rfl h) (fun _ => ?_)
    clear hK K1 hHeld
    refine wpAnyU_done (by kernel_rfl) ?_ _
    go_wp2_with fail
    go_end0
    have h6 := hid (St.drop (T := [BlkT w.heap.size (dgO ⟨q, 2, 1, 0, 0, m.enc⟩), BlkT pm (mO m)]) (show St W w7 ([NtT N (x.bag.map pkD ++ [⟨nextN x.sent, 0, 0, 2, 1, (mRep true s n).enc⟩]) (nextN x.sent), BlkT X (prO C T N x.used ((x.acted.length : Int) + 1) x.answered.length), BlkT C (clC x.c), TbT T ⟨1, x.t.ses, ((x.t.last + 1 : Nat) : Int), (mRep true s n).enc⟩] ++ [BlkT w.heap.size (dgO ⟨q, 2, 1, 0, 0, m.enc⟩), BlkT pm (mO m)]) from H9.out))
    refine ⟨rfl, ?_⟩
    show St W _ [NtT N (((x.acts true s n).send (.reply true s n)).bag.map pkD) ((x.acts true s n).send (.reply true s n)).sent, BlkT X (prO C T N x.used ((x.acted.length : Int) + 1) x.answered.length), BlkT C (clC x.c), TbT T (x.acts true s n).t.dk]
    rw [nt_send, HK.out]
    exact h6.out
end

end Go.Proofs.Ytkiccbjngokpjaa

/-
  the pair of top: the numbers under way stay small; comes, whole.
-/
namespace Go.Proofs.Ytkiccbjngokpjaa
open Go.RowKit
set_option linter.unusedVariables false
set_option linter.unusedSimpArgs false

def Pq.nums (B : Nat) : Pq → Prop
  | .hello => True
  | .req _ s n => s ≤ B ∧ n ≤ B
  | .welcome s => s ≤ B
  | .stale s n => s ≤ B ∧ n ≤ B
  | .reply _ s n => s ≤ B ∧ n ≤ B
theorem Pq.nums.mono {p : Pq} {B C : Nat} (h : p.nums B) (hb : B ≤ C) : p.nums C := by
  cases p with
  | hello => trivial
  | req b s n => exact ⟨Nat.le_trans h.1 hb, Nat.le_trans h.2 hb⟩
  | welcome s => exact Nat.le_trans h hb
  | stale s n => exact ⟨Nat.le_trans h.1 hb, Nat.le_trans h.2 hb⟩
  | reply b s n => exact ⟨Nat.le_trans h.1 hb, Nat.le_trans h.2 hb⟩
/-- The numbers of a pair are at most B. -/
structure Pm.nums (B : Nat) (x : Pm) : Prop where
  us : x.used ≤ B
  la : x.c.last ≤ B
  tl : x.t.last ≤ B
  bg : ∀ p ∈ x.bag, p.2.nums B
theorem Pm.new_nums (res : Nat) : (Pm.new res).nums 0 := ⟨Nat.le_refl _, Nat.le_refl _, Nat.le_refl _, fun p hp => by cases hp⟩
theorem Pm.nums.mono {x : Pm} {B C : Nat} (h : x.nums B) (hb : B ≤ C) : x.nums C := ⟨Nat.le_trans h.us hb, Nat.le_trans h.la hb, Nat.le_trans h.tl hb, fun p hp => (h.bg p hp).mono hb⟩
theorem Pm.nums.tick {x : Pm} {B : Nat} (h : x.nums B) : x.tick.nums B := ⟨h.us, h.la, h.tl, h.bg⟩
theorem Pm.nums.send {x : Pm} {B : Nat} (h : x.nums B) {p : Pq} (hp : p.nums B) : (x.send p).nums B := ⟨h.us, h.la, h.tl, fun q hq => by
  simp only [Pm.send, List.mem_append, List.mem_singleton] at hq
  rcases hq with hq | rfl
  · exact h.bg q hq
  · exact hp⟩
theorem Pm.nums.drop {x : Pm} {B : Nat} (h : x.nums B) (k : Nat) : (x.drop k).nums B := ⟨h.us, h.la, h.tl, fun p hp => h.bg p (List.mem_of_mem_eraseIdx hp)⟩
theorem Pm.nums.forget {x : Pm} {B : Nat} (h : x.nums B) : x.forget.nums B := ⟨h.us, h.la, Nat.zero_le _, h.bg⟩
theorem Pm.nums.asks {x : Pm} {B : Nat} (h : x.nums B) (b : Bool) : (x.asks b).nums (B + 1) :=
  ⟨Nat.le_succ_of_le h.us, Nat.le_trans (Cl.asks_last _ _) (Nat.succ_le_succ h.la), Nat.le_succ_of_le h.tl, fun p hp => (h.bg p hp).mono (Nat.le_succ _)⟩
theorem Pm.nums.pq {x : Pm} {B : Nat} (h : x.nums B) (ho : x.ok) : x.c.u.pq.nums B := by
  rcases hu : x.c.u with _ | _ | ⟨b, s, n⟩
  · trivial
  · trivial
  · obtain ⟨h1, h2, h3, h4⟩ := ho.ur b s n hu
    have h5 := ho.g1
    have h6 := ho.g2
    have h7 := h.us
    have h8 := h.la
    exact ⟨by omega, by omega⟩
theorem Pm.nums.says {x : Pm} {B : Nat} (h : x.nums B) (ho : x.ok) : x.says.nums B := by
  unfold Pm.says
  split
  · have hn : Pm.nums B { x with c := x.c.said } := ⟨h.us, h.la, h.tl, h.bg⟩
    exact hn.send (h.pq ho)
  · exact h
theorem Cl.hear_last (c : Cl) (p : Pq) : (c.hear p).1.last ≤ c.last := by
  rcases Cl.hear_is c p with e | ⟨s, _, _, _, e⟩ | ⟨b, s, n, _, _, e⟩ | ⟨b, s, n, _, _, e⟩ <;> rw [e] <;> simp [Cl.welcomed, Cl.lapsed, Cl.answered]
theorem Pm.nums.heard {x : Pm} {B : Nat} (h : x.nums B) (p : Pq) : (x.heard p).nums B := ⟨h.us, Nat.le_trans (Cl.hear_last x.c p) h.la, h.tl, h.bg⟩
theorem Pm.nums.comes {x : Pm} {B : Nat} (h : x.nums B) (ho : x.ok) {p : Pq} (hp : p.nums B) (hu : (x.comes p).used ≤ B) : (x.comes p).nums B := by
  have hself := h
  obtain ⟨h1, h2, h3, h4⟩ := h
  cases p with
  | hello =>
    rcases hl : x.t.live with _ | _
    · have e : x.comes .hello = x.opened.send (.welcome (x.used + 1)) := by simp only [Pm.comes]; rw [hl]; rfl
      rw [e] at hu ⊢
      have hu : x.used + 1 ≤ B := hu
      have hn : x.opened.nums B := ⟨hu, h2, Nat.zero_le _, h4⟩
      exact hn.send (p := .welcome (x.used + 1)) hu
    · have e : x.comes .hello = x.send (.welcome x.t.ses) := by simp only [Pm.comes]; rw [hl]; rfl
      rw [e]
      exact hself.send (p := .welcome x.t.ses) (show x.t.ses ≤ B from by have := (ho.t1 hl).1; omega)
  | req b s n =>
    simp only [Pm.comes]
    split
    · split
      · exact hself.send (p := .reply x.t.rb s n) hp
      · split
        · next h1' => 
          have h5 : n = x.t.last + 1 := by simpa using h1'
          have hn : (x.acts b s n).nums B := ⟨h1, h2, by show x.t.last + 1 ≤ B; have h6 : n ≤ B := hp.2; omega, h4⟩
          exact hn.send (p := .reply b s n) hp
        · exact hself
    · exact hself.send (p := .stale s n) hp
  | welcome s => exact hself.heard _
  | stale s n => exact hself.heard _
  | reply b s n => exact hself.heard _
theorem Pm.nums.dlv {x : Pm} {B : Nat} (h : x.nums B) (ho : x.ok) (k : Nat) (hu : (x.dlv k).used ≤ B) : (x.dlv k).nums B := by
  unfold Pm.dlv at hu ⊢
  rcases hb : x.bag[k]? with _ | p
  · exact h
  · rw [hb] at hu
    exact (h.drop k).comes (ho.drop k) (h.bg p (List.mem_of_getElem? hb)) hu
theorem Pm.nums.does {x : Pm} {B : Nat} (h : x.nums B) (ho : x.ok) (kind n : Int) : (x.does kind n).nums (B + 1) := by
  have hu := (Pm.does_len x kind n).2.2.2
  have h1 := h.us
  have hs := h.mono (Nat.le_succ B)
  unfold Pm.does at hu ⊢
  split at hu
  · rename_i e; rw [if_pos e]; exact h.asks _
  · rename_i e; rw [if_neg e]
    split at hu
    · rename_i e; rw [if_pos e]; exact (hs.tick.says ho.tick)
    · rename_i e; rw [if_neg e]
      split at hu
      · rename_i e; rw [if_pos e]; exact hs.dlv ho _ (by omega)
      · rename_i e; rw [if_neg e]
        split at hu
        · rename_i e; rw [if_pos e]; exact hs.drop _
        · rename_i e; rw [if_neg e]
          split at hu
          · rename_i e
            rw [if_pos e]
            rcases hb : x.bag[x.place n]? with _ | p
            · exact hs
            · exact hs.send (hs.bg p (List.mem_of_getElem? hb))
          · rename_i e; rw [if_neg e]
            split at hu
            · rename_i e; rw [if_pos e]; exact hs.forget
            · rename_i e; rw [if_neg e]; exact hs
theorem Pm.dlvs_succ (n : Nat) (x : Pm) : Pm.dlvs (n + 1) x = (Pm.dlvs n x).dlv 0 := by
  induction n generalizing x with
  | zero => rfl
  | succ n ih => exact ih (x.dlv 0)
theorem Pm.nums.dlvs {x : Pm} {B : Nat} (h : x.nums B) (ho : x.ok) (n : Nat) (hn : n ≤ x.bag.length) : (Pm.dlvs n x).nums (B + 1) := by
  induction n with
  | zero => exact h.mono (Nat.le_succ _)
  | succ n ih =>
    have h1 := (Pm.dlvs_len ho (n + 1) hn).2.2.2.1
    have h2 := h.us
    rw [Pm.dlvs_succ] at h1 ⊢
    exact (ih (by omega)).dlv (ho.dlvs n) 0 (by omega)
theorem Pm.nums.half {x : Pm} {B : Nat} (h : x.nums B) (ho : x.ok) : x.half.nums (B + 1) := (h.tick.asks false).says (ho.tick.asks false)
theorem Pm.nums.round {x : Pm} {B : Nat} (h : x.nums B) (ho : x.ok) : x.round.nums (B + 2) := (h.half ho).dlvs ho.half _ (Nat.le_refl _)

/-- What is under way is what the messages can bear. -/
theorem PqOk.fits {c : Cl} {t : Tb} {used : Nat} {acted : List (Nat × Nat)} {p : Pq} (h : PqOk c t used acted p) {B : Nat} (hn : p.nums B) (hB : B ≤ 1099511627776) : p.fits := by
  cases p with
  | hello => trivial
  | req b s n => exact ⟨⟨h.1, Nat.le_trans hn.1 hB⟩, h.2.1, Nat.le_trans hn.2 hB⟩
  | welcome s => exact ⟨h.1, Nat.le_trans hn hB⟩
  | stale s n => exact ⟨⟨h.1, Nat.le_trans hn.1 hB⟩, h.2.1, Nat.le_trans hn.2 hB⟩
  | reply b s n => exact ⟨⟨h.1.1, Nat.le_trans hn.1 hB⟩, h.1.2.1, Nat.le_trans hn.2 hB⟩

section
variable {W : Base} {w : World}
theorem st_pcomes {X C T N : Nat} {x : Pm} (H : St W w (paL X C T N x)) {B : Nat} (hx : x.ok) (hn : x.nums B) (hB : B < 1099511627776) (hb : x.bag.length ≤ 1073741824) (hac : x.acted.length < 1073741824) (q : Int) (p : Pq) (hp : PqOk x.c x.t x.used x.acted p) (hpn : p.nums B) :
    Calls Try.prog 19 #[ptr X, dgV (pkD (q, p))] w fun e w' => e = .returned (.tuple #[]) ∧ St W w' (paL X C T N (x.comes p)) := by
  have hf := hp.fits hpn (Nat.le_of_lt hB)
  have hu : x.c.u.pq.fits := hx.pq.fits (hn.pq hx) (Nat.le_of_lt hB)
  have hbk : ∀ hbk : p.isBack = true, Calls Try.prog 19 #[ptr X, dgV (pkD (q, p))] w fun e w' => e = .returned (.tuple #[]) ∧ St W w' (paL X C T N (x.comes p)) := fun hbk => by
    have e : pkD (q, p) = ⟨q, 0, 0, 2, 1, p.m.enc⟩ := by unfold pkD; rw [hbk]; rfl
    rw [e]
    exact st_pcomes_back H q p hbk hf hu (Nat.lt_of_le_of_lt hx.le hac)
  cases p with
  | hello =>
    show Calls Try.prog 19 #[ptr X, dgV ⟨q, 2, 1, 0, 0, (MV.of 1).enc⟩] w _
    rcases hl : x.t.live with _ | _
    · exact st_pcomes_fresh H q hl (Nat.lt_of_le_of_lt hn.us hB) hb
    · have h1 := hx.t1 hl
      have h2 := hn.us
      exact st_pcomes_hello H q hl (by omega) (by omega) hb
  | req b s n =>
    show Calls Try.prog 19 #[ptr X, dgV ⟨q, 2, 1, 0, 0, (mReq b s n).enc⟩] w _
    have hn1 : 1 ≤ n := hf.2.1
    have hni : ¬ (n : Int) < 1 := by omega
    rcases hc : (x.t.live && x.t.ses == s) with _ | _
    · refine st_pcomes_stale H q b s n hf hc hb (hid (fun wx R h i hi => ?_))
      rcases hl : x.t.live with _ | _
      · exact st_task_dead h i hi (by unfold Tb.dk; rw [hl]; rfl) _ _
      · rw [hl] at hc
        exact st_task_stale h i hi (by unfold Tb.dk; rw [hl]; rfl) (by
          show ((x.t.ses : Int) == s) = false
          have hs : x.t.ses ≠ s := by simpa using hc
          exact beqZ hs)
    · have hl : x.t.live = true := by revert hc; cases x.t.live <;> simp
      have hs : x.t.ses = s := by rw [hl] at hc; simpa using hc
      have hlf : x.t.dk.life = 1 := by unfold Tb.dk; rw [hl]; rfl
      have hsb : (x.t.dk.ses == (s : Int)) = true := beqT hs
      have hw : wrap64 (x.t.dk.last + 1) = ((x.t.last + 1 : Nat) : Int) := by
        have h3 := hn.tl
        show wrap64 ((x.t.last : Int) + 1) = _
        rw [IntWalk.wrap64_in _ (by omega)]; rfl
      by_cases h1 : n = x.t.last
      · have he : x.comes (.req b s n) = x.send (.reply x.t.rb s n) := by simp only [Pm.comes]; rw [hc, h1]; simp
        refine st_pcomes_again H q b s n hf he ?_ hb (hid (fun wx R h i hi => st_task_again h i hi hlf hsb hni (beqT h1)))
        unfold Tb.dk
        simp only
        rw [hl, if_pos rfl, if_neg (by omega), hs, ← h1]
      · have hb1 : ((n : Int) == x.t.dk.last) = false := beqZ h1
        by_cases h2 : n = x.t.last + 1
        · have he : x.comes (.req b s n) = (x.acts b s n).send (.reply b s n) := by
            simp only [Pm.comes]; rw [hc, if_pos rfl, if_neg (by simpa using h1), if_pos (by simpa using h2)]
          refine st_pcomes_new H q b s n hf he hlf (by have := hn.tl; omega) hac ?_ hb (hid (fun wx R h i hi => st_task_new h i hi hlf hsb hni hb1 _ hw (beqT h2)))
          unfold Tb.dk Pm.acts
          simp only
          rw [hl, if_pos rfl, if_pos rfl, if_neg (by omega), hs, ← h2]
        · have he : x.comes (.req b s n) = x := by
            simp only [Pm.comes]; rw [hc, if_pos rfl, if_neg (by simpa using h1), if_neg (by simpa using h2)]
          exact st_pcomes_pass H q b s n hf he (hid (fun wx R h i hi => st_task_pass h i hi hlf hsb hni hb1 _ hw (beqZ h2)))
  | welcome s => exact hbk rfl
  | stale s n => exact hbk rfl
  | reply b s n => exact hbk rfl
end

end Go.Proofs.Ytkiccbjngokpjaa
