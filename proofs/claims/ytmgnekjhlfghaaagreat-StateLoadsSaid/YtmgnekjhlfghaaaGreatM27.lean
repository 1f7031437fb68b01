/-
  Merged, in build order: TB TC TD UX2 TE TF.
-/
import Derived.Test.YtmgnekjhlfghaaaGreatM26
import Derived.Test.YtmgnekjhlfghaaaGreatM24
import Derived.Test.YtmgnekjhlfghaaaGreatM20
import Derived.Deep.RegionHeld3
/-
  The document's state: place.
-/
namespace Go.Proofs.YtmgnekjhlfghaaaGreat
open Go.RowKit
set_option linter.unusedVariables false
set_option linter.unusedSimpArgs false

/-- The document's queue, its list known. -/
def XqP (X : Nat) (q : QS) (rv : Value) : Thing := fun w F G => F = [X] ∧ G = rv.ownBlock.toList ∧ w.heap[X]? = some (.cells #[.int .i64 q.att, rv] 39 (0, 0)) ∧ w.ownsRow 0 51 8 rv q.rows.length (qL.cells q.rows)
instance (X : Nat) (q : QS) (rv : Value) : Loc (XqP X q rv) where
  keep := fun ⟨h1, h2, h3, h4⟩ hF hd hg => ⟨h1, h2, hF.keep h3 (hd _ (by simp [h1])), ownsRow_keep h4 hF (fun g h => hg g (by rw [h2]; exact h))⟩
  lt := fun ⟨h1, h2, h3, h4⟩ => ⟨fun x hx => by subst h1; simp at hx; subst hx; exact lt_of_block h3, fun x hx => by subst h2; exact ownsRow_lt h4 x hx⟩
section
variable {W : Base} {w : World} {R : List Thing}
theorem St.qpin (H : St W w R) (i : Nat) {X : Nat} {q : QS} (hi : R[i]? = some (XqT X q)) : ∃ a c, St W w (R.set i (XqP X q (.slice a q.rows.length c))) := by
  obtain ⟨F, G, hA, h2, h3, hset⟩ := H.atG i hi
  obtain ⟨rv, e1, e2, h4, h5⟩ := hA
  obtain ⟨a, c, rfl, _, _⟩ := own_slice h5
  exact ⟨a, c, hset w F G _ inferInstance ⟨e1, e2, h4, h5⟩ (Fr.refl _ _) (fun x hx => .inl hx) (fun x hx => .inr (.inl hx)) h3⟩
theorem St.qunpin (H : St W w R) (i : Nat) {X : Nat} {q : QS} {rv : Value} (hi : R[i]? = some (XqP X q rv)) : St W w (R.set i (XqT X q)) := by
  obtain ⟨F, G, hA, h2, h3, hset⟩ := H.atG i hi
  obtain ⟨e1, e2, h4, h5⟩ := hA
  exact hset w F G _ inferInstance ⟨rv, e1, e2, h4, h5⟩ (Fr.refl _ _) (fun x hx => .inl hx) (fun x hx => .inr (.inl hx)) h3
theorem St.qIn (H : St W w R) (i : Nat) {X : Nat} {q : QS} {a : Option Addr} {c : Nat} (hi : R[i]? = some (XqP X q (.slice a q.rows.length c))) : XqIn w X q a c := by
  obtain ⟨F, G, _, _, h3, h4⟩ := H.getG i hi
  obtain ⟨a', c', e, h5, _⟩ := own_slice h4
  cases e
  exact ⟨h3, h5⟩
variable {X Q : Nat} {q : QS} {res : Int} {pv lv qv : Value} {progs : List ByteArray} {ll : List (List ByteArray × TS)}
/-- The document's state's things, the queue's list known. -/
def xsP (X Q : Nat) (q : QS) (qv : Value) (res : Int) (pv : Value) (progs : List ByteArray) (lv : Value) (ll : List (List ByteArray × TS)) : List Thing :=
  [BlkT X (xO X Q res pv lv), XqP Q q qv, RoT 9 1 pv progs.length (sL.cells progs), RoT 41 1 lv ll.length (tL.cells ll)] ++ ll.map lgR
theorem St.xsDone {T : List Thing} {i : Nat} {v : SV} (hi : R[i]? = some (XsT X v)) (hll : ll.map (·.1) = v.logs) (H : St W w ((R.set i NilT ++ xsL X Q v.q v.res pv v.progs lv ll) ++ T)) : St W w (R ++ T) := by
  have hil := lt_of_get hi
  have h1 : St W w ((R ++ T).set i NilT ++ xsL X Q v.q v.res pv v.progs lv ll) := H.perm (by
    rw [List.set_append_left _ _ hil, List.append_assoc, List.append_assoc]
    exact List.Perm.append_left _ List.perm_append_comm)
  have h2 := h1.xsBack (by rw [List.length_append]; omega)
  rw [hll] at h2
  rwa [things_set_self (by rw [List.getElem?_append_left hil]; exact hi)] at h2
theorem St.xsPin (H : St W w (R ++ xsL X Q q res pv progs lv ll)) : ∃ a c, St W w (R ++ xsP X Q q (.slice a q.rows.length c) res pv progs lv ll) := by
  obtain ⟨a, c, h⟩ := H.qpin (R.length + 1) (X := Q) (q := q) (by rw [get_behind]; rfl)
  rw [set_behind] at h
  exact ⟨a, c, h⟩
theorem St.xsUnpin {T : List Thing} (H : St W w ((R ++ xsP X Q q qv res pv progs lv ll) ++ T)) : St W w ((R ++ xsL X Q q res pv progs lv ll) ++ T) := by
  rw [List.append_assoc] at H
  have h := H.qunpin (R.length + 1) (X := Q) (q := q) (rv := qv) (by rw [get_behind]; rfl)
  rw [set_behind] at h
  rw [List.append_assoc]
  exact h
theorem xp_getL {k : Nat} {x : List ByteArray × TS} {T : List Thing} (h : ll[k]? = some x) : ((R ++ xsP X Q q qv res pv progs lv ll) ++ T)[R.length + (4 + k)]? = some (lgR x) := by
  have hk : k < ll.length := (List.getElem?_eq_some_iff.1 h).1
  rw [List.append_assoc, get_behind, List.getElem?_append_left (by simp [xsP]; omega)]
  show ([BlkT X _, XqP Q q qv, _, _] ++ ll.map lgR)[4 + k]? = _
  rw [List.getElem?_append_right (by simp), show 4 + k - [BlkT X (xO X Q res pv lv), XqP Q q qv, RoT 9 1 pv progs.length (sL.cells progs), RoT 41 1 lv ll.length (tL.cells ll)].length = k by simp, List.getElem?_map, h]; rfl
set_option maxHeartbeats 1000000 in
set_option maxRecDepth 100000 in
theorem st_tplace (H : St W w R) (i : Nat) {X : Nat} {v : SV} (hi : R[i]? = some (XsT X v)) (hv : v.wf) (k : Nat) (hk : k < v.q.rows.length) :
    Calls Tryz.prog 35 #[.pointer (some ⟨X, 0, none⟩), .int .i64 ((k : Int) + 1)] w fun e w' => ∃ a c, e = .returned (.agg (pF (v.place k, ⟨a, c⟩)).toArray) ∧ St W w' (R ++ [lgR ((v.place k).log, ⟨a, c⟩)]) := by
  have HI := hid hi
  obtain ⟨i0, hi0, hz0, hz1, hz2⟩ := info_parts info_gs
  have HZ := hid (And.intro hi0 (And.intro hz0 (And.intro hz1 hz2)))
  obtain ⟨Q, pv, lv, ll, hll, H1⟩ := H.xs i hi
  have HLL := hid hll
  have hpl : v.place k = ⟨qL.nth v.q.rows k, sL.nth v.progs k, v.logs.getD k []⟩ := rfl
  have hkp : k < v.progs.length := by rw [hv.np]; exact hk
  have hlen : ll.length = v.logs.length := by rw [← hll, List.length_map]
  have hkl : k < ll.length := by rw [hlen, hv.nl]; exact hk
  obtain ⟨y, hy⟩ : ∃ y, ll[k]? = some y := ⟨_, List.getElem?_eq_getElem hkl⟩
  have hyn : tL.nth ll k = y := by have := tL.nth_get hkl; rw [hy] at this; exact (Option.some.inj this).symm
  have hlog : v.logs.getD k [] = y.1 := by rw [← hll, List.getD, List.getElem?_map, hy]; rfl
  have hy32 : y.1.length ≤ 32 := (hv.lg y.1 (by rw [← hll]; exact List.mem_map_of_mem (List.mem_of_getElem? hy))).1
  have hn8 := hv.q.n
  have hnp := hv.np
  have hnl := hv.nl
  rw [hpl, hlog]
  have HDN := hid (fun (wx : World) (T : List Thing) (h : St W wx ((R.set i NilT ++ xsL X Q v.q v.res pv v.progs lv ll) ++ T)) => h.xsDone hi hll)
  obtain ⟨q, res, progs, logs⟩ := v
  simp only at hk hkp hn8 H1 hnp hnl hlen HDN ⊢
  obtain ⟨qa, qc, H2⟩ := H1.xsPin
  obtain ⟨qb, qo, rfl⟩ := (H2.qIn ((R.set i NilT).length + 1) (by rw [get_behind]; rfl)).inn.sm (by omega)
  obtain ⟨pg, pc, hsl, _⟩ := ownsRow_shape (H2.roRow ((R.set i NilT).length + 2) (by rw [get_behind]; rfl)) (by omega)
  cases hsl
  obtain ⟨lg, lc, hsl, _⟩ := ownsRow_shape (H2.roRow ((R.set i NilT).length + 3) (by rw [get_behind]; rfl)) (by omega)
  cases hsl
  obtain ⟨r, hr⟩ : ∃ r, qL.nth q.rows k = r := ⟨_, rfl⟩
  obtain ⟨p, hp⟩ : ∃ p, sL.nth progs k = p := ⟨_, rfl⟩
  rw [hr, hp]
  obtain ⟨m, hm⟩ : ∃ m : Nat, q.rows.length = m := ⟨_, rfl⟩
  have HS := hid (show ∀ (wx : World) (T : List Thing), St W wx ((R.set i NilT ++ xsP X Q q (.slice (some ⟨qb, qo, none⟩) q.rows.length qc) res (.slice (some ⟨pg, 0, none⟩) progs.length pc) progs (.slice (some ⟨lg, 0, none⟩) ll.length lc) ll) ++ T) → wx.cell? ⟨X, 1, none⟩ = some (.pointer (some ⟨Q, 0, none⟩)) ∧ wx.cell? ⟨Q, 1, none⟩ = some (.slice (some ⟨qb, qo, none⟩) m qc) ∧ wx.cell? ⟨X, 2, none⟩ = some (.slice (some ⟨pg, 0, none⟩) progs.length pc) ∧ wx.cell? ⟨pg, k, none⟩ = some (.string p) ∧ wx.cell? ⟨X, 3, none⟩ = some (.slice (some ⟨lg, 0, none⟩) ll.length lc) ∧ wx.cell? ⟨lg, k, none⟩ = some (.slice y.2.a y.1.length y.2.c) ∧ wx.cell? ⟨qb, qo + k * 8, none⟩ = some (.int .i64 r.job) ∧ wx.cell? ⟨qb, qo + k * 8 + 1, none⟩ = some (.int .i64 r.st) ∧ wx.cell? ⟨qb, qo + k * 8 + 2, none⟩ = some (.int .i64 r.at_) ∧ wx.cell? ⟨qb, qo + k * 8 + 3, none⟩ = some (.int .i64 r.ba) ∧ wx.cell? ⟨qb, qo + k * 8 + 4, none⟩ = some (.int .i64 r.node) ∧ wx.cell? ⟨qb, qo + k * 8 + 5, none⟩ = some (.int .i64 r.life) ∧ wx.cell? ⟨qb, qo + k * 8 + 6, none⟩ = some (.int .i64 r.code) ∧ wx.cell? ⟨qb, qo + k * 8 + 7, none⟩ = some (.int .u64 r.bits) from fun wx T h => by
    have hQ := h.qIn ((R.set i NilT).length + 1) (by rw [List.append_assoc, get_behind]; rfl)
    obtain ⟨g0, g1, g2, g3, g4, g5, g6, g7⟩ := qrow_cells hQ.inn k hk
    rw [hr] at g0 g1 g2 g3 g4 g5 g6 g7
    have b1 := h.blk ((R.set i NilT).length + 0) (by rw [List.append_assoc, get_behind]; rfl)
    have h2 := gs_cells (h.roLay sL ((R.set i NilT).length + 2) (by rw [List.append_assoc, get_behind]; rfl)) k hkp
    rw [Nat.zero_add, Nat.mul_one, hp] at h2
    have h3 := (ownsRow_cell (h.roRow ((R.set i NilT).length + 3) (by rw [List.append_assoc, get_behind]; rfl)) k (by rw [gt_get hkl, hyn])).1
    rw [← hm]
    exact ⟨cell_blk b1 rfl, hQ.c1, cell_blk b1 rfl, h2, cell_blk b1 rfl, h3, g0, g1, g2, g3, g4, g5, g6, g7⟩)
  have hw0 : IntKind.i64.wrap (k : Int) = (k : Int) := IntWalk.i64_in _ (by omega)
  have hk0 : (0 : Int) ≤ k := by omega
  have hk1 : (k : Int) < m := by omega
  have hk2 : (k : Int) < progs.length := by omega
  have hk3 : (k : Int) < ll.length := by omega
  have HB := hid (show y.1.length * 16 ≤ 140737488355328 by omega)
  have HY := hid hy
  have hzX := lt_of_block (H2.blk ((R.set i NilT).length + 0) (by rw [get_behind]; rfl))
  have hzQ := lt_of_block (H2.qIn ((R.set i NilT).length + 1) (by rw [get_behind]; rfl)).blk
  have H3 := hid (show St W (w.alloc pZ) ((R.set i NilT ++ xsP X Q q (.slice (some ⟨qb, qo, none⟩) q.rows.length qc) res (.slice (some ⟨pg, 0, none⟩) progs.length pc) progs (.slice (some ⟨lg, 0, none⟩) ll.length lc) ll) ++ [BlkT w.heap.size pZ]) from H2.alloc pZ)
  clear hll hkp hlen hkl hyn hlog hy32 hn8 hnp hnl hpl H H1 H2 hi hv hk hr hp hm hy hi0 hz0 hz1 hz2
  go_enter Tryz.func35, Tryz.ntmps35
  go_wp2_with fail
  refine wp_region_U (S := fun wx : World => wx.cell? ⟨X, 1, none⟩ = some (.pointer (some ⟨Q, 0, none⟩)) ∧ wx.cell? ⟨Q, 1, none⟩ = some (.slice (some ⟨qb, qo, none⟩) m qc) ∧ wx.cell? ⟨X, 2, none⟩ = some (.slice (some ⟨pg, 0, none⟩) progs.length pc) ∧ wx.cell? ⟨pg, k, none⟩ = some (.string p) ∧ wx.cell? ⟨X, 3, none⟩ = some (.slice (some ⟨lg, 0, none⟩) ll.length lc) ∧ wx.cell? ⟨lg, k, none⟩ = some (.slice y.2.a y.1.length y.2.c) ∧ wx.cell? ⟨qb, qo + k * 8, none⟩ = some (.int .i64 r.job) ∧ wx.cell? ⟨qb, qo + k * 8 + 1, none⟩ = some (.int .i64 r.st) ∧ wx.cell? ⟨qb, qo + k * 8 + 2, none⟩ = some (.int .i64 r.at_) ∧ wx.cell? ⟨qb, qo + k * 8 + 3, none⟩ = some (.int .i64 r.ba) ∧ wx.cell? ⟨qb, qo + k * 8 + 4, none⟩ = some (.int .i64 r.node) ∧ wx.cell? ⟨qb, qo + k * 8 + 5, none⟩ = some (.int .i64 r.life) ∧ wx.cell? ⟨qb, qo + k * 8 + 6, none⟩ = some (.int .i64 r.code) ∧ wx.cell? ⟨qb, qo + k * 8 + 7, none⟩ = some (.int .u64 r.bits)) 30 (by kernel_rfl) (HS.out _ _ H3.out.drew) (fun hHeld => ?_)
  refine takeU (i := 0) (d := 5) (v := ?_) rfl rfl (by kernel_rfl) (by kernel_rfl) (by kernel_rfl) (by kernel_rfl) (by kernel_rfl) (fun _ _ _ h => h) (Or.inl ⟨by rfl, ?_⟩) hHeld ?_
  rotate_left
  · intro wq hSw; (try dsimp only at hSw); go_simp; all_goals (with_reducible rfl)
  simp only [Act.put, List.setIfInBounds_toArray, List.set_cons_zero, List.set_cons_succ]
  refine takeU (i := 1) (d := 6) (v := ?_) rfl rfl (by kernel_rfl) (by kernel_rfl) (by kernel_rfl) (by kernel_rfl) (by kernel_rfl) (fun _ _ _ h => h) (Or.inl ⟨by rfl, ?_⟩) hHeld ?_
  rotate_left
  · intro wq hSw; (try dsimp only at hSw); go_simp; all_goals (with_reducible rfl)
  simp only [Act.put, List.setIfInBounds_toArray, List.set_cons_zero, List.set_cons_succ]
  refine takeU (i := 2) (d := 7) (v := ?_) rfl rfl (by kernel_rfl) (by kernel_rfl) (by kernel_rfl) (by kernel_rfl) (by kernel_rfl) (fun _ _ _ h => h) (Or.inl ⟨by rfl, ?_⟩) hHeld ?_
  rotate_left
  · intro wq hSw; (try dsimp only at hSw); go_simp; all_goals (with_reducible rfl)
  simp only [Act.put, List.setIfInBounds_toArray, List.set_cons_zero, List.set_cons_succ]
  refine takeU (i := 3) (d := 8) (v := ?_) rfl rfl (by kernel_rfl) (by kernel_rfl) (by kernel_rfl) (by kernel_rfl) (by kernel_rfl) (fun _ _ _ h => h) (Or.inl ⟨by rfl, ?_⟩) hHeld ?_
  rotate_left
  · intro wq hSw; (try dsimp only at hSw); go_simp; all_goals (with_reducible rfl)
  simp only [Act.put, List.setIfInBounds_toArray, List.set_cons_zero, List.set_cons_succ]
  refine takeU (i := 4) (d := 9) (v := ?_) rfl rfl (by kernel_rfl) (by kernel_rfl) (by kernel_rfl) (by kernel_rfl) (by kernel_rfl) (fun _ _ _ h => h) (Or.inl ⟨by rfl, ?_⟩) hHeld ?_
  rotate_left
  · intro wq hSw; (try dsimp only at hSw); go_simp; all_goals (with_reducible rfl)
  simp only [Act.put, List.setIfInBounds_toArray, List.set_cons_zero, List.set_cons_succ]
  refine takeU (i := 5) (d := 10) (v := ?_) rfl rfl (by kernel_rfl) (by kernel_rfl) (by kernel_rfl) (by kernel_rfl) (by kernel_rfl) (fun _ _ _ h => h) (Or.inl ⟨by rfl, ?_⟩) hHeld ?_
  rotate_left
  · intro wq hSw; (try dsimp only at hSw); go_simp; all_goals (with_reducible rfl)
  simp only [Act.put, List.setIfInBounds_toArray, List.set_cons_zero, List.set_cons_succ]
  refine takeU (i := 6) (d := 11) (v := ?_) rfl rfl (by kernel_rfl) (by kernel_rfl) (by kernel_rfl) (by kernel_rfl) (by kernel_rfl) (fun _ _ _ h => h) (Or.inl ⟨by rfl, ?_⟩) hHeld ?_
  rotate_left
  · intro wq hSw; (try dsimp only at hSw); go_simp; all_goals (with_reducible rfl)
  simp only [Act.put, List.setIfInBounds_toArray, List.set_cons_zero, List.set_cons_succ]
  refine takeU (i := 7) (d := 12) (v := ?_) rfl rfl (by kernel_rfl) (by kernel_rfl) (by kernel_rfl) (by kernel_rfl) (by kernel_rfl) (fun _ _ _ h => h) (Or.inl ⟨by rfl, ?_⟩) hHeld ?_
  rotate_left
  · intro wq hSw; (try dsimp only at hSw); go_simp; all_goals (with_reducible rfl)
  simp only [Act.put, List.setIfInBounds_toArray, List.set_cons_zero, List.set_cons_succ]
  refine takeU (i := 8) (d := 13) (v := ?_) rfl rfl (by kernel_rfl) (by kernel_rfl) (by kernel_rfl) (by kernel_rfl) (by kernel_rfl) (fun _ _ _ h => h) (Or.inl ⟨by rfl, ?_⟩) hHeld ?_
  rotate_left
  · intro wq hSw; (try dsimp only at hSw); go_simp; all_goals (with_reducible rfl)
  simp only [Act.put, List.setIfInBounds_toArray, List.set_cons_zero, List.set_cons_succ]
  refine takeU (i := 9) (d := 14) (v := ?_) rfl rfl (by kernel_rfl) (by kernel_rfl) (by kernel_rfl) (by kernel_rfl) (by kernel_rfl) (fun _ _ _ h => h) (Or.inl ⟨by rfl, ?_⟩) hHeld ?_
  rotate_left
  · intro wq hSw; (try dsimp only at hSw); go_simp; all_goals (with_reducible rfl)
  simp only [Act.put, List.setIfInBounds_toArray, List.set_cons_zero, List.set_cons_succ]
  refine takeU (i := 10) (d := 15) (v := ?_) rfl rfl (by kernel_rfl) (by kernel_rfl) (by kernel_rfl) (by kernel_rfl) (by kernel_rfl) (fun _ _ _ h => h) (Or.inl ⟨by rfl, ?_⟩) hHeld ?_
  rotate_left
  · intro wq hSw; (try dsimp only at hSw); go_simp; all_goals (with_reducible rfl)
  simp only [Act.put, List.setIfInBounds_toArray, List.set_cons_zero, List.set_cons_succ]
  refine takeU (i := 11) (d := 16) (v := ?_) rfl rfl (by kernel_rfl) (by kernel_rfl) (by kernel_rfl) (by kernel_rfl) (by kernel_rfl) (fun _ _ _ h => h) (Or.inl ⟨by rfl, ?_⟩) hHeld ?_
  rotate_left
  · intro wq hSw; (try dsimp only at hSw); go_simp; all_goals (with_reducible rfl)
  simp only [Act.put, List.setIfInBounds_toArray, List.set_cons_zero, List.set_cons_succ]
  refine takeU (i := 12) (d := 17) (v := ?_) rfl rfl (by kernel_rfl) (by kernel_rfl) (by kernel_rfl) (by kernel_rfl) (by kernel_rfl) (fun _ _ _ h => h) (Or.inl ⟨by rfl, ?_⟩) hHeld ?_
  rotate_left
  · intro wq hSw; (try dsimp only at hSw); go_simp; all_goals (with_reducible rfl)
  simp only [Act.put, List.setIfInBounds_toArray, List.set_cons_zero, List.set_cons_succ]
  refine takeU (i := 13) (d := 18) (v := ?_) rfl rfl (by kernel_rfl) (by kernel_rfl) (by kernel_rfl) (by kernel_rfl) (by kernel_rfl) (fun _ _ _ h => h) (Or.inl ⟨by rfl, ?_⟩) hHeld ?_
  rotate_left
  · intro wq hSw; (try dsimp only at hSw); go_simp; all_goals (with_reducible rfl)
  simp only [Act.put, List.setIfInBounds_toArray, List.set_cons_zero, List.set_cons_succ]
  refine takeU (i := 14) (d := 19) (v := ?_) rfl rfl (by kernel_rfl) (by kernel_rfl) (by kernel_rfl) (by kernel_rfl) (by kernel_rfl) (fun _ _ _ h => h) (Or.inl ⟨by rfl, ?_⟩) hHeld ?_
  rotate_left
  · intro wq hSw; (try dsimp only at hSw); go_simp; all_goals (with_reducible rfl)
  simp only [Act.put, List.setIfInBounds_toArray, List.set_cons_zero, List.set_cons_succ]
  refine takeU (i := 15) (d := 20) (v := ?_) rfl rfl (by kernel_rfl) (by kernel_rfl) (by kernel_rfl) (by kernel_rfl) (by kernel_rfl) (fun _ _ _ h => h) (Or.inl ⟨by rfl, ?_⟩) hHeld ?_
  rotate_left
  · intro wq hSw; (try dsimp only at hSw); go_simp; all_goals (with_reducible rfl)
  simp only [Act.put, List.setIfInBounds_toArray, List.set_cons_zero, List.set_cons_succ]
  refine takeU (i := 16) (d := 21) (v := ?_) rfl rfl (by kernel_rfl) (by kernel_rfl) (by kernel_rfl) (by kernel_rfl) (by kernel_rfl) (fun _ _ _ h => h) (Or.inl ⟨by rfl, ?_⟩) hHeld ?_
  rotate_left
  · intro wq hSw; (try dsimp only at hSw); go_simp; all_goals (with_reducible rfl)
  simp only [Act.put, List.setIfInBounds_toArray, List.set_cons_zero, List.set_cons_succ]
  refine takeU (i := 17) (d := 22) (v := ?_) rfl rfl (by kernel_rfl) (by kernel_rfl) (by kernel_rfl) (by kernel_rfl) (by kernel_rfl) (fun _ _ _ h => h) (Or.inl ⟨by rfl, ?_⟩) hHeld ?_
  rotate_left
  · intro wq hSw; (try dsimp only at hSw); go_simp; all_goals (with_reducible rfl)
  simp only [Act.put, List.setIfInBounds_toArray, List.set_cons_zero, List.set_cons_succ]
  refine takeU (i := 18) (d := 23) (v := ?_) rfl rfl (by kernel_rfl) (by kernel_rfl) (by kernel_rfl) (by kernel_rfl) (by kernel_rfl) (fun _ _ _ h => h) (Or.inl ⟨by rfl, ?_⟩) hHeld ?_
  rotate_left
  · intro wq hSw; (try dsimp only at hSw); go_simp; all_goals (with_reducible rfl)
  simp only [Act.put, List.setIfInBounds_toArray, List.set_cons_zero, List.set_cons_succ]
  refine takeU (i := 20) (d := 25) (v := ?_) rfl rfl (by kernel_rfl) (by kernel_rfl) (by kernel_rfl) (by kernel_rfl) (by kernel_rfl) (fun _ _ _ h => h) (Or.inl ⟨by rfl, ?_⟩) hHeld ?_
  rotate_left
  · intro wq hSw; (try dsimp only at hSw); go_simp; all_goals (with_reducible rfl)
  simp only [Act.put, List.setIfInBounds_toArray, List.set_cons_zero, List.set_cons_succ]
  refine takeU (i := 21) (d := 26) (v := ?_) rfl rfl (by kernel_rfl) (by kernel_rfl) (by kernel_rfl) (by kernel_rfl) (by kernel_rfl) (fun _ _ _ h => h) (Or.inl ⟨by rfl, ?_⟩) hHeld ?_
  rotate_left
  · intro wq hSw; (try dsimp only at hSw); go_simp; all_goals (with_reducible rfl)
  simp only [Act.put, List.setIfInBounds_toArray, List.set_cons_zero, List.set_cons_succ]
  refine takeU (i := 22) (d := 27) (v := ?_) rfl rfl (by kernel_rfl) (by kernel_rfl) (by kernel_rfl) (by kernel_rfl) (by kernel_rfl) (fun _ _ _ h => h) (Or.inl ⟨by rfl, ?_⟩) hHeld ?_
  rotate_left
  · intro wq hSw; (try dsimp only at hSw); go_simp; all_goals (with_reducible rfl)
  simp only [Act.put, List.setIfInBounds_toArray, List.set_cons_zero, List.set_cons_succ]
  refine takeU (i := 23) (d := 28) (v := ?_) rfl rfl (by kernel_rfl) (by kernel_rfl) (by kernel_rfl) (by kernel_rfl) (by kernel_rfl) (fun _ _ _ h => h) (Or.inl ⟨by rfl, ?_⟩) hHeld ?_
  rotate_left
  · intro wq hSw; (try dsimp only at hSw); go_simp; all_goals (with_reducible rfl)
  simp only [Act.put, List.setIfInBounds_toArray, List.set_cons_zero, List.set_cons_succ]
  refine takeU (i := 24) (d := 29) (v := ?_) rfl rfl (by kernel_rfl) (by kernel_rfl) (by kernel_rfl) (by kernel_rfl) (by kernel_rfl) (fun _ _ _ h => h) (Or.inl ⟨by rfl, ?_⟩) hHeld ?_
  rotate_left
  · intro wq hSw; (try dsimp only at hSw); go_simp; all_goals (with_reducible rfl)
  simp only [Act.put, List.setIfInBounds_toArray, List.set_cons_zero, List.set_cons_succ]
  refine takeU (i := 25) (d := 30) (v := ?_) rfl rfl (by kernel_rfl) (by kernel_rfl) (by kernel_rfl) (by kernel_rfl) (by kernel_rfl) (fun _ _ _ h => h) (Or.inl ⟨by rfl, ?_⟩) hHeld ?_
  rotate_left
  · intro wq hSw; (try dsimp only at hSw); go_simp; all_goals (with_reducible rfl)
  simp only [Act.put, List.setIfInBounds_toArray, List.set_cons_zero, List.set_cons_succ]
  refine takeU (i := 26) (d := 31) (v := ?_) rfl rfl (by kernel_rfl) (by kernel_rfl) (by kernel_rfl) (by kernel_rfl) (by kernel_rfl) (fun _ _ _ h => h) (Or.inl ⟨by rfl, ?_⟩) hHeld ?_
  rotate_left
  · intro wq hSw; (try dsimp only at hSw); go_simp; all_goals (with_reducible rfl)
  simp only [Act.put, List.setIfInBounds_toArray, List.set_cons_zero, List.set_cons_succ]
  refine takeU (i := 27) (d := 32) (v := ?_) rfl rfl (by kernel_rfl) (by kernel_rfl) (by kernel_rfl) (by kernel_rfl) (by kernel_rfl) (fun _ _ _ h => h) (Or.inl ⟨by rfl, ?_⟩) hHeld ?_
  rotate_left
  · intro wq hSw; (try dsimp only at hSw); go_simp; all_goals (with_reducible rfl)
  simp only [Act.put, List.setIfInBounds_toArray, List.set_cons_zero, List.set_cons_succ]
  refine wpAnyU_ready (rs := [19]) (by kernel_rfl) (by simp) ?_
  refine AllReadyU.cons rfl (fun K hK => ?_) AllReadyU.nil
  go_simp
  have H4 := hid (show St W ((w.alloc pZ).drew.alloc (.cells #[] 9)) ((R.set i NilT ++ xsP X Q q (.slice (some ⟨qb, qo, none⟩) q.rows.length qc) res (.slice (some ⟨pg, 0, none⟩) progs.length pc) progs (.slice (some ⟨lg, 0, none⟩) ll.length lc) ll) ++ [BlkT w.heap.size pZ, RowT 9 1 (.slice (some ⟨w.heap.size + 1, 0, none⟩) 0 0) 0 []]) from by have h := H3.out.drew.newRow 9 1; rw [List.append_assoc, show (w.alloc pZ).drew.heap.size = w.heap.size + 1 by simp] at h; exact h)
  refine hK.out _ _ (fun _ => HS.out _ _ H4.out) (fun hHeld => ?_)
  clear hK K
  refine wpAnyU_ready (rs := [28]) (by kernel_rfl) (by simp) ?_
  refine AllReadyU.cons rfl (fun K hK => ?_) AllReadyU.nil
  refine stepCopied H4.out ((R.set i NilT ++ xsP X Q q (.slice (some ⟨qb, qo, none⟩) q.rows.length qc) res (.slice (some ⟨pg, 0, none⟩) progs.length pc) progs (.slice (some ⟨lg, 0, none⟩) ll.length lc) ll).length + 1) rfl (.tmp 24) (.tmp 32) 41 rfl 9 i0 (.string ByteArray.empty) 1 16 Tryz.underlying41 HZ.out.1 HZ.out.2.1 HZ.out.2.2.1 HZ.out.2.2.2 rfl (by decide) (w.heap.size + 1) (by rw [get_behind]; rfl) rfl y.2.a y.1.length y.2.c (sL.at_ y.1) rfl (H4.out.roLay sL ((R.set i NilT).length + (4 + k)) (xp_getL HY.out)) (fun j _ => sL.at_one _ j) HB.out ?_
  intro g cap w3 H5
  rw [set_behind] at H5
  have H5 : St W w3 ((R.set i NilT ++ xsP X Q q (.slice (some ⟨qb, qo, none⟩) q.rows.length qc) res (.slice (some ⟨pg, 0, none⟩) progs.length pc) progs (.slice (some ⟨lg, 0, none⟩) ll.length lc) ll) ++ [BlkT w.heap.size pZ, RowT 9 1 (.slice (some ⟨g, 0, none⟩) y.1.length cap) y.1.length (sL.cells y.1)]) := by
    rw [← sL.range y.1]; exact H5
  have H5 := hid H5
  refine hK.out _ _ (fun _ => HS.out _ _ H5.out) (fun hHeld => ?_)
  clear hK K
  have hHeld := hHeld (by decide)
  refine takeU (i := 29) (d := 34) (v := ?_) rfl rfl (by kernel_rfl) (by kernel_rfl) (by kernel_rfl) (by kernel_rfl) (by kernel_rfl) (fun _ _ _ h => h) (Or.inl ⟨by rfl, ?_⟩) hHeld ?_
  rotate_left
  · intro wq hSw; (try dsimp only at hSw); go_simp; all_goals (with_reducible rfl)
  simp only [Act.put, List.setIfInBounds_toArray, List.set_cons_zero, List.set_cons_succ]
  have bz : w3.heap[w.heap.size]? = some pZ := H5.out.blk ((R.set i NilT ++ xsP X Q q (.slice (some ⟨qb, qo, none⟩) q.rows.length qc) res (.slice (some ⟨pg, 0, none⟩) progs.length pc) progs (.slice (some ⟨lg, 0, none⟩) ll.length lc) ll).length + 0) (by rw [get_behind]; rfl)
  have zz0 := cell_blk (i := 0) bz rfl
  have yy0 := free_blk (i := 0) bz
  have zz1 := cell_blk (i := 1) bz rfl
  have yy1 := free_blk (i := 1) bz
  have zz2 := cell_blk (i := 2) bz rfl
  have yy2 := free_blk (i := 2) bz
  have zz3 := cell_blk (i := 3) bz rfl
  have yy3 := free_blk (i := 3) bz
  have zz4 := cell_blk (i := 4) bz rfl
  have yy4 := free_blk (i := 4) bz
  have zz5 := cell_blk (i := 5) bz rfl
  have yy5 := free_blk (i := 5) bz
  have zz6 := cell_blk (i := 6) bz rfl
  have yy6 := free_blk (i := 6) bz
  have zz7 := cell_blk (i := 7) bz rfl
  have yy7 := free_blk (i := 7) bz
  have zz8 := cell_blk (i := 8) bz rfl
  have yy8 := free_blk (i := 8) bz
  have zz9 := cell_blk (i := 9) bz rfl
  have yy9 := free_blk (i := 9) bz
  have lz := lt_of_block bz
  clear bz
  refine wpAnyU_ready (rs := [30]) (by kernel_rfl) (by simp) ?_
  refine AllReadyU.cons rfl (fun K hK => ?_) AllReadyU.nil
  clear hHeld
  go_simp
  refine hK.out _ _ (fun h => absurd rfl h) (fun _ => ?_)
  clear hK K zz0 yy0 zz1 yy1 zz2 yy2 zz3 yy3 zz4 yy4 zz5 yy5 zz6 yy6 zz7 yy7 zz8 yy8 zz9 yy9
  have H6 := St.blk10 (T := (R.set i NilT ++ xsP X Q q (.slice (some ⟨qb, qo, none⟩) q.rows.length qc) res (.slice (some ⟨pg, 0, none⟩) progs.length pc) progs (.slice (some ⟨lg, 0, none⟩) ll.length lc) ll)) (rest := [RowT 9 1 (.slice (some ⟨g, 0, none⟩) y.1.length cap) y.1.length (sL.cells y.1)]) (.int .i64 r.job) (.int .i64 r.st) (.int .i64 r.at_) (.int .i64 r.ba) (.int .i64 r.node) (.int .i64 r.life) (.int .i64 r.code) (.int .u64 r.bits) (.string p) (.slice (some ⟨g, 0, none⟩) y.1.length cap) H5.out
  have b4 := H6.blk ((R.set i NilT ++ xsP X Q q (.slice (some ⟨qb, qo, none⟩) q.rows.length qc) res (.slice (some ⟨pg, 0, none⟩) progs.length pc) progs (.slice (some ⟨lg, 0, none⟩) ll.length lc) ll).length + 0) (by rw [get_behind]; rfl)
  have x0 := cell_blk (i := 0) b4 rfl
  have x1 := cell_blk (i := 1) b4 rfl
  have x2 := cell_blk (i := 2) b4 rfl
  have x3 := cell_blk (i := 3) b4 rfl
  have x4 := cell_blk (i := 4) b4 rfl
  have x5 := cell_blk (i := 5) b4 rfl
  have x6 := cell_blk (i := 6) b4 rfl
  have x7 := cell_blk (i := 7) b4 rfl
  have x8 := cell_blk (i := 8) b4 rfl
  have x9 := cell_blk (i := 9) b4 rfl
  have H6 := hid H6
  clear b4
  refine wpAnyU_done (by kernel_rfl) ?_ _
  go_wp2_with fail
  (try simp only [Exit.inBlock, Exit.then])
  refine bodyPost_ret (v := .agg #[.int .i64 r.job, .int .i64 r.st, .int .i64 r.at_, .int .i64 r.ba, .int .i64 r.node, .int .i64 r.life, .int .i64 r.code, .int .u64 r.bits, .string p, .slice (some ⟨g, 0, none⟩) y.1.length cap]) (by simp [results, Tryz.results35, go_sem, x0, x1, x2, x3, x4, x5, x6, x7, x8, x9]) rfl ?_
  refine ⟨some ⟨g, 0, none⟩, cap, rfl, ?_⟩
  have h7 := H6.out.ro ((R.set i NilT ++ xsP X Q q (.slice (some ⟨qb, qo, none⟩) q.rows.length qc) res (.slice (some ⟨pg, 0, none⟩) progs.length pc) progs (.slice (some ⟨lg, 0, none⟩) ll.length lc) ll).length + 1) (by rw [get_behind]; rfl)
  rw [set_behind] at h7
  exact HDN.out _ _ (St.xsUnpin (h7.lastOf (by simp [lgR])))
end
end Go.Proofs.YtmgnekjhlfghaaaGreat

/-
  The document's state: Find.
-/
namespace Go.Proofs.YtmgnekjhlfghaaaGreat
open Go.RowKit
set_option linter.unusedVariables false
set_option linter.unusedSimpArgs false

section
variable {W : Base} {w : World} {R : List Thing} {X : Nat} {v : SV}
theorem St.lgrNone (H : St W w R) : St W w (R ++ [lgR ([], ⟨none, 0⟩)]) := H.roNil _ _
set_option maxHeartbeats 1000000 in
set_option maxRecDepth 100000 in
theorem st_tfind (H : St W w R) (i : Nat) (hi : R[i]? = some (XsT X v)) (hv : v.wf) (b : Int) :
    Calls Tryz.prog 13 #[.pointer (some ⟨X, 0, none⟩), .int .i64 b] w fun e w' => ∃ a c, e = .returned (.tuple #[.agg (pF ((v.sfind b).1, ⟨a, c⟩)).toArray, .bool (v.sfind b).2]) ∧ St W w' (R ++ [lgR ((v.sfind b).1.log, ⟨a, c⟩)]) := by
  have HI := hid hi
  obtain ⟨Q, pv, lv, ll, hll, H1⟩ := (H.alloc pZ).xs i (get_l hi)
  have b1 := H1.blk (((R ++ [BlkT w.heap.size pZ]).set i NilT).length + 0) (by rw [get_behind]; rfl)
  have s0 := cell_blk (i := 1) b1 rfl
  have hlX := lt_of_block b1
  obtain ⟨qa, qc, hX⟩ := H1.xq (((R ++ [BlkT w.heap.size pZ]).set i NilT).length + 1) (X := Q) (q := v.q) (by rw [get_behind]; rfl)
  obtain ⟨x, z, hx⟩ : ∃ x z, v.q.find b = (x, z) := ⟨_, _, rfl⟩
  have hq := hid (x_find (w.alloc pZ) Q v.q qa qc hX hv.q.n b hx)
  have HX := hid hx
  have HH := hid (H.alloc pZ)
  have HV := hid hv
  clear H1 b1 hll H hi hv hX hx
  go_enter Tryz.func13, Tryz.ntmps13
  go_wp2_with fail
  refine hq.out.mono ?_
  rintro e w1 ⟨rfl, hF⟩
  have H2 := hid (HH.out.same hF)
  have bz : w1.heap[w.heap.size]? = some pZ := H2.out.chB
  have hlb := lt_of_block bz
  have zz0 : w1.cell? ⟨w.heap.size, 0, none⟩ = some (.int .i64 0) := cell_blk bz rfl
  have yy0 : w1.frozen? ⟨w.heap.size, 0, none⟩ = false := free_blk bz
  have zz1 : w1.cell? ⟨w.heap.size, 1, none⟩ = some (.int .i64 0) := cell_blk bz rfl
  have yy1 : w1.frozen? ⟨w.heap.size, 1, none⟩ = false := free_blk bz
  have zz2 : w1.cell? ⟨w.heap.size, 2, none⟩ = some (.int .i64 0) := cell_blk bz rfl
  have yy2 : w1.frozen? ⟨w.heap.size, 2, none⟩ = false := free_blk bz
  have zz3 : w1.cell? ⟨w.heap.size, 3, none⟩ = some (.int .i64 0) := cell_blk bz rfl
  have yy3 : w1.frozen? ⟨w.heap.size, 3, none⟩ = false := free_blk bz
  have zz4 : w1.cell? ⟨w.heap.size, 4, none⟩ = some (.int .i64 0) := cell_blk bz rfl
  have yy4 : w1.frozen? ⟨w.heap.size, 4, none⟩ = false := free_blk bz
  have zz5 : w1.cell? ⟨w.heap.size, 5, none⟩ = some (.int .i64 0) := cell_blk bz rfl
  have yy5 : w1.frozen? ⟨w.heap.size, 5, none⟩ = false := free_blk bz
  have zz6 : w1.cell? ⟨w.heap.size, 6, none⟩ = some (.int .i64 0) := cell_blk bz rfl
  have yy6 : w1.frozen? ⟨w.heap.size, 6, none⟩ = false := free_blk bz
  have zz7 : w1.cell? ⟨w.heap.size, 7, none⟩ = some (.int .u64 0) := cell_blk bz rfl
  have yy7 : w1.frozen? ⟨w.heap.size, 7, none⟩ = false := free_blk bz
  have zz8 : w1.cell? ⟨w.heap.size, 8, none⟩ = some (.string ⟨#[]⟩) := cell_blk bz rfl
  have yy8 : w1.frozen? ⟨w.heap.size, 8, none⟩ = false := free_blk bz
  have zz9 : w1.cell? ⟨w.heap.size, 9, none⟩ = some (.slice none 0 0) := cell_blk bz rfl
  have yy9 : w1.frozen? ⟨w.heap.size, 9, none⟩ = false := free_blk bz
  clear hF bz s0 hlX
  cases z
  · go_upto_region 3 with (fail)
    go_cut [4, 5] from 6 (fun s4 s5 wx => s4 = .pointer (some ⟨w.heap.size, 0, none⟩) ∧ s5 = .bool false ∧ wx.heap[w.heap.size]? = some (pO (.zero, ⟨none, 0⟩)) ∧ St W wx R)
    case first =>
      go_wp2_with fail
      go_meet
      have H4 := St.blk10 (T := R) (rest := []) (.int .i64 0) (.int .i64 0) (.int .i64 0) (.int .i64 0) (.int .i64 0) (.int .i64 0) (.int .i64 0) (.int .u64 0) (.string ⟨#[]⟩) (.slice none 0 0) H2.out.toEnd
      have hb := (H4.alloc_ (qO x)).chB
      have hd := (H4.alloc_ (qO x)).drop
      clear H4
      exact ⟨rfl, rfl, hb, hd⟩
    case rest =>
      obtain ⟨rfl, rfl, hb, hd⟩ := hcut
      have x0 := cell_blk (i := 0) hb rfl
      have x1 := cell_blk (i := 1) hb rfl
      have x2 := cell_blk (i := 2) hb rfl
      have x3 := cell_blk (i := 3) hb rfl
      have x4 := cell_blk (i := 4) hb rfl
      have x5 := cell_blk (i := 5) hb rfl
      have x6 := cell_blk (i := 6) hb rfl
      have x7 := cell_blk (i := 7) hb rfl
      have x8 := cell_blk (i := 8) hb rfl
      have x9 := cell_blk (i := 9) hb rfl
      have hs : v.sfind b = (.zero, false) := by unfold SV.sfind; rw [HX.out]; rfl
      have HS := hid hs
      have HD := hid hd
      clear hs hd hb
      dsimp only at x0 x1 x2 x3 x4 x5 x6 x7 x8 x9
      go_wp2_with fail
      (try simp only [Exit.inBlock, Exit.then])
      refine bodyPost_ret (v := .tuple #[.agg #[.int .i64 0, .int .i64 0, .int .i64 0, .int .i64 0, .int .i64 0, .int .i64 0, .int .i64 0, .int .u64 0, .string ⟨#[]⟩, .slice none 0 0], .bool false]) (by simp [PV.zero, QR.zero, results, Tryz.results13, go_sem, x0, x1, x2, x3, x4, x5, x6, x7, x8, x9]) rfl ?_
      exact ⟨none, 0, by rw [HS.out]; rfl, by rw [HS.out]; exact HD.out.lgrNone⟩
  · obtain ⟨k, hk, hxk, hjob⟩ := sfind_at HV.out.q HX.out
    have hP := st_tplace (H2.out.alloc (qO x)) i (get_l (get_l HI.out)) HV.out k hk
    rw [← hjob] at hP
    have HP := hid hP
    have HJ := hid (And.intro hk hjob)
    clear zz0 zz1 zz2 zz3 zz4 zz5 zz6 zz7 zz8 zz9 yy0 yy1 yy2 yy3 yy4 yy5 yy6 yy7 yy8 yy9 hk hxk hjob hP
    go_upto_region 4 with (fail)
    go_cut [4, 5] from 6 (fun s4 s5 wx => ∃ a c, s4 = .pointer (some ⟨w.heap.size, 0, none⟩) ∧ s5 = .bool true ∧ wx.heap[w.heap.size]? = some (pO (v.place k, ⟨a, c⟩)) ∧ St W wx (R ++ [lgR ((v.place k).log, ⟨a, c⟩)]))
    case first =>
      go_wp2_with fail
      refine HP.out.mono ?_
      rintro e w2 ⟨a, c, rfl, H3⟩
      have bz : w2.heap[w.heap.size]? = some pZ := H3.drop.drop.chB
      have hlb := lt_of_block bz
      have zz0 : w2.cell? ⟨w.heap.size, 0, none⟩ = some (.int .i64 0) := cell_blk bz rfl
      have yy0 : w2.frozen? ⟨w.heap.size, 0, none⟩ = false := free_blk bz
      have zz1 : w2.cell? ⟨w.heap.size, 1, none⟩ = some (.int .i64 0) := cell_blk bz rfl
      have yy1 : w2.frozen? ⟨w.heap.size, 1, none⟩ = false := free_blk bz
      have zz2 : w2.cell? ⟨w.heap.size, 2, none⟩ = some (.int .i64 0) := cell_blk bz rfl
      have yy2 : w2.frozen? ⟨w.heap.size, 2, none⟩ = false := free_blk bz
      have zz3 : w2.cell? ⟨w.heap.size, 3, none⟩ = some (.int .i64 0) := cell_blk bz rfl
      have yy3 : w2.frozen? ⟨w.heap.size, 3, none⟩ = false := free_blk bz
      have zz4 : w2.cell? ⟨w.heap.size, 4, none⟩ = some (.int .i64 0) := cell_blk bz rfl
      have yy4 : w2.frozen? ⟨w.heap.size, 4, none⟩ = false := free_blk bz
      have zz5 : w2.cell? ⟨w.heap.size, 5, none⟩ = some (.int .i64 0) := cell_blk bz rfl
      have yy5 : w2.frozen? ⟨w.heap.size, 5, none⟩ = false := free_blk bz
      have zz6 : w2.cell? ⟨w.heap.size, 6, none⟩ = some (.int .i64 0) := cell_blk bz rfl
      have yy6 : w2.frozen? ⟨w.heap.size, 6, none⟩ = false := free_blk bz
      have zz7 : w2.cell? ⟨w.heap.size, 7, none⟩ = some (.int .u64 0) := cell_blk bz rfl
      have yy7 : w2.frozen? ⟨w.heap.size, 7, none⟩ = false := free_blk bz
      have zz8 : w2.cell? ⟨w.heap.size, 8, none⟩ = some (.string ⟨#[]⟩) := cell_blk bz rfl
      have yy8 : w2.frozen? ⟨w.heap.size, 8, none⟩ = false := free_blk bz
      have zz9 : w2.cell? ⟨w.heap.size, 9, none⟩ = some (.slice none 0 0) := cell_blk bz rfl
      have yy9 : w2.frozen? ⟨w.heap.size, 9, none⟩ = false := free_blk bz
      have H3 := hid H3
      clear bz
      unfold pF
      go_wp2_with fail
      go_meet
      have H4 := St.blk10 (T := R) (rest := [BlkT w1.heap.size (qO x)] ++ [lgR ((v.place k).log, ⟨a, c⟩)]) (.int .i64 (v.place k).r.job) (.int .i64 (v.place k).r.st) (.int .i64 (v.place k).r.at_) (.int .i64 (v.place k).r.ba) (.int .i64 (v.place k).r.node) (.int .i64 (v.place k).r.life) (.int .i64 (v.place k).r.code) (.int .u64 (v.place k).r.bits) (.string (v.place k).prog) (.slice a (v.place k).log.length c) (by
        have h := H3.out
        rw [List.append_assoc, List.append_assoc] at h
        exact h)
      have hb := H4.blk (R.length + 0) (by rw [get_behind]; rfl)
      have hd := H4.sub perm_find
      clear H4
      exact ⟨a, c, rfl, rfl, hb, hd⟩
    case rest =>
      obtain ⟨a, c, rfl, rfl, hb, hd⟩ := hcut
      have x0 := cell_blk (i := 0) hb rfl
      have x1 := cell_blk (i := 1) hb rfl
      have x2 := cell_blk (i := 2) hb rfl
      have x3 := cell_blk (i := 3) hb rfl
      have x4 := cell_blk (i := 4) hb rfl
      have x5 := cell_blk (i := 5) hb rfl
      have x6 := cell_blk (i := 6) hb rfl
      have x7 := cell_blk (i := 7) hb rfl
      have x8 := cell_blk (i := 8) hb rfl
      have x9 := cell_blk (i := 9) hb rfl
      have hs : v.sfind b = (v.place k, true) := by
        unfold SV.sfind; rw [HX.out, if_pos rfl]
        have := HJ.out.2
        rw [show (x.job - 1).toNat = k by omega]
      have HS := hid hs
      have HD := hid hd
      clear hs hd hb
      dsimp only at x0 x1 x2 x3 x4 x5 x6 x7 x8 x9
      go_wp2_with fail
      (try simp only [Exit.inBlock, Exit.then])
      refine bodyPost_ret (v := .tuple #[.agg (pF (v.place k, ⟨a, c⟩)).toArray, .bool true]) (by simp [pF, results, Tryz.results13, go_sem, x0, x1, x2, x3, x4, x5, x6, x7, x8, x9]) rfl ?_
      exact ⟨a, c, by rw [HS.out], by rw [HS.out]; exact HD.out⟩
end
end Go.Proofs.YtmgnekjhlfghaaaGreat

/-
  The document's state: View.
-/
namespace Go.Proofs.YtmgnekjhlfghaaaGreat
open Go.RowKit
set_option linter.unusedVariables false
set_option linter.unusedSimpArgs false

/-- A place's log, read alone. -/
def lgP (x : PV × TS) : Thing := lgR (x.1.log, x.2)
def dvL (a : Option Addr) (c : Nat) (l : List (PV × TS)) : List Thing := RoT 53 10 (.slice a l.length c) l.length (pL.cells l) :: l.map lgP
theorem dvL_loc (a : Option Addr) (c : Nat) (l : List (PV × TS)) : ∀ A, A ∈ dvL a c l → Loc A := by
  intro A hA
  simp only [dvL, List.mem_cons, List.mem_map] at hA
  rcases hA with rfl | ⟨x, _, rfl⟩
  · exact inferInstance
  · exact (inferInstance : Loc (RoT _ _ _ _ _))
/-- The document's view, as one thing. -/
def DvT (a : Option Addr) (c : Nat) (l : List (PV × TS)) : Thing := fun w F G => PackG (dvL a c l) w F G
instance (a : Option Addr) (c : Nat) (l : List (PV × TS)) : Loc (DvT a c l) where
  keep := fun h hF hd hg => PackG.keep h hF hd hg
  lt := fun h => PackG.lt h
/-- View's things. -/
def tvT (rb vb : Nat) (res : Int) (vl vr : Value) (l : List (PV × TS)) : List Thing :=
  [BlkT rb (.cells #[.int .i64 0, .slice none 0 0] 34), BlkT vb (.cells #[.int .i64 res, vl] 34), RowT 53 10 vr l.length (pL.cells l)] ++ l.map lgP

section
variable {W : Base} {w : World} {R : List Thing} {X : Nat} {v : SV} {rb vb : Nat} {res : Int} {vl vr : Value} {l : List (PV × TS)}
theorem St.dvIn (H : St W w R) (i : Nat) {a : Option Addr} {c : Nat} (hi : R[i]? = some (DvT a c l)) : PlIn w a l.length c l := by
  obtain ⟨F, G, hA, hB⟩ := H.unpack2 i hi
  have h1 := hB _ hA
  refine ⟨h1.roLay pL ((R.set i NilT).length + 0) (by rw [get_behind]; rfl), rfl, fun x hx => ?_⟩
  obtain ⟨k, hk, rfl⟩ := List.getElem_of_mem hx
  have h2 := h1.roLay sL ((R.set i NilT).length + (k + 1)) (l := l[k].1.log) (a := l[k].2.a) (c := l[k].2.c) (e := 9) (by
    rw [get_behind]
    show (l.map lgP)[k]? = _
    rw [List.getElem?_map, List.getElem?_eq_getElem hk]
    rfl)
  exact h2
theorem St.tvBlk {T : List Thing} (H : St W w ((R ++ tvT rb vb res vl vr l) ++ T)) : w.heap[rb]? = some (.cells #[.int .i64 0, .slice none 0 0] 34 (0, 0)) ∧ w.heap[vb]? = some (.cells #[.int .i64 res, vl] 34 (0, 0)) := by
  rw [List.append_assoc] at H
  exact ⟨H.blk (R.length + 0) (by rw [get_behind]; rfl), H.blk (R.length + 1) (by rw [get_behind]; rfl)⟩
theorem St.tvSnoc {x : PV × TS} {v' : Value} {n : Nat} {T : List Thing} (hn : n = (l ++ [x]).length) (H : St W w (R ++ (tvT rb vb res vl vr l ++ (lgP x :: T)).set 2 (RowT 53 10 v' n (pL.cells (l ++ [x]))))) : St W w (R ++ tvT rb vb res vl v' (l ++ [x])) := by
  subst hn
  have e : R ++ (tvT rb vb res vl vr l ++ (lgP x :: T)).set 2 (RowT 53 10 v' (l ++ [x]).length (pL.cells (l ++ [x]))) = (R ++ tvT rb vb res vl v' (l ++ [x])) ++ T := by
    rw [List.append_assoc]
    congr 1
    simp [tvT]
  rw [e] at H
  exact H.drop
theorem St.tvSet (H : St W w (R ++ tvT rb vb res vl vr l)) (u : Value) : St W (w.setCell ⟨vb, 1, none⟩ u) (R ++ tvT rb vb res u vr l) := by
  have h1 := H.setBlk (R.length + 1) (by rw [get_behind]; rfl) 1 u
  rw [set_behind] at h1
  exact h1
theorem St.tvEnd {a : Option Addr} {c : Nat} (u0 u1 : Value) (H : St W w (R ++ tvT rb vb res vl (.slice a l.length c) l)) : St W ((w.setCell ⟨rb, 0, none⟩ u0).setCell ⟨rb, 1, none⟩ u1) (R ++ [DvT a c l]) := by
  have h1 := H.setBlk (R.length + 0) (by rw [get_behind]; rfl) 0 u0
  have h2 := h1.setBlk (R.length + 0) (by rw [set_behind, get_behind]; rfl) 1 u1
  rw [List.set_set, set_behind] at h2
  have h3 := h2.ro (R.length + 2) (by rw [get_behind]; rfl)
  rw [set_behind] at h3
  have h4 : St W ((w.setCell ⟨rb, 0, none⟩ u0).setCell ⟨rb, 1, none⟩ u1) (R ++ dvL a c l) := h3.sub (B := [BlkT rb (.cells #[u0, u1] 34), BlkT vb (.cells #[.int .i64 res, vl] 34)]) (by
    rw [List.append_assoc]
    refine List.Perm.append_left _ ?_
    exact List.perm_append_comm (l₁ := [_, _]) (l₂ := dvL a c l))
  exact h4.packEnd2 (dvL_loc a c l) (B := DvT a c l) inferInstance (fun F G h => h)
set_option maxHeartbeats 1000000 in
set_option maxRecDepth 100000 in
theorem st_tview (H : St W w R) (i : Nat) (hi : R[i]? = some (XsT X v)) (hv : v.wf) :
    Calls Tryz.prog 16 #[.pointer (some ⟨X, 0, none⟩)] w fun e w' => ∃ (a : Option Addr) (c : Nat) (l : List (PV × TS)), e = .returned (.agg #[.int .i64 v.res, .slice a l.length c]) ∧ l.map (·.1) = v.places ∧ St W w' (R ++ [DvT a c l]) := by
  have HI := hid hi
  have HV := hid hv
  obtain ⟨Q, pv, lv, ll, hll, H1⟩ := H.xs i hi
  have b1 := H1.blk ((R.set i NilT).length + 0) (by rw [get_behind]; rfl)
  have x0 := cell_blk (i := 0) b1 rfl
  have hlX := lt_of_block b1
  obtain ⟨rb, hrb⟩ : ∃ rb, w.heap.size = rb := ⟨_, rfl⟩
  have HH := hid (show St W ((w.alloc (.cells #[.int .i64 0, .slice none 0 0] 34)).alloc (.cells #[.int .i64 v.res, .slice none 0 0] 34)) (R ++ tvT rb (rb + 1) v.res (.slice none 0 0) (.slice none 0 0) []) from by
    have h := ((H.alloc (.cells #[.int .i64 0, .slice none 0 0] 34)).allocAt (.cells #[.int .i64 v.res, .slice none 0 0] 34) (w.heap.size + 1) (by simp)).new (A := Row1 53 10 (.slice none 0 0) 0 (pL.cells [])) (F := []) (Fr.refl _ _) inferInstance ⟨rfl, World.ownsRow_nil _ _ _ _⟩ (by simp)
    rw [List.append_assoc, List.append_assoc, hrb] at h
    exact h)
  have hne : rb ≠ rb + 1 := by omega
  obtain ⟨vb, hvb⟩ : ∃ vb, rb + 1 = vb := ⟨_, rfl⟩
  have HRB := hid (And.intro hrb hvb)
  rw [hvb] at HH hne
  clear H H1 b1 hll hi hv hrb hvb
  go_enter Tryz.func16, Tryz.ntmps16
  go_wp2_with fail
  rw [HRB.out.1, HRB.out.2]
  go_loopw [4] (fun iv wr => ∃ (k : Nat) (u : Value) (l : List (PV × TS)), k ≤ v.q.rows.length ∧ iv = .int .i64 ((k : Int) + 1) ∧ Hid (l.length = k ∧ l.map (·.1) = (List.range k).map v.place ∧ St W wr (R ++ tvT rb vb v.res u u l))) (fun iv _ => v.q.rows.length + 1 - (intOf iv).toNat)
  case atStart => exact ⟨0, _, [], Nat.zero_le _, rfl, hid ⟨rfl, rfl, HH.out⟩⟩
  case round =>
    clear HH
    obtain ⟨k, u, l, hk, rfl, HL⟩ := hrel
    obtain ⟨Q, pv, lv, ll, hll, H1⟩ := HL.out.2.2.xs i (get_l HI.out)
    obtain ⟨qa, qc, hX⟩ := H1.xq ((((R ++ tvT rb vb v.res u u l)).set i NilT).length + 1) (X := Q) (q := v.q) (by rw [get_behind]; rfl)
    have q1 := hX.c1
    have hlQ := lt_of_block hX.blk
    have b1 := H1.blk (((R ++ tvT rb vb v.res u u l).set i NilT).length + 0) (by rw [get_behind]; rfl)
    have x1 := cell_blk (i := 1) b1 rfl
    have hlX := lt_of_block b1
    have hb := St.tvBlk (T := []) (by rw [List.append_nil]; exact HL.out.2.2)
    have m1 : wr.cell? ⟨vb, 1, none⟩ = some u := cell_blk (i := 1) hb.2 rfl
    have hlv := lt_of_block hb.2
    have hn8 := HV.out.q.n
    have hn8' : v.q.rows.length ≤ 8 := hn8
    clear H1 hll hX b1 hn8
    by_cases hlt : k < v.q.rows.length
    · have HP := hid (st_tplace HL.out.2.2 i (get_l HI.out) HV.out k hlt)
      have HJ := hid hlt
      have hd : decide ((k : Int) + 1 ≤ v.q.rows.length) = true := decide_eq_true (by omega)
      have hk1 : (k : Int) + 1 ≤ v.q.rows.length := by omega
      have hw2 : IntKind.i64.wrap ((k : Int) + 1 + 1) = (k : Int) + 1 + 1 := IntWalk.i64_in _ (by omega)
      obtain ⟨i0, hz, hz0, hz1, hz2⟩ := info_parts info_gp
      have HZ := hid (And.intro hz (And.intro hz0 (And.intro hz1 hz2)))
      have H8 := hid hn8'
      clear hz hz0 hz1 hz2 hlt hk hb hn8'
      go_wp2_with fail
      refine HP.out.mono ?_
      rintro e w3 ⟨a, c, rfl, H3⟩
      have b3 := H3.tvBlk
      have e1 : w3.cell? ⟨vb, 1, none⟩ = some u := cell_blk (i := 1) b3.2 rfl
      have l3 := lt_of_block b3.2
      have H4 := hid (show St W ((w3.alloc (.cells (pF (v.place k, (⟨a, c⟩ : TS))).toArray 53)).alloc (.cells (pF (v.place k, (⟨a, c⟩ : TS))).toArray 53)) ((R ++ tvT rb vb v.res u u l) ++ (lgP (v.place k, (⟨a, c⟩ : TS)) :: [BlkT (w3.heap.size + 1) (.cells (pF (v.place k, (⟨a, c⟩ : TS))).toArray 53)])) from by
        have h := (H3.alloc_ (.cells (pF (v.place k, (⟨a, c⟩ : TS))).toArray 53)).allocAt (.cells (pF (v.place k, (⟨a, c⟩ : TS))).toArray 53) (w3.heap.size + 1) (by simp)
        rw [List.append_assoc] at h; exact h)
      clear b3 H3 m1 x1 q1 hlX hlQ hlv
      unfold pF at H4 ⊢
      go_wp2_with (at_builtin; refine wpAdded H4.out (R.length + 2) rfl (.tmp 27) (.tmp 29) 32 rfl 53 i0 (.agg #[.int .i64 0, .int .i64 0, .int .i64 0, .int .i64 0, .int .i64 0, .int .i64 0, .int .i64 0, .int .u64 0, .string ByteArray.empty, .slice none 0 0]) 10 104 Tryz.underlying32 HZ.out.1 HZ.out.2.1 HZ.out.2.2.1 HZ.out.2.2.2 rfl (by decide) u l.length (pL.cells l) ?qj rfl (some ⟨w3.heap.size + 1, 0, none⟩) 1 1 (fun j => ([.int .i64 (v.place k).r.job, .int .i64 (v.place k).r.st, .int .i64 (v.place k).r.at_, .int .i64 (v.place k).r.ba, .int .i64 (v.place k).r.node, .int .i64 (v.place k).r.life, .int .i64 (v.place k).r.code, .int .u64 (v.place k).r.bits, .string (v.place k).prog, .slice a (v.place k).log.length c] : List Value).getD j undef) rfl (H4.out.blkIn ((R ++ tvT rb vb v.res u u l).length + 1) 10 1 rfl (by decide) (by rw [get_behind]; rfl)) ?q1 ?qm ?qb ?_)
      case qj => rw [List.append_assoc, get_behind]; rfl
      case q1 => exact fun j hj => by have hj : j < 10 := hj; match j, hj with | 0, _ => rfl | 1, _ => rfl | 2, _ => rfl | 3, _ => rfl | 4, _ => rfl | 5, _ => rfl | 6, _ => rfl | 7, _ => rfl | 8, _ => rfl | 9, _ => rfl
      case qm => have := HL.out.1; have := H8.out; have := HJ.out; unfold maxLen; omega
      case qb => have := HL.out.1; have := H8.out; have := HJ.out; omega
      intro a5 c5 w5 H5
      have e5 : pL.cells l ++ ([.int .i64 (v.place k).r.job, .int .i64 (v.place k).r.st, .int .i64 (v.place k).r.at_, .int .i64 (v.place k).r.ba, .int .i64 (v.place k).r.node, .int .i64 (v.place k).r.life, .int .i64 (v.place k).r.code, .int .u64 (v.place k).r.bits, .string (v.place k).prog, .slice a (v.place k).log.length c] : List Value) = pL.cells (l ++ [(v.place k, (⟨a, c⟩ : TS))]) := pL.snoc l (v.place k, (⟨a, c⟩ : TS))
      rw [e5] at H5
      have H6 := St.tvSnoc (by simp) H5
      have b5 := (St.tvBlk (T := []) (by rw [List.append_nil]; exact H6)).2
      have e6 : w5.cell? ⟨vb, 1, none⟩ = some u := cell_blk (i := 1) b5 rfl
      have f6 := free_blk (i := 1) b5
      have l6 := lt_of_block b5
      have H7 := hid (H6.tvSet (.slice a5 (l.length + 1) c5))
      clear H5 H6 b5 e5
      go_wp2_with fail
      go_roundw
      case rel => exact ⟨k + 1, _, l ++ [(v.place k, (⟨a, c⟩ : TS))], HJ.out, by push_cast; rfl, hid ⟨by rw [List.length_append, HL.out.1]; rfl, by rw [List.map_append, HL.out.2.1, List.range_succ, List.map_append]; rfl, H7.out⟩⟩
      case measure => have := HJ.out; simp [intOf]; omega
    · have hke : k = v.q.rows.length := by omega
      have hlp : l.map (·.1) = v.places := by rw [HL.out.2.1, hke]; rfl
      have hd : decide ((k : Int) + 1 ≤ v.q.rows.length) = false := decide_eq_false (by omega)
      have hk1 : ¬ (k : Int) + 1 ≤ v.q.rows.length := by omega
      have hrow : wr.ownsRow 0 53 10 u l.length (pL.cells l) := HL.out.2.2.row (R.length + 2) (by rw [get_behind]; rfl)
      obtain ⟨a, cap, rfl⟩ : ∃ a cap, u = .slice a l.length cap := by
        rcases ownsRow_one hrow with ⟨h1, h2, _⟩ | ⟨g, cap, h1, h2, h3⟩
        · exact ⟨none, 0, by rw [h1, h2]⟩
        · exact ⟨_, cap, h1⟩
      have m0 : wr.cell? ⟨vb, 0, none⟩ = some (.int .i64 v.res) := cell_blk hb.2 rfl
      have m3 : wr.cell? ⟨rb, 0, none⟩ = some (.int .i64 0) := cell_blk hb.1 rfl
      have m4 : wr.cell? ⟨rb, 1, none⟩ = some (.slice none 0 0) := cell_blk hb.1 rfl
      have m5 := free_blk (i := 0) hb.1
      have m6 := free_blk (i := 1) hb.1
      have lrb := lt_of_block hb.1
      have HZ := hid (And.intro hlp (HL.out.2.2.tvEnd (.int .i64 v.res) (.slice a l.length cap)))
      clear hlt hk hke hlp hrow hb
      go_wp2_with fail
      (try simp only [Exit.inBlock, Exit.then])
      refine bodyPost_ret (v := .agg #[.int .i64 v.res, .slice a l.length cap]) (by simp [results, Tryz.results16, go_sem, m0, m1, m3, m4, hne, Ne.symm hne]) rfl ?_
      exact ⟨a, cap, l, rfl, HZ.out.1, HZ.out.2⟩
end
end Go.Proofs.YtmgnekjhlfghaaaGreat

/-
  gafferref02, gafferref08: what is written.
-/
namespace Go.Proofs.YtmgnekjhlfghaaaGreat
open Go.RowKit
set_option linter.unusedVariables false
set_option linter.unusedSimpArgs false

set_option maxHeartbeats 1600000 in
set_option maxRecDepth 100000 in
theorem rnum_walk (w : World) (n : Nat) (hn : n < 18446744073709551616) :
    Calls Tryz.prog 92 #[.int .u64 n] w fun e w' => e = .returned (.string (nf n)) ∧ Fr [] w w' := by
  obtain ⟨i0, hi0, hz0, hz1, hz2⟩ := info_parts info_u8
  have HI := hid (And.intro hi0 (And.intro hz0 (And.intro hz1 hz2)))
  clear hi0 hz0 hz1 hz2
  go_enter Tryz.func92, Tryz.ntmps92
  go_wp2_with fail
  go_loopw [0, 3] (fun nv bv wr => ∃ (m : Nat) (pre : List UInt8), m ≤ n ∧ nv = .int .u64 m ∧ pre ++ Lib.uvarint m = Lib.uvarint n ∧ wr.ownsRow 0 5 1 bv pre.length (Lib.byteCells pre) ∧ (∀ x, x ∈ bv.ownBlock.toList → w.heap.size ≤ x) ∧ Fr [] w wr) (fun nv _ _ => (intOf nv).toNat)
  case atStart => exact ⟨n, [], Nat.le_refl _, rfl, rfl, ⟨by simp [Lib.byteCells], .inr ⟨w.heap.size, 0, #[], rfl, Nat.zero_le _, blk_alloc_at _ _ _ rfl, Nat.le_refl _, by decide, by simp, by simp [Lib.byteCells]⟩⟩, by simp [Value.ownBlock], (Fr.refl _ _).alloc _⟩
  case round =>
    obtain ⟨m, pre, hm, rfl, hpre, ho, hb, hF⟩ := hrel
    have hl10 := Lib.uvarint_length64 hn
    have hlp : pre.length ≤ 10 := by
      have := congrArg List.length hpre
      simp at this; omega
    obtain ⟨a, c, rfl, _, _⟩ := ownsRow_In ho (fun j => (Lib.byteCells pre).getD j undef) (fun j hj => by simp [Lib.byteCells, show j < pre.length by omega])
    have HZ := hid (And.intro hpre (And.intro ho (And.intro hb hF)))
    clear hpre ho hb hF
    by_cases hbig : 127 < m
    · have HU := hid (Lib.uvarint_big (x := m) (by omega))
      have h128 : (128 : Int) ≤ m := by omega
      go_wp2_with (at_builtin; refine wpList_append_blk rfl (.tmp 7) (.tmp 12) 94 rfl 5 i0 (.int .u8 0) 1 1 Tryz.underlying94 HI.out.1 HI.out.2.1 HI.out.2.2.1 HI.out.2.2.2 rfl (by decide) (.slice a pre.length c) pre.length (Lib.byteCells pre) rfl (ownsRow_keep (S := []) HZ.out.2.1 ((Fr.refl [] _).alloc _) (by simp)) ⟨wr.heap.size, 0, none⟩ 1 1 [.int .u8 ((m : Int) % 128 + 128)] rfl rfl ?qb ?qc ?qd ?qe ?_)
      case qb => exact news_alloc wr [.int .u8 ((m : Int) % 128 + 128)] _
      case qc => intro u hu; simp at hu; subst hu; rfl
      case qd => unfold maxLen; omega
      case qe => omega
      intro v w1 ho hF hb hn2
      rw [show (m : Int) % 128 + 128 = ((m % 128 + 128 : Nat) : Int) by omega, ← Lib.byteCells_snoc pre (show m % 128 + 128 < 256 by omega)] at ho
      obtain ⟨g, c', rfl, _⟩ := ownsRow_shape ho (by omega)
      have hFw : Fr [] w w1 := ((HZ.out.2.2.2).alloc (.cells #[.int .u8 ((m : Int) % 128 + 128)] 5)).step hF (fun x hx => .inr (HZ.out.2.2.1 x hx))
      have hbb : ∀ x, x ∈ (Value.slice (some ⟨g, 0, none⟩) (pre.length + 1) c').ownBlock.toList → w.heap.size ≤ x := fun x hx => by
        rcases hb x (by simpa using hx) with h | h
        · exact HZ.out.2.2.1 x (by simpa using h)
        · have := HZ.out.2.2.2.size
          omega
      have H2 := hid (And.intro ho (And.intro hFw hbb))
      clear ho hF hb hn2 hFw hbb
      go_wp2_with fail
      go_roundw
      case rel => exact ⟨m / 128, pre ++ [(m % 128 + 128).toUInt8], by omega, by go_num, by rw [← HZ.out.1, HU.out]; simp, by simpa using H2.out.1, by simpa using H2.out.2.2, H2.out.2.1⟩
      case measure => simp [intOf]; omega
    · have HU := hid (Lib.uvarint_small (x := m) (by omega))
      have hm8 : (m : Int) % 256 = (m : Int) := by omega
      have h128 : ¬ (128 : Int) ≤ m := by omega
      go_wp2_with (at_builtin; refine wpList_append_blk rfl (.tmp 16) (.tmp 19) 94 rfl 5 i0 (.int .u8 0) 1 1 Tryz.underlying94 HI.out.1 HI.out.2.1 HI.out.2.2.1 HI.out.2.2.2 rfl (by decide) (.slice a pre.length c) pre.length (Lib.byteCells pre) rfl (ownsRow_keep (S := []) HZ.out.2.1 ((Fr.refl [] _).alloc _) (by simp)) ⟨wr.heap.size, 0, none⟩ 1 1 [.int .u8 m] rfl rfl ?qb ?qc ?qd ?qe ?_)
      case qc => rfl
      case qd => unfold maxLen; omega
      case qe => omega
      intro v w1 ho hF hb hn2
      rw [← Lib.byteCells_snoc pre (show m < 256 by omega)] at ho
      obtain ⟨g, c', rfl, _⟩ := ownsRow_shape ho (by omega)
      have hFw : Fr [] w w1 := ((HZ.out.2.2.2).alloc (.cells #[.int .u8 m] 5)).step hF (fun x hx => .inr (HZ.out.2.2.1 x hx))
      have H2 := hid (And.intro ho hFw)
      clear ho hF hb hn2 hFw
      go_wp2_with (refine wpList_text' rfl 94 9 (.tmp 20) rfl 5 Tryz.underlying94 Tryz.underlying5 Tryz.underlying9 g 0 (pre.length + 1) c' (pre ++ [m.toUInt8]) (by simp) rfl (ownsRow_cells H2.out.1) ?_)
      go_wp2_with fail
      go_ret
      exact ⟨by unfold nf; rw [← HZ.out.1, HU.out]; rfl, H2.out.2⟩

theorem rtext_walk (w : World) (s : ByteArray) (hs : s.size ≤ 140737488355328) :
    Calls Tryz.prog 44 #[.string s] w fun e w' => e = .returned (.string (tf s)) ∧ Fr [] w w' := by
  have hl : (nf s.size).size ≤ 10 := nf_le _ (by omega)
  have hl2 : ¬ 9223372036854775807 < (nf s.size).size + s.size := by omega
  have HN := hid (fun w => rnum_walk w s.size (by omega))
  go_enter Tryz.func44, Tryz.ntmps44
  go_wp2_with fail
  refine (HN.out _).mono ?_
  rintro e w1 ⟨rfl, hF⟩
  go_wp2_with fail
  go_ret
  exact ⟨rfl, hF⟩

/-- The first bytes of 64 bits. -/
def bfL (n k : Nat) : List UInt8 := (List.range k).map (bitB n)
theorem bfL_snoc (n k : Nat) : bfL n k ++ [bitB n k] = bfL n (k + 1) := by simp [bfL, List.range_succ]
theorem bfL_8 (n : Nat) : (⟨(bfL n 8).toArray⟩ : ByteArray) = bf n := rfl

set_option maxHeartbeats 1600000 in
set_option maxRecDepth 100000 in
theorem rbits_walk (w : World) (n : Nat) (hn : n < 18446744073709551616) :
    Calls Tryz.prog 43 #[.int .u64 n] w fun e w' => e = .returned (.string (bf n)) ∧ Fr [] w w' := by
  obtain ⟨i0, hi0, hz0, hz1, hz2⟩ := info_parts info_u8
  have HI := hid (And.intro hi0 (And.intro hz0 (And.intro hz1 hz2)))
  clear hi0 hz0 hz1 hz2
  go_enter Tryz.func43, Tryz.ntmps43
  go_wp2_with fail
  go_loopw [3, 4] (fun bv iv wr => ∃ (k : Nat), k ≤ 8 ∧ iv = .int .i64 (56 - 8 * (k : Int)) ∧ wr.ownsRow 0 5 1 bv k (Lib.byteCells (bfL n k)) ∧ (∀ x, x ∈ bv.ownBlock.toList → w.heap.size ≤ x) ∧ Fr [] w wr) (fun _ iv _ => (intOf iv + 8).toNat)
  case atStart => exact ⟨0, by omega, rfl, ⟨by simp [Lib.byteCells, bfL], .inr ⟨w.heap.size, 0, #[], rfl, Nat.zero_le _, blk_alloc_at _ _ _ rfl, Nat.le_refl _, by decide, by simp, by simp [Lib.byteCells, bfL]⟩⟩, by simp [Value.ownBlock], (Fr.refl _ _).alloc _⟩
  case round =>
    obtain ⟨k, hk, rfl, ho, hb, hF⟩ := hrel
    have hlen : (bfL n k).length = k := by simp [bfL]
    obtain ⟨a, c, rfl, _, _⟩ := ownsRow_In ho (fun j => (Lib.byteCells (bfL n k)).getD j undef) (fun j hj => by
      rw [List.getD_eq_getElem?_getD, List.getElem?_eq_getElem (by rw [Lib.byteCells_length, hlen]; omega)]; rfl)
    have HZ := hid (And.intro ho (And.intro hb (And.intro hF hlen)))
    clear ho hb hF hlen
    by_cases hlt : k < 8
    · have h0 : (0 : Int) ≤ 56 - 8 * (k : Int) := by omega
      have hbv : ((n : Int) / 2 ^ (56 - 8 * k) % 256) = ((bitB n k).toNat : Int) := by rw [bitB_nat]; push_cast; rfl
      have HB := hid hbv
      clear hbv
      go_wp2_with (at_builtin; refine wpList_append_blk rfl (.tmp 10) (.tmp 15) 94 rfl 5 i0 (.int .u8 0) 1 1 Tryz.underlying94 HI.out.1 HI.out.2.1 HI.out.2.2.1 HI.out.2.2.2 rfl (by decide) (.slice a k c) k (Lib.byteCells (bfL n k)) rfl (ownsRow_keep (S := []) HZ.out.1 ((Fr.refl [] _).alloc _) (by simp)) ⟨wr.heap.size, 0, none⟩ 1 1 [.int .u8 ((n : Int) / 2 ^ (56 - 8 * k) % 256)] rfl rfl ?qb ?qc ?qd ?qe ?_)
      case qb => exact news_alloc wr [.int .u8 ((n : Int) / 2 ^ (56 - 8 * k) % 256)] _
      case qc => intro u hu; simp at hu; subst hu; rfl
      case qd => unfold maxLen; omega
      case qe => omega
      intro v w1 ho hF hb hn2
      rw [HB.out, show Lib.byteCells (bfL n k) ++ [Value.int .u8 ((bitB n k).toNat : Int)] = Lib.byteCells (bfL n (k + 1)) by rw [← bfL_snoc, Lib.byteCells_append]; rfl] at ho
      obtain ⟨g, c', rfl, _⟩ := ownsRow_shape ho (by omega)
      have hFw : Fr [] w w1 := ((HZ.out.2.2.1).alloc (.cells #[.int .u8 ((n : Int) / 2 ^ (56 - 8 * k) % 256)] 5)).step hF (fun x hx => .inr (HZ.out.2.1 x hx))
      have hbb : ∀ x, x ∈ (Value.slice (some ⟨g, 0, none⟩) (k + 1) c').ownBlock.toList → w.heap.size ≤ x := fun x hx => by
        rcases hb x (by simpa using hx) with h | h
        · exact HZ.out.2.1 x (by simpa using h)
        · have := HZ.out.2.2.1.size
          omega
      have H2 := hid (And.intro ho (And.intro hFw hbb))
      clear ho hF hb hn2 hFw hbb
      go_wp2_with fail
      go_roundw
      case rel => exact ⟨k + 1, by omega, by go_num, H2.out.1, by simpa using H2.out.2.2, H2.out.2.1⟩
      case measure => simp [intOf]; omega
    · obtain rfl : k = 8 := by omega
      have ho := HZ.out.1
      obtain ⟨g, c', hgc, _⟩ := ownsRow_shape ho (by omega)
      simp only [Value.slice.injEq] at hgc
      obtain ⟨rfl, _, rfl⟩ := hgc
      have ho := hid ho
      go_wp2_with (refine wpList_text' rfl 94 9 (.tmp 17) rfl 5 Tryz.underlying94 Tryz.underlying5 Tryz.underlying9 g 0 8 c (bfL n 8) (by simp [bfL]) rfl (ownsRow_cells ho.out) ?_)
      go_wp2_with fail
      go_ret
      exact ⟨rfl, HZ.out.2.2.1⟩
end Go.Proofs.YtmgnekjhlfghaaaGreat

/-
  The document's state: Bytes: the walk.
-/
namespace Go.Proofs.YtmgnekjhlfghaaaGreat
open Go.RowKit
set_option linter.unusedVariables false
set_option linter.unusedSimpArgs false

/-- What Bytes reads. -/
structure XsIn (w : World) (X Q : Nat) (v : SV) (qa : Option Addr) (qc : Nat) (pa : Option Addr) (pc : Nat) (la : Option Addr) (lc : Nat) (ll : List (List ByteArray × TS)) : Prop where
  blk : w.heap[X]? = some (.cells #[.int .i64 v.res, .pointer (some ⟨Q, 0, none⟩), .slice pa v.progs.length pc, .slice la ll.length lc] 44 (0, 0))
  q : XqIn w Q v.q qa qc
  p : In w 1 pa v.progs.length pc (sL.at_ v.progs)
  l : In w 1 la ll.length lc (tL.at_ ll)
  one : ∀ x, x ∈ ll → In w 1 x.2.a x.1.length x.2.c (sL.at_ x.1)
  hll : ll.map (·.1) = v.logs
theorem XsIn.fr0 {w w' : World} {X Q : Nat} {v : SV} {qa pa la : Option Addr} {qc pc lc : Nat} {ll : List (List ByteArray × TS)} (h : XsIn w X Q v qa qc pa pc la lc ll) (hF : Fr [] w w') : XsIn w' X Q v qa qc pa pc la lc ll :=
  ⟨hF.keep h.blk (by simp), h.q.fr0 hF, h.p.fr0 hF, h.l.fr0 hF, fun x hx => (h.one x hx).fr0 hF, h.hll⟩
theorem St.xsIn {W : Base} {w : World} {R : List Thing} (H : St W w R) (i : Nat) {X : Nat} {v : SV} (hi : R[i]? = some (XsT X v)) : ∃ Q qa qc pa pc la lc ll, XsIn w X Q v qa qc pa pc la lc ll := by
  obtain ⟨Q, pv, lv, ll, hll, H1⟩ := H.xs i hi
  obtain ⟨pa, pc, rfl⟩ := H1.roShape ((R.set i NilT).length + 2) (by rw [get_behind]; rfl)
  obtain ⟨la, lc, rfl⟩ := H1.roShape ((R.set i NilT).length + 3) (by rw [get_behind]; rfl)
  obtain ⟨qa, qc, hX⟩ := H1.xq ((R.set i NilT).length + 1) (X := Q) (q := v.q) (by rw [get_behind]; rfl)
  refine ⟨Q, qa, qc, pa, pc, la, lc, ll, H1.blk ((R.set i NilT).length + 0) (by rw [get_behind]; rfl), hX, H1.roLay sL ((R.set i NilT).length + 2) (by rw [get_behind]; rfl), H1.roLay tL ((R.set i NilT).length + 3) (by rw [get_behind]; rfl), fun x hx => ?_, hll⟩
  obtain ⟨k, hk⟩ := List.mem_iff_getElem?.1 hx
  exact St.roLay sL (R := (R.set i NilT ++ xsL X Q v.q v.res (.slice pa v.progs.length pc) v.progs (.slice la ll.length lc) ll) ++ []) (by rw [List.append_nil]; exact H1) ((R.set i NilT).length + (4 + k)) (xs_getL hk)
theorem XsIn.c0 {w : World} {X Q : Nat} {v : SV} {qa pa la : Option Addr} {qc pc lc : Nat} {ll : List (List ByteArray × TS)} (h : XsIn w X Q v qa qc pa pc la lc ll) : w.cell? ⟨X, 0, none⟩ = some (.int .i64 v.res) ∧ w.cell? ⟨X, 1, none⟩ = some (.pointer (some ⟨Q, 0, none⟩)) ∧ w.cell? ⟨X, 2, none⟩ = some (.slice pa v.progs.length pc) ∧ w.cell? ⟨X, 3, none⟩ = some (.slice la ll.length lc) ∧ w.cell? ⟨Q, 1, none⟩ = some (.slice qa v.q.rows.length qc) :=
  ⟨cell_blk h.blk rfl, cell_blk h.blk rfl, cell_blk h.blk rfl, cell_blk h.blk rfl, h.q.c1⟩
theorem XsIn.log {w : World} {X Q : Nat} {v : SV} {qa pa : Option Addr} {lg lo qc pc lc k : Nat} {ll : List (List ByteArray × TS)} (h : XsIn w X Q v qa qc pa pc (some ⟨lg, lo, none⟩) lc ll) (hk : k < ll.length) {y : List ByteArray × TS} (hy : ll[k]? = some y) : w.cell? ⟨lg, lo + k, none⟩ = some (.slice y.2.a y.1.length y.2.c) := by
  have h1 := h.l.cell lg lo rfl k (by show k < ll.length * 1; omega)
  rw [gt_at hk, show tL.nth ll k = y by have := tL.nth_get hk; rw [hy] at this; exact (Option.some.inj this).symm] at h1
  exact h1
theorem tnum_walk (w : World) (n : Nat) (hn : n < 9223372036854775808) :
    Calls Tryz.prog 42 #[.int .i64 n] w fun e w' => e = .returned (.string (nf n)) ∧ Fr [] w w' := by
  go_enter Tryz.func42, Tryz.ntmps42
  go_wp2_with (go_at_call 92; refine (rnum_walk _ n (by omega)).mono ?_; rintro e w1 ⟨rfl, hF⟩)
  go_wp2_with fail
  go_ret
  exact ⟨rfl, hF⟩
theorem tnum_i (w : World) (z : Int) (h0 : 0 ≤ z) (h1 : z < 9223372036854775808) :
    Calls Tryz.prog 42 #[.int .i64 z] w fun e w' => e = .returned (.string (nf z.toNat)) ∧ Fr [] w w' := by
  have := tnum_walk w z.toNat (by omega)
  rwa [show ((z.toNat : Nat) : Int) = z by omega] at this
theorem rbits_i (w : World) (z : Int) (h0 : 0 ≤ z ∧ z < 18446744073709551616) :
    Calls Tryz.prog 43 #[.int .u64 z] w fun e w' => e = .returned (.string (bf z.toNat)) ∧ Fr [] w w' := by
  have := rbits_walk w z.toNat (by omega)
  rwa [show ((z.toNat : Nat) : Int) = z by omega] at this
theorem bl_toArray {s : ByteArray} {l : List UInt8} (h : bl s = l) : s = ⟨l.toArray⟩ := by rw [← h, mk_bl]
set_option maxHeartbeats 1000000 in
set_option maxRecDepth 100000 in
theorem tbytes_walk (w : World) {X Q : Nat} {v : SV} {qa pa la : Option Addr} {qc pc lc : Nat} {ll : List (List ByteArray × TS)} (h : XsIn w X Q v qa qc pa pc la lc ll) (hv : v.wf) :
    Calls Tryz.prog 18 #[.pointer (some ⟨X, 0, none⟩)] w fun e w' => e = .returned (.string ⟨v.bytes.toArray⟩) ∧ Fr [] w w' := by
  have HV := hid hv
  have HX := hid h
  have hn8 : v.q.rows.length ≤ 8 := hv.q.n
  have hres := hv.res
  have hnp := hv.np
  have hlen : ll.length = v.q.rows.length := by rw [← hv.nl, ← h.hll, List.length_map]
  have HN := hid (And.intro hn8 (And.intro hres (And.intro hnp hlen)))
  have hN0 := hid (fun w => tnum_i w v.res hres.1 (by omega))
  obtain ⟨m, hm⟩ : ∃ m : Nat, v.q.rows.length = m := ⟨_, rfl⟩
  have hN1 := hid (fun w => tnum_walk w m (by omega))
  obtain ⟨b1, b2, b3, b4, b5⟩ := h.c0
  rw [hm] at b5
  have HM := hid hm
  have hlX := lt_of_block h.blk
  have hlQ := lt_of_block h.q.blk
  obtain ⟨s1, hs1⟩ : ∃ s1, nf v.res.toNat = s1 := ⟨_, rfl⟩
  obtain ⟨s2, hs2⟩ : ∃ s2, nf m = s2 := ⟨_, rfl⟩
  rw [hs1] at hN0
  rw [hs2] at hN1
  have hhead : bl (s1 ++ s2) = v.head := by rw [← hs1, ← hs2, ← hm, ← hnp]; rfl
  have hsz := pre_le (l := []) (s := s1 ++ s2) hv (by rw [hhead]; exact List.prefix_append _ _)
  rw [ByteArray.size_append] at hsz
  have hcat : ¬ 9223372036854775807 < s1.size + s2.size := by simp at hsz; omega
  have HH := hid hhead
  have HCC := hid (show ∀ wx, Fr [] w wx → wx.cell? ⟨X, 0, none⟩ = some (.int .i64 v.res) ∧ wx.cell? ⟨X, 1, none⟩ = some (.pointer (some ⟨Q, 0, none⟩)) ∧ wx.cell? ⟨Q, 1, none⟩ = some (.slice qa m qc) from fun wx hF => ⟨hF.cell0 b1, hF.cell0 b2, hF.cell0 b5⟩)
  have HFr := hid (Fr.refl [] w).drew
  have hNow := hid (HCC.out _ HFr.out)
  clear hv h hn8 hres hnp hlen hm hs1 hs2 hhead hsz b3 b4
  go_enter Tryz.func18, Tryz.ntmps18
  go_wp2_with fail
  go_region_held3 (fun wx : World => wx.cell? ⟨X, 0, none⟩ = some (.int .i64 v.res) ∧ wx.cell? ⟨X, 1, none⟩ = some (.pointer (some ⟨Q, 0, none⟩)) ∧ wx.cell? ⟨Q, 1, none⟩ = some (.slice qa m qc)) ((first | with_reducible exact hNow.out))
    (first | (go_at_call 42; (first | with_reducible refine (hN0.out _).mono ?_ | with_reducible refine (hN1.out _).mono ?_); rintro e w2 ⟨rfl, hF⟩; have HFr := hid (HFr.out.trans hF); have hNow := hid (HCC.out _ HFr.out); clear hF))
  clear hNow HCC hN0 hN1 hcat b1 b2 b5
  go_wp2_with fail
  go_loopw [3, 4] (fun ov iv wr => ∃ (k : Nat) (s : ByteArray), k ≤ m ∧ iv = .int .i64 k ∧ ov = .string s ∧ Hid (bl s = v.head ++ (List.range k).flatMap v.job ∧ Fr [] w wr)) (fun _ iv _ => m - (intOf iv).toNat)
  case atStart => exact ⟨0, _, Nat.zero_le _, rfl, rfl, hid ⟨by rw [HH.out]; simp, HFr.out⟩⟩
  case round =>
    clear HFr
    obtain ⟨k, s, hk, rfl, rfl, HK⟩ := hrel
    have hX := HX.out.fr0 HK.out.2
    obtain ⟨b1, b2, b3, b4, b5⟩ := hX.c0
    rw [HM.out] at b5
    have hlX := lt_of_block hX.blk
    have hlQ := lt_of_block hX.q.blk
    by_cases hlt : k < m
    · have hkr : k < v.q.rows.length := by rw [HM.out]; exact hlt
      obtain ⟨qb, qo, rfl⟩ := hX.q.inn.sm (by omega)
      obtain ⟨r, hr⟩ : ∃ r, qL.nth v.q.rows k = r := ⟨_, rfl⟩
      obtain ⟨r0, r1, r2, r3, r4, r5, r6, r7⟩ := qrow_cells hX.q.inn k hkr
      rw [hr] at r0 r1 r2 r3 r4 r5 r6 r7
      have hbl := World.block_lt_of_cell? _ _ r0
      simp only at hbl
      have HF := hid (by have := row_facts HV.out hkr; rw [hr] at this; exact this : (∀ n, n ∈ rowN r → 0 ≤ n ∧ n ≤ 1099511627776) ∧ 0 ≤ r.bits ∧ r.bits < 18446744073709551616)
      have HR := hid hr
      have HKR := hid hkr
      have hbx : (wr.alloc (qO r)).heap[wr.heap.size]? = some (qO r) := blk_alloc_at _ _ _ rfl
      have hN1 := hid (fun w => tnum_i w r.st (HF.out.1 r.st (by simp [rowN])).1 (by have := (HF.out.1 r.st (by simp [rowN])).2; omega))
      obtain ⟨s1, hs1⟩ : ∃ s1, nf r.st.toNat = s1 := ⟨_, rfl⟩
      rw [hs1] at hN1
      have hN2 := hid (fun w => tnum_i w r.at_ (HF.out.1 r.at_ (by simp [rowN])).1 (by have := (HF.out.1 r.at_ (by simp [rowN])).2; omega))
      obtain ⟨s2, hs2⟩ : ∃ s2, nf r.at_.toNat = s2 := ⟨_, rfl⟩
      rw [hs2] at hN2
      have hN3 := hid (fun w => tnum_i w r.ba (HF.out.1 r.ba (by simp [rowN])).1 (by have := (HF.out.1 r.ba (by simp [rowN])).2; omega))
      obtain ⟨s3, hs3⟩ : ∃ s3, nf r.ba.toNat = s3 := ⟨_, rfl⟩
      rw [hs3] at hN3
      have hN4 := hid (fun w => tnum_i w r.node (HF.out.1 r.node (by simp [rowN])).1 (by have := (HF.out.1 r.node (by simp [rowN])).2; omega))
      obtain ⟨s4, hs4⟩ : ∃ s4, nf r.node.toNat = s4 := ⟨_, rfl⟩
      rw [hs4] at hN4
      have hN5 := hid (fun w => tnum_i w r.life (HF.out.1 r.life (by simp [rowN])).1 (by have := (HF.out.1 r.life (by simp [rowN])).2; omega))
      obtain ⟨s5, hs5⟩ : ∃ s5, nf r.life.toNat = s5 := ⟨_, rfl⟩
      rw [hs5] at hN5
      have hN6 := hid (fun w => tnum_i w r.code (HF.out.1 r.code (by simp [rowN])).1 (by have := (HF.out.1 r.code (by simp [rowN])).2; omega))
      obtain ⟨s6, hs6⟩ : ∃ s6, nf r.code.toNat = s6 := ⟨_, rfl⟩
      rw [hs6] at hN6
      have hN7 := hid (fun w => rbits_i w r.bits HF.out.2)
      obtain ⟨s7, hs7⟩ : ∃ s7, bf r.bits.toNat = s7 := ⟨_, rfl⟩
      rw [hs7] at hN7
      have hj6 : bl (s1 ++ s2 ++ s3 ++ s4 ++ s5 ++ s6) = jobN v k 6 := by
        unfold jobN
        rw [HR.out, List.take_of_length_le (by simp [rowN])]
        simp only [rowN, List.flatMap_cons, List.flatMap_nil, hs1, hs2, hs3, hs4, hs5, hs6, bl_app, List.append_nil, List.append_assoc]
      have hj7 : bl (s1 ++ s2 ++ s3 ++ s4 ++ s5 ++ s6 ++ s7) = jobN v k 6 ++ bl s7 := by rw [bl_app, hj6]
      have hsz := pre_le (l := bl s) (s := s1 ++ s2 ++ s3 ++ s4 ++ s5 ++ s6 ++ s7) HV.out (by
        rw [HK.out.1, hj7]
        refine pre_job hkr ?_
        refine List.IsPrefix.trans ?_ (jobT_pre v k 0)
        unfold jobT jobM
        refine (List.prefix_append_right_inj _).2 ?_
        rw [HR.out, hs7, bl_app, bl_app, List.append_assoc, List.append_assoc]
        exact List.prefix_append _ _)
      rw [bl_len] at hsz
      simp only [ByteArray.size_append] at hsz
      have c1 : ¬ 9223372036854775807 < s1.size + s2.size := by omega
      have c2 : ¬ 9223372036854775807 < (s1 ++ s2).size + s3.size := by simp only [ByteArray.size_append]; omega
      have d2 : ¬ 9223372036854775807 < s1.size + s2.size + s3.size := by omega
      have c3 : ¬ 9223372036854775807 < (s1 ++ s2 ++ s3).size + s4.size := by simp only [ByteArray.size_append]; omega
      have d3 : ¬ 9223372036854775807 < s1.size + s2.size + s3.size + s4.size := by omega
      have c4 : ¬ 9223372036854775807 < (s1 ++ s2 ++ s3 ++ s4).size + s5.size := by simp only [ByteArray.size_append]; omega
      have d4 : ¬ 9223372036854775807 < s1.size + s2.size + s3.size + s4.size + s5.size := by omega
      have c5 : ¬ 9223372036854775807 < (s1 ++ s2 ++ s3 ++ s4 ++ s5).size + s6.size := by simp only [ByteArray.size_append]; omega
      have d5 : ¬ 9223372036854775807 < s1.size + s2.size + s3.size + s4.size + s5.size + s6.size := by omega
      have c6 : ¬ 9223372036854775807 < (s1 ++ s2 ++ s3 ++ s4 ++ s5 ++ s6).size + s7.size := by simp only [ByteArray.size_append]; omega
      have d6 : ¬ 9223372036854775807 < s1.size + s2.size + s3.size + s4.size + s5.size + s6.size + s7.size := by omega
      have c7 : ¬ 9223372036854775807 < s.size + (s1 ++ s2 ++ s3 ++ s4 ++ s5 ++ s6 ++ s7).size := by simp only [ByteArray.size_append]; omega
      have d7 : ¬ 9223372036854775807 < s.size + (s1.size + s2.size + s3.size + s4.size + s5.size + s6.size + s7.size) := by omega
      have HJ := hid (And.intro hj6 (And.intro hj7 hs7))
      have HB := hid (show Fr [] w (wr.alloc (qO r)) from HK.out.2.alloc _)
      have HCC := hid (show ∀ wx, Fr [] (wr.alloc (qO r)) wx → wx.cell? ⟨wr.heap.size, 1, none⟩ = some (.int .i64 r.st) ∧ wx.cell? ⟨wr.heap.size, 2, none⟩ = some (.int .i64 r.at_) ∧ wx.cell? ⟨wr.heap.size, 3, none⟩ = some (.int .i64 r.ba) ∧ wx.cell? ⟨wr.heap.size, 4, none⟩ = some (.int .i64 r.node) ∧ wx.cell? ⟨wr.heap.size, 5, none⟩ = some (.int .i64 r.life) ∧ wx.cell? ⟨wr.heap.size, 6, none⟩ = some (.int .i64 r.code) ∧ wx.cell? ⟨wr.heap.size, 7, none⟩ = some (.int .u64 r.bits) from fun wx hF => by
        have b := hF.keep hbx (by simp)
        exact ⟨cell_blk b rfl, cell_blk b rfl, cell_blk b rfl, cell_blk b rfl, cell_blk b rfl, cell_blk b rfl, cell_blk b rfl⟩)
      have HFr := hid (Fr.refl [] (wr.alloc (qO r))).drew
      have hNow := hid (HCC.out _ HFr.out)
      clear hX hkr hr hs1 hs2 hs3 hs4 hs5 hs6 hs7 hj6 hj7 hsz hbx
      have hk0 : (0 : Int) ≤ k := by omega
      have hk1 : (k : Int) < m := by omega
      have HLT := hid hlt
      clear hlt hk
      go_wp2_with fail
      go_region_held3 (fun wx : World => wx.cell? ⟨wr.heap.size, 1, none⟩ = some (.int .i64 r.st) ∧ wx.cell? ⟨wr.heap.size, 2, none⟩ = some (.int .i64 r.at_) ∧ wx.cell? ⟨wr.heap.size, 3, none⟩ = some (.int .i64 r.ba) ∧ wx.cell? ⟨wr.heap.size, 4, none⟩ = some (.int .i64 r.node) ∧ wx.cell? ⟨wr.heap.size, 5, none⟩ = some (.int .i64 r.life) ∧ wx.cell? ⟨wr.heap.size, 6, none⟩ = some (.int .i64 r.code) ∧ wx.cell? ⟨wr.heap.size, 7, none⟩ = some (.int .u64 r.bits)) ((first | with_reducible exact hNow.out))
        (first
          | (go_at_call 42; (first | with_reducible refine (hN1.out _).mono ?_ | with_reducible refine (hN2.out _).mono ?_ | with_reducible refine (hN3.out _).mono ?_ | with_reducible refine (hN4.out _).mono ?_ | with_reducible refine (hN5.out _).mono ?_ | with_reducible refine (hN6.out _).mono ?_); rintro e w2 ⟨rfl, hF⟩; have HFr := hid (HFr.out.trans hF); have hNow := hid (HCC.out _ HFr.out); clear hF)
          | (go_at_call 43; with_reducible refine (hN7.out _).mono ?_; rintro e w2 ⟨rfl, hF⟩; have HFr := hid (HFr.out.trans hF); have hNow := hid (HCC.out _ HFr.out); clear hF))
      have HF2 := hid (HB.out.trans HFr.out)
      clear hNow HCC HFr hN1 hN2 hN3 hN4 hN5 hN6 hN7 c1 c2 c3 c4 c5 c6 c7 d2 d3 d4 d5 d6 d7 r0 r1 r2 r3 r4 r5 r6 r7 b1 b2 b3 b4 b5 hbl hlX hlQ HB
      have hP := bl_app s (s1 ++ s2 ++ s3 ++ s4 ++ s5 ++ s6 ++ s7)
      obtain ⟨sB, hsB⟩ : ∃ sB, s ++ (s1 ++ s2 ++ s3 ++ s4 ++ s5 ++ s6 ++ s7) = sB := ⟨_, rfl⟩
      go_upto_region 7 with (fail)
      rw [hsB]
      rw [hsB, HK.out.1, HJ.out.2.1] at hP
      have HP := hid hP
      clear hP hsB
      have hX := HX.out.fr0 HF2.out
      have hkp : k < v.progs.length := by rw [HN.out.2.2.1]; exact HKR.out
      have hkl : k < ll.length := by rw [HN.out.2.2.2]; exact HKR.out
      obtain ⟨pb, po, rfl⟩ := hX.p.sm (by omega)
      obtain ⟨lb, lo, rfl⟩ := hX.l.sm (by omega)
      obtain ⟨y, hy⟩ : ∃ y, ll[k]? = some y := ⟨_, List.getElem?_eq_getElem hkl⟩
      obtain ⟨p, hp⟩ : ∃ p, sL.nth v.progs k = p := ⟨_, rfl⟩
      have hlog : v.logs.getD k [] = y.1 := by rw [← HX.out.hll, List.getD, List.getElem?_map, hy]; rfl
      have hmem : y ∈ ll := List.mem_of_getElem? hy
      have hlm := HV.out.lg y.1 (by rw [← HX.out.hll]; exact List.mem_map_of_mem hmem)
      have hpt : p.size ≤ 1024 := by rw [← hp]; exact (HV.out.pr _ (sL.mem_nth hkp)).2
      have HCC := hid (show ∀ wx, Fr [] w wx → wx.cell? ⟨X, 2, none⟩ = some (.slice (some ⟨pb, po, none⟩) v.progs.length pc) ∧ wx.cell? ⟨pb, po + k, none⟩ = some (.string p) ∧ wx.cell? ⟨X, 3, none⟩ = some (.slice (some ⟨lb, lo, none⟩) ll.length lc) ∧ wx.cell? ⟨lb, lo + k, none⟩ = some (.slice y.2.a y.1.length y.2.c) from fun wx hF => by
        have h := HX.out.fr0 hF
        have h2 := gs_cells h.p k hkp
        rw [Nat.mul_one, hp] at h2
        exact ⟨h.c0.2.2.1, h2, h.c0.2.2.2.1, h.log hkl hy⟩)
      have HLI := hid (show ∀ wx, Fr [] w wx → In wx 1 y.2.a y.1.length y.2.c (sL.at_ y.1) from fun wx hF => (HX.out.fr0 hF).one y hmem)
      have hN8 := hid (fun w => rtext_walk w p (by omega))
      have hN9 := hid (fun w => tnum_walk w y.1.length (by omega))
      obtain ⟨t1, ht1⟩ : ∃ t1, tf p = t1 := ⟨_, rfl⟩
      obtain ⟨t2, ht2⟩ : ∃ t2, nf y.1.length = t2 := ⟨_, rfl⟩
      rw [ht1] at hN8
      rw [ht2] at hN9
      have hm0 : bl (sB ++ (t1 ++ t2)) = (v.head ++ (List.range k).flatMap v.job) ++ jobT v k 0 := by
        rw [bl_app, HP.out, ← jobT_zero]
        unfold jobM
        rw [HR.out, HJ.out.2.2, hp, hlog, ht1, ht2]
        simp only [bl_app, List.append_assoc]
      have hsz := pre_le (l := bl sB) (s := t1 ++ t2) HV.out (by
        rw [← bl_app, hm0]
        exact pre_job HKR.out (jobT_pre v k 0))
      rw [bl_len] at hsz
      simp only [ByteArray.size_append] at hsz
      have c1 : ¬ 9223372036854775807 < t1.size + t2.size := by omega
      have c2 : ¬ 9223372036854775807 < sB.size + (t1 ++ t2).size := by simp only [ByteArray.size_append]; omega
      have c3 : ¬ 9223372036854775807 < sB.size + (t1.size + t2.size) := by omega
      have HM0 := hid hm0
      have HLOG := hid (And.intro hlog hlm)
      have HFr := hid HF2.out.drew
      have hNow := hid (HCC.out _ HFr.out)
      have hlX := lt_of_block hX.blk
      have hk2 : (k : Int) < v.progs.length := by omega
      have hk3 : (k : Int) < ll.length := by omega
      clear hX hkp hkl hy hp hlog hmem hlm hpt ht1 ht2 hm0 hsz
      go_region_held3 (fun wx : World => wx.cell? ⟨X, 2, none⟩ = some (.slice (some ⟨pb, po, none⟩) v.progs.length pc) ∧ wx.cell? ⟨pb, po + k, none⟩ = some (.string p) ∧ wx.cell? ⟨X, 3, none⟩ = some (.slice (some ⟨lb, lo, none⟩) ll.length lc) ∧ wx.cell? ⟨lb, lo + k, none⟩ = some (.slice y.2.a y.1.length y.2.c)) ((first | with_reducible exact hNow.out))
        (first
          | (go_at_call 42; with_reducible refine (hN9.out _).mono ?_; rintro e w3 ⟨rfl, hF⟩; have HFr := hid (HFr.out.trans hF); have hNow := hid (HCC.out _ HFr.out); clear hF)
          | (go_at_call 44; with_reducible refine (hN8.out _).mono ?_; rintro e w3 ⟨rfl, hF⟩; have HFr := hid (HFr.out.trans hF); have hNow := hid (HCC.out _ HFr.out); clear hF))
      clear hNow c1 c2 c3 hN8 hN9 hlX
      go_wp2_with fail
      obtain ⟨wo, hwo⟩ : ∃ wo : World, wo = wr := ⟨_, rfl⟩
      go_loopw [3, 6] (fun ov jv wi => ∃ (j : Nat) (s : ByteArray), j ≤ y.1.length ∧ jv = .int .i64 j ∧ ov = .string s ∧ Hid (bl s = (v.head ++ (List.range k).flatMap v.job) ++ jobT v k j ∧ Fr [] w wi)) (fun _ jv _ => y.1.length - (intOf jv).toNat)
      case atStart => exact ⟨0, _, Nat.zero_le _, rfl, rfl, hid ⟨HM0.out, HFr.out⟩⟩
      case round =>
        clear HFr
        obtain ⟨j, sj, hj, rfl, rfl, HJJ⟩ := hrel
        have hX := HX.out.fr0 HJJ.out.2
        obtain ⟨b1, b2, b3, b4⟩ := HCC.out _ HJJ.out.2
        have hlX := lt_of_block hX.blk
        by_cases hjl : j < y.1.length
        · have hin := HLI.out _ HJJ.out.2
          obtain ⟨ta, hta⟩ : ∃ ta, y.2.a = ta := ⟨_, rfl⟩
          rw [hta] at hin b4
          obtain ⟨tb, tof, rfl⟩ := hin.sm (by omega)
          have c0 := gs_cells hin j hjl
          rw [Nat.mul_one] at c0
          have hx : (v.logs.getD k [])[j]? = some (sL.nth y.1 j) := by rw [HLOG.out.1]; exact sL.nth_get hjl
          have hx32 := HLOG.out.2.2 _ (sL.mem_nth hjl)
          generalize sL.nth y.1 j = x at c0 hx hx32
          have hm1 : bl (sj ++ tf x) = (v.head ++ (List.range k).flatMap v.job) ++ jobT v k (j + 1) := by rw [bl_app, HJJ.out.1, List.append_assoc, jobT_snoc hx]
          have hsz := pre_le (l := bl sj) (s := tf x) HV.out (by
            rw [← bl_app, hm1]
            exact pre_job HKR.out (jobT_pre v k (j + 1)))
          rw [bl_len] at hsz
          have c1 : ¬ 9223372036854775807 < sj.size + (tf x).size := by omega
          have hN := hid (fun w => rtext_walk w x (by omega))
          obtain ⟨t3, ht3⟩ : ∃ t3, tf x = t3 := ⟨_, rfl⟩
          rw [ht3] at hN c1 hm1
          have HM1 := hid hm1
          have HJL := hid (And.intro hjl hta)
          have h32 := HLOG.out.2.1
          have hj0 : (0 : Int) ≤ j := by omega
          have hj1 : (j : Int) < y.1.length := by omega
          have H32 := hid h32
          clear hX hin hx hx32 hm1 hsz ht3 hjl hta hj h32
          go_wp2_with fail
          refine (hN.out _).mono ?_
          rintro e w4 ⟨rfl, hF⟩
          have HF4 := hid (HJJ.out.2.trans hF)
          clear hF
          go_wp2_with fail
          go_roundw
          case rel =>
            have h32 := H32.out
            have hjo := HJL.out.1
            refine ⟨j + 1, _, hjo, by rw [IntWalk.wrap64_in _ (by omega)]; rfl, rfl, hid ⟨HM1.out, HF4.out⟩⟩
          case measure => have := HJL.out.1; have h32 := H32.out; rw [IntWalk.wrap64_in _ (by omega)]; simp [intOf]; omega
        · have hje : j = y.1.length := by omega
          have HZ := hid (show bl sj = v.head ++ (List.range (k + 1)).flatMap v.job ∧ Fr [] w wr from by
            refine ⟨?_, HJJ.out.2⟩
            rw [HJJ.out.1, hje, jobT_all v k (by rw [HLOG.out.1]), pre_next])
          have hj1 : ¬ (j : Int) < y.1.length := by omega
          clear hX hjl hje hj
          go_wp2_with fail
          go_roundw
          case rel => have := HLT.out; have := HN.out.1; have := HM.out; exact ⟨k + 1, _, HLT.out, by rw [IntWalk.wrap64_in _ (by omega)]; rfl, rfl, HZ⟩
          case measure => have := HLT.out; have := HN.out.1; have := HM.out; rw [IntWalk.wrap64_in _ (by omega)]; simp [intOf]; omega
    · have hke : k = m := by omega
      have HZ := hid (show s = ⟨v.bytes.toArray⟩ from bl_toArray (by rw [HK.out.1, hke, ← HM.out]; rfl))
      have hk1 : ¬ (k : Int) < m := by omega
      clear hX hlt hk hke
      go_wp2_with fail
      go_ret
      exact ⟨by rw [HZ.out]; rfl, HK.out.2⟩
theorem st_tbytes {W : Base} {w : World} {R : List Thing} (H : St W w R) (i : Nat) {X : Nat} {v : SV} (hi : R[i]? = some (XsT X v)) (hv : v.wf) :
    Calls Tryz.prog 18 #[.pointer (some ⟨X, 0, none⟩)] w fun e w' => e = .returned (.string ⟨v.bytes.toArray⟩) ∧ St W w' R := by
  obtain ⟨Q, qa, qc, pa, pc, la, lc, ll, hX⟩ := H.xsIn i hi
  refine (tbytes_walk w hX hv).mono ?_
  rintro e w' ⟨rfl, hF⟩
  exact ⟨rfl, H.same hF⟩
end Go.Proofs.YtmgnekjhlfghaaaGreat

/-
  The laws of layer 17: helpers of the document.
-/
namespace Go.Proofs.YtmgnekjhlfghaaaGreat
open Go.RowKit
set_option linter.unusedVariables false
set_option linter.unusedSimpArgs false

section
variable {W : Base} {w : World} {R : List Thing}
theorem st_tapplyV (H : St W w R) (i : Nat) {X : Nat} {v : SV} (hi : R[i]? = some (XsT X v)) (hv : v.wf) (a : Option Addr) (n cap : Nat) (l : List (CV × TS)) (hC : ∀ (wx : World) (T : List Thing), St W wx (R ++ T) → ChIn wx a n cap l) (u : SV) (hu : v.put (l.map (·.1)) = u) :
    Calls Tryz.prog 9 #[.pointer (some ⟨X, 0, none⟩), .slice a n cap] w fun e w' => ∃ r1 r2 : Int, e = .returned (.tuple #[.int .i64 r1, .int .i64 r2]) ∧ St W w' (R.set i (XsT X u)) := by
  refine (st_tapply H i hi hv a n cap l hC).mono ?_
  rintro e w' ⟨rfl, H'⟩
  rw [hu] at H'
  unfold SV.ret
  split
  · exact ⟨_, _, rfl, H'⟩
  · exact ⟨_, _, rfl, H'⟩
theorem st_vsame (H : St W w R) (n : Int) {a b : Option Addr} {na nb ca cb : Nat} {l r : List (PV × TS)} (ha : PlIn w a na ca l) (hb : PlIn w b nb cb r) (h : l.map (·.1) = r.map (·.1)) :
    Calls Tryz.prog 15 #[.agg #[.int .i64 n, .slice a na ca], .agg #[.int .i64 n, .slice b nb cb]] w fun e w' => e = .returned (.bool true) ∧ St W w' R := by
  refine (vsame_walk w n n a b na nb ca cb l r ha hb).mono ?_
  rintro e w' ⟨⟨z, rfl, hz⟩, hF⟩
  obtain rfl : z = true := hz.2 ⟨rfl, h⟩
  exact ⟨rfl, H.same hF⟩
/-- A view of one place. -/
theorem St.oneView {p : PV} {a : Option Addr} (H : St W w (R ++ [LgT a p.log])) (o : Obj) (ho : o = .cells (pF (p, ⟨a, p.log.length⟩)).toArray 53) : St W (w.alloc o) (R ++ [VwT (some ⟨w.heap.size, 0, none⟩) [(p, ⟨a, p.log.length⟩)]]) := by
  subst ho
  have h1 := H.new (w' := w.alloc (.cells (pF (p, ⟨a, p.log.length⟩)).toArray 53)) (A := Wv1 53 10 (some ⟨w.heap.size, 0, none⟩) 1 (pL.at_ [(p, ⟨a, p.log.length⟩)])) (F := [w.heap.size]) ((Fr.refl _ _).alloc _) inferInstance ⟨rfl, .inr ⟨w.heap.size, _, rfl, blk_alloc_at _ _ _ rfl, by simp [pF], fun j hj => by
    have hj : j < 10 := hj
    have := pL.get [(p, ⟨a, p.log.length⟩)] j (by simpa [pL] using hj)
    simpa [Lay.cells, pL] using this⟩⟩ (by simp)
  have h2 : St W (w.alloc (.cells (pF (p, ⟨a, p.log.length⟩)).toArray 53)) (R ++ (vw1 (some ⟨w.heap.size, 0, none⟩) [(p, ⟨a, p.log.length⟩)]).map own) := by
    refine h1.perm ?_
    rw [List.append_assoc]
    exact List.Perm.append_left _ (List.Perm.swap _ _ _)
  exact h2.packEnd (vw1_loc _ _) (B := Pack1 (vw1 _ _)) (fun F h => h)
theorem sfind_small {v : SV} (hv : v.wf) {b : Int} {p : PV} {z : Bool} (h : v.sfind b = (p, z)) : p.log.length ≤ 32 := by
  unfold SV.sfind at h
  split at h
  · cases h
    unfold SV.place
    simp only [List.getD]
    generalize ((v.q.find b).1.job - 1).toNat = k
    rcases hk : v.logs[k]? with _ | y
    · simp
    · exact (hv.lg y (List.mem_of_getElem? hk)).1
  · cases h; simp [PV.zero]
theorem st_sfindV (H : St W w R) (i : Nat) {S : Nat} {v : SV} (hi : R[i]? = some (SkT S v)) (hv : v.wf) (b : Int) {p : PV} {z : Bool} (h : v.sfind b = (p, z)) :
    Calls Tryz.prog 12 #[.pointer (some ⟨S, 0, none⟩), .int .i64 b] w fun e w' => ∃ a, e = .returned (.tuple #[.agg (pF (p, ⟨a, p.log.length⟩)).toArray, .bool z]) ∧ St W w' (R ++ [LgT a p.log]) := by
  have h1 := st_sfind H i hi hv b
  rw [h] at h1
  exact h1
theorem st_tfindV (H : St W w R) (i : Nat) {X : Nat} {v : SV} (hi : R[i]? = some (XsT X v)) (hv : v.wf) (b : Int) {p : PV} {z : Bool} (h : v.sfind b = (p, z)) :
    Calls Tryz.prog 13 #[.pointer (some ⟨X, 0, none⟩), .int .i64 b] w fun e w' => ∃ a c, e = .returned (.tuple #[.agg (pF (p, ⟨a, c⟩)).toArray, .bool z]) ∧ St W w' (R ++ [lgR (p.log, ⟨a, c⟩)]) := by
  have h1 := st_tfind H i hi hv b
  rw [h] at h1
  exact h1
theorem St.pvS (H : St W w R) (i : Nat) {a : Option Addr} {p : PV} (hi : R[i]? = some (LgT a p.log)) (h32 : p.log.length ≤ 32) : PvIn w (p, ⟨a, p.log.length⟩) :=
  (H.wv i hi).toIn (Nat.le_refl p.log.length) (show p.log.length ≤ maxLen by unfold maxLen; omega)
theorem St.pvR (H : St W w R) (i : Nat) {a : Option Addr} {c : Nat} {p : PV} (hi : R[i]? = some (lgR (p.log, ⟨a, c⟩))) : PvIn w (p, ⟨a, c⟩) :=
  H.roLay sL i hi
theorem st_psame (H : St W w R) (x y : PV × TS) (hx : PvIn w x) (hy : PvIn w y) (h : x.1 = y.1) :
    Calls Tryz.prog 14 #[.agg (pF x).toArray, .agg (pF y).toArray] w fun e w' => e = .returned (.bool true) ∧ St W w' R := by
  refine (samePlace w x y hx hy).mono ?_
  rintro e w' ⟨⟨z, rfl, hz⟩, hF⟩
  obtain rfl : z = true := hz.2 h
  exact ⟨rfl, H.same hF⟩
end
end Go.Proofs.YtmgnekjhlfghaaaGreat
