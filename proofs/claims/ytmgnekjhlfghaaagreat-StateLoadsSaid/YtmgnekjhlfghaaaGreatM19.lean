/-
  Merged, in build order: SC.
-/
import Derived.Deep.DeepCutAuto
import Derived.Deep.CutRange
import Derived.Deep.RegionHeld3
import Derived.Test.YtmgnekjhlfghaaaGreatM18
/-
  state: log.
-/
namespace Go.Proofs.YtmgnekjhlfghaaaGreat
open Go.RowKit
set_option linter.unusedVariables false
set_option linter.unusedSimpArgs false

section
variable {W : Base} {w : World} {R : List Thing}
variable {S Q : Nat} {q : QS} {res : Int} {pv lv : Value} {progs : List ByteArray} {ll : List (List ByteArray × TS)}

theorem takeD {P : Program} {md : Region.Mode} {ops : Array Oper} {Q : Exit → Act → World → Prop} {S : World → Prop} {i : Nat} {d : Tmp} {oi : Oper} {v : Value} {fuel : Nat} {listed : Array Bool} {a : Act} {w : World} (hi : ops[i]? = some oi) (hd : oi.dst = some d)
    (hs : Region.noSelect ops = true) (hf : Region.free md ops listed i = true) (hr : (Region.ready md ops listed).contains i = true)
    (hQ : ∀ c a w, Q (.panic c) (a.put (some d) v) w → Q (.panic c) a w) (hy : YieldsIf P ops S oi v a) (hS : S w)
    (h : wpAnyH P md ops Q S fuel (listed.setIfInBounds i true) (a.put (some d) v) w) : wpAnyH P md ops Q S (fuel + 1) listed a w :=
  wpAnyH_take hi hs hf hr (by rw [hd]; exact hQ) hy hS (by rw [hd]; exact h)
theorem _root_.List.set_append_right_add {α : Type} {X Y : List α} {k : Nat} {a : α} : (X ++ Y).set (X.length + k) a = X ++ Y.set k a := by
  rw [List.set_append_right _ _ (by omega), Nat.add_sub_cancel_left]
theorem sfind_at {q : QS} (hq : q.wf) {b : Int} {x : QR} (h : q.find b = (x, true)) : ∃ k, k < q.rows.length ∧ x = qL.nth q.rows k ∧ x.job = (k : Int) + 1 := by
  unfold QS.find QS.row at h
  split at h
  · cases h
  · simp only [Prod.mk.injEq, and_true] at h
    have hb := fIdx_bd (QR.pFind b) q.rows
    refine ⟨_, ?_, h.symm, ?_⟩
    · omega
    · rw [← h, (may_facts (hq.ok _ (by omega))).1]
theorem set8 {w : World} {g : Nat} {u0 u1 v0 v1 v2 v3 v4 v5 v6 v7 : Value} (h0 : w.cell? ⟨g, 0, none⟩ = some u0) (h1 : w.cell? ⟨g, 1, none⟩ = some u1) :
    ((((((((w.setCell ⟨g, 0, none⟩ v0).setCell ⟨g, 1, none⟩ v1).setCell ⟨g, 2, none⟩ v2).setCell ⟨g, 3, none⟩ v3).setCell ⟨g, 4, none⟩ v4).setCell ⟨g, 5, none⟩ v5).setCell ⟨g, 6, none⟩ v6).setCell ⟨g, 7, none⟩ v7).cell? ⟨g, 0, none⟩ = some v0 ∧
    ((((((((w.setCell ⟨g, 0, none⟩ v0).setCell ⟨g, 1, none⟩ v1).setCell ⟨g, 2, none⟩ v2).setCell ⟨g, 3, none⟩ v3).setCell ⟨g, 4, none⟩ v4).setCell ⟨g, 5, none⟩ v5).setCell ⟨g, 6, none⟩ v6).setCell ⟨g, 7, none⟩ v7).cell? ⟨g, 1, none⟩ = some v1 := by
  constructor <;> simp [go_sem, h0, h1]
theorem set8F {W w : World} {g : Nat} {v0 v1 v2 v3 v4 v5 v6 v7 : Value} (h : Fr [] W w) (hg : W.heap.size ≤ g) :
    Fr [] W ((((((((w.setCell ⟨g, 0, none⟩ v0).setCell ⟨g, 1, none⟩ v1).setCell ⟨g, 2, none⟩ v2).setCell ⟨g, 3, none⟩ v3).setCell ⟨g, 4, none⟩ v4).setCell ⟨g, 5, none⟩ v5).setCell ⟨g, 6, none⟩ v6).setCell ⟨g, 7, none⟩ v7) :=
  (((((((h.setCell (.inr hg) _).setCell (.inr hg) _).setCell (.inr hg) _).setCell (.inr hg) _).setCell (.inr hg) _).setCell (.inr hg) _).setCell (.inr hg) _).setCell (.inr hg) _
set_option maxHeartbeats 3000000 in
set_option maxRecDepth 100000 in
theorem st_slog (H : St W w R) (i : Nat) {v : SV} (hi : R[i]? = some (SkT S v)) (hv : v.wf) (c : CV) (t : TS) (ht : In w 1 t.a c.texts.length t.c (sL.at_ c.texts)) (ht1 : 1 ≤ c.texts.length) (ht8 : c.texts.length ≤ 8) :
    Calls Tryz.prog 74 #[.pointer (some ⟨S, 0, none⟩), .agg (c.f t).toArray] w (DoTo W R i S (v.log c.badge c.texts)) := by
  have hvw := hid hv
  have hnl := hv.nl
  have hn8 := hv.q.n
  have HT := hid ht
  obtain ⟨i0, hi0, hz0, hz1, hz2⟩ := info_parts info_gs
  have HI := hid (And.intro hi0 (And.intro hz0 (And.intro hz1 hz2)))
  clear hi0 hz0 hz1 hz2 ht
  have hil := lt_of_get hi
  obtain ⟨Q, pv, lv, ll, hll, H1⟩ := H.sk i hi
  obtain ⟨q, res, progs, logs⟩ := v
  simp only at hll H1
  subst hll
  have b1 := H1.skS
  have s0 := cell_blk (i := 0) b1 rfl
  have s1 := cell_blk (i := 1) b1 rfl
  have s2 := cell_blk (i := 2) b1 rfl
  have s3 := cell_blk (i := 3) b1 rfl
  have f1 := free_blk (i := 1) b1
  have f2 := free_blk (i := 2) b1
  have f3 := free_blk (i := 3) b1
  have hlS := lt_of_block b1
  have H1 := hid H1
  clear H hi b1
  simp only [List.length_map] at hnl hn8
  obtain ⟨la, lc, rfl, _, _, _, hsm⟩ := H1.out.rowShape ((R.set i NilT).length + 3) sk_get3
  have hsm := hid hsm
  have HH1 := hid H1.out
  have H2 := hid (H1.out.alloc (chO c t))
  have hfind := hid (fun (wx : World) (hwx : Fr [] (w.alloc (chO c t)) wx) => st_find (H2.out.same hwx) ((R.set i NilT).length + 1) sk_get hn8 c.badge)
  have HN := hid (And.intro hnl hn8)
  have b1 := H2.out.drop.skS
  have d0 := cell_blk (i := 0) b1 rfl
  have dS := lt_of_block b1
  have c3 : (w.alloc (chO c t)).cell? ⟨w.heap.size, 3, none⟩ = some (.int .i64 c.badge) := cell_blk H2.out.chB rfl
  clear H1 f1 f2 f3 s0 s1 s2 s3 b1 hnl hn8
  obtain ⟨Z, hZ⟩ : ∃ Z, SV.log ⟨q, res, progs, ll.map (·.1)⟩ c.badge c.texts = Z := ⟨_, rfl⟩
  rw [hZ]
  have HZ := hid hZ
  clear hZ
  go_enter Tryz.func74, Tryz.ntmps74
  simp only [CV.f]
  go_upto_region 1 with (fail)
  go_cut [5, 6] (fun s5 s6 wx => ∃ (g : Nat) (x : QR) (z : Bool), s5 = .pointer (some ⟨g, 0, none⟩) ∧ s6 = .bool z ∧ Hid (q.find c.badge = (x, z)) ∧ wx.cell? ⟨g, 0, none⟩ = some (.int .i64 x.job) ∧ wx.cell? ⟨g, 1, none⟩ = some (.int .i64 x.st) ∧ Fr [] (w.alloc (chO c t)) wx ∧ w.heap.size < g)
  case first =>
    go_region_law (first | (go_simp; go_at_call 33; refine (hfind.out _ (by first | exact (Fr.refl _ _).drew | exact ((Fr.refl _ _).drew).alloc _ | exact ((Fr.refl _ _).alloc _).drew)).mono ?_; rintro e2 w2 ⟨x, z, hx, rfl, hF⟩; have hx := hid hx; have hF2 := hid hF; (try (have bz := hF.keep (blk_alloc_at _ _ (w.heap.size + 1) (by simp)) (by simp); have zz0 : w2.cell? ⟨w.heap.size + 1, 0, none⟩ = some (.int .i64 0) := cell_blk bz rfl; have yy0 := free_blk (i := 0) bz; have zz1 : w2.cell? ⟨w.heap.size + 1, 1, none⟩ = some (.int .i64 0) := cell_blk bz rfl; have yy1 := free_blk (i := 1) bz; have zz2 : w2.cell? ⟨w.heap.size + 1, 2, none⟩ = some (.int .i64 0) := cell_blk bz rfl; have yy2 := free_blk (i := 2) bz; have zz3 : w2.cell? ⟨w.heap.size + 1, 3, none⟩ = some (.int .i64 0) := cell_blk bz rfl; have yy3 := free_blk (i := 3) bz; have zz4 : w2.cell? ⟨w.heap.size + 1, 4, none⟩ = some (.int .i64 0) := cell_blk bz rfl; have yy4 := free_blk (i := 4) bz; have zz5 : w2.cell? ⟨w.heap.size + 1, 5, none⟩ = some (.int .i64 0) := cell_blk bz rfl; have yy5 := free_blk (i := 5) bz; have zz6 : w2.cell? ⟨w.heap.size + 1, 6, none⟩ = some (.int .i64 0) := cell_blk bz rfl; have yy6 := free_blk (i := 6) bz; have zz7 : w2.cell? ⟨w.heap.size + 1, 7, none⟩ = some (.int .u64 0) := cell_blk bz rfl; have yy7 := free_blk (i := 7) bz; have lz := lt_of_block bz; have HBz := hid bz; clear bz)); clear hF))
    all_goals (go_wp2_with fail; go_meet)
    all_goals first
      | (refine ⟨w2.heap.size, x, z, rfl, rfl, hx, ?_, ?_, ?_, ?_⟩; (exact cell_blk (f := (0, 0)) (blk_alloc_at w2 _ w2.heap.size rfl) rfl); (exact cell_blk (f := (0, 0)) (blk_alloc_at w2 _ w2.heap.size rfl) rfl); (exact ((Fr.refl [] (w.alloc (chO c t))).drew.trans hF2.out).alloc _); (have h1 := hF2.out.size; simp at h1; omega))
      | (refine ⟨w.heap.size + 1, x, z, rfl, rfl, hx, ?_, ?_, ?_, ?_⟩
         · exact (set8 (g := w.heap.size + 1) zz0 zz1).1
         · exact (set8 (g := w.heap.size + 1) zz0 zz1).2
         · exact set8F (((Fr.refl [] (w.alloc (chO c t))).drew.alloc _).trans hF2.out) (by simp)
         · omega)
    all_goals trace_state
    all_goals sorry
  case rest =>
    obtain ⟨g, x, z, rfl, rfl, hfx, x0, x1, hFx, hgx⟩ := hcut
    have H3 := H2.out.same hFx
    have hlS2 := lt_of_block H3.drop.skS
    have hlb := lt_of_block H3.chB
    have g9 := cell_blk (i := 9) (v := .slice t.a c.texts.length t.c) H3.chB rfl
    have g3 := cell_blk (i := 3) (v := .slice la ll.length lc) H3.drop.skS rfl
    have H3 := hid H3
    have hll : ll.length = q.rows.length := HN.out.1
    have hZ := HZ.out
    unfold SV.log at hZ
    simp only [hfx.out] at hZ
    have HLL := hid hll
    clear hll c3 d0 dS hlS
    cases z
    · rw [if_pos rfl] at hZ
      subst hZ
      go_wp2_with fail
      go_quiet (fail)
      go_wp2_with fail
      go_ret
      exact DoTo.no rfl (St.skBack hil (H3.out.drewN _).drop)
    · rw [if_neg (by decide)] at hZ
      by_cases hst : x.st = 2
      · rw [if_neg (fun h => h hst)] at hZ
        obtain ⟨k, hk, hxk, hjob⟩ := sfind_at hvw.out.q hfx.out
        have hk : k < q.rows.length := hk
        have hkl : k < ll.length := by rw [HLL.out]; exact hk
        obtain ⟨y, hy⟩ : ∃ y, ll[k]? = some y := ⟨_, List.getElem?_eq_getElem hkl⟩
        have hyn : tL.nth ll k = y := by have := tL.nth_get hkl; rw [hy] at this; exact (Option.some.inj this).symm
        obtain ⟨lg, rfl⟩ := hsm.out (by omega)
        have hn8 : q.rows.length ≤ 8 := HN.out.2
        have hlk8 : k < 8 := by omega
        have hjk : (x.job - 1).toNat = k := by omega
        have hlk : (ll.map (·.1)).getD k [] = y.1 := by rw [List.getD, List.getElem?_map, hy]; rfl
        have hy32 : y.1.length ≤ 32 := (hvw.out.lg y.1 (List.mem_map_of_mem (List.mem_of_getElem? hy))).1
        simp only [hjk, hlk] at hZ
        have hrow := H3.out.row ((R.set i NilT).length + 3) (get_l sk_get3)
        have r0 := (ownsRow_cell hrow k (by rw [gt_get hkl, hyn])).1
        have r1 := (ownsRow_cell hrow k (by rw [gt_get hkl, hyn])).2
        have hw1 : IntKind.i64.wrap (x.job - 1) = (k : Int) := by rw [show x.job - 1 = (k : Int) by omega]; exact IntWalk.i64_in _ (by omega)
        have hw2 : IntKind.i64.wrap ((y.1.length : Int) + c.texts.length) = (y.1.length : Int) + c.texts.length := IntWalk.i64_in _ (by omega)
        have hk1 : (k : Int) < ll.length := by omega
        have hk0 : (0 : Int) ≤ k := by omega
        have hst1 : (x.st == 2) = true := by rw [beq_iff_eq]; exact hst
        have hst2 : (x.st != 2) = false := by simp [bne, hst1]
        have HS := hid (And.intro hy (And.intro hyn (And.intro hjk (And.intro hk hkl))))
        clear hrow hxk hjob hjk hlk hyn hst hk
        by_cases h32 : 32 < y.1.length + c.texts.length
        · rw [if_pos h32] at hZ
          subst hZ
          have hd : decide ((32 : Int) < (y.1.length : Int) + c.texts.length) = true := decide_eq_true (by omega)
          clear h32 hy hkl
          go_wp2_with fail
          go_quiet (fail)
          go_wp2_with fail
          go_ret
          exact DoTo.no rfl (St.skBack hil (H3.out.drewN _).drop)
        · rw [if_neg h32] at hZ
          subst hZ
          have hd : decide ((32 : Int) < (y.1.length : Int) + c.texts.length) = false := decide_eq_false (by omega)
          have hsum : y.1.length + c.texts.length ≤ 32 := by omega
          clear h32 hy hkl
          go_wp2_with fail
          go_quiet (fail)
          go_wp2_with fail
          obtain ⟨tb, toff, hta⟩ := HT.out.sm (by omega)
          have hFw : Fr [] w wc := ((Fr.refl [] w).alloc _).trans hFx
          have hnews := hid (show ∀ (j : Nat) (u : Value), (sL.cells c.texts)[j]? = some u → (wc.drewN (nq + 1)).cell? ((⟨tb, toff, none⟩ : Addr).add j) = some u from fun j u hu => by
            have hj : j < c.texts.length * 1 := by have := (List.getElem?_eq_some_iff.1 hu).1; rw [sL.cells_len] at this; exact this
            have h1 := (HT.out.fr0 hFw).cell tb toff hta j hj
            rw [sL.get _ j hj] at hu
            cases hu
            have e1 : (⟨tb, toff, none⟩ : Addr).add j = ⟨tb, toff + j, none⟩ := by unfold Addr.add; by_cases hj : j = 0 <;> simp [hj]
            rw [e1]; exact h1)
          have hap := hid ((H3.out.drewN (nq + 1)).append ((R.set i NilT).length + (4 + k)) (get_l (sk_getL HS.out.1)))
          have hyl := hid (show ∀ b, b ∈ (Value.slice y.2.a y.1.length y.2.c).ownBlock.toList → b < w.heap.size from ownsRow_lt (HH1.out.row ((R.set i NilT).length + (4 + k)) (sk_getL HS.out.1)))
          have hone := hid (sL.cells_one c.texts)
          have hcl := hid (show (sL.cells c.texts).length = c.texts.length * 1 from sL.cells_len c.texts)
          have HTA := hid hta
          have HSU := hid hsum
          have hm1 := hid (show y.1.length + c.texts.length ≤ maxLen by unfold maxLen; omega)
          have hm2 := hid (show (y.1.length + c.texts.length) * 16 ≤ 140737488355328 by omega)
          rw [hta] at g9
          clear hta hw2 hst1 hst2 hd x1 hFw
          have hS0 : (wc.drewN (nq + 1)).cell? ⟨S, 3, none⟩ = some (.slice (some ⟨lg, 0, none⟩) ll.length lc) ∧ (wc.drewN (nq + 1)).cell? ⟨g, 0, none⟩ = some (.int .i64 x.job) ∧ (wc.drewN (nq + 1)).cell? ⟨w.heap.size, 9, none⟩ = some (.slice (some ⟨tb, toff, none⟩) c.texts.length t.c) := ⟨(World.cell?_drewN _ _ _).trans g3, (World.cell?_drewN _ _ _).trans x0, (World.cell?_drewN _ _ _).trans g9⟩
          refine wp_region_held_drew (S := fun wx : World => wx.cell? ⟨S, 3, none⟩ = some (.slice (some ⟨lg, 0, none⟩) ll.length lc) ∧ wx.cell? ⟨g, 0, none⟩ = some (.int .i64 x.job) ∧ wx.cell? ⟨w.heap.size, 9, none⟩ = some (.slice (some ⟨tb, toff, none⟩) c.texts.length t.c)) (by kernel_rfl) hS0 (fun hHeld => ?_)
          refine takeD (i := 0) (d := 42) (v := ?_) rfl rfl (by kernel_rfl) (by kernel_rfl) (by kernel_rfl) (fun _ _ _ h => h) (Or.inl ⟨by rfl, ?_⟩) hHeld ?_
          rotate_left
          · intro wq hSw; (try dsimp only at hSw); go_simp; all_goals (with_reducible rfl)
          simp only [Act.put, List.setIfInBounds_toArray, List.set_cons_zero, List.set_cons_succ]
          refine takeD (i := 1) (d := 43) (v := ?_) rfl rfl (by kernel_rfl) (by kernel_rfl) (by kernel_rfl) (fun _ _ _ h => h) (Or.inl ⟨by rfl, ?_⟩) hHeld ?_
          rotate_left
          · intro wq hSw; (try dsimp only at hSw); go_simp; all_goals (with_reducible rfl)
          simp only [Act.put, List.setIfInBounds_toArray, List.set_cons_zero, List.set_cons_succ]
          refine takeD (i := 2) (d := 44) (v := ?_) rfl rfl (by kernel_rfl) (by kernel_rfl) (by kernel_rfl) (fun _ _ _ h => h) (Or.inl ⟨by rfl, ?_⟩) hHeld ?_
          rotate_left
          · intro wq hSw; (try dsimp only at hSw); go_simp; all_goals (with_reducible rfl)
          simp only [Act.put, List.setIfInBounds_toArray, List.set_cons_zero, List.set_cons_succ]
          refine takeD (i := 3) (d := 45) (v := ?_) rfl rfl (by kernel_rfl) (by kernel_rfl) (by kernel_rfl) (fun _ _ _ h => h) (Or.inl ⟨by rfl, ?_⟩) hHeld ?_
          rotate_left
          · intro wq hSw; (try dsimp only at hSw); go_simp; all_goals (with_reducible rfl)
          simp only [Act.put, List.setIfInBounds_toArray, List.set_cons_zero, List.set_cons_succ]
          refine takeD (i := 4) (d := 46) (v := ?_) rfl rfl (by kernel_rfl) (by kernel_rfl) (by kernel_rfl) (fun _ _ _ h => h) (Or.inl ⟨by rfl, ?_⟩) hHeld ?_
          rotate_left
          · intro wq hSw; (try dsimp only at hSw); go_simp; all_goals (with_reducible rfl)
          simp only [Act.put, List.setIfInBounds_toArray, List.set_cons_zero, List.set_cons_succ]
          refine takeD (i := 5) (d := 47) (v := ?_) rfl rfl (by kernel_rfl) (by kernel_rfl) (by kernel_rfl) (fun _ _ _ h => h) (Or.inl ⟨by rfl, ?_⟩) hHeld ?_
          rotate_left
          · intro wq hSw; (try dsimp only at hSw); go_simp; all_goals (with_reducible rfl)
          simp only [Act.put, List.setIfInBounds_toArray, List.set_cons_zero, List.set_cons_succ]
          refine takeD (i := 6) (d := 48) (v := ?_) rfl rfl (by kernel_rfl) (by kernel_rfl) (by kernel_rfl) (fun _ _ _ h => h) (Or.inl ⟨by rfl, ?_⟩) hHeld ?_
          rotate_left
          · intro wq hSw; (try dsimp only at hSw); go_simp; all_goals (with_reducible rfl)
          simp only [Act.put, List.setIfInBounds_toArray, List.set_cons_zero, List.set_cons_succ]
          refine takeD (i := 7) (d := 49) (v := ?_) rfl rfl (by kernel_rfl) (by kernel_rfl) (by kernel_rfl) (fun _ _ _ h => h) (Or.inl ⟨by rfl, ?_⟩) hHeld ?_
          rotate_left
          · intro wq hSw; (try dsimp only at hSw); go_simp; all_goals (with_reducible rfl)
          simp only [Act.put, List.setIfInBounds_toArray, List.set_cons_zero, List.set_cons_succ]
          refine takeD (i := 8) (d := 50) (v := ?_) rfl rfl (by kernel_rfl) (by kernel_rfl) (by kernel_rfl) (fun _ _ _ h => h) (Or.inl ⟨by rfl, ?_⟩) hHeld ?_
          rotate_left
          · intro wq hSw; (try dsimp only at hSw); go_simp; all_goals (with_reducible rfl)
          simp only [Act.put, List.setIfInBounds_toArray, List.set_cons_zero, List.set_cons_succ]
          refine takeD (i := 9) (d := 51) (v := ?_) rfl rfl (by kernel_rfl) (by kernel_rfl) (by kernel_rfl) (fun _ _ _ h => h) (Or.inl ⟨by rfl, ?_⟩) hHeld ?_
          rotate_left
          · intro wq hSw; (try dsimp only at hSw); go_simp; all_goals (with_reducible rfl)
          simp only [Act.put, List.setIfInBounds_toArray, List.set_cons_zero, List.set_cons_succ]
          refine takeD (i := 10) (d := 52) (v := ?_) rfl rfl (by kernel_rfl) (by kernel_rfl) (by kernel_rfl) (fun _ _ _ h => h) (Or.inl ⟨by rfl, ?_⟩) hHeld ?_
          rotate_left
          · intro wq hSw; (try dsimp only at hSw); go_simp; all_goals (with_reducible rfl)
          simp only [Act.put, List.setIfInBounds_toArray, List.set_cons_zero, List.set_cons_succ]
          refine takeD (i := 11) (d := 53) (v := ?_) rfl rfl (by kernel_rfl) (by kernel_rfl) (by kernel_rfl) (fun _ _ _ h => h) (Or.inl ⟨by rfl, ?_⟩) hHeld ?_
          rotate_left
          · intro wq hSw; (try dsimp only at hSw); go_simp; all_goals (with_reducible rfl)
          simp only [Act.put, List.setIfInBounds_toArray, List.set_cons_zero, List.set_cons_succ]
          refine takeD (i := 12) (d := 54) (v := ?_) rfl rfl (by kernel_rfl) (by kernel_rfl) (by kernel_rfl) (fun _ _ _ h => h) (Or.inl ⟨by rfl, ?_⟩) hHeld ?_
          rotate_left
          · intro wq hSw; (try dsimp only at hSw); go_simp; all_goals (with_reducible rfl)
          simp only [Act.put, List.setIfInBounds_toArray, List.set_cons_zero, List.set_cons_succ]
          refine takeD (i := 13) (d := 55) (v := ?_) rfl rfl (by kernel_rfl) (by kernel_rfl) (by kernel_rfl) (fun _ _ _ h => h) (Or.inl ⟨by rfl, ?_⟩) hHeld ?_
          rotate_left
          · intro wq hSw; (try dsimp only at hSw); go_simp; all_goals (with_reducible rfl)
          simp only [Act.put, List.setIfInBounds_toArray, List.set_cons_zero, List.set_cons_succ]
          refine takeD (i := 14) (d := 56) (v := ?_) rfl rfl (by kernel_rfl) (by kernel_rfl) (by kernel_rfl) (fun _ _ _ h => h) (Or.inl ⟨by rfl, ?_⟩) hHeld ?_
          rotate_left
          · intro wq hSw; (try dsimp only at hSw); go_simp; all_goals (with_reducible rfl)
          simp only [Act.put, List.setIfInBounds_toArray, List.set_cons_zero, List.set_cons_succ]
          refine takeD (i := 16) (d := 58) (v := ?_) rfl rfl (by kernel_rfl) (by kernel_rfl) (by kernel_rfl) (fun _ _ _ h => h) (Or.inl ⟨by rfl, ?_⟩) hHeld ?_
          rotate_left
          · intro wq hSw; (try dsimp only at hSw); go_simp; all_goals (with_reducible rfl)
          simp only [Act.put, List.setIfInBounds_toArray, List.set_cons_zero, List.set_cons_succ]
          refine takeD (i := 17) (d := 59) (v := ?_) rfl rfl (by kernel_rfl) (by kernel_rfl) (by kernel_rfl) (fun _ _ _ h => h) (Or.inl ⟨by rfl, ?_⟩) hHeld ?_
          rotate_left
          · intro wq hSw; (try dsimp only at hSw); go_simp; all_goals (with_reducible rfl)
          simp only [Act.put, List.setIfInBounds_toArray, List.set_cons_zero, List.set_cons_succ]
          refine wpAnyH_ready (rs := [15]) (by kernel_rfl) (by simp) ?_
          refine AllReadyH.cons rfl (fun K hK => ?_) AllReadyH.nil
          go_simp
          refine hK.out _ _ hHeld (fun _ => ?_)
          clear hK K
          try simp only [Act.put, List.setIfInBounds_toArray, List.set_cons_zero, List.set_cons_succ]
          refine wpAnyH_ready (rs := [18]) (by kernel_rfl) (by simp) ?_
          refine AllReadyH.cons rfl (fun K hK => ?_) AllReadyH.nil
          refine step_append_blk rfl (.tmp 57) (.tmp 59) 41 rfl 9 i0 (.string ByteArray.empty) 1 16 Tryz.underlying41 HI.out.1 HI.out.2.1 HI.out.2.2.1 HI.out.2.2.2 rfl (by decide) (.slice y.2.a y.1.length y.2.c) y.1.length (sL.cells y.1) rfl hap.out.1 ⟨tb, toff, none⟩ c.texts.length t.c (sL.cells c.texts) rfl hcl.out hnews.out hone.out hm1.out hm2.out ?_
          intro v' w4 ho hF hb hn
          have H4 := hap.out.2 v' w4 (y.1.length + c.texts.length) (sL.cells (y.1 ++ c.texts)) (by rw [show sL.cells (y.1 ++ c.texts) = sL.cells y.1 ++ sL.cells c.texts by simp [Lay.cells]]; exact ho) hF hb
          rw [mid_set (by rw [sk_len]; have := HS.out.2.2.2.2; omega)] at H4
          obtain ⟨g4, cap4, rfl, _⟩ := ownsRow_shape ho (by omega)
          have b4 := H4.blk ((R.set i NilT).length + 0) (mid_get (by rw [List.getElem?_set_ne (by omega)]; rfl))
          have e3 := cell_blk (i := 3) (v := .slice (some ⟨lg, 0, none⟩) ll.length lc) b4 rfl
          have hw4 := H4.row ((R.set i NilT).length + 3) (mid_get (by rw [List.getElem?_set_ne (by omega)]; rfl))
          have r40 := (ownsRow_cell hw4 k (by rw [gt_get HS.out.2.2.2.2, HS.out.2.1])).1
          have r41 := (ownsRow_cell hw4 k (by rw [gt_get HS.out.2.2.2.2, HS.out.2.1])).2
          have e0 := hF.cell (p := ⟨g, 0, none⟩) (v := .int .i64 x.job) x0 (fun h => by have h5 := hyl.out g h; omega)
          have e9 := hF.cell (p := ⟨w.heap.size, 9, none⟩) (v := .slice (some ⟨tb, toff, none⟩) c.texts.length t.c) ((World.cell?_drewN _ _ _).trans g9) (fun h => by have h5 := hyl.out _ h; exact absurd h5 (by simp))
          have H4 := hid H4
          clear ho hF hb hn b4 hw4
          refine hK.out _ _ ⟨e3, e0, e9⟩ (fun hHeld => ?_)
          clear hK K
          try simp only [Act.put, List.setIfInBounds_toArray, List.set_cons_zero, List.set_cons_succ]
          refine takeD (i := 19) (d := 61) (v := ?_) rfl rfl (by kernel_rfl) (by kernel_rfl) (by kernel_rfl) (fun _ _ _ h => h) (Or.inl ⟨by rfl, ?_⟩) hHeld ?_
          rotate_left
          · intro wq hSw; (try dsimp only at hSw); go_simp; all_goals (with_reducible rfl)
          simp only [Act.put, List.setIfInBounds_toArray, List.set_cons_zero, List.set_cons_succ]
          refine wpAnyH_ready (rs := [20]) (by kernel_rfl) (by simp) ?_
          refine AllReadyH.cons rfl (fun K hK => ?_) AllReadyH.nil
          go_simp
          have hlgw : lg < w.heap.size := World.block_lt_of_cell? _ _ (ownsRow_cell (HH1.out.row ((R.set i NilT).length + 3) sk_get3) k (by rw [gt_get HS.out.2.2.2.2, HS.out.2.1])).1
          have H5 := H4.out.drop
          rw [← List.set_append_right_add, show y.1.length + c.texts.length = (y.1 ++ c.texts).length from (List.length_append ..).symm] at H5
          have H6 := St.logSet HS.out.2.2.2.2 H5
          have e3' := cell_blk (i := 3) (v := .slice (some ⟨lg, 0, none⟩) ll.length lc) H6.skS (by simp)
          have H6 := hid H6
          clear H5
          rw [show (y.1 ++ c.texts).length = y.1.length + c.texts.length from List.length_append ..] at e3'
          refine hK.out _ _ ⟨by simpa using e3', ?q0, ?q9⟩ (fun _ => ?_)
          case q0 => exact (World.cell?_setCell_far _ _ _ _ (by show lg ≠ g; omega)).trans e0
          case q9 => exact (World.cell?_setCell_far _ _ _ _ (by show lg ≠ w.heap.size; omega)).trans e9
          clear hK K
          refine wpAnyH_done (by kernel_rfl) ?_ _
          clear e3 e0 e9 e3' hHeld hap
          go_wp2_with fail
          go_ret
          have H7 := St.skBack hil H6.out
          rw [List.map_set] at H7
          rw [show (y.1 ++ c.texts).length = y.1.length + c.texts.length from List.length_append ..] at H7
          exact DoTo.yes rfl H7
      · rw [if_pos hst] at hZ
        subst hZ
        have hst1 : (x.st == 2) = false := by rw [beq_eq_false_iff_ne]; exact hst
        have hst2 : (x.st != 2) = true := by simp [bne, hst1]
        go_wp2_with fail
        go_quiet (fail)
        go_wp2_with fail
        go_ret
        exact DoTo.no rfl (St.skBack hil (H3.out.drewN _).drop)
end
end Go.Proofs.YtmgnekjhlfghaaaGreat
