/-
  Grant of the package queue.
-/
import Derived.Test.YthdcpenhfccagaaQ5
namespace Go.Proofs.Ythdcpenhfccagaa
open Go.RowKit
set_option linter.unusedVariables false
set_option linter.unusedSimpArgs false

theorem row_setk {w : World} {g c n k q : Nat} {l : List QR} {y x : QR} {v : Value} (h : w.ownsRow 0 37 8 (.slice (some ⟨g, 0, none⟩) n c) n (qL.cells (l.set k y))) (hk : k < l.length) (hq : q < 8) (hx : QR.f x = (QR.f y).set q v) :
    (w.setCell ⟨g, k * 8 + q, none⟩ v).ownsRow 0 37 8 (.slice (some ⟨g, 0, none⟩) n c) n (qL.cells (l.set k x)) := by
  have h1 := ownsRow_set h (k * 8 + q) v
  have h2 := qL.set_cell (l.set k y) k q v x (by simpa using hk) hq (by rw [qL.nth_set _ _ _ _ hk, if_pos rfl]; exact hx)
  rw [List.set_set] at h2
  rw [← h2]; exact h1
theorem row_set0 {w : World} {g c n k : Nat} {l : List QR} (h : w.ownsRow 0 37 8 (.slice (some ⟨g, 0, none⟩) n c) n (qL.cells l)) (hk : k < l.length) : w.ownsRow 0 37 8 (.slice (some ⟨g, 0, none⟩) n c) n (qL.cells (l.set k (qL.nth l k))) := by
  have e : l.set k (qL.nth l k) = l := qL.ext (by simp) fun j hj => by
    rw [qL.nth_set _ _ _ _ hk]; split
    · subst_vars; rfl
    · rfl
  rw [e]; exact h

def QS.grant (q : QS) (job badge node life : Int) : Int × QS :=
  if job < 1 ∨ (q.rows.length : Int) < job then (111, q) else if (qL.nth q.rows (job - 1).toNat).st ≠ 1 then (112, q)
  else if inB badge 1 1099511627776 = false ∨ 0 ≤ fIdx (QR.pGrant badge) q.rows then (113, q) else if holdB node life = false then (1, q)
  else (0, { q with rows := q.rows.set (job - 1).toNat { qL.nth q.rows (job - 1).toNat with st := 2, ba := badge, node := node, life := life, at_ := (qL.nth q.rows (job - 1).toNat).at_ + 1 } })

section
variable {W : Base} {w : World} {R : List Thing}

set_option maxHeartbeats 3200000 in
set_option maxRecDepth 100000 in
theorem st_grant (H : St W w R) (i : Nat) {Q : Nat} {q : QS} (hi : R[i]? = some (QkT Q q)) (hw : q.wf) (job badge node life : Int) :
    Calls Try.prog 17 #[.pointer (some ⟨Q, 0, none⟩), .int .i64 job, .int .i64 badge, .agg #[.int .i64 node, .int .i64 life]] w fun e w' => e = .returned (.int .i64 (q.grant job badge node life).1) ∧ St W w' (R.set i (QkT Q (q.grant job badge node life).2)) := by
  have hn8 := hw.n
  have hF0 : Fr [] w ((w.alloc (.cells #[.int .i64 badge] 3)).alloc (.cells #[.int .i64 node, .int .i64 life] 31)) := ((Fr.refl [] w).alloc _).alloc _
  have hb1 : ((w.alloc (.cells #[.int .i64 badge] 3)).alloc (.cells #[.int .i64 node, .int .i64 life] 31)).heap[w.heap.size]? = some (.cells #[.int .i64 badge] 3) := blk_alloc_lt _ (blk_alloc_at _ _ _ rfl)
  have hb2 : ((w.alloc (.cells #[.int .i64 badge] 3)).alloc (.cells #[.int .i64 node, .int .i64 life] 31)).heap[w.heap.size + 1]? = some (.cells #[.int .i64 node, .int .i64 life] 31) := blk_alloc_at _ _ _ (by simp)
  have HK := hid (fun (wx : World) (hx : Fr [] w wx) => (H.same hx).set_self hi)
  obtain ⟨F, ⟨rv, rfl, g1, g2⟩, _, hback⟩ := H.at i hi
  have hQo := ownsRow_ne g2 g1 (by decide)
  obtain ⟨a, c, rfl, hIn, _, hab⟩ := own_slice g2
  have HG := hid (And.intro g1 (And.intro g2 (And.intro hback (And.intro hQo hIn))))
  have c1 := cell_blk (i := 1) g1 rfl
  have hQ := lt_of_block g1
  clear g1 g2 hback hQo hIn
  by_cases hj : job < 1 ∨ (q.rows.length : Int) < job
  · have e : q.grant job badge node life = (111, q) := by unfold QS.grant; rw [if_pos hj]
    rw [e]
    have hin : inB job 1 q.rows.length = false := by unfold inB; simp; omega
    have HF := hid hF0
    clear e hj H hF0 hb1 hb2
    go_enter Try.func17, Try.ntmps17
    go_wp2_with fail
    refine (in_any _ _ _ _).mono ?_
    rw [hin]
    rintro e w1 ⟨rfl, rfl⟩
    go_wp2_with fail
    go_ret
    exact ⟨rfl, HK.out _ HF.out⟩
  have hin : inB job 1 q.rows.length = true := by unfold inB; simp; omega
  obtain ⟨k, rfl⟩ : ∃ k : Nat, job = k + 1 := ⟨(job - 1).toNat, by omega⟩
  have hk : k < q.rows.length := by omega
  have hkk : ((k : Int) + 1 - 1).toNat = k := by omega
  obtain ⟨gg, oo, rfl⟩ := HG.out.2.2.2.2.sm (by omega)
  obtain ⟨_, hoo⟩ := hab gg oo rfl
  subst hoo
  have hrc := qrow_cells (HG.out.2.2.2.2.fr0 hF0) k hk
  obtain ⟨_, r1, _⟩ := hrc
  rw [Nat.zero_add] at r1
  have hgl : gg < w.heap.size := World.block_lt_of_cell? w ⟨gg, 0 + k * 8, none⟩ (qrow_cells HG.out.2.2.2.2 k hk).1
  have HA := hid (And.intro hF0 (And.intro hb1 hb2))
  by_cases hst : (qL.nth q.rows k).st ≠ 1
  · have e : q.grant (k + 1) badge node life = (112, q) := by unfold QS.grant; rw [if_neg hj, hkk, if_pos hst]
    rw [e]
    have hs1 : ((qL.nth q.rows k).st == 1) = false := by rw [beq_eq_false_iff_ne]; exact hst
    have hs2 : ((qL.nth q.rows k).st != 1) = true := by rw [bne_iff_ne]; exact hst
    generalize (qL.nth q.rows k).st = s at r1 hs1 hs2
    clear e hj H hF0 hb1 hb2 hst
    go_enter Try.func17, Try.ntmps17
    go_wp2_with fail
    refine (in_any _ _ _ _).mono ?_
    rw [hin]
    rintro e w1 ⟨rfl, rfl⟩
    go_wp2_with fail
    go_ret
    exact ⟨rfl, HK.out _ HA.out.1⟩
  have hst1 : (qL.nth q.rows k).st = 1 := by omega
  rw [hst1] at r1
  have HFst := hid (first_any ((w.alloc (.cells #[.int .i64 badge] 3)).alloc (.cells #[.int .i64 node, .int .i64 life] 31)) (some ⟨gg, 0, none⟩) c _ q.rows rfl (HG.out.2.2.2.2.fr0 hF0) 35 #[.pointer (some ⟨w.heap.size, 0, none⟩)] (QR.pGrant badge) enter_grant1 (fun x wx hx => grant1_any wx x _ badge (hx.cell0 (cell_blk hb1 rfl))))
  cases hib : inB badge 1 1099511627776
  case false =>
    have e : q.grant (k + 1) badge node life = (113, q) := by unfold QS.grant; rw [if_neg hj, hkk, if_neg hst, if_pos (.inl hib)]
    rw [e]
    clear e hj H hF0 hb1 hb2 hst hst1
    go_enter Try.func17, Try.ntmps17
    go_wp2_with fail
    refine (in_any _ _ _ _).mono ?_
    rw [hin]
    rintro e w1 ⟨rfl, rfl⟩
    go_wp2_with fail
    refine (in_any _ _ _ _).mono ?_
    rw [hib]
    rintro e w1 ⟨rfl, rfl⟩
    go_wp2_with fail
    go_ret
    exact ⟨rfl, HK.out _ HA.out.1⟩
  by_cases hfi : 0 ≤ fIdx (QR.pGrant badge) q.rows
  · have e : q.grant (k + 1) badge node life = (113, q) := by unfold QS.grant; rw [if_neg hj, hkk, if_neg hst, if_pos (.inr hfi)]
    rw [e]
    generalize fIdx (QR.pGrant badge) q.rows = z at HFst hfi
    clear e hj H hF0 hb1 hb2 hst hst1
    go_enter Try.func17, Try.ntmps17
    go_wp2_with fail
    refine (in_any _ _ _ _).mono ?_
    rw [hin]
    rintro e w1 ⟨rfl, rfl⟩
    go_wp2_with fail
    refine (in_any _ _ _ _).mono ?_
    rw [hib]
    rintro e w1 ⟨rfl, rfl⟩
    go_wp2_with fail
    refine HFst.out.mono ?_
    rintro e w2 ⟨rfl, hF2⟩
    have HF2 := hid (HA.out.1.trans hF2)
    clear hF2
    go_wp2_with fail
    go_ret
    exact ⟨rfl, HK.out _ HF2.out⟩
  have hfi2 : fIdx (QR.pGrant badge) q.rows = -1 := by have := fIdx_bd (QR.pGrant badge) q.rows; omega
  rw [hfi2] at HFst
  have hnot : ¬ (inB badge 1 1099511627776 = false ∨ 0 ≤ fIdx (QR.pGrant badge) q.rows) := by rw [hib]; simp; omega
  cases hho : holdB node life
  case false =>
    have e : q.grant (k + 1) badge node life = (1, q) := by unfold QS.grant; rw [if_neg hj, hkk, if_neg hst, if_neg hnot, if_pos hho]
    rw [e]
    clear e hj H hF0 hb1 hb2 hst hst1 hnot hfi hfi2
    go_enter Try.func17, Try.ntmps17
    go_wp2_with fail
    refine (in_any _ _ _ _).mono ?_
    rw [hin]
    rintro e w1 ⟨rfl, rfl⟩
    go_wp2_with fail
    refine (in_any _ _ _ _).mono ?_
    rw [hib]
    rintro e w1 ⟨rfl, rfl⟩
    go_wp2_with fail
    refine HFst.out.mono ?_
    rintro e w2 ⟨rfl, hF2⟩
    have a0 := cell_blk (i := 0) (hF2.keep HA.out.2.2 (by simp)) rfl
    have a1 := cell_blk (i := 1) (hF2.keep HA.out.2.2 (by simp)) rfl
    have HF2 := hid (HA.out.1.trans hF2)
    clear hF2
    go_wp2_with fail
    refine (holder_any _ _ _).mono ?_
    rw [hho]
    rintro e w3 ⟨rfl, hF3⟩
    have HF3 := hid (HF2.out.trans hF3)
    clear hF3
    go_wp2_with fail
    go_ret
    exact ⟨rfl, HK.out _ HF3.out⟩
  have e : q.grant (k + 1) badge node life = (0, { q with rows := q.rows.set k { qL.nth q.rows k with st := 2, ba := badge, node := node, life := life, at_ := (qL.nth q.rows k).at_ + 1 } }) := by
    unfold QS.grant; rw [if_neg hj, hkk, if_neg hst, if_neg hnot, if_neg (by rw [hho]; simp)]
  rw [e]
  have hmf := may_facts (hw.ok k hk)
  have hat0 := hmf.2.1
  have hat1 := hmf.2.2.1
  have ha2 := hw.a2
  clear e hj H hF0 hb1 hb2 hst hnot hfi hfi2 hmf
  go_enter Try.func17, Try.ntmps17
  go_wp2_with fail
  refine (in_any _ _ _ _).mono ?_
  rw [hin]
  rintro e w1 ⟨rfl, rfl⟩
  go_wp2_with fail
  refine (in_any _ _ _ _).mono ?_
  rw [hib]
  rintro e w1 ⟨rfl, rfl⟩
  go_wp2_with fail
  refine HFst.out.mono ?_
  rintro e w2 ⟨rfl, hF2⟩
  have a0 := cell_blk (i := 0) (hF2.keep HA.out.2.2 (by simp)) rfl
  have a1 := cell_blk (i := 1) (hF2.keep HA.out.2.2 (by simp)) rfl
  have HF2 := hid (And.intro (HA.out.1.trans hF2) hF2)
  clear hF2
  go_wp2_with fail
  refine (holder_any _ _ _).mono ?_
  rw [hho]
  rintro e w3 ⟨rfl, hF3⟩
  have HF3 := hid (HF2.out.1.trans hF3)
  have hA3 := HF2.out.2.trans hF3
  have d0 := cell_blk (i := 0) (hA3.keep HA.out.2.2 (by simp)) rfl
  have d1 := cell_blk (i := 1) (hA3.keep HA.out.2.2 (by simp)) rfl
  have d2 := cell_blk (i := 0) (hA3.keep HA.out.2.1 (by simp)) rfl
  have q1 := HF3.out.cell0 c1
  have hrow3 := ownsRow_keep (S := []) HG.out.2.1 HF3.out (by simp)
  obtain ⟨r0, s1, r2, r3, r4, r5, r6, r7⟩ := qrow_cells (HG.out.2.2.2.2.fr0 HF3.out) k hk
  rw [Nat.zero_add] at r0 s1 r2 r3 r4 r5 r6 r7
  have hfz : ∀ j, w3.frozen? ⟨gg, j, none⟩ = false := by
    rcases hrow3.2 with ⟨h, _⟩ | ⟨g', cap', cur, hv, _, hh, _⟩
    · cases h
    · cases hv; exact fun j => free_blk hh
  have f1 := hfz (k * 8 + 1)
  have f2 := hfz (k * 8 + 2)
  have f3 := hfz (k * 8 + 3)
  have f4 := hfz (k * 8 + 4)
  have f5 := hfz (k * 8 + 5)
  have hg1 : gg ≠ w.heap.size := by omega
  have hg2 : gg ≠ w.heap.size + 1 := by omega
  have HR3 := hid hrow3
  clear hF3 hA3 hrow3 hfz r1 a0 a1
  go_wp2_with fail
  go_region
  have hln : (q.rows).length = q.rows.length := rfl
  have hr4 : ((((w3.setCell ⟨gg, k * 8 + 1, none⟩ (.int .i64 2)).setCell ⟨gg, k * 8 + 3, none⟩ (.int .i64 badge)).setCell ⟨gg, k * 8 + 4, none⟩ (.int .i64 node)).setCell ⟨gg, k * 8 + 4 + 1, none⟩ (.int .i64 life)).ownsRow 0 37 8 (.slice (some ⟨gg, 0, none⟩) q.rows.length c) q.rows.length (qL.cells (q.rows.set k { qL.nth q.rows k with st := 2, ba := badge, node := node, life := life })) :=
    row_setk (q := 5) (y := { qL.nth q.rows k with st := 2, ba := badge, node := node }) (row_setk (q := 4) (y := { qL.nth q.rows k with st := 2, ba := badge }) (row_setk (q := 3) (y := { qL.nth q.rows k with st := 2 }) (row_setk (q := 1) (row_set0 HR3.out hk) hk (by decide) rfl) hk (by decide) rfl) hk (by decide) rfl) hk (by decide) rfl
  have hF4 : Fr [gg] w3 ((((w3.setCell ⟨gg, k * 8 + 1, none⟩ (.int .i64 2)).setCell ⟨gg, k * 8 + 3, none⟩ (.int .i64 badge)).setCell ⟨gg, k * 8 + 4, none⟩ (.int .i64 node)).setCell ⟨gg, k * 8 + 4 + 1, none⟩ (.int .i64 life)) := ((((Fr.refl _ w3).setCell (.inl (by simp)) _).setCell (.inl (by simp)) _).setCell (.inl (by simp)) _).setCell (.inl (by simp)) _
  generalize (((w3.setCell ⟨gg, k * 8 + 1, none⟩ (.int .i64 2)).setCell ⟨gg, k * 8 + 3, none⟩ (.int .i64 badge)).setCell ⟨gg, k * 8 + 4, none⟩ (.int .i64 node)).setCell ⟨gg, k * 8 + 4 + 1, none⟩ (.int .i64 life) = w4 at hr4 hF4 ⊢
  obtain ⟨_, _, t2, _⟩ := qrow_cells (l := q.rows.set k { qL.nth q.rows k with st := 2, ba := badge, node := node, life := life }) (ownsRow_in hr4 (qL.at_ (q.rows.set k { qL.nth q.rows k with st := 2, ba := badge, node := node, life := life })) (fun j hj => qL.get _ j (by rw [List.length_set]; exact hj))) k hk
  rw [qL.nth_set _ _ _ _ hk, if_pos rfl, Nat.zero_add] at t2
  have g2 : w4.frozen? ⟨gg, k * 8 + 2, none⟩ = false := by
    rcases hr4.2 with ⟨h, _⟩ | ⟨g', cap', cur, hv, _, hh, _⟩
    · cases h
    · cases hv; exact free_blk hh
  have HR4 := hid (And.intro hr4 hF4)
  clear hr4 hF4 r0 s1 r2 r3 r4 r5 r6 r7 f1 f2 f3 f4 f5 d0 d1 d2 q1
  simp only [] at t2
  go_wp2_with fail
  go_ret
  obtain ⟨y1, y2, hback, y4, y5⟩ := HG.out
  have hr5 := row_setk (q := 2) (x := { qL.nth q.rows k with st := 2, ba := badge, node := node, life := life, at_ := (qL.nth q.rows k).at_ + 1 }) (v := .int .i64 ((qL.nth q.rows k).at_ + 1)) HR4.out.1 hk (by decide) rfl
  have hF5 : Fr (Q :: (Value.slice (some ⟨gg, 0, none⟩) q.rows.length c).ownBlock.toList) w (w4.setCell ⟨gg, k * 8 + 2, none⟩ (.int .i64 ((qL.nth q.rows k).at_ + 1))) :=
    ((HF3.out.mono (by simp)).step HR4.out.2 (fun x hx => .inl (by simp at hx; subst hx; simp [Value.ownBlock]))).setCell (.inl (by simp [Value.ownBlock])) _
  have hgQ : Q ≠ gg := fun h => y4 (by subst h; simp [Value.ownBlock])
  have hQ5 : (w4.setCell ⟨gg, k * 8 + 2, none⟩ (.int .i64 ((qL.nth q.rows k).at_ + 1))).heap[Q]? = some (.cells #[.int .i64 q.att, .slice (some ⟨gg, 0, none⟩) q.rows.length c] 69 (0, 0)) :=
    blk_setCell_ne _ (HR4.out.2.keep (HF3.out.keep y1 (by simp)) (by simpa using hgQ)) hgQ
  refine ⟨rfl, (hback _ (Q :: (Value.slice (some ⟨gg, 0, none⟩) q.rows.length c).ownBlock.toList) (Qk1 Q { q with rows := q.rows.set k { qL.nth q.rows k with st := 2, ba := badge, node := node, life := life, at_ := (qL.nth q.rows k).at_ + 1 } }) inferInstance ⟨.slice (some ⟨gg, 0, none⟩) q.rows.length c, rfl, hQ5, ?_⟩ hF5 (fun x hx => .inl hx)).drew⟩
  simp only [List.length_set]
  exact hr5
end

end Go.Proofs.Ythdcpenhfccagaa
