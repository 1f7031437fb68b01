/-
  Expire, Settle of the package queue.
-/
import Derived.Test.YthdcpenhfccagaaQ6
namespace Go.Proofs.Ythdcpenhfccagaa
open Go.RowKit
set_option linter.unusedVariables false
set_option linter.unusedSimpArgs false

def QS.expire (q : QS) (b : Int) : Int × Int × QS :=
  if fIdx (QR.pHeld b) q.rows < 0 then (0, 113, q)
  else ((qL.nth q.rows (fIdx (QR.pHeld b) q.rows).toNat).job, 0, { q with rows := q.rows.set (fIdx (QR.pHeld b) q.rows).toNat { qL.nth q.rows (fIdx (QR.pHeld b) q.rows).toNat with st := if q.att ≤ (qL.nth q.rows (fIdx (QR.pHeld b) q.rows).toNat).at_ then 4 else 1, node := 0, life := 0 } })
def QS.settle (q : QS) (b code bits : Int) : Int × Int × QS :=
  if fIdx (QR.pHeld b) q.rows < 0 then (0, 113, q) else if resB code bits = false then (0, 1, q)
  else ((qL.nth q.rows (fIdx (QR.pHeld b) q.rows).toNat).job, 0, { q with rows := q.rows.set (fIdx (QR.pHeld b) q.rows).toNat { qL.nth q.rows (fIdx (QR.pHeld b) q.rows).toNat with st := 3, node := 0, life := 0, code := code, bits := bits } })

section
variable {W : Base} {w : World} {R : List Thing}

set_option maxHeartbeats 3200000 in
set_option maxRecDepth 100000 in
theorem st_expire (H : St W w R) (i : Nat) {Q : Nat} {q : QS} (hi : R[i]? = some (QkT Q q)) (hw : q.wf) (b : Int) :
    Calls Try.prog 18 #[.pointer (some ⟨Q, 0, none⟩), .int .i64 b] w fun e w' => e = .returned (.tuple #[.int .i64 (q.expire b).1, .int .i64 (q.expire b).2.1]) ∧ St W w' (R.set i (QkT Q (q.expire b).2.2)) := by
  have hn8 := hw.n
  have HK := hid (fun (wx : World) (hx : Fr [] w wx) => (H.same hx).set_self hi)
  obtain ⟨F, ⟨rv, rfl, g1, g2⟩, _, hback⟩ := H.at i hi
  have hQo := ownsRow_ne g2 g1 (by decide)
  obtain ⟨a, c, rfl, hIn, _, hab⟩ := own_slice g2
  have HG := hid (And.intro g1 (And.intro g2 (And.intro hback (And.intro hQo hIn))))
  have c0 := cell_blk (i := 0) g1 rfl
  have c1 := cell_blk (i := 1) g1 rfl
  have hQ := lt_of_block g1
  have hbd := fIdx_bd (QR.pHeld b) q.rows
  clear g1 g2 hback hQo hIn
  by_cases hneg : fIdx (QR.pHeld b) q.rows < 0
  · have e : q.expire b = (0, 113, q) := by unfold QS.expire; rw [if_pos hneg]
    rw [e]
    have HH := hid (held_none w Q _ c a q.rows rfl c1 HG.out.2.2.2.2 b (by omega))
    clear e H hneg hbd
    go_enter Try.func18, Try.ntmps18
    go_wp2_with fail
    refine HH.out.mono ?_
    rintro e w1 ⟨rfl, hF1⟩
    have HF1 := hid hF1
    clear hF1
    go_wp2_with fail
    go_ret2
    exact ⟨rfl, HK.out _ HF1.out⟩
  obtain ⟨k, hfk⟩ : ∃ k : Nat, fIdx (QR.pHeld b) q.rows = k := ⟨(fIdx (QR.pHeld b) q.rows).toNat, by omega⟩
  have hk : k < q.rows.length := by omega
  obtain ⟨gg, oo, rfl⟩ := HG.out.2.2.2.2.sm (by omega)
  obtain ⟨_, hoo⟩ := hab gg oo rfl
  subst hoo
  have hgQ : Q ≠ gg := fun h => HG.out.2.2.2.1 (by subst h; simp [Value.ownBlock])
  have hmf := may_facts (hw.ok k hk)
  have e : q.expire b = ((qL.nth q.rows k).job, 0, { q with rows := q.rows.set k { qL.nth q.rows k with st := if q.att ≤ (qL.nth q.rows k).at_ then 4 else 1, node := 0, life := 0 } }) := by
    unfold QS.expire; rw [if_neg hneg, hfk]; rfl
  rw [e]
  have HH := hid (held_some w Q _ c gg q.rows rfl hn8 c1 HG.out.2.2.2.2 b k hk hfk)
  clear e H hneg hbd hmf hfk
  go_enter Try.func18, Try.ntmps18
  go_wp2_with fail
  refine HH.out.mono ?_
  rintro e w3 ⟨rfl, hF3⟩
  have HF3 := hid hF3
  have q0 := hF3.cell0 c0
  have q1 := hF3.cell0 c1
  have hrow3 := ownsRow_keep (S := []) HG.out.2.1 hF3 (by simp)
  obtain ⟨r0, r1, r2, r3, r4, r5, r6, r7⟩ := qrow_cells (HG.out.2.2.2.2.fr0 hF3) k hk
  rw [Nat.zero_add] at r0 r1 r2 r3 r4 r5 r6 r7
  have hfz : ∀ j, w3.frozen? ⟨gg, j, none⟩ = false := by
    rcases hrow3.2 with ⟨h, _⟩ | ⟨g', cap', cur, hv, _, hh, _⟩
    · cases h
    · cases hv; exact fun j => free_blk hh
  have f1 := hfz (k * 8 + 1)
  have f4 := hfz (k * 8 + 4)
  have f5 := hfz (k * 8 + 5)
  have f6 := hfz (k * 8 + 6)
  have f7 := hfz (k * 8 + 7)
  have HR3 := hid hrow3
  clear hrow3 hfz
  clear hF3
  have hr4 : ((((w3.setCell ⟨gg, k * 8 + 1, none⟩ (.int .i64 1)).setCell ⟨gg, k * 8 + 4, none⟩ (.int .i64 0)).setCell ⟨gg, k * 8 + 4 + 1, none⟩ (.int .i64 0))).ownsRow 0 37 8 (.slice (some ⟨gg, 0, none⟩) q.rows.length c) q.rows.length (qL.cells (q.rows.set k { qL.nth q.rows k with st := 1, node := 0, life := 0 })) :=
    row_setk (q := 5) (y := { qL.nth q.rows k with st := 1, node := 0 }) (row_setk (q := 4) (y := { qL.nth q.rows k with st := 1 }) (row_setk (q := 1) (row_set0 HR3.out hk) hk (by decide) rfl) hk (by decide) rfl) hk (by decide) rfl
  have hF4 : Fr [gg] w3 ((((w3.setCell ⟨gg, k * 8 + 1, none⟩ (.int .i64 1)).setCell ⟨gg, k * 8 + 4, none⟩ (.int .i64 0)).setCell ⟨gg, k * 8 + 4 + 1, none⟩ (.int .i64 0))) := (((Fr.refl _ w3).setCell (.inl (by simp)) _).setCell (.inl (by simp)) _).setCell (.inl (by simp)) _
  have HR4 := hid (And.intro hr4 hF4)
  clear hr4 hF4
  go_wp2_with fail
  generalize (((w3.setCell ⟨gg, k * 8 + 1, none⟩ (.int .i64 1)).setCell ⟨gg, k * 8 + 4, none⟩ (.int .i64 0)).setCell ⟨gg, k * 8 + 4 + 1, none⟩ (.int .i64 0)) = w4 at HR4 ⊢
  have hI4 := ownsRow_in HR4.out.1 (qL.at_ (q.rows.set k { qL.nth q.rows k with st := 1, node := 0, life := 0 })) (fun j hj => qL.get _ j (by rw [List.length_set]; exact hj))
  clear r0 r1 r2 r3 r4 r5 r6 r7 f1 f4 f5 f6 f7 q0 q1
  obtain ⟨r0, r1, r2, r3, r4, r5, r6, r7⟩ := qrow_cells (l := q.rows.set k { qL.nth q.rows k with st := 1, node := 0, life := 0 }) hI4 k hk
  rw [qL.nth_set _ _ _ _ hk, if_pos rfl, Nat.zero_add] at r0 r1 r2
  simp only [] at r0 r1 r2
  have hQ4 := HR4.out.2.keep (HF3.out.keep HG.out.1 (by simp)) (by simpa using hgQ)
  have q0 := cell_blk (i := 0) hQ4 rfl
  have f1 : w4.frozen? ⟨gg, k * 8 + 1, none⟩ = false := by
    rcases HR4.out.1.2 with ⟨h, _⟩ | ⟨g', cap', cur, hv, _, hh, _⟩
    · cases h
    · cases hv; exact free_blk hh
  have HQ4 := hid hQ4
  clear hI4 hQ4 r3 r4 r5 r6 r7
  go_region_held3 (fun wx : World => wx.cell? ⟨gg, k * 8 + 2, none⟩ = some (.int .i64 (qL.nth q.rows k).at_) ∧ wx.cell? ⟨Q, 0, none⟩ = some (.int .i64 q.att)) ((exact ⟨r2, q0⟩)) (fail)
  by_cases hge : q.att ≤ (qL.nth q.rows k).at_
  · have HGe := hid hge
    generalize hgj : (qL.nth q.rows k).job = jb at r0
    have HJb := hid hgj
    clear hgj
    go_wp2_with fail
    go_ret2
    obtain ⟨y1, y2, hback, y4, y5⟩ := HG.out
    have hr5 := row_setk (q := 1) (x := { qL.nth q.rows k with st := 4, node := 0, life := 0 }) (v := .int .i64 4) HR4.out.1 hk (by decide) rfl
    have hF5 : Fr (Q :: (Value.slice (some ⟨gg, 0, none⟩) q.rows.length c).ownBlock.toList) w (w4.setCell ⟨gg, k * 8 + 1, none⟩ (.int .i64 4)) :=
      ((HF3.out.mono (by simp)).step HR4.out.2 (fun x hx => .inl (by simp at hx; subst hx; simp [Value.ownBlock]))).setCell (.inl (by simp [Value.ownBlock])) _
    try rw [if_pos HGe.out]
    refine ⟨by rw [HJb.out]; rfl, (hback _ (Q :: (Value.slice (some ⟨gg, 0, none⟩) q.rows.length c).ownBlock.toList) (Qk1 Q { q with rows := q.rows.set k { qL.nth q.rows k with st := 4, node := 0, life := 0 } }) inferInstance ⟨.slice (some ⟨gg, 0, none⟩) q.rows.length c, rfl, blk_setCell_ne _ HQ4.out hgQ, ?_⟩ hF5 (fun x hx => .inl hx)).drew⟩
    simp only [List.length_set]
    exact hr5
  · have HGe := hid hge
    have hge2 : (qL.nth q.rows k).at_ < q.att := by omega
    generalize hgj : (qL.nth q.rows k).job = jb at r0
    have HJb := hid hgj
    clear hgj
    go_wp2_with fail
    go_ret2
    obtain ⟨y1, y2, hback, y4, y5⟩ := HG.out
    have hF5 : Fr (Q :: (Value.slice (some ⟨gg, 0, none⟩) q.rows.length c).ownBlock.toList) w w4 :=
      (HF3.out.mono (by simp)).step HR4.out.2 (fun x hx => .inl (by simp at hx; subst hx; simp [Value.ownBlock]))
    try rw [if_neg HGe.out]
    refine ⟨by rw [HJb.out]; rfl, (hback w4 (Q :: (Value.slice (some ⟨gg, 0, none⟩) q.rows.length c).ownBlock.toList) (Qk1 Q { q with rows := q.rows.set k { qL.nth q.rows k with st := 1, node := 0, life := 0 } }) inferInstance ⟨.slice (some ⟨gg, 0, none⟩) q.rows.length c, rfl, HQ4.out, ?_⟩ hF5 (fun x hx => .inl hx)).drew⟩
    simp only [List.length_set]
    exact HR4.out.1

set_option maxHeartbeats 3200000 in
set_option maxRecDepth 100000 in
theorem st_settle (H : St W w R) (i : Nat) {Q : Nat} {q : QS} (hi : R[i]? = some (QkT Q q)) (hw : q.wf) (b code bits : Int) :
    Calls Try.prog 29 #[.pointer (some ⟨Q, 0, none⟩), .int .i64 b, .agg #[.int .i64 code, .int .u64 bits]] w fun e w' => e = .returned (.tuple #[.int .i64 (q.settle b code bits).1, .int .i64 (q.settle b code bits).2.1]) ∧ St W w' (R.set i (QkT Q (q.settle b code bits).2.2)) := by
  have hn8 := hw.n
  have HK := hid (fun (wx : World) (hx : Fr [] w wx) => (H.same hx).set_self hi)
  obtain ⟨F, ⟨rv, rfl, g1, g2⟩, _, hback⟩ := H.at i hi
  have hQo := ownsRow_ne g2 g1 (by decide)
  obtain ⟨a, c, rfl, hIn, _, hab⟩ := own_slice g2
  have HG := hid (And.intro g1 (And.intro g2 (And.intro hback (And.intro hQo hIn))))
  have c0 := cell_blk (i := 0) g1 rfl
  have c1 := cell_blk (i := 1) g1 rfl
  have hQ := lt_of_block g1
  have hbd := fIdx_bd (QR.pHeld b) q.rows
  clear g1 g2 hback hQo hIn
  have hF0 : Fr [] w (w.alloc (.cells #[.int .i64 code, .int .u64 bits] 35)) := (Fr.refl [] w).alloc _
  have hX0 : (w.alloc (.cells #[.int .i64 code, .int .u64 bits] 35)).heap[w.heap.size]? = some (.cells #[.int .i64 code, .int .u64 bits] 35) := blk_alloc_at _ _ _ rfl
  have HA := hid (And.intro hF0 hX0)
  by_cases hneg : fIdx (QR.pHeld b) q.rows < 0
  · have e : q.settle b code bits = (0, 113, q) := by unfold QS.settle; rw [if_pos hneg]
    rw [e]
    have HH := hid (held_none (w.alloc (.cells #[.int .i64 code, .int .u64 bits] 35)) Q _ c a q.rows rfl (hF0.cell0 c1) (HG.out.2.2.2.2.fr0 hF0) b (by omega))
    clear e H hneg hbd hF0 hX0
    go_enter Try.func29, Try.ntmps29
    go_wp2_with fail
    refine HH.out.mono ?_
    rintro e w1 ⟨rfl, hF1⟩
    have HF1 := hid (HA.out.1.trans hF1)
    clear hF1
    go_wp2_with fail
    go_ret2
    exact ⟨rfl, HK.out _ HF1.out⟩
  obtain ⟨k, hfk⟩ : ∃ k : Nat, fIdx (QR.pHeld b) q.rows = k := ⟨(fIdx (QR.pHeld b) q.rows).toNat, by omega⟩
  have hk : k < q.rows.length := by omega
  obtain ⟨gg, oo, rfl⟩ := HG.out.2.2.2.2.sm (by omega)
  obtain ⟨_, hoo⟩ := hab gg oo rfl
  subst hoo
  have hgQ : Q ≠ gg := fun h => HG.out.2.2.2.1 (by subst h; simp [Value.ownBlock])
  have HH := hid (held_some (w.alloc (.cells #[.int .i64 code, .int .u64 bits] 35)) Q _ c gg q.rows rfl hn8 (hF0.cell0 c1) (HG.out.2.2.2.2.fr0 hF0) b k hk hfk)
  cases hrs : resB code bits
  case false =>
    have e : q.settle b code bits = (0, 1, q) := by unfold QS.settle; rw [if_neg hneg, if_pos hrs]
    rw [e]
    clear e H hneg hbd hfk hF0 hX0
    go_enter Try.func29, Try.ntmps29
    go_wp2_with fail
    refine HH.out.mono ?_
    rintro e w1 ⟨rfl, hF1⟩
    have x0 := cell_blk (i := 0) (hF1.keep HA.out.2 (by simp)) rfl
    have x1 := cell_blk (i := 1) (hF1.keep HA.out.2 (by simp)) rfl
    have HF1 := hid (HA.out.1.trans hF1)
    clear hF1
    go_wp2_with fail
    refine (result_any _ _ _).mono ?_
    rw [hrs]
    rintro e w2 ⟨rfl, hF2⟩
    have HF2 := hid (HF1.out.trans hF2)
    clear hF2
    go_wp2_with fail
    go_ret2
    exact ⟨rfl, HK.out _ HF2.out⟩
  have e : q.settle b code bits = ((qL.nth q.rows k).job, 0, { q with rows := q.rows.set k { qL.nth q.rows k with st := 3, node := 0, life := 0, code := code, bits := bits } }) := by
    unfold QS.settle; rw [if_neg hneg, if_neg (by rw [hrs]; simp), hfk]; rfl
  rw [e]
  clear e H hneg hbd hfk hF0 hX0
  go_enter Try.func29, Try.ntmps29
  go_wp2_with fail
  refine HH.out.mono ?_
  rintro e w2 ⟨rfl, hF2⟩
  have x0 := cell_blk (i := 0) (hF2.keep HA.out.2 (by simp)) rfl
  have x1 := cell_blk (i := 1) (hF2.keep HA.out.2 (by simp)) rfl
  have HF2 := hid (And.intro (HA.out.1.trans hF2) hF2)
  clear hF2
  go_wp2_with fail
  refine (result_any _ _ _).mono ?_
  rw [hrs]
  rintro e w3 ⟨rfl, hF3'⟩
  have hF3 := HF2.out.1.trans hF3'
  have HF3 := hid hF3
  clear x0 x1
  have x0 := cell_blk (i := 0) ((HF2.out.2.trans hF3').keep HA.out.2 (by simp)) rfl
  have x1 := cell_blk (i := 1) ((HF2.out.2.trans hF3').keep HA.out.2 (by simp)) rfl
  have q0 := hF3.cell0 c0
  have q1 := hF3.cell0 c1
  have hrow3 := ownsRow_keep (S := []) HG.out.2.1 hF3 (by simp)
  obtain ⟨r0, r1, r2, r3, r4, r5, r6, r7⟩ := qrow_cells (HG.out.2.2.2.2.fr0 hF3) k hk
  rw [Nat.zero_add] at r0 r1 r2 r3 r4 r5 r6 r7
  have hfz : ∀ j, w3.frozen? ⟨gg, j, none⟩ = false := by
    rcases hrow3.2 with ⟨h, _⟩ | ⟨g', cap', cur, hv, _, hh, _⟩
    · cases h
    · cases hv; exact fun j => free_blk hh
  have f1 := hfz (k * 8 + 1)
  have f4 := hfz (k * 8 + 4)
  have f5 := hfz (k * 8 + 5)
  have f6 := hfz (k * 8 + 6)
  have f7 := hfz (k * 8 + 7)
  have HR3 := hid hrow3
  clear hrow3 hfz
  have hgw : gg ≠ w.heap.size := by have := World.block_lt_of_cell? w ⟨gg, 0 + k * 8, none⟩ (qrow_cells HG.out.2.2.2.2 k hk).1; simp only [] at this; omega
  clear hF3 hF3'
  go_wp2_with fail
  go_region
  have hr4 : ((((((w3.setCell ⟨gg, k * 8 + 1, none⟩ (.int .i64 3)).setCell ⟨gg, k * 8 + 4, none⟩ (.int .i64 0)).setCell ⟨gg, k * 8 + 4 + 1, none⟩ (.int .i64 0)).setCell ⟨gg, k * 8 + 6, none⟩ (.int .i64 code)).setCell ⟨gg, k * 8 + 6 + 1, none⟩ (.int .u64 bits))).ownsRow 0 37 8 (.slice (some ⟨gg, 0, none⟩) q.rows.length c) q.rows.length (qL.cells (q.rows.set k { qL.nth q.rows k with st := 3, node := 0, life := 0, code := code, bits := bits })) :=
    row_setk (q := 7) (y := { qL.nth q.rows k with st := 3, node := 0, life := 0, code := code }) (row_setk (q := 6) (y := { qL.nth q.rows k with st := 3, node := 0, life := 0 }) (row_setk (q := 5) (y := { qL.nth q.rows k with st := 3, node := 0 }) (row_setk (q := 4) (y := { qL.nth q.rows k with st := 3 }) (row_setk (q := 1) (row_set0 HR3.out hk) hk (by decide) rfl) hk (by decide) rfl) hk (by decide) rfl) hk (by decide) rfl) hk (by decide) rfl
  have hF4 : Fr [gg] w3 ((((((w3.setCell ⟨gg, k * 8 + 1, none⟩ (.int .i64 3)).setCell ⟨gg, k * 8 + 4, none⟩ (.int .i64 0)).setCell ⟨gg, k * 8 + 4 + 1, none⟩ (.int .i64 0)).setCell ⟨gg, k * 8 + 6, none⟩ (.int .i64 code)).setCell ⟨gg, k * 8 + 6 + 1, none⟩ (.int .u64 bits))) := (((((Fr.refl _ w3).setCell (.inl (by simp)) _).setCell (.inl (by simp)) _).setCell (.inl (by simp)) _).setCell (.inl (by simp)) _).setCell (.inl (by simp)) _
  have HR4 := hid (And.intro hr4 hF4)
  clear hr4 hF4
  generalize (((((w3.setCell ⟨gg, k * 8 + 1, none⟩ (.int .i64 3)).setCell ⟨gg, k * 8 + 4, none⟩ (.int .i64 0)).setCell ⟨gg, k * 8 + 4 + 1, none⟩ (.int .i64 0)).setCell ⟨gg, k * 8 + 6, none⟩ (.int .i64 code)).setCell ⟨gg, k * 8 + 6 + 1, none⟩ (.int .u64 bits)) = w4 at HR4 ⊢
  have hI4 := ownsRow_in HR4.out.1 (qL.at_ (q.rows.set k { qL.nth q.rows k with st := 3, node := 0, life := 0, code := code, bits := bits })) (fun j hj => qL.get _ j (by rw [List.length_set]; exact hj))
  clear r0 r1 r2 r3 r4 r5 r6 r7 f1 f4 f5 f6 f7 q0 q1 x0 x1
  obtain ⟨r0, r1, r2, r3, r4, r5, r6, r7⟩ := qrow_cells (l := q.rows.set k { qL.nth q.rows k with st := 3, node := 0, life := 0, code := code, bits := bits }) hI4 k hk
  rw [qL.nth_set _ _ _ _ hk, if_pos rfl, Nat.zero_add] at r0
  simp only [] at r0
  clear hI4 r1 r2 r3 r4 r5 r6 r7
  generalize hgj : (qL.nth q.rows k).job = jb at r0
  have HJb := hid hgj
  clear hgj
  go_wp2_with fail
  go_ret2
  obtain ⟨y1, y2, hback, y4, y5⟩ := HG.out
  have hQ4 := HR4.out.2.keep (HF3.out.keep HG.out.1 (by simp)) (by simpa using hgQ)
  have hF5 : Fr (Q :: (Value.slice (some ⟨gg, 0, none⟩) q.rows.length c).ownBlock.toList) w w4 :=
    (HF3.out.mono (by simp)).step HR4.out.2 (fun x hx => .inl (by simp at hx; subst hx; simp [Value.ownBlock]))
  refine ⟨by rw [HJb.out]; rfl, (hback w4 (Q :: (Value.slice (some ⟨gg, 0, none⟩) q.rows.length c).ownBlock.toList) (Qk1 Q { q with rows := q.rows.set k { qL.nth q.rows k with st := 3, node := 0, life := 0, code := code, bits := bits } }) inferInstance ⟨.slice (some ⟨gg, 0, none⟩) q.rows.length c, rfl, hQ4, ?_⟩ hF5 (fun x hx => .inl hx)).drew⟩
  simp only [List.length_set]
  exact HR4.out.1
end

end Go.Proofs.Ythdcpenhfccagaa
