/-
  StateKeeps: the walk.
-/
import Derived.Test.YtmgnekjhlfghaaaGreatM27
import Derived.Test.YtmgnekjhlfghaaaGreatM24
namespace Go.Proofs.YtmgnekjhlfghaaaGreat
open Go.RowKit
set_option linter.unusedVariables false
set_option linter.unusedSimpArgs false

set_option maxHeartbeats 1000000 in
set_option maxRecDepth 100000 in
theorem stateKeeps_walk (w : World) (a : Option Addr) (nl cap : Nat) (l : List (CV × TS)) (hC0 : ChArg w a nl cap l) :
    Calls Tryz.prog 3 #[.slice a nl cap] w fun e w' => e = .returned (.bool true) ∧ Fr [] w w' := by
  have hC := hC0.ch
  have hle := hC0.le
  have hmx := hC.row.max
  clear hC0
  have hlen := hid hC.len
  have HC := hid hC
  have HLE := hid hle
  have H := St.refl w
  clear hC hle
  go_enter Tryz.func3, Tryz.ntmps3
  go_wp2_with fail
  refine (st_snew H 8 (by omega) (by omega)).mono ?_
  clear H
  rintro e w101 ⟨S, rfl, H⟩
  try simp only [List.nil_append, List.cons_append, List.set_cons_zero, List.set_cons_succ] at H
  go_wp2_with fail
  refine (st_tnew H 8 (by omega) (by omega)).mono ?_
  clear H
  rintro e w102 ⟨X, rfl, H⟩
  try simp only [List.nil_append, List.cons_append, List.set_cons_zero, List.set_cons_succ] at H
  go_wp2_with fail
  have hw0 : (SV.new 8).wf := new_wf (by omega) (by omega)
  have HI := hid (And.intro hw0 H)
  clear H hw0
  go_loopw [7] (fun iv wr => ∃ (k : Nat) (v : SV), k ≤ nl ∧ iv = .int .i64 k ∧ Hid (v.wf ∧ St (.of w) wr [SkT S v, XsT X v])) (fun iv _ => nl - (intOf iv).toNat)
  case atStart => exact ⟨0, _, Nat.zero_le _, rfl, HI⟩
  case round =>
    clear HI
    obtain ⟨k, v, hk, rfl, HV⟩ := hrel
    have H := HV.out.2
    by_cases hlt : k < nl
    · obtain ⟨bb, ob, rfl⟩ := HC.out.row.sm (by omega)
      obtain ⟨x, hx⟩ : ∃ x, l[k]? = some x := ⟨_, List.getElem?_eq_getElem (by rw [hlen.out]; exact hlt)⟩
      have hpart := fun (wx : World) (hF : Fr [] w wx) => (HC.out.fr0 hF).part k 1 (by omega)
      rw [part_one hx] at hpart
      have hbits := (HC.out.one x (List.mem_of_getElem? hx)).2
      have hv1 : (v.put [x.1]).wf := put_wf HV.out.1 (fun c hc => by rw [List.mem_singleton.1 hc]; exact hbits)
      have HP := hid hpart
      have hkc : k < cap := by have := HLE.out; omega
      have hkw : IntKind.i64.wrap ((k : Int) + 1) = (k : Int) + 1 := IntWalk.i64_in _ (by omega)
      obtain ⟨v1, hv1e⟩ : ∃ v1, v.put [x.1] = v1 := ⟨_, rfl⟩
      rw [hv1e] at hv1
      have HE := hid hv1e
      have HV1 := hid hv1
      have HLT := hid hlt
      have hk1 : (k : Int) < nl := by omega
      have hk0 : (0 : Int) ≤ k := by omega
      clear hx hpart hbits hv1 hv1e hlt hk
      go_wp2_with fail
      refine (st_applyV H 0 rfl HV.out.1 (some ⟨bb, ob + k * 10, none⟩) 1 (cap - k) [x] (fun wx T h => HP.out wx h.fr) v1 HE.out).mono ?_
      clear H
      rintro e w103 ⟨r1, r2, rfl, H⟩
      try simp only [List.nil_append, List.cons_append, List.set_cons_zero, List.set_cons_succ] at H
      go_wp2_with fail
      refine (st_tapplyV H 1 rfl HV.out.1 (some ⟨bb, ob + k * 10, none⟩) 1 (cap - k) [x] (fun wx T h => HP.out wx h.fr) v1 HE.out).mono ?_
      clear H
      rintro e w104 ⟨r3, r4, rfl, H⟩
      try simp only [List.nil_append, List.cons_append, List.set_cons_zero, List.set_cons_succ] at H
      go_wp2_with fail
      go_roundw
      case rel => exact ⟨k + 1, v1, HLT.out, by go_num, hid ⟨HV1.out, H⟩⟩
      case measure => have := HLT.out; simp [intOf]; omega
    · have hk1 : ¬ (k : Int) < nl := by omega
      clear hlt hk
      go_wp2_with fail
      refine (st_sview H 0 rfl HV.out.1).mono ?_
      clear H
      rintro e w105 ⟨va, la, rfl, ha1, ha2, H⟩
      try simp only [List.nil_append, List.cons_append, List.set_cons_zero, List.set_cons_succ] at H
      have HA := hid (show VOk v la from ⟨HV.out.1, ha1, ha2⟩)
      clear ha1 ha2
      go_wp2_with fail
      refine (st_sview H 0 rfl HV.out.1).mono ?_
      clear H
      rintro e w106 ⟨vb, lb, rfl, hb1, hb2, H⟩
      try simp only [List.nil_append, List.cons_append, List.set_cons_zero, List.set_cons_succ] at H
      have HB := hid (show VOk v lb from ⟨HV.out.1, hb1, hb2⟩)
      clear hb1 hb2
      have H := (H.alloc (vO v.res va la.length)).allocAt (vO v.res vb lb.length) (w106.heap.size + 1) (by simp)
      go_wp2_with fail
      refine (st_wreck H 2 rfl HA.out.c HA.out.small.1 HA.out.small.2 v.res la.length (Nat.le_refl _) (by have := HA.out.small.1; omega)).mono ?_
      clear H
      rintro e w107 ⟨rfl, H⟩
      try simp only [List.nil_append, List.cons_append, List.set_cons_zero, List.set_cons_succ] at H
      generalize w106.heap.size = g8 at H ⊢
      have HT := hid (show St (.of w) w107 [SkT S v, XsT X v, NilT, VwT vb lb, BlkT g8 (vO v.res va la.length), BlkT (g8 + 1) (vO v.res vb lb.length)] from H)
      clear H hk1
      go_wp2_with fail
      obtain ⟨wo, hwo⟩ : ∃ wo : World, wo = wr := ⟨_, rfl⟩
      clear hwo
      go_loopw [10] (fun iv wi => ∃ k : Nat, k ≤ v.q.rows.length ∧ iv = .int .i64 k ∧ Hid (St (.of w) wi [SkT S v, XsT X v, NilT, VwT vb lb, BlkT g8 (vO v.res va la.length), BlkT (g8 + 1) (vO v.res vb lb.length)])) (fun iv _ => v.q.rows.length - (intOf iv).toNat)
      case atStart => exact ⟨0, Nat.zero_le _, rfl, HT⟩
      case round =>
        clear HT
        obtain ⟨j, hj, rfl, HJ⟩ := hrel
        have H := HJ.out
        obtain ⟨Q, qa, qc, pa, pc, la2, lc2, ll, hX⟩ := HJ.out.xsIn 1 rfl
        obtain ⟨-, b2, -, -, b5⟩ := hX.c0
        have hlX := lt_of_block hX.blk
        have hlQ := lt_of_block hX.q.blk
        by_cases hlt : j < v.q.rows.length
        · obtain ⟨qb, qo, rfl⟩ := hX.q.inn.sm (by omega)
          obtain ⟨-, -, -, r3, -⟩ := qrow_cells hX.q.inn j hlt
          obtain ⟨kb, hkb⟩ : ∃ kb, (qL.nth v.q.rows j).ba = kb := ⟨_, rfl⟩
          rw [hkb] at r3
          obtain ⟨p, z, hp⟩ : ∃ p z, v.sfind kb = (p, z) := ⟨_, _, rfl⟩
          have HP := hid hp
          have h32 := sfind_small HV.out.1 hp
          have H32 := hid h32
          have HLT := hid hlt
          have H8 := hid (show v.q.rows.length ≤ 8 from HV.out.1.q.n)
          have hj0 : (0 : Int) ≤ j := by omega
          have hj1 : (j : Int) < v.q.rows.length := by omega
          clear hX hlt hj hkb hp h32
          go_wp2_with fail
          refine (st_sfindV H 0 rfl HV.out.1 kb HP.out).mono ?_
          clear H
          rintro e w108 ⟨a1, rfl, H⟩
          try simp only [List.nil_append, List.cons_append, List.set_cons_zero, List.set_cons_succ] at H
          replace H := H.alloc (pO (p, ⟨a1, p.log.length⟩))
          unfold pF
          go_wp2_with fail
          clear b2 b5 r3 hlX hlQ
          generalize w108.heap.size = b1 at H ⊢
          refine (st_sfindV H 0 rfl HV.out.1 kb HP.out).mono ?_
          clear H
          rintro e w109 ⟨a2, rfl, H⟩
          try simp only [List.nil_append, List.cons_append, List.set_cons_zero, List.set_cons_succ] at H
          have hb1 : w109.heap[b1]? = some (pO (p, ⟨a1, p.log.length⟩)) := H.blk 7 rfl
          have q0 := cell_blk (i := 0) hb1 rfl
          have q1 := cell_blk (i := 1) hb1 rfl
          have q2 := cell_blk (i := 2) hb1 rfl
          have q3 := cell_blk (i := 3) hb1 rfl
          have q4 := cell_blk (i := 4) hb1 rfl
          have q5 := cell_blk (i := 5) hb1 rfl
          have q6 := cell_blk (i := 6) hb1 rfl
          have q7 := cell_blk (i := 7) hb1 rfl
          have q8 := cell_blk (i := 8) hb1 rfl
          have q9 := cell_blk (i := 9) hb1 rfl
          have hlb1 := lt_of_block hb1
          dsimp only at q0 q1 q2 q3 q4 q5 q6 q7 q8 q9
          clear hb1
          have h3 : St (.of w) (w109.alloc (pO (p, ⟨a2, p.log.length⟩))) (([SkT S v, XsT X v, NilT, VwT vb lb, BlkT g8 (vO v.res va la.length), BlkT (g8 + 1) (vO v.res vb lb.length)] ++ [BlkT b1 (pO (p, ⟨a1, p.log.length⟩)), LgT a2 p.log, BlkT w109.heap.size (pO (p, ⟨a2, p.log.length⟩))]) ++ [LgT a1 p.log]) := (H.alloc (pO (p, ⟨a2, p.log.length⟩))).perm (by
            rw [List.append_assoc]
            exact List.Perm.append_left [SkT S v, XsT X v, NilT, VwT vb lb, BlkT g8 (vO v.res va la.length), BlkT (g8 + 1) (vO v.res vb lb.length)] (List.perm_append_comm (l₁ := [LgT a1 p.log]) (l₂ := [BlkT b1 (pO (p, ⟨a1, p.log.length⟩)), LgT a2 p.log, BlkT w109.heap.size (pO (p, ⟨a2, p.log.length⟩))])))
          have h4 := h3.oneView (pO (p, ⟨a1, p.log.length⟩)) rfl
          rw [show (w109.alloc (pO (p, ⟨a2, p.log.length⟩))).heap.size = w109.heap.size + 1 by simp] at h4
          have H := h4
          clear h3 h4
          try simp only [List.nil_append, List.cons_append, List.set_cons_zero, List.set_cons_succ] at H
          unfold pF
          cases z
          ·
            go_wp2_with fail
            clear q0 q1 q2 q3 q4 q5 q6 q7 q8 q9 hlb1
            refine (st_wreck H 9 rfl (by intro y hy; simp at hy; subst hy; rfl) (by simp) (by intro y hy; simp at hy; subst hy; exact H32.out) 0 1 (by simp) (by decide)).mono ?_
            clear H
            rintro e w110 ⟨rfl, H⟩
            try simp only [List.nil_append, List.cons_append, List.set_cons_zero, List.set_cons_succ] at H
            generalize w109.heap.size = b2 at H ⊢
            try simp only [List.nil_append, List.cons_append, List.set_cons_zero, List.set_cons_succ] at H
            go_wp2_with fail
            refine (st_tfindV H 1 rfl HV.out.1 kb HP.out).mono ?_
            clear H
            rintro e w111 ⟨a3, c3, rfl, H⟩
            try simp only [List.nil_append, List.cons_append, List.set_cons_zero, List.set_cons_succ] at H
            have hb2 : w111.heap[b2]? = some (pO (p, ⟨a2, p.log.length⟩)) := H.blk 8 rfl
            have q0 := cell_blk (i := 0) hb2 rfl
            have q1 := cell_blk (i := 1) hb2 rfl
            have q2 := cell_blk (i := 2) hb2 rfl
            have q3 := cell_blk (i := 3) hb2 rfl
            have q4 := cell_blk (i := 4) hb2 rfl
            have q5 := cell_blk (i := 5) hb2 rfl
            have q6 := cell_blk (i := 6) hb2 rfl
            have q7 := cell_blk (i := 7) hb2 rfl
            have q8 := cell_blk (i := 8) hb2 rfl
            have q9 := cell_blk (i := 9) hb2 rfl
            have hlb2 := lt_of_block hb2
            dsimp only at q0 q1 q2 q3 q4 q5 q6 q7 q8 q9
            clear hb2
            replace H := H.alloc (pO (p, ⟨a3, c3⟩))
            try simp only [List.nil_append, List.cons_append, List.set_cons_zero, List.set_cons_succ] at H
            unfold pF
            go_wp2_with fail
            have HS := hid (st_psame H (p, ⟨a2, p.log.length⟩) (p, ⟨a3, c3⟩) (H.pvS 7 rfl H32.out) (H.pvR 10 rfl) rfl)
            clear H q0 q1 q2 q3 q4 q5 q6 q7 q8 q9 hlb2
            refine HS.out.mono ?_
            rintro e w7 ⟨rfl, H⟩
            clear HS
            have HE := hid (show St (.of w) w7 [SkT S v, XsT X v, NilT, VwT vb lb, BlkT g8 (vO v.res va la.length), BlkT (g8 + 1) (vO v.res vb lb.length)] from H.take 6)
            clear H
            go_wp2_with fail
            go_roundw
            case rel => have := H8.out; have := HLT.out; exact ⟨j + 1, HLT.out, by rw [IntWalk.wrap64_in _ (by omega)]; rfl, HE⟩
            case measure => have := H8.out; have := HLT.out; rw [IntWalk.wrap64_in _ (by omega)]; simp [intOf]; omega
          ·
            go_wp2_with fail
            clear q0 q1 q2 q3 q4 q5 q6 q7 q8 q9 hlb1
            refine (st_wreck H 9 rfl (by intro y hy; simp at hy; subst hy; rfl) (by simp) (by intro y hy; simp at hy; subst hy; exact H32.out) 0 1 (by simp) (by decide)).mono ?_
            clear H
            rintro e w112 ⟨rfl, H⟩
            try simp only [List.nil_append, List.cons_append, List.set_cons_zero, List.set_cons_succ] at H
            generalize w109.heap.size = b2 at H ⊢
            try simp only [List.nil_append, List.cons_append, List.set_cons_zero, List.set_cons_succ] at H
            go_wp2_with fail
            refine (st_tfindV H 1 rfl HV.out.1 kb HP.out).mono ?_
            clear H
            rintro e w113 ⟨a3, c3, rfl, H⟩
            try simp only [List.nil_append, List.cons_append, List.set_cons_zero, List.set_cons_succ] at H
            have hb2 : w113.heap[b2]? = some (pO (p, ⟨a2, p.log.length⟩)) := H.blk 8 rfl
            have q0 := cell_blk (i := 0) hb2 rfl
            have q1 := cell_blk (i := 1) hb2 rfl
            have q2 := cell_blk (i := 2) hb2 rfl
            have q3 := cell_blk (i := 3) hb2 rfl
            have q4 := cell_blk (i := 4) hb2 rfl
            have q5 := cell_blk (i := 5) hb2 rfl
            have q6 := cell_blk (i := 6) hb2 rfl
            have q7 := cell_blk (i := 7) hb2 rfl
            have q8 := cell_blk (i := 8) hb2 rfl
            have q9 := cell_blk (i := 9) hb2 rfl
            have hlb2 := lt_of_block hb2
            dsimp only at q0 q1 q2 q3 q4 q5 q6 q7 q8 q9
            clear hb2
            replace H := H.alloc (pO (p, ⟨a3, c3⟩))
            try simp only [List.nil_append, List.cons_append, List.set_cons_zero, List.set_cons_succ] at H
            unfold pF
            go_wp2_with fail
            have HS := hid (st_psame H (p, ⟨a2, p.log.length⟩) (p, ⟨a3, c3⟩) (H.pvS 7 rfl H32.out) (H.pvR 10 rfl) rfl)
            clear H q0 q1 q2 q3 q4 q5 q6 q7 q8 q9 hlb2
            refine HS.out.mono ?_
            rintro e w7 ⟨rfl, H⟩
            clear HS
            have HE := hid (show St (.of w) w7 [SkT S v, XsT X v, NilT, VwT vb lb, BlkT g8 (vO v.res va la.length), BlkT (g8 + 1) (vO v.res vb lb.length)] from H.take 6)
            clear H
            go_wp2_with fail
            go_roundw
            case rel => have := H8.out; have := HLT.out; exact ⟨j + 1, HLT.out, by rw [IntWalk.wrap64_in _ (by omega)]; rfl, HE⟩
            case measure => have := H8.out; have := HLT.out; rw [IntWalk.wrap64_in _ (by omega)]; simp [intOf]; omega
        · have hj1 : ¬ (j : Int) < v.q.rows.length := by omega
          have HS := hid (show ∀ (wx : World) (T : List Thing), St (.of w) wx ([SkT S v, XsT X v, NilT, VwT vb lb, BlkT g8 (vO v.res va la.length), BlkT (g8 + 1) (vO v.res vb lb.length)] ++ T) → wx.cell? ⟨g8 + 1, 0, none⟩ = some (.int .i64 v.res) ∧ wx.cell? ⟨g8 + 1, 1, none⟩ = some (.slice vb lb.length lb.length) from fun wx T h => by
            have b := h.blk 5 rfl
            exact ⟨cell_blk b rfl, cell_blk b rfl⟩)
          have HJd := hid (show St (.of w) wr.drew ([SkT S v, XsT X v, NilT, VwT vb lb, BlkT g8 (vO v.res va la.length), BlkT (g8 + 1) (vO v.res vb lb.length)] ++ []) from by rw [List.append_nil]; exact HJ.out.drew)
          have hNow := hid (HS.out _ _ HJd.out)
          clear hX hlt hj H
          go_wp2_with fail
          go_region_held3 (fun wx : World => wx.cell? ⟨g8 + 1, 0, none⟩ = some (.int .i64 v.res) ∧ wx.cell? ⟨g8 + 1, 1, none⟩ = some (.slice vb lb.length lb.length)) ((first | with_reducible exact hNow.out))
            (first
              | (go_at_call 16; with_reducible refine (st_tview H4.out 1 rfl HV.out.1).mono ?_; rintro e w5 ⟨a5, c5, l5, rfl, h5, H5⟩; rw [List.append_assoc] at H5; have hNow := hid (HS.out _ _ H5); have H5 := hid H5; have h5 := hid h5)
              | (go_at_call 16; with_reducible refine (st_tview HJd.out 1 rfl HV.out.1).mono ?_; rintro e w2 ⟨a2, c2, l2, rfl, h2, H2⟩; rw [List.append_assoc] at H2; have hNow := hid (HS.out _ _ H2); have H2 := hid H2; have h2 := hid h2)
              | (go_at_call 15; with_reducible refine (st_vsame H5.out v.res (H5.out.vok 7 rfl HD.out) (H5.out.dvIn 8 rfl) (HD.out.eq.trans h5.out.symm)).mono ?_; rintro e w6 ⟨rfl, H6⟩; have hNow := hid (HS.out _ _ H6); have H6 := hid H6)
              | (go_at_call 15; with_reducible refine (st_vsame H2.out v.res (H2.out.vok 3 rfl HB.out) (H2.out.dvIn 6 rfl) (HB.out.eq.trans h2.out.symm)).mono ?_; rintro e w3 ⟨rfl, H3⟩; have hNow := hid (HS.out _ _ H3); have H3 := hid H3)
              | (go_at_call 10; with_reducible refine (st_sview H3.out 0 rfl HV.out.1).mono ?_; rintro e w4 ⟨a4, l4, rfl, h4a, h4b, H4⟩; rw [List.append_assoc] at H4; have hNow := hid (HS.out _ _ H4); have H4 := hid H4; have HD := hid (show VOk v l4 from ⟨HV.out.1, h4a, h4b⟩); clear h4a h4b)
              | (go_at_call 17; with_reducible refine (st_sbytes H6.out 0 rfl HV.out.1).mono ?_; rintro e w7 ⟨rfl, H7⟩; have hNow := hid (HS.out _ _ H7); have H7 := hid H7)
              | (go_at_call 18; with_reducible refine (st_tbytes H7.out 1 rfl HV.out.1).mono ?_; rintro e w8 ⟨rfl, H8⟩; have hNow := hid (HS.out _ _ H8); have H8 := hid H8)
              | (go_at_call 19; with_reducible refine (fixed17 _).mono ?_; rintro e w9 ⟨rfl, hF9⟩; have H9 := hid (H8.out.same hF9); have hNow := hid (HS.out _ _ H9.out); clear hF9))
          go_wp2_with fail
          go_ret
          exact ⟨rfl, H9.out.fr⟩
end Go.Proofs.YtmgnekjhlfghaaaGreat
