/-
  StateGrows: the walk.
-/
import Derived.Test.YtmgnekjhlfghaaaM24
namespace Go.Proofs.Ytmgnekjhlfghaaa
open Go.RowKit
set_option linter.unusedVariables false
set_option linter.unusedSimpArgs false

set_option maxHeartbeats 4000000 in
set_option maxRecDepth 100000 in
theorem stateGrows_walk (w : World) (n : Int) (h1 : -9223372036854775808 ≤ n) (h2 : n ≤ 9223372036854775807) (a : Option Addr) (nl cap : Nat) (l : List (CV × TS)) (hC0 : ChArg w a nl cap l) :
    Calls Try.prog 6 #[.int .i64 n, .slice a nl cap] w fun e w' => e = .returned (.bool true) ∧ Fr [] w w' := by
  have hC := hC0.ch
  have hle := hC0.le
  have hmx := hC.row.max
  clear hC0 h1 h2
  by_cases hn : n < 1 ∨ 8 < n
  · have HN := hid (fun w => state_new_bad w n hn)
    have h1 : decide (n < 1) = true ∨ decide (n < 1) = false ∧ decide (8 < n) = true := by
      rcases hn with h | h
      · exact .inl (decide_eq_true h)
      · by_cases h2 : n < 1
        · exact .inl (decide_eq_true h2)
        · exact .inr ⟨decide_eq_false h2, decide_eq_true h⟩
    clear hn hC hle hmx
    rcases h1 with h1 | ⟨h1, h2⟩
    · go_enter Try.func6, Try.ntmps6
      go_wp2_with (first | (go_at_call 9; refine (HN.out _).mono ?_; rintro e w1 ⟨rfl, rfl⟩) | (go_at_call 10; refine (fixed17 _).mono ?_; rintro e w2 ⟨rfl, hF2⟩))
      go_ret
      exact ⟨rfl, hF2⟩
    · go_enter Try.func6, Try.ntmps6
      go_wp2_with (first | (go_at_call 9; refine (HN.out _).mono ?_; rintro e w1 ⟨rfl, rfl⟩) | (go_at_call 10; refine (fixed17 _).mono ?_; rintro e w2 ⟨rfl, hF2⟩))
      go_ret
      exact ⟨rfl, hF2⟩
  have hlen := hid hC.len
  have HC := hid hC
  have HLE := hid hle
  have H := St.refl w
  clear hC hle
  go_enter Try.func6, Try.ntmps6
  go_wp2_with fail
  refine (st_snew H n (by omega) (by omega)).mono ?_
  clear H
  rintro e w101 ⟨S, rfl, H⟩
  try simp only [List.nil_append, List.cons_append, List.set_cons_zero, List.set_cons_succ] at H
  go_wp2_with fail
  have hw0 : (SV.new n).wf := new_wf (by omega) (by omega)
  have HW := hid hw0
  clear hw0 hn
  refine (st_sview H 0 rfl HW.out).mono ?_
  clear H
  rintro e w102 ⟨va, vl, rfl, hv1, hv2, H⟩
  try simp only [List.nil_append, List.cons_append, List.set_cons_zero, List.set_cons_succ] at H
  replace H := H.alloc (vO (SV.new n).res va vl.length)
  have HV := hid (show VOk (SV.new n) vl from ⟨HW.out, hv1, hv2⟩)
  clear hv1 hv2
  go_wp2_with fail
  generalize w102.heap.size = wb at H ⊢
  have HI := hid H
  clear H
  go_loopw [8] (fun iv wr => ∃ (k : Nat) (v : SV) (a : Option Addr) (l : List (PV × TS)), k ≤ nl ∧ iv = .int .i64 k ∧ VOk v l ∧ St (.of w) wr [SkT S v, VwT a l, BlkT wb (vO v.res a l.length)]) (fun iv _ => nl - (intOf iv).toNat)
  case atStart => exact ⟨0, _, _, _, Nat.zero_le _, rfl, HV.out, HI.out⟩
  case round =>
    clear HI HV
    obtain ⟨k, v, va, vl, hk, rfl, hv, H⟩ := hrel
    have HV := hid hv
    by_cases hlt : k < nl
    · obtain ⟨bb, ob, rfl⟩ := HC.out.row.sm (by omega)
      obtain ⟨x, hx⟩ : ∃ x, l[k]? = some x := ⟨_, List.getElem?_eq_getElem (by rw [hlen.out]; exact hlt)⟩
      have hpart := fun (wx : World) (hF : Fr [] w wx) => (HC.out.fr0 hF).part k 1 (by omega)
      rw [part_one hx] at hpart
      have hbits := (HC.out.one x (List.mem_of_getElem? hx)).2
      have hv1 : (v.put [x.1]).wf := put_wf hv.wf (fun c hc => by rw [List.mem_singleton.1 hc]; exact hbits)
      have HP := hid hpart
      have hkc : k < cap := by have := HLE.out; omega
      have hkw : IntKind.i64.wrap ((k : Int) + 1) = (k : Int) + 1 := IntWalk.i64_in _ (by omega)
      have hgr := grow_put hv.wf x.1
      obtain ⟨v1, hv1e⟩ : ∃ v1, v.put [x.1] = v1 := ⟨_, rfl⟩
      rw [hv1e] at hgr hv1
      have HE := hid hv1e
      have HG := hid hgr
      have HV1 := hid hv1
      have HLT := hid hlt
      have hk1 : (k : Int) < nl := by omega
      have hk0 : (0 : Int) ≤ k := by omega
      clear hv hx hpart hbits hv1 hv1e hgr hlt hk
      go_wp2_with fail
      refine (st_applyV H 0 rfl HV.out.wf (some ⟨bb, ob + k * 10, none⟩) 1 (cap - k) [x] (fun wx T h => HP.out wx h.fr) v1 HE.out).mono ?_
      clear H
      rintro e w103 ⟨r1, r2, rfl, H⟩
      try simp only [List.nil_append, List.cons_append, List.set_cons_zero, List.set_cons_succ] at H
      go_wp2_with fail
      refine (st_sview H 0 rfl HV1.out).mono ?_
      clear H
      rintro e w104 ⟨na, nl2, rfl, hn1, hn2, H⟩
      try simp only [List.nil_append, List.cons_append, List.set_cons_zero, List.set_cons_succ] at H
      have HN := hid (show VOk v1 nl2 from ⟨HV1.out, hn1, hn2⟩)
      have hb0 := H.blk 2 rfl
      have k0 := cell_blk (i := 0) hb0 rfl
      have k1 := cell_blk (i := 1) hb0 rfl
      have hlb := lt_of_block hb0
      have hres := decide_eq_false (show ¬ v1.res < v.res by have := HG.out.res; omega)
      have hln : vl.length ≤ nl2.length := by have := HV.out.len; have := HN.out.len; have := HG.out.n; omega
      have hlv := decide_eq_false (show ¬ nl2.length < vl.length by omega)
      have HLN := hid hln
      replace H := hid (H.alloc (vO v1.res na nl2.length))
      clear hn1 hn2 hb0
      go_wp2_with fail
      generalize w104.heap.size = nb at H ⊢
      clear k0 k1 hlb hres hlv hln
      obtain ⟨wo, rfl⟩ : ∃ wo : World, wo = wr := ⟨_, rfl⟩
      go_loopw [10] (fun iv wi => ∃ j : Nat, j ≤ vl.length ∧ iv = .int .i64 j ∧ St (.of w) wi [SkT S v1, VwT va vl, BlkT wb (vO v.res va vl.length), VwT na nl2, BlkT nb (vO v1.res na nl2.length)]) (fun iv _ => vl.length - (intOf iv).toNat)
      case atStart => exact ⟨0, Nat.zero_le _, rfl, H.out⟩
      case round =>
        clear H
        obtain ⟨j, hj, rfl, H⟩ := hrel
        have k1 : wr.cell? ⟨wb, 1, none⟩ = some (.slice va vl.length vl.length) := cell_blk (i := 1) (H.blk 2 rfl) rfl
        have m1 : wr.cell? ⟨nb, 1, none⟩ = some (.slice na nl2.length nl2.length) := cell_blk (i := 1) (H.blk 4 rfl) rfl
        have hn8 := HV.out.small.1
        by_cases hjl : j < vl.length
        · have hjn : j < nl2.length := by have := HLN.out; omega
          have hA := H.vok 1 rfl HV.out
          have hB := H.vok 3 rfl HN.out
          obtain ⟨ba, oa, ea⟩ := hA.row.sm (by omega)
          obtain ⟨bb2, ob2, eb⟩ := hB.row.sm (by omega)
          obtain ⟨y, hy⟩ : ∃ y, pL.nth vl j = y := ⟨_, rfl⟩
          obtain ⟨z, hz⟩ : ∃ z, pL.nth nl2 j = z := ⟨_, rfl⟩
          have hyz : Grown y.1 z.1 := by
            rw [← hy, ← hz, HV.out.nth hjl, HN.out.nth hjn]
            exact HG.out.job j (by have := HV.out.len; omega)
          rw [ea] at k1 hA
          rw [eb] at m1 hB
          have HCC := hid (show ∀ w2, Fr [] wr.drew w2 → ((fun wx : World => wx.cell? ⟨wb, 1, none⟩ = some (.slice (some ⟨ba, oa, none⟩) vl.length vl.length) ∧ wx.cell? ⟨nb, 1, none⟩ = some (.slice (some ⟨bb2, ob2, none⟩) nl2.length nl2.length) ∧ (wx.cell? ⟨ba, oa + j * 10, none⟩ = some (.int .i64 y.1.r.job) ∧ wx.cell? ⟨ba, oa + j * 10 + 1, none⟩ = some (.int .i64 y.1.r.st) ∧ wx.cell? ⟨ba, oa + j * 10 + 2, none⟩ = some (.int .i64 y.1.r.at_) ∧ wx.cell? ⟨ba, oa + j * 10 + 3, none⟩ = some (.int .i64 y.1.r.ba) ∧ wx.cell? ⟨ba, oa + j * 10 + 4, none⟩ = some (.int .i64 y.1.r.node) ∧ wx.cell? ⟨ba, oa + j * 10 + 5, none⟩ = some (.int .i64 y.1.r.life) ∧ wx.cell? ⟨ba, oa + j * 10 + 6, none⟩ = some (.int .i64 y.1.r.code) ∧ wx.cell? ⟨ba, oa + j * 10 + 7, none⟩ = some (.int .u64 y.1.r.bits) ∧ wx.cell? ⟨ba, oa + j * 10 + 8, none⟩ = some (.string y.1.prog) ∧ wx.cell? ⟨ba, oa + j * 10 + 9, none⟩ = some (.slice y.2.a y.1.log.length y.2.c)) ∧ (wx.cell? ⟨bb2, ob2 + j * 10, none⟩ = some (.int .i64 z.1.r.job) ∧ wx.cell? ⟨bb2, ob2 + j * 10 + 1, none⟩ = some (.int .i64 z.1.r.st) ∧ wx.cell? ⟨bb2, ob2 + j * 10 + 2, none⟩ = some (.int .i64 z.1.r.at_) ∧ wx.cell? ⟨bb2, ob2 + j * 10 + 3, none⟩ = some (.int .i64 z.1.r.ba) ∧ wx.cell? ⟨bb2, ob2 + j * 10 + 4, none⟩ = some (.int .i64 z.1.r.node) ∧ wx.cell? ⟨bb2, ob2 + j * 10 + 5, none⟩ = some (.int .i64 z.1.r.life) ∧ wx.cell? ⟨bb2, ob2 + j * 10 + 6, none⟩ = some (.int .i64 z.1.r.code) ∧ wx.cell? ⟨bb2, ob2 + j * 10 + 7, none⟩ = some (.int .u64 z.1.r.bits) ∧ wx.cell? ⟨bb2, ob2 + j * 10 + 8, none⟩ = some (.string z.1.prog) ∧ wx.cell? ⟨bb2, ob2 + j * 10 + 9, none⟩ = some (.slice z.2.a z.1.log.length z.2.c)))) w2 from fun w2 hF2 => ⟨hF2.cell0 k1, hF2.cell0 m1, pl_cells (hA.row.fr0 (((Fr.refl [] wr).drew).trans hF2)) j hjl y hy, pl_cells (hB.row.fr0 (((Fr.refl [] wr).drew).trans hF2)) j hjn z hz⟩)
          have hCC := HCC.out _ (Fr.refl _ _)
          have hs := hid (grown_walk wr.drew y z (In.fr0 (hA.one y (by rw [← hy]; exact pL.mem_nth hjl)) ((Fr.refl _ _).drew)) (In.fr0 (hB.one z (by rw [← hz]; exact pL.mem_nth hjn)) ((Fr.refl _ _).drew)) hyz)
          unfold pF at hs
          have HH := hid H
          have HJ := hid hjl
          have hj0 : (0 : Int) ≤ j := by omega
          have hj1 : (j : Int) < vl.length := by omega
          have hj2 : (j : Int) < nl2.length := by omega
          clear H hA hB hy hz hyz ea eb hj hjl hjn
          go_wp2_with fail
          go_region_held3 (fun wx : World => wx.cell? ⟨wb, 1, none⟩ = some (.slice (some ⟨ba, oa, none⟩) vl.length vl.length) ∧ wx.cell? ⟨nb, 1, none⟩ = some (.slice (some ⟨bb2, ob2, none⟩) nl2.length nl2.length) ∧ (wx.cell? ⟨ba, oa + j * 10, none⟩ = some (.int .i64 y.1.r.job) ∧ wx.cell? ⟨ba, oa + j * 10 + 1, none⟩ = some (.int .i64 y.1.r.st) ∧ wx.cell? ⟨ba, oa + j * 10 + 2, none⟩ = some (.int .i64 y.1.r.at_) ∧ wx.cell? ⟨ba, oa + j * 10 + 3, none⟩ = some (.int .i64 y.1.r.ba) ∧ wx.cell? ⟨ba, oa + j * 10 + 4, none⟩ = some (.int .i64 y.1.r.node) ∧ wx.cell? ⟨ba, oa + j * 10 + 5, none⟩ = some (.int .i64 y.1.r.life) ∧ wx.cell? ⟨ba, oa + j * 10 + 6, none⟩ = some (.int .i64 y.1.r.code) ∧ wx.cell? ⟨ba, oa + j * 10 + 7, none⟩ = some (.int .u64 y.1.r.bits) ∧ wx.cell? ⟨ba, oa + j * 10 + 8, none⟩ = some (.string y.1.prog) ∧ wx.cell? ⟨ba, oa + j * 10 + 9, none⟩ = some (.slice y.2.a y.1.log.length y.2.c)) ∧ (wx.cell? ⟨bb2, ob2 + j * 10, none⟩ = some (.int .i64 z.1.r.job) ∧ wx.cell? ⟨bb2, ob2 + j * 10 + 1, none⟩ = some (.int .i64 z.1.r.st) ∧ wx.cell? ⟨bb2, ob2 + j * 10 + 2, none⟩ = some (.int .i64 z.1.r.at_) ∧ wx.cell? ⟨bb2, ob2 + j * 10 + 3, none⟩ = some (.int .i64 z.1.r.ba) ∧ wx.cell? ⟨bb2, ob2 + j * 10 + 4, none⟩ = some (.int .i64 z.1.r.node) ∧ wx.cell? ⟨bb2, ob2 + j * 10 + 5, none⟩ = some (.int .i64 z.1.r.life) ∧ wx.cell? ⟨bb2, ob2 + j * 10 + 6, none⟩ = some (.int .i64 z.1.r.code) ∧ wx.cell? ⟨bb2, ob2 + j * 10 + 7, none⟩ = some (.int .u64 z.1.r.bits) ∧ wx.cell? ⟨bb2, ob2 + j * 10 + 8, none⟩ = some (.string z.1.prog) ∧ wx.cell? ⟨bb2, ob2 + j * 10 + 9, none⟩ = some (.slice z.2.a z.1.log.length z.2.c))) ((first | exact hCC | exact HCC.out _ HZ.out))
            ((go_at_call 17; refine hs.out.mono ?_; rintro e w2 ⟨rfl, hF2⟩; have hNow := HCC.out w2 hF2; have HZ := hid hF2))
          go_wp2_with fail
          go_roundw
          case rel => exact ⟨j + 1, HJ.out, by go_num, HH.out.drew.same HZ.out⟩
          case measure => have := HJ.out; simp [intOf]; omega
        · have hj1 : ¬ (j : Int) < vl.length := by omega
          have k0 : wr.cell? ⟨wb, 0, none⟩ = some (.int .i64 v.res) := cell_blk (i := 0) (H.blk 2 rfl) rfl
          have m0 : wr.cell? ⟨nb, 0, none⟩ = some (.int .i64 v1.res) := cell_blk (i := 0) (H.blk 4 rfl) rfl
          have f0 := free_blk (i := 0) (H.blk 2 rfl)
          have f1 := free_blk (i := 1) (H.blk 2 rfl)
          have H1 := H.setBlk 2 rfl 0 (.int .i64 v1.res)
          have H2 := H1.setBlk 2 rfl 1 (.slice na nl2.length nl2.length)
          have H3 := hid (show St (.of w) _ [SkT S v1, VwT na nl2, BlkT wb (vO v1.res na nl2.length)] from H2.sub (B := [VwT va vl, BlkT nb (vO v1.res na nl2.length)]) (by
            show List.Perm [SkT S v1, VwT va vl, BlkT wb _, VwT na nl2, BlkT nb _] [SkT S v1, VwT na nl2, BlkT wb _, VwT va vl, BlkT nb _]
            refine List.Perm.cons _ ?_
            refine (List.Perm.cons _ (List.Perm.swap _ _ _)).trans ?_
            refine (List.Perm.swap _ _ _).trans (List.Perm.cons _ ?_)
            exact List.Perm.swap _ _ _))
          clear H H1 H2 hj hjl
          go_wp2_with fail
          go_roundw
          case rel => exact ⟨k + 1, v1, na, nl2, HLT.out, by go_num, HN.out, H3.out⟩
          case measure => have := HLT.out; simp [intOf]; omega
    · have hk1 : ¬ (k : Int) < nl := by omega
      have HH := hid H
      clear H hv hlt hk
      go_wp2_with (go_at_call 10; refine (fixed17 _).mono ?_; rintro e w2 ⟨rfl, hF2⟩)
      go_ret
      exact ⟨rfl, HH.out.fr.trans hF2⟩
end Go.Proofs.Ytmgnekjhlfghaaa
