/-
  The walk of QueueEnds.
-/
import Derived.Test.YthdcpenhfccagaaPlace11
namespace Go.Proofs.Ythdcpenhfccagaa
open Go.RowKit
set_option linter.unusedVariables false
set_option linter.unusedSimpArgs false

set_option maxHeartbeats 6400000 in
set_option maxRecDepth 100000 in
theorem qends_any (w : World) (n : Int) (jb : Int) (j1 : -9223372036854775808 ≤ jb) (j2 : jb ≤ 9223372036854775807) :
    Calls Try.prog 3 #[.int .i64 n, .int .i64 jb] w fun e w' => e = .returned (.bool true) ∧ Fr [] w w' := by
  by_cases hn : n < 1 ∨ 8 < n
  · have HN := hid (queue_new_bad w n hn)
    clear hn
    go_enter Try.func3, Try.ntmps3
    go_wp2_with fail
    refine (HN.out).mono ?_
    rintro e w101 ⟨rfl, rfl⟩
    go_wp2_with fail
    refine (fixed11 _).mono ?_
    rintro e w102 ⟨rfl, hF2⟩
    go_wp2_with fail
    go_ret
    exact ⟨rfl, hF2⟩
  have H := St.refl w
  obtain ⟨p, hp⟩ : ∃ p : Nat, jb % 8 = p := ⟨(jb % 8).toNat, by omega⟩
  have hp8 : p < 8 := by omega
  have hpl := fun wx => place11 jb 8 wx j1 j2 (by omega) (by omega)
  rw [hp] at hpl
  have HP := hid hpl
  clear hpl hp
  go_enter Try.func3, Try.ntmps3
  go_wp2_with fail
  refine (st_qnew H n (by omega) (by omega)).mono ?_
  clear H
  rintro e w103 ⟨Q, rfl, H⟩
  try simp only [List.nil_append, List.cons_append, List.set_cons_zero, List.set_cons_succ] at H
  go_wp2_with fail
  have hn1 : 1 ≤ n := by omega
  have hn8 : n ≤ 8 := by omega
  have hS : SubI n 0 ⟨n, []⟩ := ⟨qnew_wf hn1 hn8, rfl, rfl, fun i hi => absurd hi (Nat.not_lt_zero _)⟩
  have HI := hid (And.intro H hS)
  clear H hS hn
  go_loopw [7] (fun i wr => ∃ (k : Nat) (q : QS), k ≤ 1 + p ∧ i = .int .i64 k ∧ St (.of w) wr [QkT Q q] ∧ SubI n k q) (fun i _ => 1 + p - (intOf i).toNat)
  case atStart => exact ⟨0, _, Nat.zero_le _, rfl, HI.out.1, HI.out.2⟩
  case round =>
    clear HI
    obtain ⟨k, q, hk, rfl, H, hS⟩ := hrel
    have HS := hid hS
    clear hS
    by_cases hlt : k < 1 + p
    · have HN := hid (sub_next HS.out (by omega))
      have hl8 := HS.out.wf.n
      have hc := st_submit H 0 rfl hl8
      generalize q.submit.2.2 = q' at hc HN
      generalize q.submit.2.1 = z at hc
      generalize q.submit.1 = z1 at hc
      have HC := hid hc
      clear hc H hl8
      go_wp2_with fail
      refine (HP.out _).mono ?_
      rintro e w104 ⟨rfl, rfl⟩
      go_wp2_with fail
      refine HC.out.mono ?_
      rintro e w5 ⟨rfl, H⟩
      go_wp2_with fail
      go_roundw
      case rel => exact ⟨k + 1, q', by omega, by go_num, H, HN.out⟩
      case measure => simp [intOf]; omega
    · obtain rfl : k = 1 + p := by omega
      have HE := hid (sub_end HS.out (by omega))
      have hp0 : ((1 : Int) + p) = (1 + p : Nat) := by push_cast; rfl
      generalize hm : 1 + p = m at H HE hp0
      have HM := hid hm
      have hm8 : m ≤ 8 := by omega
      have hm1 : 1 ≤ m := by omega
      clear hm hk hlt HS
      go_wp2_with fail
      refine (HP.out _).mono ?_
      rintro e w105 ⟨rfl, rfl⟩
      go_wp2_with fail
      have hhd := st_headT (H.alloc (.cells #[.int .i64 3, .int .i64 2] 31)) 0 rfl HE.out.wf.n
      rw [end_head HE.out, if_pos (by omega)] at hhd
      refine hhd.mono ?_
      clear hhd
      rintro e w6 ⟨rfl, H⟩
      go_wp2_with fail
      have HH := hid H
      clear H
      generalize wr.heap.size = wo at HH ⊢
      go_loopw [8, 10] (fun bv kv wi => ∃ (h : Nat) (t : Int) (q : QS), EndI n m q h t ∧ bv = .int .i64 (2 * t) ∧ kv = .int .i64 (if h < m then (h : Int) + 1 else 0) ∧ St (.of w) wi [QkT Q q, BlkT wo (.cells #[.int .i64 3, .int .i64 2] 31)]) (fun bv _ _ => (200 - intOf bv).toNat)
      case atStart => exact ⟨0, 0, q, HE.out, rfl, by rw [if_pos (by omega)]; rfl, HH.out⟩
      case round =>
        clear HE HH
        obtain ⟨h, t, q, hI, rfl, rfl, H⟩ := hrel
        have HI := hid hI
        have ht0 := hI.t0
        by_cases hh : h < m
        · have h64 := end_t hI hm8 hh
          have hk : h < q.rows.length := by rw [hI.len]; exact hh
          have hg1 := end_grant hI hm8 hh
          have hwf1 := grant_wf hI.wf (h + 1) (2 * t + 2) 3 2
          rw [hg1] at hwf1
          obtain ⟨h', hI2⟩ := end_next hI hm8 hh
          have hex := end_expire hI hm8 hh
          have hx1 : (qL.nth ({ q with rows := q.rows.set h { qL.nth q.rows h with st := 2, ba := 2 * t + 2, node := 3, life := 2, at_ := (qL.nth q.rows h).at_ + 1 } } : QS).rows h).st ≠ 1 := by
            show (qL.nth (q.rows.set h _) h).st ≠ 1
            rw [qL.nth_set _ _ _ _ hk, if_pos rfl]
            show (2 : Int) ≠ 1
            decide
          have hg2 := grant_112 (q := ({ q with rows := q.rows.set h { qL.nth q.rows h with st := 2, ba := 2 * t + 2, node := 3, life := 2, at_ := (qL.nth q.rows h).at_ + 1 } } : QS)) (b := 2 * t + 2 + 1) (x := 3) (y := 2) (by simpa using hk) hx1
          have hr0 := row_at hk (j := (h : Int) + 1) rfl
          have hr2 : ({ q with rows := q.rows.set h (lostRow n (qL.nth q.rows h) (2 * t + 2)) } : QS).row (h + 1) = (lostRow n (qL.nth q.rows h) (2 * t + 2), true) := by
            rw [row_at (k := h) (by simpa using hk) rfl]
            show (qL.nth (q.rows.set h _) h, true) = _
            rw [qL.nth_set _ _ _ _ hk, if_pos rfl]
          have hhd := end_head hI2
          have ham := hI.at_ hh
          have hm0 := may_facts (hI.wf.ok h hk)
          rw [hI.att] at hm0
          clear hx1
          generalize ({ q with rows := q.rows.set h { qL.nth q.rows h with st := 2, ba := 2 * t + 2, node := 3, life := 2, at_ := (qL.nth q.rows h).at_ + 1 } } : QS) = q1 at hg1 hwf1 hex hg2
          generalize ({ q with rows := q.rows.set h (lostRow n (qL.nth q.rows h) (2 * t + 2)) } : QS) = q2 at hI2 hex hr2 hhd
          generalize qL.nth q.rows h = x at hr0 hr2 ham hm0
          have hlast : ((lostRow n x (2 * t + 2)).st == 4) = ((lostRow n x (2 * t + 2)).at_ == n) := by
            show ((if n ≤ x.at_ + 1 then (4 : Int) else 1) == 4) = (x.at_ + 1 == n)
            by_cases hl : n ≤ x.at_ + 1
            · rw [if_pos hl]; have : x.at_ + 1 = n := by omega
              simp [this]
            · rw [if_neg hl]; have : ¬ x.at_ + 1 = n := by omega
              simp [this]
          have HLS0 := hlast
          have hsa : (lostRow n x (2 * t + 2)).at_ = x.at_ + 1 := rfl
          generalize lostRow n x (2 * t + 2) = s at hr2 hlast hsa HLS0
          have HLS := hid HLS0
          clear HLS0
          have e1 : (s.at_ != x.at_ + 1) = false := by rw [bne_eq_false_iff_eq]; exact hsa
          have e3 : ((h : Int) + 1 != (h : Int) + 1) = false := by simp
          have HX := hid (And.intro hg1 (And.intro hwf1 (And.intro hex (And.intro hg2 (And.intro hr0 (And.intro hr2 (And.intro hhd hI2)))))))
          have ha0 := hm0.2.1
          have ha1 := hm0.2.2.1
          clear hg1 hwf1 hex hg2 hr0 hr2 hhd hI2 ham hm0 hI hlast hsa
          rw [if_pos hh]
          go_wp2_with fail
          refine (st_rowIs H 0 rfl HI.out.wf.n HX.out.2.2.2.2.1).mono ?_
          clear H
          rintro e w106 ⟨rfl, H⟩
          try simp only [List.nil_append, List.cons_append, List.set_cons_zero, List.set_cons_succ] at H
          replace H := H.alloc (.cells #[.int .i64 x.job, .int .i64 x.st, .int .i64 x.at_, .int .i64 x.ba, .int .i64 x.node, .int .i64 x.life, .int .i64 x.code, .int .u64 x.bits] 37)
          try simp only [List.nil_append, List.cons_append, List.set_cons_zero, List.set_cons_succ] at H
          have hc := st_grant H 0 rfl HI.out.wf (h + 1) (2 * t + 2) 3 2
          rw [HX.out.1] at hc
          have b0 := cell_blk (i := 0) (H.blk 1 rfl) rfl
          have b1 := cell_blk (i := 1) (H.blk 1 rfl) rfl
          have HC := hid hc
          clear hc H
          go_wp2_with fail
          refine HC.out.mono ?_
          rintro e w8 ⟨rfl, H⟩
          clear b0 b1 HC
          try simp only [List.nil_append, List.cons_append, List.set_cons_zero, List.set_cons_succ] at H
          have hc := st_grant H 0 rfl HX.out.2.1 (h + 1) (2 * t + 2 + 1) 3 2
          rw [HX.out.2.2.2.1] at hc
          have b0 := cell_blk (i := 0) (H.blk 1 rfl) rfl
          have b1 := cell_blk (i := 1) (H.blk 1 rfl) rfl
          have HC := hid hc
          clear hc H
          go_wp2_with fail
          refine HC.out.mono ?_
          rintro e w9 ⟨rfl, H⟩
          clear b0 b1 HC
          try simp only [List.nil_append, List.cons_append, List.set_cons_zero, List.set_cons_succ] at H
          have hc := st_expire H 0 rfl HX.out.2.1 (2 * t + 2)
          rw [HX.out.2.2.1] at hc
          have HC := hid hc
          clear hc H
          go_wp2_with fail
          refine HC.out.mono ?_
          rintro e w10 ⟨rfl, H⟩
          clear HC
          try simp only [List.nil_append, List.cons_append, List.set_cons_zero, List.set_cons_succ] at H
          go_wp2_with fail
          have HI2 := hid HX.out.2.2.2.2.2.2.2
          refine (st_rowIs H 0 rfl HI2.out.wf.n HX.out.2.2.2.2.2.1).mono ?_
          clear H
          rintro e w107 ⟨rfl, H⟩
          try simp only [List.nil_append, List.cons_append, List.set_cons_zero, List.set_cons_succ] at H
          have k2 := cell_blk (i := 2) (H.blk 2 rfl) rfl
          have hkl := lt_of_block (H.blk 2 rfl)
          have hc := st_headT (H.alloc_ (.cells #[.int .i64 s.job, .int .i64 s.st, .int .i64 s.at_, .int .i64 s.ba, .int .i64 s.node, .int .i64 s.life, .int .i64 s.code, .int .u64 s.bits] 37)) 0 rfl HI2.out.wf.n
          rw [HX.out.2.2.2.2.2.2.1] at hc
          have HC := hid hc
          clear hc H
          cases hz2 : (s.at_ == n)
          all_goals
            have hz1 := HLS.out.trans hz2
            go_wp2_with fail
            refine HC.out.mono ?_
            rintro e w11 ⟨rfl, H⟩
            go_wp2_with fail
            go_roundw
            case rel => exact ⟨h', t + 1, q2, HI2.out, by congr 1; omega, rfl, H.take 2⟩
            case measure => simp [intOf]; omega
        · obtain rfl : h = m := by have := hI.hm; omega
          rw [if_neg (by omega)]
          have htn := HI.out.all rfl
          have hnn : (n != n) = false := by simp
          have hle : n * (h : Int) ≤ 8 * h := Int.mul_le_mul_of_nonneg_right hn8 (by omega)
          have hge : 0 ≤ n * (h : Int) := Int.mul_nonneg (by omega) (by omega)
          have heq : ((2 * t : Int) == 2 * n * h) = true := by rw [beq_iff_eq, htn, Int.mul_assoc]
          have hml : 2 * n * (h : Int) ≤ 128 := by rw [Int.mul_assoc]; omega
          have hmg : 0 ≤ 2 * n * (h : Int) := by rw [Int.mul_assoc]; omega
          clear htn hle hge hh hI
          have hlen := HI.out.len
          have HW := hid HI.out.wf.n
          go_wp2_with fail
          have hrw := st_rowsT H 0 rfl HW.out
          rw [hlen] at hrw
          refine hrw.mono ?_
          clear hrw H
          rintro e w7 ⟨a5, rfl, H⟩
          try simp only [List.nil_append, List.cons_append, List.set_cons_zero, List.set_cons_succ] at H
          go_wp2_with fail
          have HH := hid H
          clear H
          obtain ⟨wp, rfl⟩ : ∃ wp : World, wp = wr := ⟨_, rfl⟩
          go_loopw [18] (fun i wi => ∃ (j : Nat), j ≤ h ∧ i = .int .i64 j ∧ St (.of w) wi [QkT Q q, BlkT wo (.cells #[.int .i64 3, .int .i64 2] 31), RwT a5 q.rows]) (fun i _ => h - (intOf i).toNat)
          case atStart => exact ⟨0, Nat.zero_le _, rfl, HH.out⟩
          case round =>
            clear HH
            obtain ⟨j, hj, rfl, H⟩ := hrel
            by_cases hjl : j < h
            · have i1 := H.rw_ 2 rfl
              obtain ⟨ba, oa, rfl⟩ := i1.sm (by omega)
              obtain ⟨y0, y1, y2, y3, y4, y5, y6, y7⟩ := qrow_cells i1 j (by omega)
              have hlo := HI.out.lo j hjl
              have hc := st_grant H 0 rfl HI.out.wf (j + 1) 999 3 2
              rw [grant_112 (by omega) (by omega)] at hc
              rw [hlo.1] at y1
              rw [hlo.2] at y2
              have b0 := cell_blk (i := 0) (H.blk 1 rfl) rfl
              have b1 := cell_blk (i := 1) (H.blk 1 rfl) rfl
              have HC := hid hc
              clear hc hlo i1 H y0 y3 y4 y5 y6 y7
              go_wp2_with fail
              refine HC.out.mono ?_
              rintro e w8 ⟨rfl, H⟩
              try simp only [List.nil_append, List.cons_append, List.set_cons_zero, List.set_cons_succ] at H
              go_wp2_with fail
              go_roundw
              case rel => exact ⟨j + 1, by omega, by go_num, H⟩
              case measure => simp [intOf]; omega
            · have HF := hid H.fr
              obtain rfl : j = h := by omega
              go_wp2_with fail
              refine (fixed11 _).mono ?_
              rintro e w108 ⟨rfl, hF2⟩
              go_wp2_with fail
              go_ret
              exact ⟨rfl, HF.out.trans hF2⟩

theorem qends_walk (w : World) (n : Int) (n1 : -9223372036854775808 ≤ n) (n2 : n ≤ 9223372036854775807) (jb : Int) (j1 : -9223372036854775808 ≤ jb) (j2 : jb ≤ 9223372036854775807) :
    Calls Try.prog 3 #[.int .i64 n, .int .i64 jb] w fun e w' => e = .returned (.bool true) ∧ Fr [] w w' := qends_any w n jb j1 j2

end Go.Proofs.Ythdcpenhfccagaa
