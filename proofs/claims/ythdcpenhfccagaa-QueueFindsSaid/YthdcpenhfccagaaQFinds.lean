/-
  The walk of QueueFinds.
-/
import Derived.Test.YthdcpenhfccagaaQAt
namespace Go.Proofs.Ythdcpenhfccagaa
open Go.RowKit
set_option linter.unusedVariables false
set_option linter.unusedSimpArgs false

set_option maxHeartbeats 6400000 in
set_option maxRecDepth 100000 in
theorem qfinds_any (w : World) (n : Int) (s : Option Addr) (ns cs : Nat) (l : Nat → Op11) (hO : Ops11 w s ns cs l) :
    Calls Try.prog 7 #[.int .i64 n, .slice s ns cs] w fun e w' => e = .returned (.bool true) ∧ Fr [] w w' := by
  have hms := hO.2.1
  have hls := hO.1
  by_cases hn : n < 1 ∨ 8 < n
  · have HN := hid (queue_new_bad w n hn)
    clear hn hO
    go_enter Try.func7, Try.ntmps7
    go_wp2_with fail
    refine (HN.out).mono ?_
    rintro e w101 ⟨rfl, rfl⟩
    go_wp2_with fail
    refine (fixed11 _).mono ?_
    rintro e w102 ⟨rfl, hF2⟩
    go_wp2_with fail
    go_ret
    exact ⟨rfl, hF2⟩
  have H := St.refl w
  have HO := hid hO
  clear hO
  go_enter Try.func7, Try.ntmps7
  go_wp2_with fail
  refine (st_qnew H n (by omega) (by omega)).mono ?_
  clear H
  rintro e w103 ⟨Q, rfl, H⟩
  try simp only [List.nil_append, List.cons_append, List.set_cons_zero, List.set_cons_succ] at H
  go_wp2_with fail
  have hw0 : (⟨n, []⟩ : QS).wf := qnew_wf (by omega) (by omega)
  have HI := hid (And.intro H hw0)
  have hn1 : 1 ≤ n := by omega
  have hn8 : n ≤ 8 := by omega
  clear H hw0 hn
  go_loopw [7] (fun i wr => ∃ (k : Nat) (q : QS), k ≤ ns ∧ i = .int .i64 k ∧ St (.of w) wr [QkT Q q] ∧ q.wf ∧ q.att = n) (fun i _ => ns - (intOf i).toNat)
  case atStart => exact ⟨0, _, Nat.zero_le _, rfl, HI.out.1, HI.out.2, rfl⟩
  case round =>
    clear HI
    obtain ⟨k, q, hk, rfl, H, hwq, hat⟩ := hrel
    have HWQ := hid hwq
    have HAT := hid hat
    clear hwq hat
    by_cases hlt : k < ns
    · obtain ⟨bb, ob, rfl⟩ := HO.out.2.2.2.2.1 (by omega)
      obtain ⟨z, q', hz⟩ : ∃ z q', (l k).run q = (z, q') := ⟨_, _, rfl⟩
      have HZ := hid hz
      have HWQ' := hid (run_wf HWQ.out hz)
      have HAT' := hid ((chg_att (run_chg HWQ.out hz)).trans HAT.out)
      clear hz
      have hl1 := HWQ'.out.n
      obtain ⟨d0, d1, d2, d3, d4, d5, d6, d7⟩ := HO.out.2.2.2.2.2 bb ob rfl k hlt _ H.fr
      go_wp2_with fail
      clear d0 d1 d2 d3 d4 d5 d6 d7
      refine (st_doesZ H 0 rfl HWQ.out HZ.out).mono ?_
      clear H
      rintro e w104 ⟨rfl, H⟩
      try simp only [List.nil_append, List.cons_append, List.set_cons_zero, List.set_cons_succ] at H
      go_wp2_with fail
      refine (st_rowsT H 0 rfl HWQ'.out.n).mono ?_
      clear H
      rintro e w105 ⟨a5, rfl, H⟩
      try simp only [List.nil_append, List.cons_append, List.set_cons_zero, List.set_cons_succ] at H
      go_wp2_with fail
      have HH := hid H
      clear H
      obtain ⟨wo, rfl⟩ : ∃ wo : World, wo = wr := ⟨_, rfl⟩
      go_loopw [9, 10, 11, 12] (fun hv jv lv i wi => ∃ (j : Nat), j ≤ q'.rows.length ∧ i = .int .i64 j ∧ hv = .int .i64 (hdk q'.rows j) ∧ jv = .int .i64 (opn n q'.rows j).1 ∧ lv = .int .i64 (opn n q'.rows j).2 ∧ St (.of w) wi [QkT Q q', RwT a5 q'.rows]) (fun _ _ _ i _ => q'.rows.length - (intOf i).toNat)
      case atStart => exact ⟨0, Nat.zero_le _, rfl, rfl, rfl, rfl, HH.out⟩
      case round =>
        clear HH
        obtain ⟨j, hj, rfl, rfl, rfl, rfl, H⟩ := hrel
        have hbd : 0 ≤ (opn n q'.rows j).1 ∧ (opn n q'.rows j).1 ≤ j ∧ 0 ≤ (opn n q'.rows j).2 ∧ (opn n q'.rows j).2 ≤ 8 * j := by have := opn_bd HWQ'.out j hj; rw [HAT'.out] at this; exact this
        obtain ⟨hb1, hb2, hb3, hb4⟩ := hbd
        have hdb := (hdk_inv q'.rows j).1
        by_cases hjl : j < q'.rows.length
        · have hrow := row_at hjl (j := (j : Int) + 1) rfl
          have hmay := may_facts (HWQ'.out.ok j hjl)
          rw [HAT'.out] at hmay
          have HM := hid hmay
          have ho1 : opn n q'.rows (j + 1) = if (qL.nth q'.rows j).st = 1 ∨ (qL.nth q'.rows j).st = 2 then ((opn n q'.rows j).1 + 1, (opn n q'.rows j).2 + (n - (qL.nth q'.rows j).at_)) else opn n q'.rows j := rfl
          have ho2 : hdk q'.rows (j + 1) = if (qL.nth q'.rows j).st = 1 ∧ hdk q'.rows j = 0 then j + 1 else hdk q'.rows j := rfl
          have HD := hid (And.intro ho1 ho2)
          have hfd : ∃ f z, q'.find (qL.nth q'.rows j).ba = (f, z) ∧ (0 < (qL.nth q'.rows j).ba ∧ f = qL.nth q'.rows j ∧ z = true ∨ ¬ 0 < (qL.nth q'.rows j).ba ∧ f = .zero ∧ z = false) := by
            by_cases h0 : 0 < (qL.nth q'.rows j).ba
            · exact ⟨_, _, find_at HWQ'.out hjl h0, .inl ⟨h0, rfl, rfl⟩⟩
            · exact ⟨_, _, find_no (by omega), .inr ⟨h0, rfl, rfl⟩⟩
          obtain ⟨f, zf, hf1, hf2⟩ := hfd
          have HF1 := hid hf1
          have HF2 := hid hf2
          have HR := hid hrow
          have i1 := H.rw_ 1 rfl
          obtain ⟨ba, oa, rfl⟩ := i1.sm (by omega)
          clear i1 hf1 hf2 hrow hmay ho1 ho2
          go_wp2_with fail
          refine (st_rowIs H 0 rfl HWQ'.out.n HR.out).mono ?_
          clear H
          rintro e w106 ⟨rfl, H⟩
          try simp only [List.nil_append, List.cons_append, List.set_cons_zero, List.set_cons_succ] at H
          obtain ⟨y0, y1, y2, y3, y4, y5, y6, y7⟩ := qrow_cells (H.rw_ 1 rfl) j hjl
          have hbl := World.block_lt_of_cell? _ _ y0
          simp only at hbl
          clear y0 y1 y2 y4 y5 y6 y7
          go_wp2_with fail
          clear y3 hbl
          refine (st_findIs (H.alloc _) 0 rfl HWQ'.out.n HF1.out).mono ?_
          clear H
          rintro e w107 ⟨rfl, H⟩
          try simp only [List.nil_append, List.cons_append, List.set_cons_zero, List.set_cons_succ] at H
          obtain ⟨y0, y1, y2, y3, y4, y5, y6, y7⟩ := qrow_cells (H.rw_ 1 rfl) j hjl
          have hbl := World.block_lt_of_cell? _ _ y0
          simp only at hbl
          have kb := H.blk 2 rfl
          have k0 := cell_blk (i := 0) kb rfl
          have k1 := cell_blk (i := 1) kb rfl
          have k2 := cell_blk (i := 2) kb rfl
          have k3 := cell_blk (i := 3) kb rfl
          have k4 := cell_blk (i := 4) kb rfl
          have k5 := cell_blk (i := 5) kb rfl
          have k6 := cell_blk (i := 6) kb rfl
          have k7 := cell_blk (i := 7) kb rfl
          have hkl := lt_of_block kb
          have HH := hid H
          clear kb H
          generalize hx : qL.nth q'.rows j = x at y0 y1 y2 y3 y4 y5 y6 y7 k0 k1 k2 k3 k4 k5 k6 k7
          have HX := hid hx
          rw [hx] at HM HF2 HD
          have hjob := HM.out.1
          have hat := HM.out.2.1
          have hat2 := HM.out.2.2.1
          clear hx
          have hxy : ((⟨x.job, x.st, x.at_, x.ba, x.node, x.life, x.code, x.bits⟩ : QR) == ⟨x.job, x.st, x.at_, x.ba, x.node, x.life, x.code, x.bits⟩) = true := (qr_eq _ _).2 rfl
          have hxx : (x == x) = true := (qr_eq _ _).2 rfl
          have hj1 : (x.job != (j : Int) + 1) = false := by rw [bne_eq_false_iff_eq]; exact hjob
          clear hjob
          have HJ := hid (And.intro hjl (And.intro hdb (And.intro hb1 (And.intro hb2 (And.intro hb3 hb4)))))
          rcases HF2.out with ⟨hp, hfx, rfl⟩ | ⟨hp, hfx, rfl⟩
          · obtain rfl := hfx.symm
            have hp1 : decide (x.ba > 0) = true := by simpa using hp
            clear hp hfx
            by_cases s1 : x.st = 1
            · have hs1 : (x.st == 1) = true := by rw [beq_iff_eq]; exact s1
              have E1 := HD.out.1
              rw [if_pos (.inl s1)] at E1
              have HE1 := hid E1
              by_cases h0 : hdk q'.rows j = 0
              · have E2 := HD.out.2
                rw [if_pos ⟨s1, h0⟩] at E2
                have HE2 := hid E2
                have hh : ((hdk q'.rows j : Int) == 0) = true := by rw [beq_iff_eq]; omega
                clear s1 h0
                clear E2 E1
                go_wp2
                go_quiet (fail)
                go_wp2
                go_roundw
                case rel => exact ⟨j + 1, by omega, by go_num, by rw [HE2.out] <;> go_num, by rw [HE1.out] <;> go_num, by rw [HE1.out] <;> go_num, by first | exact ((HH.out.alloc_ _).drewN _).take 2 | exact (HH.out.alloc_ _).take 2⟩
                case measure => simp [intOf]; omega
              · have E2 := HD.out.2
                rw [if_neg (fun h => h0 h.2)] at E2
                have HE2 := hid E2
                have hh : ((hdk q'.rows j : Int) == 0) = false := by rw [beq_eq_false_iff_ne]; omega
                clear s1 h0
                clear E2 E1
                go_wp2
                go_quiet (fail)
                go_wp2
                go_roundw
                case rel => exact ⟨j + 1, by omega, by go_num, by rw [HE2.out] <;> go_num, by rw [HE1.out] <;> go_num, by rw [HE1.out] <;> go_num, by first | exact ((HH.out.alloc_ _).drewN _).take 2 | exact (HH.out.alloc_ _).take 2⟩
                case measure => simp [intOf]; omega
            have hs1 : (x.st == 1) = false := by rw [beq_eq_false_iff_ne]; exact s1
            have E2 := HD.out.2
            rw [if_neg (fun h => s1 h.1)] at E2
            have HE2 := hid E2
            by_cases s2 : x.st = 2
            · have hs2 : (x.st == 2) = true := by rw [beq_iff_eq]; exact s2
              have E1 := HD.out.1
              rw [if_pos (.inr s2)] at E1
              have HE1 := hid E1
              clear s1 s2
              clear E2 E1
              go_wp2
              go_quiet (fail)
              go_wp2
              go_roundw
              case rel => exact ⟨j + 1, by omega, by go_num, by rw [HE2.out] <;> go_num, by rw [HE1.out] <;> go_num, by rw [HE1.out] <;> go_num, by first | exact ((HH.out.alloc_ _).drewN _).take 2 | exact (HH.out.alloc_ _).take 2⟩
              case measure => simp [intOf]; omega
            · have hs2 : (x.st == 2) = false := by rw [beq_eq_false_iff_ne]; exact s2
              have E1 := HD.out.1
              rw [if_neg (fun h => h.elim s1 s2)] at E1
              have HE1 := hid E1
              clear s1 s2
              clear E2 E1
              go_wp2
              go_quiet (fail)
              go_wp2
              go_roundw
              case rel => exact ⟨j + 1, by omega, by go_num, by rw [HE2.out] <;> go_num, by rw [HE1.out] <;> go_num, by rw [HE1.out] <;> go_num, by first | exact ((HH.out.alloc_ _).drewN _).take 2 | exact (HH.out.alloc_ _).take 2⟩
              case measure => simp [intOf]; omega
          · obtain rfl := hfx.symm
            have hp1 : decide (x.ba > 0) = false := by simpa using hp
            clear hp hfx
            by_cases s1 : x.st = 1
            · have hs1 : (x.st == 1) = true := by rw [beq_iff_eq]; exact s1
              have E1 := HD.out.1
              rw [if_pos (.inl s1)] at E1
              have HE1 := hid E1
              by_cases h0 : hdk q'.rows j = 0
              · have E2 := HD.out.2
                rw [if_pos ⟨s1, h0⟩] at E2
                have HE2 := hid E2
                have hh : ((hdk q'.rows j : Int) == 0) = true := by rw [beq_iff_eq]; omega
                clear s1 h0
                clear E2 E1
                go_wp2
                go_quiet (fail)
                go_wp2
                go_roundw
                case rel => exact ⟨j + 1, by omega, by go_num, by rw [HE2.out] <;> go_num, by rw [HE1.out] <;> go_num, by rw [HE1.out] <;> go_num, by first | exact ((HH.out.alloc_ _).drewN _).take 2 | exact (HH.out.alloc_ _).take 2⟩
                case measure => simp [intOf]; omega
              · have E2 := HD.out.2
                rw [if_neg (fun h => h0 h.2)] at E2
                have HE2 := hid E2
                have hh : ((hdk q'.rows j : Int) == 0) = false := by rw [beq_eq_false_iff_ne]; omega
                clear s1 h0
                clear E2 E1
                go_wp2
                go_quiet (fail)
                go_wp2
                go_roundw
                case rel => exact ⟨j + 1, by omega, by go_num, by rw [HE2.out] <;> go_num, by rw [HE1.out] <;> go_num, by rw [HE1.out] <;> go_num, by first | exact ((HH.out.alloc_ _).drewN _).take 2 | exact (HH.out.alloc_ _).take 2⟩
                case measure => simp [intOf]; omega
            have hs1 : (x.st == 1) = false := by rw [beq_eq_false_iff_ne]; exact s1
            have E2 := HD.out.2
            rw [if_neg (fun h => s1 h.1)] at E2
            have HE2 := hid E2
            by_cases s2 : x.st = 2
            · have hs2 : (x.st == 2) = true := by rw [beq_iff_eq]; exact s2
              have E1 := HD.out.1
              rw [if_pos (.inr s2)] at E1
              have HE1 := hid E1
              clear s1 s2
              clear E2 E1
              go_wp2
              go_quiet (fail)
              go_wp2
              go_roundw
              case rel => exact ⟨j + 1, by omega, by go_num, by rw [HE2.out] <;> go_num, by rw [HE1.out] <;> go_num, by rw [HE1.out] <;> go_num, by first | exact ((HH.out.alloc_ _).drewN _).take 2 | exact (HH.out.alloc_ _).take 2⟩
              case measure => simp [intOf]; omega
            · have hs2 : (x.st == 2) = false := by rw [beq_eq_false_iff_ne]; exact s2
              have E1 := HD.out.1
              rw [if_neg (fun h => h.elim s1 s2)] at E1
              have HE1 := hid E1
              clear s1 s2
              clear E2 E1
              go_wp2
              go_quiet (fail)
              go_wp2
              go_roundw
              case rel => exact ⟨j + 1, by omega, by go_num, by rw [HE2.out] <;> go_num, by rw [HE1.out] <;> go_num, by rw [HE1.out] <;> go_num, by first | exact ((HH.out.alloc_ _).drewN _).take 2 | exact (HH.out.alloc_ _).take 2⟩
              case measure => simp [intOf]; omega
        · obtain rfl : j = q'.rows.length := by omega
          have hop := fun (w1 : World) (H1 : St (.of w) w1 [QkT Q q', RwT a5 q'.rows]) => st_openT H1 0 rfl HWQ'.out
          rw [show q'.opened = opn n q'.rows q'.rows.length by unfold QS.opened; rw [HAT'.out]] at hop
          have hhd := fun (w1 : World) (H1 : St (.of w) w1 [QkT Q q', RwT a5 q'.rows]) => st_headT H1 0 rfl HWQ'.out.n
          rw [hdk_head] at hhd
          have HOP := hid hop
          have HHD := hid hhd
          clear hop hhd
          have e1 : ((opn n q'.rows q'.rows.length).1 != (opn n q'.rows q'.rows.length).1) = false := by simp
          have e2 : ((opn n q'.rows q'.rows.length).2 != (opn n q'.rows q'.rows.length).2) = false := by simp
          have e3 : ((hdk q'.rows q'.rows.length : Int) != hdk q'.rows q'.rows.length) = false := by simp
          go_wp2_with fail
          refine (HOP.out _ H).mono ?_
          clear H
          rintro e w108 ⟨rfl, H⟩
          try simp only [List.nil_append, List.cons_append, List.set_cons_zero, List.set_cons_succ] at H
          go_wp2_with fail
          refine (st_rowIs H 0 rfl HWQ'.out.n (row_no (.inr (by omega)))).mono ?_
          clear H
          rintro e w109 ⟨rfl, H⟩
          try simp only [List.nil_append, List.cons_append, List.set_cons_zero, List.set_cons_succ] at H
          go_wp2_with fail
          refine (st_rowIs (H.alloc_ _) 0 rfl HWQ'.out.n (row_no (.inl (by omega)))).mono ?_
          clear H
          rintro e w110 ⟨rfl, H⟩
          try simp only [List.nil_append, List.cons_append, List.set_cons_zero, List.set_cons_succ] at H
          go_wp2_with fail
          refine (st_findIs (H.alloc_ _) 0 rfl HWQ'.out.n (find_no (by omega))).mono ?_
          clear H
          rintro e w111 ⟨rfl, H⟩
          try simp only [List.nil_append, List.cons_append, List.set_cons_zero, List.set_cons_succ] at H
          go_wp2_with fail
          refine (HHD.out _ (H.alloc_ _)).mono ?_
          clear H
          rintro e w112 ⟨rfl, H⟩
          try simp only [List.nil_append, List.cons_append, List.set_cons_zero, List.set_cons_succ] at H
          go_wp2_with fail
          go_roundw
          case rel => exact ⟨k + 1, q', by omega, by go_num, H.take 1, HWQ'.out, HAT'.out⟩
          case measure => simp [intOf]; omega
    · have HF := hid H.fr
      go_wp2_with fail
      refine (fixed11 _).mono ?_
      rintro e w113 ⟨rfl, hF2⟩
      go_wp2_with fail
      go_ret
      exact ⟨rfl, HF.out.trans hF2⟩

theorem qfinds_walk (w : World) (n : Int) (n1 : -9223372036854775808 ≤ n) (n2 : n ≤ 9223372036854775807) (s : Option Addr) (ns cs : Nat) (U : Nat → Value) (hT : SlIn w 8 64 s ns cs U) (hq0 : ∀ i, i < ns → I64 (U (i * 8))) (hq1 : ∀ i, i < ns → I64 (U (i * 8 + 1))) (hq2 : ∀ i, i < ns → I64 (U (i * 8 + 2))) (hq3 : ∀ i, i < ns → I64 (U (i * 8 + 3)))
    (hq4 : ∀ i, i < ns → I64 (U (i * 8 + 4))) (hq5 : ∀ i, i < ns → I64 (U (i * 8 + 5))) (hq6 : ∀ i, i < ns → I64 (U (i * 8 + 6))) (hq7 : ∀ i, i < ns → U64 (U (i * 8 + 7))) :
    Calls Try.prog 7 #[.int .i64 n, .slice s ns cs] w fun e w' => e = .returned (.bool true) ∧ Fr [] w w' := by
  obtain ⟨l, hO⟩ := ops11_of hT hq0 hq1 hq2 hq3 hq4 hq5 hq6 hq7
  exact qfinds_any w n s ns cs l hO

end Go.Proofs.Ythdcpenhfccagaa
