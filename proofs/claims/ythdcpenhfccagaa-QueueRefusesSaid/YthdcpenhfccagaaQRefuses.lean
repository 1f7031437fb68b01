/-
  The walk of QueueRefuses.
-/
import Derived.Test.YthdcpenhfccagaaQChg
namespace Go.Proofs.Ythdcpenhfccagaa
open Go.RowKit
set_option linter.unusedVariables false
set_option linter.unusedSimpArgs false

set_option maxHeartbeats 3200000 in
set_option maxRecDepth 100000 in
theorem qrefuses_any (w : World) (n : Int) (s : Option Addr) (ns cs : Nat) (l : Nat → Op11) (hO : Ops11 w s ns cs l) :
    Calls Try.prog 4 #[.int .i64 n, .slice s ns cs] w fun e w' => e = .returned (.bool true) ∧ Fr [] w w' := by
  have hms := hO.2.1
  have hls := hO.1
  by_cases hn : n < 1 ∨ 8 < n
  · have HN := hid (queue_new_bad w n hn)
    clear hn hO
    go_enter Try.func4, Try.ntmps4
    go_wp2_with fail
    refine (HN.out).mono ?_
    rintro e w101 ⟨rfl, rfl⟩
    go_wp2_with fail
    refine (fixed11 _).mono ?_
    rintro e w102 ⟨rfl, hF2⟩
    go_wp2_with fail
    go_ret
    exact ⟨rfl, hF2⟩
  have H := St.refl w
  have HO := hid hO
  clear hO
  go_enter Try.func4, Try.ntmps4
  go_wp2_with fail
  refine (st_qnew H n (by omega) (by omega)).mono ?_
  clear H
  rintro e w103 ⟨Q, rfl, H⟩
  try simp only [List.nil_append, List.cons_append, List.set_cons_zero, List.set_cons_succ] at H
  go_wp2_with fail
  have hw0 : (⟨n, []⟩ : QS).wf := qnew_wf (by omega) (by omega)
  have HI := hid (And.intro H hw0)
  clear H hw0 hn
  go_loopw [7] (fun i wr => ∃ (k : Nat) (q : QS), k ≤ ns ∧ i = .int .i64 k ∧ St (.of w) wr [QkT Q q] ∧ q.wf) (fun i _ => ns - (intOf i).toNat)
  case atStart => exact ⟨0, _, Nat.zero_le _, rfl, HI.out.1, HI.out.2⟩
  case round =>
    clear HI
    obtain ⟨k, q, hk, rfl, H, hwq⟩ := hrel
    have HWQ := hid hwq
    clear hwq
    by_cases hlt : k < ns
    · obtain ⟨bb, ob, rfl⟩ := HO.out.2.2.2.2.1 (by omega)
      obtain ⟨z, q', hz⟩ : ∃ z q', (l k).run q = (z, q') := ⟨_, _, rfl⟩
      have HZ := hid hz
      have HWQ' := hid (run_wf HWQ.out hz)
      have HCH := hid (chg_counts (run_chg HWQ.out hz))
      clear hz
      have hl0 := HWQ.out.n
      have hl1 := HWQ'.out.n
      have hl2 := HCH.out.1
      go_wp2_with fail
      refine (st_rowsT H 0 rfl hl0).mono ?_
      clear H
      rintro e w104 ⟨a4, rfl, H⟩
      try simp only [List.nil_append, List.cons_append, List.set_cons_zero, List.set_cons_succ] at H
      obtain ⟨d0, d1, d2, d3, d4, d5, d6, d7⟩ := HO.out.2.2.2.2.2 bb ob rfl k hlt _ H.fr
      go_wp2_with fail
      clear d0 d1 d2 d3 d4 d5 d6 d7
      refine (st_doesZ H 0 rfl HWQ.out HZ.out).mono ?_
      clear H
      rintro e w105 ⟨rfl, H⟩
      try simp only [List.nil_append, List.cons_append, List.set_cons_zero, List.set_cons_succ] at H
      go_wp2_with fail
      refine (st_rowsT H 0 rfl HWQ'.out.n).mono ?_
      clear H
      rintro e w106 ⟨a5, rfl, H⟩
      try simp only [List.nil_append, List.cons_append, List.set_cons_zero, List.set_cons_succ] at H
      go_wp2_with fail
      have HH := hid H
      clear H
      obtain ⟨wo, rfl⟩ : ∃ wo : World, wo = wr := ⟨_, rfl⟩
      go_loopw [11, 12] (fun cv i wi => ∃ (j : Nat), j ≤ q.rows.length ∧ i = .int .i64 j ∧ cv = .int .i64 (df q.rows q'.rows j) ∧ St (.of w) wi [QkT Q q', RwT a4 q.rows, RwT a5 q'.rows]) (fun _ i _ => q.rows.length - (intOf i).toNat)
      case atStart => exact ⟨0, Nat.zero_le _, rfl, rfl, HH.out⟩
      case round =>
        clear HH
        obtain ⟨j, hj, rfl, rfl, H⟩ := hrel
        have hdf := df_le q.rows q'.rows j
        by_cases hjl : j < q.rows.length
        · have hjl2 : j < q'.rows.length := by omega
          have i1 := H.rw_ 1 rfl
          have i2 := H.rw_ 2 rfl
          obtain ⟨ba, oa, rfl⟩ := i1.sm (by omega)
          obtain ⟨bc, oc, rfl⟩ := i2.sm (by omega)
          obtain ⟨x0, x1, x2, x3, x4, x5, x6, x7⟩ := qrow_cells i1 j hjl
          obtain ⟨y0, y1, y2, y3, y4, y5, y6, y7⟩ := qrow_cells i2 j hjl2
          by_cases heq : qL.nth q.rows j = qL.nth q'.rows j
          · have hE : df q.rows q'.rows (j + 1) = df q.rows q'.rows j := by show df q.rows q'.rows j + _ = _; rw [if_pos heq, Nat.add_zero]
            have HE := hid hE
            rw [← heq] at y0 y1 y2 y3 y4 y5 y6 y7
            have HH := hid H
            clear heq hE i1 i2 H
            generalize qL.nth q.rows j = x at x0 x1 x2 x3 x4 x5 x6 x7 y0 y1 y2 y3 y4 y5 y6 y7
            have hxx : (x == x) = true := (qr_eq _ _).2 rfl
            have hxy : ((⟨x.job, x.st, x.at_, x.ba, x.node, x.life, x.code, x.bits⟩ : QR) == ⟨x.job, x.st, x.at_, x.ba, x.node, x.life, x.code, x.bits⟩) = true := (qr_eq _ _).2 rfl
            go_wp2
            go_quiet (fail)
            go_wp2
            go_roundw
            case rel => exact ⟨j + 1, by omega, by go_num, by rw [HE.out], HH.out.drewN _⟩
            case measure => simp [intOf]; omega
          · have hE : df q.rows q'.rows (j + 1) = df q.rows q'.rows j + 1 := by show df q.rows q'.rows j + _ = _; rw [if_neg heq]
            have HE := hid hE
            have hif := fun (a b : Result Next) => ne_if heq a b
            have HH := hid H
            clear heq hE i1 i2 H
            generalize qL.nth q.rows j = x at x0 x1 x2 x3 x4 x5 x6 x7 hif
            generalize qL.nth q'.rows j = y at y0 y1 y2 y3 y4 y5 y6 y7 hif
            go_wp2
            go_quiet (fail)
            go_wp2
            go_roundw
            case rel => exact ⟨j + 1, by omega, by go_num, by rw [HE.out]; push_cast; go_num, HH.out.drewN _⟩
            case measure => simp [intOf]; omega
        · obtain rfl : j = q.rows.length := by omega
          have hc := HCH.out.2
          generalize df q.rows q'.rows q.rows.length = d at hdf hc ⊢
          clear hdf hj
          cases z
          · have hc3 := hc.2 rfl
            have hc4 : ((d : Int) + q'.rows.length - q.rows.length != 1) = false := by rw [bne_eq_false_iff_eq]; exact hc3
            have HH := hid H
            clear H hc
            go_wp2
            go_roundw
            case rel => exact ⟨k + 1, q', by omega, by go_num, HH.out.take 1, HWQ'.out⟩
            case measure => simp [intOf]; omega
          · obtain ⟨hc3, hc5⟩ := hc.1 rfl
            subst hc3
            have hc4 : ((q.rows.length : Int) != q'.rows.length) = false := by rw [bne_eq_false_iff_eq]; omega
            have HH := hid H
            clear H hc hc5
            go_wp2
            go_roundw
            case rel => exact ⟨k + 1, q', by omega, by go_num, HH.out.take 1, HWQ'.out⟩
            case measure => simp [intOf]; omega
    · have HF := hid H.fr
      go_wp2_with fail
      refine (fixed11 _).mono ?_
      rintro e w107 ⟨rfl, hF2⟩
      go_wp2_with fail
      go_ret
      exact ⟨rfl, HF.out.trans hF2⟩

theorem qrefuses_walk (w : World) (n : Int) (n1 : -9223372036854775808 ≤ n) (n2 : n ≤ 9223372036854775807) (s : Option Addr) (ns cs : Nat) (U : Nat → Value) (hT : SlIn w 8 64 s ns cs U) (hq0 : ∀ i, i < ns → I64 (U (i * 8))) (hq1 : ∀ i, i < ns → I64 (U (i * 8 + 1))) (hq2 : ∀ i, i < ns → I64 (U (i * 8 + 2))) (hq3 : ∀ i, i < ns → I64 (U (i * 8 + 3)))
    (hq4 : ∀ i, i < ns → I64 (U (i * 8 + 4))) (hq5 : ∀ i, i < ns → I64 (U (i * 8 + 5))) (hq6 : ∀ i, i < ns → I64 (U (i * 8 + 6))) (hq7 : ∀ i, i < ns → U64 (U (i * 8 + 7))) :
    Calls Try.prog 4 #[.int .i64 n, .slice s ns cs] w fun e w' => e = .returned (.bool true) ∧ Fr [] w w' := by
  obtain ⟨l, hO⟩ := ops11_of hT hq0 hq1 hq2 hq3 hq4 hq5 hq6 hq7
  exact qrefuses_any w n s ns cs l hO

end Go.Proofs.Ythdcpenhfccagaa
