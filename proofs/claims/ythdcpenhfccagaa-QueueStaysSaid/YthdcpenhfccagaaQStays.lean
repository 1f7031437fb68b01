/-
  The walk of QueueStays.
-/
import Derived.Test.YthdcpenhfccagaaQStays0
import Derived.Deep.CutRange
import Derived.Test.YthdcpenhfccagaaCalm
import Derived.Deep.CutBlock
namespace Go.Proofs.Ythdcpenhfccagaa
open Go.RowKit
set_option linter.unusedVariables false
set_option linter.unusedSimpArgs false

/-- What the loop keeps. -/
structure StI (w wr : World) (n : Int) (Q : Nat) (a : Option Addr) (q : QS) (b : Int) : Prop where
  st : St (.of w) wr [QkT Q q, RwT a q.rows]
  wf : q.wf
  att : q.att = n
  last : Last b q

set_option maxHeartbeats 6400000 in
set_option maxRecDepth 100000 in
theorem qstays_any (w : World) (n : Int) (s : Option Addr) (ns cs : Nat) (l : Nat → Op11) (hO : Ops11 w s ns cs l) :
    Calls Try.prog 9 #[.int .i64 n, .slice s ns cs] w fun e w' => e = .returned (.bool true) ∧ Fr [] w w' := by
  have hms := hO.2.1
  have hls := hO.1
  by_cases hn : n < 1 ∨ 8 < n
  · have HN := hid (queue_new_bad w n hn)
    clear hO
    rcases hn with hn | hn
    all_goals
      go_enter Try.func9, Try.ntmps9
      go_wp2_with fail
      refine (HN.out).mono ?_
      rintro e w101 ⟨rfl, rfl⟩
      go_wp2_with fail
      refine (fixed11 _).mono ?_
      rintro e w102 ⟨rfl, hF2⟩
      go_wp2_with fail
      go_ret
      exact ⟨rfl, hF2⟩
  have hn1 : 1 ≤ n := by omega
  have hn8 : n ≤ 8 := by omega
  have H := St.refl w
  have HO := hid hO
  clear hO hn
  go_enter Try.func9, Try.ntmps9
  go_wp2_with fail
  refine (st_qnew H n hn1 hn8).mono ?_
  clear H
  rintro e w103 ⟨Q, rfl, H⟩
  try simp only [List.nil_append, List.cons_append, List.set_cons_zero, List.set_cons_succ] at H
  go_wp2_with fail
  have hw0 : (⟨n, []⟩ : QS).wf := qnew_wf hn1 hn8
  have HI := hid (show StI w _ n Q _ ⟨n, []⟩ 0 from ⟨H.emptyIn (.cells #[] 37) 8 (qL.at_ []), hw0, rfl, .inl rfl⟩)
  clear H hw0
  go_loopw [7, 8, 9] (fun ov bv i wr => ∃ (k : Nat) (a : Option Addr) (q : QS) (b : Int), k ≤ ns ∧ i = .int .i64 k ∧ ov = .slice a q.rows.length q.rows.length ∧ bv = .int .i64 b ∧ StI w wr n Q a q b) (fun _ _ i _ => ns - (intOf i).toNat)
  case atStart => exact ⟨0, _, _, 0, Nat.zero_le _, rfl, rfl, rfl, HI.out⟩
  case round =>
    clear HI
    obtain ⟨k, a, q, b, hk, rfl, rfl, rfl, hI⟩ := hrel
    have HV := hid hI
    clear hI
    by_cases hlt : k < ns
    · obtain ⟨bb, ob, rfl⟩ := HO.out.2.2.2.2.1 (by omega)
      obtain ⟨d0, d1, d2, d3, d4, d5, d6, d7⟩ := HO.out.2.2.2.2.2 bb ob rfl k hlt _ HV.out.st.fr
      generalize l k = o at d0 d1 d2 d3 d4 d5 d6 d7
      have H := HV.out.st
      have HA := hid (H.alloc_ (.cells #[.int .i64 o.on, .int .i64 o.kind, .int .i64 o.job, .int .i64 o.badge, .int .i64 o.node, .int .i64 o.life, .int .i64 o.code, .int .u64 o.bits] 48))
      have HB := hid (H.alloc (.cells #[.int .i64 o.on, .int .i64 o.kind, .int .i64 o.job, .int .i64 o.badge, .int .i64 o.node, .int .i64 o.life, .int .i64 o.code, .int .u64 o.bits] 48))
      have HW := hid HV.out.wf
      have HN := hid HV.out.att
      have HL := hid HV.out.last
      clear H HV
      go_upto_block 2 with (fail)
      clear d0 d1 d2 d3 d4 d5 d6 d7
      go_cut [8, 11] from 44 to 171 (fun bv ev wx => ∃ (q' : QS) (b' z : Int), bv = .int .i64 b' ∧ ev = .int .i64 z ∧ St (.of w) wx [QkT Q q', RwT a q.rows] ∧ q'.wf ∧ Stay q q' ∧ Last b' q')
      case first =>
        by_cases h0 : o.kind = 0
        · have e0 : (o.kind == 0) = true := by rw [beq_iff_eq]; exact h0
          clear h0
          go_wp2_with fail
          refine (st_submit HA.out 0 rfl HW.out.n).mono ?_
          rintro e w1 ⟨rfl, H⟩
          go_wp2_with fail
          go_meet
          have hs := chg_stay (submit_chg HW.out)
          case rel => exact ⟨_, b, 0, rfl, rfl, H, submit_wf HW.out, hs, last_stay HL.out hs⟩
        have e0 : (o.kind == 0) = false := by rw [beq_eq_false_iff_ne]; exact h0
        by_cases h2 : o.kind = 2
        · have e2 : (o.kind == 2) = true := by rw [beq_iff_eq]; exact h2
          have hg := chg_stay (grant_chg HW.out o.job o.badge o.node o.life)
          have hgw := grant_wf HW.out o.job o.badge o.node o.life
          have hc := st_grant HB.out 0 rfl HW.out o.job o.badge o.node o.life
          have hl := fun h => last_grant HL.out o.job o.badge o.node o.life h
          generalize q.grant o.job o.badge o.node o.life = r at hg hgw hc hl
          obtain ⟨z, q'⟩ := r
          have HC := hid hc
          clear h0 h2 hc
          by_cases hz : z = 0
          · subst hz
            have hb := (hl rfl).1
            have hl2 := (hl rfl).2
            have HR := hid (And.intro hg (And.intro hgw hl2))
            clear hl hg hgw hl2
            go_wp2_with fail
            refine HC.out.mono ?_
            clear HC
            rintro e w1 ⟨rfl, H⟩
            try simp only [List.nil_append, List.cons_append, List.set_cons_zero, List.set_cons_succ] at H
            have k3 := cell_blk (i := 3) (H.blk 2 rfl) rfl
            have hb2 : ¬ o.badge ≤ b := by omega
            clear hb
            go_wp2_with fail
            go_meet
            case rel => exact ⟨q', o.badge, 0, rfl, rfl, H.take 2, HR.out.2.1, HR.out.1, HR.out.2.2⟩
          · have hz2 : (z == 0) = false := by rw [beq_eq_false_iff_ne]; exact hz
            have HR := hid (And.intro hg hgw)
            clear hl hg hgw hz
            go_wp2_with fail
            refine HC.out.mono ?_
            clear HC
            rintro e w1 ⟨rfl, H⟩
            try simp only [List.nil_append, List.cons_append, List.set_cons_zero, List.set_cons_succ] at H
            go_wp2_with fail
            go_meet
            case rel => exact ⟨q', b, z, rfl, rfl, H.take 2, HR.out.2, HR.out.1, last_stay HL.out HR.out.1⟩
        have e2 : (o.kind == 2) = false := by rw [beq_eq_false_iff_ne]; exact h2
        by_cases h3 : o.kind = 3
        · have e3 : (o.kind == 3) = true := by rw [beq_iff_eq]; exact h3
          clear h0 h2 h3
          go_wp2_with fail
          refine (st_expire HA.out 0 rfl HW.out o.badge).mono ?_
          rintro e w1 ⟨rfl, H⟩
          go_wp2_with fail
          go_meet
          have hs := chg_stay (expire_chg HW.out o.badge)
          case rel => exact ⟨_, b, 0, rfl, rfl, H, expire_wf HW.out _, hs, last_stay HL.out hs⟩
        · have e3 : (o.kind == 3) = false := by rw [beq_eq_false_iff_ne]; exact h3
          clear h0 h2 h3
          go_wp2_with fail
          refine (st_settle HA.out 0 rfl HW.out o.badge o.code o.bits).mono ?_
          rintro e w1 ⟨rfl, H⟩
          go_wp2_with fail
          go_meet
          have hs := chg_stay (settle_chg HW.out o.badge o.code o.bits)
          case rel => exact ⟨_, b, 0, rfl, rfl, H, settle_wf HW.out _ _ _, hs, last_stay HL.out hs⟩
      case rest =>
        obtain ⟨q', b', z, rfl, rfl, H, hw', hs, hl'⟩ := hcut
        obtain ⟨at', rs⟩ := q'
        obtain rfl : at' = n := hs.att.trans HN.out
        have HC := hid (And.intro hw' (And.intro hs hl'))
        have hlen : q.rows.length ≤ rs.length := hs.len
        have hr8 : rs.length ≤ 8 := hw'.n
        clear HA HB HW HL HN hs hw' hl'
        go_wp2_with fail
        refine (st_rowsT H 0 rfl HC.out.1.n).mono ?_
        clear H
        rintro e w104 ⟨a5, rfl, H⟩
        try simp only [List.nil_append, List.cons_append, List.set_cons_zero, List.set_cons_succ] at H
        go_wp2_with fail
        have HH := hid H
        clear H
        obtain ⟨wo, rfl⟩ : ∃ wo : World, wo = wr := ⟨_, rfl⟩
        go_loopw [13] (fun i wi => ∃ (j : Nat), j ≤ q.rows.length ∧ i = .int .i64 j ∧ St (.of w) wi [QkT Q ⟨at', rs⟩, RwT a q.rows, RwT a5 rs]) (fun i _ => q.rows.length - (intOf i).toNat)
        case atStart => exact ⟨0, Nat.zero_le _, rfl, HH.out⟩
        case round =>
          clear HH
          obtain ⟨j, hj, rfl, H⟩ := hrel
          by_cases hjl : j < q.rows.length
          · have hjl2 : j < rs.length := by omega
            have i1 := H.rw_ 1 rfl
            have i2 := H.rw_ 2 rfl
            obtain ⟨ba, oa, rfl⟩ := i1.sm (by omega)
            obtain ⟨bc, oc, rfl⟩ := i2.sm (by omega)
            have HK := hid (fun (wx : World) (hx : Fr [] wr wx) => And.intro (qrow_cells (i1.fr0 hx) j hjl) (qrow_cells (i2.fr0 hx) j hjl2))
            have HS := hid (And.intro (HC.out.2.1.st j hjl) (And.intro (HC.out.2.1.at_ j hjl) (HC.out.2.1.ba j hjl)))
            have HH := hid H
            clear i1 i2 H
            simp only [] at HS
            by_cases hst : (qL.nth q.rows j).st = 3 ∨ (qL.nth q.rows j).st = 4
            · have he := HS.out.1 hst
              rw [he] at HK
              generalize qL.nth q.rows j = x at HK hst
              have hb : (x.st == 3 || x.st == 4) = true := by simpa using hst
              have HB := hid hb
              have hxy : ((⟨x.job, x.st, x.at_, x.ba, x.node, x.life, x.code, x.bits⟩ : QR) == ⟨x.job, x.st, x.at_, x.ba, x.node, x.life, x.code, x.bits⟩) = true := (qr_eq _ _).2 rfl
              have hxx : (x == x) = true := (qr_eq _ _).2 rfl
              clear he hst hb HS
              have h0 := HK.out wr (Fr.refl _ _)
              go_wp2_with fail
              clear h0
              refine wp_region_calm (S := fun wx : World => Fr [] wr wx) (by kernel_rfl) (by kernel_rfl) ((Fr.refl _ _).drew) ?_
              repeat (first | (refine calmRow_free (v := ?_) rfl ?_ ?_; rotate_left; (focus (intro wx hSx; (try dsimp only at hSx); have hcx := HK.out wx hSx; go_simp; (first | with_reducible rfl | exact ⟨rfl, hSx⟩ | (refine (settled_any _ x _ HB.out).mono ?_; rintro e w1 ⟨rfl, hF1⟩; refine ⟨?_, hSx.trans hF1⟩; with_reducible rfl)))); (try simp only [Act.put, List.setIfInBounds_toArray, List.set_cons_zero, List.set_cons_succ])) | (refine calmRow_skip ?_ ?_; (focus (go_simp; done)); (try simp only [Act.put, List.setIfInBounds_toArray, List.set_cons_zero, List.set_cons_succ])) | (refine calmRow_take (v := ?_) ?_ ?_ ?_; rotate_left; (focus (go_simp; done)); (focus (intro wx hSx; (try dsimp only at hSx); have hcx := HK.out wx hSx; go_simp; (first | with_reducible rfl | exact ⟨rfl, hSx⟩ | (refine (settled_any _ x _ HB.out).mono ?_; rintro e w1 ⟨rfl, hF1⟩; refine ⟨?_, hSx.trans hF1⟩; with_reducible rfl)))); (try simp only [Act.put, List.setIfInBounds_toArray, List.set_cons_zero, List.set_cons_succ])))
              refine calmRow_nil ?_
              intro wn hFx
              try dsimp only at hFx
              go_wp2_with fail
              go_roundw
              case rel => exact ⟨j + 1, by omega, by go_num, HH.out.same hFx⟩
              case measure => simp [intOf]; omega
            · have h2 := HS.out.2.1
              have h3 := HS.out.2.2
              generalize qL.nth q.rows j = x at HK hst h2 h3
              generalize qL.nth rs j = y at HK h2 h3
              have hb : (x.st == 3 || x.st == 4) = false := by simpa using hst
              have HB := hid hb
              have g2 : decide (y.at_ < x.at_) = false := by simpa using h2
              have g3 : decide (y.ba < x.ba) = false := by simpa using h3
              clear hst hb HS h2 h3
              have h0 := HK.out wr (Fr.refl _ _)
              go_wp2_with fail
              clear h0
              refine wp_region_calm (S := fun wx : World => Fr [] wr wx) (by kernel_rfl) (by kernel_rfl) ((Fr.refl _ _).drew) ?_
              repeat (first | (refine calmRow_free (v := ?_) rfl ?_ ?_; rotate_left; (focus (intro wx hSx; (try dsimp only at hSx); have hcx := HK.out wx hSx; go_simp; (first | with_reducible rfl | exact ⟨rfl, hSx⟩ | (refine (settled_any _ x _ HB.out).mono ?_; rintro e w1 ⟨rfl, hF1⟩; refine ⟨?_, hSx.trans hF1⟩; with_reducible rfl)))); (try simp only [Act.put, List.setIfInBounds_toArray, List.set_cons_zero, List.set_cons_succ])) | (refine calmRow_skip ?_ ?_; (focus (go_simp; done)); (try simp only [Act.put, List.setIfInBounds_toArray, List.set_cons_zero, List.set_cons_succ])) | (refine calmRow_take (v := ?_) ?_ ?_ ?_; rotate_left; (focus (go_simp; done)); (focus (intro wx hSx; (try dsimp only at hSx); have hcx := HK.out wx hSx; go_simp; (first | with_reducible rfl | exact ⟨rfl, hSx⟩ | (refine (settled_any _ x _ HB.out).mono ?_; rintro e w1 ⟨rfl, hF1⟩; refine ⟨?_, hSx.trans hF1⟩; with_reducible rfl)))); (try simp only [Act.put, List.setIfInBounds_toArray, List.set_cons_zero, List.set_cons_succ])))
              refine calmRow_nil ?_
              intro wn hFx
              try dsimp only at hFx
              go_wp2_with fail
              go_roundw
              case rel => exact ⟨j + 1, by omega, by go_num, HH.out.same hFx⟩
              case measure => simp [intOf]; omega
          · have HH := hid H
            clear H
            obtain ⟨hr, ht⟩ : (∃ h, (⟨at', rs⟩ : QS).head = h) ∧ True := ⟨⟨_, rfl⟩, trivial⟩
            have H := HH.out
            clear HH ht hr
            go_wp2_with fail
            refine (st_qload H at' hn1 hn8 a5 rs.length rs.length rs rfl (H.rw_ 2 rfl) HC.out.1).mono ?_
            clear H
            rintro e w105 ⟨Q2, rfl, H⟩
            try simp only [List.nil_append, List.cons_append, List.set_cons_zero, List.set_cons_succ] at H
            go_wp2_with fail
            refine (st_rowsT H 3 rfl HC.out.1.n).mono ?_
            clear H
            rintro e w106 ⟨a6, rfl, H⟩
            try simp only [List.nil_append, List.cons_append, List.set_cons_zero, List.set_cons_succ] at H
            go_wp2_with fail
            refine (st_qsame H (H.rw_ 4 rfl) (H.rw_ 2 rfl) rfl).mono ?_
            clear H
            rintro e w107 ⟨rfl, H⟩
            try simp only [List.nil_append, List.cons_append, List.set_cons_zero, List.set_cons_succ] at H
            go_wp2_with fail
            refine (st_headT H 3 rfl HC.out.1.n).mono ?_
            clear H
            rintro e w108 ⟨rfl, H⟩
            try simp only [List.nil_append, List.cons_append, List.set_cons_zero, List.set_cons_succ] at H
            go_wp2_with fail
            refine (st_headT H 0 rfl HC.out.1.n).mono ?_
            clear H
            rintro e w109 ⟨rfl, H⟩
            try simp only [List.nil_append, List.cons_append, List.set_cons_zero, List.set_cons_succ] at H
            go_wp2_with fail
            have HH := hid (H.pick [0, 2] (R' := [QkT Q ⟨at', rs⟩, RwT a5 rs]) (by decide) rfl (by intro k i hk; match k with | 0 => cases hk; rfl | 1 => cases hk; rfl | k + 2 => simp at hk))
            go_roundw
            case rel => exact ⟨k + 1, a5, ⟨at', rs⟩, b', by omega, by go_num, rfl, rfl, ⟨HH.out, HC.out.1, rfl, HC.out.2.2⟩⟩
            case measure => simp [intOf]; omega
    · have HF := hid HV.out.st.fr
      go_wp2_with fail
      refine (fixed11 _).mono ?_
      rintro e w110 ⟨rfl, hF2⟩
      go_wp2_with fail
      go_ret
      exact ⟨rfl, HF.out.trans hF2⟩

theorem qstays_walk (w : World) (n : Int) (n1 : -9223372036854775808 ≤ n) (n2 : n ≤ 9223372036854775807) (s : Option Addr) (ns cs : Nat) (U : Nat → Value) (hT : SlIn w 8 64 s ns cs U) (hq0 : ∀ i, i < ns → I64 (U (i * 8))) (hq1 : ∀ i, i < ns → I64 (U (i * 8 + 1))) (hq2 : ∀ i, i < ns → I64 (U (i * 8 + 2))) (hq3 : ∀ i, i < ns → I64 (U (i * 8 + 3)))
    (hq4 : ∀ i, i < ns → I64 (U (i * 8 + 4))) (hq5 : ∀ i, i < ns → I64 (U (i * 8 + 5))) (hq6 : ∀ i, i < ns → I64 (U (i * 8 + 6))) (hq7 : ∀ i, i < ns → U64 (U (i * 8 + 7))) :
    Calls Try.prog 9 #[.int .i64 n, .slice s ns cs] w fun e w' => e = .returned (.bool true) ∧ Fr [] w w' := by
  obtain ⟨l, hO⟩ := ops11_of hT hq0 hq1 hq2 hq3 hq4 hq5 hq6 hq7
  exact qstays_any w n s ns cs l hO

end Go.Proofs.Ythdcpenhfccagaa
