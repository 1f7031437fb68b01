/-
  The document's queue: Grant, Expire, Settle.
-/
import Derived.Test.YthdcpenhfccagaaQX1
namespace Go.Proofs.Ythdcpenhfccagaa
open Go.RowKit
set_option linter.unusedVariables false
set_option linter.unusedSimpArgs false

section
variable {W : Base} {w : World} {R : List Thing}

set_option maxHeartbeats 3200000 in
set_option maxRecDepth 100000 in
theorem st_xgrant (H : St W w R) (i : Nat) {X : Nat} {q : QS} (hi : R[i]? = some (XqT X q)) (hw : q.wf) (job badge node life : Int) :
    Calls Try.prog 56 #[.pointer (some ⟨X, 0, none⟩), .int .i64 job, .int .i64 badge, .agg #[.int .i64 node, .int .i64 life]] w fun e w' => e = .returned (.int .i64 (q.grant job badge node life).1) ∧ St W w' (R.set i (XqT X (q.grant job badge node life).2)) := by
  have hn8 := hw.n
  obtain ⟨a, c, hX⟩ := H.xq i hi
  have c1 := hX.c1
  have hXl := lt_of_block hX.blk
  have HX := hid hX
  have HK := hid (fun (wx : World) (hx : Fr [] w wx) => (H.same hx).set_self hi)
  clear hX
  by_cases hj : job < 1 ∨ (q.rows.length : Int) < job
  · have e : q.grant job badge node life = (111, q) := by unfold QS.grant; rw [if_pos hj]
    rw [e]
    clear e
    rcases hj with hj | hj
    · go_enter Try.func56, Try.ntmps56
      go_wp2_with fail
      go_ret
      exact ⟨rfl, HK.out _ ((Fr.refl _ _).alloc _)⟩
    · by_cases hj2 : job < 1
      all_goals
        go_enter Try.func56, Try.ntmps56
        go_wp2_with fail
        go_ret
        exact ⟨rfl, HK.out _ ((Fr.refl _ _).alloc _)⟩
  obtain ⟨k, rfl⟩ : ∃ k : Nat, job = k + 1 := ⟨(job - 1).toNat, by omega⟩
  have hk : k < q.rows.length := by omega
  have hkk : ((k : Int) + 1 - 1).toNat = k := by omega
  obtain ⟨b, o, rfl⟩ := HX.out.inn.sm (by omega)
  obtain ⟨r0, r1, r2, r3, r4, r5, r6, r7⟩ := qrow_cells HX.out.inn k hk
  have hbl : b < w.heap.size := World.block_lt_of_cell? w ⟨b, o + k * 8, none⟩ r0
  have hmx := HX.out.inn.max
  have HR := hid (rfl : qL.nth q.rows k = qL.nth q.rows k)
  obtain ⟨x, hx⟩ : ∃ x, qL.nth q.rows k = x := ⟨_, rfl⟩
  rw [hx] at r0 r1 r2 r3 r4 r5 r6 r7
  have hm := may_facts (hw.ok k hk)
  rw [hx] at hm
  have hk1 : ¬ ((k : Int) + 1 < 1) := by omega
  have hk2 : ¬ ((q.rows.length : Int) < (k : Int) + 1) := by omega
  by_cases hst : x.st = 1
  case neg =>
    have e : q.grant (k + 1) badge node life = (112, q) := by unfold QS.grant; rw [if_neg hj, hkk, hx, if_pos hst]
    rw [e]
    have hst1 : (x.st == 1) = false := by rw [beq_eq_false_iff_ne]; exact hst
    have hst2 : (x.st != 1) = true := by rw [bne_iff_ne]; exact hst
    clear e hst hx hm hkk
    go_enter Try.func56, Try.ntmps56
    go_wp2_with fail
    go_ret
    exact ⟨rfl, HK.out _ (((Fr.refl _ _).alloc _).alloc _)⟩
  have hst1 : (x.st == 1) = true := by rw [beq_iff_eq]; exact hst
  have hst2 : (x.st != 1) = false := by rw [bne_eq_false_iff_eq]; exact hst
  have HM := hid (And.intro hst (And.intro hm hx))
  have hst9 : ¬ (qL.nth q.rows (((k : Int) + 1 - 1).toNat)).st ≠ 1 := by rw [hkk, hx]; simpa using hst
  have HST := hid hst9
  have HJ := hid hj
  have HKK := hid hkk
  clear hst hx hm hkk hst9 hj HR
  by_cases hbb : 1099511627776 < badge ∨ badge < 1
  · have e : q.grant (k + 1) badge node life = (113, q) := by
      unfold QS.grant; rw [if_neg HJ.out, if_neg HST.out, if_pos (.inl (by unfold inB; simp; omega))]
    rw [e]
    clear e
    rcases hbb with hbb | hbb
    · go_enter Try.func56, Try.ntmps56
      go_wp2_with fail
      go_ret
      exact ⟨rfl, HK.out _ (((Fr.refl _ _).alloc _).alloc _)⟩
    · have hbb2 : ¬ 1099511627776 < badge := by omega
      go_enter Try.func56, Try.ntmps56
      go_wp2_with fail
      go_ret
      exact ⟨rfl, HK.out _ (((Fr.refl _ _).alloc _).alloc _)⟩
  have hb1 : ¬ 1099511627776 < badge := by omega
  have hb2 : ¬ badge < 1 := by omega
  have hin : inB badge 1 1099511627776 = true := by unfold inB; simp; omega
  have HIN := hid hin
  clear hin hbb
  generalize hgr : q.grant (k + 1) badge node life = gr
  have HG := hid hgr
  clear hgr
  go_enter Try.func56, Try.ntmps56
  go_wp2_with fail
  go_loop [10] (fun i => ∃ j : Nat, j ≤ q.rows.length ∧ i = .int .i64 j ∧ ∀ m, m < j → (qL.nth q.rows m).pGrant badge = false) (fun i => q.rows.length - (intOf i).toNat)
  case atStart => exact ⟨0, Nat.zero_le _, rfl, fun j hj => absurd hj (Nat.not_lt_zero _)⟩
  case round =>
    obtain ⟨j, hjl, rfl, hall⟩ := hrel
    have HAll := hid hall
    clear hall
    by_cases hlt : j < q.rows.length
    · obtain ⟨_, _, _, y3, _⟩ := qrow_cells HX.out.inn j hlt
      cases hp : (qL.nth q.rows j).pGrant badge
      · have HP := hid hp
        have hge : ¬ badge ≤ (qL.nth q.rows j).ba := by simpa [QR.pGrant] using hp
        generalize (qL.nth q.rows j).ba = y at y3 hge
        clear hp
        go_wp2_with fail
        go_round
        case rel => exact ⟨j + 1, by omega, by go_num, fun m hm => by by_cases hjm : m = j; (subst hjm; exact HP.out); exact HAll.out m (by omega)⟩
        case measure => simp [intOf]; omega
      · have HP := hid hp
        have hge : badge ≤ (qL.nth q.rows j).ba := by simpa [QR.pGrant] using hp
        have hfi := fIdx_some (p := QR.pGrant badge) hlt HP.out HAll.out
        have e : q.grant (k + 1) badge node life = (113, q) := by
          unfold QS.grant; rw [if_neg HJ.out, if_neg HST.out, if_pos (.inr (by rw [hfi]; omega))]
        have HE := hid (HG.out.symm.trans e)
        generalize (qL.nth q.rows j).ba = y at y3 hge
        clear e hfi hp
        go_wp2_with fail
        go_ret
        rw [HE.out]
        exact ⟨rfl, HK.out _ (((Fr.refl _ _).alloc _).alloc _)⟩
    · obtain rfl : j = q.rows.length := by omega
      have hfi := fIdx_none HAll.out
      have hno : ¬ (inB badge 1 1099511627776 = false ∨ 0 ≤ fIdx (QR.pGrant badge) q.rows) := by rw [HIN.out, hfi]; simp
      have HNO := hid hno
      clear hno hfi
      cases hho : holdB node life
      · have e : q.grant (k + 1) badge node life = (1, q) := by
          unfold QS.grant; rw [if_neg HJ.out, if_neg HST.out, if_neg HNO.out, if_pos hho]
        have HE := hid (HG.out.symm.trans e)
        have HHO := hid hho
        clear e hho
        go_wp2_with fail
        refine (holderMay _ _ _).mono ?_
        rw [HHO.out]
        rintro e w1 ⟨rfl, rfl⟩
        go_wp2_with fail
        go_ret
        rw [HE.out]
        exact ⟨rfl, HK.out _ ((((Fr.refl _ _).alloc _).alloc _).alloc _)⟩
      · have e : q.grant (k + 1) badge node life = (0, { q with rows := q.rows.set k ⟨k + 1, 2, x.at_ + 1, badge, node, life, 0, 0⟩ }) := by
          unfold QS.grant
          rw [if_neg HJ.out, if_neg HST.out, if_neg HNO.out, if_neg (by rw [hho]; simp), HKK.out, HM.out.2.2]
          obtain ⟨m0, m1, _⟩ := HM.out
          have hkb := (kb_iff x).1 m1.2.2.2.2.2.2.1
          have m1 := m1.1
          have h3 := hkb.2.resolve_left (by omega)
          obtain ⟨jb, s, at2, ba, no, li, co, bi⟩ := x
          simp only at h3 m1 ⊢
          rw [h3.1, h3.2, m1]
        have HE := hid (HG.out.symm.trans e)
        have HHO := hid hho
        have hat := HM.out.2.1.2.1
        have hat2 := HM.out.2.1.2.2.1
        have hat3 := hw.a2
        have hat4 : x.at_ + 1 ≤ 9223372036854775807 := by omega
        clear e hho
        go_wp2_with fail
        refine (holderMay _ _ _).mono ?_
        rw [HHO.out]
        rintro e w1 ⟨rfl, rfl⟩
        go_wp2_with fail
        refine (st_xset (((H.alloc_ (.cells #[.int .i64 node, .int .i64 life] 31)).alloc_ (.cells #[.int .i64 x.job, .int .i64 x.st, .int .i64 x.at_, .int .i64 x.ba, .int .i64 x.node, .int .i64 x.life, .int .i64 x.code, .int .u64 x.bits] 37)).alloc_ (.cells #[.int .i64 node, .int .i64 life] 31)) i hi hn8 k hk ⟨k + 1, 2, x.at_ + 1, badge, node, life, 0, 0⟩ rfl).mono ?_
        rintro e w2 ⟨rfl, H2⟩
        go_wp2_with fail
        go_ret
        rw [HE.out]
        exact ⟨rfl, H2⟩

set_option maxHeartbeats 3200000 in
set_option maxRecDepth 100000 in
theorem st_xexpire (H : St W w R) (i : Nat) {X : Nat} {q : QS} (hi : R[i]? = some (XqT X q)) (hw : q.wf) (bg : Int) :
    Calls Try.prog 57 #[.pointer (some ⟨X, 0, none⟩), .int .i64 bg] w fun e w' => e = .returned (.tuple #[.int .i64 (q.expire bg).1, .int .i64 (q.expire bg).2.1]) ∧ St W w' (R.set i (XqT X (q.expire bg).2.2)) := by
  have hn8 := hw.n
  obtain ⟨a, c, hX⟩ := H.xq i hi
  have c0 := hX.c0
  have c1 := hX.c1
  have hXl := lt_of_block hX.blk
  have HX := hid hX
  have HH := hid (x_held w X q a c hX hn8 bg)
  by_cases hneg : fIdx (QR.pHeld bg) q.rows < 0
  · have e : q.expire bg = (0, 113, q) := by unfold QS.expire; rw [if_pos hneg]
    rw [e]
    have hm1 : fIdx (QR.pHeld bg) q.rows = -1 := by have := fIdx_bd (QR.pHeld bg) q.rows; omega
    rw [hm1] at HH
    have HS := hid (H.set_self hi)
    clear e hm1 hneg hX
    go_enter Try.func57, Try.ntmps57
    go_wp2_with fail
    refine HH.out.mono ?_
    rintro e w1 ⟨rfl, rfl⟩
    go_wp2_with fail
    go_ret2
    exact ⟨rfl, HS.out⟩
  obtain ⟨k, hk⟩ : ∃ k : Nat, fIdx (QR.pHeld bg) q.rows = k := ⟨(fIdx (QR.pHeld bg) q.rows).toNat, by omega⟩
  obtain ⟨f1, f2, f3⟩ := held_facts hw hneg
  have e : q.expire bg = ((qL.nth q.rows k).job, 0, { q with rows := q.rows.set k { qL.nth q.rows k with st := if q.att ≤ (qL.nth q.rows k).at_ then 4 else 1, node := 0, life := 0 } }) := by
    unfold QS.expire; rw [if_neg hneg, hk, Int.toNat_natCast]
  rw [e]
  rw [hk] at HH f1 f2 f3
  rw [Int.toNat_natCast] at f1 f2 f3
  have hm := may_facts (hw.ok k f1)
  obtain ⟨b, o, rfl⟩ := hX.inn.sm (by omega)
  obtain ⟨r0, r1, r2, r3, r4, r5, r6, r7⟩ := qrow_cells hX.inn k f1
  have hbl : b < w.heap.size := World.block_lt_of_cell? w ⟨b, o + k * 8, none⟩ r0
  have hmx := hX.inn.max
  generalize qL.nth q.rows k = x at r0 r1 r2 r3 r4 r5 r6 r7 hm
  obtain ⟨job, st, at_, ba, no, li, co, bi⟩ := x
  simp only at r0 r1 r2 r3 r4 r5 r6 r7 hm ⊢
  obtain ⟨rfl, m2, m3, _⟩ := hm
  have g1 : ¬ ((k : Int) + 1 = 0) := by omega
  have g2 : ((k : Int) + 1 == 0) = false := by rw [beq_eq_false_iff_ne]; exact g1
  clear e hneg hk f2 f3 hX
  by_cases hatt : q.att ≤ at_
  · obtain rfl : at_ = q.att := by omega
    rw [if_pos (Int.le_refl _)]
    have g3 : (q.att == q.att) = true := by simp
    go_enter Try.func57, Try.ntmps57
    go_wp2_with fail
    refine HH.out.mono ?_
    rintro e w1 ⟨rfl, rfl⟩
    go_wp2_with fail
    go_quiet (fail)
    go_wp2_with fail
    refine (st_xset (H.same ((((Fr.refl [] w).alloc (.cells #[.int .i64 ((k : Int) + 1), .int .i64 1, .int .i64 q.att, .int .i64 ba, .int .i64 0, .int .i64 0, .int .i64 co, .int .u64 bi] 37)).drewN _).setCell (p := ⟨w.heap.size, 1, none⟩) (.inr (Nat.le_refl _)) (.int .i64 4))) i hi hn8 k f1 ⟨(k : Int) + 1, 4, q.att, ba, 0, 0, co, bi⟩ rfl).mono ?_
    rintro e w2 ⟨rfl, H2⟩
    go_wp2_with fail
    go_ret2
    exact ⟨rfl, H2⟩
  · rw [if_neg hatt]
    have g3 : (at_ == q.att) = false := by rw [beq_eq_false_iff_ne]; omega
    go_enter Try.func57, Try.ntmps57
    go_wp2_with fail
    refine HH.out.mono ?_
    rintro e w1 ⟨rfl, rfl⟩
    go_wp2_with fail
    go_quiet (fail)
    go_wp2_with fail
    refine (st_xset (((H.alloc_ (.cells #[.int .i64 ((k : Int) + 1), .int .i64 1, .int .i64 at_, .int .i64 ba, .int .i64 0, .int .i64 0, .int .i64 co, .int .u64 bi] 37)).drewN _)) i hi hn8 k f1 ⟨(k : Int) + 1, 1, at_, ba, 0, 0, co, bi⟩ rfl).mono ?_
    rintro e w2 ⟨rfl, H2⟩
    go_wp2_with fail
    go_ret2
    exact ⟨rfl, H2⟩

set_option maxHeartbeats 3200000 in
set_option maxRecDepth 100000 in
theorem st_xsettle (H : St W w R) (i : Nat) {X : Nat} {q : QS} (hi : R[i]? = some (XqT X q)) (hw : q.wf) (bg code bits : Int) :
    Calls Try.prog 58 #[.pointer (some ⟨X, 0, none⟩), .int .i64 bg, .agg #[.int .i64 code, .int .u64 bits]] w fun e w' => e = .returned (.tuple #[.int .i64 (q.settle bg code bits).1, .int .i64 (q.settle bg code bits).2.1]) ∧ St W w' (R.set i (XqT X (q.settle bg code bits).2.2)) := by
  have hn8 := hw.n
  have H := H.alloc_ (.cells #[.int .i64 code, .int .u64 bits] 35)
  obtain ⟨a, c, hX⟩ := H.xq i hi
  have c1 := hX.c1
  have hXl := lt_of_block hX.blk
  have HX := hid hX
  have HH := hid (x_held _ X q a c hX hn8 bg)
  by_cases hneg : fIdx (QR.pHeld bg) q.rows < 0
  · have e : q.settle bg code bits = (0, 113, q) := by unfold QS.settle; rw [if_pos hneg]
    rw [e]
    have hm1 : fIdx (QR.pHeld bg) q.rows = -1 := by have := fIdx_bd (QR.pHeld bg) q.rows; omega
    rw [hm1] at HH
    have HS := hid (H.set_self hi)
    clear e hm1 hneg hX c1 hXl H
    go_enter Try.func58, Try.ntmps58
    go_wp2_with fail
    refine HH.out.mono ?_
    rintro e w1 ⟨rfl, rfl⟩
    go_wp2_with fail
    go_ret2
    exact ⟨rfl, HS.out⟩
  obtain ⟨k, hk⟩ : ∃ k : Nat, fIdx (QR.pHeld bg) q.rows = k := ⟨(fIdx (QR.pHeld bg) q.rows).toNat, by omega⟩
  obtain ⟨f1, f2, f3⟩ := held_facts hw hneg
  rw [hk] at HH f1 f2 f3
  rw [Int.toNat_natCast] at f1 f2 f3
  have g1 : ¬ ((k : Int) + 1 = 0) := by omega
  have g2 : ((k : Int) + 1 == 0) = false := by rw [beq_eq_false_iff_ne]; exact g1
  have HC := hid (resultMay ((w.alloc (.cells #[.int .i64 code, .int .u64 bits] 35))) code bits)
  cases hrs : resB code bits
  · have e : q.settle bg code bits = (0, 1, q) := by unfold QS.settle; rw [if_neg hneg, if_pos hrs]
    rw [e]
    rw [hrs] at HC
    have HS := hid ((H.alloc_ (.cells #[.int .i64 code, .int .u64 bits] 35)).set_self hi)
    clear e hrs hneg hk hX c1 hXl H f2 f3
    go_enter Try.func58, Try.ntmps58
    go_wp2_with fail
    refine HH.out.mono ?_
    rintro e w1 ⟨rfl, rfl⟩
    go_wp2_with fail
    refine HC.out.mono ?_
    rintro e w1 ⟨rfl, rfl⟩
    go_wp2_with fail
    go_ret2
    exact ⟨rfl, HS.out⟩
  have e : q.settle bg code bits = ((qL.nth q.rows k).job, 0, { q with rows := q.rows.set k { qL.nth q.rows k with st := 3, node := 0, life := 0, code := code, bits := bits } }) := by
    unfold QS.settle; rw [if_neg hneg, if_neg (by rw [hrs]; simp), hk, Int.toNat_natCast]
  rw [e]
  rw [hrs] at HC
  have hm := may_facts (hw.ok k f1)
  have HCC := hid (And.intro (blk_alloc_at w (.cells #[.int .i64 code, .int .u64 bits] 35) _ rfl) (H.alloc_ (.cells #[.int .i64 code, .int .u64 bits] 35)))
  have hX2 := hX.fr0 ((Fr.refl [] _).alloc (.cells #[.int .i64 code, .int .u64 bits] 35))
  have c1 := hX2.c1
  have hXl := lt_of_block hX2.blk
  obtain ⟨b, o, rfl⟩ := hX2.inn.sm (by omega)
  obtain ⟨r0, r1, r2, r3, r4, r5, r6, r7⟩ := qrow_cells hX2.inn k f1
  have hbl := World.block_lt_of_cell? _ _ r0
  simp only at hbl
  have hmx := hX2.inn.max
  have hcb := blk_alloc_lt (.cells #[.int .i64 code, .int .u64 bits] 35) (blk_alloc_at w (.cells #[.int .i64 code, .int .u64 bits] 35) _ rfl)
  have q0 := cell_blk (i := 0) hcb rfl
  have q1 := cell_blk (i := 1) hcb rfl
  have hcl := lt_of_block hcb
  have HW2 := hid (H.alloc_ (.cells #[.int .i64 code, .int .u64 bits] 35))
  generalize qL.nth q.rows k = x at r0 r1 r2 r3 r4 r5 r6 r7 hm
  obtain ⟨job, st, at_, ba, no, li, co, bi⟩ := x
  simp only at r0 r1 r2 r3 r4 r5 r6 r7 hm ⊢
  obtain ⟨rfl, m2, m3, _⟩ := hm
  clear e hrs hneg hk f2 f3 hX hX2 H hcb HCC
  go_enter Try.func58, Try.ntmps58
  go_wp2_with fail
  refine HH.out.mono ?_
  rintro e w1 ⟨rfl, rfl⟩
  go_wp2_with fail
  refine HC.out.mono ?_
  rintro e w1 ⟨rfl, rfl⟩
  go_wp2_with fail
  refine (st_xset (HW2.out.alloc_ (.cells #[.int .i64 ((k : Int) + 1), .int .i64 3, .int .i64 at_, .int .i64 ba, .int .i64 0, .int .i64 0, .int .i64 code, .int .u64 bits] 37)) i hi hn8 k f1 ⟨(k : Int) + 1, 3, at_, ba, 0, 0, code, bits⟩ rfl).mono ?_
  rintro e w2 ⟨rfl, H2⟩
  go_wp2_with fail
  go_ret2
  exact ⟨rfl, H2⟩

end
end Go.Proofs.Ythdcpenhfccagaa
