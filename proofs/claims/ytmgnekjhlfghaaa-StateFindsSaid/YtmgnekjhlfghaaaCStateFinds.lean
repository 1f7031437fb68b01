/-
  StateFinds: the walk.
-/
import Derived.Test.YtmgnekjhlfghaaaM24
import Derived.Test.YtmgnekjhlfghaaaM14
namespace Go.Proofs.Ytmgnekjhlfghaaa
open Go.RowKit
set_option linter.unusedVariables false
set_option linter.unusedSimpArgs false

theorem at0_log {v : SV} (hv : v.wf) {k : Nat} (hk : k < v.q.rows.length) : (v.place k).r.job = (k : Int) + 1 ∧ (v.place k).r.ba ≤ v.res ∧ 0 ≤ (v.place k).r.ba ∧ (v.place k).log.length ≤ 32 ∧ ((v.place k).r.at_ = 0 → (v.place k).log.length = 0) := by
  have hm := may_facts (hv.q.ok k hk)
  have hkl : k < v.logs.length := by rw [hv.nl]; exact hk
  refine ⟨hm.1, hv.bd _ (qL.mem_nth hk), hm.2.2.2.1, ?_, fun h => ?_⟩
  · exact (hv.lg (v.logs.getD k []) (by rw [List.getD, List.getElem?_eq_getElem hkl]; exact List.getElem_mem hkl)).1
  · show (v.logs.getD k []).length = 0
    rw [hv.at0 k hk h]; rfl
set_option maxHeartbeats 4000000 in
set_option maxRecDepth 100000 in
theorem stateFinds_walk (w : World) (n : Int) (h1 : -9223372036854775808 ≤ n) (h2 : n ≤ 9223372036854775807) (a : Option Addr) (nl cap : Nat) (l : List (CV × TS)) (hC0 : ChArg w a nl cap l) :
    Calls Try.prog 7 #[.int .i64 n, .slice a nl cap] w fun e w' => e = .returned (.bool true) ∧ Fr [] w w' := by
  have hC := hC0.ch
  have hle := hC0.le
  have hmx := hC.row.max
  clear hC0 h1 h2
  by_cases hn : n < 1 ∨ 8 < n
  · have HN := hid (fun w => state_new_bad w n hn)
    have h1 : decide (n < 1) = true ∨ decide (n < 1) = false ∧ decide (8 < n) = true := by
      rcases hn with h | h
      · exact .inl (decide_eq_true h)
      · by_cases h2 : n < 1
        · exact .inl (decide_eq_true h2)
        · exact .inr ⟨decide_eq_false h2, decide_eq_true h⟩
    clear hn hC hle hmx
    rcases h1 with h1 | ⟨h1, h2⟩
    · go_enter Try.func7, Try.ntmps7
      go_wp2_with (first | (go_at_call 9; refine (HN.out _).mono ?_; rintro e w1 ⟨rfl, rfl⟩) | (go_at_call 10; refine (fixed17 _).mono ?_; rintro e w2 ⟨rfl, hF2⟩))
      go_ret
      exact ⟨rfl, hF2⟩
    · go_enter Try.func7, Try.ntmps7
      go_wp2_with (first | (go_at_call 9; refine (HN.out _).mono ?_; rintro e w1 ⟨rfl, rfl⟩) | (go_at_call 10; refine (fixed17 _).mono ?_; rintro e w2 ⟨rfl, hF2⟩))
      go_ret
      exact ⟨rfl, hF2⟩
  have hlen := hid hC.len
  have HC := hid hC
  have HLE := hid hle
  have H := St.refl w
  clear hC hle
  go_enter Try.func7, Try.ntmps7
  go_wp2_with fail
  refine (st_snew H n (by omega) (by omega)).mono ?_
  clear H
  rintro e w101 ⟨S, rfl, H⟩
  try simp only [List.nil_append, List.cons_append, List.set_cons_zero, List.set_cons_succ] at H
  go_wp2_with fail
  have HI := hid (And.intro H (new_wf (n := n) (by omega) (by omega)))
  clear H hn
  go_loopw [7] (fun iv wr => ∃ (k : Nat) (v : SV), k ≤ nl ∧ iv = .int .i64 k ∧ v.wf ∧ St (.of w) wr [SkT S v]) (fun iv _ => nl - (intOf iv).toNat)
  case atStart => exact ⟨0, _, Nat.zero_le _, rfl, HI.out.2, HI.out.1⟩
  case round =>
    clear HI
    obtain ⟨k, v, hk, rfl, hv, H⟩ := hrel
    have HV := hid hv
    by_cases hlt : k < nl
    · obtain ⟨bb, ob, rfl⟩ := HC.out.row.sm (by omega)
      obtain ⟨x, hx⟩ : ∃ x, l[k]? = some x := ⟨_, List.getElem?_eq_getElem (by rw [hlen.out]; exact hlt)⟩
      have hpart := fun (wx : World) (hF : Fr [] w wx) => (HC.out.fr0 hF).part k 1 (by omega)
      rw [part_one hx] at hpart
      have hbits := (HC.out.one x (List.mem_of_getElem? hx)).2
      have hv1 : (v.put [x.1]).wf := put_wf hv (fun c hc => by rw [List.mem_singleton.1 hc]; exact hbits)
      have HP := hid hpart
      have hkc : k < cap := by have := HLE.out; omega
      have hkw : IntKind.i64.wrap ((k : Int) + 1) = (k : Int) + 1 := IntWalk.i64_in _ (by omega)
      obtain ⟨v1, hv1e⟩ : ∃ v1, v.put [x.1] = v1 := ⟨_, rfl⟩
      rw [hv1e] at hv1
      have HE := hid hv1e
      have HV1 := hid hv1
      have HLT := hid hlt
      have hk1 : (k : Int) < nl := by omega
      have hk0 : (0 : Int) ≤ k := by omega
      clear hv hx hpart hbits hv1 hv1e hlt hk
      go_wp2_with fail
      refine (st_applyV H 0 rfl HV.out (some ⟨bb, ob + k * 10, none⟩) 1 (cap - k) [x] (fun wx T h => HP.out wx h.fr) v1 HE.out).mono ?_
      clear H
      rintro e w102 ⟨r1, r2, rfl, H⟩
      try simp only [List.nil_append, List.cons_append, List.set_cons_zero, List.set_cons_succ] at H
      go_wp2_with fail
      refine (st_sview H 0 rfl HV1.out).mono ?_
      clear H
      rintro e w103 ⟨va, vl, rfl, hn1, hn2, H⟩
      try simp only [List.nil_append, List.cons_append, List.set_cons_zero, List.set_cons_succ] at H
      have HN := hid (show VOk v1 vl from ⟨HV1.out, hn1, hn2⟩)
      replace H := hid (H.alloc (vO v1.res va vl.length))
      clear hn1 hn2
      go_wp2_with fail
      generalize w103.heap.size = vb at H ⊢
      obtain ⟨wo, rfl⟩ : ∃ wo : World, wo = wr := ⟨_, rfl⟩
      go_loopw [9, 10] (fun hv jv wi => ∃ j : Nat, j ≤ vl.length ∧ hv = .int .i64 (hdk v1.q.rows j) ∧ jv = .int .i64 j ∧ St (.of w) wi [SkT S v1, VwT va vl, BlkT vb (vO v1.res va vl.length)]) (fun _ jv _ => vl.length - (intOf jv).toNat)
      case atStart => exact ⟨0, Nat.zero_le _, rfl, rfl, H.out⟩
      case round =>
        clear H
        obtain ⟨j, hj, rfl, rfl, H⟩ := hrel
        have k1 : wr.cell? ⟨vb, 1, none⟩ = some (.slice va vl.length vl.length) := cell_blk (i := 1) (H.blk 2 rfl) rfl
        have k0 : wr.cell? ⟨vb, 0, none⟩ = some (.int .i64 v1.res) := cell_blk (i := 0) (H.blk 2 rfl) rfl
        have hlvb := lt_of_block (H.blk 2 rfl)
        have hn8 := HN.out.small.1
        by_cases hjl : j < vl.length
        · have hA := H.vok 1 rfl HN.out
          obtain ⟨ba, oa, ea⟩ := hA.row.sm (by omega)
          obtain ⟨y, hy⟩ : ∃ y, pL.nth vl j = y := ⟨_, rfl⟩
          have hyp : y.1 = v1.place j := by rw [← hy]; exact HN.out.nth hjl
          have hjr : j < v1.q.rows.length := by rw [← HN.out.len]; exact hjl
          have hfx := at0_log HV1.out hjr
          have hsf := sfind_ba HV1.out hjr
          rw [← hyp] at hfx
          rw [show (qL.nth v1.q.rows j).ba = y.1.r.ba by rw [hyp]; rfl, ← hyp] at hsf
          rw [ea] at hA k1
          obtain ⟨y0, y1, y2, y3, y4, y5, y6, y7, y8, y9⟩ := pl_cells hA.row j hjl y hy
          have hlba := World.block_lt_of_cell? _ _ y0
          simp only at hlba
          have HY := hid (show y ∈ vl by rw [← hy]; exact pL.mem_nth hjl)
          have HH := hid H
          have HJ := hid (And.intro hjl hyp)
          have HFX := hid hfx
          have hj0 : (0 : Int) ≤ j := by omega
          have hj1 : (j : Int) < vl.length := by omega
          have hst : (qL.nth v1.q.rows j).st = y.1.r.st := by rw [hyp]; rfl
          have HST := hid hst
          clear H hA hy hyp ea hj hjl hjr hfx hst
          go_wp2_with fail
          have hF := hid (st_sfind (HH.out.alloc (pO y)) 0 rfl HV1.out y.1.r.ba)
          clear y0 y1 y2 y3 y4 y5 y6 y7 y8 y9 hlba
          obtain ⟨pz, hz⟩ : ∃ pz, v1.sfind y.1.r.ba = pz := ⟨_, rfl⟩
          have hpz : (0 < y.1.r.ba ∧ pz = (y.1, true)) ∨ (¬ 0 < y.1.r.ba ∧ pz = (.zero, false)) := by
            rw [← hz, hsf]
            by_cases h0 : 0 < y.1.r.ba
            · exact .inl ⟨h0, by rw [if_pos h0]⟩
            · exact .inr ⟨h0, by rw [if_neg h0]⟩
          rw [hz] at hF
          obtain ⟨f, z⟩ := pz
          dsimp only at hF
          have HPZ := hid hpz
          clear hpz hz hsf
          refine hF.out.mono ?_
          rintro e w5 ⟨fa, rfl, H⟩
          have hbp := H.blk 3 rfl
          have y0 := cell_blk (i := 0) hbp rfl
          have y1 := cell_blk (i := 1) hbp rfl
          have y2 := cell_blk (i := 2) hbp rfl
          have y3 := cell_blk (i := 3) hbp rfl
          have y4 := cell_blk (i := 4) hbp rfl
          have y5 := cell_blk (i := 5) hbp rfl
          have y6 := cell_blk (i := 6) hbp rfl
          have y7 := cell_blk (i := 7) hbp rfl
          have y8 := cell_blk (i := 8) hbp rfl
          have y9 := cell_blk (i := 9) hbp rfl
          have hlp := lt_of_block hbp
          have z0 : w5.cell? ⟨vb, 0, none⟩ = some (.int .i64 v1.res) := cell_blk (i := 0) (H.blk 2 rfl) rfl
          have hlv := lt_of_block (H.blk 2 rfl)
          have hs := hid (fun wx (hF : Fr [] w5 wx) => samePlace wx (f, ⟨fa, f.log.length⟩) y (by
            have h1 := (H.wv 4 rfl).toIn (Nat.le_refl _) (show f.log.length ≤ maxLen from Nat.le_trans (show f.log.length ≤ 32 by
              rcases HPZ.out with ⟨_, h⟩ | ⟨_, h⟩
              · cases h; exact HFX.out.2.2.2.1
              · cases h; exact Nat.zero_le _) (by decide))
            exact In.fr0 h1 hF) (((H.same hF).vok 1 rfl HN.out).one y HY.out))
          unfold pF at hs ⊢
          dsimp only at hs ⊢
          have HH5 := hid H
          have HBP := hid hbp
          have HBV := hid (H.blk 2 rfl)
          clear H hbp hF
          have e1 : (y.1.r.job == (j : Int) + 1) = true := by rw [beq_iff_eq]; exact HFX.out.1
          have e2 : (y.1.r.job != (j : Int) + 1) = false := by simp [bne, e1]
          have hw1 : IntKind.i64.wrap ((j : Int) + 1) = (j : Int) + 1 := IntWalk.i64_in _ (by omega)
          have e3 : ¬ v1.res < y.1.r.ba := by have := HFX.out.2.1; omega
          have e4 : ¬ 32 < y.1.log.length := by have := HFX.out.2.2.2.1; omega
          have HDK := hid (show hdk v1.q.rows (j + 1) = if y.1.r.st = 1 ∧ hdk v1.q.rows j = 0 then j + 1 else hdk v1.q.rows j by rw [← HST.out]; rfl)
          rcases HPZ.out with ⟨h0, hpz⟩ | ⟨h0, hpz⟩
          · obtain ⟨rfl, rfl⟩ := Prod.mk.inj hpz
            clear hpz
            by_cases ha : y.1.r.at_ = 0
            · have g1 : (y.1.r.at_ == 0) = true := by rw [beq_iff_eq]; exact ha
              have g2 : ¬ 0 < y.1.log.length := by have := HFX.out.2.2.2.2 ha; omega
              clear ha
              by_cases hs1 : y.1.r.st = 1
              · have d1 : (y.1.r.st == 1) = true := by rw [beq_iff_eq]; exact hs1
                by_cases hs2 : hdk v1.q.rows j = 0
                · have d2 : ((hdk v1.q.rows j : Int) == 0) = true := by rw [beq_iff_eq]; omega
                  have d3 : (hdk v1.q.rows j == 0) = true := by rw [beq_iff_eq]; exact hs2
                  have HE1 := hid (HDK.out.trans (if_pos ⟨hs1, hs2⟩))
                  clear hs1 hs2
                  go_wp2_with (go_at_call 19; refine (hs.out _ ((Fr.refl _ _).alloc _)).mono ?_; rintro e w6 ⟨⟨z2, rfl, hz⟩, hF6⟩; obtain rfl : z2 = true := hz.2 (by trivial); clear hz; have bp6 := hF6.keep (blk_alloc_lt _ HBP.out) (by simp); have bv6 := hF6.keep (blk_alloc_lt _ HBV.out) (by simp); have q0 : w6.cell? ⟨wr.heap.size, 0, none⟩ = some (.int .i64 y.1.r.job) := cell_blk bp6 rfl; have q1 : w6.cell? ⟨wr.heap.size, 1, none⟩ = some (.int .i64 y.1.r.st) := cell_blk bp6 rfl; have q2 : w6.cell? ⟨wr.heap.size, 2, none⟩ = some (.int .i64 y.1.r.at_) := cell_blk bp6 rfl; have q3 : w6.cell? ⟨wr.heap.size, 3, none⟩ = some (.int .i64 y.1.r.ba) := cell_blk bp6 rfl; have q9 : w6.cell? ⟨wr.heap.size, 9, none⟩ = some (.slice y.2.a y.1.log.length y.2.c) := cell_blk bp6 rfl; have qv : w6.cell? ⟨vb, 0, none⟩ = some (.int .i64 v1.res) := cell_blk bv6 rfl; clear bp6 bv6; have HF6 := hid hF6; clear hF6)
                  exact ⟨⟨j + 1, HJ.out.1, by rw [HE1.out] <;> first | rfl | (push_cast; rfl), by first | rfl | (push_cast; rfl), by first | exact ((HH5.out.alloc_ _).same HF6.out).drop (R := [SkT S v1, VwT va vl, BlkT vb (vO v1.res va vl.length)]) (T := [_, _]) | exact (HH5.out.alloc_ _).drop (R := [SkT S v1, VwT va vl, BlkT vb (vO v1.res va vl.length)]) (T := [_, _])⟩, by have := HJ.out.1; simp only [intOf]; omega⟩
                · have d2 : ((hdk v1.q.rows j : Int) == 0) = false := by rw [beq_eq_false_iff_ne]; omega
                  have d3 : (hdk v1.q.rows j == 0) = false := by rw [beq_eq_false_iff_ne]; exact hs2
                  have HE1 := hid (HDK.out.trans (if_neg (fun h => hs2 h.2)))
                  clear hs1 hs2
                  go_wp2_with (go_at_call 19; refine (hs.out _ ((Fr.refl _ _).alloc _)).mono ?_; rintro e w6 ⟨⟨z2, rfl, hz⟩, hF6⟩; obtain rfl : z2 = true := hz.2 (by trivial); clear hz; have bp6 := hF6.keep (blk_alloc_lt _ HBP.out) (by simp); have bv6 := hF6.keep (blk_alloc_lt _ HBV.out) (by simp); have q0 : w6.cell? ⟨wr.heap.size, 0, none⟩ = some (.int .i64 y.1.r.job) := cell_blk bp6 rfl; have q1 : w6.cell? ⟨wr.heap.size, 1, none⟩ = some (.int .i64 y.1.r.st) := cell_blk bp6 rfl; have q2 : w6.cell? ⟨wr.heap.size, 2, none⟩ = some (.int .i64 y.1.r.at_) := cell_blk bp6 rfl; have q3 : w6.cell? ⟨wr.heap.size, 3, none⟩ = some (.int .i64 y.1.r.ba) := cell_blk bp6 rfl; have q9 : w6.cell? ⟨wr.heap.size, 9, none⟩ = some (.slice y.2.a y.1.log.length y.2.c) := cell_blk bp6 rfl; have qv : w6.cell? ⟨vb, 0, none⟩ = some (.int .i64 v1.res) := cell_blk bv6 rfl; clear bp6 bv6; have HF6 := hid hF6; clear hF6)
                  exact ⟨⟨j + 1, HJ.out.1, by rw [HE1.out] <;> first | rfl | (push_cast; rfl), by first | rfl | (push_cast; rfl), by first | exact ((HH5.out.alloc_ _).same HF6.out).drop (R := [SkT S v1, VwT va vl, BlkT vb (vO v1.res va vl.length)]) (T := [_, _]) | exact (HH5.out.alloc_ _).drop (R := [SkT S v1, VwT va vl, BlkT vb (vO v1.res va vl.length)]) (T := [_, _])⟩, by have := HJ.out.1; simp only [intOf]; omega⟩
              · have d1 : (y.1.r.st == 1) = false := by rw [beq_eq_false_iff_ne]; exact hs1
                have HE1 := hid (HDK.out.trans (if_neg (fun h => hs1 h.1)))
                clear hs1
                go_wp2_with (go_at_call 19; refine (hs.out _ ((Fr.refl _ _).alloc _)).mono ?_; rintro e w6 ⟨⟨z2, rfl, hz⟩, hF6⟩; obtain rfl : z2 = true := hz.2 (by trivial); clear hz; have bp6 := hF6.keep (blk_alloc_lt _ HBP.out) (by simp); have bv6 := hF6.keep (blk_alloc_lt _ HBV.out) (by simp); have q0 : w6.cell? ⟨wr.heap.size, 0, none⟩ = some (.int .i64 y.1.r.job) := cell_blk bp6 rfl; have q1 : w6.cell? ⟨wr.heap.size, 1, none⟩ = some (.int .i64 y.1.r.st) := cell_blk bp6 rfl; have q2 : w6.cell? ⟨wr.heap.size, 2, none⟩ = some (.int .i64 y.1.r.at_) := cell_blk bp6 rfl; have q3 : w6.cell? ⟨wr.heap.size, 3, none⟩ = some (.int .i64 y.1.r.ba) := cell_blk bp6 rfl; have q9 : w6.cell? ⟨wr.heap.size, 9, none⟩ = some (.slice y.2.a y.1.log.length y.2.c) := cell_blk bp6 rfl; have qv : w6.cell? ⟨vb, 0, none⟩ = some (.int .i64 v1.res) := cell_blk bv6 rfl; clear bp6 bv6; have HF6 := hid hF6; clear hF6)
                exact ⟨⟨j + 1, HJ.out.1, by rw [HE1.out] <;> first | rfl | (push_cast; rfl), by first | rfl | (push_cast; rfl), by first | exact ((HH5.out.alloc_ _).same HF6.out).drop (R := [SkT S v1, VwT va vl, BlkT vb (vO v1.res va vl.length)]) (T := [_, _]) | exact (HH5.out.alloc_ _).drop (R := [SkT S v1, VwT va vl, BlkT vb (vO v1.res va vl.length)]) (T := [_, _])⟩, by have := HJ.out.1; simp only [intOf]; omega⟩
            · have g1 : (y.1.r.at_ == 0) = false := by rw [beq_eq_false_iff_ne]; exact ha
              clear ha
              by_cases hs1 : y.1.r.st = 1
              · have d1 : (y.1.r.st == 1) = true := by rw [beq_iff_eq]; exact hs1
                by_cases hs2 : hdk v1.q.rows j = 0
                · have d2 : ((hdk v1.q.rows j : Int) == 0) = true := by rw [beq_iff_eq]; omega
                  have d3 : (hdk v1.q.rows j == 0) = true := by rw [beq_iff_eq]; exact hs2
                  have HE1 := hid (HDK.out.trans (if_pos ⟨hs1, hs2⟩))
                  clear hs1 hs2
                  go_wp2_with (go_at_call 19; refine (hs.out _ ((Fr.refl _ _).alloc _)).mono ?_; rintro e w6 ⟨⟨z2, rfl, hz⟩, hF6⟩; obtain rfl : z2 = true := hz.2 (by trivial); clear hz; have bp6 := hF6.keep (blk_alloc_lt _ HBP.out) (by simp); have bv6 := hF6.keep (blk_alloc_lt _ HBV.out) (by simp); have q0 : w6.cell? ⟨wr.heap.size, 0, none⟩ = some (.int .i64 y.1.r.job) := cell_blk bp6 rfl; have q1 : w6.cell? ⟨wr.heap.size, 1, none⟩ = some (.int .i64 y.1.r.st) := cell_blk bp6 rfl; have q2 : w6.cell? ⟨wr.heap.size, 2, none⟩ = some (.int .i64 y.1.r.at_) := cell_blk bp6 rfl; have q3 : w6.cell? ⟨wr.heap.size, 3, none⟩ = some (.int .i64 y.1.r.ba) := cell_blk bp6 rfl; have q9 : w6.cell? ⟨wr.heap.size, 9, none⟩ = some (.slice y.2.a y.1.log.length y.2.c) := cell_blk bp6 rfl; have qv : w6.cell? ⟨vb, 0, none⟩ = some (.int .i64 v1.res) := cell_blk bv6 rfl; clear bp6 bv6; have HF6 := hid hF6; clear hF6)
                  exact ⟨⟨j + 1, HJ.out.1, by rw [HE1.out] <;> first | rfl | (push_cast; rfl), by first | rfl | (push_cast; rfl), by first | exact ((HH5.out.alloc_ _).same HF6.out).drop (R := [SkT S v1, VwT va vl, BlkT vb (vO v1.res va vl.length)]) (T := [_, _]) | exact (HH5.out.alloc_ _).drop (R := [SkT S v1, VwT va vl, BlkT vb (vO v1.res va vl.length)]) (T := [_, _])⟩, by have := HJ.out.1; simp only [intOf]; omega⟩
                · have d2 : ((hdk v1.q.rows j : Int) == 0) = false := by rw [beq_eq_false_iff_ne]; omega
                  have d3 : (hdk v1.q.rows j == 0) = false := by rw [beq_eq_false_iff_ne]; exact hs2
                  have HE1 := hid (HDK.out.trans (if_neg (fun h => hs2 h.2)))
                  clear hs1 hs2
                  go_wp2_with (go_at_call 19; refine (hs.out _ ((Fr.refl _ _).alloc _)).mono ?_; rintro e w6 ⟨⟨z2, rfl, hz⟩, hF6⟩; obtain rfl : z2 = true := hz.2 (by trivial); clear hz; have bp6 := hF6.keep (blk_alloc_lt _ HBP.out) (by simp); have bv6 := hF6.keep (blk_alloc_lt _ HBV.out) (by simp); have q0 : w6.cell? ⟨wr.heap.size, 0, none⟩ = some (.int .i64 y.1.r.job) := cell_blk bp6 rfl; have q1 : w6.cell? ⟨wr.heap.size, 1, none⟩ = some (.int .i64 y.1.r.st) := cell_blk bp6 rfl; have q2 : w6.cell? ⟨wr.heap.size, 2, none⟩ = some (.int .i64 y.1.r.at_) := cell_blk bp6 rfl; have q3 : w6.cell? ⟨wr.heap.size, 3, none⟩ = some (.int .i64 y.1.r.ba) := cell_blk bp6 rfl; have q9 : w6.cell? ⟨wr.heap.size, 9, none⟩ = some (.slice y.2.a y.1.log.length y.2.c) := cell_blk bp6 rfl; have qv : w6.cell? ⟨vb, 0, none⟩ = some (.int .i64 v1.res) := cell_blk bv6 rfl; clear bp6 bv6; have HF6 := hid hF6; clear hF6)
                  exact ⟨⟨j + 1, HJ.out.1, by rw [HE1.out] <;> first | rfl | (push_cast; rfl), by first | rfl | (push_cast; rfl), by first | exact ((HH5.out.alloc_ _).same HF6.out).drop (R := [SkT S v1, VwT va vl, BlkT vb (vO v1.res va vl.length)]) (T := [_, _]) | exact (HH5.out.alloc_ _).drop (R := [SkT S v1, VwT va vl, BlkT vb (vO v1.res va vl.length)]) (T := [_, _])⟩, by have := HJ.out.1; simp only [intOf]; omega⟩
              · have d1 : (y.1.r.st == 1) = false := by rw [beq_eq_false_iff_ne]; exact hs1
                have HE1 := hid (HDK.out.trans (if_neg (fun h => hs1 h.1)))
                clear hs1
                go_wp2_with (go_at_call 19; refine (hs.out _ ((Fr.refl _ _).alloc _)).mono ?_; rintro e w6 ⟨⟨z2, rfl, hz⟩, hF6⟩; obtain rfl : z2 = true := hz.2 (by trivial); clear hz; have bp6 := hF6.keep (blk_alloc_lt _ HBP.out) (by simp); have bv6 := hF6.keep (blk_alloc_lt _ HBV.out) (by simp); have q0 : w6.cell? ⟨wr.heap.size, 0, none⟩ = some (.int .i64 y.1.r.job) := cell_blk bp6 rfl; have q1 : w6.cell? ⟨wr.heap.size, 1, none⟩ = some (.int .i64 y.1.r.st) := cell_blk bp6 rfl; have q2 : w6.cell? ⟨wr.heap.size, 2, none⟩ = some (.int .i64 y.1.r.at_) := cell_blk bp6 rfl; have q3 : w6.cell? ⟨wr.heap.size, 3, none⟩ = some (.int .i64 y.1.r.ba) := cell_blk bp6 rfl; have q9 : w6.cell? ⟨wr.heap.size, 9, none⟩ = some (.slice y.2.a y.1.log.length y.2.c) := cell_blk bp6 rfl; have qv : w6.cell? ⟨vb, 0, none⟩ = some (.int .i64 v1.res) := cell_blk bv6 rfl; clear bp6 bv6; have HF6 := hid hF6; clear hF6)
                exact ⟨⟨j + 1, HJ.out.1, by rw [HE1.out] <;> first | rfl | (push_cast; rfl), by first | rfl | (push_cast; rfl), by first | exact ((HH5.out.alloc_ _).same HF6.out).drop (R := [SkT S v1, VwT va vl, BlkT vb (vO v1.res va vl.length)]) (T := [_, _]) | exact (HH5.out.alloc_ _).drop (R := [SkT S v1, VwT va vl, BlkT vb (vO v1.res va vl.length)]) (T := [_, _])⟩, by have := HJ.out.1; simp only [intOf]; omega⟩
          · obtain ⟨rfl, rfl⟩ := Prod.mk.inj hpz
            clear hpz
            by_cases ha : y.1.r.at_ = 0
            · have g1 : (y.1.r.at_ == 0) = true := by rw [beq_iff_eq]; exact ha
              have g2 : ¬ 0 < y.1.log.length := by have := HFX.out.2.2.2.2 ha; omega
              clear ha
              by_cases hs1 : y.1.r.st = 1
              · have d1 : (y.1.r.st == 1) = true := by rw [beq_iff_eq]; exact hs1
                by_cases hs2 : hdk v1.q.rows j = 0
                · have d2 : ((hdk v1.q.rows j : Int) == 0) = true := by rw [beq_iff_eq]; omega
                  have d3 : (hdk v1.q.rows j == 0) = true := by rw [beq_iff_eq]; exact hs2
                  have HE1 := hid (HDK.out.trans (if_pos ⟨hs1, hs2⟩))
                  clear hs1 hs2
                  go_wp2_with (go_at_call 19; refine (hs.out _ ((Fr.refl _ _).alloc _)).mono ?_; rintro e w6 ⟨⟨z2, rfl, hz⟩, hF6⟩; obtain rfl : z2 = true := hz.2 (by trivial); clear hz; have bp6 := hF6.keep (blk_alloc_lt _ HBP.out) (by simp); have bv6 := hF6.keep (blk_alloc_lt _ HBV.out) (by simp); have q0 : w6.cell? ⟨wr.heap.size, 0, none⟩ = some (.int .i64 y.1.r.job) := cell_blk bp6 rfl; have q1 : w6.cell? ⟨wr.heap.size, 1, none⟩ = some (.int .i64 y.1.r.st) := cell_blk bp6 rfl; have q2 : w6.cell? ⟨wr.heap.size, 2, none⟩ = some (.int .i64 y.1.r.at_) := cell_blk bp6 rfl; have q3 : w6.cell? ⟨wr.heap.size, 3, none⟩ = some (.int .i64 y.1.r.ba) := cell_blk bp6 rfl; have q9 : w6.cell? ⟨wr.heap.size, 9, none⟩ = some (.slice y.2.a y.1.log.length y.2.c) := cell_blk bp6 rfl; have qv : w6.cell? ⟨vb, 0, none⟩ = some (.int .i64 v1.res) := cell_blk bv6 rfl; clear bp6 bv6; have HF6 := hid hF6; clear hF6)
                  exact ⟨⟨j + 1, HJ.out.1, by rw [HE1.out] <;> first | rfl | (push_cast; rfl), by first | rfl | (push_cast; rfl), by first | exact ((HH5.out.alloc_ _).same HF6.out).drop (R := [SkT S v1, VwT va vl, BlkT vb (vO v1.res va vl.length)]) (T := [_, _]) | exact (HH5.out.alloc_ _).drop (R := [SkT S v1, VwT va vl, BlkT vb (vO v1.res va vl.length)]) (T := [_, _])⟩, by have := HJ.out.1; simp only [intOf]; omega⟩
                · have d2 : ((hdk v1.q.rows j : Int) == 0) = false := by rw [beq_eq_false_iff_ne]; omega
                  have d3 : (hdk v1.q.rows j == 0) = false := by rw [beq_eq_false_iff_ne]; exact hs2
                  have HE1 := hid (HDK.out.trans (if_neg (fun h => hs2 h.2)))
                  clear hs1 hs2
                  go_wp2_with (go_at_call 19; refine (hs.out _ ((Fr.refl _ _).alloc _)).mono ?_; rintro e w6 ⟨⟨z2, rfl, hz⟩, hF6⟩; obtain rfl : z2 = true := hz.2 (by trivial); clear hz; have bp6 := hF6.keep (blk_alloc_lt _ HBP.out) (by simp); have bv6 := hF6.keep (blk_alloc_lt _ HBV.out) (by simp); have q0 : w6.cell? ⟨wr.heap.size, 0, none⟩ = some (.int .i64 y.1.r.job) := cell_blk bp6 rfl; have q1 : w6.cell? ⟨wr.heap.size, 1, none⟩ = some (.int .i64 y.1.r.st) := cell_blk bp6 rfl; have q2 : w6.cell? ⟨wr.heap.size, 2, none⟩ = some (.int .i64 y.1.r.at_) := cell_blk bp6 rfl; have q3 : w6.cell? ⟨wr.heap.size, 3, none⟩ = some (.int .i64 y.1.r.ba) := cell_blk bp6 rfl; have q9 : w6.cell? ⟨wr.heap.size, 9, none⟩ = some (.slice y.2.a y.1.log.length y.2.c) := cell_blk bp6 rfl; have qv : w6.cell? ⟨vb, 0, none⟩ = some (.int .i64 v1.res) := cell_blk bv6 rfl; clear bp6 bv6; have HF6 := hid hF6; clear hF6)
                  exact ⟨⟨j + 1, HJ.out.1, by rw [HE1.out] <;> first | rfl | (push_cast; rfl), by first | rfl | (push_cast; rfl), by first | exact ((HH5.out.alloc_ _).same HF6.out).drop (R := [SkT S v1, VwT va vl, BlkT vb (vO v1.res va vl.length)]) (T := [_, _]) | exact (HH5.out.alloc_ _).drop (R := [SkT S v1, VwT va vl, BlkT vb (vO v1.res va vl.length)]) (T := [_, _])⟩, by have := HJ.out.1; simp only [intOf]; omega⟩
              · have d1 : (y.1.r.st == 1) = false := by rw [beq_eq_false_iff_ne]; exact hs1
                have HE1 := hid (HDK.out.trans (if_neg (fun h => hs1 h.1)))
                clear hs1
                go_wp2_with (go_at_call 19; refine (hs.out _ ((Fr.refl _ _).alloc _)).mono ?_; rintro e w6 ⟨⟨z2, rfl, hz⟩, hF6⟩; obtain rfl : z2 = true := hz.2 (by trivial); clear hz; have bp6 := hF6.keep (blk_alloc_lt _ HBP.out) (by simp); have bv6 := hF6.keep (blk_alloc_lt _ HBV.out) (by simp); have q0 : w6.cell? ⟨wr.heap.size, 0, none⟩ = some (.int .i64 y.1.r.job) := cell_blk bp6 rfl; have q1 : w6.cell? ⟨wr.heap.size, 1, none⟩ = some (.int .i64 y.1.r.st) := cell_blk bp6 rfl; have q2 : w6.cell? ⟨wr.heap.size, 2, none⟩ = some (.int .i64 y.1.r.at_) := cell_blk bp6 rfl; have q3 : w6.cell? ⟨wr.heap.size, 3, none⟩ = some (.int .i64 y.1.r.ba) := cell_blk bp6 rfl; have q9 : w6.cell? ⟨wr.heap.size, 9, none⟩ = some (.slice y.2.a y.1.log.length y.2.c) := cell_blk bp6 rfl; have qv : w6.cell? ⟨vb, 0, none⟩ = some (.int .i64 v1.res) := cell_blk bv6 rfl; clear bp6 bv6; have HF6 := hid hF6; clear hF6)
                exact ⟨⟨j + 1, HJ.out.1, by rw [HE1.out] <;> first | rfl | (push_cast; rfl), by first | rfl | (push_cast; rfl), by first | exact ((HH5.out.alloc_ _).same HF6.out).drop (R := [SkT S v1, VwT va vl, BlkT vb (vO v1.res va vl.length)]) (T := [_, _]) | exact (HH5.out.alloc_ _).drop (R := [SkT S v1, VwT va vl, BlkT vb (vO v1.res va vl.length)]) (T := [_, _])⟩, by have := HJ.out.1; simp only [intOf]; omega⟩
            · have g1 : (y.1.r.at_ == 0) = false := by rw [beq_eq_false_iff_ne]; exact ha
              clear ha
              by_cases hs1 : y.1.r.st = 1
              · have d1 : (y.1.r.st == 1) = true := by rw [beq_iff_eq]; exact hs1
                by_cases hs2 : hdk v1.q.rows j = 0
                · have d2 : ((hdk v1.q.rows j : Int) == 0) = true := by rw [beq_iff_eq]; omega
                  have d3 : (hdk v1.q.rows j == 0) = true := by rw [beq_iff_eq]; exact hs2
                  have HE1 := hid (HDK.out.trans (if_pos ⟨hs1, hs2⟩))
                  clear hs1 hs2
                  go_wp2_with (go_at_call 19; refine (hs.out _ ((Fr.refl _ _).alloc _)).mono ?_; rintro e w6 ⟨⟨z2, rfl, hz⟩, hF6⟩; obtain rfl : z2 = true := hz.2 (by trivial); clear hz; have bp6 := hF6.keep (blk_alloc_lt _ HBP.out) (by simp); have bv6 := hF6.keep (blk_alloc_lt _ HBV.out) (by simp); have q0 : w6.cell? ⟨wr.heap.size, 0, none⟩ = some (.int .i64 y.1.r.job) := cell_blk bp6 rfl; have q1 : w6.cell? ⟨wr.heap.size, 1, none⟩ = some (.int .i64 y.1.r.st) := cell_blk bp6 rfl; have q2 : w6.cell? ⟨wr.heap.size, 2, none⟩ = some (.int .i64 y.1.r.at_) := cell_blk bp6 rfl; have q3 : w6.cell? ⟨wr.heap.size, 3, none⟩ = some (.int .i64 y.1.r.ba) := cell_blk bp6 rfl; have q9 : w6.cell? ⟨wr.heap.size, 9, none⟩ = some (.slice y.2.a y.1.log.length y.2.c) := cell_blk bp6 rfl; have qv : w6.cell? ⟨vb, 0, none⟩ = some (.int .i64 v1.res) := cell_blk bv6 rfl; clear bp6 bv6; have HF6 := hid hF6; clear hF6)
                  exact ⟨⟨j + 1, HJ.out.1, by rw [HE1.out] <;> first | rfl | (push_cast; rfl), by first | rfl | (push_cast; rfl), by first | exact ((HH5.out.alloc_ _).same HF6.out).drop (R := [SkT S v1, VwT va vl, BlkT vb (vO v1.res va vl.length)]) (T := [_, _]) | exact (HH5.out.alloc_ _).drop (R := [SkT S v1, VwT va vl, BlkT vb (vO v1.res va vl.length)]) (T := [_, _])⟩, by have := HJ.out.1; simp only [intOf]; omega⟩
                · have d2 : ((hdk v1.q.rows j : Int) == 0) = false := by rw [beq_eq_false_iff_ne]; omega
                  have d3 : (hdk v1.q.rows j == 0) = false := by rw [beq_eq_false_iff_ne]; exact hs2
                  have HE1 := hid (HDK.out.trans (if_neg (fun h => hs2 h.2)))
                  clear hs1 hs2
                  go_wp2_with (go_at_call 19; refine (hs.out _ ((Fr.refl _ _).alloc _)).mono ?_; rintro e w6 ⟨⟨z2, rfl, hz⟩, hF6⟩; obtain rfl : z2 = true := hz.2 (by trivial); clear hz; have bp6 := hF6.keep (blk_alloc_lt _ HBP.out) (by simp); have bv6 := hF6.keep (blk_alloc_lt _ HBV.out) (by simp); have q0 : w6.cell? ⟨wr.heap.size, 0, none⟩ = some (.int .i64 y.1.r.job) := cell_blk bp6 rfl; have q1 : w6.cell? ⟨wr.heap.size, 1, none⟩ = some (.int .i64 y.1.r.st) := cell_blk bp6 rfl; have q2 : w6.cell? ⟨wr.heap.size, 2, none⟩ = some (.int .i64 y.1.r.at_) := cell_blk bp6 rfl; have q3 : w6.cell? ⟨wr.heap.size, 3, none⟩ = some (.int .i64 y.1.r.ba) := cell_blk bp6 rfl; have q9 : w6.cell? ⟨wr.heap.size, 9, none⟩ = some (.slice y.2.a y.1.log.length y.2.c) := cell_blk bp6 rfl; have qv : w6.cell? ⟨vb, 0, none⟩ = some (.int .i64 v1.res) := cell_blk bv6 rfl; clear bp6 bv6; have HF6 := hid hF6; clear hF6)
                  exact ⟨⟨j + 1, HJ.out.1, by rw [HE1.out] <;> first | rfl | (push_cast; rfl), by first | rfl | (push_cast; rfl), by first | exact ((HH5.out.alloc_ _).same HF6.out).drop (R := [SkT S v1, VwT va vl, BlkT vb (vO v1.res va vl.length)]) (T := [_, _]) | exact (HH5.out.alloc_ _).drop (R := [SkT S v1, VwT va vl, BlkT vb (vO v1.res va vl.length)]) (T := [_, _])⟩, by have := HJ.out.1; simp only [intOf]; omega⟩
              · have d1 : (y.1.r.st == 1) = false := by rw [beq_eq_false_iff_ne]; exact hs1
                have HE1 := hid (HDK.out.trans (if_neg (fun h => hs1 h.1)))
                clear hs1
                go_wp2_with (go_at_call 19; refine (hs.out _ ((Fr.refl _ _).alloc _)).mono ?_; rintro e w6 ⟨⟨z2, rfl, hz⟩, hF6⟩; obtain rfl : z2 = true := hz.2 (by trivial); clear hz; have bp6 := hF6.keep (blk_alloc_lt _ HBP.out) (by simp); have bv6 := hF6.keep (blk_alloc_lt _ HBV.out) (by simp); have q0 : w6.cell? ⟨wr.heap.size, 0, none⟩ = some (.int .i64 y.1.r.job) := cell_blk bp6 rfl; have q1 : w6.cell? ⟨wr.heap.size, 1, none⟩ = some (.int .i64 y.1.r.st) := cell_blk bp6 rfl; have q2 : w6.cell? ⟨wr.heap.size, 2, none⟩ = some (.int .i64 y.1.r.at_) := cell_blk bp6 rfl; have q3 : w6.cell? ⟨wr.heap.size, 3, none⟩ = some (.int .i64 y.1.r.ba) := cell_blk bp6 rfl; have q9 : w6.cell? ⟨wr.heap.size, 9, none⟩ = some (.slice y.2.a y.1.log.length y.2.c) := cell_blk bp6 rfl; have qv : w6.cell? ⟨vb, 0, none⟩ = some (.int .i64 v1.res) := cell_blk bv6 rfl; clear bp6 bv6; have HF6 := hid hF6; clear hF6)
                exact ⟨⟨j + 1, HJ.out.1, by rw [HE1.out] <;> first | rfl | (push_cast; rfl), by first | rfl | (push_cast; rfl), by first | exact ((HH5.out.alloc_ _).same HF6.out).drop (R := [SkT S v1, VwT va vl, BlkT vb (vO v1.res va vl.length)]) (T := [_, _]) | exact (HH5.out.alloc_ _).drop (R := [SkT S v1, VwT va vl, BlkT vb (vO v1.res va vl.length)]) (T := [_, _])⟩, by have := HJ.out.1; simp only [intOf]; omega⟩
        · have hje : j = vl.length := by omega
          have hj1 : ¬ (j : Int) < vl.length := by omega
          have hs0 : v1.sfind 0 = (.zero, false) := sfind_no (fun k hk h => by omega)
          have hs1 : v1.sfind (v1.res + 1) = (.zero, false) := sfind_no (fun k hk h => by have := HV1.out.bd _ (qL.mem_nth hk); omega)
          have hrs := HV1.out.res
          have hw2 : IntKind.i64.wrap (v1.res + 1) = v1.res + 1 := IntWalk.i64_in _ (by omega)
          have hhd : v1.q.head = (hdk v1.q.rows j : Nat) := by rw [hdk_head, hje, HN.out.len]
          have HHD := hid hhd
          have hf0 := st_sfind H 0 rfl HV1.out 0
          rw [hs0] at hf0
          have hf1 := hid (fun (wx : World) (T : List Thing) (H : St (.of w) wx ([SkT S v1, VwT va vl, BlkT vb (vO v1.res va vl.length)] ++ T)) => st_sfind H 0 rfl HV1.out (v1.res + 1))
          simp only [hs1] at hf1
          have HF0 := hid hf0
          clear H hj hjl hje hs0 hs1 hhd hrs hf0
          go_wp2_with fail
          refine HF0.out.mono ?_
          rintro e w5 ⟨fa, rfl, H⟩
          dsimp only [pF]
          have z0 : w5.cell? ⟨vb, 0, none⟩ = some (.int .i64 v1.res) := cell_blk (i := 0) (H.blk 2 rfl) rfl
          have hlv := lt_of_block (H.blk 2 rfl)
          have HH5 := hid H
          clear H HF0
          go_wp2_with fail
          refine (hf1.out _ _ (HH5.out.alloc_ _)).mono ?_
          rintro e w6 ⟨fb, rfl, H⟩
          dsimp only [pF]
          obtain ⟨Q, pv, lv, ll, hll, H1⟩ := H.sk 0 rfl
          have s0 : w6.cell? ⟨S, 0, none⟩ = some (.pointer (some ⟨Q, 0, none⟩)) := cell_blk (i := 0) H1.skS rfl
          have z0 : w6.cell? ⟨vb, 0, none⟩ = some (.int .i64 v1.res) := cell_blk (i := 0) (H.blk 2 rfl) rfl
          have HHE := hid (fun (wx : World) (hF : Fr [] (w6.alloc (pO (PV.zero, ⟨fb, PV.zero.log.length⟩))) wx) => st_head (H1.same (((Fr.refl [] w6).alloc _).trans hF)) _ sk_get1 HV1.out.q.n)
          rw [HHD.out] at HHE
          have HRS := hid (fun (wx : World) (hF : Fr [] (w6.alloc (pO (PV.zero, ⟨fb, PV.zero.log.length⟩))) wx) => st_sreserved (H.same (((Fr.refl [] w6).alloc _).trans hF)) 0 rfl)
          have HK := hid (show ∀ wx, Fr [] (w6.alloc (pO (PV.zero, ⟨fb, PV.zero.log.length⟩))) wx → wx.cell? ⟨S, 0, none⟩ = some (.pointer (some ⟨Q, 0, none⟩)) ∧ wx.cell? ⟨vb, 0, none⟩ = some (.int .i64 v1.res) from fun wx h => ⟨(((Fr.refl [] w6).alloc _).trans h).cell0 s0, (((Fr.refl [] w6).alloc _).trans h).cell0 z0⟩)
          have HH6 := hid H
          have hlv := lt_of_block (H.blk 2 rfl)
          clear H H1 hll s0
          go_wp2_with fail
          clear z0
          refine wp_region_calm (S := fun wx : World => Fr [] (w6.alloc (pO (PV.zero, ⟨fb, PV.zero.log.length⟩))) wx) (by kernel_rfl) (lexB_of' (by kernel_rfl) (by kernel_rfl)) ((Fr.refl _ _).drew) ?_
          repeat (first | (refine calmRow_free (v := ?_) rfl ?_ ?_; rotate_left; (focus (intro wx hSx; (try dsimp only at hSx); have hcx := HK.out wx hSx; go_simp; (first | with_reducible rfl | exact ⟨rfl, hSx⟩ | (refine (HHE.out _ hSx).mono ?_; rintro e w1 ⟨rfl, hF1⟩; refine ⟨?_, hSx.trans hF1⟩; with_reducible rfl) | (refine (HRS.out _ hSx).mono ?_; rintro e w1 ⟨rfl, rfl⟩; refine ⟨?_, hSx⟩; with_reducible rfl)))); (try simp only [Act.put, List.setIfInBounds_toArray, List.set_cons_zero, List.set_cons_succ])) | (refine calmRow_skip ?_ ?_; (focus (go_simp; (try (intro hx; cases hx)); done)); (try simp only [Act.put, List.setIfInBounds_toArray, List.set_cons_zero, List.set_cons_succ])) | (refine calmRow_take (v := ?_) ?_ ?_ ?_; rotate_left; (focus (go_simp; done)); (focus (intro wx hSx; (try dsimp only at hSx); have hcx := HK.out wx hSx; go_simp; (first | with_reducible rfl | exact ⟨rfl, hSx⟩ | (refine (HHE.out _ hSx).mono ?_; rintro e w1 ⟨rfl, hF1⟩; refine ⟨?_, hSx.trans hF1⟩; with_reducible rfl) | (refine (HRS.out _ hSx).mono ?_; rintro e w1 ⟨rfl, rfl⟩; refine ⟨?_, hSx⟩; with_reducible rfl)))); (try simp only [Act.put, List.setIfInBounds_toArray, List.set_cons_zero, List.set_cons_succ])))
          refine calmRow_nil ?_
          intro wn hFx
          try dsimp only at hFx
          have H7 := hid ((((HH6.out.alloc_ _).same hFx).drop (R := [SkT S v1, VwT va vl, BlkT vb (vO v1.res va vl.length)]) (T := [_, _])).drop (R := [SkT S v1]) (T := [_, _]))
          clear hFx
          go_wp2_with fail
          go_roundw
          case rel => exact ⟨k + 1, v1, HLT.out, by go_num, HV1.out, H7.out⟩
          case measure => have := HLT.out; simp [intOf]; omega
    · have hk1 : ¬ (k : Int) < nl := by omega
      have HH := hid H
      clear H hv hlt hk
      go_wp2_with (go_at_call 10; refine (fixed17 _).mono ?_; rintro e w2 ⟨rfl, hF2⟩)
      go_ret
      exact ⟨rfl, HH.out.fr.trans hF2⟩
end Go.Proofs.Ytmgnekjhlfghaaa
