/-
  record: a change as bytes: put.
-/
import Derived.Test.YtdobbmlaokolmaaR2
namespace Go.Proofs.Ytdobbmlaokolmaa
open Go.RowKit
set_option linter.unusedVariables false
set_option linter.unusedSimpArgs false

set_option maxHeartbeats 4000000 in
set_option maxRecDepth 100000 in
theorem put_walk_n (w : World) (kind n job badge slot life code bits : Nat) (prog : ByteArray) (texts : List ByteArray) (ta : Option Addr) (tc : Nat) (ht : In w 1 ta texts.length tc (sL.at_ texts))
    (hf : CV.Fits ⟨kind, n, job, badge, slot, life, code, bits, prog, texts⟩) :
    Calls Try.prog 30 #[.agg (CV.f ⟨kind, n, job, badge, slot, life, code, bits, prog, texts⟩ ⟨ta, tc⟩).toArray] w fun e w' => e = .returned (.string ⟨(CV.put ⟨kind, n, job, badge, slot, life, code, bits, prog, texts⟩).toArray⟩) ∧ Fr [] w w' := by
  have HF := hid hf
  have HL := hid (putL_le _ hf)
  have hb : kind < 9223372036854775808 ∧ n < 9223372036854775808 ∧ job < 9223372036854775808 ∧ badge < 9223372036854775808 ∧ slot < 9223372036854775808 ∧ life < 9223372036854775808 ∧ code < 9223372036854775808 ∧ bits < 18446744073709551616 ∧ texts.length < 9223372036854775808 := by
    have h1 := hf.n; have h2 := hf.job; have h3 := hf.badge; have h4 := hf.slot; have h5 := hf.life; have h6 := hf.code; have h7 := hf.bits; have h8 := hf.prog; have h9 := hf.texts; have h10 := hf.kind
    simp only at h1 h2 h3 h4 h5 h6 h7 h8 h9 h10
    omega
  have HB := hid hb
  have HT := hid ht
  clear hf hb ht
  show Calls _ _ #[.agg #[.int .i64 kind, .int .i64 n, .int .i64 job, .int .i64 badge, .int .i64 slot, .int .i64 life, .int .i64 code, .int .u64 bits, .string prog, .slice ta texts.length tc]] _ _
  have HG : ∃ c : CV, c = ⟨kind, n, job, badge, slot, life, code, bits, prog, texts⟩ := ⟨_, rfl⟩
  obtain ⟨c, hc⟩ := HG
  rw [← hc] at HL ⊢
  have HC := hid hc
  clear hc
  have HH := hid (((St.refl w).alloc (.cells #[.int .i64 kind, .int .i64 n, .int .i64 job, .int .i64 badge, .int .i64 slot, .int .i64 life, .int .i64 code, .int .u64 bits, .string prog, .slice ta texts.length tc] 27)).builderAt (w.heap.size + 1) (by simp))
  go_enter Try.func30, Try.ntmps30
  go_wp2_with (first
    | (go_at_call 29; refine (num_walk _ kind HB.out.1).mono ?_; rintro e w1 ⟨rfl, hF⟩; have H1 := HH.out.same hF; have hF := hid hF)
    | (go_at_call 45; refine (st_bwrite H1 1 _ rfl (by have := nf_le kind (by have := HB.out.1; omega); simp only [List.length_nil]; omega)).mono ?_; rintro e w2 ⟨rfl, H2⟩; have k0 := cell_blk (i := 0) (H2.blk 0 rfl) rfl)
    | (go_at_call 23; refine (has_walk _ _).mono ?_; rintro e w3 ⟨rfl, rfl⟩))
  have H3 := H2.alloc (.stringIter (hasS (kind : Int)) 0)
  show Code.wp _ _ _ _ (w2.alloc (.stringIter (hasS (kind : Int)) 0))
  generalize w2.alloc (.stringIter (hasS (kind : Int)) 0) = w4 at H3 ⊢
  generalize w2.heap.size = ib at H3 ⊢
  simp only [List.nil_append, List.cons_append, List.set_cons_zero, List.set_cons_succ] at H3
  have H3 := hid H3
  clear k0 H1 H2 HH
  go_loopw [] (fun wr => ∃ k : Nat, k ≤ (hasS (kind : Int)).size ∧ St (.of w) wr [BlkT w.heap.size (.cells #[.int .i64 kind, .int .i64 n, .int .i64 job, .int .i64 badge, .int .i64 slot, .int .i64 life, .int .i64 code, .int .u64 bits, .string prog, .slice ta texts.length tc] 27), BdT (w.heap.size + 1) ((nf kind).data.toList ++ ((hasS (kind : Int)).data.toList.take k).flatMap c.putL), BlkT ib (.stringIter (hasS (kind : Int)) k)]) (fun wr => match wr.heap[ib]? with | some (.stringIter s k) => (hasS (kind : Int)).size - k | _ => 0)
  case atStart => exact ⟨0, Nat.zero_le _, by simpa using H3.out⟩
  case round =>
    obtain ⟨k, hk, H⟩ := hrel
    have hit := H.blk 2 rfl
    by_cases hlt : k < (hasS (kind : Int)).size
    · obtain ⟨x, hx⟩ : ∃ x, (hasS (kind : Int)).data.toList[k]? = some x := ⟨_, List.getElem?_eq_getElem (show k < (hasS (kind : Int)).data.toList.length from hlt)⟩
      have HLT := hid hlt
      clear hk hlt
      rcases hasS_letter (kind : Int) x (List.mem_of_getElem? hx) with rfl | rfl | rfl | rfl | rfl | rfl | rfl
      ·
        have hNx : (Instr.next (.pointer (some ⟨ib, 0, none⟩)) true 0).run Try.prog wr = .ok (.tuple #[.bool true, .int .i64 k, .int .i32 110]) (wr.iterAt ib (hasS (kind : Int)) (k + 1)) := next_letter hit 110 hx (by decide)
        have H1 := H.setIter 2 rfl (k + 1)
        simp only [List.set_cons_zero, List.set_cons_succ] at H1
        generalize wr.iterAt ib (hasS (kind : Int)) (k + 1) = wi at hNx H1
        have HX := hid (flat_snoc c.putL hx (nf kind).data.toList)
        have HP := hid (show c.putL 110 = (nf n).data.toList by rw [HC.out]; simp [CV.putL])
        have HM := hid (And.intro hx hit)
        clear hx hit H
        have k0 := cell_blk (i := 0) (H1.blk 0 rfl) rfl
        have k1 := cell_blk (i := 1) (H1.blk 0 rfl) rfl
        have k2 := cell_blk (i := 2) (H1.blk 0 rfl) rfl
        have k3 := cell_blk (i := 3) (H1.blk 0 rfl) rfl
        have k4 := cell_blk (i := 4) (H1.blk 0 rfl) rfl
        have k5 := cell_blk (i := 5) (H1.blk 0 rfl) rfl
        have k6 := cell_blk (i := 6) (H1.blk 0 rfl) rfl
        have k7 := cell_blk (i := 7) (H1.blk 0 rfl) rfl
        have k8 := cell_blk (i := 8) (H1.blk 0 rfl) rfl
        have k9 := cell_blk (i := 9) (H1.blk 0 rfl) rfl
        have H1 := hid H1
        go_wp2_with (first
          | (go_at_call 29; refine (num_walk _ n HB.out.2.1).mono ?_; rintro e w1 ⟨rfl, hF⟩; have H2 := H1.out.same hF)
          | (go_at_call 45; refine (st_bwrite H2 1 _ rfl (by have := nf_le n (by have := HB.out.2.1; omega); have := pre_le c kind k HB.out.1 HL.out; omega)).mono ?_; rintro e w2 ⟨rfl, H3⟩; simp only [List.set_cons_zero, List.set_cons_succ] at H3; have H3 := hid H3))
        go_wp2_with fail
        go_roundw
        case rel =>
          refine ⟨k + 1, HLT.out, ?_⟩
          have H4 := H3.out
          rw [← HP.out, HX.out] at H4
          exact H4
        case measure =>
          have H5 := H3.out
          have hi := H5.blk 2 rfl
          have h1 := HLT.out
          simp only [hi, HM.out.2]
          omega
      ·
        have hNx : (Instr.next (.pointer (some ⟨ib, 0, none⟩)) true 0).run Try.prog wr = .ok (.tuple #[.bool true, .int .i64 k, .int .i32 106]) (wr.iterAt ib (hasS (kind : Int)) (k + 1)) := next_letter hit 106 hx (by decide)
        have H1 := H.setIter 2 rfl (k + 1)
        simp only [List.set_cons_zero, List.set_cons_succ] at H1
        generalize wr.iterAt ib (hasS (kind : Int)) (k + 1) = wi at hNx H1
        have HX := hid (flat_snoc c.putL hx (nf kind).data.toList)
        have HP := hid (show c.putL 106 = (nf job).data.toList by rw [HC.out]; simp [CV.putL])
        have HM := hid (And.intro hx hit)
        clear hx hit H
        have k0 := cell_blk (i := 0) (H1.blk 0 rfl) rfl
        have k1 := cell_blk (i := 1) (H1.blk 0 rfl) rfl
        have k2 := cell_blk (i := 2) (H1.blk 0 rfl) rfl
        have k3 := cell_blk (i := 3) (H1.blk 0 rfl) rfl
        have k4 := cell_blk (i := 4) (H1.blk 0 rfl) rfl
        have k5 := cell_blk (i := 5) (H1.blk 0 rfl) rfl
        have k6 := cell_blk (i := 6) (H1.blk 0 rfl) rfl
        have k7 := cell_blk (i := 7) (H1.blk 0 rfl) rfl
        have k8 := cell_blk (i := 8) (H1.blk 0 rfl) rfl
        have k9 := cell_blk (i := 9) (H1.blk 0 rfl) rfl
        have H1 := hid H1
        go_wp2_with (first
          | (go_at_call 29; refine (num_walk _ job HB.out.2.2.1).mono ?_; rintro e w1 ⟨rfl, hF⟩; have H2 := H1.out.same hF)
          | (go_at_call 45; refine (st_bwrite H2 1 _ rfl (by have := nf_le job (by have := HB.out.2.2.1; omega); have := pre_le c kind k HB.out.1 HL.out; omega)).mono ?_; rintro e w2 ⟨rfl, H3⟩; simp only [List.set_cons_zero, List.set_cons_succ] at H3; have H3 := hid H3))
        go_wp2_with fail
        go_roundw
        case rel =>
          refine ⟨k + 1, HLT.out, ?_⟩
          have H4 := H3.out
          rw [← HP.out, HX.out] at H4
          exact H4
        case measure =>
          have H5 := H3.out
          have hi := H5.blk 2 rfl
          have h1 := HLT.out
          simp only [hi, HM.out.2]
          omega
      ·
        have hNx : (Instr.next (.pointer (some ⟨ib, 0, none⟩)) true 0).run Try.prog wr = .ok (.tuple #[.bool true, .int .i64 k, .int .i32 112]) (wr.iterAt ib (hasS (kind : Int)) (k + 1)) := next_letter hit 112 hx (by decide)
        have H1 := H.setIter 2 rfl (k + 1)
        simp only [List.set_cons_zero, List.set_cons_succ] at H1
        generalize wr.iterAt ib (hasS (kind : Int)) (k + 1) = wi at hNx H1
        have HX := hid (flat_snoc c.putL hx (nf kind).data.toList)
        have HP := hid (show c.putL 112 = (tf prog).data.toList by rw [HC.out]; simp [CV.putL])
        have HM := hid (And.intro hx hit)
        clear hx hit H
        have k0 := cell_blk (i := 0) (H1.blk 0 rfl) rfl
        have k1 := cell_blk (i := 1) (H1.blk 0 rfl) rfl
        have k2 := cell_blk (i := 2) (H1.blk 0 rfl) rfl
        have k3 := cell_blk (i := 3) (H1.blk 0 rfl) rfl
        have k4 := cell_blk (i := 4) (H1.blk 0 rfl) rfl
        have k5 := cell_blk (i := 5) (H1.blk 0 rfl) rfl
        have k6 := cell_blk (i := 6) (H1.blk 0 rfl) rfl
        have k7 := cell_blk (i := 7) (H1.blk 0 rfl) rfl
        have k8 := cell_blk (i := 8) (H1.blk 0 rfl) rfl
        have k9 := cell_blk (i := 9) (H1.blk 0 rfl) rfl
        have H1 := hid H1
        have hpl : prog.size ≤ 1024 := HF.out.prog
        have hpl := hid hpl
        go_wp2_with (first
          | (go_at_call 46; refine (pack_text _ prog (by have := hpl.out; omega)).mono ?_; rintro e w1 ⟨rfl, hF⟩; have H2 := H1.out.same hF)
          | (go_at_call 45; refine (st_bwrite H2 1 _ rfl (by have := tf_le prog hpl.out; have := pre_le c kind k HB.out.1 HL.out; omega)).mono ?_; rintro e w2 ⟨rfl, H3⟩; simp only [List.set_cons_zero, List.set_cons_succ] at H3; have H3 := hid H3))
        go_wp2_with fail
        go_roundw
        case rel =>
          refine ⟨k + 1, HLT.out, ?_⟩
          have H4 := H3.out
          rw [← HP.out, HX.out] at H4
          exact H4
        case measure =>
          have H5 := H3.out
          have hi := H5.blk 2 rfl
          have h1 := HLT.out
          simp only [hi, HM.out.2]
          omega
      ·
        have hNx : (Instr.next (.pointer (some ⟨ib, 0, none⟩)) true 0).run Try.prog wr = .ok (.tuple #[.bool true, .int .i64 k, .int .i32 98]) (wr.iterAt ib (hasS (kind : Int)) (k + 1)) := next_letter hit 98 hx (by decide)
        have H1 := H.setIter 2 rfl (k + 1)
        simp only [List.set_cons_zero, List.set_cons_succ] at H1
        generalize wr.iterAt ib (hasS (kind : Int)) (k + 1) = wi at hNx H1
        have HX := hid (flat_snoc c.putL hx (nf kind).data.toList)
        have HP := hid (show c.putL 98 = (nf badge).data.toList by rw [HC.out]; simp [CV.putL])
        have HM := hid (And.intro hx hit)
        clear hx hit H
        have k0 := cell_blk (i := 0) (H1.blk 0 rfl) rfl
        have k1 := cell_blk (i := 1) (H1.blk 0 rfl) rfl
        have k2 := cell_blk (i := 2) (H1.blk 0 rfl) rfl
        have k3 := cell_blk (i := 3) (H1.blk 0 rfl) rfl
        have k4 := cell_blk (i := 4) (H1.blk 0 rfl) rfl
        have k5 := cell_blk (i := 5) (H1.blk 0 rfl) rfl
        have k6 := cell_blk (i := 6) (H1.blk 0 rfl) rfl
        have k7 := cell_blk (i := 7) (H1.blk 0 rfl) rfl
        have k8 := cell_blk (i := 8) (H1.blk 0 rfl) rfl
        have k9 := cell_blk (i := 9) (H1.blk 0 rfl) rfl
        have H1 := hid H1
        go_wp2_with (first
          | (go_at_call 29; refine (num_walk _ badge HB.out.2.2.2.1).mono ?_; rintro e w1 ⟨rfl, hF⟩; have H2 := H1.out.same hF)
          | (go_at_call 45; refine (st_bwrite H2 1 _ rfl (by have := nf_le badge (by have := HB.out.2.2.2.1; omega); have := pre_le c kind k HB.out.1 HL.out; omega)).mono ?_; rintro e w2 ⟨rfl, H3⟩; simp only [List.set_cons_zero, List.set_cons_succ] at H3; have H3 := hid H3))
        go_wp2_with fail
        go_roundw
        case rel =>
          refine ⟨k + 1, HLT.out, ?_⟩
          have H4 := H3.out
          rw [← HP.out, HX.out] at H4
          exact H4
        case measure =>
          have H5 := H3.out
          have hi := H5.blk 2 rfl
          have h1 := HLT.out
          simp only [hi, HM.out.2]
          omega
      ·
        have hNx : (Instr.next (.pointer (some ⟨ib, 0, none⟩)) true 0).run Try.prog wr = .ok (.tuple #[.bool true, .int .i64 k, .int .i32 115]) (wr.iterAt ib (hasS (kind : Int)) (k + 1)) := next_letter hit 115 hx (by decide)
        have H1 := H.setIter 2 rfl (k + 1)
        simp only [List.set_cons_zero, List.set_cons_succ] at H1
        generalize wr.iterAt ib (hasS (kind : Int)) (k + 1) = wi at hNx H1
        have HX := hid (flat_snoc c.putL hx (nf kind).data.toList)
        have HP := hid (show c.putL 115 = (nf slot ++ nf life).data.toList by rw [HC.out]; simp [CV.putL])
        have HM := hid (And.intro hx hit)
        clear hx hit H
        have k0 := cell_blk (i := 0) (H1.blk 0 rfl) rfl
        have k1 := cell_blk (i := 1) (H1.blk 0 rfl) rfl
        have k2 := cell_blk (i := 2) (H1.blk 0 rfl) rfl
        have k3 := cell_blk (i := 3) (H1.blk 0 rfl) rfl
        have k4 := cell_blk (i := 4) (H1.blk 0 rfl) rfl
        have k5 := cell_blk (i := 5) (H1.blk 0 rfl) rfl
        have k6 := cell_blk (i := 6) (H1.blk 0 rfl) rfl
        have k7 := cell_blk (i := 7) (H1.blk 0 rfl) rfl
        have k8 := cell_blk (i := 8) (H1.blk 0 rfl) rfl
        have k9 := cell_blk (i := 9) (H1.blk 0 rfl) rfl
        have H1 := hid H1
        have hcat : ¬ 9223372036854775807 < (nf slot).size + (nf life).size := by
          have h1 := nf_le slot (by have := HB.out.2.2.2.2.1; omega)
          have h2 := nf_le life (by have := HB.out.2.2.2.2.2.1; omega)
          omega
        go_wp2_with fail
        go_region_held3 (fun wx : World => wx.cell? ⟨w.heap.size, 4, none⟩ = some (.int .i64 slot) ∧ wx.cell? ⟨w.heap.size, 5, none⟩ = some (.int .i64 life)) ((first | exact hNow | exact ⟨k4, k5⟩))
          (first
          | (go_at_call 29; refine (num_walk _ slot HB.out.2.2.2.2.1).mono ?_; rintro e w1 ⟨rfl, hF⟩; have hNow := And.intro (hF.cell0 k4) (hF.cell0 k5); have H2 := hid (H1.out.drew.same hF))
          | (go_at_call 29; refine (num_walk _ life HB.out.2.2.2.2.2.1).mono ?_; rintro e w3 ⟨rfl, hF3⟩; have hNow := And.intro (hF3.cell0 hNow.1) (hF3.cell0 hNow.2); have H6 := H2.out.same hF3)
          | (go_at_call 45; refine (st_bwrite H6 1 _ rfl (by have := nf_le slot (by have := HB.out.2.2.2.2.1; omega); have := nf_le life (by have := HB.out.2.2.2.2.2.1; omega); rw [ByteArray.size_append]; have := pre_le c kind k HB.out.1 HL.out; omega)).mono ?_; rintro e w2 ⟨rfl, H3⟩; simp only [List.set_cons_zero, List.set_cons_succ] at H3; have hNow := And.intro (cell_blk (i := 4) (H3.blk 0 rfl) rfl) (cell_blk (i := 5) (H3.blk 0 rfl) rfl); have H3 := hid H3))
        go_wp2_with fail
        go_roundw
        case rel =>
          refine ⟨k + 1, HLT.out, ?_⟩
          have H4 := H3.out
          rw [← HP.out, HX.out] at H4
          exact H4
        case measure =>
          have H5 := H3.out
          have hi := H5.blk 2 rfl
          have h1 := HLT.out
          simp only [hi, HM.out.2]
          omega
      ·
        have hNx : (Instr.next (.pointer (some ⟨ib, 0, none⟩)) true 0).run Try.prog wr = .ok (.tuple #[.bool true, .int .i64 k, .int .i32 116]) (wr.iterAt ib (hasS (kind : Int)) (k + 1)) := next_letter hit 116 hx (by decide)
        have H1 := H.setIter 2 rfl (k + 1)
        simp only [List.set_cons_zero, List.set_cons_succ] at H1
        generalize wr.iterAt ib (hasS (kind : Int)) (k + 1) = wi at hNx H1
        have HX := hid (flat_snoc c.putL hx (nf kind).data.toList)
        have HP := hid (show c.putL 116 = (nf texts.length).data.toList ++ texts.flatMap (fun s => (tf s).data.toList) by rw [HC.out]; simp [CV.putL])
        have HM := hid (And.intro hx hit)
        clear hx hit H
        have k0 := cell_blk (i := 0) (H1.blk 0 rfl) rfl
        have k1 := cell_blk (i := 1) (H1.blk 0 rfl) rfl
        have k2 := cell_blk (i := 2) (H1.blk 0 rfl) rfl
        have k3 := cell_blk (i := 3) (H1.blk 0 rfl) rfl
        have k4 := cell_blk (i := 4) (H1.blk 0 rfl) rfl
        have k5 := cell_blk (i := 5) (H1.blk 0 rfl) rfl
        have k6 := cell_blk (i := 6) (H1.blk 0 rfl) rfl
        have k7 := cell_blk (i := 7) (H1.blk 0 rfl) rfl
        have k8 := cell_blk (i := 8) (H1.blk 0 rfl) rfl
        have k9 := cell_blk (i := 9) (H1.blk 0 rfl) rfl
        have H1 := hid H1
        go_wp2_with (first
          | (go_at_call 29; refine (num_walk _ texts.length HB.out.2.2.2.2.2.2.2.2).mono ?_; rintro e w1 ⟨rfl, hF⟩; have H2 := H1.out.same hF)
          | (go_at_call 45; refine (st_bwrite H2 1 _ rfl (by have := nf_le texts.length (by have := HB.out.2.2.2.2.2.2.2.2; omega); have := pre_le c kind k HB.out.1 HL.out; omega)).mono ?_; rintro e w2 ⟨rfl, H3⟩; simp only [List.set_cons_zero, List.set_cons_succ] at H3; have k9 := cell_blk (i := 9) (H3.blk 0 rfl) rfl; have H3 := hid H3))
        clear k0 k1 k2 k3 k4 k5 k6 k7 k8 k9 hNx
        obtain ⟨wo, rfl⟩ : ∃ wo : World, wo = wr := ⟨_, rfl⟩
        generalize hpre : (nf kind).data.toList ++ ((hasS (kind : Int)).data.toList.take k).flatMap c.putL ++ (nf texts.length).data.toList = pre at H3
        have HPR := hid hpre
        clear hpre
        have htl : (texts.length : Int) ≤ 9223372036854775807 := by have := HB.out.2.2.2.2.2.2.2.2; omega
        go_loopw [74] (fun i wr => ∃ j : Nat, j ≤ texts.length ∧ i = .int .i64 j ∧ St (.of w) wr [BlkT w.heap.size (.cells #[.int .i64 kind, .int .i64 n, .int .i64 job, .int .i64 badge, .int .i64 slot, .int .i64 life, .int .i64 code, .int .u64 bits, .string prog, .slice ta texts.length tc] 27), BdT (w.heap.size + 1) (pre ++ (texts.take j).flatMap (fun s => (tf s).data.toList)), BlkT ib (.stringIter (hasS (kind : Int)) (k + 1))]) (fun i _ => texts.length - (intOf i).toNat)
        case atStart => exact ⟨0, Nat.zero_le _, rfl, by simpa using H3.out⟩
        case round =>
          obtain ⟨j, hj, rfl, H⟩ := hrel
          by_cases hjl : j < texts.length
          · obtain ⟨bb, ob, rfl⟩ := HT.out.sm (by omega)
            have c0 := str_cells (HT.out.fr0 H.fr) j hjl
            have hxj : texts[j]? = some (sL.nth texts j) := sL.nth_get hjl
            generalize sL.nth texts j = x at c0 hxj
            have hx32 : x.size ≤ 32 := HF.out.each x (List.mem_of_getElem? hxj)
            have HXJ := hid (And.intro hxj hx32)
            have HR := hid H
            clear hxj hx32 H
            go_wp2_with (first
              | (go_at_call 46; refine (pack_text _ x (by have := HXJ.out.2; omega)).mono ?_; rintro e w1 ⟨rfl, hF⟩; have H2 := HR.out.same hF)
              | (go_at_call 45; refine (st_bwrite H2 1 _ rfl (by have h1 := texts_le texts j HF.out.texts HF.out.each; have h2 := tf_le x (by have := HXJ.out.2; omega); have h3 := pre_le c kind k HB.out.1 HL.out; have h4 := nf_le texts.length (by have := HB.out.2.2.2.2.2.2.2.2; omega); rw [List.length_append, ← HPR.out, List.length_append, sizeL (nf texts.length)]; omega)).mono ?_; rintro e w2 ⟨rfl, H4⟩; simp only [List.set_cons_zero, List.set_cons_succ] at H4; have H4 := hid H4))
            go_roundw
            case rel =>
              refine ⟨j + 1, by omega, by go_num, ?_⟩
              have H5 := H4.out
              rw [flat_snoc' (fun s => (tf s).data.toList) HXJ.out.1] at H5
              exact H5
            case measure => simp [intOf]; omega
          · have hje : j = texts.length := by omega
            have HR := hid (And.intro hje H)
            clear hje H
            go_wp2_with fail
            go_roundw
            case rel =>
              refine ⟨k + 1, HLT.out, ?_⟩
              have H4 := HR.out.2
              rw [HR.out.1, List.take_length, ← HPR.out, List.append_assoc, ← HP.out, HX.out] at H4
              exact H4
            case measure =>
              have H5 := HR.out.2
              have hi := H5.blk 2 rfl
              have h1 := HLT.out
              simp only [hi, HM.out.2]
              omega
      ·
        have hNx : (Instr.next (.pointer (some ⟨ib, 0, none⟩)) true 0).run Try.prog wr = .ok (.tuple #[.bool true, .int .i64 k, .int .i32 114]) (wr.iterAt ib (hasS (kind : Int)) (k + 1)) := next_letter hit 114 hx (by decide)
        have H1 := H.setIter 2 rfl (k + 1)
        simp only [List.set_cons_zero, List.set_cons_succ] at H1
        generalize wr.iterAt ib (hasS (kind : Int)) (k + 1) = wi at hNx H1
        have HX := hid (flat_snoc c.putL hx (nf kind).data.toList)
        have HP := hid (show c.putL 114 = (nf code ++ bf bits).data.toList by rw [HC.out]; simp [CV.putL])
        have HM := hid (And.intro hx hit)
        clear hx hit H
        have k0 := cell_blk (i := 0) (H1.blk 0 rfl) rfl
        have k1 := cell_blk (i := 1) (H1.blk 0 rfl) rfl
        have k2 := cell_blk (i := 2) (H1.blk 0 rfl) rfl
        have k3 := cell_blk (i := 3) (H1.blk 0 rfl) rfl
        have k4 := cell_blk (i := 4) (H1.blk 0 rfl) rfl
        have k5 := cell_blk (i := 5) (H1.blk 0 rfl) rfl
        have k6 := cell_blk (i := 6) (H1.blk 0 rfl) rfl
        have k7 := cell_blk (i := 7) (H1.blk 0 rfl) rfl
        have k8 := cell_blk (i := 8) (H1.blk 0 rfl) rfl
        have k9 := cell_blk (i := 9) (H1.blk 0 rfl) rfl
        have H1 := hid H1
        have hcat : ¬ 9223372036854775807 < (nf code).size + (bf bits).size := by
          have h1 := nf_le code (by have := HB.out.2.2.2.2.2.2.1; omega)
          have h2 : (bf bits).size = 8 := rfl
          omega
        go_wp2_with fail
        go_region_held3 (fun wx : World => wx.cell? ⟨w.heap.size, 6, none⟩ = some (.int .i64 code) ∧ wx.cell? ⟨w.heap.size, 7, none⟩ = some (.int .u64 bits)) ((first | exact hNow | exact ⟨k6, k7⟩))
          (first
          | (go_at_call 29; refine (num_walk _ code HB.out.2.2.2.2.2.2.1).mono ?_; rintro e w1 ⟨rfl, hF⟩; have hNow := And.intro (hF.cell0 k6) (hF.cell0 k7); have H2 := hid (H1.out.drew.same hF))
          | (go_at_call 47; refine (pack_bits _ bits HB.out.2.2.2.2.2.2.2.1).mono ?_; rintro e w3 ⟨rfl, hF3⟩; have hNow := And.intro (hF3.cell0 hNow.1) (hF3.cell0 hNow.2); have H6 := H2.out.same hF3)
          | (go_at_call 45; refine (st_bwrite H6 1 _ rfl (by have := nf_le code (by have := HB.out.2.2.2.2.2.2.1; omega); have h8 : (bf bits).size = 8 := rfl; rw [ByteArray.size_append]; have := pre_le c kind k HB.out.1 HL.out; omega)).mono ?_; rintro e w2 ⟨rfl, H3⟩; simp only [List.set_cons_zero, List.set_cons_succ] at H3; have hNow := And.intro (cell_blk (i := 6) (H3.blk 0 rfl) rfl) (cell_blk (i := 7) (H3.blk 0 rfl) rfl); have H3 := hid H3))
        go_wp2_with fail
        go_roundw
        case rel =>
          refine ⟨k + 1, HLT.out, ?_⟩
          have H4 := H3.out
          rw [← HP.out, HX.out] at H4
          exact H4
        case measure =>
          have H5 := H3.out
          have hi := H5.blk 2 rfl
          have h1 := HLT.out
          simp only [hi, HM.out.2]
          omega
    · have hNx := Lib.run_next_end_at (P := Try.prog) wr ib (hasS (kind : Int)) k 0 hit hlt
      have hk' : k = (hasS (kind : Int)).size := by omega
      have HK := hid (And.intro hk' H)
      clear hk hlt H hit hk'
      go_wp2_with (go_at_call 48; refine (st_bstring HK.out.2 1 rfl (by have := nf_ne kind; intro h; exact this (List.append_eq_nil_iff.1 h).1)).mono ?_; rintro e w2 ⟨rfl, H3⟩)
      go_ret
      refine ⟨?_, H3.fr⟩
      rw [HK.out.1, List.take_of_length_le (show (hasS (kind : Int)).data.toList.length ≤ (hasS (kind : Int)).size from Nat.le_refl _)]
      have e1 : c.put = (nf kind).data.toList ++ (hasS (kind : Int)).data.toList.flatMap c.putL := by
        have e2 : c.kind = kind := by rw [HC.out]
        rw [CV.put, e2]; rfl
      rw [e1]
      rfl

theorem put_walk (w : World) (c : CV) (t : TS) (ht : In w 1 t.a c.texts.length t.c (sL.at_ c.texts)) (hf : c.Fits) :
    Calls Try.prog 30 #[.agg (c.f t).toArray] w fun e w' => e = .returned (.string ⟨c.put.toArray⟩) ∧ Fr [] w w' := by
  obtain ⟨kind, n, job, badge, slot, life, code, bits, prog, texts⟩ := c
  have h1 := hf.n; have h2 := hf.job; have h3 := hf.badge; have h4 := hf.slot; have h5 := hf.life; have h6 := hf.code; have h7 := hf.bits; have h10 := hf.kind
  simp only at h1 h2 h3 h4 h5 h6 h7 h10 ht
  obtain ⟨kind, rfl⟩ := Int.eq_ofNat_of_zero_le (show 0 ≤ kind by omega)
  obtain ⟨n, rfl⟩ := Int.eq_ofNat_of_zero_le h1.1
  obtain ⟨job, rfl⟩ := Int.eq_ofNat_of_zero_le h2.1
  obtain ⟨badge, rfl⟩ := Int.eq_ofNat_of_zero_le h3.1
  obtain ⟨slot, rfl⟩ := Int.eq_ofNat_of_zero_le h4.1
  obtain ⟨life, rfl⟩ := Int.eq_ofNat_of_zero_le h5.1
  obtain ⟨code, rfl⟩ := Int.eq_ofNat_of_zero_le h6.1
  obtain ⟨bits, rfl⟩ := Int.eq_ofNat_of_zero_le h7.1
  exact put_walk_n w kind n job badge slot life code bits prog texts t.a t.c ht hf

end Go.Proofs.Ytdobbmlaokolmaa
