/-
  gafferref08: put.
-/
import Derived.Test.YtdobbmlaokolmaaX2
namespace Go.Proofs.Ytdobbmlaokolmaa
open Go.RowKit
set_option linter.unusedVariables false
set_option linter.unusedSimpArgs false

theorem ba_toArray (s : ByteArray) : (⟨s.data.toList.toArray⟩ : ByteArray) = s := mk_bl s

set_option maxHeartbeats 4000000 in
set_option maxRecDepth 100000 in
theorem rput_walk_n (w : World) (kind : Int) (n job badge slot life code bits : Nat) (prog : ByteArray) (texts : List ByteArray) (ta : Option Addr) (tc : Nat) (ht : In w 1 ta texts.length tc (sL.at_ texts))
    (hf : CV.Fits ⟨kind, n, job, badge, slot, life, code, bits, prog, texts⟩) :
    Calls Try.prog 32 #[.agg #[.int .i64 kind, .int .i64 n, .int .i64 job, .int .i64 badge, .int .i64 slot, .int .i64 life, .int .i64 code, .int .u64 bits, .string prog, .slice ta texts.length tc]] w fun e w' => e = .returned (.string ⟨(CV.put ⟨kind, n, job, badge, slot, life, code, bits, prog, texts⟩).toArray⟩) ∧ Fr [] w w' := by
  have HF := hid hf
  have hb : True ∧ n < 9223372036854775808 ∧ job < 9223372036854775808 ∧ badge < 9223372036854775808 ∧ slot < 9223372036854775808 ∧ life < 9223372036854775808 ∧ code < 9223372036854775808 ∧ bits < 18446744073709551616 ∧ texts.length < 9223372036854775808 := by
    have h1 := hf.n; have h2 := hf.job; have h3 := hf.badge; have h4 := hf.slot; have h5 := hf.life; have h6 := hf.code; have h7 := hf.bits; have h8 := hf.prog; have h9 := hf.texts; have h10 := hf.kind
    simp only at h1 h2 h3 h4 h5 h6 h7 h8 h9 h10
    exact ⟨trivial, by omega⟩
  have HB := hid hb
  have HT := hid ht
  have hk : kind = 1 ∨ kind = 2 ∨ kind = 3 ∨ kind = 4 ∨ kind = 5 ∨ kind = 6 := by have := hf.kind; simp only at this; omega
  have hs : ∀ z : Nat, z < 18446744073709551616 → (nf z).size ≤ 10 := fun z hz => nf_le z hz
  have s0 : True := trivial
  have s1 := hs n (by omega)
  have s2 := hs job (by omega)
  have s3 := hs badge (by omega)
  have s4 := hs slot (by omega)
  have s5 := hs life (by omega)
  have s6 := hs code (by omega)
  have s7 := hs texts.length (by omega)
  have s8 : (tf prog).size ≤ 1034 := tf_le _ hf.prog
  have s9 : (bf bits).size = 8 := rfl
  have HS := hid (And.intro s0 (And.intro s1 (And.intro s2 (And.intro s3 (And.intro s4 (And.intro s5 (And.intro s6 (And.intro s7 (And.intro s8 s9)))))))))
  clear hf hb ht hs s0 s1 s2 s3 s4 s5 s6 s7 s8 s9
  obtain ⟨w0, hw0⟩ : ∃ w0, w.alloc (.cells #[.int .i64 kind, .int .i64 n, .int .i64 job, .int .i64 badge, .int .i64 slot, .int .i64 life, .int .i64 code, .int .u64 bits, .string prog, .slice ta texts.length tc] 27) = w0 := ⟨_, rfl⟩
  have hF0 : Fr [] w w0 := by rw [← hw0]; exact (Fr.refl _ _).alloc _
  have hbk : w0.heap[w.heap.size]? = some (.cells #[.int .i64 kind, .int .i64 n, .int .i64 job, .int .i64 badge, .int .i64 slot, .int .i64 life, .int .i64 code, .int .u64 bits, .string prog, .slice ta texts.length tc] 27 (0, 0)) := by rw [← hw0]; exact blk_alloc_at _ _ _ rfl
  have HW := hid (And.intro hF0 (And.intro hbk hw0))
  clear hF0 hbk hw0
  rcases hk with rfl | rfl | rfl | rfl | rfl | rfl
  ·
    go_enter Try.func32, Try.ntmps32
    go_wp2_with fail
    rw [HW.out.2.2]
    refine (rnum8_walk _ 1 (by omega)).mono ?_
    rintro e w1 ⟨rfl, hF⟩
    have HF1 := hid (HW.out.1.trans hF)
    have hb1 := hF.keep HW.out.2.1 (by simp)
    have k0 : w1.cell? ⟨w.heap.size, 0, none⟩ = some (.int .i64 1) := cell_blk (i := 0) hb1 rfl
    have k1 : w1.cell? ⟨w.heap.size, 1, none⟩ = some (.int .i64 n) := cell_blk (i := 1) hb1 rfl
    clear hF hb1
    have hcat : ¬ 9223372036854775807 < (nf 1).size + (nf n).size := by have h0 := nf_le 1 (by omega); have h1 := HS.out.2.1; omega
    go_wp2_with fail
    refine (rnum8_walk _ n (by first | exact HB.out.2.1 | exact HB.out.2.2.1 | exact HB.out.2.2.2.1 | exact HB.out.2.2.2.2.1 | exact HB.out.2.2.2.2.2.1 | exact HB.out.2.2.2.2.2.2.1 | exact HB.out.2.2.2.2.2.2.2.2)).mono ?_
    rintro e w2 ⟨rfl, hF⟩
    have HF2 := hid (HF1.out.trans hF)
    go_wp2_with fail
    go_ret
    refine ⟨?_, HF2.out⟩
    have e1 : CV.put ⟨1, n, job, badge, slot, life, code, bits, prog, texts⟩ = bl (nf 1 ++ nf n) := by
      simp [CV.put, CV.putL, show (hasS 1).data.toList = [110] from by decide, bl]
    rw [e1, mk_bl]; rfl
  ·
    go_enter Try.func32, Try.ntmps32
    go_wp2_with fail
    rw [HW.out.2.2]
    refine (rnum8_walk _ 2 (by omega)).mono ?_
    rintro e w1 ⟨rfl, hF⟩
    have HF1 := hid (HW.out.1.trans hF)
    have hb1 := hF.keep HW.out.2.1 (by simp)
    have k0 : w1.cell? ⟨w.heap.size, 0, none⟩ = some (.int .i64 2) := cell_blk (i := 0) hb1 rfl
    have k2 : w1.cell? ⟨w.heap.size, 2, none⟩ = some (.int .i64 job) := cell_blk (i := 2) hb1 rfl
    have k8 : w1.cell? ⟨w.heap.size, 8, none⟩ = some (.string prog) := cell_blk (i := 8) hb1 rfl
    have HCC := hid (show ∀ w2, Fr [] w1.drew w2 → (fun wx : World => wx.cell? ⟨w.heap.size, 2, none⟩ = some (.int .i64 job) ∧ wx.cell? ⟨w.heap.size, 8, none⟩ = some (.string prog)) w2 from fun w2 hF2 => ⟨hF2.cell0 k2, hF2.cell0 k8⟩)
    have hNow := HCC.out _ (Fr.refl _ _)
    have HFr := hid (Fr.refl [] w1.drew)
    have h0 := nf_le 2 (by omega)
    have h1 := HS.out.2.2.1
    have h2 := HS.out.2.2.2.2.2.2.2.2.1
    have c0 : ¬ 9223372036854775807 < (nf 2).size + (nf job).size := by (try simp only [ByteArray.size_append]); omega
    have d0 : ¬ 9223372036854775807 < (nf 2).size + (nf job).size := by omega
    have c1 : ¬ 9223372036854775807 < (nf 2 ++ nf job).size + (tf prog).size := by (try simp only [ByteArray.size_append]); omega
    have d1 : ¬ 9223372036854775807 < (nf 2).size + (nf job).size + (tf prog).size := by omega
    clear h0 h1 h2 hF hb1
    go_wp2_with fail
    go_region_held3 (fun wx : World => wx.cell? ⟨w.heap.size, 2, none⟩ = some (.int .i64 job) ∧ wx.cell? ⟨w.heap.size, 8, none⟩ = some (.string prog)) ((first | exact hNow))
      (first
      | (go_at_call 31; refine (rnum8_walk _ _ (by first | exact HB.out.2.1 | exact HB.out.2.2.1 | exact HB.out.2.2.2.1 | exact HB.out.2.2.2.2.1 | exact HB.out.2.2.2.2.2.1 | exact HB.out.2.2.2.2.2.2.1 | exact HB.out.2.2.2.2.2.2.2.2)).mono ?_; rintro e w2 ⟨rfl, hF⟩; have HFr := hid (HFr.out.trans hF); have hNow := HCC.out _ HFr.out)
      | (go_at_call 50; refine (rtext_walk _ prog (by have := HF.out.prog; simp only at this; omega)).mono ?_; rintro e w2 ⟨rfl, hF⟩; have HFr := hid (HFr.out.trans hF); have hNow := HCC.out _ HFr.out)
      | (go_at_call 51; refine (rbits_walk _ bits HB.out.2.2.2.2.2.2.2.1).mono ?_; rintro e w2 ⟨rfl, hF⟩; have HFr := hid (HFr.out.trans hF); have hNow := HCC.out _ HFr.out))
    go_wp2_with fail
    go_ret
    refine ⟨?_, HF1.out.drew.trans HFr.out⟩
    have e1 : CV.put ⟨2, n, job, badge, slot, life, code, bits, prog, texts⟩ = bl (nf 2 ++ nf job ++ tf prog) := by
      simp [CV.put, CV.putL, show (hasS 2).data.toList = [106, 112] from by decide, bl]
    rw [e1, mk_bl]; rfl
  ·
    go_enter Try.func32, Try.ntmps32
    go_wp2_with fail
    rw [HW.out.2.2]
    refine (rnum8_walk _ 3 (by omega)).mono ?_
    rintro e w1 ⟨rfl, hF⟩
    have HF1 := hid (HW.out.1.trans hF)
    have hb1 := hF.keep HW.out.2.1 (by simp)
    have k0 : w1.cell? ⟨w.heap.size, 0, none⟩ = some (.int .i64 3) := cell_blk (i := 0) hb1 rfl
    have k2 : w1.cell? ⟨w.heap.size, 2, none⟩ = some (.int .i64 job) := cell_blk (i := 2) hb1 rfl
    have k3 : w1.cell? ⟨w.heap.size, 3, none⟩ = some (.int .i64 badge) := cell_blk (i := 3) hb1 rfl
    have k4 : w1.cell? ⟨w.heap.size, 4, none⟩ = some (.int .i64 slot) := cell_blk (i := 4) hb1 rfl
    have k5 : w1.cell? ⟨w.heap.size, 5, none⟩ = some (.int .i64 life) := cell_blk (i := 5) hb1 rfl
    have HCC := hid (show ∀ w2, Fr [] w1.drew w2 → (fun wx : World => wx.cell? ⟨w.heap.size, 2, none⟩ = some (.int .i64 job) ∧ wx.cell? ⟨w.heap.size, 3, none⟩ = some (.int .i64 badge) ∧ wx.cell? ⟨w.heap.size, 4, none⟩ = some (.int .i64 slot) ∧ wx.cell? ⟨w.heap.size, 5, none⟩ = some (.int .i64 life)) w2 from fun w2 hF2 => ⟨hF2.cell0 k2, hF2.cell0 k3, hF2.cell0 k4, hF2.cell0 k5⟩)
    have hNow := HCC.out _ (Fr.refl _ _)
    have HFr := hid (Fr.refl [] w1.drew)
    have h0 := nf_le 3 (by omega)
    have h1 := HS.out.2.2.1
    have h2 := HS.out.2.2.2.1
    have h3 := HS.out.2.2.2.2.1
    have h4 := HS.out.2.2.2.2.2.1
    have c0 : ¬ 9223372036854775807 < (nf 3).size + (nf job).size := by (try simp only [ByteArray.size_append]); omega
    have d0 : ¬ 9223372036854775807 < (nf 3).size + (nf job).size := by omega
    have c1 : ¬ 9223372036854775807 < (nf 3 ++ nf job).size + (nf badge).size := by (try simp only [ByteArray.size_append]); omega
    have d1 : ¬ 9223372036854775807 < (nf 3).size + (nf job).size + (nf badge).size := by omega
    have c2 : ¬ 9223372036854775807 < (nf 3 ++ nf job ++ nf badge).size + (nf slot).size := by (try simp only [ByteArray.size_append]); omega
    have d2 : ¬ 9223372036854775807 < (nf 3).size + (nf job).size + (nf badge).size + (nf slot).size := by omega
    have c3 : ¬ 9223372036854775807 < (nf 3 ++ nf job ++ nf badge ++ nf slot).size + (nf life).size := by (try simp only [ByteArray.size_append]); omega
    have d3 : ¬ 9223372036854775807 < (nf 3).size + (nf job).size + (nf badge).size + (nf slot).size + (nf life).size := by omega
    clear h0 h1 h2 h3 h4 hF hb1
    go_wp2_with fail
    go_region_held3 (fun wx : World => wx.cell? ⟨w.heap.size, 2, none⟩ = some (.int .i64 job) ∧ wx.cell? ⟨w.heap.size, 3, none⟩ = some (.int .i64 badge) ∧ wx.cell? ⟨w.heap.size, 4, none⟩ = some (.int .i64 slot) ∧ wx.cell? ⟨w.heap.size, 5, none⟩ = some (.int .i64 life)) ((first | exact hNow))
      (first
      | (go_at_call 31; refine (rnum8_walk _ _ (by first | exact HB.out.2.1 | exact HB.out.2.2.1 | exact HB.out.2.2.2.1 | exact HB.out.2.2.2.2.1 | exact HB.out.2.2.2.2.2.1 | exact HB.out.2.2.2.2.2.2.1 | exact HB.out.2.2.2.2.2.2.2.2)).mono ?_; rintro e w2 ⟨rfl, hF⟩; have HFr := hid (HFr.out.trans hF); have hNow := HCC.out _ HFr.out)
      | (go_at_call 50; refine (rtext_walk _ prog (by have := HF.out.prog; simp only at this; omega)).mono ?_; rintro e w2 ⟨rfl, hF⟩; have HFr := hid (HFr.out.trans hF); have hNow := HCC.out _ HFr.out)
      | (go_at_call 51; refine (rbits_walk _ bits HB.out.2.2.2.2.2.2.2.1).mono ?_; rintro e w2 ⟨rfl, hF⟩; have HFr := hid (HFr.out.trans hF); have hNow := HCC.out _ HFr.out))
    go_wp2_with fail
    go_ret
    refine ⟨?_, HF1.out.drew.trans HFr.out⟩
    have e1 : CV.put ⟨3, n, job, badge, slot, life, code, bits, prog, texts⟩ = bl (nf 3 ++ nf job ++ nf badge ++ nf slot ++ nf life) := by
      simp [CV.put, CV.putL, show (hasS 3).data.toList = [106, 98, 115] from by decide, bl]
    rw [e1, mk_bl]; rfl
  ·
    go_enter Try.func32, Try.ntmps32
    go_wp2_with fail
    rw [HW.out.2.2]
    refine (rnum8_walk _ 4 (by omega)).mono ?_
    rintro e w1 ⟨rfl, hF⟩
    have HF1 := hid (HW.out.1.trans hF)
    have hb1 := hF.keep HW.out.2.1 (by simp)
    have k0 : w1.cell? ⟨w.heap.size, 0, none⟩ = some (.int .i64 4) := cell_blk (i := 0) hb1 rfl
    have k3 : w1.cell? ⟨w.heap.size, 3, none⟩ = some (.int .i64 badge) := cell_blk (i := 3) hb1 rfl
    have k9 : w1.cell? ⟨w.heap.size, 9, none⟩ = some (.slice ta texts.length tc) := cell_blk (i := 9) hb1 rfl
    have HCC := hid (show ∀ w2, Fr [] w1.drew w2 → (fun wx : World => wx.cell? ⟨w.heap.size, 3, none⟩ = some (.int .i64 badge) ∧ wx.cell? ⟨w.heap.size, 9, none⟩ = some (.slice ta texts.length tc)) w2 from fun w2 hF2 => ⟨hF2.cell0 k3, hF2.cell0 k9⟩)
    have hNow := HCC.out _ (Fr.refl _ _)
    have HFr := hid (Fr.refl [] w1.drew)
    have h0 := nf_le 4 (by omega)
    have h1 := HS.out.2.2.2.1
    have h2 := HS.out.2.2.2.2.2.2.2.1
    have c0 : ¬ 9223372036854775807 < (nf badge).size + (nf texts.length).size := by omega
    have c1 : ¬ 9223372036854775807 < (nf 4).size + (nf badge ++ nf texts.length).size := by simp only [ByteArray.size_append]; omega
    have c2 : ¬ 9223372036854775807 < (nf 4).size + ((nf badge).size + (nf texts.length).size) := by omega
    have hps : (nf 4 ++ (nf badge ++ nf texts.length)).size ≤ 30 := by simp only [ByteArray.size_append]; omega
    have hps := hid hps
    clear h0 h1 h2 hF hb1
    go_wp2_with fail
    go_region_held3 (fun wx : World => wx.cell? ⟨w.heap.size, 3, none⟩ = some (.int .i64 badge) ∧ wx.cell? ⟨w.heap.size, 9, none⟩ = some (.slice ta texts.length tc)) ((first | exact hNow))
      (first
      | (go_at_call 31; refine (rnum8_walk _ _ (by first | exact HB.out.2.1 | exact HB.out.2.2.1 | exact HB.out.2.2.2.1 | exact HB.out.2.2.2.2.1 | exact HB.out.2.2.2.2.2.1 | exact HB.out.2.2.2.2.2.2.1 | exact HB.out.2.2.2.2.2.2.2.2)).mono ?_; rintro e w2 ⟨rfl, hF⟩; have HFr := hid (HFr.out.trans hF); have hNow := HCC.out _ HFr.out)
      | (go_at_call 50; refine (rtext_walk _ prog (by have := HF.out.prog; simp only at this; omega)).mono ?_; rintro e w2 ⟨rfl, hF⟩; have HFr := hid (HFr.out.trans hF); have hNow := HCC.out _ HFr.out)
      | (go_at_call 51; refine (rbits_walk _ bits HB.out.2.2.2.2.2.2.2.1).mono ?_; rintro e w2 ⟨rfl, hF⟩; have HFr := hid (HFr.out.trans hF); have hNow := HCC.out _ HFr.out))
    go_wp2_with fail
    have HFw := hid (HFr.out)
    obtain ⟨pre, hpre⟩ : ∃ pre, nf 4 ++ (nf badge ++ nf texts.length) = pre := ⟨_, rfl⟩
    rw [hpre] at hps
    have HPR := hid hpre
    go_loopw [3, 4] (fun sv iv wr => ∃ (j : Nat) (s : ByteArray), j ≤ texts.length ∧ sv = .string s ∧ iv = .int .i64 j ∧ s.size ≤ 30 + j * 42 ∧ bl s = bl pre ++ (texts.take j).flatMap (fun s => bl (tf s)) ∧ Fr [] w1.drew wr) (fun _ iv _ => texts.length - (intOf iv).toNat)
    case atStart => exact ⟨0, pre, Nat.zero_le _, by rw [← hpre], rfl, hps.out, by simp, HFr.out⟩
    case round =>
      obtain ⟨j, s, hj, rfl, rfl, hs, hbs, hFw⟩ := hrel
      have m9 := (HCC.out _ hFw).2
      have HX := hid (And.intro hs (And.intro hbs hFw))
      clear hs hbs hFw k0 k3 k9 hNow hpre
      have htm := HB.out.2.2.2.2.2.2.2.2
      by_cases hjl : j < texts.length
      · obtain ⟨bb, ob, rfl⟩ := HT.out.sm (by omega)
        have c0 := str_cells (HT.out.fr0 (HF1.out.drew.trans HX.out.2.2)) j hjl
        have hxj : texts[j]? = some (sL.nth texts j) := sL.nth_get hjl
        generalize sL.nth texts j = x at c0 hxj
        have hx32 : x.size ≤ 32 := HF.out.each x (List.mem_of_getElem? hxj)
        have htx : (tf x).size ≤ 42 := by have := nf_le x.size (by omega); unfold tf; rw [ByteArray.size_append]; omega
        have ht8 : texts.length ≤ 8 := HF.out.texts
        have hcat : ¬ 9223372036854775807 < s.size + (tf x).size := by have := HX.out.1; omega
        have HXJ := hid (And.intro hxj (And.intro hx32 htx))
        clear hxj hx32 htx ht8
        go_wp2_with (go_at_call 50; refine (rtext_walk _ x (by have := HXJ.out.2.1; omega)).mono ?_; rintro e w2 ⟨rfl, hF⟩; have hF3 := hid (HX.out.2.2.trans hF))
        go_roundw
        case rel =>
          refine ⟨j + 1, s ++ tf x, by omega, rfl, by go_num, ?_, ?_, hF3.out⟩
          · have h1 := HX.out.1; have h2 := HXJ.out.2.2; rw [ByteArray.size_append]; omega
          · rw [bl_app, HX.out.2.1, flat_snoc' (fun s => bl (tf s)) HXJ.out.1]
        case measure => simp [intOf]; omega
      · obtain rfl : j = texts.length := by omega
        go_wp2_with fail
        go_ret
        refine ⟨?_, HF1.out.drew.trans HX.out.2.2⟩
        have e1 : CV.put ⟨4, n, job, badge, slot, life, code, bits, prog, texts⟩ = bl s := by
          rw [HX.out.2.1, List.take_length, ← HPR.out, bl_app, bl_app]
          simp [CV.put, CV.putL, show (hasS 4).data.toList = [98, 116] from by decide, bl]
        rw [e1, mk_bl]; rfl
  ·
    go_enter Try.func32, Try.ntmps32
    go_wp2_with fail
    rw [HW.out.2.2]
    refine (rnum8_walk _ 5 (by omega)).mono ?_
    rintro e w1 ⟨rfl, hF⟩
    have HF1 := hid (HW.out.1.trans hF)
    have hb1 := hF.keep HW.out.2.1 (by simp)
    have k0 : w1.cell? ⟨w.heap.size, 0, none⟩ = some (.int .i64 5) := cell_blk (i := 0) hb1 rfl
    have k3 : w1.cell? ⟨w.heap.size, 3, none⟩ = some (.int .i64 badge) := cell_blk (i := 3) hb1 rfl
    clear hF hb1
    have hcat : ¬ 9223372036854775807 < (nf 5).size + (nf badge).size := by have h0 := nf_le 5 (by omega); have h1 := HS.out.2.2.2.1; omega
    go_wp2_with fail
    refine (rnum8_walk _ badge (by first | exact HB.out.2.1 | exact HB.out.2.2.1 | exact HB.out.2.2.2.1 | exact HB.out.2.2.2.2.1 | exact HB.out.2.2.2.2.2.1 | exact HB.out.2.2.2.2.2.2.1 | exact HB.out.2.2.2.2.2.2.2.2)).mono ?_
    rintro e w2 ⟨rfl, hF⟩
    have HF2 := hid (HF1.out.trans hF)
    go_wp2_with fail
    go_ret
    refine ⟨?_, HF2.out⟩
    have e1 : CV.put ⟨5, n, job, badge, slot, life, code, bits, prog, texts⟩ = bl (nf 5 ++ nf badge) := by
      simp [CV.put, CV.putL, show (hasS 5).data.toList = [98] from by decide, bl]
    rw [e1, mk_bl]; rfl
  ·
    go_enter Try.func32, Try.ntmps32
    go_wp2_with fail
    rw [HW.out.2.2]
    refine (rnum8_walk _ 6 (by omega)).mono ?_
    rintro e w1 ⟨rfl, hF⟩
    have HF1 := hid (HW.out.1.trans hF)
    have hb1 := hF.keep HW.out.2.1 (by simp)
    have k0 : w1.cell? ⟨w.heap.size, 0, none⟩ = some (.int .i64 6) := cell_blk (i := 0) hb1 rfl
    have k3 : w1.cell? ⟨w.heap.size, 3, none⟩ = some (.int .i64 badge) := cell_blk (i := 3) hb1 rfl
    have k6 : w1.cell? ⟨w.heap.size, 6, none⟩ = some (.int .i64 code) := cell_blk (i := 6) hb1 rfl
    have k7 : w1.cell? ⟨w.heap.size, 7, none⟩ = some (.int .u64 bits) := cell_blk (i := 7) hb1 rfl
    have HCC := hid (show ∀ w2, Fr [] w1.drew w2 → (fun wx : World => wx.cell? ⟨w.heap.size, 3, none⟩ = some (.int .i64 badge) ∧ wx.cell? ⟨w.heap.size, 6, none⟩ = some (.int .i64 code) ∧ wx.cell? ⟨w.heap.size, 7, none⟩ = some (.int .u64 bits)) w2 from fun w2 hF2 => ⟨hF2.cell0 k3, hF2.cell0 k6, hF2.cell0 k7⟩)
    have hNow := HCC.out _ (Fr.refl _ _)
    have HFr := hid (Fr.refl [] w1.drew)
    have h0 := nf_le 6 (by omega)
    have h1 := HS.out.2.2.2.1
    have h2 := HS.out.2.2.2.2.2.2.1
    have h3 := HS.out.2.2.2.2.2.2.2.2.2
    have c0 : ¬ 9223372036854775807 < (nf 6).size + (nf badge).size := by (try simp only [ByteArray.size_append]); omega
    have d0 : ¬ 9223372036854775807 < (nf 6).size + (nf badge).size := by omega
    have c1 : ¬ 9223372036854775807 < (nf 6 ++ nf badge).size + (nf code).size := by (try simp only [ByteArray.size_append]); omega
    have d1 : ¬ 9223372036854775807 < (nf 6).size + (nf badge).size + (nf code).size := by omega
    have c2 : ¬ 9223372036854775807 < (nf 6 ++ nf badge ++ nf code).size + (bf bits).size := by (try simp only [ByteArray.size_append]); omega
    have d2 : ¬ 9223372036854775807 < (nf 6).size + (nf badge).size + (nf code).size + (bf bits).size := by omega
    clear h0 h1 h2 h3 hF hb1
    go_wp2_with fail
    go_region_held3 (fun wx : World => wx.cell? ⟨w.heap.size, 3, none⟩ = some (.int .i64 badge) ∧ wx.cell? ⟨w.heap.size, 6, none⟩ = some (.int .i64 code) ∧ wx.cell? ⟨w.heap.size, 7, none⟩ = some (.int .u64 bits)) ((first | exact hNow))
      (first
      | (go_at_call 31; refine (rnum8_walk _ _ (by first | exact HB.out.2.1 | exact HB.out.2.2.1 | exact HB.out.2.2.2.1 | exact HB.out.2.2.2.2.1 | exact HB.out.2.2.2.2.2.1 | exact HB.out.2.2.2.2.2.2.1 | exact HB.out.2.2.2.2.2.2.2.2)).mono ?_; rintro e w2 ⟨rfl, hF⟩; have HFr := hid (HFr.out.trans hF); have hNow := HCC.out _ HFr.out)
      | (go_at_call 50; refine (rtext_walk _ prog (by have := HF.out.prog; simp only at this; omega)).mono ?_; rintro e w2 ⟨rfl, hF⟩; have HFr := hid (HFr.out.trans hF); have hNow := HCC.out _ HFr.out)
      | (go_at_call 51; refine (rbits_walk _ bits HB.out.2.2.2.2.2.2.2.1).mono ?_; rintro e w2 ⟨rfl, hF⟩; have HFr := hid (HFr.out.trans hF); have hNow := HCC.out _ HFr.out))
    go_wp2_with fail
    go_ret
    refine ⟨?_, HF1.out.drew.trans HFr.out⟩
    have e1 : CV.put ⟨6, n, job, badge, slot, life, code, bits, prog, texts⟩ = bl (nf 6 ++ nf badge ++ nf code ++ bf bits) := by
      simp [CV.put, CV.putL, show (hasS 6).data.toList = [98, 114] from by decide, bl]
    rw [e1, mk_bl]; rfl

end Go.Proofs.Ytdobbmlaokolmaa
