/-
  Queue: Load's walk. NOT WHOLE YET: sorrys.
-/
import Derived.Test.YthdcpenhfccagaaQLoad
namespace Go.Proofs.Ythdcpenhfccagaa
open Go.RowKit
set_option linter.unusedVariables false
set_option linter.unusedSimpArgs false

set_option maxHeartbeats 3200000 in
set_option maxRecDepth 100000 in
theorem qload_any (w : World) (n : Int) (hn1 : 1 ≤ n) (hn8 : n ≤ 8) (a : Option Addr) (m cap : Nat) (l : List QR) (hm : l.length = m) (ha : In w 8 a m cap (qL.at_ l)) :
    Calls Try.prog 23 #[.int .i64 n, .slice a m cap] w fun e w' => (⟨n, l⟩ : QS).wf ∧ (∃ Q, e = .returned (.tuple #[.pointer (some ⟨Q, 0, none⟩), .int .i64 0]) ∧ St (.of w) w' [QkT Q ⟨n, l⟩]) ∨ ¬ (⟨n, l⟩ : QS).wf ∧ e = .returned (.tuple #[.pointer none, .int .i64 114]) ∧ Fr [] w w' := by
  subst hm
  have hmx := ha.max
  have H := St.refl w
  by_cases hl : 8 < l.length
  · have HW := hid (show ¬ (⟨n, l⟩ : QS).wf from fun h => by have h1 : l.length ≤ 8 := h.n; omega)
    clear ha
    go_enter Try.func23, Try.ntmps23
    go_wp2_with fail
    refine (st_qnew H n hn1 hn8).mono ?_
    clear H
    rintro e w101 ⟨Q, rfl, H⟩
    try simp only [List.nil_append, List.cons_append, List.set_cons_zero, List.set_cons_succ] at H
    go_wp2_with fail
    exact bodyPost_ret (v := .tuple #[.pointer none, .int .i64 114]) (by simp [results, Try.results23, go_sem]) rfl (.inr ⟨HW.out, rfl, H.fr⟩)
  have hl8 : l.length ≤ 8 := by omega
  have HA := hid ha
  clear ha hl
  go_enter Try.func23, Try.ntmps23
  go_wp2_with fail
  refine (st_qnew H n hn1 hn8).mono ?_
  clear H
  rintro e w102 ⟨Q, rfl, H⟩
  try simp only [List.nil_append, List.cons_append, List.set_cons_zero, List.set_cons_succ] at H
  go_wp2_with fail
  have HH := hid H
  clear H
  go_loopw [25] (fun i wr => ∃ k : Nat, k ≤ l.length ∧ i = .int .i64 k ∧ St (.of w) wr [QkT Q ⟨n, l.take k⟩] ∧ (⟨n, l.take k⟩ : QS).wf) (fun i _ => l.length - (intOf i).toNat)
  case atStart => exact ⟨0, Nat.zero_le _, rfl, by simpa using HH.out, by simpa using qnew_wf hn1 hn8⟩
  case round =>
    clear HH
    obtain ⟨k, hk, rfl, H, hw⟩ := hrel
    have HW := hid hw
    clear hw
    by_cases hkl : k < l.length
    · obtain ⟨ba, oa, rfl⟩ := HA.out.sm (by omega)
      obtain ⟨y0, y1, y2, y3, y4, y5, y6, y7⟩ := qrow_cells (HA.out.fr0 H.fr) k hkl
      have hbl := World.block_lt_of_cell? _ _ y0
      simp only at hbl
      have hlt : (⟨n, l.take k⟩ : QS).rows.length = k := by show (l.take k).length = k; simp; omega
      have hsn := wf_snoc HW.out (by omega) (qL.nth l k)
      have htk : l.take k ++ [qL.nth l k] = l.take (k + 1) := by rw [List.take_add_one, qL.nth_get hkl]; rfl
      simp only [hlt] at hsn
      have HS := hid hsn
      have HT := hid htk
      have HN := hid (qL.nth_get hkl)
      clear hsn htk
      generalize qL.nth l k = x at y0 y1 y2 y3 y4 y5 y6 y7 HS HT HN
      obtain ⟨f, z, hf⟩ : ∃ f z, (⟨n, l.take k⟩ : QS).find x.ba = (f, z) := ⟨_, _, rfl⟩
      have HF := hid hf
      clear hf
      go_wp2_with fail
      refine (st_findIs (H.alloc (.cells #[.int .i64 x.job, .int .i64 x.st, .int .i64 x.at_, .int .i64 x.ba, .int .i64 x.node, .int .i64 x.life, .int .i64 x.code, .int .u64 x.bits] 37)) 0 rfl HW.out.n HF.out).mono ?_
      clear H y0 y1 y2 y3 y4 y5 y6 y7
      rintro e w8 ⟨rfl, H⟩
      try simp only [List.nil_append, List.cons_append, List.set_cons_zero, List.set_cons_succ] at H
      have hnw : ¬ (z = false ∧ x.may n (k + 1) = true) → ¬ (⟨n, l⟩ : QS).wf := fun h hw => h (by
        have h1 := wf_take hw (k + 1)
        rw [← HT.out] at h1
        have h2 := HS.out.1 h1
        rw [HF.out] at h2
        exact h2)
      have HNW := hid hnw
      clear hnw
      cases z
      case true =>
        have HF2 := hid H.fr
        clear H
        go_wp2_with fail
        exact bodyPost_ret (v := .tuple #[.pointer none, .int .i64 114]) (by simp [results, Try.results23, go_sem]) rfl (.inr ⟨HNW.out (fun h => by cases h.1), rfl, HF2.out.alloc _⟩)
      case false =>
        have kb := H.blk 1 rfl
        have k0 := cell_blk (i := 0) kb rfl
        have k1 := cell_blk (i := 1) kb rfl
        have k2 := cell_blk (i := 2) kb rfl
        have k3 := cell_blk (i := 3) kb rfl
        have k4 := cell_blk (i := 4) kb rfl
        have k5 := cell_blk (i := 5) kb rfl
        have k6 := cell_blk (i := 6) kb rfl
        have k7 := cell_blk (i := 7) kb rfl
        have hkl2 := lt_of_block kb
        have hQ := H.qk 0 rfl
        have hHH := hid H
        obtain ⟨qa, qc, hq1, _, _⟩ := hQ
        have q0 := cell_blk (i := 0) hq1 rfl
        have hMay := fun (wx : World) (hx : wx.cell? ⟨Q, 0, none⟩ = some (.int .i64 n)) => may_any wx Q n hx x.job x.st x.at_ x.ba x.node x.life x.code x.bits (k + 1)
        have HMay := hid (And.intro hMay q0)
        clear hMay kb hq1 q0
        go_wp2_with fail
        refine (HMay.out.1 _ (((Fr.refl _ _).alloc _).cell0 HMay.out.2)).mono ?_
        rintro e w9 ⟨rfl, hF9⟩
        cases hz : QR.may n x (k + 1)
        case false =>
          have HF2 := hid hF9
          have HF3 := hid hHH.out.fr
          have HZ := hid hz
          clear hF9 hz H k0 k1 k2 k3 k4 k5 k6 k7
          go_wp2_with fail
          exact bodyPost_ret (v := .tuple #[.pointer none, .int .i64 114]) (by simp [results, Try.results23, go_sem]) rfl (.inr ⟨HNW.out (fun h => by have := HZ.out; rw [h.2] at this; cases this), rfl, (HF3.out.alloc _).trans HF2.out⟩)
        case true =>
          have HZT := hid hz
          clear hz k0 k1 k2 k3 k4 k5 k6 k7
          replace H := ((H.alloc_ (.cells #[.int .i64 f.job, .int .i64 f.st, .int .i64 f.at_, .int .i64 f.ba, .int .i64 f.node, .int .i64 f.life, .int .i64 f.code, .int .u64 f.bits] 37)).same hF9)
          clear hF9
          have kb := H.blk 1 rfl
          have k0 := cell_blk (i := 0) kb rfl
          have k1 := cell_blk (i := 1) kb rfl
          have k2 := cell_blk (i := 2) kb rfl
          have k3 := cell_blk (i := 3) kb rfl
          have k4 := cell_blk (i := 4) kb rfl
          have k5 := cell_blk (i := 5) kb rfl
          have k6 := cell_blk (i := 6) kb rfl
          have k7 := cell_blk (i := 7) kb rfl
          have hkl3 := lt_of_block kb
          obtain ⟨F, ⟨rv, rfl, g1, g2⟩, _, hback⟩ := H.at 0 rfl
          obtain ⟨qa2, qc2, rfl, _, _, _⟩ := own_slice g2
          have c1 := cell_blk (i := 1) g1 rfl
          have f1 : w9.frozen? ⟨Q, 1, none⟩ = false := free_blk g1
          obtain ⟨i0, hi0, hz0, hz1, hz2⟩ := info_parts info_qrow
          have HI := hid (And.intro hi0 (And.intro hz0 (And.intro hz1 hz2)))
          have hQo := ownsRow_ne g2 g1 (by decide)
          have HG := hid (And.intro g1 (And.intro g2 (And.intro hback hQo)))
          have hQl := lt_of_block g1
          clear g1 g2 hback H hi0 hz0 hz1 hz2 hQo kb
          simp only [hlt] at c1 HG
          go_wp2_with fail
          go_region_law (refine step_append_blk rfl (.tmp 50) (.tmp 52) 42 rfl 37 i0 (.agg #[.int .i64 0, .int .i64 0, .int .i64 0, .int .i64 0, .int .i64 0, .int .i64 0, .int .i64 0, .int .u64 0]) 8 64 Try.underlying42 HI.out.1 HI.out.2.1 HI.out.2.2.1 HI.out.2.2.2 rfl (by decide) (.slice qa2 k qc2) k _ rfl (ownsRow_keep (S := []) HG.out.2.1 (((Fr.refl [] w9).drew).alloc _) (by simp)) ⟨w9.heap.size, 0, none⟩ 1 1 (QR.f x) rfl rfl (news_alloc w9.drew (QR.f x) _) (qL.one x) (by unfold maxLen; omega) (by omega) ?_; intro v w10 ho hF hb hn; obtain ⟨g, c', rfl, _⟩ := ownsRow_shape ho (by omega); have hX := hF.keep (blk_alloc_lt (.cells #[.int .i64 x.job, .int .i64 x.st, .int .i64 x.at_, .int .i64 x.ba, .int .i64 x.node, .int .i64 x.life, .int .i64 x.code, .int .u64 x.bits] 37) (w := w9.drew) HG.out.1) HG.out.2.2.2; have e1 := cell_blk (i := 1) hX rfl; have j1 := free_blk (i := 1) hX; have HZZ := hid (And.intro hX (And.intro ho (And.intro hF hb))); have hl10 := lt_of_block hX; clear hX ho hF hb hn)
          all_goals go_wp2_with fail
          all_goals
            obtain ⟨z1, z2, z3, z4⟩ := HZZ.out
            obtain ⟨y1, y2, hback, y4⟩ := HG.out
            have hFw : Fr (Q :: (Value.slice qa2 k qc2).ownBlock.toList) w9 w10 := (((Fr.refl _ w9).drew).alloc (.cells #[.int .i64 x.job, .int .i64 x.st, .int .i64 x.at_, .int .i64 x.ba, .int .i64 x.node, .int .i64 x.life, .int .i64 x.code, .int .u64 x.bits] 37)).step z3 (fun x hx => .inl (List.mem_cons_of_mem _ hx))
            have hbb : ∀ x, x ∈ (Value.slice (some ⟨g, 0, none⟩) (k + 1) c').ownBlock.toList → x ∈ (Value.slice qa2 k qc2).ownBlock.toList ∨ w9.heap.size ≤ x := fun x hx => by
              rcases z4 x (by simpa using hx) with h | h
              · exact .inl (by simpa using h)
              · right
                have hsz : w9.drew.heap.size = w9.heap.size := rfl
                first | omega | (simp at h; omega)
            have hgQ : g ≠ Q := fun h => by
              rcases hbb g (by simp [Value.ownBlock]) with h1 | h1
              · rw [h] at h1; exact y4 h1
              · omega
            have hlen : (l.take (k + 1)).length = k + 1 := by simp; omega
            have hcs : qL.cells (l.take k) ++ QR.f x = qL.cells (l.take (k + 1)) := by rw [← HT.out]; exact qL.snoc _ _
            have hfin := hback (w10.setCell ⟨Q, 1, none⟩ (.slice (some ⟨g, 0, none⟩) (k + 1) c')) (Q :: (Value.slice (some ⟨g, 0, none⟩) (k + 1) c').ownBlock.toList) (Qk1 Q ⟨n, l.take (k + 1)⟩) inferInstance ⟨.slice (some ⟨g, 0, none⟩) (k + 1) c', rfl, by rw [blk_setCell_at _ z1]; simp, by
              show World.ownsRow _ 0 _ 8 _ (l.take (k + 1)).length (qL.cells (l.take (k + 1)))
              rw [hlen, ← hcs]
              exact ownsRow_keep (S := [Q]) z2 ((Fr.refl _ _).setCell (.inl (by simp)) _) (fun x hx => by simp [Value.ownBlock] at hx; subst hx; simpa using hgQ)⟩ (hFw.setCell (.inl (by simp)) _) (fun x hx => by
                simp only [List.mem_cons] at hx ⊢
                rcases hx with rfl | hx
                · exact .inl (.inl rfl)
                · exact (hbb x hx).imp .inr id)
            have hw2 : (⟨n, l.take (k + 1)⟩ : QS).wf := by rw [← HT.out]; exact HS.out.2 ⟨by rw [HF.out], HZT.out⟩
            exact ⟨⟨k + 1, by omega, by go_num, hfin.take 1, hw2⟩, by simp [intOf]; omega⟩
    · obtain rfl : k = l.length := by omega
      have hw := HW.out
      rw [List.take_length] at H hw
      have HW2 := hid hw
      clear hw
      go_wp2_with fail
      exact bodyPost_ret (v := .tuple #[.pointer (some ⟨Q, 0, none⟩), .int .i64 0]) (by simp [results, Try.results23, go_sem]) rfl (.inl ⟨HW2.out, Q, rfl, H⟩)

end Go.Proofs.Ythdcpenhfccagaa
