/-
  'answers' of layer 11, walked.
-/
import Derived.Test.YthdcpenhfccagaaQAns
namespace Go.Proofs.Ythdcpenhfccagaa
open Go.RowKit
set_option linter.unusedVariables false
set_option linter.unusedSimpArgs false

set_option maxHeartbeats 6400000 in
set_option maxRecDepth 100000 in
theorem answers11 {V : Base} {w : World} {Q X : Nat} {q : QS} (H : St V w [QkT Q q, XqT X q]) (hw : q.wf) (o : Op11) :
    Calls Try.prog 43 #[.agg #[.pointer (some ⟨Q, 0, none⟩), .pointer (some ⟨X, 0, none⟩)], .agg #[.int .i64 o.on, .int .i64 o.kind, .int .i64 o.job, .int .i64 o.badge, .int .i64 o.node, .int .i64 o.life, .int .i64 o.code, .int .u64 o.bits]] w
      fun e w' => e = .returned (.bool true) ∧ AlikeQ V w' Q X := by
  have HC := hid (changes11 ((H.alloc_ (.cells #[.pointer (some ⟨Q, 0, none⟩), .pointer (some ⟨X, 0, none⟩)] 63)).alloc_ (.cells #[.int .i64 o.on, .int .i64 o.kind, .int .i64 o.job, .int .i64 o.badge, .int .i64 o.node, .int .i64 o.life, .int .i64 o.code, .int .u64 o.bits] 48)) hw o)
  have H0 : St V ((w.alloc (.cells #[.pointer (some ⟨Q, 0, none⟩), .pointer (some ⟨X, 0, none⟩)] 63)).alloc (.cells #[.int .i64 o.on, .int .i64 o.kind, .int .i64 o.job, .int .i64 o.badge, .int .i64 o.node, .int .i64 o.life, .int .i64 o.code, .int .u64 o.bits] 48)) [QkT Q q, XqT X q, BlkT w.heap.size (.cells #[.pointer (some ⟨Q, 0, none⟩), .pointer (some ⟨X, 0, none⟩)] 63), BlkT (w.heap.size + 1) (.cells #[.int .i64 o.on, .int .i64 o.kind, .int .i64 o.job, .int .i64 o.badge, .int .i64 o.node, .int .i64 o.life, .int .i64 o.code, .int .u64 o.bits] 48)] := (H.allocAt _ w.heap.size rfl).allocAt _ (w.heap.size + 1) (by simp)
  clear H
  have hk : ∀ (wx : World) (R : List Thing), St V wx (QkT Q q :: XqT X q :: BlkT w.heap.size (.cells #[.pointer (some ⟨Q, 0, none⟩), .pointer (some ⟨X, 0, none⟩)] 63) :: BlkT (w.heap.size + 1) (.cells #[.int .i64 o.on, .int .i64 o.kind, .int .i64 o.job, .int .i64 o.badge, .int .i64 o.node, .int .i64 o.life, .int .i64 o.code, .int .u64 o.bits] 48) :: R) → wx.cell? ⟨w.heap.size, 0, none⟩ = some (.pointer (some ⟨Q, 0, none⟩)) ∧ wx.cell? ⟨w.heap.size, 1, none⟩ = some (.pointer (some ⟨X, 0, none⟩)) ∧ wx.cell? ⟨w.heap.size + 1, 1, none⟩ = some (.int .i64 o.kind) ∧ wx.cell? ⟨w.heap.size + 1, 2, none⟩ = some (.int .i64 o.job) ∧ wx.cell? ⟨w.heap.size + 1, 3, none⟩ = some (.int .i64 o.badge) := fun wx R h =>
    ⟨cell_blk (h.blk 2 rfl) rfl, cell_blk (h.blk 2 rfl) rfl, cell_blk (h.blk 3 rfl) rfl, cell_blk (h.blk 3 rfl) rfl, cell_blk (h.blk 3 rfl) rfl⟩
  have HK := hid hk
  have HE := hid (fun (wx : World) (R : List Thing) (h : St V wx (QkT Q q :: XqT X q :: BlkT w.heap.size (.cells #[.pointer (some ⟨Q, 0, none⟩), .pointer (some ⟨X, 0, none⟩)] 63) :: BlkT (w.heap.size + 1) (.cells #[.int .i64 o.on, .int .i64 o.kind, .int .i64 o.job, .int .i64 o.badge, .int .i64 o.node, .int .i64 o.life, .int .i64 o.code, .int .u64 o.bits] 48) :: R)) => (⟨q, h.take 2, hw⟩ : AlikeQ V wx Q X))
  have HW := hid hw
  clear hk hw
  by_cases h1 : o.kind = 1
  · have e1 : (o.kind == 1) = true := by rw [beq_iff_eq]; exact h1
    have HD := H0.drew
    clear h1 HC
    go_enter Try.func43, Try.ntmps43
    go_wp2_with fail
    go_region_held3 (fun wx => wx.cell? ⟨w.heap.size, 0, none⟩ = some (.pointer (some ⟨Q, 0, none⟩)) ∧ wx.cell? ⟨w.heap.size, 1, none⟩ = some (.pointer (some ⟨X, 0, none⟩)) ∧ wx.cell? ⟨w.heap.size + 1, 1, none⟩ = some (.int .i64 o.kind) ∧ wx.cell? ⟨w.heap.size + 1, 2, none⟩ = some (.int .i64 o.job) ∧ wx.cell? ⟨w.heap.size + 1, 3, none⟩ = some (.int .i64 o.badge)) ((first | exact hNow | exact HK.out _ _ H0.drew))
      (first
        | (go_at_call 15; refine (st_headT HD 0 rfl HW.out.n).mono ?_; clear HD; rintro e w2 ⟨rfl, HD⟩; have hNow := HK.out _ _ HD)
        | (go_at_call 45; refine (st_xhead HD 1 rfl HW.out.n).mono ?_; clear HD; rintro e w3 ⟨rfl, HD⟩; have hNow := HK.out _ _ HD))
    go_wp2_with fail
    go_ret
    exact ⟨rfl, HE.out _ _ HD⟩
  have e1 : (o.kind == 1) = false := by rw [beq_eq_false_iff_ne]; exact h1
  by_cases h5 : o.kind = 5
  · have e5 : (o.kind == 5) = true := by rw [beq_iff_eq]; exact h5
    obtain ⟨x, z, hz⟩ : ∃ x z, q.row o.job = (x, z) := ⟨_, _, rfl⟩
    have HZ := hid hz
    clear h5 hz
    clear h1 HC
    go_enter Try.func43, Try.ntmps43
    go_wp2_with fail
    refine (st_rowIs H0 0 rfl HW.out.n HZ.out).mono ?_
    rintro e w1 ⟨rfl, H⟩
    have H1 : St V (w1.alloc (.cells #[.int .i64 x.job, .int .i64 x.st, .int .i64 x.at_, .int .i64 x.ba, .int .i64 x.node, .int .i64 x.life, .int .i64 x.code, .int .u64 x.bits] 37)) [QkT Q q, XqT X q, BlkT w.heap.size (.cells #[.pointer (some ⟨Q, 0, none⟩), .pointer (some ⟨X, 0, none⟩)] 63), BlkT (w.heap.size + 1) (.cells #[.int .i64 o.on, .int .i64 o.kind, .int .i64 o.job, .int .i64 o.badge, .int .i64 o.node, .int .i64 o.life, .int .i64 o.code, .int .u64 o.bits] 48), BlkT w1.heap.size (.cells #[.int .i64 x.job, .int .i64 x.st, .int .i64 x.at_, .int .i64 x.ba, .int .i64 x.node, .int .i64 x.life, .int .i64 x.code, .int .u64 x.bits] 37)] := H.alloc _
    obtain ⟨k0, k1, k2, k3, k4⟩ := HK.out _ _ H
    have hl0 := lt_of_block (H.blk 2 rfl)
    have hl1 := lt_of_block (H.blk 3 rfl)
    clear H0 H
    go_wp2_with fail
    refine (st_xrow H1 1 rfl HW.out.n HZ.out).mono ?_
    clear k0 k1 k2 k3 k4 hl0 hl1
    rintro e w2 ⟨rfl, H⟩
    have kb := H.blk 4 rfl
    have x0 := cell_blk (i := 0) kb rfl
    have x1 := cell_blk (i := 1) kb rfl
    have x2 := cell_blk (i := 2) kb rfl
    have x3 := cell_blk (i := 3) kb rfl
    have x4 := cell_blk (i := 4) kb rfl
    have x5 := cell_blk (i := 5) kb rfl
    have x6 := cell_blk (i := 6) kb rfl
    have x7 := cell_blk (i := 7) kb rfl
    have hkl := lt_of_block kb
    have hxy : ((⟨x.job, x.st, x.at_, x.ba, x.node, x.life, x.code, x.bits⟩ : QR) == ⟨x.job, x.st, x.at_, x.ba, x.node, x.life, x.code, x.bits⟩) = true := (qr_eq _ _).2 rfl
    have hxx : (x == x) = true := (qr_eq _ _).2 rfl
    have HF := hid (HE.out _ _ (H.alloc_ (.cells #[.int .i64 x.job, .int .i64 x.st, .int .i64 x.at_, .int .i64 x.ba, .int .i64 x.node, .int .i64 x.life, .int .i64 x.code, .int .u64 x.bits] 37)))
    clear kb H H1
    go_wp2_with fail
    go_ret
    exact ⟨by simp, HF.out⟩
  have e5 : (o.kind == 5) = false := by rw [beq_eq_false_iff_ne]; exact h5
  by_cases h6 : o.kind = 6
  · have e6 : (o.kind == 6) = true := by rw [beq_iff_eq]; exact h6
    obtain ⟨x, z, hz⟩ : ∃ x z, q.find o.badge = (x, z) := ⟨_, _, rfl⟩
    have HZ := hid hz
    clear h5 h6 hz
    clear h1 HC
    go_enter Try.func43, Try.ntmps43
    go_wp2_with fail
    refine (st_findIs H0 0 rfl HW.out.n HZ.out).mono ?_
    rintro e w1 ⟨rfl, H⟩
    have H1 : St V (w1.alloc (.cells #[.int .i64 x.job, .int .i64 x.st, .int .i64 x.at_, .int .i64 x.ba, .int .i64 x.node, .int .i64 x.life, .int .i64 x.code, .int .u64 x.bits] 37)) [QkT Q q, XqT X q, BlkT w.heap.size (.cells #[.pointer (some ⟨Q, 0, none⟩), .pointer (some ⟨X, 0, none⟩)] 63), BlkT (w.heap.size + 1) (.cells #[.int .i64 o.on, .int .i64 o.kind, .int .i64 o.job, .int .i64 o.badge, .int .i64 o.node, .int .i64 o.life, .int .i64 o.code, .int .u64 o.bits] 48), BlkT w1.heap.size (.cells #[.int .i64 x.job, .int .i64 x.st, .int .i64 x.at_, .int .i64 x.ba, .int .i64 x.node, .int .i64 x.life, .int .i64 x.code, .int .u64 x.bits] 37)] := H.alloc _
    obtain ⟨k0, k1, k2, k3, k4⟩ := HK.out _ _ H
    have hl0 := lt_of_block (H.blk 2 rfl)
    have hl1 := lt_of_block (H.blk 3 rfl)
    clear H0 H
    go_wp2_with fail
    refine (st_xfind H1 1 rfl HW.out.n HZ.out).mono ?_
    clear k0 k1 k2 k3 k4 hl0 hl1
    rintro e w2 ⟨rfl, H⟩
    have kb := H.blk 4 rfl
    have x0 := cell_blk (i := 0) kb rfl
    have x1 := cell_blk (i := 1) kb rfl
    have x2 := cell_blk (i := 2) kb rfl
    have x3 := cell_blk (i := 3) kb rfl
    have x4 := cell_blk (i := 4) kb rfl
    have x5 := cell_blk (i := 5) kb rfl
    have x6 := cell_blk (i := 6) kb rfl
    have x7 := cell_blk (i := 7) kb rfl
    have hkl := lt_of_block kb
    have hxy : ((⟨x.job, x.st, x.at_, x.ba, x.node, x.life, x.code, x.bits⟩ : QR) == ⟨x.job, x.st, x.at_, x.ba, x.node, x.life, x.code, x.bits⟩) = true := (qr_eq _ _).2 rfl
    have hxx : (x == x) = true := (qr_eq _ _).2 rfl
    have HF := hid (HE.out _ _ (H.alloc_ (.cells #[.int .i64 x.job, .int .i64 x.st, .int .i64 x.at_, .int .i64 x.ba, .int .i64 x.node, .int .i64 x.life, .int .i64 x.code, .int .u64 x.bits] 37)))
    clear kb H H1
    go_wp2_with fail
    go_ret
    exact ⟨by simp, HF.out⟩
  have e6 : (o.kind == 6) = false := by rw [beq_eq_false_iff_ne]; exact h6
  by_cases h7 : o.kind = 7
  · have e7 : (o.kind == 7) = true := by rw [beq_iff_eq]; exact h7
    obtain ⟨a, c, hX⟩ := H0.xq 1 rfl
    have HX := hid hX
    have hwn := HW.out.n
    have HD := H0.drew
    clear h1 h5 h6 h7 HC hX
    have hS0 : (fun wx : World => wx.cell? ⟨w.heap.size, 0, none⟩ = some (.pointer (some ⟨Q, 0, none⟩)) ∧ wx.cell? ⟨w.heap.size, 1, none⟩ = some (.pointer (some ⟨X, 0, none⟩)) ∧ wx.cell? ⟨X, 1, none⟩ = some (.slice a q.rows.length c)) ((w.alloc (.cells #[.pointer (some ⟨Q, 0, none⟩), .pointer (some ⟨X, 0, none⟩)] 63)).alloc (.cells #[.int .i64 o.on, .int .i64 o.kind, .int .i64 o.job, .int .i64 o.badge, .int .i64 o.node, .int .i64 o.life, .int .i64 o.code, .int .u64 o.bits] 48)).drew := ⟨(HK.out _ _ H0.drew).1, (HK.out _ _ H0.drew).2.1, HX.out.c1⟩
    go_enter Try.func43, Try.ntmps43
    go_wp2_with fail
    go_region_held3 (fun wx => wx.cell? ⟨w.heap.size, 0, none⟩ = some (.pointer (some ⟨Q, 0, none⟩)) ∧ wx.cell? ⟨w.heap.size, 1, none⟩ = some (.pointer (some ⟨X, 0, none⟩)) ∧ wx.cell? ⟨X, 1, none⟩ = some (.slice a q.rows.length c)) ((first | exact hNow | exact hS0))
      (first
        | (go_at_call 19; refine (st_rows H0.drew 0 rfl hwn).mono ?_; rintro e w2 ⟨a4, rfl, hF, hW, hb⟩; have hNow := And.intro (hF.cell0 hS0.1) (And.intro (hF.cell0 hS0.2.1) (hF.cell0 hS0.2.2)); have HI := hid (And.intro (hW.toIn (Nat.le_refl _) (by unfold maxLen; omega)) ((HX.out.inn.fr0 ((Fr.refl _ _).drew)).fr0 hF)); have HD2 := H0.drew.same hF; clear hF hW hb)
        | (go_at_call 22; refine (qsame_self _ _ _ _ _ _ _ rfl HI.out.1 HI.out.2).mono ?_; rintro e w3 ⟨rfl, hF⟩; have hNow := And.intro (hF.cell0 hNow.1) (And.intro (hF.cell0 hNow.2.1) (hF.cell0 hNow.2.2)); have HD3 := HD2.same hF; clear hF))
    go_wp2_with fail
    go_ret
    exact ⟨rfl, HE.out _ _ HD3⟩
  have e7 : (o.kind == 7) = false := by rw [beq_eq_false_iff_ne]; exact h7
  by_cases h8 : o.kind = 8
  · have e8 : (o.kind == 8) = true := by rw [beq_iff_eq]; exact h8
    clear h1 h5 h6 h7 h8 HC
    go_enter Try.func43, Try.ntmps43
    go_wp2_with fail
    refine (st_openT H0 0 rfl HW.out).mono ?_
    rintro e w1 ⟨rfl, H⟩
    obtain ⟨k0, k1, k2, k3, k4⟩ := HK.out _ _ H
    clear H0
    go_wp2_with fail
    refine (st_xopen H 1 rfl HW.out).mono ?_
    clear H k0 k1 k2 k3 k4
    rintro e w2 ⟨rfl, H⟩
    go_wp2_with fail
    go_ret
    exact ⟨by simp, HE.out _ _ H⟩
  have e8 : (o.kind == 8) = false := by rw [beq_eq_false_iff_ne]; exact h8
  clear h1 h5 h6 h7 h8
  go_enter Try.func43, Try.ntmps43
  go_wp2_with fail
  refine HC.out.mono ?_
  rintro e w1 ⟨rfl, HF⟩
  have HF := hid HF
  go_wp2_with fail
  go_ret
  exact ⟨rfl, HF.out⟩

end Go.Proofs.Ythdcpenhfccagaa
