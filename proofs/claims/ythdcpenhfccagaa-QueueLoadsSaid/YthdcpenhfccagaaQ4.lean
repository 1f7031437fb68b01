/-
  held, Row, Find, Open, New, Submit of the package queue.
-/
import Derived.Test.YthdcpenhfccagaaQ3
namespace Go.Proofs.Ythdcpenhfccagaa
open Go.RowKit
set_option linter.unusedVariables false
set_option linter.unusedSimpArgs false

theorem held_none (w : World) (Q n c : Nat) (a : Option Addr) (l : List QR) (hln : l.length = n) (h1 : w.cell? ⟨Q, 1, none⟩ = some (.slice a n c)) (h2 : In w 8 a n c (qL.at_ l)) (b : Int) (hi : fIdx (QR.pHeld b) l = -1) :
    Calls Try.prog 37 #[.pointer (some ⟨Q, 0, none⟩), .int .i64 b] w fun e w' => e = .returned (.pointer none) ∧ Fr [] w w' := by
  have hQ : Q < w.heap.size := World.block_lt_of_cell? w ⟨Q, 1, none⟩ h1
  have hF0 := (Fr.refl [] w).alloc (.cells #[.int .i64 b] 3)
  have HF := hid (first_any (w.alloc (.cells #[.int .i64 b] 3)) a c n l hln (h2.fr0 hF0) 48 #[.pointer (some ⟨w.heap.size, 0, none⟩)] (QR.pHeld b) enter_held1 (fun x wx hx => held1_any wx x _ b (hx.cell0 (cell_blk (blk_alloc_at _ _ _ rfl) rfl))))
  rw [hi] at HF
  clear h2 hi hF0 hln
  go_enter Try.func37, Try.ntmps37
  go_wp2_with fail
  refine HF.out.mono ?_
  rintro e w1 ⟨rfl, hF⟩
  go_wp2_with fail
  go_ret
  exact ⟨rfl, ((Fr.refl _ _).alloc _).trans hF⟩

theorem held_some (w : World) (Q n c g : Nat) (l : List QR) (hln : l.length = n) (hn8 : n ≤ 8) (h1 : w.cell? ⟨Q, 1, none⟩ = some (.slice (some ⟨g, 0, none⟩) n c)) (h2 : In w 8 (some ⟨g, 0, none⟩) n c (qL.at_ l)) (b : Int) (k : Nat) (hk : k < n) (hi : fIdx (QR.pHeld b) l = k) :
    Calls Try.prog 37 #[.pointer (some ⟨Q, 0, none⟩), .int .i64 b] w fun e w' => e = .returned (.pointer (some ⟨g, k * 8, none⟩)) ∧ Fr [] w w' := by
  have hQ : Q < w.heap.size := World.block_lt_of_cell? w ⟨Q, 1, none⟩ h1
  have hF0 := (Fr.refl [] w).alloc (.cells #[.int .i64 b] 3)
  have HF := hid (first_any (w.alloc (.cells #[.int .i64 b] 3)) (some ⟨g, 0, none⟩) c n l hln (h2.fr0 hF0) 48 #[.pointer (some ⟨w.heap.size, 0, none⟩)] (QR.pHeld b) enter_held1 (fun x wx hx => held1_any wx x _ b (hx.cell0 (cell_blk (blk_alloc_at _ _ _ rfl) rfl))))
  rw [hi] at HF
  have HH := hid (hF0.cell0 h1)
  clear h2 hi hF0 hln
  go_enter Try.func37, Try.ntmps37
  go_wp2_with fail
  refine HF.out.mono ?_
  rintro e w1 ⟨rfl, hF⟩
  have c1 := hF.cell0 HH.out
  have hk0 : ¬ ((k : Int) < 0) := by omega
  go_wp2_with fail
  go_ret
  exact ⟨rfl, ((Fr.refl _ _).alloc _).trans hF⟩

section
variable {W : Base} {w : World} {R : List Thing}

def QS.row (q : QS) (j : Int) : QR × Bool := if j < 1 ∨ (q.rows.length : Int) < j then (.zero, false) else (qL.nth q.rows (j - 1).toNat, true)
def QS.find (q : QS) (b : Int) : QR × Bool := q.row (fIdx (QR.pFind b) q.rows + 1)

theorem st_row (H : St W w R) (i : Nat) {Q : Nat} {q : QS} (hi : R[i]? = some (QkT Q q)) (hl : q.rows.length ≤ 8) (j : Int) :
    Calls Try.prog 16 #[.pointer (some ⟨Q, 0, none⟩), .int .i64 j] w fun e w' => ∃ x b, q.row j = (x, b) ∧ e = .returned (.tuple #[.agg #[.int .i64 x.job, .int .i64 x.st, .int .i64 x.at_, .int .i64 x.ba, .int .i64 x.node, .int .i64 x.life, .int .i64 x.code, .int .u64 x.bits], .bool b]) ∧ Fr [] w w' := by
  obtain ⟨a, c, h1, h2, h3⟩ := H.qk i hi
  have c1 := cell_blk (i := 1) h1 rfl
  have hQ := lt_of_block h1
  by_cases hj : j < 1 ∨ (q.rows.length : Int) < j
  · have e : q.row j = (.zero, false) := by unfold QS.row; rw [if_pos hj]
    have HE := hid e
    have hin : inB j 1 q.rows.length = false := by unfold inB; simp; omega
    clear e hj h1 h2 h3 H hi
    go_enter Try.func16, Try.ntmps16
    go_wp2_with fail
    refine (in_any _ _ _ _).mono ?_
    rw [hin]
    rintro e w1 ⟨rfl, rfl⟩
    go_wp2_with fail
    refine bodyPost_ret (v := .tuple #[.agg #[.int .i64 0, .int .i64 0, .int .i64 0, .int .i64 0, .int .i64 0, .int .i64 0, .int .i64 0, .int .u64 0], .bool false]) (by simp [results, Try.results16, go_sem]) rfl ⟨.zero, false, HE.out, rfl, ?_⟩
    exact (Fr.refl _ _).alloc _
  · have hin : inB j 1 q.rows.length = true := by unfold inB; simp; omega
    obtain ⟨k, rfl⟩ : ∃ k : Nat, j = k + 1 := ⟨(j - 1).toNat, by omega⟩
    have hk : k < q.rows.length := by omega
    have e : q.row (k + 1) = (qL.nth q.rows k, true) := by
      unfold QS.row; rw [if_neg hj, show ((k : Int) + 1 - 1).toNat = k by omega]
    have HE := hid e
    obtain ⟨b, o, rfl⟩ := h2.sm (by omega)
    obtain ⟨r0, r1, r2, r3, r4, r5, r6, r7⟩ := qrow_cells h2 k hk
    generalize qL.nth q.rows k = x at r0 r1 r2 r3 r4 r5 r6 r7 HE
    have hbl : b < w.heap.size := World.block_lt_of_cell? w ⟨b, o + k * 8, none⟩ r0
    have hmx := h2.max
    clear e hj h1 h2 h3 H hi
    go_enter Try.func16, Try.ntmps16
    go_wp2_with fail
    refine (in_any _ _ _ _).mono ?_
    rw [hin]
    rintro e w1 ⟨rfl, rfl⟩
    go_wp2_with fail
    refine bodyPost_ret (v := .tuple #[.agg #[.int .i64 x.job, .int .i64 x.st, .int .i64 x.at_, .int .i64 x.ba, .int .i64 x.node, .int .i64 x.life, .int .i64 x.code, .int .u64 x.bits], .bool true]) (by simp [results, Try.results16, go_sem]) rfl ⟨x, true, HE.out, rfl, ?_⟩
    exact (Fr.refl _ _).alloc _

set_option maxHeartbeats 1600000 in
theorem st_find (H : St W w R) (i : Nat) {Q : Nat} {q : QS} (hi : R[i]? = some (QkT Q q)) (hl : q.rows.length ≤ 8) (b : Int) :
    Calls Try.prog 25 #[.pointer (some ⟨Q, 0, none⟩), .int .i64 b] w fun e w' => ∃ x z, q.find b = (x, z) ∧ e = .returned (.tuple #[.agg #[.int .i64 x.job, .int .i64 x.st, .int .i64 x.at_, .int .i64 x.ba, .int .i64 x.node, .int .i64 x.life, .int .i64 x.code, .int .u64 x.bits], .bool z]) ∧ Fr [] w w' := by
  obtain ⟨a, c, h1, h2, _⟩ := H.qk i hi
  have c1 := cell_blk (i := 1) h1 rfl
  have hQ : Q < w.heap.size := lt_of_block h1
  have hF0 := ((Fr.refl [] w).alloc (.cells #[.int .i64 b] 3)).alloc (.cells #[.int .i64 0, .int .i64 0, .int .i64 0, .int .i64 0, .int .i64 0, .int .i64 0, .int .i64 0, .int .u64 0] 37)
  have hbx : ((w.alloc (.cells #[.int .i64 b] 3)).alloc (.cells #[.int .i64 0, .int .i64 0, .int .i64 0, .int .i64 0, .int .i64 0, .int .i64 0, .int .i64 0, .int .u64 0] 37)).cell? ⟨w.heap.size, 0, none⟩ = some (.int .i64 b) := cell_blk (blk_alloc_lt _ (blk_alloc_at _ _ _ rfl)) rfl
  have hzz : ((w.alloc (.cells #[.int .i64 b] 3)).alloc (.cells #[.int .i64 0, .int .i64 0, .int .i64 0, .int .i64 0, .int .i64 0, .int .i64 0, .int .i64 0, .int .u64 0] 37)).heap[w.heap.size + 1]? = some (.cells #[.int .i64 0, .int .i64 0, .int .i64 0, .int .i64 0, .int .i64 0, .int .i64 0, .int .i64 0, .int .u64 0] 37) := blk_alloc_at _ _ _ (by simp)
  have HF := hid (first_any ((w.alloc (.cells #[.int .i64 b] 3)).alloc (.cells #[.int .i64 0, .int .i64 0, .int .i64 0, .int .i64 0, .int .i64 0, .int .i64 0, .int .i64 0, .int .u64 0] 37)) a c _ q.rows rfl (h2.fr0 hF0) 42 #[.pointer (some ⟨w.heap.size, 0, none⟩)] (QR.pFind b) enter_find1 (fun x wx hx => find1_any wx x _ b (hx.cell0 hbx)))
  have hbd := fIdx_bd (QR.pFind b) q.rows
  have HFd := hid (show q.find b = q.row (fIdx (QR.pFind b) q.rows + 1) from rfl)
  have HS := hid (H.same hF0)
  have HZ := hid (And.intro hF0 hzz)
  generalize fIdx (QR.pFind b) q.rows = z at HF hbd HFd
  obtain ⟨hb1, hb2⟩ := hbd
  clear h1 h2 H hF0 hbx hzz
  go_enter Try.func25, Try.ntmps25
  go_wp2_with fail
  refine HF.out.mono ?_
  rintro e w1 ⟨rfl, hF1⟩
  have HS1 := hid (HS.out.same hF1)
  have HZ1 := hid (And.intro (HZ.out.1.trans hF1) (hF1.keep HZ.out.2 (by simp)))
  clear hF1
  go_wp2_with fail
  refine (st_row HS1.out i hi hl _).mono ?_
  rintro e w2 ⟨x, b2, hr, rfl, hF2⟩
  have hzb := hF2.keep HZ1.out.2 (by simp)
  have z0 := cell_blk (i := 0) hzb rfl
  have z1 := cell_blk (i := 1) hzb rfl
  have z2 := cell_blk (i := 2) hzb rfl
  have z3 := cell_blk (i := 3) hzb rfl
  have z4 := cell_blk (i := 4) hzb rfl
  have z5 := cell_blk (i := 5) hzb rfl
  have z6 := cell_blk (i := 6) hzb rfl
  have z7 := cell_blk (i := 7) hzb rfl
  have f0 : w2.frozen? ⟨w.heap.size + 1, 0, none⟩ = false := free_blk hzb
  have f1 : w2.frozen? ⟨w.heap.size + 1, 1, none⟩ = false := free_blk hzb
  have f2 : w2.frozen? ⟨w.heap.size + 1, 2, none⟩ = false := free_blk hzb
  have f3 : w2.frozen? ⟨w.heap.size + 1, 3, none⟩ = false := free_blk hzb
  have f4 : w2.frozen? ⟨w.heap.size + 1, 4, none⟩ = false := free_blk hzb
  have f5 : w2.frozen? ⟨w.heap.size + 1, 5, none⟩ = false := free_blk hzb
  have f6 : w2.frozen? ⟨w.heap.size + 1, 6, none⟩ = false := free_blk hzb
  have f7 : w2.frozen? ⟨w.heap.size + 1, 7, none⟩ = false := free_blk hzb
  have HR := hid (And.intro (HFd.out.trans hr) (HZ1.out.1.trans hF2))
  have HB8 : Hid (((((((((w2.setCell ⟨w.heap.size + 1, 0, none⟩ (.int .i64 x.job)).setCell ⟨w.heap.size + 1, 1, none⟩ (.int .i64 x.st)).setCell ⟨w.heap.size + 1, 2, none⟩ (.int .i64 x.at_)).setCell ⟨w.heap.size + 1, 3, none⟩ (.int .i64 x.ba)).setCell ⟨w.heap.size + 1, 4, none⟩ (.int .i64 x.node)).setCell ⟨w.heap.size + 1, 5, none⟩ (.int .i64 x.life)).setCell ⟨w.heap.size + 1, 6, none⟩ (.int .i64 x.code)).setCell ⟨w.heap.size + 1, 7, none⟩ (.int .u64 x.bits)).heap[w.heap.size + 1]? = some (.cells #[.int .i64 x.job, .int .i64 x.st, .int .i64 x.at_, .int .i64 x.ba, .int .i64 x.node, .int .i64 x.life, .int .i64 x.code, .int .u64 x.bits] 37 (0, 0))) := hid (blk_setCell_at (i := 7) (.int .u64 x.bits) (blk_setCell_at (i := 6) (.int .i64 x.code) (blk_setCell_at (i := 5) (.int .i64 x.life) (blk_setCell_at (i := 4) (.int .i64 x.node) (blk_setCell_at (i := 3) (.int .i64 x.ba) (blk_setCell_at (i := 2) (.int .i64 x.at_) (blk_setCell_at (i := 1) (.int .i64 x.st) (blk_setCell_at (i := 0) (.int .i64 x.job) hzb))))))))
  have HF8 : Hid (Fr [] w ((((((((w2.setCell ⟨w.heap.size + 1, 0, none⟩ (.int .i64 x.job)).setCell ⟨w.heap.size + 1, 1, none⟩ (.int .i64 x.st)).setCell ⟨w.heap.size + 1, 2, none⟩ (.int .i64 x.at_)).setCell ⟨w.heap.size + 1, 3, none⟩ (.int .i64 x.ba)).setCell ⟨w.heap.size + 1, 4, none⟩ (.int .i64 x.node)).setCell ⟨w.heap.size + 1, 5, none⟩ (.int .i64 x.life)).setCell ⟨w.heap.size + 1, 6, none⟩ (.int .i64 x.code)).setCell ⟨w.heap.size + 1, 7, none⟩ (.int .u64 x.bits))) := hid (Fr.setCell (p := ⟨w.heap.size + 1, 7, none⟩) (Fr.setCell (p := ⟨w.heap.size + 1, 6, none⟩) (Fr.setCell (p := ⟨w.heap.size + 1, 5, none⟩) (Fr.setCell (p := ⟨w.heap.size + 1, 4, none⟩) (Fr.setCell (p := ⟨w.heap.size + 1, 3, none⟩) (Fr.setCell (p := ⟨w.heap.size + 1, 2, none⟩) (Fr.setCell (p := ⟨w.heap.size + 1, 1, none⟩) (Fr.setCell (p := ⟨w.heap.size + 1, 0, none⟩) HR.out.2 (.inr (Nat.le_succ _)) (.int .i64 x.job)) (.inr (Nat.le_succ _)) (.int .i64 x.st)) (.inr (Nat.le_succ _)) (.int .i64 x.at_)) (.inr (Nat.le_succ _)) (.int .i64 x.ba)) (.inr (Nat.le_succ _)) (.int .i64 x.node)) (.inr (Nat.le_succ _)) (.int .i64 x.life)) (.inr (Nat.le_succ _)) (.int .i64 x.code)) (.inr (Nat.le_succ _)) (.int .u64 x.bits))
  clear hr hF2 hzb
  go_wp2_with fail
  generalize ((((((((w2.setCell ⟨w.heap.size + 1, 0, none⟩ (.int .i64 x.job)).setCell ⟨w.heap.size + 1, 1, none⟩ (.int .i64 x.st)).setCell ⟨w.heap.size + 1, 2, none⟩ (.int .i64 x.at_)).setCell ⟨w.heap.size + 1, 3, none⟩ (.int .i64 x.ba)).setCell ⟨w.heap.size + 1, 4, none⟩ (.int .i64 x.node)).setCell ⟨w.heap.size + 1, 5, none⟩ (.int .i64 x.life)).setCell ⟨w.heap.size + 1, 6, none⟩ (.int .i64 x.code)).setCell ⟨w.heap.size + 1, 7, none⟩ (.int .u64 x.bits)) = w8 at HB8 HF8 ⊢
  clear z0 z1 z2 z3 z4 z5 z6 z7 f0 f1 f2 f3 f4 f5 f6 f7
  have z0 := cell_blk (i := 0) HB8.out rfl
  have z1 := cell_blk (i := 1) HB8.out rfl
  have z2 := cell_blk (i := 2) HB8.out rfl
  have z3 := cell_blk (i := 3) HB8.out rfl
  have z4 := cell_blk (i := 4) HB8.out rfl
  have z5 := cell_blk (i := 5) HB8.out rfl
  have z6 := cell_blk (i := 6) HB8.out rfl
  have z7 := cell_blk (i := 7) HB8.out rfl
  refine bodyPost_ret (v := .tuple #[.agg #[.int .i64 x.job, .int .i64 x.st, .int .i64 x.at_, .int .i64 x.ba, .int .i64 x.node, .int .i64 x.life, .int .i64 x.code, .int .u64 x.bits], .bool b2]) (by simp [results, Try.results25, go_sem, z0, z1, z2, z3, z4, z5, z6, z7]) rfl ⟨x, b2, HR.out.1, rfl, HF8.out⟩
end

end Go.Proofs.Ythdcpenhfccagaa
