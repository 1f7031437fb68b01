/-
  Merged, in build order: WB.
-/
import Derived.Deep.RegionHeld3
import Derived.Deep.Cut
import Derived.Test.YthghnlgojmedgaaGreatM22
/-
  wal: head.sector.
-/
namespace Go.Proofs.YthghnlgojmedgaaGreat
open Go.RowKit
set_option linter.unusedVariables false
set_option linter.unusedSimpArgs false

def hV (h : WH) : Value := .agg #[.int .i64 h.number, .int .i64 h.half, .int .i64 h.snap, .int .i64 h.log]

def hiS (n k : Nat) : ByteArray := ⟨(hiL n k).toArray⟩
def oneS (f : Nat) : ByteArray := ⟨[f.toUInt8].toArray⟩
def zeroS (n : Nat) : ByteArray := ⟨(zeroL n).toArray⟩
theorem hiS_size (n k : Nat) : (hiS n k).size = k := by rw [← bl_len, hiS, bl_mk, hiL_len]
theorem oneS_size (f : Nat) : (oneS f).size = 1 := rfl
theorem zeroS_size (n : Nat) : (zeroS n).size = n := by rw [← bl_len, zeroS, bl_mk, zeroL, List.length_replicate]
theorem conv1 (f : Nat) (w : World) (b : Nat) (h : w.cell? ⟨b, 0, none⟩ = some (.int .u8 (IntKind.u8.wrap (f : Int)))) :
    (convert 71 9 (.slice (some ⟨b, 0, none⟩) 1 1)).run Tryz.prog w = .ok (.string (oneS f)) w := by
  refine run_text' _ _ _ 5 b 0 1 [f.toUInt8] Tryz.underlying71 Tryz.underlying5 Tryz.underlying9 (fun j v hv => ?_)
  have hw8 : IntKind.u8.wrap (f : Int) = (f.toUInt8.toNat : Int) := by rw [IntKind.wrap_u8]; simp
  match j with
  | 0 => rw [h, hw8]; simpa [Lib.byteCells] using hv
  | j + 1 => simp [Lib.byteCells] at hv

theorem sector_eq (n f s l : Nat) : hiS n 8 ++ oneS f ++ hiS s 4 ++ hiS l 4 ++ zeroS 103 ++ hiS n 8 = secB ⟨n, f, s, l⟩ := by
  apply bl_inj
  rw [secB_bl]
  simp only [bl_app, hiS, oneS, zeroS, bl_mk, secL, zeroL, List.append_assoc]

set_option maxHeartbeats 1600000 in
set_option maxRecDepth 100000 in
theorem wal_sector (w : World) (h : WH) (h1 : h.number ≤ 9223372036854775807) (h2 : h.half ≤ 255) (h3 : h.snap ≤ 9223372036854775807) (h4 : h.log ≤ 9223372036854775807) :
    Calls Tryz.prog 26 #[hV h] w fun e w' => e = .returned (.string (secB h)) ∧ Fr [] w w' := by
  obtain ⟨n, f, s, l⟩ := h
  dsimp only at h1 h2 h3 h4
  have HA : Hid (∀ (w : World) (n k : Nat), n ≤ 9223372036854775807 → k ≤ 8 → Calls Tryz.prog 45 #[.int .i64 n, .int .i64 k] w fun e w' => e = .returned (.string (hiS n k)) ∧ Fr [] w w') := hid (fun w n k hn hk => wal_high w n k hn hk)
  have HN : Hid (∀ (w : World) (n : Nat), n ≤ 128 → Calls Tryz.prog 46 #[.int .i64 n] w fun e w' => e = .returned (.string (zeroS n)) ∧ Fr [] w w') := hid (fun w n hn => wal_noughts w n hn)
  unfold hV
  go_enter Tryz.func26, Tryz.ntmps26
  go_wp2_with fail
  refine (HA.out _ n 8 h1 (by decide)).mono ?_
  rintro e w1 ⟨rfl, hF⟩
  have hb := (blk_alloc_at w (.cells #[.int .i64 n, .int .i64 f, .int .i64 s, .int .i64 l] 62) _ rfl)
  have hb1 := hF.keep hb (by simp)
  have hK : ∀ wx : World, wx.heap[w.heap.size]? = some (.cells #[.int .i64 n, .int .i64 f, .int .i64 s, .int .i64 l] 62 (0, 0)) → Fr [] w wx → (wx.cell? ⟨w.heap.size, 1, none⟩ = some (.int .i64 f) ∧ wx.cell? ⟨w.heap.size, 2, none⟩ = some (.int .i64 s) ∧ wx.cell? ⟨w.heap.size, 3, none⟩ = some (.int .i64 l) ∧ Fr [] w wx) := fun wx hx hf => ⟨cell_blk hx rfl, cell_blk hx rfl, cell_blk hx rfl, hf⟩
  have HFF := hid (fun (wx wy : World) (hx : (wx.cell? ⟨w.heap.size, 1, none⟩ = some (.int .i64 f) ∧ wx.cell? ⟨w.heap.size, 2, none⟩ = some (.int .i64 s) ∧ wx.cell? ⟨w.heap.size, 3, none⟩ = some (.int .i64 l) ∧ Fr [] w wx)) (hf : Fr [] wx wy) => (show wy.cell? ⟨w.heap.size, 1, none⟩ = some (.int .i64 f) ∧ wy.cell? ⟨w.heap.size, 2, none⟩ = some (.int .i64 s) ∧ wy.cell? ⟨w.heap.size, 3, none⟩ = some (.int .i64 l) ∧ Fr [] w wy from ⟨hf.cell0 hx.1, hf.cell0 hx.2.1, hf.cell0 hx.2.2.1, hx.2.2.2.trans hf⟩))
  have HS0 := hid (hK w1 hb1 (((Fr.refl [] w).alloc _).trans hF))
  clear hb hb1 hF hK
  have hcv := conv1 f
  have z1 := hiS_size n 8
  have z2 := oneS_size f
  have z3 := hiS_size s 4
  have z4 := hiS_size l 4
  have a1 : ¬ 9223372036854775807 < (hiS n 8).size + (oneS f).size := by omega
  have a2 : ¬ 9223372036854775807 < (hiS n 8).size + (oneS f).size + (hiS s 4).size := by omega
  have a3 : ¬ 9223372036854775807 < (hiS n 8).size + (oneS f).size + (hiS s 4).size + (hiS l 4).size := by omega
  clear z1 z2 z3 z4
  go_wp2_with fail
  go_region_held (fun wx : World => (wx.cell? ⟨w.heap.size, 1, none⟩ = some (.int .i64 f) ∧ wx.cell? ⟨w.heap.size, 2, none⟩ = some (.int .i64 s) ∧ wx.cell? ⟨w.heap.size, 3, none⟩ = some (.int .i64 l) ∧ Fr [] w wx)) ((first | assumption | exact HFF.out _ _ HS0.out (Fr.refl _ _).drew | exact HFF.out _ _ HS0.out ((Fr.refl _ _).alloc _).drew | exact HFF.out _ _ hNow ((Fr.refl _ _).alloc _))) (first | (go_at_call 45; refine (HA.out _ _ 4 (by assumption) (by decide)).mono ?_; rintro e wn ⟨rfl, hFn⟩; have hNow := HFF.out _ _ (by assumption) hFn; (first | have hq := hFn.cell0 (cell_blk (i := 0) (v := .int .u8 (IntKind.u8.wrap (f : Int))) (blk_drew (blk_alloc_at w1 _ _ rfl)) rfl) | have hq := hFn.cell0 (cell_blk (i := 0) (v := .int .u8 (IntKind.u8.wrap (f : Int))) (blk_alloc_at _ _ _ rfl) rfl) | have hq := hFn.cell0 hq | skip)))
  all_goals
    have hfin := hid (HFF.out _ _ (by assumption) (Fr.refl _ _)).2.2.2
    clear a1 a2 a3 hcv
    have z1 := hiS_size n 8
    have z2 := oneS_size f
    have z3 := hiS_size s 4
    have z4 := hiS_size l 4
    have z5 := zeroS_size 103
    generalize hq : hiS n 8 ++ oneS f ++ hiS s 4 ++ hiS l 4 = t at *
    have zt : t.size = 17 := by rw [← hq, ByteArray.size_append, ByteArray.size_append, ByteArray.size_append, z1, z2, z3, z4]
    have e1 : IntKind.i64.wrap (128 - (t.size : Int)) = 111 := by rw [zt]; rfl
    have e1' : (128 - (t.size : Int)) = 111 := by rw [zt]; rfl
    have e2 : ¬ 9223372036854775807 < t.size + (zeroS 103).size := by omega
    have e3 : ¬ 9223372036854775807 < t.size + (zeroS 103).size + (hiS n 8).size := by omega
    have HQ := hid hq
    clear hq zt z1 z2 z3 z4 z5
    go_wp2_with fail
    refine (HN.out _ 103 (by decide)).mono ?_
    rintro e wf ⟨rfl, hFf⟩
    have HF2 := hid (show Fr [] w wf by have h := hfin.out; (try rw [IntWalk.u8_in (f : Int) (by omega)] at h); exact h.trans hFf)
    clear hFf
    go_wp2_with fail
    go_ret
    refine ⟨ret_str ?_, HF2.out⟩
    rw [← HQ.out]
    exact sector_eq n f s l

end Go.Proofs.YthghnlgojmedgaaGreat
