/-
  The walk of DiskCuts.
-/
import Derived.Test.YtkkahkgjedgjnaaCut3
import Derived.Test.YtkkahkgjedgjnaaInD
namespace Go.Proofs.Ytkkahkgjedgjnaa
open Go.RowKit
set_option linter.unusedVariables false
set_option linter.unusedSimpArgs false

theorem CutRes.kinds {w w' : World} {ss : List ByteArray} {ws : List (Int × ByteArray)} {n m : Int} {e : Ending} (h : CutRes w ss ws n m e w') (h0 : cutE ss ws n m = 0) :
    Fr [] w w' ∧ (cutV ss ws n m).length = ss.length ∧ ∃ g cap, e = .returned (.tuple #[.slice (some ⟨g, 0, none⟩) ss.length cap, .int .i64 0]) ∧ In w' 1 (some ⟨g, 0, none⟩) ss.length cap (strV (cutV ss ws n m)) := by
  obtain ⟨h1, ⟨h2, _⟩ | ⟨_, h3, g, cap, h4, _, h5, h6, h7⟩⟩ := h
  · exact absurd h0 h2
  · exact ⟨h1, h3, g, cap, h4, h7.toIn h5 h6⟩
theorem CutRes.kindb {w w' : World} {ss : List ByteArray} {ws : List (Int × ByteArray)} {n m : Int} {e : Ending} (h : CutRes w ss ws n m e w') (h0 : cutE ss ws n m ≠ 0) :
    Fr [] w w' ∧ e = .returned (.tuple #[.slice none 0 0, .int .i64 (cutE ss ws n m)]) := by
  obtain ⟨h1, ⟨_, h2⟩ | ⟨h3, _⟩⟩ := h
  · exact ⟨h1, h2⟩
  · exact absurd h3 h0

theorem in_nil (w : World) (V : Nat → Value) : In w 1 none 0 0 V := ⟨Nat.le_refl _, by decide, fun h => absurd h (Nat.lt_irrefl _), fun b off e => by cases e⟩

set_option maxHeartbeats 3200000 in
set_option maxRecDepth 100000 in
theorem cuts04_any (w : World) (a b : Option Addr) (na ca nb cb : Nat) (n m : Int) (ss : List ByteArray) (ws : List (Int × ByteArray)) (hna : ss.length = na) (hnb : ws.length = nb) (ha : In w 1 a na ca (strV ss)) (hb : In w 2 b nb cb (wrV ws)) (hn1 : na * 16 ≤ 140737488351232) (hn2 : nb * 24 ≤ 140737488351232)
    (hss : ∀ i, i < na → (sAt ss i).size ≤ 140737488351232) (hws : ∀ i, i < nb → (wAt ws i).2.size ≤ 140737488351232) (n1 : -9223372036854775808 ≤ n) (n2 : n ≤ 9223372036854775807) (m2 : m ≤ 9223372036854775807) :
    Calls Try.prog 11 #[.agg #[.slice a na ca, .slice b nb cb, .int .i64 n, .int .i64 m]] w fun e w' => e = .returned (.bool true) ∧ Fr [] w w' := by
  subst hna hnb
  have hma := ha.max
  have hmb := hb.max
  have HA := hid ha
  have HB := hid hb
  have HC := hid (fun (wx : World) (a b : Option Addr) (ca cb : Nat) (h1 : In wx 1 a ss.length ca (strV ss)) (h2 : In wx 2 b ws.length cb (wrV ws)) => cut_any wx a b ca cb ss ws h1 h2 hss hws n m n1 n2 m2)
  have HR := hid (fun (wx : World) (a b : Option Addr) (ca cb : Nat) (h1 : In wx 1 a ss.length ca (strV ss)) (h2 : In wx 2 b ws.length cb (wrV ws)) => ref_cut_any wx a b ca cb ss ws h1 h2 hws n m n1 n2 m2)
  obtain ⟨i0, hi, hz0, hz1, hz2⟩ := info_parts info_string
  have HI := hid (And.intro hi (And.intro hz0 (And.intro hz1 hz2)))
  obtain ⟨i1, hj, hy0, hy1, hy2⟩ := info_parts info_write
  have HJ := hid (And.intro hj (And.intro hy0 (And.intro hy1 hy2)))
  clear ha hb hss hws hi hz0 hz1 hz2 hj hy0 hy1 hy2
  have H : St (.of w) (w.alloc (.cells #[.slice a ss.length ca, .slice b ws.length cb, .int .i64 n, .int .i64 m] 49)) [BlkT w.heap.size (.cells #[.slice a ss.length ca, .slice b ws.length cb, .int .i64 n, .int .i64 m] 49)] := (St.refl w).alloc _
  have hwA : (w.alloc (.cells #[.slice a ss.length ca, .slice b ws.length cb, .int .i64 n, .int .i64 m] 49)).heap.size = w.heap.size + 1 := by simp
  have HwA := hid hwA
  clear hwA
  go_enter Try.func11, Try.ntmps11
  go_wp2_with (at_builtin; refine wpList_copied rfl (.tmp 9) (.tmp 11) 46 rfl 9 i0 (.string ByteArray.empty) 1 16 Try.underlying46 HI.out.1 HI.out.2.1 HI.out.2.2.1 HI.out.2.2.2 rfl (by decide) (w.heap.size + 1) rfl (blk_alloc_at _ _ _ HwA.out.symm) a ss.length ca (strV ss) rfl ?qa (fun j _ => strV_one _ j) (by omega) ?_)
  case qa => exact HA.out.fr0 (H.fr.alloc _)
  intro g1 c1 w1 ho1 hF1 hg1
  replace ho1 : w1.ownsRow 0 9 1 (.slice (some ⟨g1, 0, none⟩) ss.length c1) ss.length (strs ss ss.length) := ho1
  have hF : Fr [] (w.alloc (.cells #[.slice a ss.length ca, .slice b ws.length cb, .int .i64 n, .int .i64 m] 49)) w1 := ((Fr.refl [] _).alloc (.cells #[] 9)).step hF1 (by intro x hx; simp at hx; subst hx; exact .inr (by rw [HwA.out]; exact Nat.le_refl _))
  have hg1' : w.heap.size + 1 ≤ g1 := by rcases hg1 with h | h <;> first | omega | (simp at h; omega)
  replace H := H.new (A := Row1 9 1 (.slice (some ⟨g1, 0, none⟩) ss.length c1) ss.length (strs ss ss.length)) (F := [g1]) hF inferInstance ⟨rfl, ho1⟩ (by simp; omega)
  have k1 := cell_blk (i := 1) (H.blk 0 rfl) rfl
  have hI1 := owns_in ho1 (strV ss) (fun j hj => strs_get _ _ j (by omega))
  have H1 := hid hI1
  have hblk : w.heap.size < w1.heap.size := by have := hF.size; rw [HwA.out] at this; omega
  clear ho1 hF hF1 hg1 hg1' hI1
  go_wp2_with (at_builtin; refine wpList_copied rfl (.tmp 13) (.tmp 15) 47 rfl 56 i1 (.agg #[.int .i64 0, .string ByteArray.empty]) 2 24 Try.underlying47 HJ.out.1 HJ.out.2.1 HJ.out.2.2.1 HJ.out.2.2.2 rfl (by decide) w1.heap.size rfl (blk_alloc_at _ _ _ rfl) b ws.length cb (wrV ws) rfl ?qb (fun j _ => wrV_one _ j) (by omega) ?_)
  case qb => exact HB.out.fr0 (H.fr.alloc _)
  intro g2 c2 w2 ho2 hF2 hg2
  rw [range_wrs] at ho2
  have hF : Fr [] w1 w2 := ((Fr.refl [] _).alloc (.cells #[] 56)).step hF2 (by intro x hx; simp at hx; subst hx; exact .inr (Nat.le_refl _))
  have hg2' : w1.heap.size ≤ g2 := by rcases hg2 with h | h <;> first | omega | (simp at h; omega)
  have hI1 := H1.out.fr0 hF
  replace H := H.new (A := Row1 56 2 (.slice (some ⟨g2, 0, none⟩) ws.length c2) ws.length (rawCells ws)) (F := [g2]) hF inferInstance ⟨rfl, ho2⟩ (by simp; omega)
  have k2 := cell_blk (i := 2) (H.blk 0 rfl) rfl
  have k3 := cell_blk (i := 3) (H.blk 0 rfl) rfl
  have hI2 := owns_in ho2 (wrV ws) (fun j hj => rawCells_get _ j hj)
  have H2 := hid (And.intro hI1 hI2)
  have HFr := hid H.fr
  have hbx : ∀ wx, Fr [] w2 wx → (wx.cell? ⟨w.heap.size, 0, none⟩ = some (.slice a ss.length ca) ∧ wx.cell? ⟨w.heap.size, 1, none⟩ = some (.slice b ws.length cb) ∧ wx.cell? ⟨w.heap.size, 2, none⟩ = some (.int .i64 n) ∧ wx.cell? ⟨w.heap.size, 3, none⟩ = some (.int .i64 m)) := fun wx hx =>
    ⟨hx.cell0 (cell_blk (H.blk 0 rfl) rfl), hx.cell0 (cell_blk (H.blk 0 rfl) rfl), hx.cell0 (cell_blk (H.blk 0 rfl) rfl), hx.cell0 (cell_blk (H.blk 0 rfl) rfl)⟩
  have HBx := hid hbx
  clear ho2 hF hF2 hg2 hg2' hI1 hI2 H1 hblk hbx H HwA
  go_wp2_with fail
  refine (HC.out w2 _ _ c1 c2 H2.out.1 H2.out.2).mono ?_
  intro e w3 hres
  by_cases h0 : cutE ss ws n m = 0
  · obtain ⟨hF3, hl3, g3, c3, rfl, hI3⟩ := hres.kinds h0
    have H3 := hid (And.intro hF3 (And.intro hl3 (And.intro hI3 h0)))
    obtain ⟨k0, k1, k2, k3⟩ := HBx.out _ hF3
    clear hF3 hl3 hI3 h0 hres
    go_wp2_with fail
    refine (HR.out w3 _ _ ca cb (HA.out.fr0 (HFr.out.trans H3.out.1)) (HB.out.fr0 (HFr.out.trans H3.out.1))).mono ?_
    intro e w4 hres
    obtain ⟨hF4, _, g4, c4, rfl, hI4⟩ := hres.kinds H3.out.2.2.2
    have H4 := hid (And.intro hF4 hI4)
    obtain ⟨k0, k1, k2, k3⟩ := HBx.out _ (H3.out.1.trans hF4)
    clear hF4 hI4 hres
    go_wp2_with fail
    have hs := same_any w4 (some ⟨g3, 0, none⟩) (some ⟨g4, 0, none⟩) c3 c4 (cutV ss ws n m) (cutV ss ws n m) (by rw [H3.out.2.1]; exact H3.out.2.2.1.fr0 H4.out.1) (by rw [H3.out.2.1]; exact H4.out.2)
    rw [H3.out.2.1] at hs
    refine hs.mono ?_
    clear hs
    rw [decide_eq_true rfl]
    rintro e w5 ⟨rfl, hF5⟩
    have HF5 := hid (And.intro ((H3.out.1.trans H4.out.1).trans hF5) (HFr.out.trans ((H3.out.1.trans H4.out.1).trans hF5)))
    obtain ⟨k0, k1, k2, k3⟩ := HBx.out _ HF5.out.1
    clear hF5
    go_wp2_with fail
    refine (same_self w5 (some ⟨g1, 0, none⟩) a c1 ca ss (H2.out.1.fr0 HF5.out.1) (HA.out.fr0 HF5.out.2)).mono ?_
    rintro e w6 ⟨rfl, hF6⟩
    have HF6 := hid (And.intro (HF5.out.1.trans hF6) (HF5.out.2.trans hF6))
    obtain ⟨k0, k1, k2, k3⟩ := HBx.out _ HF6.out.1
    clear hF6
    go_wp2_with fail
    refine (sameRaw_self w6 (some ⟨g2, 0, none⟩) b c2 cb ws (H2.out.2.fr0 HF6.out.1) (HB.out.fr0 HF6.out.2)).mono ?_
    rintro e w7 ⟨rfl, hF7⟩
    have HF7 := hid (HF6.out.2.trans hF7)
    clear hF7
    go_wp2_with fail
    refine (fixed04 _).mono ?_
    rintro e w8 ⟨rfl, hF8⟩
    have HF8 := hid (HF7.out.trans hF8)
    clear hF8
    go_wp2_with fail
    go_ret
    exact ⟨rfl, HF8.out⟩
  · obtain ⟨hF3, rfl⟩ := hres.kindb h0
    have H3 := hid (And.intro hF3 h0)
    obtain ⟨k0, k1, k2, k3⟩ := HBx.out _ hF3
    clear hF3 h0 hres
    generalize hc : cutE ss ws n m = c
    have HCc := hid hc
    clear hc
    go_wp2_with fail
    refine (HR.out w3 _ _ ca cb (HA.out.fr0 (HFr.out.trans H3.out.1)) (HB.out.fr0 (HFr.out.trans H3.out.1))).mono ?_
    intro e w4 hres
    obtain ⟨hF4, rfl⟩ := hres.kindb H3.out.2
    rw [HCc.out]
    have H4 := hid hF4
    obtain ⟨k0, k1, k2, k3⟩ := HBx.out _ (H3.out.1.trans hF4)
    clear hF4 hres
    go_wp2_with fail
    have hs := same_any w4 none none 0 0 [] [] (in_nil _ _) (in_nil _ _)
    refine hs.mono ?_
    clear hs
    rw [decide_eq_true rfl]
    rintro e w5 ⟨rfl, hF5⟩
    have HF5 := hid (And.intro ((H3.out.1.trans H4.out).trans hF5) (HFr.out.trans ((H3.out.1.trans H4.out).trans hF5)))
    obtain ⟨k0, k1, k2, k3⟩ := HBx.out _ HF5.out.1
    clear hF5
    go_wp2_with fail
    refine (same_self w5 (some ⟨g1, 0, none⟩) a c1 ca ss (H2.out.1.fr0 HF5.out.1) (HA.out.fr0 HF5.out.2)).mono ?_
    rintro e w6 ⟨rfl, hF6⟩
    have HF6 := hid (And.intro (HF5.out.1.trans hF6) (HF5.out.2.trans hF6))
    obtain ⟨k0, k1, k2, k3⟩ := HBx.out _ HF6.out.1
    clear hF6
    go_wp2_with fail
    refine (sameRaw_self w6 (some ⟨g2, 0, none⟩) b c2 cb ws (H2.out.2.fr0 HF6.out.1) (HB.out.fr0 HF6.out.2)).mono ?_
    rintro e w7 ⟨rfl, hF7⟩
    have HF7 := hid (HF6.out.2.trans hF7)
    clear hF7
    go_wp2_with fail
    refine (fixed04 _).mono ?_
    rintro e w8 ⟨rfl, hF8⟩
    have HF8 := hid (HF7.out.trans hF8)
    clear hF8
    go_wp2_with fail
    go_ret
    exact ⟨rfl, HF8.out⟩

theorem cuts04_walk (w : World) (a : Option Addr) (na ca : Nat) (V : Nat → Value) (hS : SlIn w 1 16 a na ca V) (hq : ∀ i, i < na → Str (V (i * 1)))
    (b : Option Addr) (nb cb : Nat) (U : Nat → Value) (hT : SlIn w 2 24 b nb cb U) (hq0 : ∀ i, i < nb → I64 (U (i * 2))) (hq1 : ∀ i, i < nb → Str (U (i * 2 + 1)))
    (n : Int) (n1 : -9223372036854775808 ≤ n) (n2 : n ≤ 9223372036854775807) (m : Int) (m1 : -9223372036854775808 ≤ m) (m2 : m ≤ 9223372036854775807) :
    Calls Try.prog 11 #[.agg #[.slice a na ca, .slice b nb cb, .int .i64 n, .int .i64 m]] w fun e w' => e = .returned (.bool true) ∧ Fr [] w w' := by
  obtain ⟨ss, hl, hI, h1, h2⟩ := strs_of hS hq
  obtain ⟨ws, hl2, hI2, h3, h4⟩ := wrs_of hT hq0 hq1
  exact cuts04_any w a b na ca nb cb n m ss ws hl hl2 hI hI2 h1 h3 h2 (fun i hi => (h4 i hi).2.2) n1 n2 m2

end Go.Proofs.Ytkkahkgjedgjnaa
