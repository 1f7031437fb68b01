/-
  WalOpens: the law's walk.
-/
import Derived.Test.YthghnlgojmedgaaGreatCWalDoes
namespace Go.Proofs.YthghnlgojmedgaaGreat
open Go.RowKit
set_option linter.unusedVariables false
set_option linter.unusedSimpArgs false

set_option maxHeartbeats 4000000 in
set_option maxRecDepth 100000 in
theorem walopens_any (w : World) (al : Option Addr) (nl cl : Nat) (ss : List ByteArray) (hnl : ss.length = nl) (hI : In w 1 al nl cl (strV ss))
    (s : Option Addr) (ns cs : Nat) (U : Nat → Value) (hT : SlIn w 5 48 s ns cs U) (hq0 : ∀ i, i < ns → I64 (U (i * 5))) (hq1 : ∀ i, i < ns → I64 (U (i * 5 + 1))) (hq2 : ∀ i, i < ns → I64 (U (i * 5 + 2))) (hq3 : ∀ i, i < ns → I64 (U (i * 5 + 3))) (hq4 : ∀ i, i < ns → Str (U (i * 5 + 4))) (hb : ns ≤ 1048576) :
    Calls Tryz.prog 4 #[.slice al nl cl, .slice s ns cs] w fun e w' => e = .returned (.bool true) ∧ Fr [] w w' := by
  obtain ⟨l, hO⟩ := ops9_of hT hq0 hq1 hq2 hq3 hq4
  have HO := hid (And.intro hO hb)
  clear hO hb hT hq0 hq1 hq2 hq3 hq4
  subst hnl
  by_cases hn : ¬ okSecs ss
  · have HN := hid (disk_load w al cl ss hI)
    have HM := hid (fun wx (h : Fr [] w wx) => ref_load_bad wx al cl ss (hI.fr0 h) hn)
    have HBAD := hid hn
    clear hn hI
    go_enter Tryz.func4, Tryz.ntmps4
    go_wp2_with fail
    refine HN.out.mono ?_
    rintro e w1 ⟨hF, ⟨hbad, c, hc, hle, rfl⟩ | ⟨hok, _⟩⟩
    rotate_left
    · exact absurd hok HBAD.out
    have HM1 := HM.out _ hF
    rw [← hle] at HM1
    have HM1 := hid HM1
    have HF := hid hF
    clear hF hbad hc hle HN HM
    go_wp2_with fail
    refine HM1.out.mono ?_
    rintro e w2 ⟨rfl, rfl⟩
    have HX := hid (st_fixed09 (St.refl w1))
    go_wp2_with fail
    refine HX.out.mono ?_
    rintro e w2 ⟨rfl, h2⟩
    have H2 := hid (HF.out.trans h2.fr)
    clear h2
    go_wp2_with fail
    go_ret
    exact ⟨rfl, H2.out⟩
  · have hok : okSecs ss := Classical.byContradiction hn
    have HN := hid (st_load (St.refl w) hI hok)
    have HM := hid (fun wx T (hS : St (.of w) wx T) => st_ref_load hS (hI.fr0 hS.fr) hok)
    have HW := hid (And.intro (of_wf hok) (show (DS.of ss).raw.length = 0 ∧ (DS.of ss).dead = false from ⟨rfl, rfl⟩))
    generalize DS.of ss = d at HN HM HW
    clear hn hok hI
    go_enter Tryz.func4, Tryz.ntmps4
    go_wp2_with fail
    refine HN.out.mono ?_
    rintro e w1 ⟨D, rfl, h1⟩
    have H1 := hid h1
    clear h1
    go_wp2_with fail
    refine (HM.out _ _ H1.out).mono ?_
    rintro e w2 ⟨X, rfl, h2⟩
    simp only [List.nil_append, List.cons_append] at h2
    have HOD := hid (st_opened h2 0 1 rfl rfl HW.out.1)
    clear h2 HN HM H1
    go_wp2_with fail
    refine HOD.out.mono ?_
    rintro e w8 (⟨rfl, hno, h8⟩ | ⟨hd, hf, h, s1, l1, Cn, B, Y, rfl, h8⟩)
    · obtain ⟨q, hq⟩ : ∃ q, w8.heap.size = q := ⟨_, rfl⟩
      have h8 := h8.alloc (.cells #[.pointer (some ⟨D, 0, none⟩), .pointer none, .pointer (some ⟨X, 0, none⟩), .pointer none] 42)
      rw [hq] at h8
      simp only [List.nil_append, List.cons_append] at h8
      have HQ := hid hq
      have H8 := hid h8
      clear hq h8 hno HOD
      go_wp2_with fail
      rw [HQ.out]
      with_reducible refine (st_clone H8.out 0 rfl HW.out.1 (by rw [HW.out.2.1]; decide)).mono ?_
      rintro e w9 ⟨C, rfl, h9⟩
      simp only [List.cons_append, List.nil_append] at h9
      have H9 := hid h9
      clear h9
      go_wp2_with fail
      with_reducible refine (st_ref_copy H9.out 1 rfl).mono ?_
      rintro e w10 ⟨Y2, rfl, h10⟩
      simp only [List.cons_append, List.nil_append] at h10
      have H10 := hid h10
      clear h10 H9
      have hfw := fm_wf HW.out.1
      have K1 := hid (fun wx (hS : St (.of w) wx [DkT D d, XkT X d, BlkT q (.cells #[.pointer (some ⟨D, 0, none⟩), .pointer none, .pointer (some ⟨X, 0, none⟩), .pointer none] 42), DkT C d, XkT Y2 d]) => (st_wformatA hS 3 rfl HW.out.1 HW.out.2.2 (by rw [HW.out.2.1]; decide)).mono fun e w' h => FmTo.to (i := 3) (A := DkT C) rfl h)
      have K2 := hid (fun wx (hS : St (.of w) wx [DkT D d, XkT X d, BlkT q (.cells #[.pointer (some ⟨D, 0, none⟩), .pointer none, .pointer (some ⟨X, 0, none⟩), .pointer none] 42), DkT C (fm d).2, XkT Y2 d]) => (st_rformat hS 4 rfl HW.out.1 HW.out.2.2 (by rw [HW.out.2.1]; decide)).mono fun e w' h => FmTo.to (i := 4) (A := XkT Y2) rfl h)
      obtain ⟨z, hz⟩ : ∃ z, fm d = z := ⟨_, rfl⟩
      rw [hz] at K1 K2 hfw
      simp only [List.set_cons_zero, List.set_cons_succ] at K1 K2
      have HZ := hid hfw.1
      clear hz hfw
      obtain ⟨zc, d1⟩ := z
      simp only at K1 K2 HZ
      go_wp2_with fail
      go_upto_region 11 with (fail)
      go_cut [62] from 13 (fun s62 wx => s62 = .bool false ∧ St (.of w) wx [DkT D d, XkT X d, BlkT q (.cells #[.pointer (some ⟨D, 0, none⟩), .pointer none, .pointer (some ⟨X, 0, none⟩), .pointer none] 42)])
      case first =>
        have HSa := hid H10.out.drew
        go_region_with (first
          | (go_at_call 8; with_reducible refine (K1.out _ HSa.out).mono ?_; rintro e w3 ⟨rfl, h3⟩; have H3 := hid h3; clear h3)
          | (go_at_call 9; with_reducible refine (K2.out _ H3.out).mono ?_; rintro e w4 ⟨rfl, h4⟩; obtain ⟨a4, c4, rv4, h4⟩ := h4.pin 4 rfl; have hx4 := (St.xkp h4 4 rfl); have x4 := cell_blk (i := 0) hx4.1 rfl; have H4 := hid h4; clear h4 hx4)
          | (go_at_call 11; with_reducible refine (st_sectors H4.out 3 rfl HZ.out).mono ?_; rintro e w5 ⟨g5, c5, rfl, h5⟩; have hx5 := (St.xkp h5 4 rfl); have x5 := cell_blk (i := 0) hx5.1 rfl; have H5 := hid h5; have HX5 := hid hx5.2; clear h5 hx5)
          | (go_at_call 10; with_reducible refine (st_same H5.out (H5.out.in_ 5 rfl) HX5.out).mono ?_; rintro e w6 ⟨rfl, h6⟩; have H6 := hid h6; clear h6))
        all_goals (go_wp2_with fail; go_meet)
        all_goals exact ⟨rfl, H6.out.take 3⟩
      obtain ⟨rfl, hS7⟩ := hcut
      have hb := hS7.blk 2 rfl
      have c1 := cell_blk (i := 1) hb rfl
      have HX := hid (st_fixed09 hS7)
      clear hS7 hb K1 K2 H8 H10 HQ
      go_wp2_with fail
      refine HX.out.mono ?_
      rintro e w11 ⟨rfl, h9⟩
      have H9 := hid h9.fr
      clear h9 HX
      go_wp2_with fail
      go_ret
      exact ⟨rfl, H9.out⟩
    · obtain ⟨q, hq⟩ : ∃ q, w8.heap.size = q := ⟨_, rfl⟩
      have h8 := h8.alloc (pO D B X Y)
      rw [hq] at h8
      simp only [List.nil_append, List.cons_append] at h8
      have HQ := hid hq
      have H8 := hid h8
      have HPP := hid (PI.opened HW.out.1 hf hd Cn (by rw [HW.out.2.1]; omega) : PI 0 ⟨h, l1.length, false⟩ d)
      clear hq h8 HOD hd hf Cn
      generalize (⟨h, l1.length, false⟩ : WS) = x at H8 HPP
      go_wp2_with fail
      rw [HQ.out]
      with_reducible refine (st_clone H8.out 0 rfl HW.out.1 (by rw [HW.out.2.1]; decide)).mono ?_
      rintro e w9 ⟨C, rfl, h9⟩
      simp only [List.cons_append, List.nil_append] at h9
      have H9 := hid h9
      clear h9
      go_wp2_with fail
      with_reducible refine (st_ref_copy H9.out 1 rfl).mono ?_
      rintro e w10 ⟨Y2, rfl, h10⟩
      simp only [List.cons_append, List.nil_append] at h10
      have H10 := hid h10
      clear h10 H9
      have hfw := fm_wf HW.out.1
      have K1 := hid (fun wx (hS : St (.of w) wx [DkT D d, XkT X d, WlT B D x, RlT Y X x, BlkT q (pO D B X Y), DkT C d, XkT Y2 d]) => (st_wformatA hS 5 rfl HW.out.1 HW.out.2.2 (by rw [HW.out.2.1]; decide)).mono fun e w' h => FmTo.to (i := 5) (A := DkT C) rfl h)
      have K2 := hid (fun wx (hS : St (.of w) wx [DkT D d, XkT X d, WlT B D x, RlT Y X x, BlkT q (pO D B X Y), DkT C (fm d).2, XkT Y2 d]) => (st_rformat hS 6 rfl HW.out.1 HW.out.2.2 (by rw [HW.out.2.1]; decide)).mono fun e w' h => FmTo.to (i := 6) (A := XkT Y2) rfl h)
      obtain ⟨z, hz⟩ : ∃ z, fm d = z := ⟨_, rfl⟩
      rw [hz] at K1 K2 hfw
      simp only [List.set_cons_zero, List.set_cons_succ] at K1 K2
      have HZ := hid hfw.1
      clear hz hfw
      obtain ⟨zc, d1⟩ := z
      simp only at K1 K2 HZ
      go_wp2_with fail
      go_upto_region 11 with (fail)
      go_cut [62] from 13 (fun s62 wx => s62 = .bool false ∧ St (.of w) wx [DkT D d, XkT X d, WlT B D x, RlT Y X x, BlkT q (pO D B X Y)])
      case first =>
        have HSa := hid H10.out.drew
        go_region_with (first
          | (go_at_call 8; with_reducible refine (K1.out _ HSa.out).mono ?_; rintro e w3 ⟨rfl, h3⟩; have H3 := hid h3; clear h3)
          | (go_at_call 9; with_reducible refine (K2.out _ H3.out).mono ?_; rintro e w4 ⟨rfl, h4⟩; obtain ⟨a4, c4, rv4, h4⟩ := h4.pin 6 rfl; have hx4 := (St.xkp h4 6 rfl); have x4 := cell_blk (i := 0) hx4.1 rfl; have H4 := hid h4; clear h4 hx4)
          | (go_at_call 11; with_reducible refine (st_sectors H4.out 5 rfl HZ.out).mono ?_; rintro e w5 ⟨g5, c5, rfl, h5⟩; have hx5 := (St.xkp h5 6 rfl); have x5 := cell_blk (i := 0) hx5.1 rfl; have H5 := hid h5; have HX5 := hid hx5.2; clear h5 hx5)
          | (go_at_call 10; with_reducible refine (st_same H5.out (H5.out.in_ 7 rfl) HX5.out).mono ?_; rintro e w6 ⟨rfl, h6⟩; have H6 := hid h6; clear h6))
        all_goals (go_wp2_with fail; go_meet)
        all_goals exact ⟨rfl, H6.out.take 5⟩
      obtain ⟨rfl, hS7⟩ := hcut
      have hb := hS7.blk 4 rfl
      have c0 := cell_blk (i := 0) hb rfl
      have c1 := cell_blk (i := 1) hb rfl
      have c2 := cell_blk (i := 2) hb rfl
      have c3 := cell_blk (i := 3) hb rfl
      have hpl := played9 (p := ⟨D, B, X, Y, d, x⟩) ((hS7.take 4).perm (List.Perm.cons _ (List.Perm.swap _ _ _))) HPP.out s ns cs l HO.out.1 HO.out.2
      have HP := hid hpl
      clear hS7 hb hpl K1 K2 H8 H10 HQ
      go_wp2_with fail
      refine HP.out.mono ?_
      rintro e w11 ⟨rfl, h9⟩
      have H9 := hid h9
      have HX := hid (st_fixed09 (St.refl w11))
      clear h9 HP
      go_wp2_with fail
      refine HX.out.mono ?_
      rintro e w12 ⟨rfl, h10⟩
      have H11 := hid (H9.out.trans h10.fr)
      clear h10
      go_wp2_with fail
      go_ret
      exact ⟨rfl, H11.out⟩
theorem walopens_walk (w : World) (al : Option Addr) (nl cl : Nat) (V : Nat → Value) (hS : SlIn w 1 16 al nl cl V) (hq : ∀ i, i < nl → Str (V (i * 1)))
    (s : Option Addr) (ns cs : Nat) (U : Nat → Value) (hT : SlIn w 5 48 s ns cs U) (hq0 : ∀ i, i < ns → I64 (U (i * 5))) (hq1 : ∀ i, i < ns → I64 (U (i * 5 + 1))) (hq2 : ∀ i, i < ns → I64 (U (i * 5 + 2))) (hq3 : ∀ i, i < ns → I64 (U (i * 5 + 3))) (hq4 : ∀ i, i < ns → Str (U (i * 5 + 4))) (hb : ns ≤ 1048576) :
    Calls Tryz.prog 4 #[.slice al nl cl, .slice s ns cs] w fun e w' => e = .returned (.bool true) ∧ Fr [] w w' := by
  obtain ⟨ss, hl, hI, _, _⟩ := strs_of hS hq
  exact walopens_any w al nl cl ss hl hI s ns cs U hT hq0 hq1 hq2 hq3 hq4 hb
end Go.Proofs.YthghnlgojmedgaaGreat
