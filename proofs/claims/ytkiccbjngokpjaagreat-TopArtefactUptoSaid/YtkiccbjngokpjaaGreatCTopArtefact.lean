/-
  The walk of TopArtefact.
-/
import Derived.Test.YtkiccbjngokpjaaGreatM29
import Derived.Test.YtkiccbjngokpjaaGreatM27
import Derived.Test.YtkiccbjngokpjaaGreatM2
namespace Go.Proofs.YtkiccbjngokpjaaGreat
open Go.RowKit
set_option linter.unusedVariables false
set_option linter.unusedSimpArgs false

theorem le16 {P1 L : Nat} (h1 : P1 + 1 = L) (h2 : L ≤ 17) : (P1 : Int) ≤ 16 := by omega
set_option maxHeartbeats 12800000 in
set_option maxRecDepth 100000 in
theorem topart_walk (w : World) (x0 : Int) (h01 : -9223372036854775808 ≤ x0) (h02 : x0 ≤ 9223372036854775807) (x1 : Int) (h11 : -9223372036854775808 ≤ x1) (h12 : x1 ≤ 9223372036854775807)
    (a : Option Addr) (len cap : Nat) (V : Nat → Value) (hS : SlIn w 3 32 a len cap V) (hk : ∀ i, i < len → I64 (V (i * 3))) (hn : ∀ i, i < len → I64 (V (i * 3 + 1))) (ht : ∀ i, i < len → Str (V (i * 3 + 2))) (hlen : len ≤ 1048576) :
    Calls Tryz.prog 3 #[.int .i64 x0, .int .i64 x1, .slice a len cap] w fun e w' => e = .returned (.bool true) ∧ Fr [] w w' := by
  have hfl := hid (st_flowing w)
  by_cases hv : 1 ≤ x0 ∧ x0 ≤ 8 ∧ 1 ≤ x1 ∧ x1 ≤ 16
  · obtain ⟨win, hwin⟩ : ∃ win : Nat, x0 = (win : Int) := ⟨x0.toNat, by omega⟩
    obtain ⟨res, hres⟩ : ∃ res : Nat, x1 = (res : Int) := ⟨x1.toNat, by omega⟩
    subst hwin hres
    have hv1 : 1 ≤ win ∧ win ≤ 8 := by omega
    have hv2 : 1 ≤ res ∧ res ≤ 16 := by omega
    have HV := hid (And.intro hv1 (And.intro hv2 hlen))
    have HF := hid (And.intro hS (And.intro hk (And.intro hn ht)))
    have hNs := hid (fun (wx : World) (hF : Fr [] w wx) => st_newStream_art (W := Base.of w) (w := wx) ((St.refl w).same hF) win res hv1 hv2)
    have hln : (len : Int) ≤ 1048576 := by omega
    have hcp : (len : Int) ≤ cap := by have := hS.le; omega
    clear hv hv1 hv2 h01 h02 h11 h12 hlen hS hk hn ht
    go_enter Tryz.func3, Tryz.ntmps3
    go_wp2_with fail
    refine hfl.out.mono ?_
    rintro e w1 ⟨rfl, hF1⟩
    have HS0 := hid (hNs.out _ hF1)
    clear hfl hNs hF1
    go_wp2_with fail
    refine HS0.out.mono ?_
    rintro e w2 ⟨X, S, K, N, pv, rfl, H2⟩
    have H3 := hid (H2.row1 32 nilS)
    have HI0 := hid (show AmI win res 0 (.new win res) from AmI.new HV.out.1.1 HV.out.1.2 HV.out.2.1.1 HV.out.2.1.2)
    have HN0 := hid (show Noted (.new win res) pv [] [nilS] from ⟨rfl, .inr ⟨rfl, rfl, rfl⟩⟩)
    clear HS0 H2
    go_wp2_with fail
    generalize w2.alloc _ = w3 at H3 ⊢
    generalize w2.heap.size = ga at H3 ⊢
    go_loopw [9, 10, 11] (fun av lv iv wr => ∃ (q : Nat) (x : Am) (S : Nat) (pv : Value) (nn vc n : Nat) (va : Option Addr) (vs ov : List Value) (last : Nat), q ≤ len ∧ iv = .int .i64 q ∧ lv = .int .i64 last ∧ av = .slice va n vc ∧ Hid (St (Base.of w) wr (amL X S K N x pv nn ++ (RowT 32 1 (.slice va n vc) n vs :: zipT ov x.olds))) ∧ Hid (AmI win res q x) ∧ Hid (nn ≤ x.k.phi ∧ last ≤ x.k.B ∧ Noted x pv ov vs ∧ n = vs.length)) (fun _ _ iv _ => len - (intOf iv).toNat)
    case atStart => exact ⟨0, _, S, pv, 0, 1, 1, _, [nilS], [], 0, Nat.zero_le _, rfl, rfl, rfl, H3, HI0, ⟨Nat.zero_le _, Nat.zero_le _, HN0.out, rfl⟩⟩
    case round =>
      obtain ⟨q, x, S, pv, nn, vc, n, va, vs, ov, last, hq, rfl, rfl, rfl, HH, HI, HP⟩ := hrel
      have hbX := HH.out.blk 0 rfl
      have x9 := cell_blk (i := 9) hbX rfl
      by_cases hlt : q < len
      · obtain ⟨hS, hk, hn, ht⟩ := HF.out
        obtain ⟨kk, hk1, _, _⟩ := hk q hlt
        obtain ⟨nm, hn1, _, _⟩ := hn q hlt
        obtain ⟨tt, ht1, _⟩ := ht q hlt
        obtain ⟨gb, go, ha⟩ := hS.sm (by omega)
        subst ha
        have hfr := HH.out.fr
        have v0 : wr.cell? ⟨gb, go + q * 3, none⟩ = some (.int .i64 kk) := hfr.cell0 (by rw [hS.cell gb go rfl (q * 3) (by omega), hk1])
        have v1 : wr.cell? ⟨gb, go + q * 3 + 1, none⟩ = some (.int .i64 nm) := hfr.cell0 (by rw [Nat.add_assoc, hS.cell gb go rfl (q * 3 + 1) (by omega), hn1])
        have v2 : wr.cell? ⟨gb, go + q * 3 + 2, none⟩ = some (.string tt) := hfr.cell0 (by rw [Nat.add_assoc, hS.cell gb go rfl (q * 3 + 2) (by omega), ht1])
        have HDs := hid (st_adoes HH.out HI.out.ok (by have := HI.out.od; have := HV.out.2.2; unfold Am.badge; omega) (by have := HI.out.bg; have := HV.out.2.2; omega) HP.out.1 kk nm tt)
        have HI2 := hid (HI.out.does kk nm tt)
        have HB2 := hid (Am.doesT_B x kk nm tt)
        have HRw := hid (fun (wx : World) (S : Nat) (pv' : Value) (nn' : Nat) h => am_rows (W := Base.of w) (w := wx) (X := X) (S := S) (K := K) (N := N) (nn := nn') (pv' := pv') (A := RowT 32 1 (.slice va n vc) n vs) HP.out.2.2.1 (kind := kk) (n := nm) (t := tt) h)
        have hlt2 : (q : Int) < len := by omega
        have HL := hid (And.intro hlt hq)
        clear hbX hS hk hn ht hk1 hn1 ht1 hfr HH HI hlt hq H3 HI0 HN0
        go_wp2_with fail
        refine HDs.out.mono ?_
        rintro e w5 ⟨S5, pv5, nn5, rfl, hph5, H5⟩
        obtain ⟨ov5, z5, H5, ho5, hvs5, hvl5, hvm5⟩ := HRw.out _ _ _ _ H5
        clear HDs x9 v0 v1 v2 HRw
        have HP5 := hid (show last ≤ (x.doesT kk nm tt).k.B from Nat.le_trans HP.out.2.1 HB2.out)
        have hnv : n = vs.length := HP.out.2.2.2
        have HI2 : Hid (AmI win res (q + 1) (x.doesT kk nm tt).noted) := HI2
        generalize x.doesT kk nm tt = y at H5 HI2 hph5 ho5 HP5
        obtain ⟨m, hm⟩ : ∃ m, ov5.length = m := ⟨_, rfl⟩
        have hbd5 : y.badge = m + 1 := by unfold Am.badge; rw [← ho5, hm]
        obtain ⟨pa, pc, hpv, _, _⟩ := row_slice (H5.row 4 rfl)
        obtain ⟨L, hL⟩ : ∃ L, y.s.texts.length = L := ⟨_, rfl⟩
        rw [hL] at hpv
        have HLe := hid hL
        clear hL
        subst hpv
        have hb5 := H5.blk 0 rfl
        have x9 := cell_blk (i := 9) hb5 rfl
        have HM := hid (show m ≤ 1048577 from by have := HI2.out.od; have h : y.olds.length ≤ q + 1 := this; have := HL.out.1; have := HV.out.2.2; omega)
        rw [hm] at hvs5 hvl5
        have HVs := hid (And.intro hvs5 (And.intro hvl5 (And.intro hvm5 (And.intro hnv (And.intro hbd5 (And.intro ho5 hm))))))
        have H5 := hid H5
        clear hb5 hvs5 hvl5 hvm5 hnv hbd5 ho5 hm HB2 HP
        go_wp2_with fail
        go_loopw [9] (fun av wr => ∃ (n' j vc : Nat) (va : Option Addr), av = .slice va n' vc ∧ Hid (n' = n + j ∧ n' ≤ m + 2) ∧ Hid (St (Base.of w) wr (amL X S5 K N y (.slice pa L pc) nn5 ++ (RowT 32 1 (.slice va n' vc) n' (vs ++ List.replicate j nilS) :: zipT ov5 y.olds)))) (fun av _ => match av with | .slice _ k _ => m + 2 - k | _ => 0)
        case atStart => exact ⟨n, 0, vc, va, rfl, ⟨rfl, by rw [HVs.out.2.2.2.1]; exact HVs.out.2.1⟩, by
          have h := H5.out
          simp only [List.replicate_zero, List.append_nil]
          exact h⟩
        case round =>
          obtain ⟨n', j, vc', va', rfl, HJ, HQ⟩ := hrel
          have hbX := HQ.out.blk 0 rfl
          have y6 : wr.cell? ⟨X, 6, none⟩ = some (.int .i64 ((m + 1 : Nat) : Int)) := by
            have h := cell_blk (i := 6) hbX rfl
            rw [h]
            show some (Value.int .i64 (y.badge : Int)) = _
            rw [HVs.out.2.2.2.2.1]
          by_cases hlt : n' ≤ m + 1
          · have hle : (n' : Int) ≤ ((m + 1 : Nat) : Int) := by omega
            have H9 := HQ.out.alloc (.cells #[nilS] 32)
            have hbI := H9.blkIn _ 1 1 rfl (by decide) List.getElem?_concat_length
            obtain ⟨xs, hxs⟩ : ∃ xs, vs ++ List.replicate j nilS = xs := ⟨_, rfl⟩
            rw [hxs] at H9
            have HX := hid hxs
            have H9 := hid H9
            have HbI := hid hbI
            have HLt := hid hlt
            obtain ⟨i0, hi0, hz0, hz1, hz2⟩ := info_parts info_ss
            have HI := hid (And.intro hi0 (And.intro hz0 (And.intro hz1 hz2)))
            clear hi0 hz0 hz1 hz2 hbI hxs hbX hlt HQ
            go_wp2_with (at_builtin; refine wpAdded H9.out 5 rfl (.tmp 56) (.tmp 57) 27 rfl 32 i0 (.slice none 0 0) 1 24 Tryz.underlying27 HI.out.1 HI.out.2.1 HI.out.2.2.1 HI.out.2.2.2 rfl (by decide) (.slice va' n' vc') n' xs rfl rfl (some ⟨wr.heap.size, 0, none⟩) 1 1 (fun q => ([nilS] : List Value).getD q undef) rfl HbI.out (fun j hj => by (obtain rfl : j = 0 := by omega); rfl) (by have := HM.out; have := HLt.out; unfold maxLen; omega) (by have := HM.out; have := HLt.out; omega) ?_)
            intro a5 c5 w9 H10
            have H11 := hid (show St (Base.of w) w9 (amL X S5 K N y (.slice pa L pc) nn5 ++ (RowT 32 1 (.slice a5 (n' + 1) c5) (n' + 1) (vs ++ List.replicate (j + 1) nilS) :: zipT ov5 y.olds)) from by
              have h : St (Base.of w) w9 ((amL X S5 K N y (.slice pa L pc) nn5 ++ (RowT 32 1 (.slice a5 (n' + 1) c5) (n' + 1) (xs ++ [nilS]) :: zipT ov5 y.olds)) ++ [BlkT wr.heap.size (.cells #[nilS] 32)]) := H10
              rw [List.replicate_succ', ← List.append_assoc, HX.out]
              exact h.drop)
            clear H9 H10 HbI y6
            go_wp2_with fail
            refine ⟨⟨n' + 1, j + 1, c5, a5, rfl, ⟨by have := HJ.out.1; omega, by have := HLt.out; omega⟩, H11⟩, ?_⟩
            show m + 2 - (n' + 1) < m + 2 - n'
            have := HLt.out
            omega
          · obtain ⟨hj1, hj2⟩ := HJ.out
            have hnm : n' = m + 2 := by omega
            have hal : vs ++ List.replicate j nilS = alls ov5 z5 := by
              have h := HVs.out.1
              have e : m + 2 - vs.length = j := by have := HVs.out.2.2.2.1; omega
              rw [e] at h
              exact h
            rw [hal] at HQ
            have hrw := HQ.out.row 5 rfl
            obtain ⟨g9, c9, e9, _, _⟩ := ownsRow_shape hrw (by omega)
            simp only [Value.slice.injEq, true_and] at e9
            obtain ⟨rfl, rfl⟩ := e9
            have hom := HVs.out.2.2.2.2.2.2
            have hcu : (alls ov5 z5)[m + 1]? = some z5 := by rw [← hom]; exact alls_cur _ _
            obtain ⟨k1, k2⟩ := ownsRow_cell hrw _ hcu
            have hbX7 := cell_blk (i := 7) hbX rfl
            have hlt3 : ¬ ((n' : Int) ≤ ((m + 1 : Nat) : Int)) := by omega
            have hlt4 : ((m + 1 : Nat) : Int) < n' := by omega
            have HK := hid (show ∀ wx, Fr [] wr wx → wx.cell? ⟨X, 6, none⟩ = some (.int .i64 ((m + 1 : Nat) : Int)) ∧ wx.cell? ⟨X, 7, none⟩ = some (.slice pa L pc) from fun wx hF => ⟨hF.cell0 y6, cell_blk (i := 7) (hF.keep hbX (by simp)) rfl⟩)
            have HW := hid (show St (Base.of w) ((wr.setCell ⟨g9, m + 1, none⟩ (.slice pa L pc)).drew) (amL X S5 K N y (.slice pa L pc) nn5 ++ (RowT 32 1 (.slice (some ⟨g9, 0, none⟩) n' vc') n' (alls ov5 (.slice pa L pc)) :: zipT ov5 y.olds)) from by
              have h := (HQ.out.setRowCell 5 rfl (m + 1) (.slice pa L pc)).same ((Fr.refl _ _).drew)
              have e : (alls ov5 z5).set (m + 1) (.slice pa L pc) = alls ov5 (.slice pa L pc) := by rw [← hom]; exact alls_set _ _ _
              have h2 : St (Base.of w) ((wr.setCell ⟨g9, m + 1, none⟩ (.slice pa L pc)).drew) (amL X S5 K N y (.slice pa L pc) nn5 ++ (RowT 32 1 (.slice (some ⟨g9, 0, none⟩) n' vc') n' ((alls ov5 z5).set (m + 1) (.slice pa L pc)) :: zipT ov5 y.olds)) := h
              rw [e] at h2
              exact h2)
            have HNm := hid hnm
            obtain ⟨m1, hm1⟩ : ∃ m1 : Nat, m + 1 = m1 := ⟨_, rfl⟩
            rw [hm1] at HK HW k1 k2 hlt3 hlt4 y6
            have HM1 := hid hm1
            have k3 := k1
            clear hbX hbX7 hal hrw hcu hom hnm hj1 hj2 hlt HQ hm1
            go_wp2_with fail
            refine wp_region_U (S := fun wx : World => wx.cell? ⟨X, 6, none⟩ = some (.int .i64 m1) ∧ wx.cell? ⟨X, 7, none⟩ = some (.slice pa L pc)) 10 (by kernel_rfl) (HK.out _ ((Fr.refl _ _).drew)) (fun hHeld => ?_)
            refine takeU (i := 0) (d := 59) (v := ?_) rfl rfl (by kernel_rfl) (by kernel_rfl) (by kernel_rfl) (by kernel_rfl) (by kernel_rfl) (fun _ _ _ h => h) (Or.inl ⟨by rfl, ?_⟩) hHeld ?_
            rotate_left
            · intro wq hSw; (try dsimp only at hSw); go_simp; all_goals (with_reducible rfl)
            simp only [Act.put, List.setIfInBounds_toArray, List.set_cons_zero, List.set_cons_succ]
            refine takeU (i := 1) (d := 60) (v := ?_) rfl rfl (by kernel_rfl) (by kernel_rfl) (by kernel_rfl) (by kernel_rfl) (by kernel_rfl) (fun _ _ _ h => h) (Or.inl ⟨by rfl, ?_⟩) hHeld ?_
            rotate_left
            · intro wq hSw; (try dsimp only at hSw); go_simp; all_goals (with_reducible rfl)
            simp only [Act.put, List.setIfInBounds_toArray, List.set_cons_zero, List.set_cons_succ]
            refine takeU (i := 2) (d := 61) (v := ?_) rfl rfl (by kernel_rfl) (by kernel_rfl) (by kernel_rfl) (by kernel_rfl) (by kernel_rfl) (fun _ _ _ h => h) (Or.inl ⟨by rfl, ?_⟩) hHeld ?_
            rotate_left
            · intro wq hSw; (try dsimp only at hSw); go_simp; all_goals (with_reducible rfl)
            simp only [Act.put, List.setIfInBounds_toArray, List.set_cons_zero, List.set_cons_succ]
            refine takeU (i := 3) (d := 62) (v := ?_) rfl rfl (by kernel_rfl) (by kernel_rfl) (by kernel_rfl) (by kernel_rfl) (by kernel_rfl) (fun _ _ _ h => h) (Or.inl ⟨by rfl, ?_⟩) hHeld ?_
            rotate_left
            · intro wq hSw; (try dsimp only at hSw); go_simp; all_goals (with_reducible rfl)
            simp only [Act.put, List.setIfInBounds_toArray, List.set_cons_zero, List.set_cons_succ]
            refine takeU (i := 4) (d := 63) (v := ?_) rfl rfl (by kernel_rfl) (by kernel_rfl) (by kernel_rfl) (by kernel_rfl) (by kernel_rfl) (fun _ _ _ h => h) (Or.inl ⟨by rfl, ?_⟩) hHeld ?_
            rotate_left
            · intro wq hSw; (try dsimp only at hSw); go_simp; all_goals (with_reducible rfl)
            simp only [Act.put, List.setIfInBounds_toArray, List.set_cons_zero, List.set_cons_succ]
            refine takeU (i := 5) (d := 64) (v := ?_) rfl rfl (by kernel_rfl) (by kernel_rfl) (by kernel_rfl) (by kernel_rfl) (by kernel_rfl) (fun _ _ _ h => h) (Or.inl ⟨by rfl, ?_⟩) hHeld ?_
            rotate_left
            · intro wq hSw; (try dsimp only at hSw); go_simp; all_goals (with_reducible rfl)
            simp only [Act.put, List.setIfInBounds_toArray, List.set_cons_zero, List.set_cons_succ]
            refine takeU (i := 6) (d := 65) (v := ?_) rfl rfl (by kernel_rfl) (by kernel_rfl) (by kernel_rfl) (by kernel_rfl) (by kernel_rfl) (fun _ _ _ h => h) (Or.inl ⟨by rfl, ?_⟩) hHeld ?_
            rotate_left
            · intro wq hSw; (try dsimp only at hSw); go_simp; all_goals (with_reducible rfl)
            simp only [Act.put, List.setIfInBounds_toArray, List.set_cons_zero, List.set_cons_succ]
            refine takeU (i := 7) (d := 66) (v := ?_) rfl rfl (by kernel_rfl) (by kernel_rfl) (by kernel_rfl) (by kernel_rfl) (by kernel_rfl) (fun _ _ _ h => h) (Or.inl ⟨by rfl, ?_⟩) hHeld ?_
            rotate_left
            · intro wq hSw; (try dsimp only at hSw); go_simp; all_goals (with_reducible rfl)
            simp only [Act.put, List.setIfInBounds_toArray, List.set_cons_zero, List.set_cons_succ]
            refine takeU (i := 8) (d := 67) (v := ?_) rfl rfl (by kernel_rfl) (by kernel_rfl) (by kernel_rfl) (by kernel_rfl) (by kernel_rfl) (fun _ _ _ h => h) (Or.inl ⟨by rfl, ?_⟩) hHeld ?_
            rotate_left
            · intro wq hSw; (try dsimp only at hSw); go_simp; all_goals (with_reducible rfl)
            simp only [Act.put, List.setIfInBounds_toArray, List.set_cons_zero, List.set_cons_succ]
            refine takeU (i := 9) (d := 68) (v := ?_) rfl rfl (by kernel_rfl) (by kernel_rfl) (by kernel_rfl) (by kernel_rfl) (by kernel_rfl) (fun _ _ _ h => h) (Or.inl ⟨by rfl, ?_⟩) hHeld ?_
            rotate_left
            · intro wq hSw; (try dsimp only at hSw); go_simp; all_goals (with_reducible rfl)
            simp only [Act.put, List.setIfInBounds_toArray, List.set_cons_zero, List.set_cons_succ]
            refine wpAnyU_ready (rs := [10]) (by kernel_rfl) (by simp) ?_
            refine AllReadyU.cons rfl (fun K1 hK => ?_) AllReadyU.nil
            go_simp
            refine hK.out _ _ (fun h => absurd rfl h) (fun _ => ?_)
            clear hK K1 hHeld
            refine wpAnyU_done (by kernel_rfl) ?_ _
            generalize (wr.setCell _ _).drew = w8 at HW ⊢
            have HW2 : Hid (St (Base.of w) w8 (amL X S5 K N y.noted (.slice pa L pc) nn5 ++ (RowT 32 1 (.slice (some ⟨g9, 0, none⟩) n' vc') n' (alls ov5 (.slice pa L pc)) :: zipT ov5 y.noted.olds))) := HW
            have hbX := HW.out.blk 0 rfl
            have x2 := cell_blk (i := 2) hbX rfl
            have HNt := hid (show Noted y.noted (.slice pa L pc) ov5 (alls ov5 (.slice pa L pc)) ∧ n' = (alls ov5 (.slice pa L pc)).length from ⟨⟨HVs.out.2.2.2.2.2.1, .inl ⟨rfl, rfl⟩⟩, by rw [alls_len, HVs.out.2.2.2.2.2.2, HNm.out]⟩)
            have hq1 := hid (show (q : Int) + 1 = ((q + 1 : Nat) : Int) from by omega)
            have Hmes := hid (show len - ((q : Int) + 1).toNat < len - (q : Int).toNat from by have := HL.out.1; omega)
            clear k1 k2 k3 y6 hbX HK
            rcases hh : y.k.held with _ | ⟨B, ps⟩
            · have HAr := hid (st_arts_none HW.out 2 rfl hh)
              clear hh
              go_wp2_with fail
              refine HAr.out.mono ?_
              rintro e w9 ⟨rfl, hF9⟩
              have H10 := hid (HW2.out.same hF9)
              clear HAr hF9 x2
              go_wp2_with fail
              exact ⟨⟨q + 1, y.noted, S5, .slice pa L pc, nn5, vc', n', some ⟨g9, 0, none⟩, alls ov5 (.slice pa L pc), ov5, last, by have := HL.out.1; omega, by rw [hq1.out], rfl, rfl, H10, HI2, ⟨hph5.out, HP5.out, HNt.out.1, HNt.out.2⟩⟩, Hmes.out⟩
            · have hok : y.noted.ok := HI2.out.ok
              have hhn : y.noted.k.held = some (B, ps) := hh
              obtain ⟨hB1, hB2, _⟩ := hok.held_is hhn
              have hB3 : B ≤ m1 := by
                have h : y.noted.badge = m + 1 := HVs.out.2.2.2.2.1
                rw [h] at hB2
                have := HM1.out
                omega
              have hps : ps.length ≤ 16 := by
                have h := hok.ps_few
                unfold Kn.ps at h
                rw [hhn] at h
                exact h
              have hBk : y.k.B = B := by unfold Kn.B; rw [hh]
              have HAr := hid (st_arts_some HW2.out 2 rfl hhn (by have := HM.out; have := HM1.out; omega) hps)
              have HHh := hid (And.intro hok (And.intro hhn (And.intro hB1 (And.intro hB3 (And.intro hps hBk)))))
              clear hh hok hhn hB1 hB2 hB3 hps hBk
              go_wp2_with fail
              refine HAr.out.mono ?_
              rintro e w9 ⟨g, cg, a', c', rfl, H10⟩
              clear HAr x2
              obtain ⟨r, aB, cB, hAB, hcB1, hcB2, hpre, hTi⟩ := all_at H10.drop HNt.out.1.1 HHh.out.1 HHh.out.2.1
              have hTp := H10.txIn _ (get_behind _ _ 1) (by have := HHh.out.2.2.2.2.1; omega)
              have hra := H10.row 5 rfl
              have hrg := H10.row _ (get_behind _ _ 0)
              have q0 := (ownsRow_cell hrg 0 rfl).1
              have q1 := (ownsRow_cell hrg 1 rfl).1
              have q2 := (ownsRow_cell hrg 2 rfl).1
              have qB := (ownsRow_cell hra B hAB).1
              have hbX := H10.blk 0 rfl
              have qX : w9.cell? ⟨X, 6, none⟩ = some (.int .i64 (m1 : Nat)) := by
                have h := cell_blk (i := 6) hbX rfl
                rw [h]
                show some (Value.int .i64 (y.badge : Int)) = _
                rw [HVs.out.2.2.2.2.1, HM1.out]
              have HK := hid (show ∀ wx, Fr [] w9 wx → wx.cell? ⟨g, 0, none⟩ = some (.int .i64 1) ∧ wx.cell? ⟨g, 1, none⟩ = some (.int .i64 B) ∧ wx.cell? ⟨g, 2, none⟩ = some (.slice a' ps.length c') ∧ wx.cell? ⟨g9, B, none⟩ = some (.slice (some ⟨aB, 0, none⟩) (r.length + 1) cB) ∧ wx.cell? ⟨X, 6, none⟩ = some (.int .i64 m1) from fun wx hF => ⟨hF.cell0 q0, hF.cell0 q1, hF.cell0 q2, hF.cell0 qB, hF.cell0 qX⟩)
              have HBc := hid (show ∀ wx, Fr [] w9 wx → Calls Tryz.prog 9 #[.slice (some ⟨aB, 0, none⟩) (r.length + 1) cB] wx fun e w' => e = .returned (.slice (some ⟨aB, bcO 0 cB, none⟩) r.length (cB - 1)) ∧ wx = w' from fun wx hF => bclaim wx aB 0 r.length cB hcB1 (Nat.le_trans hcB2 (by decide)))
              have HBh := hid (show ∀ wx, Fr [] w9 wx → Calls Tryz.prog 8 #[.slice a' ps.length c', .slice (some ⟨aB, bcO 0 cB, none⟩) r.length (cB - 1)] wx fun e w' => e = .returned (.bool true) ∧ Fr [] wx w' from fun wx hF => behind_in wx _ _ c' (cB - 1) ps r (hTp.same hF) ((hTi.claim cB hcB1).same hF) hpre)
              have H10 := hid H10
              have b1 : decide ((B : Int) < last) = false := decide_eq_false (by have := HP5.out; rw [HHh.out.2.2.2.2.2] at this; omega)
              have b1n : decide (B < last) = false := decide_eq_false (by have := HP5.out; rw [HHh.out.2.2.2.2.2] at this; omega)
              have b2 : decide ((B : Int) < 1) = false := decide_eq_false (by have := HHh.out.2.2.1; omega)
              have b2n : decide (B < 1) = false := decide_eq_false (by have := HHh.out.2.2.1; omega)
              have b3 : decide ((m1 : Int) < B) = false := decide_eq_false (by have := HHh.out.2.2.2.1; omega)
              have b3n : decide (m1 < B) = false := decide_eq_false (by have := HHh.out.2.2.2.1; omega)
              have b4 : (B : Int) < n' := by have := HHh.out.2.2.2.1; have := HNm.out; have := HM1.out; omega
              obtain ⟨R1, hR1⟩ : ∃ R1, r.length + 1 = R1 := ⟨_, rfl⟩
              rw [hR1] at HK HBc
              obtain ⟨P1, hP1⟩ : ∃ P1, ps.length = P1 := ⟨_, rfl⟩
              have HPl := hid hP1
              rw [hP1] at HK HBh
              clear hAB hcB1 hcB2 hpre hTi hTp hra hrg q0 q1 q2 qB qX hbX hR1 hP1
              go_wp2_with fail
              refine wp_region_calm (S := fun wx : World => Fr [] w9 wx) (by kernel_rfl) (by kernel_rfl) ((Fr.refl _ _).drew) ?_
              repeat (first | (refine calmRow_free (v := ?_) rfl ?_ ?_; rotate_left; (focus (intro wx hSx; (try dsimp only at hSx); have hcx := HK.out wx hSx; go_simp; (first | with_reducible rfl | exact ⟨rfl, hSx⟩ | (first | (go_at_call 9; refine (HBc.out _ hSx).mono ?_; rintro e w10 ⟨rfl, rfl⟩; refine ⟨?_, hSx⟩; with_reducible rfl) | (go_at_call 8; refine (HBh.out _ hSx).mono ?_; rintro e w10 ⟨rfl, hF10⟩; refine ⟨?_, hSx.trans hF10⟩; with_reducible rfl))))); (try simp only [Act.put, List.setIfInBounds_toArray, List.set_cons_zero, List.set_cons_succ])) | (refine calmRow_skip ?_ ?_; (focus (go_simp; (try (intro hx; cases hx)); done)); (try simp only [Act.put, List.setIfInBounds_toArray, List.set_cons_zero, List.set_cons_succ])) | (refine calmRow_take (v := ?_) ?_ ?_ ?_; rotate_left; (focus (go_simp; done)); (focus (intro wx hSx; (try dsimp only at hSx); have hcx := HK.out wx hSx; go_simp; (first | with_reducible rfl | exact ⟨rfl, hSx⟩ | (first | (go_at_call 9; refine (HBc.out _ hSx).mono ?_; rintro e w10 ⟨rfl, rfl⟩; refine ⟨?_, hSx⟩; with_reducible rfl) | (go_at_call 8; refine (HBh.out _ hSx).mono ?_; rintro e w10 ⟨rfl, hF10⟩; refine ⟨?_, hSx.trans hF10⟩; with_reducible rfl))))); (try simp only [Act.put, List.setIfInBounds_toArray, List.set_cons_zero, List.set_cons_succ])))
              refine calmRow_nil ?_
              intro wn hFx
              try dsimp only at hFx
              obtain ⟨c0, c1, c2, c3, c4⟩ := HK.out _ hFx
              have H11 := hid ((H10.out.same hFx).drop)
              go_wp2_with fail
              exact ⟨⟨q + 1, y.noted, S5, .slice pa L pc, nn5, vc', n', some ⟨g9, 0, none⟩, alls ov5 (.slice pa L pc), ov5, B, by have := HL.out.1; omega, by rw [hq1.out], rfl, rfl, H11, HI2, ⟨hph5.out, Nat.le_of_eq HHh.out.2.2.2.2.2.symm, HNt.out.1, HNt.out.2⟩⟩, Hmes.out⟩
      · obtain rfl : q = len := by omega
        obtain ⟨pa, pc, rfl, _, _⟩ := row_slice (HH.out.row 4 rfl)
        have x7 := cell_blk (i := 7) hbX rfl
        obtain ⟨L, hL⟩ : ∃ L, x.s.texts.length = L := ⟨_, rfl⟩
        obtain ⟨M, hM⟩ : ∃ M, (x.s.texts.length + 1) * (x.s.res + 2) = M := ⟨_, rfl⟩
        have hL32 : L ≤ 17 := by rw [← hL]; exact HI.out.ok.d4
        rw [hL] at HH
        have hM2 : M = (L + 1) * (res + 2) := by rw [← hM, hL, HI.out.rs]
        have hMb : M ≤ 600 := by
          have h1 := HV.out.2.1.2
          rw [hM2]
          calc (L + 1) * (res + 2) ≤ 18 * 18 := Nat.mul_le_mul (by omega) (by omega)
            _ ≤ 600 := by decide
        have hmul : wrap64 (((L : Int) + 1) * ((res : Int) + 2)) = (M : Int) := by
          have e : ((L : Int) + 1) * ((res : Int) + 2) = (M : Int) := by rw [hM2]; push_cast; rfl
          rw [e, IntWalk.wrap64_in _ (by omega)]
        have hends := hid (show (Am.rounds M x).s.texts = x.s.texts ∧ (Am.rounds M x).s.done = x.s.texts.length ∧ ∃ ps, (Am.rounds M x).k.held = some (x.badge, ps) ∧ x.s.texts = ⟨#[]⟩ :: ps from by rw [← hM]; exact HI.out.ok.ends)
        have hRd := hid (fun j => HI.out.ok.rounds j)
        have hBd := hid (show x.badge ≤ 1048577 from by have := HI.out.od; have := HV.out.2.2; unfold Am.badge; omega)
        have hFew := hid (fun j => HI.out.ok.few_rounds (B := 8 * 1048576) (.inl (by have := HI.out.bg; have := HV.out.2.2; omega)) j)
        have HM := hid (And.intro hMb (And.intro hL hL32))
        have hL9 : (L : Int) ≤ 17 := by omega
        have hres9 : (res : Int) ≤ 16 := by have := HV.out.2.1.2; omega
        have HPh := hid HP.out.1
        clear hbX hlt hq hM hM2 hMb hL hL32 x7 x9 H3 HI0 HN0 HP
        go_wp2_with fail
        go_loopw [13] (fun jv wr => ∃ (j nn' : Nat), j ≤ M ∧ jv = .int .i64 j ∧ Hid (nn' ≤ (Am.rounds j x).k.phi) ∧ Hid (St (Base.of w) wr (amL X S K N (Am.rounds j x) (.slice pa L pc) nn' ++ (RowT 32 1 (.slice va n vc) n vs :: zipT ov x.olds)))) (fun jv _ => M - (intOf jv).toNat)
        case atStart => exact ⟨0, nn, Nat.zero_le _, rfl, HPh, HH⟩
        case round =>
          obtain ⟨j, nn', hj, rfl, HPj, HJ⟩ := hrel
          have hbX := HJ.out.blk 0 rfl
          have y7 := cell_blk (i := 7) hbX rfl
          have y9 := cell_blk (i := 9) hbX rfl
          by_cases hlt : j < M
          · have hlt2 : (j : Int) < M := by omega
            have HRn := hid (st_around HJ.out (hRd.out j).1 (by rw [(hRd.out j).2.2.2.2]; have := hBd.out; omega) (by
              have h := hFew.out j
              rcases h with h | ⟨h, _⟩ <;> omega) HPj.out)
            have HL := hid (And.intro hlt hj)
            have hM9 : (M : Int) ≤ 600 := by have := HM.out.1; omega
            clear hbX hlt hj
            go_wp2_with fail
            refine HRn.out.mono ?_
            rintro e w6 ⟨nn6, hph6, rfl, H6⟩
            rw [← Am.rounds_succ] at H6 hph6
            have H6 := hid H6
            clear y7 y9
            go_wp2_with fail
            have hq1 : (j : Int) + 1 = ((j + 1 : Nat) : Int) := by omega
            refine ⟨⟨j + 1, nn6, by have := HL.out.1; omega, by rw [hq1], hph6, H6⟩, ?_⟩
            show M - ((j : Int) + 1).toNat < M - (j : Int).toNat
            have := HL.out.1
            omega
          · obtain rfl : j = M := by omega
            obtain ⟨e1, e2, ps, e3, e4⟩ := hends.out
            have eb := (hRd.out j).2.2.2.2
            have hyok := hid (hRd.out j).1
            generalize Am.rounds j x = y at HJ e1 e2 e3 eb hbX hyok y7 y9
            have eL : y.s.texts.length = L := by rw [e1]; exact HM.out.2.1
            have eD : y.s.done = L := by rw [e2]; exact HM.out.2.1
            have eT : y.s.texts = ⟨#[]⟩ :: ps := e1.trans e4
            have eP : ps.length + 1 = L := by rw [← eL, eT]; rfl
            have hbd3 := hBd.out
            have HAr := hid (st_arts_some HJ.out 2 rfl e3 (by omega) (by have := HM.out.2.2; omega))
            have y2 := cell_blk (i := 2) hbX rfl
            have HE := hid (And.intro eL (And.intro eD (And.intro eT (And.intro eP eb))))
            have hne : ¬ ((j : Int) < j) := by omega
            clear hlt hj e1 e2 e3 e4 eb eL eD eT eP hbX hbd3
            go_wp2_with fail
            refine HAr.out.mono ?_
            rintro e w9 ⟨g, cg, a', c', rfl, H10⟩
            clear HAr y2 y7 y9
            obtain ⟨eL, eD, eT, eP, eb⟩ := HE.out
            have hr4 := H10.row 4 rfl
            obtain ⟨g4, c4, e4, hc1, hc2⟩ := ownsRow_shape hr4 (by rw [eL]; omega)
            have hpaL : pa = some ⟨g4, 0, none⟩ ∧ pc = c4 := by
              simp only [Value.slice.injEq] at e4
              exact ⟨e4.1, e4.2.2⟩
            obtain ⟨rfl, rfl⟩ := hpaL
            have hTi := H10.txIn 4 (a := some ⟨g4, 0, none⟩) (n := L) (c := pc) (l := y.s.texts) (by rfl) (by rw [eL]; have := HM.out.2.2; omega)
            rw [eT] at hTi
            have hTp := H10.txIn _ (get_behind _ _ 1) (by have := HM.out.2.2; omega)
            have hrg := H10.row _ (get_behind _ _ 0)
            have q1 := (ownsRow_cell hrg 1 rfl).1
            have q2 := (ownsRow_cell hrg 2 rfl).1
            have hbX := H10.blk 0 rfl
            obtain ⟨bd, hbd⟩ : ∃ bd, x.badge = bd := ⟨_, rfl⟩
            obtain ⟨P1, hP1⟩ : ∃ P1, ps.length = P1 := ⟨_, rfl⟩
            have z6 : w9.cell? ⟨X, 6, none⟩ = some (.int .i64 (bd : Nat)) := by
              have h := cell_blk (i := 6) hbX rfl
              rw [h]
              show some (Value.int .i64 (y.badge : Int)) = _
              rw [eb, hbd]
            have z7 : w9.cell? ⟨X, 7, none⟩ = some (.slice (some ⟨g4, 0, none⟩) L pc) := cell_blk (i := 7) hbX rfl
            have z0 : w9.cell? ⟨X, 0, none⟩ = some (ptr S) := cell_blk (i := 0) hbX rfl
            rw [hbd] at q1
            rw [hP1] at q2
            have HK := hid (show ∀ wx, Fr [] w9 wx → wx.cell? ⟨g, 1, none⟩ = some (.int .i64 bd) ∧ wx.cell? ⟨g, 2, none⟩ = some (.slice a' P1 c') ∧ wx.cell? ⟨X, 6, none⟩ = some (.int .i64 bd) ∧ wx.cell? ⟨X, 7, none⟩ = some (.slice (some ⟨g4, 0, none⟩) L pc) ∧ wx.cell? ⟨X, 0, none⟩ = some (ptr S) from fun wx hF => ⟨hF.cell0 q1, hF.cell0 q2, hF.cell0 z6, hF.cell0 z7, hF.cell0 z0⟩)
            have HBc := hid (show ∀ wx, Fr [] w9 wx → Calls Tryz.prog 9 #[.slice (some ⟨g4, 0, none⟩) L pc] wx fun e w' => e = .returned (.slice (some ⟨g4, bcO 0 pc, none⟩) P1 (pc - 1)) ∧ wx = w' from fun wx hF => by
              rw [← eP, hP1]
              exact bclaim wx g4 0 P1 pc (by rw [← hP1, eP, ← eL]; exact hc1) (Nat.le_trans hc2 (by decide)))
            have HBh := hid (show ∀ wx, Fr [] w9 wx → Calls Tryz.prog 8 #[.slice a' P1 c', .slice (some ⟨g4, bcO 0 pc, none⟩) P1 (pc - 1)] wx fun e w' => e = .returned (.bool true) ∧ Fr [] wx w' from fun wx hF => by
              rw [← hP1]
              exact behind_in wx _ _ c' (pc - 1) ps ps (hTp.same hF) ((hTi.claim pc (by rw [eP, ← eL]; exact hc1)).same hF) (fun k t h => h))
            have HAk := hid (show ∀ wx, Fr [] w9 wx → Calls Tryz.prog 11 #[ptr S] wx fun e w' => e = .returned (.int .i64 L) ∧ wx = w' from fun wx hF => by
              have h := st_sacked (H10.same hF) 1 rfl
              rw [eD] at h
              exact h)
            have HFr := hid H10.fr
            have hPL : P1 + 1 = L := by rw [← hP1]; exact eP
            have hp9 : (P1 : Int) ≤ 16 := le16 hPL HM.out.2.2
            clear eL eD eT eP eb hr4 e4 hc1 hc2 hTi hTp hrg q1 q2 hbX hbd hP1 z6 z7 z0 H10
            subst hPL
            have hw1 : IntKind.i64.wrap ((P1 : Int) + 1) = (P1 : Int) + 1 := IntWalk.i64_in _ (by omega)
            have hw2 : (IntKind.i64.wrap ((P1 : Int) + 1) == (P1 : Int) + 1) = true := by rw [hw1]; exact beq_self_eq_true _
            go_wp2_with fail
            refine wp_region_calm (S := fun wx : World => Fr [] w9 wx) (by kernel_rfl) (by kernel_rfl) ((Fr.refl _ _).drew) ?_
            repeat (first | (refine calmRow_free (v := ?_) rfl ?_ ?_; rotate_left; (focus (intro wx hSx; (try dsimp only at hSx); have hcx := HK.out wx hSx; go_simp; (first | with_reducible rfl | exact ⟨rfl, hSx⟩ | (first | (go_at_call 9; refine (HBc.out _ hSx).mono ?_; rintro e w10 ⟨rfl, rfl⟩; refine ⟨?_, hSx⟩; with_reducible rfl) | (go_at_call 8; refine (HBh.out _ hSx).mono ?_; rintro e w10 ⟨rfl, hF10⟩; refine ⟨?_, hSx.trans hF10⟩; with_reducible rfl) | (go_at_call 11; refine (HAk.out _ hSx).mono ?_; rintro e w10 ⟨rfl, rfl⟩; refine ⟨?_, hSx⟩; with_reducible rfl))))); (try simp only [Act.put, List.setIfInBounds_toArray, List.set_cons_zero, List.set_cons_succ])) | (refine calmRow_skip ?_ ?_; (focus (go_simp; (try (intro hx; cases hx)); done)); (try simp only [Act.put, List.setIfInBounds_toArray, List.set_cons_zero, List.set_cons_succ])) | (refine calmRow_take (v := ?_) ?_ ?_ ?_; rotate_left; (focus (go_simp; done)); (focus (intro wx hSx; (try dsimp only at hSx); have hcx := HK.out wx hSx; go_simp; (first | with_reducible rfl | exact ⟨rfl, hSx⟩ | (first | (go_at_call 9; refine (HBc.out _ hSx).mono ?_; rintro e w10 ⟨rfl, rfl⟩; refine ⟨?_, hSx⟩; with_reducible rfl) | (go_at_call 8; refine (HBh.out _ hSx).mono ?_; rintro e w10 ⟨rfl, hF10⟩; refine ⟨?_, hSx.trans hF10⟩; with_reducible rfl) | (go_at_call 11; refine (HAk.out _ hSx).mono ?_; rintro e w10 ⟨rfl, rfl⟩; refine ⟨?_, hSx⟩; with_reducible rfl))))); (try simp only [Act.put, List.setIfInBounds_toArray, List.set_cons_zero, List.set_cons_succ])))
            refine calmRow_nil ?_
            intro wn hFx
            try dsimp only at hFx
            go_wp2_with fail
            go_ret
            exact ⟨rfl, HFr.out.trans hFx⟩
  · have hNs := hid (fun (wx : World) => st_newStream_no (w := wx) x0 x1 hv true)
    clear hv hS hk hn ht hlen
    go_enter Tryz.func3, Tryz.ntmps3
    go_wp2_with fail
    refine hfl.out.mono ?_
    rintro e w1 ⟨rfl, hF1⟩
    go_wp2_with fail
    refine (hNs.out _).mono ?_
    rintro e w2 ⟨rfl, rfl⟩
    go_wp2_with fail
    go_ret
    exact ⟨rfl, hF1⟩

end Go.Proofs.YtkiccbjngokpjaaGreat
