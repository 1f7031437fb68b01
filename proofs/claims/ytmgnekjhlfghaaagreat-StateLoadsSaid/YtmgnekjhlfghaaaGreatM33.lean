/-
  Merged, in build order: TL.
-/
import Derived.Deep.RegionHeld3
import Derived.Test.YtmgnekjhlfghaaaGreatM31
import Derived.Test.YtmgnekjhlfghaaaGreatM32
/-
  The laws' helper of layer 17: played.
-/
namespace Go.Proofs.YtmgnekjhlfghaaaGreat
open Go.RowKit
set_option linter.unusedVariables false
set_option linter.unusedSimpArgs false

theorem cells2_same {ps : List P3} {k : Nat} {p p' : P3} (h : ps[k]? = some p) (hS : p'.S = p.S) (hX : p'.X = p.X) : cells2 (ps.set k p') = cells2 ps := by
  induction ps generalizing k with
  | nil => simp at h
  | cons q r ih =>
    match k with
    | 0 =>
      simp at h; subst h
      show Value.pointer (some ⟨p'.S, 0, none⟩) :: .pointer (some ⟨p'.X, 0, none⟩) :: cells2 r = _
      rw [hS, hX]; rfl
    | k + 1 => exact congrArg (fun l => Value.pointer (some ⟨q.S, 0, none⟩) :: .pointer (some ⟨q.X, 0, none⟩) :: l) (ih (k := k) (by simpa using h))
theorem perm_new2 {α : Type _} {A : α} {T : List α} {B S X N : α} : (A :: (T ++ [B, S, X, N])).Perm ((A :: (T ++ [S, X])) ++ [B, N]) := by
  show (A :: (T ++ [B, S, X, N])).Perm (A :: ((T ++ [S, X]) ++ [B, N]))
  rw [List.append_assoc]
  exact (List.Perm.append_left T ((List.perm_append_comm (l₁ := [B]) (l₂ := [S, X])).append_right [N])).cons A
set_option maxHeartbeats 1000000 in
set_option maxRecDepth 100000 in
theorem played17 {w0 w : World} {S X : Nat} {v : SV} (H : St (.of w0) w [SkT S v, XsT X v]) (hv : v.wf) (n : Int) (hn : v.q.att = n) (s : Option Addr) (ns cs : Nat) (l : List Op17) (hO : OpsArg w0 s ns cs l) :
    Calls Tryz.prog 20 #[.int .i64 n, .agg #[.pointer (some ⟨S, 0, none⟩), .pointer (some ⟨X, 0, none⟩)], .slice s ns cs] w fun e w' => e = .returned (.bool true) ∧ Fr [] w0 w' := by
  have hle := hO.le
  have hcap := hO.cap
  have hns : ns ≤ 140737488351232 := by omega
  have HO := hid hO
  have HNS := hid hns
  have hn1 : 1 ≤ n ∧ n ≤ 8 := by have h1 := hv.q.a1; have h2 := hv.q.a2; omega
  have HN1 := hid hn1
  obtain ⟨i0, hi, hz0, hz1, hz2⟩ := info_parts info_pair17
  have HI := hid (And.intro hi (And.intro hz0 (And.intro hz1 hz2)))
  clear hO hi hz0 hz1 hz2 hle hcap hn1 hns
  go_enter Tryz.func20, Tryz.ntmps20
  go_wp2_with fail
  have H1 : St (.of w0) ((w.alloc (prO S X)).alloc (prO S X)) ([SkT S v, XsT X v] ++ [RowT 64 2 (.slice (some ⟨w.heap.size + 1, 0, none⟩) 1 1) 1 (cells2 [⟨S, X, v⟩])]) :=
    (H.alloc_ (prO S X)).new ((Fr.refl _ _).alloc _) inferInstance (F := [w.heap.size + 1]) ⟨rfl, by simp [cells2], .inr ⟨w.heap.size + 1, 1, _, rfl, Nat.zero_le _, blk_alloc_at _ _ _ (by simp), Nat.le_refl _, by decide, rfl, rfl⟩⟩ (by simp)
  have hP : PInv2 w0 ((w.alloc (prO S X)).alloc (prO S X)) n (.slice (some ⟨w.heap.size + 1, 0, none⟩) 1 1) [⟨S, X, v⟩] :=
    ⟨H1.perm List.perm_append_comm, by intro p hp; simp at hp; subst hp; exact ⟨hv, hn⟩, by simp, by simp⟩
  have HP := hid hP
  clear H H1 hP hv hn
  go_loopw [7, 8] (fun u i wr => ∃ (k : Nat) (ps : List P3), k ≤ ns ∧ i = .int .i64 k ∧ (∃ g cap, u = .slice (some ⟨g, 0, none⟩) ps.length cap) ∧ Hid (PInv2 w0 wr n u ps)) (fun _ i _ => ns - (intOf i).toNat)
  case atStart => exact ⟨0, _, Nat.zero_le _, rfl, ⟨_, _, rfl⟩, HP⟩
  case round =>
    clear HP
    obtain ⟨k, ps, hk, rfl, ⟨g, cap, rfl⟩, HV⟩ := hrel
    have hl1 := HV.out.l1
    have hl2 := HV.out.l2
    have HL12 := hid (And.intro hl1 hl2)
    by_cases hlt : k < ns
    · obtain ⟨bb, ob, rfl⟩ := HO.out.row.sm (by omega)
      obtain ⟨x, hx⟩ : ∃ x, oL.nth l k = x := ⟨_, rfl⟩
      have hkl : k < l.length := by rw [HO.out.len]; exact hlt
      have HX := hid (HO.out.one x (by rw [← hx]; exact oL.mem_nth hkl))
      have HC := hid (fun (wx : World) (hF : Fr [] w0 wx) => op_cells (HO.out.row.fr0 hF) k hlt x hx)
      obtain ⟨d0, d1, d2, d3⟩ := HC.out _ HV.out.st.fr
      have hon := HX.out.nums x.on (.inl rfl)
      have hpl := place17 x.on ps.length wr hon.1 hon.2 (by omega) (by omega)
      obtain ⟨j, hj⟩ : ∃ j : Nat, x.on % (ps.length : Int) = j := ⟨(x.on % (ps.length : Int)).toNat, by have := Int.emod_nonneg x.on (show (ps.length : Int) ≠ 0 by omega); omega⟩
      have hjl : j < ps.length := by have := Int.emod_lt_of_pos x.on (show 0 < (ps.length : Int) by omega); omega
      rw [hj] at hpl
      have HPL := hid hpl
      obtain ⟨p, hp⟩ : ∃ p, ps[j]? = some p := ⟨_, List.getElem?_eq_getElem hjl⟩
      have hok := HV.out.ok p (List.mem_of_getElem? hp)
      obtain ⟨u0, u1⟩ := cells2_get hp
      have r0 := (ownsRow_cell (HV.out.st.row 0 rfl) _ u0).1
      have r1 := (ownsRow_cell (HV.out.st.row 0 rfl) _ u1).1
      have HB := hid (show St (.of w0) (wr.alloc (prO p.S p.X)) ((RowT 64 2 (.slice (some ⟨g, 0, none⟩) ps.length cap) ps.length (cells2 ps) :: things2 ps) ++ [BlkT wr.heap.size (prO p.S p.X)]) from HV.out.st.alloc _)
      obtain ⟨bx, hbx⟩ : ∃ bx, wr.heap.size = bx := ⟨_, rfl⟩
      rw [hbx] at HB
      have HBX := hid hbx
      have HK := hid (And.intro hok (And.intro hp (And.intro hjl hlt)))
      obtain ⟨on, kind, nn, ch, ca, cc⟩ := x
      dsimp only at d0 d1 d2 d3 HPL
      have hk0 : (0 : Int) ≤ k := by omega
      have hk1 : (k : Int) < ns := by omega
      have hj0 : (0 : Int) ≤ j := by omega
      have hj1 : (j : Int) < ps.length := by omega
      clear hx hkl hon hpl hj hp hok u0 u1 hjl hlt hk hbx d2 d3 hl1 hl2
      go_wp2_with fail
      refine HPL.out.mono ?_
      rintro e w1 ⟨rfl, rfl⟩
      go_upto_region 7 with (fail)
      rw [HBX.out]
      have hfr := HB.out.fr
      generalize wr.alloc (prO p.S p.X) = w2 at HB hfr ⊢
      clear d0 d1 r0 r1 HPL HBX
      obtain ⟨d0, d1, d2, d3⟩ := HC.out _ hfr
      have hbb := HB.out.chB
      have x0 := cell_blk (i := 0) hbb rfl
      have x1 := cell_blk (i := 1) hbb rfl
      have lbb := lt_of_block hbb
      (try dsimp only at d0 d1 d2 d3)
      clear hbb hfr
      have hgS := (things2_get HK.out.2.1 (RowT 64 2 (.slice (some ⟨g, 0, none⟩) ps.length cap) ps.length (cells2 ps)) [BlkT bx (prO p.S p.X)]).1
      have hgX := (things2_get HK.out.2.1 (RowT 64 2 (.slice (some ⟨g, 0, none⟩) ps.length cap) ps.length (cells2 ps)) [BlkT bx (prO p.S p.X)]).2
      have HG := hid (And.intro hgS hgX)
      clear hgS hgX
      by_cases h5 : kind = 5
      · have e5 : (kind == 5) = true := by rw [beq_iff_eq]; exact h5
        clear h5
        go_wp2_with fail
        refine (st_sclone HB.out (2 * j + 1) HG.out.1 HK.out.1.1).mono ?_
        rintro e w3 ⟨C, rfl, H3⟩
        rw [List.append_assoc] at H3
        have hbb : w3.heap[bx]? = some (prO p.S p.X) := H3.blk ((RowT 64 2 (.slice (some ⟨g, 0, none⟩) ps.length cap) ps.length (cells2 ps) :: things2 ps).length + 0) (by rw [get_behind]; rfl)
        clear x0 x1 lbb d0 d1 d2 d3
        have x1 := cell_blk (i := 1) hbb rfl
        have lbb := lt_of_block hbb
        by_cases hlen : ps.length < 5
        · have hc5 : (ps.length : Int) < 5 := by omega
          have HLN := hid hlen
          have HCP := hid (st_tcopy H3 (2 * j + 2) (X := p.X) (v := p.v) (by exact (things2_get HK.out.2.1 (RowT 64 2 (.slice (some ⟨g, 0, none⟩) ps.length cap) ps.length (cells2 ps)) _).2))
          clear hbb H3 hlen
          go_wp2_with fail
          refine HCP.out.mono ?_
          rintro e w4 ⟨Y, rfl, H4⟩
          rw [List.append_assoc] at H4
          have H5 := hid (show St (.of w0) (w4.alloc (prO C Y)) ((RowT 64 2 (.slice (some ⟨g, 0, none⟩) ps.length cap) ps.length (cells2 ps) :: things2 ps) ++ [BlkT bx (prO p.S p.X), SkT C p.v, XsT Y p.v, BlkT w4.heap.size (prO C Y)]) from by
            have h := H4.alloc (prO C Y)
            rw [List.append_assoc] at h
            exact h)
          clear H4 x1 lbb HCP
          have hm8 : ps.length + 1 ≤ maxLen := by have := HL12.out; unfold maxLen; omega
          have hm9 : (ps.length + 1) * 16 ≤ 140737488355328 := by have := HL12.out; omega
          have HM := hid (And.intro hm8 hm9)
          clear hm8 hm9
          go_wp2_with (at_builtin; refine wpAdded H5.out 0 rfl (.tmp 60) (.tmp 66) 106 rfl 64 i0 (.agg #[.pointer none, .pointer none]) 2 16 Tryz.underlying106 HI.out.1 HI.out.2.1 HI.out.2.2.1 HI.out.2.2.2 rfl (by decide) (.slice (some ⟨g, 0, none⟩) ps.length cap) ps.length (cells2 ps) rfl rfl (some ⟨w4.heap.size, 0, none⟩) 1 1 (fun q => ([.pointer (some ⟨C, 0, none⟩), .pointer (some ⟨Y, 0, none⟩)] : List Value).getD q undef) rfl (H5.out.blkIn ((RowT 64 2 (.slice (some ⟨g, 0, none⟩) ps.length cap) ps.length (cells2 ps) :: things2 ps).length + 3) 2 1 rfl (by decide) (by rw [get_behind]; rfl)) ?q1 HM.out.1 HM.out.2 ?_)
          case q1 => exact fun q hq => by have hq : q < 2 := hq; match q, hq with | 0, _ => rfl | 1, _ => rfl
          intro a6 c6 w6 H6
          have e6 : cells2 ps ++ [.pointer (some ⟨C, 0, none⟩), .pointer (some ⟨Y, 0, none⟩)] = cells2 (ps ++ [⟨C, Y, p.v⟩]) := cells2_snoc ps ⟨C, Y, p.v⟩
          rw [e6] at H6
          obtain ⟨g6, c7, hsl, _⟩ := ownsRow_shape (H6.row 0 rfl) (by omega)
          cases hsl
          have h7 := H6.sub perm_new2
          rw [things2_snoc ps ⟨C, Y, p.v⟩] at h7
          have hla : (ps ++ [(⟨C, Y, p.v⟩ : P3)]).length = ps.length + 1 := by simp
          have HZ := hid (show PInv2 w0 w6 n (.slice (some ⟨g6, 0, none⟩) (ps.length + 1) c6) (ps ++ [⟨C, Y, p.v⟩]) from
            ⟨by rw [hla]; exact h7, fun q hq => by
              rcases List.mem_append.1 hq with h | h
              · exact HV.out.ok q h
              · simp at h; subst h; exact HK.out.1, by rw [hla]; omega, by rw [hla]; have := HLN.out; omega⟩)
          have HLA := hid hla
          clear H6 h7 e6 hla
          go_wp2_with fail
          go_roundw
          case rel => have := HNS.out; have := HK.out.2.2.2; exact ⟨k + 1, _, HK.out.2.2.2, by rw [IntWalk.wrap64_in _ (by omega)]; rfl, ⟨g6, c6, by rw [HLA.out]⟩, HZ⟩
          case measure => have := HNS.out; have := HK.out.2.2.2; rw [IntWalk.wrap64_in _ (by omega)]; simp [intOf]; omega
        · have hc5 : ¬ (ps.length : Int) < 5 := by omega
          have HZ := hid (show PInv2 w0 w3 n (.slice (some ⟨g, 0, none⟩) ps.length cap) ps from ⟨H3.drop, HV.out.ok, HL12.out.1, HL12.out.2⟩)
          clear hbb H3 hlen
          go_wp2_with fail
          go_roundw
          case rel => have := HNS.out; have := HK.out.2.2.2; exact ⟨k + 1, _, HK.out.2.2.2, by rw [IntWalk.wrap64_in _ (by omega)]; rfl, ⟨g, cap, rfl⟩, HZ⟩
          case measure => have := HNS.out; have := HK.out.2.2.2; rw [IntWalk.wrap64_in _ (by omega)]; simp [intOf]; omega
      · have e5 : (kind == 5) = false := by rw [beq_eq_false_iff_ne]; exact h5
        clear h5
        by_cases h4 : kind = 4
        · have e4 : (kind == 4) = true := by rw [beq_iff_eq]; exact h4
          clear h4
          go_wp2_with fail
          refine (st_sbytes HB.out (2 * j + 1) HG.out.1 HK.out.1.1).mono ?_
          rintro e w3 ⟨rfl, H3⟩
          have hld : loadS n ⟨p.v.bytes.toArray⟩ = some p.v := by rw [← HK.out.1.2]; exact loadS_bytes HK.out.1.1
          have hbs : (⟨p.v.bytes.toArray⟩ : ByteArray).size ≤ 140737488355328 := by
            have h1 := bytes_le HK.out.1.1
            have h2 : (⟨p.v.bytes.toArray⟩ : ByteArray).size = p.v.bytes.length := by simp [ByteArray.size]
            omega
          have hL := st_sload H3 n HN1.out.1 HN1.out.2 ⟨p.v.bytes.toArray⟩ hbs
          rw [hld] at hL
          have HL := hid hL
          clear H3 hld hbs hL x0 x1 lbb d0 d1 d2 d3
          go_wp2_with fail
          refine HL.out.mono ?_
          rintro e w4 ⟨C, rfl, H4⟩
          have hbb : w4.heap[bx]? = some (prO p.S p.X) := H4.drop.blk ((RowT 64 2 (.slice (some ⟨g, 0, none⟩) ps.length cap) ps.length (cells2 ps) :: things2 ps).length + 0) (by rw [get_behind]; rfl)
          have x1 := cell_blk (i := 1) hbb rfl
          have lbb := lt_of_block hbb
          obtain ⟨u0, u1⟩ := cells2_get HK.out.2.1
          have hrow := H4.row 0 rfl
          obtain ⟨r0, f0⟩ := ownsRow_cell hrow _ u0
          obtain ⟨r1, f1⟩ := ownsRow_cell hrow _ u1
          have H4 := hid H4
          clear hbb HL u0 u1 hrow
          go_wp2_with fail
          have h1 := St.setRowCell H4.out 0 rfl (j * 2) (.pointer (some ⟨C, 0, none⟩))
          have h2 := St.setRowCell h1 0 rfl (j * 2 + 1) (.pointer (some ⟨p.X, 0, none⟩))
          have h3 : St (.of w0) ((w4.setCell ⟨g, j * 2, none⟩ (.pointer (some ⟨C, 0, none⟩))).setCell ⟨g, j * 2 + 1, none⟩ (.pointer (some ⟨p.X, 0, none⟩))) (((RowT 64 2 (.slice (some ⟨g, 0, none⟩) ps.length cap) ps.length (cells2 (ps.set j ⟨C, p.X, p.v⟩)) :: things2 ps) ++ [BlkT bx (prO p.S p.X)]) ++ [SkT C p.v]) := by
            rw [← cells2_set]; exact h2
          have h4 := h3.replT (2 * j + 1) (by have := lt_of_get HG.out.1; simpa using this)
          have hx2 := (things2_get HK.out.2.1 (RowT 64 2 (.slice (some ⟨g, 0, none⟩) ps.length cap) ps.length (cells2 (ps.set j ⟨C, p.X, p.v⟩))) [BlkT bx (prO p.S p.X)]).2
          have h5 := things2_set ps j HK.out.2.2.1 ⟨C, p.X, p.v⟩ (RowT 64 2 (.slice (some ⟨g, 0, none⟩) ps.length cap) ps.length (cells2 (ps.set j ⟨C, p.X, p.v⟩))) [BlkT bx (prO p.S p.X)]
          rw [things_set_self (i := 2 * j + 2) (A := XsT p.X p.v) (by rw [List.getElem?_set_ne (by omega)]; exact hx2)] at h5
          rw [h5] at h4
          have hls : (ps.set j (⟨C, p.X, p.v⟩ : P3)).length = ps.length := List.length_set
          have HZ := hid (show PInv2 w0 _ n (.slice (some ⟨g, 0, none⟩) ps.length cap) (ps.set j ⟨C, p.X, p.v⟩) from
            ⟨by rw [hls]; exact h4.drop, fun q hq => by
              rcases List.mem_or_eq_of_mem_set hq with h | h
              · exact HV.out.ok q h
              · subst h; exact HK.out.1, by rw [hls]; exact HL12.out.1, by rw [hls]; exact HL12.out.2⟩)
          have HLS := hid hls
          clear h1 h2 h3 h4 h5 hx2 hls r0 f0 r1 f1 x1 lbb
          go_roundw
          case rel => have := HNS.out; have := HK.out.2.2.2; exact ⟨k + 1, _, HK.out.2.2.2, by rw [IntWalk.wrap64_in _ (by omega)]; rfl, ⟨g, cap, by rw [HLS.out]⟩, HZ⟩
          case measure => have := HNS.out; have := HK.out.2.2.2; rw [IntWalk.wrap64_in _ (by omega)]; simp [intOf]; omega
        · have e4 : (kind == 4) = false := by rw [beq_eq_false_iff_ne]; exact h4
          clear h4
          have HAN := hid (st_answers HB.out.drew (2 * j + 1) (2 * j + 2) (by omega) HG.out.1 HG.out.2 HK.out.1.1 HX.out)
          have HS := hid (show ∀ (wx : World) (T : List Thing), St (.of w0) wx (T ++ [BlkT bx (prO p.S p.X)]) → wx.cell? ⟨bx, 0, none⟩ = some (.pointer (some ⟨p.S, 0, none⟩)) ∧ wx.cell? ⟨bx, 1, none⟩ = some (.pointer (some ⟨p.X, 0, none⟩)) ∧ wx.cell? ⟨bb, ob + k * 4, none⟩ = some (.int .i64 on) ∧ wx.cell? ⟨bb, ob + k * 4 + 1, none⟩ = some (.int .i64 kind) ∧ wx.cell? ⟨bb, ob + k * 4 + 2, none⟩ = some (.int .i64 nn) ∧ wx.cell? ⟨bb, ob + k * 4 + 3, none⟩ = some (.slice ca ch.length cc) from fun wx T h => by
            have hb := h.chB
            obtain ⟨d0, d1, d2, d3⟩ := HC.out _ h.fr
            exact ⟨cell_blk (i := 0) hb rfl, cell_blk (i := 1) hb rfl, d0, d1, d2, d3⟩)
          have hN0 := hid (HS.out _ _ HB.out.drew)
          go_wp2_with fail
          go_region_held3 (fun wx : World => wx.cell? ⟨bx, 0, none⟩ = some (.pointer (some ⟨p.S, 0, none⟩)) ∧ wx.cell? ⟨bx, 1, none⟩ = some (.pointer (some ⟨p.X, 0, none⟩)) ∧ wx.cell? ⟨bb, ob + k * 4, none⟩ = some (.int .i64 on) ∧ wx.cell? ⟨bb, ob + k * 4 + 1, none⟩ = some (.int .i64 kind) ∧ wx.cell? ⟨bb, ob + k * 4 + 2, none⟩ = some (.int .i64 nn) ∧ wx.cell? ⟨bb, ob + k * 4 + 3, none⟩ = some (.slice ca ch.length cc)) ((first | with_reducible exact hNow.out | with_reducible exact hN0.out))
            ((go_at_call 47; with_reducible refine HAN.out.mono ?_; rintro e w3 ⟨v', rfl, hv', h3⟩; rw [things2_set ps j HK.out.2.2.1 ⟨p.S, p.X, v'⟩] at h3; have hNow := hid (HS.out _ _ h3); have H3 := hid h3; have HV' := hid hv'; clear h3 hv'))
          have hls : (ps.set j (⟨p.S, p.X, v'⟩ : P3)).length = ps.length := List.length_set
          have HZ := hid (show PInv2 w0 w3 n (.slice (some ⟨g, 0, none⟩) ps.length cap) (ps.set j ⟨p.S, p.X, v'⟩) from
            ⟨by rw [hls, cells2_same (p' := ⟨p.S, p.X, v'⟩) HK.out.2.1 rfl rfl]; exact H3.out.drop, fun q hq => by
              rcases List.mem_or_eq_of_mem_set hq with h | h
              · exact HV.out.ok q h
              · subst h; exact ⟨HV'.out.1, HV'.out.2.trans HK.out.1.2⟩, by rw [hls]; exact HL12.out.1, by rw [hls]; exact HL12.out.2⟩)
          have HLS := hid hls
          clear hls hNow hN0 HAN HS x0 x1 lbb d0 d1 d2 d3
          go_wp2_with fail
          go_roundw
          case rel => have := HNS.out; have := HK.out.2.2.2; exact ⟨k + 1, _, HK.out.2.2.2, by rw [IntWalk.wrap64_in _ (by omega)]; rfl, ⟨g, cap, by rw [HLS.out]⟩, HZ⟩
          case measure => have := HNS.out; have := HK.out.2.2.2; rw [IntWalk.wrap64_in _ (by omega)]; simp [intOf]; omega
    · have hk1 : ¬ (k : Int) < ns := by omega
      clear hlt hk
      go_wp2_with fail
      obtain ⟨wo, hwo⟩ : ∃ wo : World, wo = wr := ⟨_, rfl⟩
      clear hwo
      go_loopw [15] (fun i wx => ∃ (q : Nat), q ≤ ps.length ∧ i = .int .i64 q ∧ Hid (St (.of w0) wx (RowT 64 2 (.slice (some ⟨g, 0, none⟩) ps.length cap) ps.length (cells2 ps) :: things2 ps))) (fun i _ => ps.length - (intOf i).toNat)
      case atStart => exact ⟨0, Nat.zero_le _, rfl, hid HV.out.st⟩
      case round =>
        obtain ⟨q, hq, rfl, HQ⟩ := hrel
        by_cases hlt2 : q < ps.length
        · obtain ⟨p, hp⟩ : ∃ p, ps[q]? = some p := ⟨_, List.getElem?_eq_getElem hlt2⟩
          obtain ⟨u0, u1⟩ := cells2_get hp
          have hrow := HQ.out.row 0 rfl
          have r0 := (ownsRow_cell hrow _ u0).1
          have r1 := (ownsRow_cell hrow _ u1).1
          have hgg := things2_get hp (RowT 64 2 (.slice (some ⟨g, 0, none⟩) ps.length cap) ps.length (cells2 ps)) []
          rw [List.append_nil] at hgg
          have HTL := hid (st_alike HQ.out (2 * q + 1) (2 * q + 2) hgg.1 hgg.2 (HV.out.ok p (List.mem_of_getElem? hp)).1)
          have HLT := hid hlt2
          have hq0 : (0 : Int) ≤ q := by omega
          have hq1 : (q : Int) < ps.length := by omega
          clear hp u0 u1 hrow hgg hlt2 hq hl1 hl2
          go_wp2_with fail
          with_reducible refine HTL.out.mono ?_
          rintro e w3 ⟨rfl, h3⟩
          have H3 := hid h3
          clear h3 HTL r0 r1
          go_wp2_with fail
          go_roundw
          case rel => have := HLT.out; have := HL12.out; exact ⟨q + 1, HLT.out, by rw [IntWalk.wrap64_in _ (by omega)]; rfl, H3⟩
          case measure => have := HLT.out; have := HL12.out; rw [IntWalk.wrap64_in _ (by omega)]; simp [intOf]; omega
        · have hq1 : ¬ (q : Int) < ps.length := by omega
          clear hlt2 hq hl1 hl2
          go_wp2_with fail
          go_ret
          exact ⟨rfl, HQ.out.fr⟩
end Go.Proofs.YtmgnekjhlfghaaaGreat
