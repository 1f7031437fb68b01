/-
  The walk of DiskLasts.
-/
import Derived.Test.YtkkahkgjedgjnaaRef04
import Derived.Test.YtkkahkgjedgjnaaFix04
namespace Go.Proofs.Ytkkahkgjedgjnaa
open Go.RowKit
set_option linter.unusedVariables false
set_option linter.unusedSimpArgs false

theorem runW_live (ss : List ByteArray) (ws : List (Int × ByteArray)) (k : Nat) (hk : k ≤ ws.length) : (runW (DS.of ss) ws k).dead = false ∧ (runW (DS.of ss) ws k).armed = 0 := by
  induction k with
  | zero => exact ⟨rfl, rfl⟩
  | succ k ih =>
    rw [runW_succ _ _ _ (by omega)]
    obtain ⟨h1, h2⟩ := ih (by omega)
    unfold DS.write
    rw [h1]
    simp only [Bool.false_eq_true, if_false, h2]
    split
    · exact ⟨h1, h2⟩
    split
    · exact ⟨h1, h2⟩
    · rw [if_neg (by omega)]; exact ⟨rfl, rfl⟩

theorem runW_at (ss : List ByteArray) (ws : List (Int × ByteArray)) (j k : Nat) (hj : j < ws.length) (hk : k < ss.length) :
    sAt (runW (DS.of ss) ws (j + 1)).sec k = if (wAt ws j).1 = k ∧ (wAt ws j).2.size = 128 then (wAt ws j).2 else sAt (runW (DS.of ss) ws j).sec k := by
  rw [runW_succ _ _ _ hj]
  obtain ⟨h1, h2⟩ := runW_live ss ws j (by omega)
  have hl := (runW_len (DS.of ss) ws j (by omega)).1
  have hl' : (runW (DS.of ss) ws j).sec.length = ss.length := hl
  unfold DS.write
  rw [h1]
  simp only [Bool.false_eq_true, if_false, h2]
  rw [hl']
  by_cases hi : (wAt ws j).1 < 0 ∨ (ss.length : Int) ≤ (wAt ws j).1
  · rw [if_pos hi, if_neg (by omega)]
  rw [if_neg hi]
  by_cases hs : (wAt ws j).2.size = 128
  · rw [if_neg (by omega), if_neg (by omega)]
    show sAt (List.set _ _ _) k = _
    rw [sAt_set _ _ _ _ (by omega)]
    by_cases hkk : k = (wAt ws j).1.toNat
    · rw [if_pos hkk, if_pos ⟨by omega, hs⟩]
    · rw [if_neg hkk, if_neg (by omega)]
  · rw [if_pos hs, if_neg (by omega)]

theorem quiet_mine {P : Program} {f : FuncId} {args : Array Value} {w : World} {n : Nat} {v : Value}
    (h : Calls P f args (w.drewN n) fun e w' => e = .returned v ∧ w.drewN n = w') : Calls P f args (w.drewN n) fun e w'' => e = .returned v ∧ ∃ m, w'' = w.drewN m :=
  h.mono fun _ _ ⟨he, hm⟩ => ⟨he, n, hm.symm⟩

set_option maxHeartbeats 3200000 in
set_option maxRecDepth 100000 in
theorem lasts_any (w : World) (a b : Option Addr) (na ca nb cb : Nat) (n bytes : Int) (ss : List ByteArray) (ws : List (Int × ByteArray)) (hna : ss.length = na) (hnb : ws.length = nb) (ha : In w 1 a na ca (strV ss)) (hb : In w 2 b nb cb (wrV ws)) (hn : nb * 24 ≤ 140737488355328) :
    Calls Try.prog 7 #[.agg #[.slice a na ca, .slice b nb cb, .int .i64 n, .int .i64 bytes]] w fun e w' => e = .returned (.bool true) ∧ Fr [] w w' := by
  subst hna hnb
  have hma := ha.max
  have hmb := hb.max
  have ha1 := ha.fr0 ((Fr.refl [] w).alloc (.cells #[.slice a ss.length ca, .slice b ws.length cb, .int .i64 n, .int .i64 bytes] 49))
  have hb1 := hb.fr0 ((Fr.refl [] w).alloc (.cells #[.slice a ss.length ca, .slice b ws.length cb, .int .i64 n, .int .i64 bytes] 49))
  have hC : (w.alloc (.cells #[.slice a ss.length ca, .slice b ws.length cb, .int .i64 n, .int .i64 bytes] 49)).heap[w.heap.size]? = _ := blk_alloc_at _ _ _ rfl
  have hF0 := (Fr.refl [] w).alloc (.cells #[.slice a ss.length ca, .slice b ws.length cb, .int .i64 n, .int .i64 bytes] 49)
  have HA := hid ha1
  have HB := hid hb1
  clear ha hb ha1 hb1
  have HM := hid (made_any _ a b ca cb ss ws HA.out HB.out hn)
  go_enter Try.func7, Try.ntmps7
  go_wp2_with fail
  refine HM.out.mono ?_
  rintro e w1 ⟨hF, ⟨hbad, rfl⟩ | ⟨hok, D, F, rfl, hDk, hFs⟩⟩
  · have k0 : w1.cell? ⟨w.heap.size, 0, none⟩ = some (.slice a ss.length ca) := cell_blk (hF.keep hC (by simp)) rfl
    have HR := hid (ref_load_bad w1 a ca ss (HA.out.fr0 hF) hbad)
    have hcode := loadE_bad hbad
    have HF := hid (hF0.trans hF)
    clear hF hbad hC hF0 HM
    generalize loadE ss = code at HR hcode
    rcases hcode with rfl | rfl
    all_goals
      go_wp2_with fail
      refine HR.out.mono ?_
      rintro e w2 ⟨rfl, rfl⟩
      go_wp2_with fail
      refine (fixed04 _).mono ?_
      rintro e w2 ⟨rfl, hF2⟩
      go_wp2_with fail
      go_ret
      exact ⟨rfl, HF.out.trans hF2⟩
  · have k0 : w1.cell? ⟨w.heap.size, 0, none⟩ = some (.slice a ss.length ca) := cell_blk (hF.keep hC (by simp)) rfl
    have k1 : w1.cell? ⟨w.heap.size, 1, none⟩ = some (.slice b ws.length cb) := cell_blk (hF.keep hC (by simp)) rfl
    have hA1 := HA.out.fr0 hF
    have hB1 := HB.out.fr0 hF
    have HF := hid (hF0.trans hF)
    have HOK := hid hok
    have HFs := hid hFs
    have hwf := runW_wf (of_wf hok) ws ws.length (Nat.le_refl _)
    have hlive := runW_live ss ws ws.length (Nat.le_refl _)
    have hlen : (runW (DS.of ss) ws ws.length).sec.length = ss.length := (runW_len (DS.of ss) ws ws.length (Nat.le_refl _)).1
    have HX := hid (And.intro hA1 (And.intro hB1 (And.intro hDk (And.intro hwf (And.intro hlive hlen)))))
    clear hA1 hB1 hDk hwf hlive hlen hok hFs HM hF hC hF0 HA HB
    go_wp2_with fail
    go_loopw [6] (fun i wr => ∃ (k : Nat), k ≤ ss.length ∧ i = .int .i64 k ∧ Fr [] w1 wr) (fun i _ => ss.length - (intOf i).toNat)
    case atStart => exact ⟨0, Nat.zero_le _, rfl, Fr.refl _ _⟩
    case round =>
      obtain ⟨k, hk, rfl, hFw⟩ := hrel
      have k0' := hFw.cell0 k0
      have k1' := hFw.cell0 k1
      by_cases hlt : k < ss.length
      · have hA := HX.out.1.fr0 hFw
        obtain ⟨ba, oa, rfl⟩ := hA.sm (by omega)
        have c1 := hA.cell ba oa rfl k (by omega)
        simp only [strV] at c1
        have HAA := hid hA
        clear hA
        obtain ⟨wo, rfl⟩ : ∃ wo : World, wo = wr := ⟨_, rfl⟩
        go_wp2_with fail
        go_loop [7, 8] (fun t i => ∃ (j : Nat), j ≤ ws.length ∧ i = .int .i64 j ∧ t = .string (sAt (runW (DS.of ss) ws j).sec k)) (fun _ i => ws.length - (intOf i).toNat)
        case atStart => exact ⟨0, Nat.zero_le _, rfl, rfl⟩
        case round =>
          obtain ⟨j, hj, rfl, rfl⟩ := hrel
          by_cases hjl : j < ws.length
          · have hB := HX.out.2.1.fr0 hFw
            obtain ⟨bb, ob, rfl⟩ := hB.sm (by omega)
            have d1 := hB.cell bb ob rfl (j * 2) (by omega)
            have d2 := hB.cell bb ob rfl (j * 2 + 1) (by omega)
            rw [wrV_0] at d1
            rw [wrV_1, ← Nat.add_assoc] at d2
            have hstep := runW_at ss ws j k hjl hlt
            clear hB
            by_cases hx1 : (wAt ws j).1 = k
            · have t1 : ((wAt ws j).1 == (k : Int)) = true := by rw [beq_iff_eq]; exact hx1
              by_cases hx2 : (wAt ws j).2.size = 128
              · have t2 : (((wAt ws j).2.size : Int) == 128) = true := by rw [beq_iff_eq]; omega
                rw [if_pos ⟨hx1, hx2⟩] at hstep
                have HS := hid hstep
                clear hstep hx1 hx2
                go_wp2
                go_round
                case rel => exact ⟨j + 1, by omega, by go_num, by rw [HS.out]⟩
                case measure => simp [intOf]; omega
              · have t2 : (((wAt ws j).2.size : Int) == 128) = false := by rw [beq_eq_false_iff_ne]; omega
                rw [if_neg (by omega)] at hstep
                have HS := hid hstep
                clear hstep hx1 hx2
                go_wp2
                go_round
                case rel => exact ⟨j + 1, by omega, by go_num, by rw [HS.out]⟩
                case measure => simp [intOf]; omega
            · have t1 : ((wAt ws j).1 == (k : Int)) = false := by rw [beq_eq_false_iff_ne]; exact hx1
              rw [if_neg (by omega)] at hstep
              have HS := hid hstep
              clear hstep hx1
              go_wp2
              go_round
              case rel => exact ⟨j + 1, by omega, by go_num, by rw [HS.out]⟩
              case measure => simp [intOf]; omega
          · obtain rfl : j = ws.length := by omega
            have hD := HX.out.2.2.1.keep hFw (by simp)
            have HRD := hid (disk_read_yes wo F D _ k hD HX.out.2.2.2.1 HX.out.2.2.2.2.1.1 (by rw [HX.out.2.2.2.2.2]; exact hlt))
            clear hD
            go_wp2_with fail
            refine HRD.out.mono ?_
            rintro e w2 ⟨rfl, rfl⟩
            go_wp2_with fail
            go_roundw
            case rel => exact ⟨k + 1, by omega, by go_num, hFw⟩
            case measure => simp [intOf]; omega
      · have hD := HX.out.2.2.1.keep hFw (by simp)
        have q1 : (((runW (DS.of ss) ws ws.length).sec.length : Int) == (ss.length : Int)) = true := by rw [beq_iff_eq, HX.out.2.2.2.2.2]
        have q2 := HX.out.2.2.2.2.1.1
        have hDd : Dk wr.drew F D (runW (DS.of ss) ws ws.length) := hD
        have HE := hid (And.intro hDd hFw)
        clear hD hDd hFw
        go_wp2_with fail
        go_region_with (first | (go_at_call 30; refine (disk_size _ F D _ HE.out.1).mono ?_; rintro e w2 ⟨rfl, rfl⟩) | (go_at_call 31; refine (disk_dead _ F D _ HE.out.1).mono ?_; rintro e w2 ⟨rfl, rfl⟩) | (go_at_call 28; refine (fixed04 _).mono ?_; rintro e w2 ⟨rfl, hF2⟩))
        all_goals
          have HF2 := hid hF2
          clear hF2
          go_wp2_with fail
          go_ret
          exact ⟨rfl, ((HF.out.trans HE.out.2).drew).trans HF2.out⟩

end Go.Proofs.Ytkkahkgjedgjnaa
