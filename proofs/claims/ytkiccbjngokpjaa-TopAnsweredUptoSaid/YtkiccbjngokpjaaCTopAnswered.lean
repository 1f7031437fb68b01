/-
  The walk of TopAnswered.
-/
import Derived.Test.YtkiccbjngokpjaaM30
import Derived.Test.YtkiccbjngokpjaaM2
namespace Go.Proofs.Ytkiccbjngokpjaa
open Go.RowKit
set_option linter.unusedVariables false
set_option linter.unusedSimpArgs false

theorem Pm.says_res (x : Pm) : x.says.c.res = x.c.res := by unfold Pm.says; split <;> rfl
theorem Pm.comes_res (x : Pm) (p : Pq) : (x.comes p).c.res = x.c.res := by rw [(Pm.comes_c x p).1, Pm.hear_res]
theorem Pm.dlv_res (x : Pm) (k : Nat) : (x.dlv k).c.res = x.c.res := by
  unfold Pm.dlv
  rcases x.bag[k]? with _ | p
  · rfl
  · exact Pm.comes_res _ _
theorem Pm.does_res (x : Pm) (kind n : Int) : (x.does kind n).c.res = x.c.res := by
  unfold Pm.does
  split
  · exact Cl.asks_res _ _
  · split
    · exact Pm.says_res _
    · split
      · exact Pm.dlv_res _ _
      · split
        · rfl
        · split
          · rcases x.bag[x.place n]? with _ | p
            · rfl
            · rfl
          · split
            · rfl
            · rfl
/-- A pair behind q happenings. -/
structure PmI (res q : Nat) (x : Pm) : Prop where
  ok : x.ok
  nm : x.nums q
  bg : x.bag.length ≤ q
  ac : x.acted.length ≤ q
  rs : x.c.res = res
theorem PmI.does {res q : Nat} {x : Pm} (h : PmI res q x) (kind n : Int) : PmI res (q + 1) (x.does kind n) := by
  obtain ⟨h1, h2, _, _⟩ := Pm.does_len x kind n
  have h3 := h.bg
  have h4 := h.ac
  exact ⟨h.ok.does kind n, h.nm.does h.ok kind n, by omega, by omega, (Pm.does_res x kind n).trans h.rs⟩
/-- The same behind so many rounds. -/
structure PmR (q j : Nat) (x : Pm) : Prop where
  ok : x.ok
  nm : x.nums (q + 2 * j)
  bg : x.bag.length ≤ q + j
  ac : x.acted.length ≤ q + j * (q + 80)
theorem PmI.r0 {res q : Nat} {x : Pm} (h : PmI res q x) : PmR q 0 x := ⟨h.ok, h.nm, h.bg, by have := h.ac; omega⟩
theorem PmR.round {q j : Nat} {x : Pm} (h : PmR q j x) (hj : j ≤ 78) : PmR q (j + 1) x.round := by
  obtain ⟨h1, h2, h3, h4⟩ := h
  obtain ⟨a1, a2, a3, a4⟩ := Pm.half_len x
  obtain ⟨b1, b2, b3, b4, b5⟩ := Pm.dlvs_len h1.half x.half.bag.length (Nat.le_refl _)
  rw [a2] at b2
  have e : (j + 1) * (q + 80) = j * (q + 80) + (q + 80) := Nat.succ_mul j (q + 80)
  refine ⟨h1.round, (h2.round h1).mono (by omega), ?_, ?_⟩
  · show (Pm.dlvs _ x.half).bag.length ≤ _
    omega
  · show (Pm.dlvs _ x.half).acted.length ≤ _
    rw [e]
    omega
theorem Pm.rounds_succ (j : Nat) (x : Pm) : Pm.rounds (j + 1) x = (Pm.rounds j x).round := by rw [Pm.rounds_add j 1]; rfl
theorem PmR.rounds {q : Nat} {x : Pm} (h : PmR q 0 x) (j : Nat) (hj : j ≤ 78) : PmR q j (Pm.rounds j x) := by
  induction j with
  | zero => exact h
  | succ j ih => rw [Pm.rounds_succ]; exact (ih (by omega)).round (by omega)
theorem PmR.small {q j : Nat} {x : Pm} (h : PmR q j x) (hq : q ≤ 1048576) (hj : j ≤ 78) : x.nums 1048740 ∧ x.bag.length ≤ 1048700 ∧ x.acted.length ≤ 536870912 := by
  obtain ⟨h1, h2, h3, h4⟩ := h
  refine ⟨h2.mono (by omega), by omega, Nat.le_trans h4 ?_⟩
  have : j * (q + 80) ≤ 78 * (1048576 + 80) := Nat.mul_le_mul hj (by omega)
  omega
/-- Within a round: what was delivered so far. -/
theorem PmR.mid {q j : Nat} {x : Pm} (h : PmR q j x) (hq : q ≤ 1048576) (hj : j ≤ 78) (k : Nat) (hk : k ≤ x.half.bag.length) :
    (Pm.dlvs k x.half).ok ∧ (Pm.dlvs k x.half).nums 1048742 ∧ (Pm.dlvs k x.half).bag.length ≤ 1048701 ∧ (Pm.dlvs k x.half).acted.length ≤ 1073741823 ∧ x.half.bag.length ≤ (Pm.dlvs k x.half).bag.length + k := by
  obtain ⟨h1, h2, h3⟩ := h.small hq hj
  obtain ⟨a1, a2, a3, a4⟩ := Pm.half_len x
  obtain ⟨b1, b2, b3, b4, b5⟩ := Pm.dlvs_len h.ok.half k hk
  rw [a2] at b2
  exact ⟨h.ok.half.dlvs k, ((h1.half h.ok).dlvs h.ok.half k hk).mono (by omega), by omega, by omega, by omega⟩

set_option maxHeartbeats 6400000 in
set_option maxRecDepth 100000 in
theorem topanswered_walk (w : World) (x0 : Int) (h01 : -9223372036854775808 ≤ x0) (h02 : x0 ≤ 9223372036854775807)
    (a : Option Addr) (len cap : Nat) (V : Nat → Value) (hS : SlIn w 2 16 a len cap V) (hk : ∀ i, i < len → I64 (V (i * 2))) (hn : ∀ i, i < len → I64 (V (i * 2 + 1))) (hlen : len ≤ 1048576) :
    Calls Try.prog 4 #[.int .i64 x0, .slice a len cap] w fun e w' => e = .returned (.bool true) ∧ Fr [] w w' := by
  by_cases hv : 1 ≤ x0 ∧ x0 ≤ 16
  · obtain ⟨res, hres⟩ : ∃ res : Nat, x0 = (res : Int) := ⟨x0.toNat, by omega⟩
    subst hres
    have hv2 : 1 ≤ res ∧ res ≤ 16 := by omega
    have HV := hid (And.intro hv2 hlen)
    have HF := hid (And.intro hS (And.intro hk hn))
    have hNs := hid (st_pnew (W := Base.of w) (w := w) (St.refl w) res (by omega) (by omega))
    have hln : (len : Int) ≤ 1048576 := by omega
    have hcp : (len : Int) ≤ cap := by have := hS.le; omega
    have g1 : ¬ (res : Int) < 1 := by omega
    have g2 : ¬ (16 : Int) < res := by omega
    clear hv hv2 h01 h02 hlen hS hk hn
    go_enter Try.func4, Try.ntmps4
    go_wp2_with fail
    refine hNs.out.mono ?_
    rintro e w2 ⟨X, C, T, N, rfl, H2⟩
    have H2 := hid (show St (Base.of w) w2 (paL X C T N (.new res)) from H2)
    have HI0 := hid (show PmI res 0 (.new res) from ⟨Pm.new_ok HV.out.1.1 HV.out.1.2, Pm.new_nums _, Nat.le_refl _, Nat.le_refl _, rfl⟩)
    clear hNs
    go_wp2_with fail
    go_loopw [8] (fun iv wr => ∃ (q : Nat) (x : Pm) (T : Nat), q ≤ len ∧ iv = .int .i64 q ∧ Hid (St (Base.of w) wr (paL X C T N x)) ∧ Hid (PmI res q x)) (fun iv _ => len - (intOf iv).toNat)
    case atStart => exact ⟨0, _, T, Nat.zero_le _, rfl, H2, HI0⟩
    case round =>
      obtain ⟨q, x, T, hq, rfl, HH, HI⟩ := hrel
      have hbX := HH.out.blk 1 rfl
      have x6 := cell_blk (i := 6) hbX rfl
      by_cases hlt : q < len
      · obtain ⟨hS, hk, hn⟩ := HF.out
        obtain ⟨kk, hk1, _, _⟩ := hk q hlt
        obtain ⟨nn, hn1, _, _⟩ := hn q hlt
        obtain ⟨gb, go, ha⟩ := hS.sm (by omega)
        subst ha
        have hfr := HH.out.fr
        have v0 : wr.cell? ⟨gb, go + q * 2, none⟩ = some (.int .i64 kk) := hfr.cell0 (by rw [hS.cell gb go rfl (q * 2) (by omega), hk1])
        have v1 : wr.cell? ⟨gb, go + q * 2 + 1, none⟩ = some (.int .i64 nn) := hfr.cell0 (by rw [Nat.add_assoc, hS.cell gb go rfl (q * 2 + 1) (by omega), hn1])
        have HDs := hid (st_pdoes HH.out HI.out.ok HI.out.nm (by have := HV.out.2; omega) (by have := HI.out.bg; have := HV.out.2; omega) (by have := HI.out.ac; have := HV.out.2; omega) kk nn)
        have HI2 := hid (HI.out.does kk nn)
        have hlt2 : (q : Int) < len := by omega
        have HL := hid (And.intro hlt hq)
        clear hbX hS hk hn hk1 hn1 hfr HH HI hlt hq
        go_wp2_with fail
        refine HDs.out.mono ?_
        rintro e w5 ⟨T5, rfl, H5⟩
        clear HDs x6 v0 v1
        generalize x.does kk nn = y at H5 HI2
        have hb5 := H5.blk 1 rfl
        have HK := hid (show ∀ wx, Fr [] w5 wx → wx.cell? ⟨X, 5, none⟩ = some (.int .i64 y.answered.length) ∧ wx.cell? ⟨X, 4, none⟩ = some (.int .i64 y.acted.length) from fun wx hF => ⟨cell_blk (i := 5) (hF.keep hb5 (by simp)) rfl, cell_blk (i := 4) (hF.keep hb5 (by simp)) rfl⟩)
        have b1 : decide (y.acted.length < y.answered.length) = false := by
          have := HI2.out.ok.le
          simp; omega
        have H5 := hid H5
        clear hb5
        go_wp2_with fail
        refine wp_region_calm (S := fun wx : World => Fr [] w5 wx) (by kernel_rfl) (by kernel_rfl) ((Fr.refl _ _).drew) ?_
        repeat (first | (refine calmRow_free (v := ?_) rfl ?_ ?_; rotate_left; (focus (intro wx hSx; (try dsimp only at hSx); have hcx := HK.out wx hSx; go_simp; (first | with_reducible rfl | exact ⟨rfl, hSx⟩ | fail))); (try simp only [Act.put, List.setIfInBounds_toArray, List.set_cons_zero, List.set_cons_succ])) | (refine calmRow_skip ?_ ?_; (focus (go_simp; (try (intro hx; cases hx)); done)); (try simp only [Act.put, List.setIfInBounds_toArray, List.set_cons_zero, List.set_cons_succ])) | (refine calmRow_take (v := ?_) ?_ ?_ ?_; rotate_left; (focus (go_simp; done)); (focus (intro wx hSx; (try dsimp only at hSx); have hcx := HK.out wx hSx; go_simp; (first | with_reducible rfl | exact ⟨rfl, hSx⟩ | fail))); (try simp only [Act.put, List.setIfInBounds_toArray, List.set_cons_zero, List.set_cons_succ])))
        refine calmRow_nil ?_
        intro wn hFx
        try dsimp only at hFx
        go_wp2_with fail
        have hq1 : (q : Int) + 1 = ((q + 1 : Nat) : Int) := by omega
        refine ⟨⟨q + 1, y, T5, by have := HL.out.1; omega, by rw [hq1], hid (H5.out.same hFx), HI2⟩, ?_⟩
        show len - ((q : Int) + 1).toNat < len - (q : Int).toNat
        have := HL.out.1
        omega
      · obtain rfl : q = len := by omega
        have x5 := cell_blk (i := 5) hbX rfl
        obtain ⟨M, hM⟩ : ∃ M, 4 * (res + 3) = M := ⟨_, rfl⟩
        have hMb : M ≤ 76 := by have := HV.out.1.2; omega
        have hmul : wrap64 (4 * ((res : Int) + 3)) = (M : Int) := by
          rw [IntWalk.wrap64_in _ (by have := HV.out.1.2; omega)]; omega
        have hends := hid (show x.answered.length < (Pm.rounds M x).answered.length ∧ 0 < (Pm.rounds M x).c.ses from by
          have h := HI.out.ok.calm
          rw [HI.out.rs, hM] at h
          exact h)
        have hR := hid (fun (j : Nat) (hj : j ≤ 78) => HI.out.r0.rounds j hj)
        have HM := hid (And.intro hMb (And.intro hM HV.out.2))
        have hres9 : (res : Int) ≤ 16 := by have := HV.out.1.2; omega
        clear hbX hlt hq hM hMb
        go_wp2_with fail
        obtain ⟨had, hhad⟩ : ∃ had : Nat, x.answered.length = had := ⟨_, rfl⟩
        have HHad := hid hhad
        rw [hhad]
        clear hhad x5 x6
        go_loopw [10] (fun jv wr => ∃ (j T : Nat), j ≤ M ∧ jv = .int .i64 j ∧ Hid (St (Base.of w) wr (paL X C T N (Pm.rounds j x)))) (fun jv _ => M - (intOf jv).toNat)
        case atStart => exact ⟨0, T, Nat.zero_le _, rfl, HH⟩
        case round =>
          obtain ⟨j, T, hj, rfl, HJ⟩ := hrel
          have hbX := HJ.out.blk 1 rfl
          have y6 := cell_blk (i := 6) hbX rfl
          have y0 := cell_blk (i := 0) hbX rfl
          have y2 := cell_blk (i := 2) hbX rfl
          by_cases hlt : j < M
          · have hlt2 : (j : Int) < M := by omega
            have hlt3 : (j : Int) < 4 * ((res : Int) + 3) := by have := HM.out.2.1; omega
            have HRj := hid (hR.out j (by have := HM.out.1; omega))
            have hnx := hid (Pm.rounds_succ j x)
            have hj78 : j ≤ 78 := by have := HM.out.1; omega
            have HL := hid (And.intro hlt (And.intro hj hj78))
            generalize Pm.rounds j x = y at HJ HRj hnx
            have HTk := hid (st_ptick HJ.out (Nat.le_trans HRj.out.ok.tm HRj.out.ok.r16))
            have hM9 : (M : Int) ≤ 76 := by have := HM.out.1; omega
            clear hbX hlt hj hj78
            obtain ⟨wo, hwo⟩ : ∃ wo : World, wo = wr := ⟨_, rfl⟩
            go_wp2_with fail
            refine HTk.out.mono ?_
            rintro e w6 ⟨rfl, H6⟩
            have HAs := hid (st_pasks H6 0 false rfl (by have h := ((HRj.out.small HM.out.2.2 HL.out.2.2).1).la; show y.c.last < _; omega))
            clear HTk y0 y2 y6 H6
            go_wp2_with fail
            refine HAs.out.mono ?_
            rintro e w7 ⟨rfl, H7⟩
            have HSy := hid (st_psays H7 (by have h := (HRj.out.small HM.out.2.2 HL.out.2.2).2.1; show y.bag.length ≤ _; omega) (by
              have h := (HRj.out.small HM.out.2.2 HL.out.2.2).1
              exact (HRj.out.ok.tick.asks false).pq.fits ((h.tick.asks false).pq (HRj.out.ok.tick.asks false)) (by decide)))
            clear HAs H7
            go_wp2_with fail
            refine HSy.out.mono ?_
            rintro e w8 ⟨rfl, H8⟩
            have H8 : St (Base.of w) w8 (paL X C T N y.half) := H8
            have z2 := cell_blk (i := 2) (H8.blk 1 rfl) rfl
            have HLn := st_nlen H8 0 rfl
            rw [List.length_map] at HLn
            have HLn := hid HLn
            have H8 := hid H8
            obtain ⟨n, hn⟩ : ∃ n, y.half.bag.length = n := ⟨_, rfl⟩
            have hMid := hid (fun (k : Nat) (hk : k ≤ n) => HRj.out.mid HM.out.2.2 HL.out.2.2 k (by rw [hn]; exact hk))
            have hRd := hid (show y.round = Pm.dlvs n y.half from by rw [← hn]; rfl)
            have HNN := hid hn
            rw [hn] at HLn
            have hn9 : (n : Int) ≤ 1048701 := by
              have h := (hMid.out 0 (Nat.zero_le _)).2.2.1
              have h2 : y.half.bag.length ≤ 1048701 := h
              omega
            clear HSy hn hwo
            go_wp2_with fail
            refine HLn.out.mono ?_
            rintro e w9 ⟨rfl, rfl⟩
            clear z2 HLn
            go_wp2_with fail
            go_loopw [12] (fun kv wq => ∃ (k : Nat), k ≤ n ∧ kv = .int .i64 k ∧ Hid (St (Base.of w) wq (paL X C T N (Pm.dlvs k y.half)))) (fun kv _ => n - (intOf kv).toNat)
            case atStart => exact ⟨0, Nat.zero_le _, rfl, H8⟩
            case round =>
              obtain ⟨k, hkn, rfl, HQ⟩ := hrel
              by_cases hlk : k < n
              · obtain ⟨z, hz⟩ : ∃ z, Pm.dlvs k y.half = z := ⟨_, rfl⟩
                obtain ⟨m1, m2, m3, m4, m5⟩ := hMid.out k hkn
                rw [hz] at HQ m1 m2 m3 m4 m5
                rcases hbz : z.bag with _ | ⟨p, r⟩
                · exfalso
                  rw [hbz] at m5
                  have m6 : y.half.bag.length ≤ 0 + k := m5
                  have hnn := HNN.out
                  omega
                have hb0 : z.bag[0]? = some p := by rw [hbz]; rfl
                have hnext := hid (show Pm.dlvs (k + 1) y.half = (z.drop 0).comes p.2 from by rw [Pm.dlvs_succ, hz]; exact Pm.dlv_some hb0)
                have HTk := hid (st_ntake HQ.out 0 rfl 0 (pkD p) (by rw [List.getElem?_map, hb0]; rfl) (by rw [List.length_map]; omega))
                have q2 := cell_blk (i := 2) (HQ.out.blk 1 rfl) rfl
                have hpk := hid (m1.bg p (List.mem_of_getElem? hb0))
                have hpn := hid (m2.bg p (List.mem_of_getElem? hb0))
                have hdk := hid (And.intro (m1.drop 0) (And.intro (m2.drop 0) (And.intro (show (z.drop 0).bag.length ≤ 1073741824 from by
                  have h := List.length_eraseIdx_le z.bag 0
                  show (z.bag.eraseIdx 0).length ≤ _
                  omega) (show (z.drop 0).acted.length < 1073741824 from Nat.lt_of_le_of_lt m4 (by decide)))))
                have HL2 := hid (And.intro hlk hkn)
                have hlk2 : (k : Int) < n := by omega
                clear hz m1 m2 m3 m4 m5 hbz hb0 hlk hkn HQ
                go_wp2_with fail
                refine HTk.out.mono ?_
                rintro e wa ⟨rfl, Ha⟩
                have Ha := hid ((pa_drop Ha).alloc_ (dgO (pkD p)))
                clear q2 HTk
                go_wp2_with fail
                refine (st_pcomes Ha.out hdk.out.1 hdk.out.2.1 (by decide) hdk.out.2.2.1 hdk.out.2.2.2 p.1 p.2 hpk.out hpn.out).mono ?_
                rintro e wb ⟨rfl, Hb⟩
                rw [← hnext.out] at Hb
                have Hb := hid Hb
                go_wp2_with fail
                have hq1 : (k : Int) + 1 = ((k + 1 : Nat) : Int) := by omega
                refine ⟨⟨k + 1, by have := HL2.out.1; omega, by rw [hq1], Hb⟩, ?_⟩
                show n - ((k : Int) + 1).toNat < n - (k : Int).toNat
                have := HL2.out.1
                omega
              · obtain rfl : k = n := by omega
                rw [← hRd.out, ← hnx.out] at HQ
                clear hlk hkn
                go_wp2_with fail
                have hq1 : (j : Int) + 1 = ((j + 1 : Nat) : Int) := by omega
                refine ⟨⟨j + 1, T, by have := HL.out.1; omega, by rw [hq1], HQ⟩, ?_⟩
                show M - ((j : Int) + 1).toNat < M - (j : Int).toNat
                have := HL.out.1
                omega
          · obtain rfl : j = M := by omega
            obtain ⟨e1, e2⟩ := hends.out
            have hok := (hR.out j (by have := HM.out.1; omega)).ok
            rw [HHad.out] at e1
            generalize Pm.rounds j x = y at HJ e1 e2 hok hbX
            have hle := hok.le
            obtain ⟨an, han⟩ : ∃ an, y.answered.length = an := ⟨_, rfl⟩
            obtain ⟨ac, hac⟩ : ∃ ac, y.acted.length = ac := ⟨_, rfl⟩
            obtain ⟨se, hse⟩ : ∃ se, y.c.ses = se := ⟨_, rfl⟩
            have HJ5 := HJ.out
            have HK := hid (show ∀ wx, Fr [] wr wx → wx.cell? ⟨X, 6, none⟩ = some (.bool false) ∧ wx.cell? ⟨X, 5, none⟩ = some (.int .i64 an) ∧ wx.cell? ⟨X, 4, none⟩ = some (.int .i64 ac) ∧ wx.cell? ⟨X, 0, none⟩ = some (ptr C) from fun wx hF => ⟨cell_blk (i := 6) (hF.keep hbX (by simp)) rfl, by rw [← han]; exact cell_blk (i := 5) (hF.keep hbX (by simp)) rfl, by rw [← hac]; exact cell_blk (i := 4) (hF.keep hbX (by simp)) rfl, cell_blk (i := 0) (hF.keep hbX (by simp)) rfl⟩)
            have HSe := hid (show ∀ wx, Fr [] wr wx → Calls Try.prog 20 #[ptr C] wx fun e w' => e = .returned (.int .i64 se) ∧ wx = w' from fun wx hF => by
              have h := st_session ((HJ5.same hF).blk 2 rfl)
              rw [hse] at h
              exact h)
            have HFr := hid HJ5.fr
            rw [han] at e1 hle
            rw [hac] at hle
            rw [hse] at e2
            have t1 : decide ((had : Int) < an) = true := decide_eq_true (by omega)
            have t1n : decide (had < an) = true := decide_eq_true (by omega)
            have t2 : decide ((an : Int) ≤ ac) = true := decide_eq_true (by omega)
            have t2n : decide (an ≤ ac) = true := decide_eq_true (by omega)
            have t3 : decide ((0 : Int) < se) = true := decide_eq_true (by omega)
            have t3n : decide (0 < se) = true := decide_eq_true (by omega)
            have hlt3 : ¬ ((j : Int) < 4 * ((res : Int) + 3)) := by have := HM.out.2.1; omega
            clear hlt hj e1 e2 hok hle han hac hse HJ5 hbX y0 y2
            go_wp2_with fail
            refine wp_region_calm (S := fun wx : World => Fr [] wr wx) (by kernel_rfl) (by kernel_rfl) ((Fr.refl _ _).drew) ?_
            repeat (first | (refine calmRow_free (v := ?_) rfl ?_ ?_; rotate_left; (focus (intro wx hSx; (try dsimp only at hSx); have hcx := HK.out wx hSx; go_simp; (first | with_reducible rfl | exact ⟨rfl, hSx⟩ | (go_at_call 20; refine (HSe.out _ hSx).mono ?_; rintro e w9 ⟨rfl, rfl⟩; refine ⟨?_, hSx⟩; with_reducible rfl)))); (try simp only [Act.put, List.setIfInBounds_toArray, List.set_cons_zero, List.set_cons_succ])) | (refine calmRow_skip ?_ ?_; (focus (go_simp; (try (intro hx; cases hx)); done)); (try simp only [Act.put, List.setIfInBounds_toArray, List.set_cons_zero, List.set_cons_succ])) | (refine calmRow_take (v := ?_) ?_ ?_ ?_; rotate_left; (focus (go_simp; done)); (focus (intro wx hSx; (try dsimp only at hSx); have hcx := HK.out wx hSx; go_simp; (first | with_reducible rfl | exact ⟨rfl, hSx⟩ | (go_at_call 20; refine (HSe.out _ hSx).mono ?_; rintro e w9 ⟨rfl, rfl⟩; refine ⟨?_, hSx⟩; with_reducible rfl)))); (try simp only [Act.put, List.setIfInBounds_toArray, List.set_cons_zero, List.set_cons_succ])))
            refine calmRow_nil ?_
            intro wn hFx
            try dsimp only at hFx
            go_wp2_with fail
            go_ret
            exact ⟨rfl, HFr.out.trans hFx⟩
  · have hNs := hid (st_cnew_no w x0 (by omega))
    clear hS hk hn hlen
    by_cases h1 : x0 < 1
    · clear hv
      go_enter Try.func4, Try.ntmps4
      go_wp2_with fail
      refine hNs.out.mono ?_
      rintro e w1 ⟨rfl, rfl⟩
      go_wp2_with fail
      go_ret
      exact ⟨rfl, Fr.refl _ _⟩
    · have h2 : 16 < x0 := by omega
      clear hv
      go_enter Try.func4, Try.ntmps4
      go_wp2_with fail
      refine hNs.out.mono ?_
      rintro e w1 ⟨rfl, rfl⟩
      go_wp2_with fail
      go_ret
      exact ⟨rfl, Fr.refl _ _⟩

end Go.Proofs.Ytkiccbjngokpjaa
