/-
  The walk of TopStream.
-/
import Derived.Test.YtkiccbjngokpjaaM27
import Derived.Test.YtkiccbjngokpjaaM2
namespace Go.Proofs.Ytkiccbjngokpjaa
open Go.RowKit
set_option linter.unusedVariables false
set_option linter.unusedSimpArgs false

theorem Sm.sendAll_s (x : Sm) (l : List (Nat × ByteArray)) : (x.sendAll l).s = x.s := (Sm.sendAll_is x l).1
theorem Sm.does_wr (x : Sm) (kind n : Int) (t : ByteArray) : (x.does kind n t).s.win = x.s.win ∧ (x.does kind n t).s.res = x.s.res := by
  unfold Sm.does
  split
  · split
    · exact ⟨rfl, rfl⟩
    · exact ⟨rfl, rfl⟩
  · split
    · rw [Sm.says_s]
      exact (Sn.due_texts x.tick.s).2.2
    · split
      · unfold Sm.dlv
        rcases x.bag[x.place n]? with _ | p
        · exact ⟨rfl, rfl⟩
        · have h := Sm.comes_is (x.drop (x.place n)) p.2
          exact ⟨h.2.1, h.2.2.1⟩
      · split
        · exact ⟨rfl, rfl⟩
        · split
          · rcases x.bag[x.place n]? with _ | p
            · exact ⟨rfl, rfl⟩
            · exact ⟨rfl, rfl⟩
          · exact ⟨rfl, rfl⟩
theorem Sm.rounds_succ (j : Nat) (x : Sm) : Sm.rounds (j + 1) x = (Sm.rounds j x).round := by rw [Sm.rounds_add j 1]; rfl
theorem Sm.ok.few_rounds {x : Sm} (h : x.ok) {B : Nat} (hf : x.few B) (j : Nat) : (Sm.rounds j x).few B := by
  induction j generalizing x with
  | zero => exact hf
  | succ j ih => exact ih h.round (h.few_round hf)
/-- A stream behind q happenings. -/
structure SmI (win res q : Nat) (x : Sm) : Prop where
  ok : x.ok
  bg : x.bag.length ≤ 8 * q
  wn : x.s.win = win
  rs : x.s.res = res
theorem SmI.does {win res q : Nat} {x : Sm} (h : SmI win res q x) (kind n : Int) (t : ByteArray) : SmI win res (q + 1) (x.does kind n t) := by
  have h1 := h.ok.does_len kind n t
  have h2 := h.bg
  exact ⟨h.ok.does kind n t, by omega, (Sm.does_wr x kind n t).1.trans h.wn, (Sm.does_wr x kind n t).2.trans h.rs⟩
theorem begun_get {x : Sm} (h : x.ok) : ∀ (k : Nat) (t : ByteArray), x.stored[k]? = some t → x.s.texts[k]? = some t := fun k t hk => by
  have h1 := h.begun.1
  rw [h1, List.getElem?_take] at hk
  split at hk
  · exact hk
  · cases hk

theorem st_behind2 {W : Base} {w : World} {R : List Thing} (H : St W w R) (i j : Nat) {a1 a2 : Option Addr} {c1 c2 n m : Nat} {got put : List ByteArray} (hn : got.length = n) (hm : put.length = m) (hi : R[i]? = some (RowT 9 1 (.slice a1 n c1) got.length (txC got))) (hj : R[j]? = some (RowT 9 1 (.slice a2 m c2) put.length (txC put)))
    (hb : ∀ (k : Nat) (t : ByteArray), got[k]? = some t → put[k]? = some t) :
    Calls Try.prog 8 #[.slice a1 n c1, .slice a2 m c2] w fun e w' => e = .returned (.bool true) ∧ Fr [] w w' := by
  subst hn hm
  exact st_behind H i j hi hj hb

set_option maxHeartbeats 6400000 in
set_option maxRecDepth 100000 in
theorem topstream_walk (w : World) (x0 : Int) (h01 : -9223372036854775808 ≤ x0) (h02 : x0 ≤ 9223372036854775807) (x1 : Int) (h11 : -9223372036854775808 ≤ x1) (h12 : x1 ≤ 9223372036854775807)
    (a : Option Addr) (len cap : Nat) (V : Nat → Value) (hS : SlIn w 3 32 a len cap V) (hk : ∀ i, i < len → I64 (V (i * 3))) (hn : ∀ i, i < len → I64 (V (i * 3 + 1))) (ht : ∀ i, i < len → Str (V (i * 3 + 2))) (hlen : len ≤ 1048576) :
    Calls Try.prog 3 #[.int .i64 x0, .int .i64 x1, .slice a len cap] w fun e w' => e = .returned (.bool true) ∧ Fr [] w w' := by
  have hfl := hid (st_flowing w)
  by_cases hv : 1 ≤ x0 ∧ x0 ≤ 8 ∧ 1 ≤ x1 ∧ x1 ≤ 16
  · obtain ⟨win, hwin⟩ : ∃ win : Nat, x0 = (win : Int) := ⟨x0.toNat, by omega⟩
    obtain ⟨res, hres⟩ : ∃ res : Nat, x1 = (res : Int) := ⟨x1.toNat, by omega⟩
    subst hwin hres
    have hv1 : 1 ≤ win ∧ win ≤ 8 := by omega
    have hv2 : 1 ≤ res ∧ res ≤ 16 := by omega
    have HV := hid (And.intro hv1 (And.intro hv2 hlen))
    have HF := hid (And.intro hS (And.intro hk (And.intro hn ht)))
    have hNs := hid (fun (wx : World) (hF : Fr [] w wx) => st_newStream_log (W := Base.of w) (w := wx) ((St.refl w).same hF) win res hv1 hv2)
    have hln : (len : Int) ≤ 1048576 := by omega
    have hcp : (len : Int) ≤ cap := by have := hS.le; omega
    clear hv hv1 hv2 h01 h02 h11 h12 hlen hS hk hn ht
    go_enter Try.func3, Try.ntmps3
    go_wp2_with fail
    refine hfl.out.mono ?_
    rintro e w1 ⟨rfl, hF1⟩
    have HS0 := hid (hNs.out _ hF1)
    clear hfl hNs hF1
    go_wp2_with fail
    refine HS0.out.mono ?_
    rintro e w2 ⟨X, S, P, K, N, pv, sv, rfl, H2⟩
    have H2 := hid H2
    have HI0 := hid (show SmI win res 0 (.new win res) from ⟨Sm.new_ok HV.out.1.1 HV.out.1.2 HV.out.2.1.1 HV.out.2.1.2, Nat.zero_le _, rfl, rfl⟩)
    clear HS0
    go_wp2_with fail
    go_loopw [9] (fun iv wr => ∃ (q : Nat) (x : Sm) (pv sv : Value), q ≤ len ∧ iv = .int .i64 q ∧ Hid (St (Base.of w) wr (smL X S P K N x pv sv)) ∧ Hid (SmI win res q x)) (fun iv _ => len - (intOf iv).toNat)
    case atStart => exact ⟨0, _, pv, sv, Nat.zero_le _, rfl, H2, HI0⟩
    case round =>
      obtain ⟨q, x, pv, sv, hq, rfl, HH, HI⟩ := hrel
      have hbX := HH.out.blk 0 rfl
      have x9 := cell_blk (i := 9) hbX rfl
      by_cases hlt : q < len
      · obtain ⟨hS, hk, hn, ht⟩ := HF.out
        obtain ⟨kk, hk1, _, _⟩ := hk q hlt
        obtain ⟨nn, hn1, _, _⟩ := hn q hlt
        obtain ⟨tt, ht1, _⟩ := ht q hlt
        obtain ⟨gb, go, ha⟩ := hS.sm (by omega)
        subst ha
        have hfr := HH.out.fr
        have v0 : wr.cell? ⟨gb, go + q * 3, none⟩ = some (.int .i64 kk) := hfr.cell0 (by rw [hS.cell gb go rfl (q * 3) (by omega), hk1])
        have v1 : wr.cell? ⟨gb, go + q * 3 + 1, none⟩ = some (.int .i64 nn) := hfr.cell0 (by rw [Nat.add_assoc, hS.cell gb go rfl (q * 3 + 1) (by omega), hn1])
        have v2 : wr.cell? ⟨gb, go + q * 3 + 2, none⟩ = some (.string tt) := hfr.cell0 (by rw [Nat.add_assoc, hS.cell gb go rfl (q * 3 + 2) (by omega), ht1])
        have HDs := hid (st_does HH.out HI.out.ok (by have := HI.out.bg; have := HV.out.2.2; omega) kk nn tt)
        have HI2 := hid (HI.out.does kk nn tt)
        have hlt2 : (q : Int) < len := by omega
        have HL := hid (And.intro hlt hq)
        clear hbX hS hk hn ht hk1 hn1 ht1 hfr HH HI hlt hq
        go_wp2_with fail
        refine HDs.out.mono ?_
        rintro e w5 ⟨pv5, sv5, rfl, H5⟩
        clear HDs x9 v0 v1 v2
        generalize x.does kk nn tt = y at H5 HI2
        obtain ⟨pa, pc, rfl, _, _⟩ := row_slice (H5.row 4 rfl)
        obtain ⟨sa, sc, rfl, _, _⟩ := row_slice (H5.row 5 rfl)
        have hb5 := H5.blk 0 rfl
        have HK := hid (show ∀ wx, Fr [] w5 wx → wx.cell? ⟨X, 8, none⟩ = some (.slice sa y.stored.length sc) ∧ wx.cell? ⟨X, 7, none⟩ = some (.slice pa y.s.texts.length pc) ∧ wx.cell? ⟨X, 0, none⟩ = some (ptr S) from fun wx hF => ⟨cell_blk (i := 8) (hF.keep hb5 (by simp)) rfl, cell_blk (i := 7) (hF.keep hb5 (by simp)) rfl, cell_blk (i := 0) (hF.keep hb5 (by simp)) rfl⟩)
        have HBh := hid (show ∀ wx, Fr [] w5 wx → Calls Try.prog 8 #[.slice sa y.stored.length sc, .slice pa y.s.texts.length pc] wx fun e w' => e = .returned (.bool true) ∧ Fr [] wx w' from fun wx hF => st_behind (H5.same hF) 5 4 rfl rfl (begun_get HI2.out.ok))
        have HAk := hid (show ∀ wx, Fr [] w5 wx → Calls Try.prog 9 #[ptr S] wx fun e w' => e = .returned (.int .i64 y.s.done) ∧ wx = w' from fun wx hF => st_sacked (H5.same hF) 1 rfl)
        have b1 : decide (y.stored.length < y.s.done) = false := by
          have := HI2.out.ok.begun.2.1
          simp; omega
        have H5 := hid H5
        clear hb5
        go_wp2_with fail
        refine wp_region_calm (S := fun wx : World => Fr [] w5 wx) (by kernel_rfl) (by kernel_rfl) ((Fr.refl _ _).drew) ?_
        repeat (first | (refine calmRow_free (v := ?_) rfl ?_ ?_; rotate_left; (focus (intro wx hSx; (try dsimp only at hSx); have hcx := HK.out wx hSx; go_simp; (first | with_reducible rfl | exact ⟨rfl, hSx⟩ | (first | (go_at_call 8; refine (HBh.out _ hSx).mono ?_; rintro e w9 ⟨rfl, hF9⟩; refine ⟨?_, hSx.trans hF9⟩; with_reducible rfl) | (go_at_call 9; refine (HAk.out _ hSx).mono ?_; rintro e w9 ⟨rfl, rfl⟩; refine ⟨?_, hSx⟩; with_reducible rfl))))); (try simp only [Act.put, List.setIfInBounds_toArray, List.set_cons_zero, List.set_cons_succ])) | (refine calmRow_skip ?_ ?_; (focus (go_simp; (try (intro hx; cases hx)); done)); (try simp only [Act.put, List.setIfInBounds_toArray, List.set_cons_zero, List.set_cons_succ])) | (refine calmRow_take (v := ?_) ?_ ?_ ?_; rotate_left; (focus (go_simp; done)); (focus (intro wx hSx; (try dsimp only at hSx); have hcx := HK.out wx hSx; go_simp; (first | with_reducible rfl | exact ⟨rfl, hSx⟩ | (first | (go_at_call 8; refine (HBh.out _ hSx).mono ?_; rintro e w9 ⟨rfl, hF9⟩; refine ⟨?_, hSx.trans hF9⟩; with_reducible rfl) | (go_at_call 9; refine (HAk.out _ hSx).mono ?_; rintro e w9 ⟨rfl, rfl⟩; refine ⟨?_, hSx⟩; with_reducible rfl))))); (try simp only [Act.put, List.setIfInBounds_toArray, List.set_cons_zero, List.set_cons_succ])))
        refine calmRow_nil ?_
        intro wn hFx
        try dsimp only at hFx
        go_wp2_with fail
        have hq1 : (q : Int) + 1 = ((q + 1 : Nat) : Int) := by omega
        refine ⟨⟨q + 1, y, _, _, by have := HL.out.1; omega, by rw [hq1], H5.out.same hFx, HI2⟩, ?_⟩
        show len - ((q : Int) + 1).toNat < len - (q : Int).toNat
        have := HL.out.1
        omega
      · obtain rfl : q = len := by omega
        obtain ⟨pa, pc, rfl, _, _⟩ := row_slice (HH.out.row 4 rfl)
        have x7 := cell_blk (i := 7) hbX rfl
        obtain ⟨L, hL⟩ : ∃ L, x.s.texts.length = L := ⟨_, rfl⟩
        obtain ⟨M, hM⟩ : ∃ M, (x.s.texts.length + 1) * (x.s.res + 2) = M := ⟨_, rfl⟩
        have hL32 : L ≤ 32 := by rw [← hL]; exact HI.out.ok.d4
        rw [hL] at HH
        have hM2 : M = (L + 1) * (res + 2) := by rw [← hM, hL, HI.out.rs]
        have hMb : M ≤ 600 := by
          have h1 := HV.out.2.1.2
          rw [hM2]
          calc (L + 1) * (res + 2) ≤ 33 * 18 := Nat.mul_le_mul (by omega) (by omega)
            _ ≤ 600 := by decide
        have hmul : wrap64 (((L : Int) + 1) * ((res : Int) + 2)) = (M : Int) := by
          have e : ((L : Int) + 1) * ((res : Int) + 2) = (M : Int) := by rw [hM2]; push_cast; rfl
          rw [e, IntWalk.wrap64_in _ (by omega)]
        have hends := hid (show (Sm.rounds M x).s.texts = x.s.texts ∧ (Sm.rounds M x).stored = x.s.texts ∧ (Sm.rounds M x).s.done = x.s.texts.length from by rw [← hM]; exact HI.out.ok.ends)
        have hRd := hid (fun j => HI.out.ok.rounds j)
        have hFew := hid (fun j => HI.out.ok.few_rounds (B := 8 * 1048576) (.inl (by have := HI.out.bg; have := HV.out.2.2; omega)) j)
        have HM := hid (And.intro hMb (And.intro hL hL32))
        have hL9 : (L : Int) ≤ 32 := by omega
        have hres9 : (res : Int) ≤ 16 := by have := HV.out.2.1.2; omega
        clear hbX hlt hq hM hM2 hMb hL hL32 x7 x9
        go_wp2_with fail
        go_loopw [10] (fun jv wr => ∃ (j : Nat) (sv' : Value), j ≤ M ∧ jv = .int .i64 j ∧ Hid (St (Base.of w) wr (smL X S P K N (Sm.rounds j x) (.slice pa L pc) sv'))) (fun jv _ => M - (intOf jv).toNat)
        case atStart => exact ⟨0, sv, Nat.zero_le _, rfl, HH⟩
        case round =>
          obtain ⟨j, sv', hj, rfl, HJ⟩ := hrel
          have hbX := HJ.out.blk 0 rfl
          have y7 := cell_blk (i := 7) hbX rfl
          have y9 := cell_blk (i := 9) hbX rfl
          by_cases hlt : j < M
          · have hlt2 : (j : Int) < M := by omega
            have HRn := hid (st_round HJ.out (hRd.out j).1 (by
              have h := hFew.out j
              rcases h with h | ⟨h, _⟩ <;> omega))
            have HL := hid (And.intro hlt hj)
            have hM9 : (M : Int) ≤ 600 := by have := HM.out.1; omega
            clear hbX hlt hj
            go_wp2_with fail
            refine HRn.out.mono ?_
            rintro e w6 ⟨sv6, rfl, H6⟩
            rw [← Sm.rounds_succ] at H6
            have H6 := hid H6
            clear y7 y9
            go_wp2_with fail
            have hq1 : (j : Int) + 1 = ((j + 1 : Nat) : Int) := by omega
            refine ⟨⟨j + 1, _, by have := HL.out.1; omega, by rw [hq1], H6⟩, ?_⟩
            show M - ((j : Int) + 1).toNat < M - (j : Int).toNat
            have := HL.out.1
            omega
          · obtain rfl : j = M := by omega
            obtain ⟨e1, e2, e3⟩ := hends.out
            obtain ⟨y, hy⟩ : ∃ y, Sm.rounds j x = y := ⟨_, rfl⟩
            have hyok := hid (show y.ok from hy ▸ (hRd.out j).1)
            rw [hy] at HJ e1 e2 e3 hbX
            have eL : y.s.texts.length = L := by rw [e1]; exact HM.out.2.1
            have eS : y.stored.length = L := by rw [e2]; exact HM.out.2.1
            have eD : y.s.done = L := by rw [e3]; exact HM.out.2.1
            obtain ⟨sa, sc, rfl, _, _⟩ := row_slice (HJ.out.row 5 rfl)
            have HJ5 := HJ.out
            have HK := hid (show ∀ wx, Fr [] wr wx → wx.cell? ⟨X, 8, none⟩ = some (.slice sa L sc) ∧ wx.cell? ⟨X, 7, none⟩ = some (.slice pa L pc) ∧ wx.cell? ⟨X, 0, none⟩ = some (ptr S) from fun wx hF => ⟨by rw [← eS]; exact cell_blk (i := 8) (hF.keep hbX (by simp)) rfl, cell_blk (i := 7) (hF.keep hbX (by simp)) rfl, cell_blk (i := 0) (hF.keep hbX (by simp)) rfl⟩)
            have HBh := hid (show ∀ wx, Fr [] wr wx → Calls Try.prog 8 #[.slice sa L sc, .slice pa L pc] wx fun e w' => e = .returned (.bool true) ∧ Fr [] wx w' from fun wx hF => by
              have h := HJ5.same hF
              have h9 := st_behind2 h 5 4 rfl eL rfl rfl (begun_get hyok.out)
              rw [eS] at h9
              exact h9)
            have HAk := hid (show ∀ wx, Fr [] wr wx → Calls Try.prog 9 #[ptr S] wx fun e w' => e = .returned (.int .i64 L) ∧ wx = w' from fun wx hF => by
              have h := st_sacked (HJ5.same hF) 1 rfl
              rw [eD] at h
              exact h)
            have HFr := hid HJ5.fr
            have y9 := cell_blk (i := 9) hbX rfl
            clear hlt hj e1 e2 e3 hy eL eS eD HJ5 hbX
            go_wp2_with fail
            refine wp_region_calm (S := fun wx : World => Fr [] wr wx) (by kernel_rfl) (by kernel_rfl) ((Fr.refl _ _).drew) ?_
            repeat (first | (refine calmRow_free (v := ?_) rfl ?_ ?_; rotate_left; (focus (intro wx hSx; (try dsimp only at hSx); have hcx := HK.out wx hSx; go_simp; (first | with_reducible rfl | exact ⟨rfl, hSx⟩ | (first | (go_at_call 8; refine (HBh.out _ hSx).mono ?_; rintro e w9 ⟨rfl, hF9⟩; refine ⟨?_, hSx.trans hF9⟩; with_reducible rfl) | (go_at_call 9; refine (HAk.out _ hSx).mono ?_; rintro e w9 ⟨rfl, rfl⟩; refine ⟨?_, hSx⟩; with_reducible rfl))))); (try simp only [Act.put, List.setIfInBounds_toArray, List.set_cons_zero, List.set_cons_succ])) | (refine calmRow_skip ?_ ?_; (focus (go_simp; (try (intro hx; cases hx)); done)); (try simp only [Act.put, List.setIfInBounds_toArray, List.set_cons_zero, List.set_cons_succ])) | (refine calmRow_take (v := ?_) ?_ ?_ ?_; rotate_left; (focus (go_simp; done)); (focus (intro wx hSx; (try dsimp only at hSx); have hcx := HK.out wx hSx; go_simp; (first | with_reducible rfl | exact ⟨rfl, hSx⟩ | (first | (go_at_call 8; refine (HBh.out _ hSx).mono ?_; rintro e w9 ⟨rfl, hF9⟩; refine ⟨?_, hSx.trans hF9⟩; with_reducible rfl) | (go_at_call 9; refine (HAk.out _ hSx).mono ?_; rintro e w9 ⟨rfl, rfl⟩; refine ⟨?_, hSx⟩; with_reducible rfl))))); (try simp only [Act.put, List.setIfInBounds_toArray, List.set_cons_zero, List.set_cons_succ])))
            refine calmRow_nil ?_
            intro wn hFx
            try dsimp only at hFx
            go_wp2_with fail
            go_ret
            exact ⟨rfl, HFr.out.trans hFx⟩
  · have hNs := hid (fun (wx : World) => st_newStream_no (w := wx) x0 x1 hv false)
    clear hv hS hk hn ht hlen
    go_enter Try.func3, Try.ntmps3
    go_wp2_with fail
    refine hfl.out.mono ?_
    rintro e w1 ⟨rfl, hF1⟩
    go_wp2_with fail
    refine (hNs.out _).mono ?_
    rintro e w2 ⟨rfl, rfl⟩
    go_wp2_with fail
    go_ret
    exact ⟨rfl, hF1⟩

end Go.Proofs.Ytkiccbjngokpjaa
