/-
  The walk of WalMends.
-/
import Derived.Deep.RegionHeld3
import Derived.Test.YthghnlgojmedgaaM28
namespace Go.Proofs.Ythghnlgojmedgaa
open Go.RowKit
set_option linter.unusedVariables false
set_option linter.unusedSimpArgs false

/-- A log behind k lives. -/
structure Me (k : Nat) (x : WS) (d : DS) (s : ByteArray) (l : List ByteArray) : Prop where
  lg : Lg9 x d s l
  armed : d.armed = 0
  raw : d.raw.length ≤ 2400 * k + 1
  num : x.h.number ≤ 3 * k + 1
theorem Me.rawOk {k : Nat} {x : WS} {d : DS} {s : ByteArray} {l : List ByteArray} (M : Me k x d s l) (hk : k ≤ 1048576) : (d.raw.length + 6000) * 24 ≤ 140737488355328 := by
  have := M.raw; omega
/-- A call that may be cut, and the disk revived. -/
theorem me_cut {k : Nat} {x : WS} {d : DS} {s : ByteArray} {l : List ByteArray} (M : Me k x d s l) {n b : Int} (hn : 0 ≤ n) (hn2 : n ≤ 9223372036854775807) (hb : 0 ≤ b) (hb2 : b ≤ 128) (r : ByteArray) :
    ∃ h3 s3 l3, Lay9 (x.append (d.arm n b).2 r).2.2.revive h3 s3 l3 ∧ (x.append (d.arm n b).2 r).2.2.raw.length ≤ d.raw.length + 600 ∧ h3.number ≤ x.h.number + 1 := by
  obtain ⟨_, L1, _, _, hr, hsec⟩ := M.lg.arm hn hn2 hb hb2
  generalize (d.arm n b).2 = d1 at *
  by_cases hbad : apBad x d1 r
  · obtain ⟨_, _, h⟩ := append_bad L1.log r hbad
    rw [h]
    exact ⟨_, _, _, L1.lay.revive, by show d1.raw.length ≤ _; rw [hr]; omega, by omega⟩
  · rcases (append_cut L1 r hbad).2.1 with ⟨_, _, h⟩ | ⟨_, hL, _, h3, h4, h5, _⟩ | ⟨_, _, _, _, _, _, h6, _, q, h', hq, h3, h4, h5⟩
    · rw [h]
      exact ⟨_, _, _, L1.lay.revive, by show d1.raw.length ≤ _; rw [hr]; omega, by omega⟩
    · exact ⟨_, _, _, hL.lay.revive, by rw [h3, hr]; omega, by omega⟩
    · rcases h5 with ⟨_, h5⟩ | ⟨_, h5⟩
      · exact ⟨_, _, _, h5.revive, by rw [h3, hr]; omega, by omega⟩
      · exact ⟨_, _, _, h5.revive, by rw [h3, hr]; omega, by omega⟩
theorem snap_empty {x : WS} {d : DS} {s : ByteArray} {l : List ByteArray} (L : Lg9 x d s l) (ha : d.armed = 0) (hn : x.h.number < 1099511627776) :
    (x.snapshot d ⟨#[]⟩).1 = 0 ∧ Lg9 (x.snapshot d ⟨#[]⟩).2.1 (x.snapshot d ⟨#[]⟩).2.2 ⟨#[]⟩ [] ∧ (x.snapshot d ⟨#[]⟩).2.2.armed = 0 ∧ (x.snapshot d ⟨#[]⟩).2.2.raw.length ≤ d.raw.length + 600 ∧ (x.snapshot d ⟨#[]⟩).2.1.h.number = x.h.number + 1 ∧ (x.snapshot d ⟨#[]⟩).2.1.h.snap + (x.snapshot d ⟨#[]⟩).2.1.h.log = 0 ∧ (x.snapshot d ⟨#[]⟩).2.2.sec.length = d.sec.length := by
  have hb : ¬ snBad x d ⟨#[]⟩ := by
    have h0 : (⟨#[]⟩ : ByteArray).size = 0 := rfl
    unfold snBad
    rw [h0]
    omega
  rcases (snapshot_cut L ⟨#[]⟩ hb).1 with ⟨h, h2, _⟩ | ⟨h1, hL, h2, h3, h4, h5, h6⟩ | ⟨_, h, _⟩
  · exfalso
    rcases (snapshot_cut L ⟨#[]⟩ hb).2 with h' | h'
    · exact h h'
    · exact h2 h'
  · refine ⟨h1, hL, h2 ha, by omega, h5, ?_, h6⟩
    have hs := hL.log.cnt.fd.size
    have e0 : (⟨#[]⟩ : ByteArray).size = 0 := rfl
    have e1 : (frs []).length = 0 := rfl
    omega
  · exact absurd ha h
theorem ab_done {x : WS} {d : DS} {s : ByteArray} {l : List ByteArray} (L : Lg9 x d s l) (ha : d.armed = 0) (hn : x.h.number < 1099511627776) (hr : x.h.snap + x.h.log + 3 ≤ roomN d.sec.length) :
    (x.append d abS).1 = 0 ∧ Lg9 (x.append d abS).2.1 (x.append d abS).2.2 s (l ++ [abS]) ∧ (x.append d abS).2.2.armed = 0 ∧ (x.append d abS).2.2.raw.length ≤ d.raw.length + 600 ∧ (x.append d abS).2.1.h.number = x.h.number + 1 := by
  have hb : ¬ apBad x d abS := by
    have h0 : abS.size = 2 := rfl
    unfold apBad
    rw [h0, tf_ab]
    omega
  obtain ⟨_, hc, h01⟩ := append_cut L abS hb
  rcases hc with ⟨h, h2, _⟩ | ⟨h1, hL, h2, h3, h4, h5, h6⟩ | ⟨_, h, _⟩
  · exfalso
    rcases h01 with h' | h'
    · exact h h'
    · exact h2 h'
  · exact ⟨h1, hL, h2 ha, by omega, h5⟩
  · exact absurd ha h
theorem strV_pre (l m : List ByteArray) (j : Nat) (h : j < l.length) : strV (l ++ m) j = strV l j := by
  unfold strV sAt
  rw [List.getD_eq_getElem?_getD, List.getD_eq_getElem?_getD, List.getElem?_append_left h]

set_option maxHeartbeats 1600000 in
set_option maxRecDepth 100000 in
theorem walmends_any (w : World) (half : Int) (hl1 : -9223372036854775808 ≤ half) (hl2 : half ≤ 9223372036854775807) (a : Option Addr) (n cap : Nat) (ls : List Lf) (hI : LfArg w a n cap ls) (hbig : n ≤ 1048576) :
    Calls Try.prog 5 #[.int .i64 half, .slice a n cap] w fun e w' => e = .returned (.bool true) ∧ Fr [] w w' := by
  have H := St.refl w
  have HI := hid hI
  have hm := hI.row.max
  clear hI
  by_cases hbad : half < 2 ∨ 512 < half
  · have HF := hid (st_fixed09 H)
    clear H hbig
    by_cases h1 : half < 2
    · clear hbad
      go_enter Try.func5, Try.ntmps5
      go_wp2_with fail
      refine HF.out.mono ?_
      rintro e w1 ⟨rfl, H⟩
      go_wp2_with fail
      go_ret
      exact ⟨rfl, H.fr⟩
    · have h2 : 512 < half := by omega
      clear hbad
      go_enter Try.func5, Try.ntmps5
      go_wp2_with fail
      refine HF.out.mono ?_
      rintro e w1 ⟨rfl, H⟩
      go_wp2_with fail
      go_ret
      exact ⟨rfl, H.fr⟩
  obtain ⟨hf, rfl⟩ : ∃ hf : Nat, half = hf := ⟨half.toNat, by omega⟩
  have h1 : 2 ≤ hf := by omega
  have h2 : hf ≤ 512 := by omega
  have HL := hid (st_laid H hf (by omega) h2)
  have b1 : ¬ (hf : Int) < 2 := by omega
  have b2 : ¬ (512 : Int) < hf := by omega
  have HMX := hid (And.intro hm hbig)
  clear H hbad hl1 hl2 h1 h2 hm hbig
  go_enter Try.func5, Try.ntmps5
  go_wp2_with fail
  refine HL.out.mono ?_
  rintro e w1 ⟨D, B0, d0, rfl, H, hl⟩
  have H : St (.of w) w1 [DkT D d0, WlT B0 D ⟨fmtH, 0, false⟩] := by simpa using H
  have HS0 := hid H
  have HA := hid (show Me 0 ⟨fmtH, 0, false⟩ d0 ⟨#[]⟩ [] from ⟨⟨hl.out.1, by show Stale (sAt d0.sec 0) 2; rw [hl.out.2.2.2.2]; exact zero_stale⟩, hl.out.2.1, by rw [hl.out.2.2.1]; decide, by decide⟩)
  clear H hl HL b1 b2
  go_wp2_with fail
  go_loopw [6, 7] (fun bv iv wr => ∃ (k B : Nat) (x : WS) (d : DS) (s : ByteArray) (l : List ByteArray), k ≤ n ∧ iv = .int .i64 k ∧ bv = .pointer (some ⟨B, 0, none⟩) ∧ Hid (Me k x d s l) ∧ St (.of w) wr [DkT D d, WlT B D x]) (fun _ iv _ => n - (intOf iv).toNat)
  case atStart => exact ⟨0, B0, _, _, _, [], Nat.zero_le _, rfl, rfl, HA, HS0.out⟩
  case round =>
    obtain ⟨k, B, x, d, s, l, hk, rfl, rfl, hM, H⟩ := hrel
    by_cases hlt : k < n
    · obtain ⟨b, off, rfl⟩ := HI.out.row.sm (by omega)
      obtain ⟨y, hy⟩ : ∃ y, lfL.nth ls k = y := ⟨_, rfl⟩
      have hone := HI.out.nth k hlt
      rw [hy] at hone
      obtain ⟨c0, c1, c2, c3⟩ := lf_cells (HI.out.row.fr0 H.fr) k hlt y hy
      have HONE := hid hone
      have HLT := hid (And.intro hlt hk)
      have hltI : (k : Int) < n := by omega
      have HK := hid (show IntKind.i64.wrap ((k : Int) + 1) = (k : Int) + 1 from IntWalk.i64_in _ (by have := HMX.out.1; omega))
      have HRW := hid (hM.out.rawOk (by have := HMX.out.2; omega))
      have HB := hid (H.alloc (.cells #[.slice y.ta y.texts.length y.tc, .slice y.ma y.marks.length y.mc, .int .i64 y.n, .int .i64 y.bytes] 42))
      have HH := hid H
      clear hone hlt hk H HA HS0 hy
      go_wp2_with fail
      have z0 := cell_blk (i := 0) (HB.out.blk 2 rfl) rfl
      have z2 := cell_blk (i := 2) (HB.out.blk 2 rfl) rfl
      have z3 := cell_blk (i := 3) (HB.out.blk 2 rfl) rfl
      clear c0 c1 c2 c3
      obtain ⟨ob, hob⟩ : ∃ ob, wr.heap.size = ob := ⟨_, rfl⟩
      rw [hob] at HB z0 z2 z3 ⊢
      generalize wr.alloc (.cells #[.slice y.ta y.texts.length y.tc, .slice y.ma y.marks.length y.mc, .int .i64 y.n, .int .i64 y.bytes] 42) = wB at HB z0 z2 z3 ⊢
      by_cases hz : y.texts.length = 0
      · rw [hz] at z0
        have HKK := hid (fun (wx : World) (h : Fr [] wB wx) => (show wx.cell? ⟨ob, 0, none⟩ = some (.slice y.ta 0 y.tc) ∧ wx.cell? ⟨ob, 2, none⟩ = some (.int .i64 y.n) ∧ wx.cell? ⟨ob, 3, none⟩ = some (.int .i64 y.bytes) from ⟨h.cell0 z0, h.cell0 z2, h.cell0 z3⟩))
        clear hz z0 z2 z3
        refine wp_region_calm (S := fun wx : World => Fr [] wB wx) (by kernel_rfl) (by kernel_rfl) ((Fr.refl _ _).drew) ?_
        repeat (first | (refine calmRow_free (v := ?_) rfl ?_ ?_; rotate_left; (focus (intro wx hSx; (try dsimp only at hSx); have hcx := HKK.out wx hSx; go_simp; (first | with_reducible rfl | exact ⟨rfl, hSx⟩))); (try simp only [Act.put, List.setIfInBounds_toArray, List.set_cons_zero, List.set_cons_succ])) | (refine calmRow_skip ?_ ?_; (focus (go_simp; (try (intro hx; cases hx)); done)); (try simp only [Act.put, List.setIfInBounds_toArray, List.set_cons_zero, List.set_cons_succ])) | (refine calmRow_take (v := ?_) ?_ ?_ ?_; rotate_left; (focus (go_simp; done)); (focus (intro wx hSx; (try dsimp only at hSx); have hcx := HKK.out wx hSx; go_simp; (first | with_reducible rfl | exact ⟨rfl, hSx⟩))); (try simp only [Act.put, List.setIfInBounds_toArray, List.set_cons_zero, List.set_cons_succ])))
        refine calmRow_nil ?_
        intro wn hFx
        try dsimp only at hFx
        have HEND := hid ((HB.out.same hFx).take 2)
        have hwk := HK.out
        go_wp2_with fail
        go_roundw
        case rel => exact ⟨k + 1, B, x, d, s, l, HLT.out.1, by go_num, rfl, hid ⟨hM.out.lg, hM.out.armed, by have := hM.out.raw; omega, by have := hM.out.num; omega⟩, HEND.out⟩
        case measure => have := HLT.out.1; simp [intOf]; omega
      · obtain ⟨nt, hnt⟩ : ∃ nt, y.texts.length = nt := ⟨_, rfl⟩
        rw [hnt] at z0 HB hz
        have hzb : ((nt : Int) == 0) = false := by rw [beq_eq_false_iff_ne]; omega
        obtain ⟨bt, ot, hta⟩ := HONE.out.tx.sm (by omega)
        obtain ⟨r, hr⟩ : ∃ r, sAt y.texts 0 = r := ⟨_, rfl⟩
        have hct : ∀ w', Fr [] w w' → w'.cell? ⟨bt, ot, none⟩ = some (.string r) := fun w' hF => by
          have h1 := (HONE.out.tx.fr0 hF).cell bt ot hta 0 (by omega)
          rw [← hr]; exact h1
        have hrs := HONE.out.tsz 0 (by omega)
        rw [hr] at hrs
        have HCT := hid (And.intro hct (And.intro hrs (show (0 : Int) < nt by omega)))
        rw [hta] at z0 HB
        obtain ⟨pn, hpn⟩ : ∃ pn, y.n % 3 = pn := ⟨_, rfl⟩
        obtain ⟨pb, hpb⟩ : ∃ pb, y.bytes % 129 = pb := ⟨_, rfl⟩
        have hp1 := fun w' => place09 y.n 3 w' HONE.out.n1 HONE.out.n2 (by decide) (by decide)
        have hp2 := fun w' => place09 y.bytes 129 w' HONE.out.b1 HONE.out.b2 (by decide) (by decide)
        rw [hpn] at hp1
        rw [hpb] at hp2
        have hpn1 : 0 ≤ pn ∧ pn ≤ 2 := by omega
        have hpb1 : 0 ≤ pb ∧ pb ≤ 128 := by omega
        have hw1 : IntKind.i64.wrap (1 + pn) = 1 + pn := IntWalk.i64_in _ (by omega)
        have harm := st_arm HB.out.drew 0 rfl (1 + pn) pb
        have hla := hM.out.lg.arm (n := 1 + pn) (b := pb) (by omega) (by omega) hpb1.1 hpb1.2
        have hcut := me_cut hM.out (n := 1 + pn) (b := pb) (by omega) (by omega) hpb1.1 hpb1.2 r
        rw [hla.1] at harm
        obtain ⟨d1, hd1⟩ : ∃ d1, (d.arm (1 + pn) pb).2 = d1 := ⟨_, rfl⟩
        rw [hd1] at harm hla hcut
        obtain ⟨x2, hx2⟩ : ∃ q, (x.append d1 r).2.1 = q := ⟨_, rfl⟩
        obtain ⟨d2, hd2⟩ : ∃ q, (x.append d1 r).2.2 = q := ⟨_, rfl⟩
        obtain ⟨ze, hze⟩ : ∃ q, (x.append d1 r).1 = q := ⟨_, rfl⟩
        rw [hd2] at hcut
        obtain ⟨h3, s3, l3, hL3, hraw3, hnum3⟩ := hcut
        obtain ⟨d3, hd3⟩ : ∃ q, d2.revive = q := ⟨_, rfl⟩
        have hon3 : d3.dead = false := by rw [← hd3]; rfl
        have harm3 : d3.armed = 0 := by rw [← hd3]; rfl
        have hraw4 : d3.raw.length ≤ d.raw.length + 600 := by rw [← hd3]; exact hraw3
        rw [hd3] at hL3
        have hlg3 := hL3.log hon3
        obtain ⟨x3, hx3⟩ : ∃ q, (⟨h3, l3.length, false⟩ : WS) = q := ⟨_, rfl⟩
        rw [hx3] at hlg3
        have hnx3 : x3.h.number ≤ x.h.number + 1 := by rw [← hx3]; exact hnum3
        have HP1 := hid hp1
        have HP2 := hid hp2
        have HARM := hid harm
        have HLA := hid (And.intro hla.2.1 hla.2.2.2.2.1)
        have HL3 := hid (And.intro hlg3 (And.intro harm3 (And.intro hraw4 (And.intro hnx3 hx3))))
        have HD3 := hid hd3
        have HXD := hid (And.intro hze (And.intro hx2 hd2))
        clear hltI hz hr hct hrs hpn hpb hp1 hp2 hpn1 hpb1 harm hla hd1 hx2 hd2 hze hL3 hraw3 hnum3 hd3 hon3 harm3 hraw4 hlg3 hx3 hnx3 hta HH hnt
        go_region_held3 (fun wx : World => wx.cell? ⟨ob, 0, none⟩ = some (.slice (some ⟨bt, ot, none⟩) nt y.tc) ∧ wx.cell? ⟨ob, 2, none⟩ = some (.int .i64 y.n) ∧ wx.cell? ⟨ob, 3, none⟩ = some (.int .i64 y.bytes)) ((first | exact hNow | exact ⟨z0, z2, z3⟩))
          (first
            | (go_at_call 20; with_reducible refine (HP2.out _).mono ?_; rintro e w2 ⟨rfl, rfl⟩)
            | (go_at_call 20; with_reducible refine (HP1.out _).mono ?_; rintro e w2 ⟨rfl, rfl⟩)
            | (go_at_call 19; refine HARM.out.mono ?_; rintro e w4 ⟨rfl, H4⟩; have hNow := And.intro (cell_blk (i := 0) (H4.blk 2 rfl) rfl) (And.intro (cell_blk (i := 2) (H4.blk 2 rfl) rfl) (cell_blk (i := 3) (H4.blk 2 rfl) rfl)); have HH4 := hid H4; clear H4))
        obtain ⟨v0, _, _⟩ := hNow
        have u0 := HCT.out.1 w4 HH4.out.fr
        have hix := HCT.out.2.2
        clear z0 z2 z3 hw1 hzb HP1 HP2 HARM
        have hap := st_wappend HH4.out 1 0 (B := B) (D := D) (x := x) (d := d1) rfl rfl (by decide) HLA.out.1.log.i r (by have := HCT.out.2.1; omega) (by rw [HLA.out.2]; have := HRW.out; omega)
        rw [HXD.out.1, HXD.out.2.1, HXD.out.2.2] at hap
        have HAP := hid hap
        clear hap
        go_wp2_with fail
        refine HAP.out.mono ?_
        rintro e w5 ⟨rfl, H⟩
        try simp only [List.nil_append, List.cons_append, List.set_cons_zero, List.set_cons_succ] at H
        have HRV := hid (st_revive H 0 rfl)
        rw [HD3.out] at HRV
        clear H HAP v0 u0 hix
        go_wp2_with fail
        refine HRV.out.mono ?_
        rintro e w6 ⟨rfl, H⟩
        try simp only [List.nil_append, List.cons_append, List.set_cons_zero, List.set_cons_succ] at H
        have HO := hid (st_lopen (x := x3) H 0 rfl HL3.out.1.log.wf HL3.out.1.log.on HL3.out.1.log.fit HL3.out.1.log.cnt)
        clear H HRV
        go_wp2_with fail
        refine HO.out.mono ?_
        rintro e w7 ⟨B1, p1, rfl, H⟩
        rw [HL3.out.1.log.eq] at H
        have hrm : ∀ (w' : World), St (.of w) w' ([DkT D d3, WlT B D x2, BlkT ob (.cells #[.slice (some ⟨bt, ot, none⟩) nt y.tc, .slice y.ma y.marks.length y.mc, .int .i64 y.n, .int .i64 y.bytes] 42), WvT 9 1 p1 l3.length (strV l3), WlT B1 D x3]) → Calls Try.prog 18 #[.pointer (some ⟨B1, 0, none⟩)] w' fun e w'' => e = .returned (.int .i64 (x3.room d3 : Nat)) ∧ St (.of w) w'' ([DkT D d3, WlT B D x2, BlkT ob (.cells #[.slice (some ⟨bt, ot, none⟩) nt y.tc, .slice y.ma y.marks.length y.mc, .int .i64 y.n, .int .i64 y.bytes] 42), WvT 9 1 p1 l3.length (strV l3), WlT B1 D x3]) := fun w' h => st_wroom h 4 0 rfl rfl HL3.out.1.log.i
        have hrf := room_facts HL3.out.1.log
        obtain ⟨m, hm⟩ : ∃ m, x3.room d3 = m := ⟨_, rfl⟩
        rw [hm] at hrm hrf
        have HRM := hid (hrm w7 H)
        have HRF := hid hrf
        clear hrm hrf hm H HO
        go_wp2_with fail
        refine HRM.out.mono ?_
        rintro e w8 ⟨rfl, H⟩
        clear HRM
        by_cases hm2 : m < 2
        · have hmi : (m : Int) < 2 := by omega
          have hse := snap_empty HL3.out.1 HL3.out.2.1 (by have := HL3.out.2.2.2.1; have := hM.out.num; have := HLT.out.1; have := HMX.out.2; omega)
          have hsn := st_wsnapshot H 4 0 (B := B1) (D := D) (x := x3) (d := d3) rfl rfl (by decide) HL3.out.1.log.i ⟨#[]⟩ (by decide) (by have := HL3.out.2.2.1; have := HRW.out; omega)
          obtain ⟨x4, hx4⟩ : ∃ q, (x3.snapshot d3 ⟨#[]⟩).2.1 = q := ⟨_, rfl⟩
          obtain ⟨d4, hd4⟩ : ∃ q, (x3.snapshot d3 ⟨#[]⟩).2.2 = q := ⟨_, rfl⟩
          rw [hse.1, hx4, hd4] at hsn
          rw [hx4, hd4] at hse
          have HT := hid (show Lg9 x4 d4 ⟨#[]⟩ [] ∧ d4.armed = 0 ∧ d4.raw.length ≤ d.raw.length + 1200 ∧ x4.h.number ≤ 3 * k + 1 + 2 ∧ x4.h.snap + x4.h.log + 3 ≤ roomN d4.sec.length from ⟨hse.2.1, hse.2.2.1, by have := hse.2.2.2.1; have := HL3.out.2.2.1; omega, by have := hse.2.2.2.2.1; have := HL3.out.2.2.2.1; have := hM.out.num; omega, by have h1 := (roomN_ok hse.2.1.log.fit).2.2.2; rw [h1]; have h2 := (roomN_ok hse.2.1.log.fit).1; have h3 := hse.2.2.2.2.2.1; have h4 := hse.2.2.2.2.2.2; omega⟩)
          have HSN := hid hsn
          clear hsn hse hx4 hd4 H hm2
          go_wp2_with fail
          refine HSN.out.mono ?_
          rintro e w9 ⟨rfl, H⟩
          clear HSN
          try simp only [List.nil_append, List.cons_append, List.set_cons_zero, List.set_cons_succ] at H
          have HRC := hid (st_wrecords H 4 (B := B1) (D := D) (x := x4) rfl)
          rw [HT.out.1.log.n] at HRC
          have hab := ab_done HT.out.1 HT.out.2.1 (by have := HT.out.2.2.2.1; have := HLT.out.1; have := HMX.out.2; omega) HT.out.2.2.2.2
          obtain ⟨x5, hx5⟩ : ∃ q, ((x4).append (d4) abS).2.1 = q := ⟨_, rfl⟩
          obtain ⟨d5, hd5⟩ : ∃ q, ((x4).append (d4) abS).2.2 = q := ⟨_, rfl⟩
          obtain ⟨L5, hL5⟩ : ∃ q, (([] : List ByteArray) ++ [abS]) = q := ⟨_, rfl⟩
          obtain ⟨q, hq⟩ : ∃ q, (([] : List ByteArray)).length = q := ⟨_, rfl⟩
          have hq5 : L5.length = q + 1 := by rw [← hL5, List.length_append, hq]; rfl
          have hcell5 : strV L5 q = .string abS := by rw [← hL5, ← hq]; unfold strV sAt; simp [List.getD]
          have hpre5 : ∀ j, j < q → strV L5 j = strV ([] : List ByteArray) j := fun j hj => by rw [← hL5]; exact strV_pre _ _ _ (by omega)
          have hap5 := fun (w' : World) (T : List Thing) (h : St (.of w) w' ([DkT D d4, WlT B D x2, BlkT ob (.cells #[.slice (some ⟨bt, ot, none⟩) nt y.tc, .slice y.ma y.marks.length y.mc, .int .i64 y.n, .int .i64 y.bytes] 42), WvT 9 1 p1 l3.length (strV l3), WlT B1 D x4] ++ T)) => st_wappend h 4 0 (B := B1) (D := D) (x := x4) (d := d4) rfl rfl (by decide) HT.out.1.log.i abS (by decide) (by have := HT.out.2.2.1; have := HRW.out; omega)
          rw [hab.1, hx5, hd5] at hap5
          rw [hx5, hd5, hL5] at hab
          have HAB := hid (show Me (k + 1) x5 d5 (⟨#[]⟩ : ByteArray) L5 from ⟨hab.2.1, hab.2.2.1, by have := hab.2.2.2.1; have := HT.out.2.2.1; have := hM.out.raw; omega, by have := hab.2.2.2.2; have := HT.out.2.2.2.1; have := hM.out.num; omega⟩)
          have HQ5 := hid (And.intro hq5 (And.intro hcell5 (And.intro hpre5 hq)))
          have HAP5 := hid hap5
          have habs : abS = ⟨#[97, 98]⟩ := rfl
          clear hx5 hd5 hL5 hq hq5 hcell5 hpre5 hap5 hab H
          go_wp2_with fail
          refine HRC.out.mono ?_
          rintro e w11 ⟨rfl, H⟩
          have HAP6 := hid (HAP5.out w11 [] H)
          clear H HRC HAP5
          go_wp2_with fail
          refine HAP6.out.mono ?_
          rintro e w12 ⟨rfl, H⟩
          try simp only [List.nil_append, List.cons_append, List.set_cons_zero, List.set_cons_succ] at H
          have HO := hid (st_lopen (x := x5) H 0 rfl HAB.out.lg.log.wf HAB.out.lg.log.on HAB.out.lg.log.fit HAB.out.lg.log.cnt)
          clear H HAP6
          go_wp2_with fail
          refine HO.out.mono ?_
          rintro e w13 ⟨B2, p2, rfl, H⟩
          have hwv := H.wv 5 (e := 9) (sz := 1) (n := L5.length) (a := p2) (V := strV L5) rfl
          obtain ⟨g, rfl⟩ := hwv.sm (by have := HQ5.out.1; omega)
          have hc5 := hwv.cell q (by have := HQ5.out.1; omega)
          rw [HQ5.out.2.1, Nat.zero_add] at hc5
          have hin5 : In w13 1 (some ⟨g, 0, none⟩) q (q + 1) (strV ([] : List ByteArray)) := by
            have hin := hwv.toIn (Nat.le_refl _) (by have := HAB.out.lg.log.len.1; unfold maxLen; omega)
            rw [HQ5.out.1] at hin
            exact ⟨by omega, hin.mx, fun _ => hin.sm (by omega), fun b off e j hj => by rw [← HQ5.out.2.2.1 j (by omega)]; exact hin.cell b off e j (by omega)⟩
          have HIN5 := hid hin5
          have hwq : IntKind.i64.wrap ((q : Int) + 1) = (q : Int) + 1 := IntWalk.i64_in _ (by have := HQ5.out.1; have := HAB.out.lg.log.len.1; omega)
          have H : St (.of w) w13 [DkT D d5, WlT B D x2, BlkT ob (.cells #[.slice (some ⟨bt, ot, none⟩) nt y.tc, .slice y.ma y.marks.length y.mc, .int .i64 y.n, .int .i64 y.bytes] 42), WvT 9 1 p1 l3.length (strV l3), WlT B1 D x5, WvT 9 1 (some ⟨g, 0, none⟩) L5.length (strV L5), WlT B2 D ⟨x5.h, L5.length, false⟩] := by simpa using H
          have HH5 := hid H
          clear H hwv hin5 HO
          rw [HQ5.out.1]
          have hq0 : q = 0 := HQ5.out.2.2.2.symm
          subst hq0
          have H := HH5.out
          have HEND := hid (show St (.of w) w13 [DkT D d5, WlT B1 D x5] from H.sub (B := [WlT B D x2, BlkT ob (.cells #[.slice (some ⟨bt, ot, none⟩) nt y.tc, .slice y.ma y.marks.length y.mc, .int .i64 y.n, .int .i64 y.bytes] 42), WvT 9 1 p1 l3.length (strV l3), WvT 9 1 (some ⟨g, 0, none⟩) L5.length (strV L5), WlT B2 D ⟨x5.h, L5.length, false⟩]) (List.Perm.cons _ (List.perm_middle (l₁ := [_, _, _]) (l₂ := [_, _]))))
          have hwk := HK.out
          clear H
          go_wp2_with fail
          go_roundw
          case rel => exact ⟨k + 1, B1, x5, d5, _, L5, HLT.out.1, by go_num, rfl, HAB, HEND.out⟩
          case measure => have := HLT.out.1; simp [intOf]; omega
        · have hmi : decide ((m : Int) < 2) = false := decide_eq_false (by omega)
          have hmj : decide (m < 2) = false := decide_eq_false (by omega)
          have HT := hid (show Lg9 x3 d3 s3 l3 ∧ d3.armed = 0 ∧ d3.raw.length ≤ d.raw.length + 1200 ∧ x3.h.number ≤ 3 * k + 1 + 2 ∧ x3.h.snap + x3.h.log + 3 ≤ roomN d3.sec.length from ⟨HL3.out.1, HL3.out.2.1, by have := HL3.out.2.2.1; omega, by have := HL3.out.2.2.2.1; have := hM.out.num; omega, by have h1 := HRF.out.2.1; have h2 := nf_pos m; omega⟩)
          clear hm2
          have HRC := hid (st_wrecords H 4 (B := B1) (D := D) (x := x3) rfl)
          rw [HT.out.1.log.n] at HRC
          have hab := ab_done HT.out.1 HT.out.2.1 (by have := HT.out.2.2.2.1; have := HLT.out.1; have := HMX.out.2; omega) HT.out.2.2.2.2
          obtain ⟨x5, hx5⟩ : ∃ q, ((x3).append (d3) abS).2.1 = q := ⟨_, rfl⟩
          obtain ⟨d5, hd5⟩ : ∃ q, ((x3).append (d3) abS).2.2 = q := ⟨_, rfl⟩
          obtain ⟨L5, hL5⟩ : ∃ q, (l3 ++ [abS]) = q := ⟨_, rfl⟩
          obtain ⟨q, hq⟩ : ∃ q, (l3).length = q := ⟨_, rfl⟩
          have hq5 : L5.length = q + 1 := by rw [← hL5, List.length_append, hq]; rfl
          have hcell5 : strV L5 q = .string abS := by rw [← hL5, ← hq]; unfold strV sAt; simp [List.getD]
          have hpre5 : ∀ j, j < q → strV L5 j = strV l3 j := fun j hj => by rw [← hL5]; exact strV_pre _ _ _ (by omega)
          have hap5 := fun (w' : World) (T : List Thing) (h : St (.of w) w' ([DkT D d3, WlT B D x2, BlkT ob (.cells #[.slice (some ⟨bt, ot, none⟩) nt y.tc, .slice y.ma y.marks.length y.mc, .int .i64 y.n, .int .i64 y.bytes] 42), WvT 9 1 p1 l3.length (strV l3), WlT B1 D x3] ++ T)) => st_wappend h 4 0 (B := B1) (D := D) (x := x3) (d := d3) rfl rfl (by decide) HT.out.1.log.i abS (by decide) (by have := HT.out.2.2.1; have := HRW.out; omega)
          rw [hab.1, hx5, hd5] at hap5
          rw [hx5, hd5, hL5] at hab
          have HAB := hid (show Me (k + 1) x5 d5 s3 L5 from ⟨hab.2.1, hab.2.2.1, by have := hab.2.2.2.1; have := HT.out.2.2.1; have := hM.out.raw; omega, by have := hab.2.2.2.2; have := HT.out.2.2.2.1; have := hM.out.num; omega⟩)
          have HQ5 := hid (And.intro hq5 (And.intro hcell5 (And.intro hpre5 hq)))
          have HAP5 := hid hap5
          have habs : abS = ⟨#[97, 98]⟩ := rfl
          clear hx5 hd5 hL5 hq hq5 hcell5 hpre5 hap5 hab H
          go_wp2_with fail
          refine HRC.out.mono ?_
          rintro e w11 ⟨rfl, H⟩
          have HAP6 := hid (HAP5.out w11 [] H)
          clear H HRC HAP5
          go_wp2_with fail
          refine HAP6.out.mono ?_
          rintro e w12 ⟨rfl, H⟩
          try simp only [List.nil_append, List.cons_append, List.set_cons_zero, List.set_cons_succ] at H
          have HO := hid (st_lopen (x := x5) H 0 rfl HAB.out.lg.log.wf HAB.out.lg.log.on HAB.out.lg.log.fit HAB.out.lg.log.cnt)
          clear H HAP6
          go_wp2_with fail
          refine HO.out.mono ?_
          rintro e w13 ⟨B2, p2, rfl, H⟩
          have hwv := H.wv 5 (e := 9) (sz := 1) (n := L5.length) (a := p2) (V := strV L5) rfl
          obtain ⟨g, rfl⟩ := hwv.sm (by have := HQ5.out.1; omega)
          have hc5 := hwv.cell q (by have := HQ5.out.1; omega)
          rw [HQ5.out.2.1, Nat.zero_add] at hc5
          have hin5 : In w13 1 (some ⟨g, 0, none⟩) q (q + 1) (strV l3) := by
            have hin := hwv.toIn (Nat.le_refl _) (by have := HAB.out.lg.log.len.1; unfold maxLen; omega)
            rw [HQ5.out.1] at hin
            exact ⟨by omega, hin.mx, fun _ => hin.sm (by omega), fun b off e j hj => by rw [← HQ5.out.2.2.1 j (by omega)]; exact hin.cell b off e j (by omega)⟩
          have HIN5 := hid hin5
          have hwq : IntKind.i64.wrap ((q : Int) + 1) = (q : Int) + 1 := IntWalk.i64_in _ (by have := HQ5.out.1; have := HAB.out.lg.log.len.1; omega)
          have H : St (.of w) w13 [DkT D d5, WlT B D x2, BlkT ob (.cells #[.slice (some ⟨bt, ot, none⟩) nt y.tc, .slice y.ma y.marks.length y.mc, .int .i64 y.n, .int .i64 y.bytes] 42), WvT 9 1 p1 l3.length (strV l3), WlT B1 D x5, WvT 9 1 (some ⟨g, 0, none⟩) L5.length (strV L5), WlT B2 D ⟨x5.h, L5.length, false⟩] := by simpa using H
          have HH5 := hid H
          clear H hwv hin5 HO
          rw [HQ5.out.1]
          have hq := HQ5.out.2.2.2
          subst hq
          by_cases hl0 : l3.length = 0
          · have hb0 : decide (0 < l3.length) = false := decide_eq_false (by omega)
            clear hl0
            have H := HH5.out
            have HEND := hid (show St (.of w) w13 [DkT D d5, WlT B1 D x5] from H.sub (B := [WlT B D x2, BlkT ob (.cells #[.slice (some ⟨bt, ot, none⟩) nt y.tc, .slice y.ma y.marks.length y.mc, .int .i64 y.n, .int .i64 y.bytes] 42), WvT 9 1 p1 l3.length (strV l3), WvT 9 1 (some ⟨g, 0, none⟩) L5.length (strV L5), WlT B2 D ⟨x5.h, L5.length, false⟩]) (List.Perm.cons _ (List.perm_middle (l₁ := [_, _, _]) (l₂ := [_, _]))))
            have hwk := HK.out
            clear H
            go_wp2_with fail
            go_roundw
            case rel => exact ⟨k + 1, B1, x5, d5, _, L5, HLT.out.1, by go_num, rfl, HAB, HEND.out⟩
            case measure => have := HLT.out.1; simp [intOf]; omega
          · have hb0 : decide (0 < l3.length) = true := decide_eq_true (by omega)
            have HSM := hid (st_same HH5.out HIN5.out (HH5.out.wvIn 3 HL3.out.1.log.len.1 rfl))
            clear hl0
            go_wp2_with fail
            refine HSM.out.mono ?_
            rintro e w14 ⟨rfl, H⟩
            clear HSM
            have HEND := hid (show St (.of w) w14 [DkT D d5, WlT B1 D x5] from H.sub (B := [WlT B D x2, BlkT ob (.cells #[.slice (some ⟨bt, ot, none⟩) nt y.tc, .slice y.ma y.marks.length y.mc, .int .i64 y.n, .int .i64 y.bytes] 42), WvT 9 1 p1 l3.length (strV l3), WvT 9 1 (some ⟨g, 0, none⟩) L5.length (strV L5), WlT B2 D ⟨x5.h, L5.length, false⟩]) (List.Perm.cons _ (List.perm_middle (l₁ := [_, _, _]) (l₂ := [_, _]))))
            have hwk := HK.out
            clear H
            go_wp2_with fail
            go_roundw
            case rel => exact ⟨k + 1, B1, x5, d5, _, L5, HLT.out.1, by go_num, rfl, HAB, HEND.out⟩
            case measure => have := HLT.out.1; simp [intOf]; omega
    · obtain rfl : k = n := by omega
      have HF := hid (st_fixed09 H)
      clear H HS0
      go_wp2_with fail
      refine HF.out.mono ?_
      rintro e w2 ⟨rfl, H⟩
      have hfr := hid H.fr
      clear H
      go_wp2_with fail
      go_ret
      exact ⟨rfl, hfr.out⟩
end Go.Proofs.Ythghnlgojmedgaa
