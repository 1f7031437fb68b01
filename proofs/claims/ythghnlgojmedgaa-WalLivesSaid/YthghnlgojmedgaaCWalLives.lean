/-
  The walk of WalLives.
-/
import Derived.Test.YthghnlgojmedgaaCWT
namespace Go.Proofs.Ythghnlgojmedgaa
open Go.RowKit
set_option linter.unusedVariables false
set_option linter.unusedSimpArgs false

set_option maxHeartbeats 1600000 in
set_option maxRecDepth 100000 in
theorem wallives_walk (w : World) (half : Int) (hl1 : -9223372036854775808 ≤ half) (hl2 : half ≤ 9223372036854775807) (a : Option Addr) (n cap : Nat) (ls : List Lf) (hI : LfArg w a n cap ls) :
    Calls Try.prog 8 #[.int .i64 half, .slice a n cap] w fun e w' => e = .returned (.bool true) ∧ Fr [] w w' := by
  have H := St.refl w
  have HI := hid hI
  have hm := hI.row.max
  clear hI
  by_cases hbad : half < 1 ∨ 512 < half
  · have HF := hid (st_fixed09 H)
    clear H
    by_cases h1 : half < 1
    · clear hbad
      go_enter Try.func8, Try.ntmps8
      go_wp2_with fail
      refine HF.out.mono ?_
      rintro e w1 ⟨rfl, H⟩
      go_wp2_with fail
      go_ret
      exact ⟨rfl, H.fr⟩
    · have h2 : 512 < half := by omega
      clear hbad
      go_enter Try.func8, Try.ntmps8
      go_wp2_with fail
      refine HF.out.mono ?_
      rintro e w1 ⟨rfl, H⟩
      go_wp2_with fail
      go_ret
      exact ⟨rfl, H.fr⟩
  obtain ⟨hf, rfl⟩ : ∃ hf : Nat, half = hf := ⟨half.toNat, by omega⟩
  have h1 : 1 ≤ hf := by omega
  have h2 : hf ≤ 512 := by omega
  have hnl := new_log (n := 2 + 2 * hf) (by omega) (by omega) (by omega)
  have HN := hid (st_dnew H (2 + 2 * hf) (by omega) (by omega))
  obtain ⟨z, hz⟩ : ∃ z : Int, 2 + 2 * (hf : Int) = z := ⟨_, rfl⟩
  rw [show ((2 + 2 * hf : Nat) : Int) = z by omega] at HN
  have hf0 : roomN (DS.new (2 + 2 * hf)).sec.length ≠ 0 := by
    rw [show (DS.new (2 + 2 * hf)).sec.length = 2 + 2 * hf by simp [DS.new]]; unfold roomN; rw [if_neg (by omega)]; omega
  have hw0 := new_wf (n := 2 + 2 * hf) (by omega) (by omega)
  have hno := new_none (n := 2 + 2 * hf) (by omega)
  have HFM := hid (fun (w' : World) (D : Nat) (h : St (.of w) w' [DkT D (DS.new (2 + 2 * hf))]) => st_wformat h 0 rfl hw0 rfl hf0 (by show (0 + 1) * 24 ≤ _; decide))
  have HNO := hid hno
  obtain ⟨ze, hze⟩ : ∃ z, ((DS.new (2 + 2 * hf)).write 1 (secB fmtH)).1 = z := ⟨_, rfl⟩
  obtain ⟨d1, hd1⟩ : ∃ z, ((DS.new (2 + 2 * hf)).write 1 (secB fmtH)).2 = z := ⟨_, rfl⟩
  rw [hze, hd1] at hnl HFM
  obtain ⟨rfl, hL, ha, hr, hs, hz0⟩ := hnl
  have HLV := hid (show Lv d1 fmtH ⟨#[]⟩ [] from ⟨⟨hL.wf, hL.fit, hL.cnt, by show Stale (sAt d1.sec 0) 2; rw [hz0]; exact zero_stale⟩, hL.on, ha, by rw [hr]; decide⟩)
  have b1 : ¬ (hf : Int) < 1 := by omega
  have b2 : ¬ (512 : Int) < hf := by omega
  have e1 : IntKind.i64.wrap (2 * (hf : Int)) = 2 * (hf : Int) := IntWalk.i64_in _ (by omega)
  have e2 : IntKind.i64.wrap (2 + 2 * (hf : Int)) = z := by rw [hz]; exact IntWalk.i64_in _ (by omega)
  have HMX := hid hm
  clear H hbad hl1 hl2 h1 h2 hm hze hd1 hL ha hr hs hz0 hf0 hw0 hno hz
  go_enter Try.func8, Try.ntmps8
  go_wp2_with fail
  refine HN.out.mono ?_
  rintro e w1 ⟨D, rfl, hS1⟩
  have hS1 : St (.of w) w1 [DkT D (DS.new (2 + 2 * hf))] := by simpa using hS1
  have HF1 := hid (HFM.out w1 D hS1)
  clear hS1 b1 b2 e1 e2
  go_wp2_with fail
  refine HF1.out.mono ?_
  rintro e w2 (⟨⟨h, s, l, hc⟩, _⟩ | ⟨_, rfl, hS2⟩)
  · exact absurd hc.fd (HNO.out _ (by omega) _ _ _)
  have hS2 : St (.of w) w2 [DkT D d1] := by simpa using hS2
  have HS2 := hid hS2
  clear HF1 hS2 HNO
  go_wp2_with fail
  go_loopw [7] (fun iv wr => ∃ (k : Nat) (d : DS) (h : WH) (s : ByteArray) (l : List ByteArray), k ≤ n ∧ iv = .int .i64 k ∧ Hid (Lv d h s l) ∧ St (.of w) wr [DkT D d]) (fun iv _ => n - (intOf iv).toNat)
  case atStart => exact ⟨0, d1, _, _, _, Nat.zero_le _, rfl, HLV, HS2.out⟩
  case round =>
    obtain ⟨k, d, h, s, l, hk, rfl, hP, H⟩ := hrel
    by_cases hlt : k < n
    · obtain ⟨b, off, rfl⟩ := HI.out.row.sm (by omega)
      obtain ⟨y, hy⟩ : ∃ y, lfL.nth ls k = y := ⟨_, rfl⟩
      have hone := HI.out.nth k hlt
      rw [hy] at hone
      obtain ⟨c0, c1, c2, c3⟩ := lf_cells (HI.out.row.fr0 H.fr) k hlt y hy
      have HLT := hid (And.intro hlt hk)
      have hltI : (k : Int) < n := by omega
      have HK := hid (show IntKind.i64.wrap ((k : Int) + 1) = (k : Int) + 1 from IntWalk.i64_in _ (by have := HMX.out; omega))
      have HLD := hid (st_lived H hP.out y hone)
      clear hone hlt hk H HS2 HLV hy
      go_wp2_with fail
      refine HLD.out.mono ?_
      rintro e w3 ⟨rfl, d', h', s', l', hP', H⟩
      obtain ⟨F0, hdk⟩ := H.dk 0 rfl
      have hdd := disk_dead w3 F0 D d' hdk
      rw [hP'.on] at hdd
      have HDD := hid hdd
      have HP' := hid hP'
      have HH := hid H
      clear HLD hdk hdd hP' H c0 c1 c2 c3 hltI
      go_wp2_with fail
      refine HDD.out.mono ?_
      rintro e w4 ⟨rfl, rfl⟩
      have hwk := HK.out
      go_wp2_with fail
      go_roundw
      case rel => exact ⟨k + 1, d', h', s', l', HLT.out.1, by go_num, HP', HH.out⟩
      case measure => have := HLT.out.1; simp [intOf]; omega
    · obtain rfl : k = n := by omega
      have HF := hid (st_fixed09 H)
      clear H HS2
      go_wp2_with fail
      refine HF.out.mono ?_
      rintro e w2 ⟨rfl, H⟩
      have hfr := hid H.fr
      clear H
      go_wp2_with fail
      go_ret
      exact ⟨rfl, hfr.out⟩
end Go.Proofs.Ythghnlgojmedgaa
