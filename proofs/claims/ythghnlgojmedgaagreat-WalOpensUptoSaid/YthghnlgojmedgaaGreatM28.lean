/-
  Merged, in build order: WM WN WO Tmod Place09 Room App RefS RefS2.
-/
import Derived.Test.YthghnlgojmedgaaGreatM27
import Derived.Test.YthghnlgojmedgaaGreatM5
import Derived.Test.YthghnlgojmedgaaGreatM21
import Derived.Deep.AppendSrc
import Derived.RegionTactic
import Derived.Deep.RegionLaw
import Derived.Test.YthghnlgojmedgaaGreatM8
/-
  wal: Room.
-/
namespace Go.Proofs.YthghnlgojmedgaaGreat
open Go.RowKit
set_option linter.unusedVariables false
set_option linter.unusedSimpArgs false

/-- The longest record that there is room for, from n down. -/
def rmL (left : Nat) : Nat → Nat
  | 0 => 0
  | n + 1 => if left < (nf (n + 1)).size + (n + 1) then rmL left n else n + 1
theorem rmL_spec (left : Nat) : ∀ n, rmL left n ≤ n ∧ (rmL left n = 0 ∨ (nf (rmL left n)).size + rmL left n ≤ left) ∧ ∀ k, rmL left n < k → k ≤ n → left < (nf k).size + k
  | 0 => ⟨Nat.le_refl _, .inl rfl, fun k h1 h2 => by have : rmL left 0 = 0 := rfl; omega⟩
  | n + 1 => by
    obtain ⟨h1, h2, h3⟩ := rmL_spec left n
    rw [rmL]
    split
    · rename_i h
      refine ⟨by omega, h2, fun k a b => ?_⟩
      by_cases hk : k = n + 1
      · subst hk; exact h
      · exact h3 k a (by omega)
    · exact ⟨Nat.le_refl _, .inr (by omega), fun k a b => by omega⟩
def WS.left (x : WS) (d : DS) : Nat := roomN d.sec.length - x.h.snap - x.h.log
def WS.room (x : WS) (d : DS) : Nat := rmL (x.left d) (min 2048 (x.left d))

section
variable {W : Base} {w : World} {R : List Thing}
set_option maxHeartbeats 800000 in
set_option maxRecDepth 100000 in
theorem st_wroom (H : St W w R) (i j : Nat) {B D : Nat} {x : WS} {d : DS} (hi : R[i]? = some (WlT B D x)) (hj : R[j]? = some (DkT D d)) (L : LgI x d) :
    Calls Tryz.prog 20 #[.pointer (some ⟨B, 0, none⟩)] w fun e w' => e = .returned (.int .i64 (x.room d : Nat)) ∧ St W w' R := by
  have hb := H.blk i hi
  have c0 := cell_blk (i := 0) hb rfl
  have c3 := cell_blk (i := 3) hb rfl
  have c4 := cell_blk (i := 4) hb rfl
  have hrm : ∀ w', St W w' R → Calls Tryz.prog 23 #[.pointer (some ⟨D, 0, none⟩)] w' fun e w'' => e = .returned (.int .i64 (roomN d.sec.length : Nat)) ∧ w' = w'' := fun w' h => by
    obtain ⟨F, hF⟩ := h.dk j hj
    exact wal_room w' F D d hF L.wf
  have HRM := hid hrm
  have h1 := roomN_le d.sec.length
  have h2 := L.room
  obtain ⟨lf, hlf⟩ : ∃ lf, x.left d = lf := ⟨_, rfl⟩
  have hle : lf ≤ 65536 := by rw [← hlf]; unfold WS.left; omega
  have e1 : IntKind.i64.wrap ((roomN d.sec.length : Int) - x.h.snap) = (roomN d.sec.length : Int) - x.h.snap := IntWalk.i64_in _ (by omega)
  have e2 : IntKind.i64.wrap ((roomN d.sec.length : Int) - x.h.snap - x.h.log) = (roomN d.sec.length : Int) - x.h.snap - x.h.log := IntWalk.i64_in _ (by omega)
  have e3 : (roomN d.sec.length : Int) - x.h.snap - x.h.log = (lf : Int) := by rw [← hlf]; unfold WS.left; omega
  obtain ⟨m0, hm0⟩ : ∃ m0, min 2048 lf = m0 := ⟨_, rfl⟩
  have e4 : min (2048 : Int) (lf : Int) = (m0 : Int) := by rw [← hm0]; omega
  have HRES := hid (show x.room d = rmL lf m0 by unfold WS.room; rw [hlf, hm0])
  rw [HRES.out]
  have HH := hid H
  have HE := hid (And.intro e1 (And.intro e2 (And.intro e3 (And.intro e4 (And.intro hle (show m0 ≤ 2048 by omega))))))
  clear H hb hi hj L hrm h1 h2 hlf hle e1 e2 e3 e4 hm0
  go_enter Tryz.func20, Tryz.ntmps20
  go_wp2_with fail
  go_upto_region 1 with (fail)
  go_cut [3] from 5 (fun s3 wx => s3 = .int .i64 lf ∧ ∃ nq, wx = w.drewN nq)
  case first =>
    have e1 := HE.out.1
    have e2 := HE.out.2.1
    go_quiet ((go_at_call 23; exact quiet_mine (HRM.out _ (HH.out.drewN _))))
    go_wp2_with fail
    go_meet
    exact ⟨congrArg (Value.int .i64) HE.out.2.2.1, _, rfl⟩
  obtain ⟨rfl, nq, rfl⟩ := hcut
  have HS := hid (HH.out.drewN nq)
  generalize w.drewN nq = w1 at HS ⊢
  clear c0 c3 c4
  have e4 := HE.out.2.2.2.1
  have HNUM := hid (fun (w : World) (n : Nat) (h : n ≤ 2048) => pack_num w n (by omega))
  go_wp2_with fail
  clear e4
  go_loopw [4] (fun nv wr => ∃ n : Nat, n ≤ 2048 ∧ nv = .int .i64 n ∧ Hid (rmL lf n = rmL lf m0) ∧ St W wr R) (fun nv _ => (intOf nv).toNat)
  case atStart => exact ⟨m0, HE.out.2.2.2.2.2, rfl, hid rfl, HS.out⟩
  case round =>
    obtain ⟨n, hn, rfl, hI, hS⟩ := hrel
    have HSS := hid hS
    have hmx : max (0 : Int) (n : Int) = (n : Int) := by omega
    have HMX := hid hmx
    clear hS hmx
    cases n with
    | zero =>
      have hI0 : rmL lf m0 = 0 := hI.out.symm
      have HI0 := hid hI0
      clear hI0 hI
      have b1 : decide ((0 : Int) < ((0 : Nat) : Int)) = false := by decide
      go_wp2_with fail
      go_ret
      rw [HI0.out]
      exact ⟨rfl, HSS.out⟩
    | succ q =>
      have hpos : (0 : Int) < ((q + 1 : Nat) : Int) := by omega
      have hcv : IntKind.u64.wrap ((q + 1 : Nat) : Int) = ((q + 1 : Nat) : Int) := u64_nat _ (by omega)
      have HP := hid (HNUM.out wr (q + 1) hn)
      have hsz := nf_two (n := q + 1) hn
      obtain ⟨nb, hnb⟩ : ∃ nb, nf (q + 1) = nb := ⟨_, rfl⟩
      rw [hnb] at HP hsz
      obtain ⟨m, hm⟩ : ∃ m, q + 1 = m := ⟨_, rfl⟩
      rw [hm] at HP hpos hcv HMX ⊢
      have hwn : IntKind.i64.wrap ((nb.size : Int) + m) = (nb.size : Int) + m := IntWalk.i64_in _ (by omega)
      have hwm : IntKind.i64.wrap ((m : Int) - 1) = (m : Int) - 1 := IntWalk.i64_in _ (by omega)
      have hstep : rmL lf m0 = if lf < nb.size + m then rmL lf q else m := by rw [← hI.out, ← hm, rmL, hnb]
      have HST := hid (And.intro hstep hm)
      have hn2 := hid hn
      have HNB := hid hnb
      clear hnb hstep hm hI hn hsz
      go_wp2_with fail
      refine HP.out.mono ?_
      rintro e w3 ⟨rfl, hF3⟩
      have HS3 := hid (HSS.out.same hF3)
      clear hF3
      by_cases hlt : lf < nb.size + m
      · have b1 : decide (lf < nb.size + m) = true := decide_eq_true hlt
        have b2 : decide ((lf : Int) < (nb.size : Int) + m) = true := decide_eq_true (by omega)
        have HR := hid (show rmL lf q = rmL lf m0 by rw [HST.out.1, if_pos hlt])
        clear hlt
        go_wp2_with fail
        go_roundw
        case rel => exact ⟨q, by have := hn2.out; omega, by have := HST.out.2; exact congrArg (Value.int .i64) (by omega), HR, HS3.out⟩
        case measure => have := HST.out.2; simp [intOf]; omega
      · have b1 : decide (lf < nb.size + m) = false := decide_eq_false hlt
        have b2 : decide ((lf : Int) < (nb.size : Int) + m) = false := decide_eq_false (by omega)
        have HR := hid (show rmL lf m0 = m by rw [HST.out.1, if_neg hlt])
        have hmx := HMX.out
        clear hlt
        go_wp2_with fail
        go_ret
        rw [HR.out]
        exact ⟨by first | rfl | exact congrArg (fun z => Ending.returned (.int .i64 z)) hmx, HS3.out⟩
end
end Go.Proofs.YthghnlgojmedgaaGreat

/-
  The laws' helpers of layer 9: fixed, laid.
-/
namespace Go.Proofs.YthghnlgojmedgaaGreat
open Go.RowKit
set_option linter.unusedVariables false
set_option linter.unusedSimpArgs false

theorem nf_big {k : Nat} (h : 128 ≤ k) (h2 : k ≤ 2048) : (nf k).size = 2 := by
  rw [← bl_len, show bl (nf k) = Lib.uvarint k from bl_mk _, Lib.uvarint_big h, Lib.uvarint_small (by omega)]; rfl
theorem rm_256 : rmL 256 256 = 254 := by
  obtain ⟨h1, h2, h3⟩ := rmL_spec 256 256
  generalize rmL 256 256 = m at h1 h2 h3 ⊢
  by_cases ha : m < 254
  · have := h3 254 ha (by decide)
    rw [nf_big (by decide) (by decide)] at this
    omega
  · rcases h2 with h2 | h2
    · omega
    · rw [nf_big (by omega) (by omega)] at h2; omega
theorem log_append_ok {x : WS} {d : DS} {s : ByteArray} {l : List ByteArray} (L : Log x d s l) (r : ByteArray) (ha : d.armed = 0) (hr : okRec r) (hroom : x.h.snap + x.h.log + (tf r).size ≤ roomN d.sec.length) (hn : x.h.number < 1099511627776) : (x.append d r).1 = 0 := by
  rcases log_append L r ha with ⟨h1, h2, h3⟩ | ⟨h1, _⟩
  · exfalso
    revert h1
    have hdead : ¬ (x.dead = true ∨ d.dead = true) := by rw [L.alive, L.on]; simp
    have hP : Pl d.sec (x.nxt (tf r).size).half (x.h.snap + x.h.log) (bl (tf r)) := log_pl L (by omega)
    have hok := L.cnt.fd
    obtain ⟨c1, _⟩ := call_done (s' := s) (l' := l ++ [r]) (h' := x.nxt (tf r).size) (n' := x.n + 1) L hP (.inl ha) (by omega) rfl hok.ok.snap1 (by show x.h.snap + (x.h.log + (tf r).size) = _; omega)
      (by show hTake d.sec x.h.half _ ++ _ = _; rw [hok.all, frs_snoc, List.append_assoc]) hok.size.1 (okRecs_snoc hok.recs hr) (by rw [L.n, List.length_append]; rfl)
    unfold WS.append
    rw [if_neg hdead, if_neg (by have := hr.1; have := hr.2; omega), if_neg (by omega), if_neg (by omega), if_pos c1]
    simp
  · exact h1

section
variable {W : Base} {w : World} {R : List Thing}

theorem st_dnew (H : St W w R) (n : Nat) (h1 : 1 ≤ n) (h2 : n ≤ 1026) :
    Calls Tryz.prog 5 #[.int .i64 n] w fun e w' => ∃ D, e = .returned (.tuple #[.pointer (some ⟨D, 0, none⟩), .int .i64 0]) ∧ St W w' (R ++ [DkT D (DS.new n)]) := by
  refine (disk_new_ok w n h1 h2).mono ?_
  rintro e w' ⟨D, F, rfl, hF, hD, hb⟩
  exact ⟨D, rfl, H.new hF inferInstance hD hb⟩
theorem Log.eq {x : WS} {d : DS} {s : ByteArray} {l : List ByteArray} (L : Log x d s l) : (⟨x.h, l.length, false⟩ : WS) = x := by
  have h1 := L.n
  have h2 := L.alive
  cases x
  simp_all
/-- Open of a log's disk. -/
theorem st_lopen (H : St W w R) (i : Nat) {D : Nat} {x : WS} {d : DS} {s : ByteArray} {l : List ByteArray} (hi : R[i]? = some (DkT D d)) (hw : d.wf) (hd : d.dead = false) (hf : roomN d.sec.length ≠ 0) {h : WH} (C : Cnt d.sec h s l) :
    Calls Tryz.prog 19 #[.pointer (some ⟨D, 0, none⟩)] w fun e w' => ∃ B p, e = .returned (.tuple #[.pointer (some ⟨B, 0, none⟩), .string s, .slice p l.length l.length, .int .i64 0]) ∧
      St W w' (R ++ [WvT 9 1 p l.length (strV l), WlT B D ⟨h, l.length, false⟩]) := by
  refine (st_wopen H i hi hw).mono ?_
  rintro e w' (⟨c, hc, rfl, hS⟩ | ⟨h1, h2, g, s', l', hg, B, p, rfl, hS⟩)
  · exfalso
    rcases hc with ⟨hc, _⟩ | ⟨_, hc, _⟩ | ⟨_, _, hc, _⟩
    · rw [hd] at hc; cases hc
    · exact hf hc
    · exact hc _ (by omega) _ _ _ C.fd
  · obtain ⟨rfl, rfl, rfl⟩ := hg.uniq C
    exact ⟨B, p, rfl, hS⟩

end
end Go.Proofs.YthghnlgojmedgaaGreat

/-
  The law's helper of layer 9: fixed.
-/
namespace Go.Proofs.YthghnlgojmedgaaGreat
open Go.RowKit
set_option linter.unusedVariables false
set_option linter.unusedSimpArgs false

section
variable {W : Base} {w : World} {R : List Thing}
def abS : ByteArray := ⟨#[97, 98]⟩
theorem tf_ab : (tf abS).size = 3 := by
  rw [tf_size, show abS.size = 2 from rfl]
  rw [← bl_len, show bl (nf 2) = Lib.uvarint 2 from bl_mk _, Lib.uvarint_small (by decide)]; rfl

set_option maxHeartbeats 1600000 in
set_option maxRecDepth 100000 in
theorem st_fixed09 (H : St W w R) :
    Calls Tryz.prog 7 #[] w fun e w' => e = .returned (.bool true) ∧ St W w' R := by
  have hnl := new_log (n := 6) (by decide) (by decide) (by decide)
  have HN := hid (st_dnew H 6 (by decide) (by decide))
  have hf0 : roomN (DS.new 6).sec.length ≠ 0 := by
    rw [show (DS.new 6).sec.length = 6 by simp [DS.new]]; decide
  have hw0 := new_wf (n := 6) (by decide) (by decide)
  have hno := new_none (n := 6) (by decide)
  have HFM := hid (fun (w' : World) (D : Nat) (h : St W w' (R ++ [DkT D (DS.new 6)])) => st_wformat h (R.length + 0) (by rw [get_behind]; rfl) hw0 rfl hf0 (by show (0 + 1) * 24 ≤ _; decide))
  have HNO := hid hno
  obtain ⟨z, hz⟩ : ∃ z, ((DS.new 6).write 1 (secB fmtH)).1 = z := ⟨_, rfl⟩
  obtain ⟨d1, hd1⟩ : ∃ z, ((DS.new 6).write 1 (secB fmtH)).2 = z := ⟨_, rfl⟩
  rw [hz, hd1] at hnl HFM
  obtain ⟨rfl, hL, ha, hr, hs, hz0⟩ := hnl
  have HL := hid (And.intro hL (And.intro ha (And.intro hr (And.intro hs hz0))))
  clear H hz hd1 hL ha hr hs hz0 hf0 hw0 hno
  go_enter Tryz.func7, Tryz.ntmps7
  go_wp2_with fail
  refine HN.out.mono ?_
  rintro e w1 ⟨D, rfl, hS1⟩
  have HF1 := hid (HFM.out w1 D hS1)
  clear hS1
  go_wp2_with fail
  refine HF1.out.mono ?_
  rintro e w2 (⟨⟨h, s, l, hc⟩, _⟩ | ⟨_, rfl, hS2⟩)
  · exact absurd hc.fd (HNO.out _ (by omega) _ _ _)
  have hS2 : St W w2 (R ++ [DkT D d1]) := by
    rw [List.set_append_right _ _ (by omega), Nat.add_sub_cancel_left] at hS2; exact hS2
  have HF2 := hid (st_wformat hS2 (R.length + 0) (by rw [get_behind]; rfl) HL.out.1.wf HL.out.1.on HL.out.1.fit (by rw [HL.out.2.2.1]; decide))
  clear HF1 hS2
  go_wp2_with fail
  refine HF2.out.mono ?_
  rintro e w3 (⟨_, rfl, hS3⟩ | ⟨hno, _⟩)
  rotate_left
  · exact absurd HL.out.1.cnt.fd (hno _ (by omega) _ _ _)
  have HO := hid (st_lopen (x := ⟨fmtH, 0, false⟩) hS3 (R.length + 0) (by rw [get_behind]; rfl) HL.out.1.wf HL.out.1.on HL.out.1.fit HL.out.1.cnt)
  clear HF2 hS3
  go_wp2_with fail
  refine HO.out.mono ?_
  rintro e w4 ⟨B, p, rfl, hS4⟩
  have hS4 : St W w4 (R ++ [DkT D d1, WlT B D ⟨fmtH, 0, false⟩]) := by
    rw [List.append_assoc] at hS4
    refine hS4.sub (B := [WvT 9 1 p ([] : List ByteArray).length (strV [])]) ?_
    rw [List.append_assoc]
    exact List.Perm.append_left _ (List.Perm.cons _ (List.Perm.swap _ _ _))
  have hroom : (⟨fmtH, 0, false⟩ : WS).room d1 = 254 := by
    unfold WS.room WS.left
    rw [HL.out.2.2.2.1]
    exact rm_256
  have hRM := st_wroom hS4 (R.length + 1) (R.length + 0) (B := B) (x := ⟨fmtH, 0, false⟩) (by rw [get_behind]; rfl) (by rw [get_behind]; rfl) HL.out.1.i
  rw [hroom] at hRM
  have HRM := hid hRM
  clear HO hS4 hRM hroom
  go_wp2_with fail
  refine HRM.out.mono ?_
  rintro e w5 ⟨rfl, hS5⟩
  have hap := log_append HL.out.1 abS HL.out.2.1
  have hap1 := log_append_ok HL.out.1 abS HL.out.2.1 ⟨by decide, by decide⟩ (by rw [tf_ab, HL.out.2.2.2.1]; decide) (by decide)
  have hAP := st_wappend hS5 (R.length + 1) (R.length + 0) (B := B) (D := D) (x := ⟨fmtH, 0, false⟩) (by rw [get_behind]; rfl) (by rw [get_behind]; rfl) (by omega) HL.out.1.i abS (by decide) (by rw [HL.out.2.2.1]; decide)
  rw [hap1] at hAP
  rcases hap with ⟨hbad, _⟩ | ⟨_, _, hL2, _⟩
  · exact absurd hap1 hbad
  obtain ⟨x2, hx2⟩ : ∃ x2, ((⟨fmtH, 0, false⟩ : WS).append d1 abS).2.1 = x2 := ⟨_, rfl⟩
  obtain ⟨d2, hd2⟩ : ∃ d2, ((⟨fmtH, 0, false⟩ : WS).append d1 abS).2.2 = d2 := ⟨_, rfl⟩
  rw [hx2, hd2] at hAP hL2
  have HAP := hid hAP
  have HL2 := hid hL2
  clear hAP hL2 hx2 hd2 hap1 hS5 HRM
  have hab : abS = ⟨#[97, 98]⟩ := rfl
  go_wp2_with fail
  refine HAP.out.mono ?_
  rintro e w6 ⟨rfl, hS6⟩
  have hS6 : St W w6 (R ++ [DkT D d2, WlT B D x2]) := by
    rw [List.set_append_right _ _ (by omega), List.set_append_right _ _ (by omega), Nat.add_sub_cancel_left, Nat.add_sub_cancel_left] at hS6; exact hS6
  have HO := hid (st_lopen (x := x2) hS6 (R.length + 0) (by rw [get_behind]; rfl) HL2.out.wf HL2.out.on HL2.out.fit HL2.out.cnt)
  clear hS6 HAP
  go_wp2_with fail
  refine HO.out.mono ?_
  rintro e w7 ⟨B2, p2, rfl, hS7⟩
  have hwv := hS7.wv ((R ++ [DkT D d2, WlT B D x2]).length + 0) (e := 9) (sz := 1) (n := ([] ++ [abS] : List ByteArray).length) (a := p2) (V := strV ([] ++ [abS])) (by rw [get_behind]; rfl)
  obtain ⟨g, rfl⟩ := hwv.sm (show 0 < ([] ++ [abS] : List ByteArray).length by decide)
  have hc := hwv.cell 0 (show 0 < ([] ++ [abS] : List ByteArray).length * 1 by decide)
  have hc2 : w7.cell? ⟨g, 0, none⟩ = some (.string abS) := hc
  have HS7 := hid hS7.drop
  have hlen : ([] ++ [abS] : List ByteArray).length = 1 := rfl
  have hbe : (abS.toList == (⟨#[97, 98]⟩ : ByteArray).toList) = true := by rw [show abS = ⟨#[97, 98]⟩ from rfl]; exact beq_self_eq_true _
  clear hwv hc HO hS7
  rw [hlen]
  go_wp2_with fail
  go_ret
  exact ⟨by simp, HS7.out.drop⟩
end
end Go.Proofs.YthghnlgojmedgaaGreat

/-
  The remainder of a number below nought. Of no program.
-/
namespace Go.Proofs.YthghnlgojmedgaaGreat
open Go.RowKit
set_option linter.unusedVariables false

theorem tmod_of_neg4 (n m : Int) (hn : n < 0) (hm : 1 ≤ m) : n.tmod m = if n % m = 0 then 0 else n % m - m := by
  have key : n.tmod m = - ((-n) % m) := by
    rw [← Int.tmod_eq_emod_of_nonneg (by omega : 0 ≤ -n), Int.neg_tmod]; simp
  rw [key]
  have h1 := Int.mul_ediv_add_emod n m
  have h2 := Int.mul_ediv_add_emod (-n) m
  have e1 : 0 ≤ (-n) % m := Int.emod_nonneg _ (by omega)
  have e2 : (-n) % m < m := Int.emod_lt_of_pos _ (by omega)
  have e3 : 0 ≤ n % m := Int.emod_nonneg _ (by omega)
  have e4 : n % m < m := Int.emod_lt_of_pos _ (by omega)
  have hd : (n % m + (-n) % m) % m = 0 := by
    rw [← Int.add_emod, Int.add_right_neg, Int.zero_emod]
  by_cases hz : n % m = 0
  · rw [if_pos hz]; rw [hz] at hd; simp at hd; omega
  · rw [if_neg hz]
    have : n % m + (-n) % m < 2 * m := by omega
    by_cases hlt : n % m + (-n) % m < m
    · rw [Int.emod_eq_of_lt (by omega) hlt] at hd; omega
    · have : (n % m + (-n) % m - m) % m = 0 := by rw [Int.sub_emod, hd]; simp
      rw [Int.emod_eq_of_lt (by omega) (by omega)] at this; omega

end Go.Proofs.YthghnlgojmedgaaGreat

/-
  The laws' helper 'place' of layer 9.
-/
namespace Go.Proofs.YthghnlgojmedgaaGreat
open Go.RowKit
set_option linter.unusedVariables false

theorem place09 (n m : Int) (w : World) (h1 : -9223372036854775808 ≤ n) (h2 : n ≤ 9223372036854775807) (h3 : 1 ≤ m) (h4 : m ≤ 1000000) :
    Calls Tryz.prog 32 #[.int .i64 n, .int .i64 m] w fun e w' => e = .returned (.int .i64 (n % m)) ∧ w = w' := by
  have hm : (m == 0) = false := by simp; omega
  by_cases hn : 0 ≤ n
  · have e1 : 0 ≤ n % m := Int.emod_nonneg _ (by omega)
    have hp : ¬ n % m < 0 := by omega
    go_enter Tryz.func32, Tryz.ntmps32
    go_wp2
    go_ret
    exact ⟨rfl, rfl⟩
  · have ht := tmod_of_neg4 n m (by omega) h3
    have e3 : 0 ≤ n % m := Int.emod_nonneg _ (by omega)
    have e4 : n % m < m := Int.emod_lt_of_pos _ (by omega)
    by_cases hz : n % m = 0
    · rw [if_pos hz] at ht
      have b1 : 0 ≤ n.tmod m := by omega
      have b2 : n.tmod m ≤ 0 := by omega
      have b3 : ¬ n.tmod m < 0 := by omega
      have H := hid (ht.trans hz.symm)
      clear ht hz
      go_enter Tryz.func32, Tryz.ntmps32
      go_wp2
      go_ret
      exact ⟨by rw [← H.out]; rfl, rfl⟩
    · rw [if_neg hz] at ht
      have b1 : n.tmod m < 0 := by omega
      have b2 : -m < n.tmod m := by omega
      have H := hid (show n.tmod m + m = n % m by omega)
      clear ht hz
      go_enter Tryz.func32, Tryz.ntmps32
      go_wp2
      go_ret
      exact ⟨by rw [← H.out]; rfl, rfl⟩

end Go.Proofs.YthghnlgojmedgaaGreat

/-
  append where there is room: the row stays where it is. Of no program.
-/
namespace Go.Proofs.YthghnlgojmedgaaGreat
open Go.RowKit
set_option linter.unusedVariables false
set_option linter.unusedSimpArgs false

theorem append_in_blk {P : Program} (w : World) (t ty e : TypeId) (i : TypeInfo) (size : Nat) (ht : P.underlying t = some (.slice e)) (hi : P.info? e = some i) (hsize : i.size = size) (hsz : 0 < size)
    (g n cap : Nat) (xs : List Value) (hown : w.ownsRow 0 e size (.slice (some ⟨g, 0, none⟩) n cap) n xs)
    (ao : Option Addr) (m c : Nat) (V : Nat → Value) (hI : In w size ao m c V) (h1 : ∀ j, j < m * size → (V j).oneCell' = true) (hroom : n + m ≤ cap) :
    ∃ w', (Builtin.append_ #[t, t] ty #[.slice (some ⟨g, 0, none⟩) n cap, .slice ao m c]).run P w = .ok (.slice (some ⟨g, 0, none⟩) (n + m) cap) w' ∧
      w'.ownsRow 0 e size (.slice (some ⟨g, 0, none⟩) (n + m) cap) (n + m) (xs ++ (List.range (m * size)).map V) ∧ Fr [g] w w' := by
  have hown2 := hown
  obtain ⟨hxl, hown'⟩ := hown
  rcases hown' with ⟨h, _⟩ | ⟨g', cap', cur, hv, hbg, hg, hnc, hcm, hcs, htake⟩
  · simp at h
  simp only [Value.slice.injEq, Option.some.injEq, Addr.mk.injEq, and_true, true_and] at hv
  obtain ⟨rfl, rfl⟩ := hv
  rcases ao with _ | ad
  · have hm : m = 0 := by
      rcases Nat.eq_zero_or_pos m with h0 | h0
      · exact h0
      · obtain ⟨b, off, hb⟩ := hI.sm h0; simp at hb
    subst hm
    have hr := run_append_nothing (P := P) w t t ty e i ht hi (some ⟨g, 0, none⟩) n cap hnc (.slice none 0 c) (Src.ofNil w ht c)
    exact ⟨w, hr, by simpa using hown2, Fr.refl _ _⟩
  · have hnews : ∀ j u, ((List.range (m * size)).map V)[j]? = some u → w.cell? (ad.add j) = some u := by
      intro j u hu
      have hj : j < m * size := by
        rcases Nat.lt_or_ge j (m * size) with h2 | h2
        · exact h2
        · rw [List.getElem?_eq_none (by simpa using h2)] at hu; simp at hu
      have hm : 0 < m := by
        rcases Nat.eq_zero_or_pos m with h0 | h0
        · subst h0; omega
        · exact h0
      obtain ⟨b, off, hb⟩ := hI.sm hm
      simp only [Option.some.injEq] at hb
      subst hb
      have e1 : (⟨b, off, none⟩ : Addr).add j = ⟨b, off + j, none⟩ := by unfold Addr.add; by_cases hj : j = 0 <;> simp [hj]
      rw [e1, hI.cell b off rfl j hj]
      simpa [hj] using hu
    have hl : ((List.range (m * size)).map V).length = m * size := by simp
    have hone : ∀ u, u ∈ (List.range (m * size)).map V → u.oneCell' = true := by
      intro u hu
      simp only [List.mem_map, List.mem_range] at hu
      obtain ⟨j, hj, rfl⟩ := hu
      exact h1 j hj
    generalize (List.range (m * size)).map V = news at hnews hl hone ⊢
    subst hsize
    have hlen : (xs ++ news).length = (n + m) * i.size := by rw [List.length_append, hxl, hl, Nat.add_mul]
    have hfit : n * i.size + news.length ≤ cur.size := by rw [hl, hcs, ← Nat.add_mul]; exact Nat.mul_le_mul_right _ hroom
    have hr := run_append_room (P := P) w t ty e i ht hi g n cap cur hg ad m c news hl hnews hone hroom hfit
    refine ⟨_, hr, ⟨hlen, .inr ⟨g, cap, _, rfl, hbg, setRow_heap w g cur _ e _ hg, hroom, hcm, ?_, ?_⟩⟩, ⟨rfl, rfl, rfl, by simp, fun k _ hk => setRow_other w g k _ (fun e => hk (by simp [e]))⟩⟩
    · simp only [List.size_toArray, List.length_append, List.length_take, List.length_drop, Array.length_toList]
      omega
    · rw [htake, ← hlen]
      exact List.take_left

/-- The operation, for the walk. -/
theorem wpList_append_in {P : Program} {w : World} {ops : Array Oper} {rest : List Oper} {o : Oper} {a : Act} {Q : Exit → Act → World → Prop} (hgd : o.guard = none) (s x : Operand) (t : TypeId)
    (ho : o.op = .call { callee := .builtin .append, args := #[s, x], argTypes := #[t, t] })
    (e : TypeId) (i : TypeInfo) (size : Nat) (ht : P.underlying t = some (.slice e)) (hi : P.info? e = some i) (hsize : i.size = size) (hsz : 0 < size)
    (g n cap : Nat) (xs : List Value) (hs : a.eval s = .slice (some ⟨g, 0, none⟩) n cap) (hown : w.ownsRow 0 e size (.slice (some ⟨g, 0, none⟩) n cap) n xs)
    (ao : Option Addr) (m c : Nat) (V : Nat → Value) (hx : a.eval x = .slice ao m c) (hI : In w size ao m c V) (h1 : ∀ j, j < m * size → (V j).oneCell' = true) (hroom : n + m ≤ cap)
    (h : ∀ w', w'.ownsRow 0 e size (.slice (some ⟨g, 0, none⟩) (n + m) cap) (n + m) (xs ++ (List.range (m * size)).map V) → Fr [g] w w' → wpList P ops Q rest (a.put o.dst (.slice (some ⟨g, 0, none⟩) (n + m) cap)) w') : wpList P ops Q (o :: rest) a w := by
  refine wpList_plain hgd fun K hK => ?_
  obtain ⟨w', hr, h2, h3⟩ := append_in_blk (P := P) w t o.type e i size ht hi hsize hsz g n cap xs hown ao m c V hI h1 hroom
  unfold Oper.wp execOp
  simp only [ho, resolve, invoke, builtin, Sem.run_bind, Sem.run_pure, Result.andThen_ok, List.map_toArray, List.map_cons, List.map_nil, hs, hx, hr]
  exact hK _ _ (h w' h2 h3)

end Go.Proofs.YthghnlgojmedgaaGreat

/-
  append of any slice to a row of the call's own: it stays, or is a new one. Of no program.
-/
namespace Go.Proofs.YthghnlgojmedgaaGreat
open Go.RowKit
set_option linter.unusedVariables false
set_option linter.unusedSimpArgs false

theorem wpList_append_any {P : Program} {w : World} {ops : Array Oper} {rest : List Oper} {o : Oper} {a : Act} {Q : Exit → Act → World → Prop} (hgd : o.guard = none) (s x : Operand) (t : TypeId)
    (ho : o.op = .call { callee := .builtin .append, args := #[s, x], argTypes := #[t, t] })
    (e : TypeId) (i : TypeInfo) (z : Value) (size bytes : Nat) (ht : P.underlying t = some (.slice e)) (hi : P.info? e = some i) (hz : i.zero = some z)
    (hsize : i.size = size) (hby : i.bytes = bytes) (hzs : z.cells.size = size) (hsz : 0 < size)
    (B n cap : Nat) (xs : List Value) (hs : a.eval s = .slice (some ⟨B, 0, none⟩) n cap) (hown : w.ownsRow 0 e size (.slice (some ⟨B, 0, none⟩) n cap) n xs)
    (ao : Option Addr) (m c : Nat) (V : Nat → Value) (hx : a.eval x = .slice ao m c) (hI : In w size ao m c V) (h1 : ∀ j, j < m * size → (V j).oneCell' = true) (h63 : n + m ≤ maxLen) (hbytes : (n + m) * bytes ≤ 140737488355328)
    (h : ∀ g cap' w', w'.ownsRow 0 e size (.slice (some ⟨g, 0, none⟩) (n + m) cap') (n + m) (xs ++ (List.range (m * size)).map V) → Fr [B] w w' → (g = B ∨ w.heap.size ≤ g) → wpList P ops Q rest (a.put o.dst (.slice (some ⟨g, 0, none⟩) (n + m) cap')) w') : wpList P ops Q (o :: rest) a w := by
  rcases ao with _ | ad
  · have hm : m = 0 := by
      rcases Nat.eq_zero_or_pos m with h0 | h0
      · exact h0
      · obtain ⟨b, off, hb⟩ := hI.sm h0; simp at hb
    subst hm
    rcases ownsRow_one hown with ⟨h0, _⟩ | ⟨g', cap', h0, hle, _⟩
    · simp at h0
    simp only [Value.slice.injEq, Option.some.injEq, Addr.mk.injEq, and_true, true_and] at h0
    obtain ⟨rfl, rfl⟩ := h0
    refine wpList_plain hgd fun K hK => ?_
    unfold Oper.wp execOp
    have hr := run_append_nothing (P := P) w t t o.type e i ht hi (some ⟨B, 0, none⟩) n cap hle (.slice none 0 c) (Src.ofNil w ht c)
    simp only [ho, resolve, invoke, builtin, Sem.run_bind, Sem.run_pure, Result.andThen_ok, List.map_toArray, List.map_cons, List.map_nil, hs, hx, hr]
    exact hK _ _ (h B cap w (by simpa using hown) (Fr.refl _ _) (.inl rfl))
  · have hnews : ∀ j u, ((List.range (m * size)).map V)[j]? = some u → w.cell? (ad.add j) = some u := by
      intro j u hu
      have hj : j < m * size := by
        rcases Nat.lt_or_ge j (m * size) with h2 | h2
        · exact h2
        · rw [List.getElem?_eq_none (by simpa using h2)] at hu; simp at hu
      have hm : 0 < m := by
        rcases Nat.eq_zero_or_pos m with h0 | h0
        · subst h0; omega
        · exact h0
      obtain ⟨b, off, hb⟩ := hI.sm hm
      simp only [Option.some.injEq] at hb
      subst hb
      have e1 : (⟨b, off, none⟩ : Addr).add j = ⟨b, off + j, none⟩ := by unfold Addr.add; by_cases hj : j = 0 <;> simp [hj]
      rw [e1, hI.cell b off rfl j hj]
      simpa [hj] using hu
    refine wpList_append_blk hgd s x t ho e i z size bytes ht hi hz hsize hby hzs hsz _ n xs hs hown ad m c ((List.range (m * size)).map V) hx (by simp) hnews ?_ h63 hbytes ?_
    · intro u hu
      simp only [List.mem_map, List.mem_range] at hu
      obtain ⟨j, hj, rfl⟩ := hu
      exact h1 j hj
    · intro v' w' hown' hF hblk hnil
      rcases ownsRow_one hown' with ⟨rfl, _, _⟩ | ⟨g, cap', rfl, _, _⟩
      · have := hnil.1 rfl; simp at this
      · refine h g cap' w' hown' (by simpa [Value.ownBlock] using hF) ?_
        have := hblk g (by simp [Value.ownBlock])
        simpa [Value.ownBlock] using this
end Go.Proofs.YthghnlgojmedgaaGreat

/-
  The document's disk, over a world that holds things.
-/
namespace Go.Proofs.YthghnlgojmedgaaGreat
open Go.RowKit
set_option linter.unusedVariables false
set_option linter.unusedSimpArgs false

/-- The document's disk: its block; its lists are read alone. -/
def XkT (X : Nat) (d : DS) : Thing := fun w F G => ∃ sv rv : Value, F = [X] ∧ G = sv.ownBlock.toList ++ rv.ownBlock.toList ∧
  w.heap[X]? = some (.cells #[sv, rv, .int .i64 d.armed, .int .i64 d.bytes, .bool d.dead] 38 (0, 0)) ∧
  w.ownsRow 0 9 1 sv d.sec.length (strs d.sec d.sec.length) ∧ w.ownsRow 0 86 2 rv d.raw.length (rawCells d.raw)
instance (X : Nat) (d : DS) : Loc (XkT X d) where
  keep := fun ⟨sv, rv, h1, h2, h3, h4, h5⟩ hF hd hg => ⟨sv, rv, h1, h2, hF.keep h3 (hd _ (by simp [h1])), owns_keep h4 hF (fun g h => hg g (by simp only [h2, List.mem_append]; exact .inl h)), owns_keep h5 hF (fun g h => hg g (by simp only [h2, List.mem_append]; exact .inr h))⟩
  lt := fun ⟨sv, rv, h1, h2, h3, h4, h5⟩ => ⟨fun x hx => by subst h1; simp at hx; subst hx; exact lt_of_block h3, fun x hx => by
    subst h2
    rcases List.mem_append.1 hx with h | h
    · exact owns_lt h4 x h
    · exact owns_lt h5 x h⟩

theorem strs_set (ss : List ByteArray) (k n : Nat) (y : ByteArray) (hk : k < ss.length) (hn : n = ss.length) : (strs ss n).set k (.string y) = strs (ss.set k y) n := by
  subst hn
  refine List.ext_getElem? fun j => ?_
  rcases Nat.lt_or_ge j ss.length with h | h
  · rw [strs_get _ _ _ h, List.getElem?_set]
    unfold strV
    rw [sAt_set _ _ _ _ hk]
    by_cases hj : j = k
    · subst hj; rw [if_pos rfl, if_pos (by rw [strs_len]; exact hk), if_pos rfl]
    · rw [if_neg (Ne.symm hj), if_neg hj, strs_get _ _ _ h]; rfl
  · rw [List.getElem?_eq_none (by rw [List.length_set, strs_len]; exact h), List.getElem?_eq_none (by rw [strs_len]; exact h)]

set_option maxHeartbeats 800000 in
set_option maxRecDepth 100000 in
theorem ref_laid (w : World) (a : Option Addr) (cap : Nat) (ss : List ByteArray) (h : In w 1 a ss.length cap (strV ss)) (k kb : Nat) (data : ByteArray) (hk : k < ss.length) (hn : ss.length ≤ 1026) (hd : data.size = 128) (hs : (sAt ss k).size = 128) (hb : kb ≤ 128) :
    Calls Tryz.prog 48 #[.slice a ss.length cap, .int .i64 k, .string data, .int .i64 kb] w fun e w' => ∃ g cap', e = .returned (.slice (some ⟨g, 0, none⟩) ss.length cap') ∧ Fr [] w w' ∧ w.heap.size ≤ g ∧
      w'.ownsRow 0 9 1 (.slice (some ⟨g, 0, none⟩) ss.length cap') ss.length (strs (ss.set k (cutB data (sAt ss k) kb)) ss.length) := by
  have hm := h.max
  obtain ⟨b, off, rfl⟩ := h.sm (by omega)
  have c0 := h.cell b off rfl k (by omega)
  have H := hid h
  obtain ⟨i0, hi, hz0, hz1, hz2⟩ := info_parts info_string
  have HI := hid (And.intro hi (And.intro hz0 (And.intro hz1 hz2)))
  clear hi hz0 hz1 hz2 h
  go_enter Tryz.func48, Tryz.ntmps48
  go_wp2_with (at_builtin; refine wpList_copied rfl (.tmp 10) (.tmp 11) 34 rfl 9 i0 (.string ByteArray.empty) 1 16 Tryz.underlying34 HI.out.1 HI.out.2.1 HI.out.2.2.1 HI.out.2.2.2 rfl (by decide) w.heap.size rfl (blk_alloc_at _ _ _ rfl) (some ⟨b, off, none⟩) ss.length cap (strV ss) rfl ?qa (fun j _ => strV_one _ j) (by omega) ?_)
  case qa => exact H.out.fr0 ((Fr.refl [] w).alloc _)
  intro g cg w1 ho hF1 hg
  replace ho : w1.ownsRow 0 9 1 (.slice (some ⟨g, 0, none⟩) ss.length cg) ss.length (strs ss ss.length) := ho
  have hF : Fr [] w w1 := ((Fr.refl [] w).alloc (.cells #[] 9)).step hF1 (by intro x hx; simp at hx; subst hx; exact .inr (Nat.le_refl _))
  have hg' : w.heap.size ≤ g := by rcases hg with h | h <;> omega
  have c1 := hF.cell0 c0
  simp only [strV] at c1
  have hW := owns_W ho (strV ss) (fun j hj => strs_get _ _ j (by omega))
  have d1 := hW.cell k (by omega)
  have f1 := hW.free k
  rw [Nat.zero_add] at d1 f1
  generalize hx : sAt ss k = x at c1 hs
  have HX := hid (And.intro ho (And.intro hF (And.intro hg' hx)))
  have hk0 : (0 : Int) ≤ kb := by omega
  have hk1 : (kb : Int) ≤ data.size := by omega
  have hk2 : (kb : Int) ≤ x.size := by omega
  have hk3 : ¬ 9223372036854775807 < min kb data.size + (x.size - kb) := by omega
  clear ho hF hF1 hg hg' hW c0 hx hd hs
  go_wp2
  go_region
  go_wp2
  go_ret
  have hc : cutB data (sAt ss k) kb = data.extract 0 kb ++ x.extract kb x.size := by rw [HX.out.2.2.2]; rfl
  rw [hc, ← strs_set ss k ss.length _ hk rfl]
  exact ⟨g, cg, rfl, (HX.out.2.1.setCell (.inr HX.out.2.2.1) _).drew, HX.out.2.2.1, ownsRow_drew (ownsRow_set HX.out.1 k _)⟩

theorem owns_In {w : World} {B size n : Nat} {e : TypeId} {v : Value} {xs : List Value} (h : w.ownsRow B e size v n xs) (V : Nat → Value) (hV : ∀ j, j < n * size → xs[j]? = some (V j)) : ∃ a c, v = .slice a n c ∧ In w size a n c V ∧ (∀ b off, a = some ⟨b, off, none⟩ → b ∈ v.ownBlock.toList) := by
  rcases owns_one h with ⟨rfl, rfl, rfl⟩ | ⟨g, cap, rfl, _, _⟩
  · exact ⟨none, 0, rfl, ⟨Nat.le_refl _, by decide, fun h => absurd h (Nat.lt_irrefl _), fun b off e => by cases e⟩, fun b off e => by cases e⟩
  · exact ⟨_, _, rfl, owns_in h V hV, fun b off e => by cases e; simp [Value.ownBlock]⟩

section
variable {W : Base} {w : World} {R : List Thing}

set_option maxHeartbeats 1600000 in
set_option maxRecDepth 100000 in
theorem st_ref_write (H : St W w R) (i : Nat) {X : Nat} {d : DS} (hi : R[i]? = some (XkT X d)) (k : Int) (s : ByteArray) (hw : d.wf) (hn : (d.raw.length + 1) * 24 ≤ 140737488355328) :
    Calls Tryz.prog 29 #[.pointer (some ⟨X, 0, none⟩), .int .i64 k, .string s] w fun e w' => e = .returned (.int .i64 (d.write k s).1) ∧ St W w' (R.set i (XkT X (d.write k s).2)) := by
  have hn1 := hw.n1
  have hn2 := hw.n2
  have HS := hid (H.set_self hi)
  obtain ⟨F, G, ⟨sv, rv, hF, hG, hX, hS, hR⟩, hFW, hd, hback⟩ := H.atG i hi
  subst hF hG
  obtain ⟨g, cap, rfl⟩ := owns_shape hS (by omega)
  have hIn := owns_in hS (strV d.sec) (fun j hj => strs_get _ _ j (by omega))
  have hdX := hd X (by simp)
  have c0 : w.cell? ⟨X, 0, none⟩ = some (.slice (some ⟨g, 0, none⟩) d.sec.length cap) := cell_blk hX rfl
  have c1 : w.cell? ⟨X, 1, none⟩ = some rv := cell_blk hX rfl
  have c2 : w.cell? ⟨X, 2, none⟩ = some (.int .i64 d.armed) := cell_blk hX rfl
  have c3 : w.cell? ⟨X, 3, none⟩ = some (.int .i64 d.bytes) := cell_blk hX rfl
  have c4 : w.cell? ⟨X, 4, none⟩ = some (.bool d.dead) := cell_blk hX rfl
  have HB := hid (And.intro hX (And.intro hS (And.intro hR (And.intro hback hdX))))
  have HI := hid hIn
  have hF0 : ∀ (n : Nat), w.frozen? ⟨X, n, none⟩ = false := fun n => free_blk hX
  have f0 := hF0 0
  have f2 := hF0 2
  clear hback hd hX hS hR hIn hdX hFW hF0 H hi
  by_cases hdead : d.dead = true
  · have hr : d.write k s = (2, d) := by unfold DS.write; rw [if_pos hdead]
    rw [hr]
    rw [hdead] at c4
    clear hr hdead c0 c1 c2 c3 HB HI
    go_enter Tryz.func29, Tryz.ntmps29
    go_wp2
    go_ret
    exact ⟨rfl, HS.out⟩
  have hdead' : d.dead = false := by simpa using hdead
  rw [hdead'] at c4
  by_cases hk : k < 0 ∨ d.sec.length ≤ k
  · have hr : d.write k s = (40, d) := by unfold DS.write; rw [if_neg hdead, if_pos hk]
    rw [hr]
    clear hr hdead hdead' c1 c2 c3 HB
    by_cases hk0 : k < 0
    · clear HI hk
      go_enter Tryz.func29, Tryz.ntmps29
      go_wp2
      go_ret
      exact ⟨rfl, HS.out⟩
    · have hk1 : (d.sec.length : Int) ≤ k := by omega
      clear HI hk
      go_enter Tryz.func29, Tryz.ntmps29
      go_wp2
      go_ret
      exact ⟨rfl, HS.out⟩
  obtain ⟨kk, rfl⟩ : ∃ kk : Nat, k = kk := ⟨k.toNat, by omega⟩
  have hk0 : ¬ ((kk : Int) < 0) := by omega
  have hk1 : ¬ ((d.sec.length : Int) ≤ kk) := by omega
  have hk2 : kk < d.sec.length := by omega
  by_cases hs : s.size ≠ 128
  · have hr : d.write kk s = (41, d) := by unfold DS.write; rw [if_neg hdead, if_neg hk, if_pos hs]
    rw [hr]
    have hs1 : ((s.size : Int) == 128) = false := by rw [beq_eq_false_iff_ne]; omega
    have hs2 : ((s.size : Int) != 128) = true := by rw [bne_iff_ne]; omega
    clear hr hdead hdead' c1 c2 c3 HB HI hk hs
    go_enter Tryz.func29, Tryz.ntmps29
    go_wp2
    go_ret
    exact ⟨rfl, HS.out⟩
  have hs' : s.size = 128 := by omega
  have hs1 : ((s.size : Int) == 128) = true := by rw [beq_iff_eq]; omega
  have hs2 : ((s.size : Int) != 128) = false := by rw [bne_eq_false_iff_eq]; omega
  by_cases ha : d.armed = 1
  · obtain ⟨kb, hkb⟩ : ∃ kb : Nat, d.bytes = kb := ⟨d.bytes.toNat, by have := hw.b0; omega⟩
    have hkb2 : kb ≤ 128 := by have := hw.b1; omega
    have hr : d.write kk s = (2, { d with sec := d.sec.set kk (cutB s (sAt d.sec kk) kb), dead := true }) := by
      unfold DS.write; rw [if_neg hdead, if_neg hk, if_neg hs, if_pos ha, hkb]; rfl
    rw [hr]
    rw [ha] at c2
    rw [hkb] at c3
    have HL := hid (fun w1 (h1 : In w1 1 (some ⟨g, 0, none⟩) d.sec.length cap (strV d.sec)) => ref_laid w1 _ cap d.sec h1 kk kb s hk2 hn2 hs' (hw.sz kk hk2) hkb2)
    have HA := hid (And.intro ha hkb)
    clear hr hdead hdead' c1 hk hs hs' ha hkb
    go_enter Tryz.func29, Tryz.ntmps29
    go_wp2_with fail
    go_region_with (go_at_call 48; refine (HL.out _ (HI.out.fr0 ((Fr.refl [] w).drew))).mono ?_; rintro e w1 ⟨g1, cap1, rfl, hF1, hg1, ho1⟩; have e0 := hF1.cell0 (w := w.drew) c0; have j0 := free_blk (i := 0) (hF1.keep (w := w.drew) HB.out.1 (by simp)))
    all_goals
      have hX1 := hF1.keep (w := w.drew) HB.out.1 (by simp)
      have hR1 := owns_keep (S := []) HB.out.2.2.1 ((Fr.refl [] w).drew.trans hF1) (by simp)
      have HZ := hid (And.intro hX1 (And.intro hR1 (And.intro hF1 (And.intro hg1 ho1))))
      clear hX1 hR1 hF1 hg1 ho1
      have hX2 : (w1.setCell ⟨X, 0, none⟩ (.slice (some ⟨g1, 0, none⟩) d.sec.length cap1)).heap[X]? = some (.cells #[.slice (some ⟨g1, 0, none⟩) d.sec.length cap1, rv, .int .i64 d.armed, .int .i64 d.bytes, .bool d.dead] 38 (0, 0)) := by
        rw [blk_setCell_at _ HZ.out.1]; simp
      have hF2 : Fr [X] w (w1.setCell ⟨X, 0, none⟩ (.slice (some ⟨g1, 0, none⟩) d.sec.length cap1)) := (((Fr.refl _ w).drew).step HZ.out.2.2.1 (by simp)).setCell (.inl (by simp)) _
      have hS2 := owns_keep (S := [X]) HZ.out.2.2.2.2 ((Fr.refl _ w1).setCell (p := ⟨X, 0, none⟩) (.inl (by simp)) (.slice (some ⟨g1, 0, none⟩) d.sec.length cap1)) (by have h1 := HZ.out.2.2.2.1; have h2 := lt_of_block HB.out.1; intro q hq; simp [Value.ownBlock] at hq; subst hq; simp; exact fun e => by subst e; exact absurd h2 (Nat.not_lt.2 h1))
      have hR2 := owns_keep (S := [X]) HZ.out.2.1 ((Fr.refl _ w1).setCell (p := ⟨X, 0, none⟩) (.inl (by simp)) (.slice (some ⟨g1, 0, none⟩) d.sec.length cap1)) (by intro q hq; have := HB.out.2.2.2.2; simp at this; simp; exact fun e => this.2 (by subst e; simpa using hq))
      generalize w1.setCell ⟨X, 0, none⟩ (.slice (some ⟨g1, 0, none⟩) d.sec.length cap1) = w2 at hX2 hF2 hS2 hR2 ⊢
      have e4 : ∃ u, w2.cell? ⟨X, 4, none⟩ = some u := ⟨_, cell_blk hX2 rfl⟩
      have e5 : w2.frozen? ⟨X, 4, none⟩ = false := free_blk hX2
      obtain ⟨u4, e4⟩ := e4
      have HY := hid (And.intro hX2 (And.intro hF2 (And.intro hS2 hR2)))
      clear hX2 hF2 hS2 hR2
      go_wp2_with fail
      go_ret
      obtain ⟨y1, y2, y3, y4⟩ := HY.out
      obtain ⟨b1, b2, b3, hback, hdX⟩ := HB.out
      obtain ⟨z1, z2, z3, z4, z5⟩ := HZ.out
      have hXl := lt_of_block b1
      have hg1 : w.heap.size ≤ g1 := z4
      have hdr : X ∉ rv.ownBlock.toList := fun h => hdX (List.mem_append.2 (.inr h))
      refine ⟨rfl, hback _ [X] ((Value.slice (some ⟨g1, 0, none⟩) d.sec.length cap1).ownBlock.toList ++ rv.ownBlock.toList) _ inferInstance ⟨.slice (some ⟨g1, 0, none⟩) d.sec.length cap1, rv, rfl, rfl, ?_, ?_, ?_⟩ (y2.setCell (.inl (by simp)) _) (fun x hx => .inl hx) (fun x hx => ?_) (fun x hx hg => ?_)⟩
      · rw [blk_setCell_at _ y1]; simp
      · simp only [List.length_set]
        exact owns_keep (S := [X]) y3 ((Fr.refl _ w2).setCell (.inl (by simp)) _) (fun q hq => by simp [Value.ownBlock] at hq; subst hq; simp; omega)
      · exact owns_keep (S := [X]) y4 ((Fr.refl _ w2).setCell (.inl (by simp)) _) (fun q hq => by simp; exact fun e => hdr (by subst e; exact hq))
      · rcases List.mem_append.1 hx with h | h
        · simp [Value.ownBlock] at h; subst h; exact .inr (.inr hg1)
        · exact .inr (.inl (List.mem_append.2 (.inr h)))
      · simp at hx; subst hx
        rcases List.mem_append.1 hg with h | h
        · simp [Value.ownBlock] at h; omega
        · exact hdr h
  obtain ⟨ra, rc, rfl, hIr, hrb⟩ := owns_In HB.out.2.2.1 (wrV d.raw) (fun j hj => rawCells_get _ j hj)
  obtain ⟨i1, hj, hy0, hy1, hy2⟩ := info_parts info_write
  have HJ := hid (And.intro hj (And.intro hy0 (And.intro hy1 hy2)))
  have HIr := hid (And.intro hIr hrb)
  clear hj hy0 hy1 hy2 hIr hrb
  have HC := hid (cutB_full s (sAt d.sec kk) hs' (hw.sz kk hk2))
  by_cases ha2 : 1 < d.armed
  · have hr : d.write kk s = (0, { d with armed := d.armed - 1, sec := d.sec.set kk s, raw := d.raw ++ [((kk : Int), s)] }) := by
      unfold DS.write; rw [if_neg hdead, if_neg hk, if_neg hs, if_neg ha, show max 0 (d.armed - 1) = d.armed - 1 by omega]; rfl
    rw [hr]
    have ha3 := hw.a1
    have HA := hid hr
    clear hr ha
    have hX0 : (w.setCell ⟨X, 2, none⟩ (.int .i64 (d.armed - 1))).heap[X]? = some (.cells #[.slice (some ⟨g, 0, none⟩) d.sec.length cap, .slice ra d.raw.length rc, .int .i64 (d.armed - 1), .int .i64 d.bytes, .bool d.dead] 38 (0, 0)) := by rw [blk_setCell_at _ HB.out.1]; simp
    have hF0 : Fr [X] w (w.setCell ⟨X, 2, none⟩ (.int .i64 (d.armed - 1))) := (Fr.refl _ w).setCell (.inl (by simp)) _
    have hgX : g ∉ [X] := fun h => by simp at h; subst h; exact HB.out.2.2.2.2 (by simp [Value.ownBlock])
    have hrX : ∀ x, x ∈ (Value.slice ra d.raw.length rc).ownBlock.toList → x ∉ [X] := fun x hx h => by simp at h; subst h; exact HB.out.2.2.2.2 (List.mem_append.2 (.inr hx))
    have hI0 := HI.out.fr hF0 (fun b off e => by cases e; exact hgX)
    have hIr0 := HIr.out.1.fr hF0 (fun b off e => hrX b (HIr.out.2 b off e))
    have hXl := lt_of_block HB.out.1
    have hs0 := hF0.size
    have H0 := hid (And.intro hX0 (And.intro hF0 (And.intro hI0 (And.intro hIr0 (And.intro hXl hs0)))))
    have HL := hid (ref_laid (w.setCell ⟨X, 2, none⟩ (.int .i64 (d.armed - 1))) _ cap d.sec hI0 kk 128 s hk2 hn2 hs' (hw.sz kk hk2) (Nat.le_refl _))
    clear hdead hdead' hk hs hs' hX0 hF0 hgX hrX hI0 hIr0 hXl hs0
    go_enter Tryz.func29, Tryz.ntmps29
    go_wp2_with fail
    refine HL.out.mono ?_
    rintro e w1 ⟨g1, cap1, rfl, hF1, hg1, ho1⟩
    rw [HC.out] at ho1
    have hX1 := hF1.keep H0.out.1 (by simp)
    have hIr1 := H0.out.2.2.2.1.fr0 hF1
    have e0 := cell_blk (i := 0) hX1 rfl
    have e1 := cell_blk (i := 1) hX1 rfl
    have j0 := free_blk (i := 0) hX1
    have j1 := free_blk (i := 1) hX1
    have hs1 := hF1.size
    have hXl := lt_of_block hX1
    have hX2 := blk_setCell_at (i := 0) (.slice (some ⟨g1, 0, none⟩) d.sec.length cap1) hX1
    have hFs : Fr [X] w1 (w1.setCell ⟨X, 0, none⟩ (.slice (some ⟨g1, 0, none⟩) d.sec.length cap1)) := (Fr.refl _ w1).setCell (.inl (by simp)) _
    have hFa := hFs.alloc (.cells #[] 86)
    have hIa := hIr1.fr hFa (fun b off e h => by simp at h; subst h; exact HB.out.2.2.2.2 (List.mem_append.2 (.inr (HIr.out.2 _ off e))))
    have HZ := hid (And.intro hF1 (And.intro hg1 (And.intro ho1 (And.intro hX2 (And.intro hFa (And.intro hIa (And.intro hs1 hXl)))))))
    clear hF1 hg1 ho1 hX2 hFs hFa hIa hs1 hIr1 hX1
    go_wp2_with (at_builtin; refine wpList_copied rfl (.tmp 70) (.tmp 74) 36 rfl 86 i1 (.agg #[.int .i64 0, .string ByteArray.empty]) 2 24 Tryz.underlying36 HJ.out.1 HJ.out.2.1 HJ.out.2.2.1 HJ.out.2.2.2 rfl (by decide) w1.heap.size rfl (blk_alloc_at _ _ _ (by simp [World.setCell])) ra d.raw.length rc (wrV d.raw) rfl HZ.out.2.2.2.2.2.1 (fun j _ => wrV_one _ j) (by omega) ?_)
    intro g3 ca3 w3 ho3 hF3 hg3
    rw [range_wrs] at ho3
    have hX3 := hF3.keep (blk_alloc_lt (.cells #[] 86) HZ.out.2.2.2.1) (by simp; omega)
    have e3 := cell_blk (i := 1) hX3 rfl
    have j3 := free_blk (i := 1) hX3
    have hF13 : Fr [X] w1 w3 := HZ.out.2.2.2.2.1.step hF3 (fun x hx => .inr (by simp at hx; omega))
    have hg3' : w1.heap.size ≤ g3 := by rcases hg3 with h | h <;> first | omega | (simp at h; omega)
    have HT := hid (And.intro hX3 (And.intro hF13 (And.intro hg3' ho3)))
    clear hXl hX3 hF13 hg3' ho3 hF3 hg3
    have hXl3 := lt_of_block HT.out.1
    go_wp2_with (at_builtin; refine wpList_append_blk rfl (.tmp 75) (.tmp 79) 36 rfl 86 i1 (.agg #[.int .i64 0, .string ByteArray.empty]) 2 24 Tryz.underlying36 HJ.out.1 HJ.out.2.1 HJ.out.2.2.1 HJ.out.2.2.2 rfl (by decide) (.slice (some ⟨g3, 0, none⟩) d.raw.length ca3) d.raw.length (rawCells d.raw) rfl ?qa1 ⟨w3.heap.size, 0, none⟩ 1 1 [.int .i64 kk, .string s] rfl rfl ?qb1 ?qc1 ?qd1 ?qe1 ?_)
    case qa1 => exact owns_keep (S := []) HT.out.2.2.2 ((Fr.refl [] _).alloc _) (by simp)
    case qc1 => intro u hu; simp at hu; rcases hu with rfl | rfl <;> rfl
    case qd1 => unfold maxLen; omega
    case qe1 => omega
    case qb1 => exact news_alloc w3 [.int .i64 kk, .string s] _
    intro v5 w5 ho5 hF5 hblk5 hnil5
    rw [← rawCells_snoc] at ho5
    obtain ⟨g5, ca5, rfl⟩ := owns_shape ho5 (by omega)
    have hXl := lt_of_block HT.out.1
    have hsz3 := HT.out.2.1.size
    have hXl1 := HZ.out.2.2.2.2.2.2.2
    have hXg : X ∉ (Value.slice (some ⟨g3, 0, none⟩) d.raw.length ca3).ownBlock.toList := fun h => by simp [Value.ownBlock] at h; have := HT.out.2.2.1; omega
    have hX5 := hF5.keep (blk_alloc_lt (.cells #[.int .i64 kk, .string s] 86) HT.out.1) hXg
    have e5 := cell_blk (i := 1) hX5 rfl
    have j5 := free_blk (i := 1) hX5
    have hF35 : Fr [g3] w3 w5 := ((Fr.refl [g3] w3).alloc (.cells #[.int .i64 kk, .string s] 86)).step hF5 (fun x hx => .inl (by simpa [Value.ownBlock] using hx))
    have hb5 : ∀ x, x ∈ (Value.slice (some ⟨g5, 0, none⟩) (d.raw.length + 1) ca5).ownBlock.toList → w1.heap.size ≤ x := fun x hx => by
      have := HT.out.2.2.1
      rcases hblk5 x (by simpa using hx) with h | h
      · simp [Value.ownBlock] at h; omega
      · first | omega | (simp at h; omega)
    have HV := hid (And.intro hX5 (And.intro hF35 (And.intro ho5 hb5)))
    have hXl5 := lt_of_block hX5
    clear hXl hsz3 hXl1 hXl3 hXg hX5 hF35 ho5 hb5 hF5 hblk5 hnil5
    go_wp2_with fail
    go_ret
    obtain ⟨v1, v2, v3, v4⟩ := HV.out
    obtain ⟨t1, t2, t3, t4⟩ := HT.out
    obtain ⟨z1, z2, z3, z4, z5, z6, z7, z8⟩ := HZ.out
    obtain ⟨b1, b2, b3, hback, hdX⟩ := HB.out
    obtain ⟨q1, q2, q3, q4, q5, q6⟩ := H0.out
    have hXw := lt_of_block b1
    have hl5 : (d.raw ++ [((kk : Int), s)]).length = d.raw.length + 1 := by simp
    refine ⟨rfl, hback _ [X] ((Value.slice (some ⟨g1, 0, none⟩) d.sec.length cap1).ownBlock.toList ++ (Value.slice (some ⟨g5, 0, none⟩) (d.raw.length + 1) ca5).ownBlock.toList) _ inferInstance ⟨.slice (some ⟨g1, 0, none⟩) d.sec.length cap1, .slice (some ⟨g5, 0, none⟩) (d.raw.length + 1) ca5, rfl, rfl, ?_, ?_, ?_⟩ ?_ (fun x hx => .inl hx) (fun x hx => ?_) (fun x hx hg => ?_)⟩
    · rw [blk_setCell_at _ v1]; simp
    · simp only [List.length_set]
      have h1 := owns_keep z3 t2 (fun q hq => by simp [Value.ownBlock] at hq; subst hq; simp; omega)
      have hgl := owns_lt z3 g1 (by simp [Value.ownBlock])
      have h2 := owns_keep h1 v2 (fun q hq => by simp [Value.ownBlock] at hq; subst hq; simp; omega)
      exact owns_keep (S := [X]) h2 ((Fr.refl _ w5).setCell (.inl (by simp)) _) (fun q hq => by simp [Value.ownBlock] at hq; subst hq; simp; omega)
    · simp only [hl5]
      exact owns_keep (S := [X]) v3 ((Fr.refl _ w5).setCell (.inl (by simp)) _) (fun q hq => by have := v4 q hq; simp; omega)
    · exact (((q2.step z1 (by simp)).step t2 (fun x hx => .inl hx)).step v2 (fun x hx => .inr (by simp at hx; omega))).setCell (.inl (by simp)) _
    · rcases List.mem_append.1 hx with h | h
      · simp [Value.ownBlock] at h; subst h; exact .inr (.inr (by omega))
      · exact .inr (.inr (by have := v4 x h; omega))
    · simp at hx; subst hx
      rcases List.mem_append.1 hg with h | h
      · simp [Value.ownBlock] at h; omega
      · have := v4 x h; omega
  · have ha4 : d.armed = 0 := by have := hw.a0; omega
    have hr : d.write kk s = (0, { d with armed := d.armed, sec := d.sec.set kk s, raw := d.raw ++ [((kk : Int), s)] }) := by
      unfold DS.write; rw [if_neg hdead, if_neg hk, if_neg hs, if_neg ha, show max 0 (d.armed - 1) = d.armed by omega]; rfl
    rw [hr]
    have ha5 : (d.armed == 1) = false := by rw [beq_eq_false_iff_ne]; exact ha
    clear hr ha ha4
    have hX0 : (w).heap[X]? = some (.cells #[.slice (some ⟨g, 0, none⟩) d.sec.length cap, .slice ra d.raw.length rc, .int .i64 (d.armed), .int .i64 d.bytes, .bool d.dead] 38 (0, 0)) := HB.out.1
    have hF0 : Fr [X] w (w) := Fr.refl _ w
    have hgX : g ∉ [X] := fun h => by simp at h; subst h; exact HB.out.2.2.2.2 (by simp [Value.ownBlock])
    have hrX : ∀ x, x ∈ (Value.slice ra d.raw.length rc).ownBlock.toList → x ∉ [X] := fun x hx h => by simp at h; subst h; exact HB.out.2.2.2.2 (List.mem_append.2 (.inr hx))
    have hI0 := HI.out.fr hF0 (fun b off e => by cases e; exact hgX)
    have hIr0 := HIr.out.1.fr hF0 (fun b off e => hrX b (HIr.out.2 b off e))
    have hXl := lt_of_block HB.out.1
    have hs0 := hF0.size
    have H0 := hid (And.intro hX0 (And.intro hF0 (And.intro hI0 (And.intro hIr0 (And.intro hXl hs0)))))
    have HL := hid (ref_laid (w) _ cap d.sec hI0 kk 128 s hk2 hn2 hs' (hw.sz kk hk2) (Nat.le_refl _))
    clear hdead hdead' hk hs hs' hX0 hF0 hgX hrX hI0 hIr0 hXl hs0
    go_enter Tryz.func29, Tryz.ntmps29
    go_wp2_with fail
    refine HL.out.mono ?_
    rintro e w1 ⟨g1, cap1, rfl, hF1, hg1, ho1⟩
    rw [HC.out] at ho1
    have hX1 := hF1.keep H0.out.1 (by simp)
    have hIr1 := H0.out.2.2.2.1.fr0 hF1
    have e0 := cell_blk (i := 0) hX1 rfl
    have e1 := cell_blk (i := 1) hX1 rfl
    have j0 := free_blk (i := 0) hX1
    have j1 := free_blk (i := 1) hX1
    have hs1 := hF1.size
    have hXl := lt_of_block hX1
    have hX2 := blk_setCell_at (i := 0) (.slice (some ⟨g1, 0, none⟩) d.sec.length cap1) hX1
    have hFs : Fr [X] w1 (w1.setCell ⟨X, 0, none⟩ (.slice (some ⟨g1, 0, none⟩) d.sec.length cap1)) := (Fr.refl _ w1).setCell (.inl (by simp)) _
    have hFa := hFs.alloc (.cells #[] 86)
    have hIa := hIr1.fr hFa (fun b off e h => by simp at h; subst h; exact HB.out.2.2.2.2 (List.mem_append.2 (.inr (HIr.out.2 _ off e))))
    have HZ := hid (And.intro hF1 (And.intro hg1 (And.intro ho1 (And.intro hX2 (And.intro hFa (And.intro hIa (And.intro hs1 hXl)))))))
    clear hF1 hg1 ho1 hX2 hFs hFa hIa hs1 hIr1 hX1
    go_wp2_with (at_builtin; refine wpList_copied rfl (.tmp 70) (.tmp 74) 36 rfl 86 i1 (.agg #[.int .i64 0, .string ByteArray.empty]) 2 24 Tryz.underlying36 HJ.out.1 HJ.out.2.1 HJ.out.2.2.1 HJ.out.2.2.2 rfl (by decide) w1.heap.size rfl (blk_alloc_at _ _ _ (by simp [World.setCell])) ra d.raw.length rc (wrV d.raw) rfl HZ.out.2.2.2.2.2.1 (fun j _ => wrV_one _ j) (by omega) ?_)
    intro g3 ca3 w3 ho3 hF3 hg3
    rw [range_wrs] at ho3
    have hX3 := hF3.keep (blk_alloc_lt (.cells #[] 86) HZ.out.2.2.2.1) (by simp; omega)
    have e3 := cell_blk (i := 1) hX3 rfl
    have j3 := free_blk (i := 1) hX3
    have hF13 : Fr [X] w1 w3 := HZ.out.2.2.2.2.1.step hF3 (fun x hx => .inr (by simp at hx; omega))
    have hg3' : w1.heap.size ≤ g3 := by rcases hg3 with h | h <;> first | omega | (simp at h; omega)
    have HT := hid (And.intro hX3 (And.intro hF13 (And.intro hg3' ho3)))
    clear hXl hX3 hF13 hg3' ho3 hF3 hg3
    have hXl3 := lt_of_block HT.out.1
    go_wp2_with (at_builtin; refine wpList_append_blk rfl (.tmp 75) (.tmp 79) 36 rfl 86 i1 (.agg #[.int .i64 0, .string ByteArray.empty]) 2 24 Tryz.underlying36 HJ.out.1 HJ.out.2.1 HJ.out.2.2.1 HJ.out.2.2.2 rfl (by decide) (.slice (some ⟨g3, 0, none⟩) d.raw.length ca3) d.raw.length (rawCells d.raw) rfl ?qa2 ⟨w3.heap.size, 0, none⟩ 1 1 [.int .i64 kk, .string s] rfl rfl ?qb2 ?qc2 ?qd2 ?qe2 ?_)
    case qa2 => exact owns_keep (S := []) HT.out.2.2.2 ((Fr.refl [] _).alloc _) (by simp)
    case qc2 => intro u hu; simp at hu; rcases hu with rfl | rfl <;> rfl
    case qd2 => unfold maxLen; omega
    case qe2 => omega
    case qb2 => exact news_alloc w3 [.int .i64 kk, .string s] _
    intro v5 w5 ho5 hF5 hblk5 hnil5
    rw [← rawCells_snoc] at ho5
    obtain ⟨g5, ca5, rfl⟩ := owns_shape ho5 (by omega)
    have hXl := lt_of_block HT.out.1
    have hsz3 := HT.out.2.1.size
    have hXl1 := HZ.out.2.2.2.2.2.2.2
    have hXg : X ∉ (Value.slice (some ⟨g3, 0, none⟩) d.raw.length ca3).ownBlock.toList := fun h => by simp [Value.ownBlock] at h; have := HT.out.2.2.1; omega
    have hX5 := hF5.keep (blk_alloc_lt (.cells #[.int .i64 kk, .string s] 86) HT.out.1) hXg
    have e5 := cell_blk (i := 1) hX5 rfl
    have j5 := free_blk (i := 1) hX5
    have hF35 : Fr [g3] w3 w5 := ((Fr.refl [g3] w3).alloc (.cells #[.int .i64 kk, .string s] 86)).step hF5 (fun x hx => .inl (by simpa [Value.ownBlock] using hx))
    have hb5 : ∀ x, x ∈ (Value.slice (some ⟨g5, 0, none⟩) (d.raw.length + 1) ca5).ownBlock.toList → w1.heap.size ≤ x := fun x hx => by
      have := HT.out.2.2.1
      rcases hblk5 x (by simpa using hx) with h | h
      · simp [Value.ownBlock] at h; omega
      · first | omega | (simp at h; omega)
    have HV := hid (And.intro hX5 (And.intro hF35 (And.intro ho5 hb5)))
    have hXl5 := lt_of_block hX5
    clear hXl hsz3 hXl1 hXl3 hXg hX5 hF35 ho5 hb5 hF5 hblk5 hnil5
    go_wp2_with fail
    go_ret
    obtain ⟨v1, v2, v3, v4⟩ := HV.out
    obtain ⟨t1, t2, t3, t4⟩ := HT.out
    obtain ⟨z1, z2, z3, z4, z5, z6, z7, z8⟩ := HZ.out
    obtain ⟨b1, b2, b3, hback, hdX⟩ := HB.out
    obtain ⟨q1, q2, q3, q4, q5, q6⟩ := H0.out
    have hXw := lt_of_block b1
    have hl5 : (d.raw ++ [((kk : Int), s)]).length = d.raw.length + 1 := by simp
    refine ⟨rfl, hback _ [X] ((Value.slice (some ⟨g1, 0, none⟩) d.sec.length cap1).ownBlock.toList ++ (Value.slice (some ⟨g5, 0, none⟩) (d.raw.length + 1) ca5).ownBlock.toList) _ inferInstance ⟨.slice (some ⟨g1, 0, none⟩) d.sec.length cap1, .slice (some ⟨g5, 0, none⟩) (d.raw.length + 1) ca5, rfl, rfl, ?_, ?_, ?_⟩ ?_ (fun x hx => .inl hx) (fun x hx => ?_) (fun x hx hg => ?_)⟩
    · rw [blk_setCell_at _ v1]; simp
    · simp only [List.length_set]
      have h1 := owns_keep z3 t2 (fun q hq => by simp [Value.ownBlock] at hq; subst hq; simp; omega)
      have hgl := owns_lt z3 g1 (by simp [Value.ownBlock])
      have h2 := owns_keep h1 v2 (fun q hq => by simp [Value.ownBlock] at hq; subst hq; simp; omega)
      exact owns_keep (S := [X]) h2 ((Fr.refl _ w5).setCell (.inl (by simp)) _) (fun q hq => by simp [Value.ownBlock] at hq; subst hq; simp; omega)
    · simp only [hl5]
      exact owns_keep (S := [X]) v3 ((Fr.refl _ w5).setCell (.inl (by simp)) _) (fun q hq => by have := v4 q hq; simp; omega)
    · exact (((q2.step z1 (by simp)).step t2 (fun x hx => .inl hx)).step v2 (fun x hx => .inr (by simp at hx; omega))).setCell (.inl (by simp)) _
    · rcases List.mem_append.1 hx with h | h
      · simp [Value.ownBlock] at h; subst h; exact .inr (.inr (by omega))
      · exact .inr (.inr (by have := v4 x h; omega))
    · simp at hx; subst hx
      rcases List.mem_append.1 hg with h | h
      · simp [Value.ownBlock] at h; omega
      · have := v4 x h; omega
end

end Go.Proofs.YthghnlgojmedgaaGreat

/-
  New, Load, Read, Arm, Revive, Copy of the document's disk, over a world that holds things.
-/
namespace Go.Proofs.YthghnlgojmedgaaGreat
open Go.RowKit
set_option linter.unusedVariables false
set_option linter.unusedSimpArgs false
theorem made_u8 (N q : Nat) (hq : q < N) : (madeCells (Value.int .u8 0).cells N)[q]? = some (.int .u8 0) := by
  unfold madeCells
  simp only [Array.getElem?_map]
  rw [Array.getElem?_range, if_pos hq]
  simp [Value.cells, Nat.mod_one]

theorem st_ref_noughts (w : World) : Calls Tryz.prog 18 #[] w fun e w' => e = .returned (.string zeroSec) ∧ Fr [] w w' := by
  obtain ⟨i0, hi, hz0, hz1, hz2⟩ := info_parts info_u8
  have HI := hid (And.intro hi (And.intro hz0 (And.intro hz1 hz2)))
  clear hi hz0 hz1 hz2
  go_enter Tryz.func18, Tryz.ntmps18
  go_wp2_with (at_make; refine wpList_make_full _ rfl (.const (.int .i64 128)) (.const (.int .i64 128)) 71 rfl 0 5 i0 (.int .u8 0) 1 Tryz.underlying71 HI.out.1 HI.out.2.1 HI.out.2.2.1 .i64 .i64 128 128 128 rfl rfl rfl rfl ?qa ?qb ?qc ?_)
  case qa => rw [HI.out.2.2.2]; omega
  case qb => decide
  case qc => omega
  intro w2 hown hgrow
  have hF2 : Fr [] w w2 := (Fr.of_grown hgrow).mono (by simp)
  have hcell : ∀ j, j < 128 → w2.cell? ⟨w.heap.size, 0 + j, none⟩ = some (.int .u8 (sget zeroSec j)) := by
    intro j hj
    rw [Nat.zero_add, hown.cellAt j (by omega), zero_at, Array.getElem?_toList]
    exact made_u8 _ _ (by omega)
  have HZ := hid (And.intro hF2 hcell)
  clear hF2 hcell hown hgrow
  go_wp2_with (refine wpList_text rfl 71 9 (.tmp 1) rfl 5 Tryz.underlying71 Tryz.underlying5 Tryz.underlying9 w.heap.size 0 128 128 zeroSec rfl zeroSec_size HZ.out.2 ?_)
  go_ret
  exact ⟨rfl, HZ.out.1⟩

def NewInv (w wr : World) (X k : Nat) : Prop := ∃ v, wr.heap[X]? = some (.cells #[v, .slice none 0 0, .int .i64 0, .int .i64 0, .bool false] 38 (0, 0)) ∧ wr.ownsRow 0 9 1 v k (strs (List.replicate k zeroSec) k) ∧ (∀ x, x ∈ v.ownBlock.toList → w.heap.size ≤ x ∧ x ≠ X) ∧ Fr [] w wr

theorem strs_zero (k : Nat) : strs (List.replicate k zeroSec) k ++ [.string zeroSec] = strs (List.replicate (k + 1) zeroSec) (k + 1) := by
  have h : ∀ n, strs (List.replicate n zeroSec) n = List.replicate n (.string zeroSec) := fun n => by
    refine List.ext_getElem? fun j => ?_
    rcases Nat.lt_or_ge j n with h | h
    · rw [strs_get _ _ _ h]; simp [strV, sAt, List.getD, h]
    · rw [List.getElem?_eq_none (by rw [strs_len]; exact h), List.getElem?_eq_none (by simpa using h)]
  rw [h, h, List.replicate_succ']

set_option maxHeartbeats 1600000 in
set_option maxRecDepth 100000 in
theorem ref_new_ok (w : World) (n : Nat) (h1 : 1 ≤ n) (h2 : n ≤ 1026) :
    Calls Tryz.prog 6 #[.int .i64 n] w fun e w' => ∃ X, e = .returned (.tuple #[.pointer (some ⟨X, 0, none⟩), .int .i64 0]) ∧ w.heap.size ≤ X ∧ NewInv w w' X n := by
  obtain ⟨i0, hi, hz0, hz1, hz2⟩ := info_parts info_string
  have HI := hid (And.intro hi (And.intro hz0 (And.intro hz1 hz2)))
  clear hi hz0 hz1 hz2
  go_enter Tryz.func6, Tryz.ntmps6
  go_wp2_with fail
  go_loopw [5] (fun i wr => ∃ k : Nat, k ≤ n ∧ i = .int .i64 k ∧ NewInv w wr w.heap.size k) (fun i _ => n - (intOf i).toNat)
  case atStart => exact ⟨0, Nat.zero_le _, rfl, .slice none 0 0, blk_alloc_at _ _ _ rfl, World.ownsRow_nil _ _ _ _, by simp [Value.ownBlock], (Fr.refl _ _).alloc _⟩
  case round =>
    obtain ⟨k, hk, rfl, hinv⟩ := hrel
    have HV := hid hinv
    clear hinv
    by_cases hlt : k < n
    · obtain ⟨v, g1, g2, g3, g4⟩ := HV.out
      have c0 := cell_blk (i := 0) g1 rfl
      have HG := hid (And.intro g1 (And.intro g2 (And.intro g3 g4)))
      clear HV g1 g2 g3 g4
      go_wp2_with fail
      go_region_law (first
        | (go_simp; go_at_call 18; refine (st_ref_noughts _).mono ?_; rintro e w1 ⟨rfl, hF1⟩; have e0 := hF1.cell0 (w := wr.drew) c0; have hl1 := lt_of_block (hF1.keep (w := wr.drew) HG.out.1 (by simp)); have HF1 := hid hF1; clear hF1)
        | (refine step_append_blk rfl (.tmp 23) (.tmp 25) 34 rfl 9 i0 (.string ByteArray.empty) 1 16 Tryz.underlying34 HI.out.1 HI.out.2.1 HI.out.2.2.1 HI.out.2.2.2 rfl (by decide) v k _ rfl (owns_keep (S := []) (owns_keep (S := []) HG.out.2.1 ((Fr.refl [] wr).drew.trans HF1.out) (by simp)) ((Fr.refl [] w1).alloc _) (by simp)) ⟨w1.heap.size, 0, none⟩ 1 1 [.string zeroSec] rfl rfl (news_alloc w1 [.string zeroSec] _) (by intro u hu; simp at hu; subst hu; rfl) (by unfold maxLen; omega) (by omega) ?_; intro v' w3 ho3 hF3 hb3 hn3; rw [strs_zero] at ho3; obtain ⟨g', cap', rfl⟩ := owns_shape ho3 (by omega); have hX1 := HF1.out.keep (w := wr.drew) HG.out.1 (by simp); have hX3 := hF3.keep (blk_alloc_lt _ hX1) (fun h => ((HG.out.2.2.1 _ h).2 rfl)); have e3 := cell_blk (i := 0) hX3 rfl; have j3 := free_blk (i := 0) hX3; have HZ := hid (And.intro hX3 (And.intro ho3 (And.intro hF3 hb3))); have hl3 := lt_of_block hX3; clear hX1 hX3 ho3 hF3 hb3 hn3))
      all_goals go_wp2_with fail
      all_goals
        obtain ⟨z1, z2, z3, z4⟩ := HZ.out
        obtain ⟨y1, y2, y3, y4⟩ := HG.out
        have hs1 := HF1.out.size
        have hsw : wr.drew.heap.size = wr.heap.size := rfl
        have hXr := lt_of_block y1
        have hg : w.heap.size < g' := by
          rcases z4 g' (by simp [Value.ownBlock]) with h | h
          · have := y3 g' h; omega
          · simp at h; omega
        have hF : Fr [] w w3 := ((y4.drew.trans HF1.out).alloc (.cells #[.string zeroSec] 9)).step z3 (fun x hx => .inr (y3 x hx).1)
        exact ⟨⟨k + 1, by omega, by go_num, .slice (some ⟨g', 0, none⟩) (k + 1) cap', by rw [blk_setCell_at _ z1]; simp, owns_keep (S := [w.heap.size]) z2 ((Fr.refl _ w3).setCell (.inl (by simp)) _) (by intro q hq; simp [Value.ownBlock] at hq; subst hq; simp; omega), by simp [Value.ownBlock]; omega, hF.setCell (.inr (Nat.le_refl _)) _⟩, by simp [intOf]; omega⟩
    · obtain rfl : k = n := by omega
      go_wp2_with fail
      go_ret2
      exact ⟨_, rfl, Nat.le_refl _, HV.out⟩

section
variable {W : Base} {w : World} {R : List Thing}

theorem st_ref_new (H : St W w R) (n : Nat) (h1 : 1 ≤ n) (h2 : n ≤ 1026) :
    Calls Tryz.prog 6 #[.int .i64 n] w fun e w' => ∃ X, e = .returned (.tuple #[.pointer (some ⟨X, 0, none⟩), .int .i64 0]) ∧ St W w' (R ++ [XkT X (DS.new n)]) := by
  refine (ref_new_ok w n h1 h2).mono ?_
  rintro e w' ⟨X, rfl, hX, v, g1, g2, g3, g4⟩
  refine ⟨X, rfl, H.newOf (F := [X]) (G := v.ownBlock.toList ++ (Value.slice none 0 0).ownBlock.toList) g4 inferInstance ⟨v, .slice none 0 0, rfl, rfl, g1, ?_, World.ownsRow_nil _ _ _ _⟩ (by simpa using hX) (fun x hx => .inl ?_) (fun x hx hg => ?_)⟩
  · simpa [DS.new] using g2
  · simp only [Value.ownBlock, Option.toList, List.append_nil] at hx; exact (g3 x hx).1
  · simp only [List.mem_singleton] at hx
    simp only [Value.ownBlock, Option.toList, List.append_nil] at hg
    exact (g3 x hg).2 hx

theorem st_ref_load (H : St W w R) {a : Option Addr} {cap : Nat} {ss : List ByteArray} (h : In w 1 a ss.length cap (strV ss)) (hok : okSecs ss) :
    Calls Tryz.prog 15 #[.slice a ss.length cap] w fun e w' => ∃ X, e = .returned (.tuple #[.pointer (some ⟨X, 0, none⟩), .int .i64 0]) ∧ St W w' (R ++ [XkT X (DS.of ss)]) := by
  refine (ref_load_ok w a cap ss h hok).mono ?_
  rintro e w' ⟨X, F, rfl, hF, ⟨sv, rv, rfl, g1, g2, g3⟩, hb⟩
  refine ⟨X, rfl, H.newOf (F := [X]) (G := sv.ownBlock.toList ++ rv.ownBlock.toList) hF inferInstance ⟨sv, rv, rfl, rfl, g1, g2, g3⟩ (fun x hx => hb x (by simp at hx; subst hx; simp)) (fun x hx => .inl (hb x (List.mem_cons_of_mem _ hx))) (fun x hx hg => ?_)⟩
  simp only [List.mem_singleton] at hx
  subst hx
  rcases List.mem_append.1 hg with h | h
  · exact owns_ne g2 g1 (by decide) h
  · exact owns_ne g3 g1 (by decide) h

theorem st_ref_revive (H : St W w R) (i : Nat) {X : Nat} {d : DS} (hi : R[i]? = some (XkT X d)) :
    Calls Tryz.prog 56 #[.pointer (some ⟨X, 0, none⟩)] w fun e w' => e = .returned (.tuple #[]) ∧ St W w' (R.set i (XkT X d.revive)) := by
  obtain ⟨F, G, ⟨sv, rv, hF, hG, hX, hS, hR⟩, hFW, hd, hback⟩ := H.atG i hi
  subst hF hG
  have c4 : w.cell? ⟨X, 4, none⟩ = some (.bool d.dead) := cell_blk hX rfl
  have f4 : w.frozen? ⟨X, 4, none⟩ = false := free_blk hX
  have c2 : w.cell? ⟨X, 2, none⟩ = some (.int .i64 d.armed) := cell_blk hX rfl
  have f2 : w.frozen? ⟨X, 2, none⟩ = false := free_blk hX
  have HB := hid (And.intro hX (And.intro hS (And.intro hR (And.intro hback (hd X (by simp))))))
  clear hX hS hR hback hd hFW H hi
  go_enter Tryz.func56, Tryz.ntmps56
  go_wp2
  go_end0
  obtain ⟨b1, b2, b3, hback, hdX⟩ := HB.out
  have hF : Fr [X] w ((w.setCell ⟨X, 4, none⟩ (.bool false)).setCell ⟨X, 2, none⟩ (.int .i64 0)) := ((Fr.refl _ _).setCell (.inl (by simp)) _).setCell (.inl (by simp)) _
  refine ⟨rfl, hback _ [X] _ _ inferInstance ⟨sv, rv, rfl, rfl, blk_setCell_at _ (blk_setCell_at _ b1), owns_keep b2 hF ?_, owns_keep b3 hF ?_⟩ hF (fun x hx => .inl hx) (fun x hx => .inr (.inl hx)) ?_⟩
  · intro q hq h; simp at h; subst h; exact hdX (List.mem_append.2 (.inl hq))
  · intro q hq h; simp at h; subst h; exact hdX (List.mem_append.2 (.inr hq))
  · intro x hx; simp at hx; subst hx; exact hdX

/-- Its list of raw writes is forgotten. -/
theorem st_ref_forget (H : St W w R) (i : Nat) {X : Nat} {d : DS} (hi : R[i]? = some (XkT X d)) : St W (w.setCell ⟨X, 1, none⟩ (.slice none 0 0)) (R.set i (XkT X d.forget)) := by
  obtain ⟨F, G, ⟨sv, rv, hF, hG, hX, hS, hR⟩, hFW, hd, hback⟩ := H.atG i hi
  subst hF hG
  have hdX := hd X (by simp)
  have hF : Fr [X] w (w.setCell ⟨X, 1, none⟩ (.slice none 0 0)) := (Fr.refl _ _).setCell (.inl (by simp)) _
  refine hback _ [X] (sv.ownBlock.toList ++ (Value.slice none 0 0).ownBlock.toList) _ inferInstance ⟨sv, .slice none 0 0, rfl, rfl, blk_setCell_at _ hX, owns_keep hS hF ?_, World.ownsRow_nil _ _ _ _⟩ hF (fun x hx => .inl hx) (fun x hx => .inr (.inl ?_)) (fun x hx hg => ?_)
  · intro q hq h; simp at h; subst h; exact hdX (List.mem_append.2 (.inl hq))
  · simp only [Value.ownBlock, Option.toList, List.append_nil] at hx; exact List.mem_append.2 (.inl hx)
  · simp only [Value.ownBlock, Option.toList, List.append_nil] at hg
    simp at hx; subst hx; exact hdX (List.mem_append.2 (.inl hg))

theorem st_ref_copy (H : St W w R) (i : Nat) {X : Nat} {d : DS} (hi : R[i]? = some (XkT X d)) :
    Calls Tryz.prog 17 #[.pointer (some ⟨X, 0, none⟩)] w fun e w' => ∃ Y, e = .returned (.pointer (some ⟨Y, 0, none⟩)) ∧ St W w' (R ++ [XkT Y d]) := by
  obtain ⟨F, G, ⟨sv, rv, hF, hG, hX, hS, hR⟩, hFW, hd, hback⟩ := H.atG i hi
  subst hF hG
  have c0 : w.cell? ⟨X, 0, none⟩ = some sv := cell_blk hX rfl
  have c1 : w.cell? ⟨X, 1, none⟩ = some rv := cell_blk hX rfl
  have c2 : w.cell? ⟨X, 2, none⟩ = some (.int .i64 d.armed) := cell_blk hX rfl
  have c3 : w.cell? ⟨X, 3, none⟩ = some (.int .i64 d.bytes) := cell_blk hX rfl
  have c4 : w.cell? ⟨X, 4, none⟩ = some (.bool d.dead) := cell_blk hX rfl
  obtain ⟨a1, n1, e1⟩ : ∃ a n, sv = .slice a d.sec.length n := by
    rcases owns_one hS with ⟨h, h0, _⟩ | ⟨g, cap, h, _⟩
    · exact ⟨none, 0, by rw [h, h0]⟩
    · exact ⟨_, _, h⟩
  obtain ⟨a2, n2, e2⟩ : ∃ a n, rv = .slice a d.raw.length n := by
    rcases owns_one hR with ⟨h, h0, _⟩ | ⟨g, cap, h, _⟩
    · exact ⟨none, 0, by rw [h, h0]⟩
    · exact ⟨_, _, h⟩
  subst e1 e2
  have HB := hid (And.intro hX (And.intro hS (And.intro hR H)))
  clear hX hS hR hback hd hFW H
  go_enter Tryz.func17, Tryz.ntmps17
  go_wp2
  go_ret
  obtain ⟨b1, b2, b3, H⟩ := HB.out
  refine ⟨_, rfl, H.newOf (F := [w.heap.size]) (G := (Value.slice a1 d.sec.length n1).ownBlock.toList ++ (Value.slice a2 d.raw.length n2).ownBlock.toList) ((Fr.refl _ _).alloc _) inferInstance ⟨_, _, rfl, rfl, blk_alloc_at _ _ _ rfl, owns_keep (S := []) b2 ((Fr.refl [] _).alloc _) (by simp), owns_keep (S := []) b3 ((Fr.refl [] _).alloc _) (by simp)⟩ (by simp) (fun x hx => .inr (.inr ⟨i, _, hi, ?_⟩)) ?_⟩
  · rintro F' G' ⟨sv', rv', rfl, rfl, hX', _, _⟩
    rw [b1] at hX'
    simp at hX'
    rw [← hX'.1, ← hX'.2]
    exact hx
  · intro x hx hg
    simp at hx; subst hx
    rcases List.mem_append.1 hg with h | h
    · exact absurd (owns_lt b2 _ h) (Nat.lt_irrefl _)
    · exact absurd (owns_lt b3 _ h) (Nat.lt_irrefl _)
end

end Go.Proofs.YthghnlgojmedgaaGreat
