/-
  Merged, in build order: WM WN WO WalTwins.
-/
import Derived.Test.YthghnlgojmedgaaM27
import Derived.Test.YthghnlgojmedgaaM19
/-
  wal: Room.
-/
namespace Go.Proofs.Ythghnlgojmedgaa
open Go.RowKit
set_option linter.unusedVariables false
set_option linter.unusedSimpArgs false

/-- The longest record that there is room for, from n down. -/
def rmL (left : Nat) : Nat → Nat
  | 0 => 0
  | n + 1 => if left < (nf (n + 1)).size + (n + 1) then rmL left n else n + 1
theorem rmL_spec (left : Nat) : ∀ n, rmL left n ≤ n ∧ (rmL left n = 0 ∨ (nf (rmL left n)).size + rmL left n ≤ left) ∧ ∀ k, rmL left n < k → k ≤ n → left < (nf k).size + k
  | 0 => ⟨Nat.le_refl _, .inl rfl, fun k h1 h2 => by have : rmL left 0 = 0 := rfl; omega⟩
  | n + 1 => by
    obtain ⟨h1, h2, h3⟩ := rmL_spec left n
    rw [rmL]
    split
    · rename_i h
      refine ⟨by omega, h2, fun k a b => ?_⟩
      by_cases hk : k = n + 1
      · subst hk; exact h
      · exact h3 k a (by omega)
    · exact ⟨Nat.le_refl _, .inr (by omega), fun k a b => by omega⟩
def WS.left (x : WS) (d : DS) : Nat := roomN d.sec.length - x.h.snap - x.h.log
def WS.room (x : WS) (d : DS) : Nat := rmL (x.left d) (min 2048 (x.left d))

section
variable {W : Base} {w : World} {R : List Thing}
set_option maxHeartbeats 800000 in
set_option maxRecDepth 100000 in
theorem st_wroom (H : St W w R) (i j : Nat) {B D : Nat} {x : WS} {d : DS} (hi : R[i]? = some (WlT B D x)) (hj : R[j]? = some (DkT D d)) (L : LgI x d) :
    Calls Try.prog 18 #[.pointer (some ⟨B, 0, none⟩)] w fun e w' => e = .returned (.int .i64 (x.room d : Nat)) ∧ St W w' R := by
  have hb := H.blk i hi
  have c0 := cell_blk (i := 0) hb rfl
  have c3 := cell_blk (i := 3) hb rfl
  have c4 := cell_blk (i := 4) hb rfl
  have hrm : ∀ w', St W w' R → Calls Try.prog 28 #[.pointer (some ⟨D, 0, none⟩)] w' fun e w'' => e = .returned (.int .i64 (roomN d.sec.length : Nat)) ∧ w' = w'' := fun w' h => by
    obtain ⟨F, hF⟩ := h.dk j hj
    exact wal_room w' F D d hF L.wf
  have HRM := hid hrm
  have h1 := roomN_le d.sec.length
  have h2 := L.room
  obtain ⟨lf, hlf⟩ : ∃ lf, x.left d = lf := ⟨_, rfl⟩
  have hle : lf ≤ 65536 := by rw [← hlf]; unfold WS.left; omega
  have e1 : IntKind.i64.wrap ((roomN d.sec.length : Int) - x.h.snap) = (roomN d.sec.length : Int) - x.h.snap := IntWalk.i64_in _ (by omega)
  have e2 : IntKind.i64.wrap ((roomN d.sec.length : Int) - x.h.snap - x.h.log) = (roomN d.sec.length : Int) - x.h.snap - x.h.log := IntWalk.i64_in _ (by omega)
  have e3 : (roomN d.sec.length : Int) - x.h.snap - x.h.log = (lf : Int) := by rw [← hlf]; unfold WS.left; omega
  obtain ⟨m0, hm0⟩ : ∃ m0, min 2048 lf = m0 := ⟨_, rfl⟩
  have e4 : min (2048 : Int) (lf : Int) = (m0 : Int) := by rw [← hm0]; omega
  have HRES := hid (show x.room d = rmL lf m0 by unfold WS.room; rw [hlf, hm0])
  rw [HRES.out]
  have HH := hid H
  have HE := hid (And.intro e1 (And.intro e2 (And.intro e3 (And.intro e4 (And.intro hle (show m0 ≤ 2048 by omega))))))
  clear H hb hi hj L hrm h1 h2 hlf hle e1 e2 e3 e4 hm0
  go_enter Try.func18, Try.ntmps18
  go_wp2_with fail
  go_upto_region 1 with (fail)
  go_cut [3] from 5 (fun s3 wx => s3 = .int .i64 lf ∧ ∃ nq, wx = w.drewN nq)
  case first =>
    have e1 := HE.out.1
    have e2 := HE.out.2.1
    go_quiet ((go_at_call 28; exact quiet_mine (HRM.out _ (HH.out.drewN _))))
    go_wp2_with fail
    go_meet
    exact ⟨congrArg (Value.int .i64) HE.out.2.2.1, _, rfl⟩
  obtain ⟨rfl, nq, rfl⟩ := hcut
  have HS := hid (HH.out.drewN nq)
  generalize w.drewN nq = w1 at HS ⊢
  clear c0 c3 c4
  have e4 := HE.out.2.2.2.1
  have HNUM := hid (fun (w : World) (n : Nat) (h : n ≤ 2048) => pack_num w n (by omega))
  go_wp2_with fail
  clear e4
  go_loopw [4] (fun nv wr => ∃ n : Nat, n ≤ 2048 ∧ nv = .int .i64 n ∧ Hid (rmL lf n = rmL lf m0) ∧ St W wr R) (fun nv _ => (intOf nv).toNat)
  case atStart => exact ⟨m0, HE.out.2.2.2.2.2, rfl, hid rfl, HS.out⟩
  case round =>
    obtain ⟨n, hn, rfl, hI, hS⟩ := hrel
    have HSS := hid hS
    have hmx : max (0 : Int) (n : Int) = (n : Int) := by omega
    have HMX := hid hmx
    clear hS hmx
    cases n with
    | zero =>
      have hI0 : rmL lf m0 = 0 := hI.out.symm
      have HI0 := hid hI0
      clear hI0 hI
      have b1 : decide ((0 : Int) < ((0 : Nat) : Int)) = false := by decide
      go_wp2_with fail
      go_ret
      rw [HI0.out]
      exact ⟨rfl, HSS.out⟩
    | succ q =>
      have hpos : (0 : Int) < ((q + 1 : Nat) : Int) := by omega
      have hcv : IntKind.u64.wrap ((q + 1 : Nat) : Int) = ((q + 1 : Nat) : Int) := u64_nat _ (by omega)
      have HP := hid (HNUM.out wr (q + 1) hn)
      have hsz := nf_two (n := q + 1) hn
      obtain ⟨nb, hnb⟩ : ∃ nb, nf (q + 1) = nb := ⟨_, rfl⟩
      rw [hnb] at HP hsz
      obtain ⟨m, hm⟩ : ∃ m, q + 1 = m := ⟨_, rfl⟩
      rw [hm] at HP hpos hcv HMX ⊢
      have hwn : IntKind.i64.wrap ((nb.size : Int) + m) = (nb.size : Int) + m := IntWalk.i64_in _ (by omega)
      have hwm : IntKind.i64.wrap ((m : Int) - 1) = (m : Int) - 1 := IntWalk.i64_in _ (by omega)
      have hstep : rmL lf m0 = if lf < nb.size + m then rmL lf q else m := by rw [← hI.out, ← hm, rmL, hnb]
      have HST := hid (And.intro hstep hm)
      have hn2 := hid hn
      have HNB := hid hnb
      clear hnb hstep hm hI hn hsz
      go_wp2_with fail
      refine HP.out.mono ?_
      rintro e w3 ⟨rfl, hF3⟩
      have HS3 := hid (HSS.out.same hF3)
      clear hF3
      by_cases hlt : lf < nb.size + m
      · have b1 : decide (lf < nb.size + m) = true := decide_eq_true hlt
        have b2 : decide ((lf : Int) < (nb.size : Int) + m) = true := decide_eq_true (by omega)
        have HR := hid (show rmL lf q = rmL lf m0 by rw [HST.out.1, if_pos hlt])
        clear hlt
        go_wp2_with fail
        go_roundw
        case rel => exact ⟨q, by have := hn2.out; omega, by have := HST.out.2; exact congrArg (Value.int .i64) (by omega), HR, HS3.out⟩
        case measure => have := HST.out.2; simp [intOf]; omega
      · have b1 : decide (lf < nb.size + m) = false := decide_eq_false hlt
        have b2 : decide ((lf : Int) < (nb.size : Int) + m) = false := decide_eq_false (by omega)
        have HR := hid (show rmL lf m0 = m by rw [HST.out.1, if_neg hlt])
        have hmx := HMX.out
        clear hlt
        go_wp2_with fail
        go_ret
        rw [HR.out]
        exact ⟨by first | rfl | exact congrArg (fun z => Ending.returned (.int .i64 z)) hmx, HS3.out⟩
end
end Go.Proofs.Ythghnlgojmedgaa

/-
  The laws' helpers of layer 9: fixed, laid.
-/
namespace Go.Proofs.Ythghnlgojmedgaa
open Go.RowKit
set_option linter.unusedVariables false
set_option linter.unusedSimpArgs false

theorem nf_big {k : Nat} (h : 128 ≤ k) (h2 : k ≤ 2048) : (nf k).size = 2 := by
  rw [← bl_len, show bl (nf k) = Lib.uvarint k from bl_mk _, Lib.uvarint_big h, Lib.uvarint_small (by omega)]; rfl
theorem rm_256 : rmL 256 256 = 254 := by
  obtain ⟨h1, h2, h3⟩ := rmL_spec 256 256
  generalize rmL 256 256 = m at h1 h2 h3 ⊢
  by_cases ha : m < 254
  · have := h3 254 ha (by decide)
    rw [nf_big (by decide) (by decide)] at this
    omega
  · rcases h2 with h2 | h2
    · omega
    · rw [nf_big (by omega) (by omega)] at h2; omega
theorem log_append_ok {x : WS} {d : DS} {s : ByteArray} {l : List ByteArray} (L : Log x d s l) (r : ByteArray) (ha : d.armed = 0) (hr : okRec r) (hroom : x.h.snap + x.h.log + (tf r).size ≤ roomN d.sec.length) (hn : x.h.number < 1099511627776) : (x.append d r).1 = 0 := by
  rcases log_append L r ha with ⟨h1, h2, h3⟩ | ⟨h1, _⟩
  · exfalso
    revert h1
    have hdead : ¬ (x.dead = true ∨ d.dead = true) := by rw [L.alive, L.on]; simp
    have hP : Pl d.sec (x.nxt (tf r).size).half (x.h.snap + x.h.log) (bl (tf r)) := log_pl L (by omega)
    have hok := L.cnt.fd
    obtain ⟨c1, _⟩ := call_done (s' := s) (l' := l ++ [r]) (h' := x.nxt (tf r).size) (n' := x.n + 1) L hP (.inl ha) (by omega) rfl hok.ok.snap1 (by show x.h.snap + (x.h.log + (tf r).size) = _; omega)
      (by show hTake d.sec x.h.half _ ++ _ = _; rw [hok.all, frs_snoc, List.append_assoc]) hok.size.1 (okRecs_snoc hok.recs hr) (by rw [L.n, List.length_append]; rfl)
    unfold WS.append
    rw [if_neg hdead, if_neg (by have := hr.1; have := hr.2; omega), if_neg (by omega), if_neg (by omega), if_pos c1]
    simp
  · exact h1

section
variable {W : Base} {w : World} {R : List Thing}

theorem st_dnew (H : St W w R) (n : Nat) (h1 : 1 ≤ n) (h2 : n ≤ 1026) :
    Calls Try.prog 9 #[.int .i64 n] w fun e w' => ∃ D, e = .returned (.tuple #[.pointer (some ⟨D, 0, none⟩), .int .i64 0]) ∧ St W w' (R ++ [DkT D (DS.new n)]) := by
  refine (disk_new_ok w n h1 h2).mono ?_
  rintro e w' ⟨D, F, rfl, hF, hD, hb⟩
  exact ⟨D, rfl, H.new hF inferInstance hD hb⟩
theorem Log.eq {x : WS} {d : DS} {s : ByteArray} {l : List ByteArray} (L : Log x d s l) : (⟨x.h, l.length, false⟩ : WS) = x := by
  have h1 := L.n
  have h2 := L.alive
  cases x
  simp_all
/-- Open of a log's disk. -/
theorem st_lopen (H : St W w R) (i : Nat) {D : Nat} {x : WS} {d : DS} {s : ByteArray} {l : List ByteArray} (hi : R[i]? = some (DkT D d)) (hw : d.wf) (hd : d.dead = false) (hf : roomN d.sec.length ≠ 0) {h : WH} (C : Cnt d.sec h s l) :
    Calls Try.prog 11 #[.pointer (some ⟨D, 0, none⟩)] w fun e w' => ∃ B p, e = .returned (.tuple #[.pointer (some ⟨B, 0, none⟩), .string s, .slice p l.length l.length, .int .i64 0]) ∧
      St W w' (R ++ [WvT 9 1 p l.length (strV l), WlT B D ⟨h, l.length, false⟩]) := by
  refine (st_wopen H i hi hw).mono ?_
  rintro e w' (⟨c, hc, rfl, hS⟩ | ⟨h1, h2, g, s', l', hg, B, p, rfl, hS⟩)
  · exfalso
    rcases hc with ⟨hc, _⟩ | ⟨_, hc, _⟩ | ⟨_, _, hc, _⟩
    · rw [hd] at hc; cases hc
    · exact hf hc
    · exact hc _ (by omega) _ _ _ C.fd
  · obtain ⟨rfl, rfl, rfl⟩ := hg.uniq C
    exact ⟨B, p, rfl, hS⟩

set_option maxHeartbeats 800000 in
set_option maxRecDepth 100000 in
theorem st_laid (H : St W w R) (half : Nat) (h1 : 1 ≤ half) (h2 : half ≤ 512) :
    Calls Try.prog 16 #[.int .i64 half] w fun e w' => ∃ (D B : Nat) (d : DS), e = .returned (.tuple #[.pointer (some ⟨D, 0, none⟩), .pointer (some ⟨B, 0, none⟩)]) ∧
      St W w' (R ++ [DkT D d, WlT B D ⟨fmtH, 0, false⟩]) ∧ Hid (Log ⟨fmtH, 0, false⟩ d ⟨#[]⟩ [] ∧ d.armed = 0 ∧ d.raw.length = 1 ∧ d.sec.length = 2 + 2 * half ∧ sAt d.sec 0 = zeroSec) := by
  have hnl := new_log (n := 2 + 2 * half) (by omega) (by omega) (by omega)
  have HN := hid (st_dnew H (2 + 2 * half) (by omega) (by omega))
  rw [show ((2 + 2 * half : Nat) : Int) = 2 + 2 * (half : Int) by omega] at HN
  have hf0 : roomN (DS.new (2 + 2 * half)).sec.length ≠ 0 := by
    rw [show (DS.new (2 + 2 * half)).sec.length = 2 + 2 * half by simp [DS.new]]; unfold roomN; rw [if_neg (by omega)]; omega
  have hw0 := new_wf (n := 2 + 2 * half) (by omega) (by omega)
  have hno := new_none (n := 2 + 2 * half) (by omega)
  have HFM := hid (fun (w' : World) (D : Nat) (h : St W w' (R ++ [DkT D (DS.new (2 + 2 * half))])) => st_wformat h (R.length + 0) (by rw [get_behind]; rfl) hw0 rfl hf0 (by show (0 + 1) * 24 ≤ _; decide))
  have HNO := hid hno
  obtain ⟨z, hz⟩ : ∃ z, ((DS.new (2 + 2 * half)).write 1 (secB fmtH)).1 = z := ⟨_, rfl⟩
  obtain ⟨d1, hd1⟩ : ∃ z, ((DS.new (2 + 2 * half)).write 1 (secB fmtH)).2 = z := ⟨_, rfl⟩
  rw [hz, hd1] at hnl HFM
  obtain ⟨rfl, hL, ha, hr, hs, hz0⟩ := hnl
  have HL := hid (And.intro hL (And.intro ha (And.intro hr (And.intro hs hz0))))
  clear H hz hd1 hL ha hr hs hz0 hf0 hw0 hno
  go_enter Try.func16, Try.ntmps16
  go_wp2_with fail
  refine HN.out.mono ?_
  rintro e w1 ⟨D, rfl, hS1⟩
  have HF1 := hid (HFM.out w1 D hS1)
  clear hS1
  go_wp2_with fail
  refine HF1.out.mono ?_
  rintro e w2 (⟨⟨h, s, l, hc⟩, _⟩ | ⟨_, rfl, hS2⟩)
  · exact absurd hc.fd (HNO.out _ (by omega) _ _ _)
  have hS2 : St W w2 (R ++ [DkT D d1]) := by
    rw [List.set_append_right _ _ (by omega), Nat.add_sub_cancel_left] at hS2; exact hS2
  have HO := hid (st_lopen (x := ⟨fmtH, 0, false⟩) hS2 (R.length + 0) (by rw [get_behind]; rfl) HL.out.1.wf HL.out.1.on HL.out.1.fit HL.out.1.cnt)
  clear hS2 HF1
  go_wp2_with fail
  refine HO.out.mono ?_
  rintro e w3 ⟨B, p, rfl, hS3⟩
  have HS3 := hid hS3
  clear hS3 HO
  go_wp2_with fail
  go_ret2
  refine ⟨D, B, d1, rfl, ?_, HL⟩
  have h := HS3.out
  rw [List.append_assoc] at h
  refine h.sub (B := [WvT 9 1 p ([] : List ByteArray).length (strV [])]) ?_
  rw [List.append_assoc]
  exact List.Perm.append_left _ (List.Perm.cons _ (List.Perm.swap _ _ _))
end
end Go.Proofs.Ythghnlgojmedgaa

/-
  The law's helper of layer 9: fixed.
-/
namespace Go.Proofs.Ythghnlgojmedgaa
open Go.RowKit
set_option linter.unusedVariables false
set_option linter.unusedSimpArgs false

section
variable {W : Base} {w : World} {R : List Thing}
def abS : ByteArray := ⟨#[97, 98]⟩
theorem tf_ab : (tf abS).size = 3 := by
  rw [tf_size, show abS.size = 2 from rfl]
  rw [← bl_len, show bl (nf 2) = Lib.uvarint 2 from bl_mk _, Lib.uvarint_small (by decide)]; rfl

set_option maxHeartbeats 1600000 in
set_option maxRecDepth 100000 in
theorem st_fixed09 (H : St W w R) :
    Calls Try.prog 15 #[] w fun e w' => e = .returned (.bool true) ∧ St W w' R := by
  have hnl := new_log (n := 6) (by decide) (by decide) (by decide)
  have HN := hid (st_dnew H 6 (by decide) (by decide))
  have hf0 : roomN (DS.new 6).sec.length ≠ 0 := by
    rw [show (DS.new 6).sec.length = 6 by simp [DS.new]]; decide
  have hw0 := new_wf (n := 6) (by decide) (by decide)
  have hno := new_none (n := 6) (by decide)
  have HFM := hid (fun (w' : World) (D : Nat) (h : St W w' (R ++ [DkT D (DS.new 6)])) => st_wformat h (R.length + 0) (by rw [get_behind]; rfl) hw0 rfl hf0 (by show (0 + 1) * 24 ≤ _; decide))
  have HNO := hid hno
  obtain ⟨z, hz⟩ : ∃ z, ((DS.new 6).write 1 (secB fmtH)).1 = z := ⟨_, rfl⟩
  obtain ⟨d1, hd1⟩ : ∃ z, ((DS.new 6).write 1 (secB fmtH)).2 = z := ⟨_, rfl⟩
  rw [hz, hd1] at hnl HFM
  obtain ⟨rfl, hL, ha, hr, hs, hz0⟩ := hnl
  have HL := hid (And.intro hL (And.intro ha (And.intro hr (And.intro hs hz0))))
  clear H hz hd1 hL ha hr hs hz0 hf0 hw0 hno
  go_enter Try.func15, Try.ntmps15
  go_wp2_with fail
  refine HN.out.mono ?_
  rintro e w1 ⟨D, rfl, hS1⟩
  have HF1 := hid (HFM.out w1 D hS1)
  clear hS1
  go_wp2_with fail
  refine HF1.out.mono ?_
  rintro e w2 (⟨⟨h, s, l, hc⟩, _⟩ | ⟨_, rfl, hS2⟩)
  · exact absurd hc.fd (HNO.out _ (by omega) _ _ _)
  have hS2 : St W w2 (R ++ [DkT D d1]) := by
    rw [List.set_append_right _ _ (by omega), Nat.add_sub_cancel_left] at hS2; exact hS2
  have HF2 := hid (st_wformat hS2 (R.length + 0) (by rw [get_behind]; rfl) HL.out.1.wf HL.out.1.on HL.out.1.fit (by rw [HL.out.2.2.1]; decide))
  clear HF1 hS2
  go_wp2_with fail
  refine HF2.out.mono ?_
  rintro e w3 (⟨_, rfl, hS3⟩ | ⟨hno, _⟩)
  rotate_left
  · exact absurd HL.out.1.cnt.fd (hno _ (by omega) _ _ _)
  have HO := hid (st_lopen (x := ⟨fmtH, 0, false⟩) hS3 (R.length + 0) (by rw [get_behind]; rfl) HL.out.1.wf HL.out.1.on HL.out.1.fit HL.out.1.cnt)
  clear HF2 hS3
  go_wp2_with fail
  refine HO.out.mono ?_
  rintro e w4 ⟨B, p, rfl, hS4⟩
  have hS4 : St W w4 (R ++ [DkT D d1, WlT B D ⟨fmtH, 0, false⟩]) := by
    rw [List.append_assoc] at hS4
    refine hS4.sub (B := [WvT 9 1 p ([] : List ByteArray).length (strV [])]) ?_
    rw [List.append_assoc]
    exact List.Perm.append_left _ (List.Perm.cons _ (List.Perm.swap _ _ _))
  have hroom : (⟨fmtH, 0, false⟩ : WS).room d1 = 254 := by
    unfold WS.room WS.left
    rw [HL.out.2.2.2.1]
    exact rm_256
  have hRM := st_wroom hS4 (R.length + 1) (R.length + 0) (B := B) (x := ⟨fmtH, 0, false⟩) (by rw [get_behind]; rfl) (by rw [get_behind]; rfl) HL.out.1.i
  rw [hroom] at hRM
  have HRM := hid hRM
  clear HO hS4 hRM hroom
  go_wp2_with fail
  refine HRM.out.mono ?_
  rintro e w5 ⟨rfl, hS5⟩
  have hap := log_append HL.out.1 abS HL.out.2.1
  have hap1 := log_append_ok HL.out.1 abS HL.out.2.1 ⟨by decide, by decide⟩ (by rw [tf_ab, HL.out.2.2.2.1]; decide) (by decide)
  have hAP := st_wappend hS5 (R.length + 1) (R.length + 0) (B := B) (D := D) (x := ⟨fmtH, 0, false⟩) (by rw [get_behind]; rfl) (by rw [get_behind]; rfl) (by omega) HL.out.1.i abS (by decide) (by rw [HL.out.2.2.1]; decide)
  rw [hap1] at hAP
  rcases hap with ⟨hbad, _⟩ | ⟨_, _, hL2, _⟩
  · exact absurd hap1 hbad
  obtain ⟨x2, hx2⟩ : ∃ x2, ((⟨fmtH, 0, false⟩ : WS).append d1 abS).2.1 = x2 := ⟨_, rfl⟩
  obtain ⟨d2, hd2⟩ : ∃ d2, ((⟨fmtH, 0, false⟩ : WS).append d1 abS).2.2 = d2 := ⟨_, rfl⟩
  rw [hx2, hd2] at hAP hL2
  have HAP := hid hAP
  have HL2 := hid hL2
  clear hAP hL2 hx2 hd2 hap1 hS5 HRM
  have hab : abS = ⟨#[97, 98]⟩ := rfl
  go_wp2_with fail
  refine HAP.out.mono ?_
  rintro e w6 ⟨rfl, hS6⟩
  have hS6 : St W w6 (R ++ [DkT D d2, WlT B D x2]) := by
    rw [List.set_append_right _ _ (by omega), List.set_append_right _ _ (by omega), Nat.add_sub_cancel_left, Nat.add_sub_cancel_left] at hS6; exact hS6
  have HO := hid (st_lopen (x := x2) hS6 (R.length + 0) (by rw [get_behind]; rfl) HL2.out.wf HL2.out.on HL2.out.fit HL2.out.cnt)
  clear hS6 HAP
  go_wp2_with fail
  refine HO.out.mono ?_
  rintro e w7 ⟨B2, p2, rfl, hS7⟩
  have hwv := hS7.wv ((R ++ [DkT D d2, WlT B D x2]).length + 0) (e := 9) (sz := 1) (n := ([] ++ [abS] : List ByteArray).length) (a := p2) (V := strV ([] ++ [abS])) (by rw [get_behind]; rfl)
  obtain ⟨g, rfl⟩ := hwv.sm (show 0 < ([] ++ [abS] : List ByteArray).length by decide)
  have hc := hwv.cell 0 (show 0 < ([] ++ [abS] : List ByteArray).length * 1 by decide)
  have hc2 : w7.cell? ⟨g, 0, none⟩ = some (.string abS) := hc
  have HS7 := hid hS7.drop
  have hlen : ([] ++ [abS] : List ByteArray).length = 1 := rfl
  have hbe : (abS.toList == (⟨#[97, 98]⟩ : ByteArray).toList) = true := by rw [show abS = ⟨#[97, 98]⟩ from rfl]; exact beq_self_eq_true _
  clear hwv hc HO hS7
  rw [hlen]
  go_wp2_with fail
  go_ret
  exact ⟨by simp, HS7.out.drop⟩
end
end Go.Proofs.Ythghnlgojmedgaa

/-
  The walk of WalTwins.
-/
namespace Go.Proofs.Ythghnlgojmedgaa
open Go.RowKit
set_option linter.unusedVariables false
set_option linter.unusedSimpArgs false

theorem append_number {x : WS} {d : DS} {r : ByteArray} (h : (x.append d r).1 = 0) : (x.append d r).2.1.h.number = x.h.number + 1 := by
  revert h
  unfold WS.append
  split
  · intro h; cases h
  split
  · intro h; cases h
  split
  · intro h; cases h
  split
  · intro h; cases h
  split
  · intro _; rfl
  · intro h; cases h
theorem log_snapshot_ok {x : WS} {d : DS} {s : ByteArray} {l : List ByteArray} (L : Log x d s l) (t : ByteArray) (ha : d.armed = 0) (h1 : t.size ≤ 17000) (h2 : t.size ≤ roomN d.sec.length) (hn : x.h.number < 1099511627776) : (x.snapshot d t).1 = 0 := by
  have hdead : ¬ (x.dead = true ∨ d.dead = true) := by rw [L.alive, L.on]; simp
  have hh := L.i.half1
  have hP : Pl d.sec (x.snapH t.size).half 0 (bl t) := L.i.pl (by show 1 - x.h.half ≤ 1; omega) (by omega)
  obtain ⟨c1, _⟩ := call_done (s' := t) (l' := []) (h' := x.snapH t.size) (n' := 0) L hP (.inl ha) (by omega) rfl (by show t.size ≤ _; omega) (by show t.size + 0 = 0 + t.size; omega)
    (by rw [hTake_zero]; simp [frs]) rfl (fun _ h => by cases h) rfl
  unfold WS.snapshot
  rw [if_neg hdead, if_neg (by omega), if_neg (by omega), if_pos c1]

/-- A log that was only appended to. -/
structure Apd (x : WS) (d : DS) (l : List ByteArray) : Prop where
  log : Log x d ⟨#[]⟩ l
  armed : d.armed = 0
  raw : d.raw.length ≤ 600 * l.length + 1
  num : x.h.number = l.length + 1
theorem Apd.append {x : WS} {d : DS} {l : List ByteArray} (A : Apd x d l) (r : ByteArray) : ∃ l', Apd (x.append d r).2.1 (x.append d r).2.2 l' := by
  rcases log_append A.log r A.armed with ⟨_, _, h⟩ | ⟨h1, _, h2, h3, h4, _⟩
  · rw [h]; exact ⟨l, A⟩
  · refine ⟨l ++ [r], h2, h3, ?_, ?_⟩
    · have := A.raw; rw [List.length_append, List.length_singleton]; omega
    · rw [append_number h1, A.num, List.length_append]; rfl
theorem Apd.rawOk {x : WS} {d : DS} {l : List ByteArray} (A : Apd x d l) : (d.raw.length + 2000) * 24 ≤ 140737488355328 := by
  have := A.raw; have := A.log.len.1; omega

def sS : ByteArray := ⟨#[115]⟩
set_option maxHeartbeats 1600000 in
set_option maxRecDepth 100000 in
theorem waltwins_any (w : World) (half : Int) (hl1 : -9223372036854775808 ≤ half) (hl2 : half ≤ 9223372036854775807) (a : Option Addr) (n cap : Nat) (ss : List ByteArray) (hn : ss.length = n) (hI : In w 1 a n cap (strV ss)) (hsz : ∀ i, i < n → (sAt ss i).size ≤ 140737488351232) :
    Calls Try.prog 7 #[.int .i64 half, .slice a n cap] w fun e w' => e = .returned (.bool true) ∧ Fr [] w w' := by
  have H := St.refl w
  have HI := hid hI
  have HSZ := hid hsz
  have hm := hI.max
  clear hI hsz
  by_cases hbad : half < 1 ∨ 512 < half
  · have HF := hid (st_fixed09 H)
    clear H
    by_cases h1 : half < 1
    · clear hbad
      go_enter Try.func7, Try.ntmps7
      go_wp2_with fail
      refine HF.out.mono ?_
      rintro e w1 ⟨rfl, H⟩
      go_wp2_with fail
      go_ret
      exact ⟨rfl, H.fr⟩
    · have h2 : 512 < half := by omega
      clear hbad
      go_enter Try.func7, Try.ntmps7
      go_wp2_with fail
      refine HF.out.mono ?_
      rintro e w1 ⟨rfl, H⟩
      go_wp2_with fail
      go_ret
      exact ⟨rfl, H.fr⟩
  obtain ⟨hf, rfl⟩ : ∃ hf : Nat, half = hf := ⟨half.toNat, by omega⟩
  have h1 : 1 ≤ hf := by omega
  have h2 : hf ≤ 512 := by omega
  have HL := hid (st_laid H hf h1 h2)
  have b1 : ¬ (hf : Int) < 1 := by omega
  have b2 : ¬ (512 : Int) < hf := by omega
  have HMX := hid (And.intro hm hn)
  clear H hbad hl1 hl2 h1 h2 hm hn
  go_enter Try.func7, Try.ntmps7
  go_wp2_with fail
  refine HL.out.mono ?_
  rintro e w1 ⟨D, B, d0, rfl, H, hl⟩
  have HS := hid H
  have HA := hid (show Apd ⟨fmtH, 0, false⟩ d0 [] from ⟨hl.out.1, hl.out.2.1, by rw [hl.out.2.2.1]; decide, rfl⟩)
  clear H hl HL b1 b2
  go_wp2_with fail
  go_loopw [7] (fun iv wr => ∃ (k : Nat) (x : WS) (d : DS) (l : List ByteArray), k ≤ n ∧ iv = .int .i64 k ∧ Hid (Apd x d l) ∧ St (.of w) wr [DkT D d, WlT B D x]) (fun iv _ => n - (intOf iv).toNat)
  case atStart => exact ⟨0, _, _, _, Nat.zero_le _, rfl, HA, by simpa using HS.out⟩
  case round =>
    obtain ⟨k, x, d, l, hk, rfl, hA, H⟩ := hrel
    by_cases hlt : k < n
    · obtain ⟨b, off, rfl⟩ := HI.out.sm (by omega)
      obtain ⟨r, hr⟩ : ∃ r, sAt ss k = r := ⟨_, rfl⟩
      have hcell : ∀ w', St (.of w) w' ([] : List Thing) ∨ Fr [] w w' → w'.cell? ⟨b, off + k, none⟩ = some (.string r) := fun w' h => by
        have hF : Fr [] w w' := by rcases h with h | h; exact h.fr; exact h
        have h1 := (HI.out.fr0 hF).cell b off rfl k (by omega)
        rw [← hr]; exact h1
      have hrs := HSZ.out k hlt
      rw [hr] at hrs
      have HC := hid hcell
      have HR := hid hrs
      have HLT := hid (And.intro hlt hk)
      have hltI : (k : Int) < n := by omega
      have hwk : IntKind.i64.wrap ((k : Int) + 1) = (k : Int) + 1 := IntWalk.i64_in _ (by have := HMX.out.1; omega)
      clear hcell hrs hr HS
      have HK := hid hwk
      have HCL := hid (st_clone H 0 rfl hA.out.log.wf (by have := hA.out.rawOk; omega))
      clear hwk hlt hk H
      go_wp2_with fail
      refine HCL.out.mono ?_
      rintro e w2 ⟨C, rfl, H⟩
      try simp only [List.nil_append, List.cons_append, List.set_cons_zero, List.set_cons_succ] at H
      have HWC := hid (st_wclone H 1 rfl C)
      clear H HCL
      go_wp2_with fail
      refine HWC.out.mono ?_
      rintro e w3 ⟨N, rfl, H⟩
      try simp only [List.nil_append, List.cons_append, List.set_cons_zero, List.set_cons_succ] at H
      obtain ⟨z, hz⟩ : ∃ z, (x.append d r).1 = z := ⟨_, rfl⟩
      obtain ⟨x', hx'⟩ : ∃ y, (x.append d r).2.1 = y := ⟨_, rfl⟩
      obtain ⟨d', hd'⟩ : ∃ y, (x.append d r).2.2 = y := ⟨_, rfl⟩
      obtain ⟨l', hA'⟩ := hA.out.append r
      rw [hx', hd'] at hA'
      have hap : ∀ (w' : World) (RR : List Thing) (i j B D : Nat), St (.of w) w' RR → RR[i]? = some (WlT B D x) → RR[j]? = some (DkT D d) → i ≠ j → Calls Try.prog 12 #[.pointer (some ⟨B, 0, none⟩), .string r] w' fun e w'' => e = .returned (.int .i64 z) ∧ St (.of w) w'' ((RR.set i (WlT B D x')).set j (DkT D d')) := fun w' RR i j B D h hi hj hij => by
        have h2 := st_wappend h i j hi hj hij hA.out.log.i r (by have := HR.out; omega) hA.out.rawOk
        rw [hz, hx', hd'] at h2
        exact h2
      have HAPP := hid hap
      have HA' := hid hA'
      clear hap hz hx' hd' hA'
      have c1 := HC.out w3 (.inr H.fr)
      have HH := hid H
      clear H HWC
      go_wp2_with fail
      refine (HAPP.out w3 _ 1 0 B D HH.out rfl rfl (by decide)).mono ?_
      rintro e w4 ⟨rfl, H⟩
      try simp only [List.nil_append, List.cons_append, List.set_cons_zero, List.set_cons_succ] at H
      have c2 := HC.out w4 (.inr H.fr)
      have HH2 := hid H
      clear H c1 HH
      go_wp2_with fail
      refine (HAPP.out w4 _ 3 2 N C HH2.out rfl rfl (by decide)).mono ?_
      rintro e w5 ⟨rfl, H⟩
      try simp only [List.nil_append, List.cons_append, List.set_cons_zero, List.set_cons_succ] at H
      have HK1 := hid (st_sectors H 2 rfl HA'.out.log.wf)
      clear H c2 HH2
      go_wp2_with fail
      refine HK1.out.mono ?_
      rintro e w6 ⟨g1, p1, rfl, H⟩
      try simp only [List.nil_append, List.cons_append, List.set_cons_zero, List.set_cons_succ] at H
      have HK2 := hid (st_sectors H 0 rfl HA'.out.log.wf)
      clear H HK1
      go_wp2_with fail
      refine HK2.out.mono ?_
      rintro e w7 ⟨g2, p2, rfl, H⟩
      try simp only [List.nil_append, List.cons_append, List.set_cons_zero, List.set_cons_succ] at H
      have HK3 := hid (st_same H (H.in_ 4 rfl) (H.in_ 5 rfl))
      clear H HK2
      go_wp2_with fail
      refine HK3.out.mono ?_
      rintro e w8 ⟨rfl, H⟩
      have HK4 := hid (st_sectors H 0 rfl HA'.out.log.wf)
      clear H HK3
      go_wp2_with fail
      refine HK4.out.mono ?_
      rintro e w9 ⟨g3, p3, rfl, H⟩
      try simp only [List.nil_append, List.cons_append, List.set_cons_zero, List.set_cons_succ] at H
      have hsn := st_wsnapshot H 3 2 (B := N) (D := C) rfl rfl (by decide) HA'.out.log.i sS (by decide) HA'.out.rawOk
      have hsok := log_snapshot_ok HA'.out.log sS HA'.out.armed (by decide) (by have := HA'.out.log.fit; have h2 := roomN_ok this; rw [h2.2.2.2]; show 1 ≤ _; omega) (by rw [HA'.out.num]; have := HA'.out.log.len.1; omega)
      have hsn0 : (x'.snapshot d' sS).2.1.n = 0 := by
        rcases log_snapshot HA'.out.log sS HA'.out.armed with ⟨h, _⟩ | ⟨_, _, _, _, h, _⟩
        · exact absurd hsok h
        · exact h
      rw [hsok] at hsn
      obtain ⟨x3, hx3⟩ : ∃ y, (x'.snapshot d' sS).2.1 = y := ⟨_, rfl⟩
      obtain ⟨d3, hd3⟩ : ∃ y, (x'.snapshot d' sS).2.2 = y := ⟨_, rfl⟩
      rw [hx3, hd3] at hsn
      rw [hx3] at hsn0
      have HSN := hid hsn
      have HS0 := hid hsn0
      clear hsn hsn0 hsok hx3 hd3 H HK4
      go_wp2_with fail
      refine HSN.out.mono ?_
      rintro e w10 ⟨rfl, H⟩
      try simp only [List.nil_append, List.cons_append, List.set_cons_zero, List.set_cons_succ] at H
      have HK5 := hid (st_sectors H 0 rfl HA'.out.log.wf)
      clear H HSN
      go_wp2_with fail
      refine HK5.out.mono ?_
      rintro e w11 ⟨g4, p4, rfl, H⟩
      try simp only [List.nil_append, List.cons_append, List.set_cons_zero, List.set_cons_succ] at H
      have HK6 := hid (st_same H (H.in_ 7 rfl) (H.in_ 6 rfl))
      clear H HK5
      go_wp2_with fail
      refine HK6.out.mono ?_
      rintro e w12 ⟨rfl, H⟩
      have hrc := st_wrecords H 3 (B := N) (D := C) (x := x3) rfl
      rw [HS0.out] at hrc
      have HRC := hid hrc
      clear hrc H HK6
      go_wp2_with fail
      refine HRC.out.mono ?_
      rintro e w13 ⟨rfl, H⟩
      have HEND := hid (H.take 2)
      clear H HRC
      have hwk := HK.out
      go_wp2_with fail
      go_roundw
      case rel => exact ⟨k + 1, x', d', l', HLT.out.1, by go_num, HA', HEND.out⟩
      case measure => have := HLT.out.1; simp [intOf]; omega
    · obtain rfl : k = n := by omega
      have HF := hid (st_fixed09 H)
      clear H HS
      go_wp2_with fail
      refine HF.out.mono ?_
      rintro e w2 ⟨rfl, H⟩
      have hfr := hid H.fr
      clear H
      go_wp2_with fail
      go_ret
      exact ⟨rfl, hfr.out⟩

theorem waltwins_walk (w : World) (half : Int) (h1 : -9223372036854775808 ≤ half) (h2 : half ≤ 9223372036854775807) (a : Option Addr) (n cap : Nat) (V : Nat → Value) (hS : SlIn w 1 16 a n cap V) (hq : ∀ i, i < n → Str (V (i * 1))) :
    Calls Try.prog 7 #[.int .i64 half, .slice a n cap] w fun e w' => e = .returned (.bool true) ∧ Fr [] w w' := by
  obtain ⟨ss, hl, hI, _, hsz⟩ := strs_of hS hq
  exact waltwins_any w half h1 h2 a n cap ss hl hI hsz
end Go.Proofs.Ythghnlgojmedgaa
