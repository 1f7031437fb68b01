/-
  Merged, in build order: WM WN WO WalTwins WalKeeps WalRooms Ints Tmod Place09 WQ WP.
-/
import Derived.Test.YthghnlgojmedgaaM27
import Derived.Test.YthghnlgojmedgaaM19
import Derived.Test.YthghnlgojmedgaaM5
import Derived.Test.YthghnlgojmedgaaM21
/-
  wal: Room.
-/
namespace Go.Proofs.Ythghnlgojmedgaa
open Go.RowKit
set_option linter.unusedVariables false
set_option linter.unusedSimpArgs false

/-- The longest record that there is room for, from n down. -/
def rmL (left : Nat) : Nat → Nat
  | 0 => 0
  | n + 1 => if left < (nf (n + 1)).size + (n + 1) then rmL left n else n + 1
theorem rmL_spec (left : Nat) : ∀ n, rmL left n ≤ n ∧ (rmL left n = 0 ∨ (nf (rmL left n)).size + rmL left n ≤ left) ∧ ∀ k, rmL left n < k → k ≤ n → left < (nf k).size + k
  | 0 => ⟨Nat.le_refl _, .inl rfl, fun k h1 h2 => by have : rmL left 0 = 0 := rfl; omega⟩
  | n + 1 => by
    obtain ⟨h1, h2, h3⟩ := rmL_spec left n
    rw [rmL]
    split
    · rename_i h
      refine ⟨by omega, h2, fun k a b => ?_⟩
      by_cases hk : k = n + 1
      · subst hk; exact h
      · exact h3 k a (by omega)
    · exact ⟨Nat.le_refl _, .inr (by omega), fun k a b => by omega⟩
def WS.left (x : WS) (d : DS) : Nat := roomN d.sec.length - x.h.snap - x.h.log
def WS.room (x : WS) (d : DS) : Nat := rmL (x.left d) (min 2048 (x.left d))

section
variable {W : Base} {w : World} {R : List Thing}
set_option maxHeartbeats 800000 in
set_option maxRecDepth 100000 in
theorem st_wroom (H : St W w R) (i j : Nat) {B D : Nat} {x : WS} {d : DS} (hi : R[i]? = some (WlT B D x)) (hj : R[j]? = some (DkT D d)) (L : LgI x d) :
    Calls Try.prog 18 #[.pointer (some ⟨B, 0, none⟩)] w fun e w' => e = .returned (.int .i64 (x.room d : Nat)) ∧ St W w' R := by
  have hb := H.blk i hi
  have c0 := cell_blk (i := 0) hb rfl
  have c3 := cell_blk (i := 3) hb rfl
  have c4 := cell_blk (i := 4) hb rfl
  have hrm : ∀ w', St W w' R → Calls Try.prog 28 #[.pointer (some ⟨D, 0, none⟩)] w' fun e w'' => e = .returned (.int .i64 (roomN d.sec.length : Nat)) ∧ w' = w'' := fun w' h => by
    obtain ⟨F, hF⟩ := h.dk j hj
    exact wal_room w' F D d hF L.wf
  have HRM := hid hrm
  have h1 := roomN_le d.sec.length
  have h2 := L.room
  obtain ⟨lf, hlf⟩ : ∃ lf, x.left d = lf := ⟨_, rfl⟩
  have hle : lf ≤ 65536 := by rw [← hlf]; unfold WS.left; omega
  have e1 : IntKind.i64.wrap ((roomN d.sec.length : Int) - x.h.snap) = (roomN d.sec.length : Int) - x.h.snap := IntWalk.i64_in _ (by omega)
  have e2 : IntKind.i64.wrap ((roomN d.sec.length : Int) - x.h.snap - x.h.log) = (roomN d.sec.length : Int) - x.h.snap - x.h.log := IntWalk.i64_in _ (by omega)
  have e3 : (roomN d.sec.length : Int) - x.h.snap - x.h.log = (lf : Int) := by rw [← hlf]; unfold WS.left; omega
  obtain ⟨m0, hm0⟩ : ∃ m0, min 2048 lf = m0 := ⟨_, rfl⟩
  have e4 : min (2048 : Int) (lf : Int) = (m0 : Int) := by rw [← hm0]; omega
  have HRES := hid (show x.room d = rmL lf m0 by unfold WS.room; rw [hlf, hm0])
  rw [HRES.out]
  have HH := hid H
  have HE := hid (And.intro e1 (And.intro e2 (And.intro e3 (And.intro e4 (And.intro hle (show m0 ≤ 2048 by omega))))))
  clear H hb hi hj L hrm h1 h2 hlf hle e1 e2 e3 e4 hm0
  go_enter Try.func18, Try.ntmps18
  go_wp2_with fail
  go_upto_region 1 with (fail)
  go_cut [3] from 5 (fun s3 wx => s3 = .int .i64 lf ∧ ∃ nq, wx = w.drewN nq)
  case first =>
    have e1 := HE.out.1
    have e2 := HE.out.2.1
    go_quiet ((go_at_call 28; exact quiet_mine (HRM.out _ (HH.out.drewN _))))
    go_wp2_with fail
    go_meet
    exact ⟨congrArg (Value.int .i64) HE.out.2.2.1, _, rfl⟩
  obtain ⟨rfl, nq, rfl⟩ := hcut
  have HS := hid (HH.out.drewN nq)
  generalize w.drewN nq = w1 at HS ⊢
  clear c0 c3 c4
  have e4 := HE.out.2.2.2.1
  have HNUM := hid (fun (w : World) (n : Nat) (h : n ≤ 2048) => pack_num w n (by omega))
  go_wp2_with fail
  clear e4
  go_loopw [4] (fun nv wr => ∃ n : Nat, n ≤ 2048 ∧ nv = .int .i64 n ∧ Hid (rmL lf n = rmL lf m0) ∧ St W wr R) (fun nv _ => (intOf nv).toNat)
  case atStart => exact ⟨m0, HE.out.2.2.2.2.2, rfl, hid rfl, HS.out⟩
  case round =>
    obtain ⟨n, hn, rfl, hI, hS⟩ := hrel
    have HSS := hid hS
    have hmx : max (0 : Int) (n : Int) = (n : Int) := by omega
    have HMX := hid hmx
    clear hS hmx
    cases n with
    | zero =>
      have hI0 : rmL lf m0 = 0 := hI.out.symm
      have HI0 := hid hI0
      clear hI0 hI
      have b1 : decide ((0 : Int) < ((0 : Nat) : Int)) = false := by decide
      go_wp2_with fail
      go_ret
      rw [HI0.out]
      exact ⟨rfl, HSS.out⟩
    | succ q =>
      have hpos : (0 : Int) < ((q + 1 : Nat) : Int) := by omega
      have hcv : IntKind.u64.wrap ((q + 1 : Nat) : Int) = ((q + 1 : Nat) : Int) := u64_nat _ (by omega)
      have HP := hid (HNUM.out wr (q + 1) hn)
      have hsz := nf_two (n := q + 1) hn
      obtain ⟨nb, hnb⟩ : ∃ nb, nf (q + 1) = nb := ⟨_, rfl⟩
      rw [hnb] at HP hsz
      obtain ⟨m, hm⟩ : ∃ m, q + 1 = m := ⟨_, rfl⟩
      rw [hm] at HP hpos hcv HMX ⊢
      have hwn : IntKind.i64.wrap ((nb.size : Int) + m) = (nb.size : Int) + m := IntWalk.i64_in _ (by omega)
      have hwm : IntKind.i64.wrap ((m : Int) - 1) = (m : Int) - 1 := IntWalk.i64_in _ (by omega)
      have hstep : rmL lf m0 = if lf < nb.size + m then rmL lf q else m := by rw [← hI.out, ← hm, rmL, hnb]
      have HST := hid (And.intro hstep hm)
      have hn2 := hid hn
      have HNB := hid hnb
      clear hnb hstep hm hI hn hsz
      go_wp2_with fail
      refine HP.out.mono ?_
      rintro e w3 ⟨rfl, hF3⟩
      have HS3 := hid (HSS.out.same hF3)
      clear hF3
      by_cases hlt : lf < nb.size + m
      · have b1 : decide (lf < nb.size + m) = true := decide_eq_true hlt
        have b2 : decide ((lf : Int) < (nb.size : Int) + m) = true := decide_eq_true (by omega)
        have HR := hid (show rmL lf q = rmL lf m0 by rw [HST.out.1, if_pos hlt])
        clear hlt
        go_wp2_with fail
        go_roundw
        case rel => exact ⟨q, by have := hn2.out; omega, by have := HST.out.2; exact congrArg (Value.int .i64) (by omega), HR, HS3.out⟩
        case measure => have := HST.out.2; simp [intOf]; omega
      · have b1 : decide (lf < nb.size + m) = false := decide_eq_false hlt
        have b2 : decide ((lf : Int) < (nb.size : Int) + m) = false := decide_eq_false (by omega)
        have HR := hid (show rmL lf m0 = m by rw [HST.out.1, if_neg hlt])
        have hmx := HMX.out
        clear hlt
        go_wp2_with fail
        go_ret
        rw [HR.out]
        exact ⟨by first | rfl | exact congrArg (fun z => Ending.returned (.int .i64 z)) hmx, HS3.out⟩
end
end Go.Proofs.Ythghnlgojmedgaa

/-
  The laws' helpers of layer 9: fixed, laid.
-/
namespace Go.Proofs.Ythghnlgojmedgaa
open Go.RowKit
set_option linter.unusedVariables false
set_option linter.unusedSimpArgs false

theorem nf_big {k : Nat} (h : 128 ≤ k) (h2 : k ≤ 2048) : (nf k).size = 2 := by
  rw [← bl_len, show bl (nf k) = Lib.uvarint k from bl_mk _, Lib.uvarint_big h, Lib.uvarint_small (by omega)]; rfl
theorem rm_256 : rmL 256 256 = 254 := by
  obtain ⟨h1, h2, h3⟩ := rmL_spec 256 256
  generalize rmL 256 256 = m at h1 h2 h3 ⊢
  by_cases ha : m < 254
  · have := h3 254 ha (by decide)
    rw [nf_big (by decide) (by decide)] at this
    omega
  · rcases h2 with h2 | h2
    · omega
    · rw [nf_big (by omega) (by omega)] at h2; omega
theorem log_append_ok {x : WS} {d : DS} {s : ByteArray} {l : List ByteArray} (L : Log x d s l) (r : ByteArray) (ha : d.armed = 0) (hr : okRec r) (hroom : x.h.snap + x.h.log + (tf r).size ≤ roomN d.sec.length) (hn : x.h.number < 1099511627776) : (x.append d r).1 = 0 := by
  rcases log_append L r ha with ⟨h1, h2, h3⟩ | ⟨h1, _⟩
  · exfalso
    revert h1
    have hdead : ¬ (x.dead = true ∨ d.dead = true) := by rw [L.alive, L.on]; simp
    have hP : Pl d.sec (x.nxt (tf r).size).half (x.h.snap + x.h.log) (bl (tf r)) := log_pl L (by omega)
    have hok := L.cnt.fd
    obtain ⟨c1, _⟩ := call_done (s' := s) (l' := l ++ [r]) (h' := x.nxt (tf r).size) (n' := x.n + 1) L hP (.inl ha) (by omega) rfl hok.ok.snap1 (by show x.h.snap + (x.h.log + (tf r).size) = _; omega)
      (by show hTake d.sec x.h.half _ ++ _ = _; rw [hok.all, frs_snoc, List.append_assoc]) hok.size.1 (okRecs_snoc hok.recs hr) (by rw [L.n, List.length_append]; rfl)
    unfold WS.append
    rw [if_neg hdead, if_neg (by have := hr.1; have := hr.2; omega), if_neg (by omega), if_neg (by omega), if_pos c1]
    simp
  · exact h1

section
variable {W : Base} {w : World} {R : List Thing}

theorem st_dnew (H : St W w R) (n : Nat) (h1 : 1 ≤ n) (h2 : n ≤ 1026) :
    Calls Try.prog 9 #[.int .i64 n] w fun e w' => ∃ D, e = .returned (.tuple #[.pointer (some ⟨D, 0, none⟩), .int .i64 0]) ∧ St W w' (R ++ [DkT D (DS.new n)]) := by
  refine (disk_new_ok w n h1 h2).mono ?_
  rintro e w' ⟨D, F, rfl, hF, hD, hb⟩
  exact ⟨D, rfl, H.new hF inferInstance hD hb⟩
theorem Log.eq {x : WS} {d : DS} {s : ByteArray} {l : List ByteArray} (L : Log x d s l) : (⟨x.h, l.length, false⟩ : WS) = x := by
  have h1 := L.n
  have h2 := L.alive
  cases x
  simp_all
/-- Open of a log's disk. -/
theorem st_lopen (H : St W w R) (i : Nat) {D : Nat} {x : WS} {d : DS} {s : ByteArray} {l : List ByteArray} (hi : R[i]? = some (DkT D d)) (hw : d.wf) (hd : d.dead = false) (hf : roomN d.sec.length ≠ 0) {h : WH} (C : Cnt d.sec h s l) :
    Calls Try.prog 11 #[.pointer (some ⟨D, 0, none⟩)] w fun e w' => ∃ B p, e = .returned (.tuple #[.pointer (some ⟨B, 0, none⟩), .string s, .slice p l.length l.length, .int .i64 0]) ∧
      St W w' (R ++ [WvT 9 1 p l.length (strV l), WlT B D ⟨h, l.length, false⟩]) := by
  refine (st_wopen H i hi hw).mono ?_
  rintro e w' (⟨c, hc, rfl, hS⟩ | ⟨h1, h2, g, s', l', hg, B, p, rfl, hS⟩)
  · exfalso
    rcases hc with ⟨hc, _⟩ | ⟨_, hc, _⟩ | ⟨_, _, hc, _⟩
    · rw [hd] at hc; cases hc
    · exact hf hc
    · exact hc _ (by omega) _ _ _ C.fd
  · obtain ⟨rfl, rfl, rfl⟩ := hg.uniq C
    exact ⟨B, p, rfl, hS⟩

set_option maxHeartbeats 800000 in
set_option maxRecDepth 100000 in
theorem st_laid (H : St W w R) (half : Nat) (h1 : 1 ≤ half) (h2 : half ≤ 512) :
    Calls Try.prog 16 #[.int .i64 half] w fun e w' => ∃ (D B : Nat) (d : DS), e = .returned (.tuple #[.pointer (some ⟨D, 0, none⟩), .pointer (some ⟨B, 0, none⟩)]) ∧
      St W w' (R ++ [DkT D d, WlT B D ⟨fmtH, 0, false⟩]) ∧ Hid (Log ⟨fmtH, 0, false⟩ d ⟨#[]⟩ [] ∧ d.armed = 0 ∧ d.raw.length = 1 ∧ d.sec.length = 2 + 2 * half ∧ sAt d.sec 0 = zeroSec) := by
  have hnl := new_log (n := 2 + 2 * half) (by omega) (by omega) (by omega)
  have HN := hid (st_dnew H (2 + 2 * half) (by omega) (by omega))
  rw [show ((2 + 2 * half : Nat) : Int) = 2 + 2 * (half : Int) by omega] at HN
  have hf0 : roomN (DS.new (2 + 2 * half)).sec.length ≠ 0 := by
    rw [show (DS.new (2 + 2 * half)).sec.length = 2 + 2 * half by simp [DS.new]]; unfold roomN; rw [if_neg (by omega)]; omega
  have hw0 := new_wf (n := 2 + 2 * half) (by omega) (by omega)
  have hno := new_none (n := 2 + 2 * half) (by omega)
  have HFM := hid (fun (w' : World) (D : Nat) (h : St W w' (R ++ [DkT D (DS.new (2 + 2 * half))])) => st_wformat h (R.length + 0) (by rw [get_behind]; rfl) hw0 rfl hf0 (by show (0 + 1) * 24 ≤ _; decide))
  have HNO := hid hno
  obtain ⟨z, hz⟩ : ∃ z, ((DS.new (2 + 2 * half)).write 1 (secB fmtH)).1 = z := ⟨_, rfl⟩
  obtain ⟨d1, hd1⟩ : ∃ z, ((DS.new (2 + 2 * half)).write 1 (secB fmtH)).2 = z := ⟨_, rfl⟩
  rw [hz, hd1] at hnl HFM
  obtain ⟨rfl, hL, ha, hr, hs, hz0⟩ := hnl
  have HL := hid (And.intro hL (And.intro ha (And.intro hr (And.intro hs hz0))))
  clear H hz hd1 hL ha hr hs hz0 hf0 hw0 hno
  go_enter Try.func16, Try.ntmps16
  go_wp2_with fail
  refine HN.out.mono ?_
  rintro e w1 ⟨D, rfl, hS1⟩
  have HF1 := hid (HFM.out w1 D hS1)
  clear hS1
  go_wp2_with fail
  refine HF1.out.mono ?_
  rintro e w2 (⟨⟨h, s, l, hc⟩, _⟩ | ⟨_, rfl, hS2⟩)
  · exact absurd hc.fd (HNO.out _ (by omega) _ _ _)
  have hS2 : St W w2 (R ++ [DkT D d1]) := by
    rw [List.set_append_right _ _ (by omega), Nat.add_sub_cancel_left] at hS2; exact hS2
  have HO := hid (st_lopen (x := ⟨fmtH, 0, false⟩) hS2 (R.length + 0) (by rw [get_behind]; rfl) HL.out.1.wf HL.out.1.on HL.out.1.fit HL.out.1.cnt)
  clear hS2 HF1
  go_wp2_with fail
  refine HO.out.mono ?_
  rintro e w3 ⟨B, p, rfl, hS3⟩
  have HS3 := hid hS3
  clear hS3 HO
  go_wp2_with fail
  go_ret2
  refine ⟨D, B, d1, rfl, ?_, HL⟩
  have h := HS3.out
  rw [List.append_assoc] at h
  refine h.sub (B := [WvT 9 1 p ([] : List ByteArray).length (strV [])]) ?_
  rw [List.append_assoc]
  exact List.Perm.append_left _ (List.Perm.cons _ (List.Perm.swap _ _ _))
end
end Go.Proofs.Ythghnlgojmedgaa

/-
  The law's helper of layer 9: fixed.
-/
namespace Go.Proofs.Ythghnlgojmedgaa
open Go.RowKit
set_option linter.unusedVariables false
set_option linter.unusedSimpArgs false

section
variable {W : Base} {w : World} {R : List Thing}
def abS : ByteArray := ⟨#[97, 98]⟩
theorem tf_ab : (tf abS).size = 3 := by
  rw [tf_size, show abS.size = 2 from rfl]
  rw [← bl_len, show bl (nf 2) = Lib.uvarint 2 from bl_mk _, Lib.uvarint_small (by decide)]; rfl

set_option maxHeartbeats 1600000 in
set_option maxRecDepth 100000 in
theorem st_fixed09 (H : St W w R) :
    Calls Try.prog 15 #[] w fun e w' => e = .returned (.bool true) ∧ St W w' R := by
  have hnl := new_log (n := 6) (by decide) (by decide) (by decide)
  have HN := hid (st_dnew H 6 (by decide) (by decide))
  have hf0 : roomN (DS.new 6).sec.length ≠ 0 := by
    rw [show (DS.new 6).sec.length = 6 by simp [DS.new]]; decide
  have hw0 := new_wf (n := 6) (by decide) (by decide)
  have hno := new_none (n := 6) (by decide)
  have HFM := hid (fun (w' : World) (D : Nat) (h : St W w' (R ++ [DkT D (DS.new 6)])) => st_wformat h (R.length + 0) (by rw [get_behind]; rfl) hw0 rfl hf0 (by show (0 + 1) * 24 ≤ _; decide))
  have HNO := hid hno
  obtain ⟨z, hz⟩ : ∃ z, ((DS.new 6).write 1 (secB fmtH)).1 = z := ⟨_, rfl⟩
  obtain ⟨d1, hd1⟩ : ∃ z, ((DS.new 6).write 1 (secB fmtH)).2 = z := ⟨_, rfl⟩
  rw [hz, hd1] at hnl HFM
  obtain ⟨rfl, hL, ha, hr, hs, hz0⟩ := hnl
  have HL := hid (And.intro hL (And.intro ha (And.intro hr (And.intro hs hz0))))
  clear H hz hd1 hL ha hr hs hz0 hf0 hw0 hno
  go_enter Try.func15, Try.ntmps15
  go_wp2_with fail
  refine HN.out.mono ?_
  rintro e w1 ⟨D, rfl, hS1⟩
  have HF1 := hid (HFM.out w1 D hS1)
  clear hS1
  go_wp2_with fail
  refine HF1.out.mono ?_
  rintro e w2 (⟨⟨h, s, l, hc⟩, _⟩ | ⟨_, rfl, hS2⟩)
  · exact absurd hc.fd (HNO.out _ (by omega) _ _ _)
  have hS2 : St W w2 (R ++ [DkT D d1]) := by
    rw [List.set_append_right _ _ (by omega), Nat.add_sub_cancel_left] at hS2; exact hS2
  have HF2 := hid (st_wformat hS2 (R.length + 0) (by rw [get_behind]; rfl) HL.out.1.wf HL.out.1.on HL.out.1.fit (by rw [HL.out.2.2.1]; decide))
  clear HF1 hS2
  go_wp2_with fail
  refine HF2.out.mono ?_
  rintro e w3 (⟨_, rfl, hS3⟩ | ⟨hno, _⟩)
  rotate_left
  · exact absurd HL.out.1.cnt.fd (hno _ (by omega) _ _ _)
  have HO := hid (st_lopen (x := ⟨fmtH, 0, false⟩) hS3 (R.length + 0) (by rw [get_behind]; rfl) HL.out.1.wf HL.out.1.on HL.out.1.fit HL.out.1.cnt)
  clear HF2 hS3
  go_wp2_with fail
  refine HO.out.mono ?_
  rintro e w4 ⟨B, p, rfl, hS4⟩
  have hS4 : St W w4 (R ++ [DkT D d1, WlT B D ⟨fmtH, 0, false⟩]) := by
    rw [List.append_assoc] at hS4
    refine hS4.sub (B := [WvT 9 1 p ([] : List ByteArray).length (strV [])]) ?_
    rw [List.append_assoc]
    exact List.Perm.append_left _ (List.Perm.cons _ (List.Perm.swap _ _ _))
  have hroom : (⟨fmtH, 0, false⟩ : WS).room d1 = 254 := by
    unfold WS.room WS.left
    rw [HL.out.2.2.2.1]
    exact rm_256
  have hRM := st_wroom hS4 (R.length + 1) (R.length + 0) (B := B) (x := ⟨fmtH, 0, false⟩) (by rw [get_behind]; rfl) (by rw [get_behind]; rfl) HL.out.1.i
  rw [hroom] at hRM
  have HRM := hid hRM
  clear HO hS4 hRM hroom
  go_wp2_with fail
  refine HRM.out.mono ?_
  rintro e w5 ⟨rfl, hS5⟩
  have hap := log_append HL.out.1 abS HL.out.2.1
  have hap1 := log_append_ok HL.out.1 abS HL.out.2.1 ⟨by decide, by decide⟩ (by rw [tf_ab, HL.out.2.2.2.1]; decide) (by decide)
  have hAP := st_wappend hS5 (R.length + 1) (R.length + 0) (B := B) (D := D) (x := ⟨fmtH, 0, false⟩) (by rw [get_behind]; rfl) (by rw [get_behind]; rfl) (by omega) HL.out.1.i abS (by decide) (by rw [HL.out.2.2.1]; decide)
  rw [hap1] at hAP
  rcases hap with ⟨hbad, _⟩ | ⟨_, _, hL2, _⟩
  · exact absurd hap1 hbad
  obtain ⟨x2, hx2⟩ : ∃ x2, ((⟨fmtH, 0, false⟩ : WS).append d1 abS).2.1 = x2 := ⟨_, rfl⟩
  obtain ⟨d2, hd2⟩ : ∃ d2, ((⟨fmtH, 0, false⟩ : WS).append d1 abS).2.2 = d2 := ⟨_, rfl⟩
  rw [hx2, hd2] at hAP hL2
  have HAP := hid hAP
  have HL2 := hid hL2
  clear hAP hL2 hx2 hd2 hap1 hS5 HRM
  have hab : abS = ⟨#[97, 98]⟩ := rfl
  go_wp2_with fail
  refine HAP.out.mono ?_
  rintro e w6 ⟨rfl, hS6⟩
  have hS6 : St W w6 (R ++ [DkT D d2, WlT B D x2]) := by
    rw [List.set_append_right _ _ (by omega), List.set_append_right _ _ (by omega), Nat.add_sub_cancel_left, Nat.add_sub_cancel_left] at hS6; exact hS6
  have HO := hid (st_lopen (x := x2) hS6 (R.length + 0) (by rw [get_behind]; rfl) HL2.out.wf HL2.out.on HL2.out.fit HL2.out.cnt)
  clear hS6 HAP
  go_wp2_with fail
  refine HO.out.mono ?_
  rintro e w7 ⟨B2, p2, rfl, hS7⟩
  have hwv := hS7.wv ((R ++ [DkT D d2, WlT B D x2]).length + 0) (e := 9) (sz := 1) (n := ([] ++ [abS] : List ByteArray).length) (a := p2) (V := strV ([] ++ [abS])) (by rw [get_behind]; rfl)
  obtain ⟨g, rfl⟩ := hwv.sm (show 0 < ([] ++ [abS] : List ByteArray).length by decide)
  have hc := hwv.cell 0 (show 0 < ([] ++ [abS] : List ByteArray).length * 1 by decide)
  have hc2 : w7.cell? ⟨g, 0, none⟩ = some (.string abS) := hc
  have HS7 := hid hS7.drop
  have hlen : ([] ++ [abS] : List ByteArray).length = 1 := rfl
  have hbe : (abS.toList == (⟨#[97, 98]⟩ : ByteArray).toList) = true := by rw [show abS = ⟨#[97, 98]⟩ from rfl]; exact beq_self_eq_true _
  clear hwv hc HO hS7
  rw [hlen]
  go_wp2_with fail
  go_ret
  exact ⟨by simp, HS7.out.drop⟩
end
end Go.Proofs.Ythghnlgojmedgaa

/-
  The walk of WalTwins.
-/
namespace Go.Proofs.Ythghnlgojmedgaa
open Go.RowKit
set_option linter.unusedVariables false
set_option linter.unusedSimpArgs false

theorem append_number {x : WS} {d : DS} {r : ByteArray} (h : (x.append d r).1 = 0) : (x.append d r).2.1.h.number = x.h.number + 1 := by
  revert h
  unfold WS.append
  split
  · intro h; cases h
  split
  · intro h; cases h
  split
  · intro h; cases h
  split
  · intro h; cases h
  split
  · intro _; rfl
  · intro h; cases h
theorem log_snapshot_ok {x : WS} {d : DS} {s : ByteArray} {l : List ByteArray} (L : Log x d s l) (t : ByteArray) (ha : d.armed = 0) (h1 : t.size ≤ 17000) (h2 : t.size ≤ roomN d.sec.length) (hn : x.h.number < 1099511627776) : (x.snapshot d t).1 = 0 := by
  have hdead : ¬ (x.dead = true ∨ d.dead = true) := by rw [L.alive, L.on]; simp
  have hh := L.i.half1
  have hP : Pl d.sec (x.snapH t.size).half 0 (bl t) := L.i.pl (by show 1 - x.h.half ≤ 1; omega) (by omega)
  obtain ⟨c1, _⟩ := call_done (s' := t) (l' := []) (h' := x.snapH t.size) (n' := 0) L hP (.inl ha) (by omega) rfl (by show t.size ≤ _; omega) (by show t.size + 0 = 0 + t.size; omega)
    (by rw [hTake_zero]; simp [frs]) rfl (fun _ h => by cases h) rfl
  unfold WS.snapshot
  rw [if_neg hdead, if_neg (by omega), if_neg (by omega), if_pos c1]

/-- A log that was only appended to. -/
structure Apd (x : WS) (d : DS) (l : List ByteArray) : Prop where
  log : Log x d ⟨#[]⟩ l
  armed : d.armed = 0
  raw : d.raw.length ≤ 600 * l.length + 1
  num : x.h.number = l.length + 1
theorem Apd.append {x : WS} {d : DS} {l : List ByteArray} (A : Apd x d l) (r : ByteArray) : ∃ l', Apd (x.append d r).2.1 (x.append d r).2.2 l' := by
  rcases log_append A.log r A.armed with ⟨_, _, h⟩ | ⟨h1, _, h2, h3, h4, _⟩
  · rw [h]; exact ⟨l, A⟩
  · refine ⟨l ++ [r], h2, h3, ?_, ?_⟩
    · have := A.raw; rw [List.length_append, List.length_singleton]; omega
    · rw [append_number h1, A.num, List.length_append]; rfl
theorem Apd.rawOk {x : WS} {d : DS} {l : List ByteArray} (A : Apd x d l) : (d.raw.length + 2000) * 24 ≤ 140737488355328 := by
  have := A.raw; have := A.log.len.1; omega

def sS : ByteArray := ⟨#[115]⟩
set_option maxHeartbeats 1600000 in
set_option maxRecDepth 100000 in
theorem waltwins_any (w : World) (half : Int) (hl1 : -9223372036854775808 ≤ half) (hl2 : half ≤ 9223372036854775807) (a : Option Addr) (n cap : Nat) (ss : List ByteArray) (hn : ss.length = n) (hI : In w 1 a n cap (strV ss)) (hsz : ∀ i, i < n → (sAt ss i).size ≤ 140737488351232) :
    Calls Try.prog 7 #[.int .i64 half, .slice a n cap] w fun e w' => e = .returned (.bool true) ∧ Fr [] w w' := by
  have H := St.refl w
  have HI := hid hI
  have HSZ := hid hsz
  have hm := hI.max
  clear hI hsz
  by_cases hbad : half < 1 ∨ 512 < half
  · have HF := hid (st_fixed09 H)
    clear H
    by_cases h1 : half < 1
    · clear hbad
      go_enter Try.func7, Try.ntmps7
      go_wp2_with fail
      refine HF.out.mono ?_
      rintro e w1 ⟨rfl, H⟩
      go_wp2_with fail
      go_ret
      exact ⟨rfl, H.fr⟩
    · have h2 : 512 < half := by omega
      clear hbad
      go_enter Try.func7, Try.ntmps7
      go_wp2_with fail
      refine HF.out.mono ?_
      rintro e w1 ⟨rfl, H⟩
      go_wp2_with fail
      go_ret
      exact ⟨rfl, H.fr⟩
  obtain ⟨hf, rfl⟩ : ∃ hf : Nat, half = hf := ⟨half.toNat, by omega⟩
  have h1 : 1 ≤ hf := by omega
  have h2 : hf ≤ 512 := by omega
  have HL := hid (st_laid H hf h1 h2)
  have b1 : ¬ (hf : Int) < 1 := by omega
  have b2 : ¬ (512 : Int) < hf := by omega
  have HMX := hid (And.intro hm hn)
  clear H hbad hl1 hl2 h1 h2 hm hn
  go_enter Try.func7, Try.ntmps7
  go_wp2_with fail
  refine HL.out.mono ?_
  rintro e w1 ⟨D, B, d0, rfl, H, hl⟩
  have HS := hid H
  have HA := hid (show Apd ⟨fmtH, 0, false⟩ d0 [] from ⟨hl.out.1, hl.out.2.1, by rw [hl.out.2.2.1]; decide, rfl⟩)
  clear H hl HL b1 b2
  go_wp2_with fail
  go_loopw [7] (fun iv wr => ∃ (k : Nat) (x : WS) (d : DS) (l : List ByteArray), k ≤ n ∧ iv = .int .i64 k ∧ Hid (Apd x d l) ∧ St (.of w) wr [DkT D d, WlT B D x]) (fun iv _ => n - (intOf iv).toNat)
  case atStart => exact ⟨0, _, _, _, Nat.zero_le _, rfl, HA, by simpa using HS.out⟩
  case round =>
    obtain ⟨k, x, d, l, hk, rfl, hA, H⟩ := hrel
    by_cases hlt : k < n
    · obtain ⟨b, off, rfl⟩ := HI.out.sm (by omega)
      obtain ⟨r, hr⟩ : ∃ r, sAt ss k = r := ⟨_, rfl⟩
      have hcell : ∀ w', St (.of w) w' ([] : List Thing) ∨ Fr [] w w' → w'.cell? ⟨b, off + k, none⟩ = some (.string r) := fun w' h => by
        have hF : Fr [] w w' := by rcases h with h | h; exact h.fr; exact h
        have h1 := (HI.out.fr0 hF).cell b off rfl k (by omega)
        rw [← hr]; exact h1
      have hrs := HSZ.out k hlt
      rw [hr] at hrs
      have HC := hid hcell
      have HR := hid hrs
      have HLT := hid (And.intro hlt hk)
      have hltI : (k : Int) < n := by omega
      have hwk : IntKind.i64.wrap ((k : Int) + 1) = (k : Int) + 1 := IntWalk.i64_in _ (by have := HMX.out.1; omega)
      clear hcell hrs hr HS
      have HK := hid hwk
      have HCL := hid (st_clone H 0 rfl hA.out.log.wf (by have := hA.out.rawOk; omega))
      clear hwk hlt hk H
      go_wp2_with fail
      refine HCL.out.mono ?_
      rintro e w2 ⟨C, rfl, H⟩
      try simp only [List.nil_append, List.cons_append, List.set_cons_zero, List.set_cons_succ] at H
      have HWC := hid (st_wclone H 1 rfl C)
      clear H HCL
      go_wp2_with fail
      refine HWC.out.mono ?_
      rintro e w3 ⟨N, rfl, H⟩
      try simp only [List.nil_append, List.cons_append, List.set_cons_zero, List.set_cons_succ] at H
      obtain ⟨z, hz⟩ : ∃ z, (x.append d r).1 = z := ⟨_, rfl⟩
      obtain ⟨x', hx'⟩ : ∃ y, (x.append d r).2.1 = y := ⟨_, rfl⟩
      obtain ⟨d', hd'⟩ : ∃ y, (x.append d r).2.2 = y := ⟨_, rfl⟩
      obtain ⟨l', hA'⟩ := hA.out.append r
      rw [hx', hd'] at hA'
      have hap : ∀ (w' : World) (RR : List Thing) (i j B D : Nat), St (.of w) w' RR → RR[i]? = some (WlT B D x) → RR[j]? = some (DkT D d) → i ≠ j → Calls Try.prog 12 #[.pointer (some ⟨B, 0, none⟩), .string r] w' fun e w'' => e = .returned (.int .i64 z) ∧ St (.of w) w'' ((RR.set i (WlT B D x')).set j (DkT D d')) := fun w' RR i j B D h hi hj hij => by
        have h2 := st_wappend h i j hi hj hij hA.out.log.i r (by have := HR.out; omega) hA.out.rawOk
        rw [hz, hx', hd'] at h2
        exact h2
      have HAPP := hid hap
      have HA' := hid hA'
      clear hap hz hx' hd' hA'
      have c1 := HC.out w3 (.inr H.fr)
      have HH := hid H
      clear H HWC
      go_wp2_with fail
      refine (HAPP.out w3 _ 1 0 B D HH.out rfl rfl (by decide)).mono ?_
      rintro e w4 ⟨rfl, H⟩
      try simp only [List.nil_append, List.cons_append, List.set_cons_zero, List.set_cons_succ] at H
      have c2 := HC.out w4 (.inr H.fr)
      have HH2 := hid H
      clear H c1 HH
      go_wp2_with fail
      refine (HAPP.out w4 _ 3 2 N C HH2.out rfl rfl (by decide)).mono ?_
      rintro e w5 ⟨rfl, H⟩
      try simp only [List.nil_append, List.cons_append, List.set_cons_zero, List.set_cons_succ] at H
      have HK1 := hid (st_sectors H 2 rfl HA'.out.log.wf)
      clear H c2 HH2
      go_wp2_with fail
      refine HK1.out.mono ?_
      rintro e w6 ⟨g1, p1, rfl, H⟩
      try simp only [List.nil_append, List.cons_append, List.set_cons_zero, List.set_cons_succ] at H
      have HK2 := hid (st_sectors H 0 rfl HA'.out.log.wf)
      clear H HK1
      go_wp2_with fail
      refine HK2.out.mono ?_
      rintro e w7 ⟨g2, p2, rfl, H⟩
      try simp only [List.nil_append, List.cons_append, List.set_cons_zero, List.set_cons_succ] at H
      have HK3 := hid (st_same H (H.in_ 4 rfl) (H.in_ 5 rfl))
      clear H HK2
      go_wp2_with fail
      refine HK3.out.mono ?_
      rintro e w8 ⟨rfl, H⟩
      have HK4 := hid (st_sectors H 0 rfl HA'.out.log.wf)
      clear H HK3
      go_wp2_with fail
      refine HK4.out.mono ?_
      rintro e w9 ⟨g3, p3, rfl, H⟩
      try simp only [List.nil_append, List.cons_append, List.set_cons_zero, List.set_cons_succ] at H
      have hsn := st_wsnapshot H 3 2 (B := N) (D := C) rfl rfl (by decide) HA'.out.log.i sS (by decide) HA'.out.rawOk
      have hsok := log_snapshot_ok HA'.out.log sS HA'.out.armed (by decide) (by have := HA'.out.log.fit; have h2 := roomN_ok this; rw [h2.2.2.2]; show 1 ≤ _; omega) (by rw [HA'.out.num]; have := HA'.out.log.len.1; omega)
      have hsn0 : (x'.snapshot d' sS).2.1.n = 0 := by
        rcases log_snapshot HA'.out.log sS HA'.out.armed with ⟨h, _⟩ | ⟨_, _, _, _, h, _⟩
        · exact absurd hsok h
        · exact h
      rw [hsok] at hsn
      obtain ⟨x3, hx3⟩ : ∃ y, (x'.snapshot d' sS).2.1 = y := ⟨_, rfl⟩
      obtain ⟨d3, hd3⟩ : ∃ y, (x'.snapshot d' sS).2.2 = y := ⟨_, rfl⟩
      rw [hx3, hd3] at hsn
      rw [hx3] at hsn0
      have HSN := hid hsn
      have HS0 := hid hsn0
      clear hsn hsn0 hsok hx3 hd3 H HK4
      go_wp2_with fail
      refine HSN.out.mono ?_
      rintro e w10 ⟨rfl, H⟩
      try simp only [List.nil_append, List.cons_append, List.set_cons_zero, List.set_cons_succ] at H
      have HK5 := hid (st_sectors H 0 rfl HA'.out.log.wf)
      clear H HSN
      go_wp2_with fail
      refine HK5.out.mono ?_
      rintro e w11 ⟨g4, p4, rfl, H⟩
      try simp only [List.nil_append, List.cons_append, List.set_cons_zero, List.set_cons_succ] at H
      have HK6 := hid (st_same H (H.in_ 7 rfl) (H.in_ 6 rfl))
      clear H HK5
      go_wp2_with fail
      refine HK6.out.mono ?_
      rintro e w12 ⟨rfl, H⟩
      have hrc := st_wrecords H 3 (B := N) (D := C) (x := x3) rfl
      rw [HS0.out] at hrc
      have HRC := hid hrc
      clear hrc H HK6
      go_wp2_with fail
      refine HRC.out.mono ?_
      rintro e w13 ⟨rfl, H⟩
      have HEND := hid (H.take 2)
      clear H HRC
      have hwk := HK.out
      go_wp2_with fail
      go_roundw
      case rel => exact ⟨k + 1, x', d', l', HLT.out.1, by go_num, HA', HEND.out⟩
      case measure => have := HLT.out.1; simp [intOf]; omega
    · obtain rfl : k = n := by omega
      have HF := hid (st_fixed09 H)
      clear H HS
      go_wp2_with fail
      refine HF.out.mono ?_
      rintro e w2 ⟨rfl, H⟩
      have hfr := hid H.fr
      clear H
      go_wp2_with fail
      go_ret
      exact ⟨rfl, hfr.out⟩

theorem waltwins_walk (w : World) (half : Int) (h1 : -9223372036854775808 ≤ half) (h2 : half ≤ 9223372036854775807) (a : Option Addr) (n cap : Nat) (V : Nat → Value) (hS : SlIn w 1 16 a n cap V) (hq : ∀ i, i < n → Str (V (i * 1))) :
    Calls Try.prog 7 #[.int .i64 half, .slice a n cap] w fun e w' => e = .returned (.bool true) ∧ Fr [] w w' := by
  obtain ⟨ss, hl, hI, _, hsz⟩ := strs_of hS hq
  exact waltwins_any w half h1 h2 a n cap ss hl hI hsz
end Go.Proofs.Ythghnlgojmedgaa

/-
  The walk of WalKeeps.
-/
namespace Go.Proofs.Ythghnlgojmedgaa
open Go.RowKit
set_option linter.unusedVariables false
set_option linter.unusedSimpArgs false

theorem Apd.append2 {x : WS} {d : DS} {l : List ByteArray} (A : Apd x d l) (r : ByteArray) :
    ((x.append d r).1 ≠ 0 ∧ (x.append d r).2 = (x, d)) ∨ ((x.append d r).1 = 0 ∧ Apd (x.append d r).2.1 (x.append d r).2.2 (l ++ [r])) := by
  rcases log_append A.log r A.armed with ⟨h0, _, h⟩ | ⟨h1, _, h2, h3, h4, _⟩
  · exact .inl ⟨h0, h⟩
  · refine .inr ⟨h1, h2, h3, ?_, ?_⟩
    · have := A.raw; rw [List.length_append, List.length_singleton]; omega
    · rw [append_number h1, A.num, List.length_append]; rfl

section
variable {W : Base} {w : World} {R : List Thing}
theorem St.rowStr (H : St W w R) (i : Nat) {v : Value} {l : List ByteArray} (hi : R[i]? = some (RowT 9 1 v l.length (l.map Value.string))) : ∃ a c, v = .slice a l.length c ∧ In w 1 a l.length c (strV l) := by
  have h := H.row i hi
  rcases owns_one h with ⟨rfl, hn, _⟩ | ⟨g, cap, rfl, hle, hmx⟩
  · refine ⟨none, 0, by rw [hn], by rw [hn]; exact Nat.le_refl _, by decide, fun h0 => by omega, fun b off e => by cases e⟩
  · exact ⟨_, cap, rfl, owns_in h (strV l) (fun j hj => map_str l j hj)⟩
theorem St.wvIn (H : St W w R) (i : Nat) {a : Option Addr} {l : List ByteArray} (hl : l.length ≤ 65536) (hi : R[i]? = some (WvT 9 1 a l.length (strV l))) : In w 1 a l.length l.length (strV l) :=
  (H.wv i hi).toIn (Nat.le_refl _) (by unfold maxLen; omega)
theorem St.empty (H : St W w R) : St W (w.alloc (.cells #[] 9)) (R ++ [RowT 9 1 (.slice (some ⟨w.heap.size, 0, none⟩) 0 0) 0 []]) :=
  H.new (A := Row1 9 1 (.slice (some ⟨w.heap.size, 0, none⟩) 0 0) 0 []) (F := [w.heap.size]) ((Fr.refl _ _).alloc _) inferInstance
    ⟨rfl, by simp, Or.inr ⟨_, _, #[], rfl, Nat.zero_le _, blk_alloc_at _ _ _ rfl, Nat.le_refl _, by decide, by simp, by simp⟩⟩ (by simp)
end
def overS : ByteArray := ⟨#[111, 118, 101, 114]⟩

set_option maxHeartbeats 1600000 in
set_option maxRecDepth 100000 in
theorem walkeeps_any (w : World) (a : Option Addr) (n cap : Nat) (ss : List ByteArray) (hn : ss.length = n) (hI : In w 1 a n cap (strV ss)) (hsz : ∀ i, i < n → (sAt ss i).size ≤ 140737488351232) :
    Calls Try.prog 3 #[.slice a n cap] w fun e w' => e = .returned (.bool true) ∧ Fr [] w w' := by
  have H := St.refl w
  have HI := hid hI
  have HSZ := hid hsz
  have hm := hI.max
  clear hI hsz
  have hnl := new_log (n := 20) (by decide) (by decide) (by decide)
  have HN := hid (st_dnew H 20 (by decide) (by decide))
  have hf0 : roomN (DS.new 20).sec.length ≠ 0 := by
    rw [show (DS.new 20).sec.length = 20 by simp [DS.new]]; decide
  have hw0 := new_wf (n := 20) (by decide) (by decide)
  have hno := new_none (n := 20) (by decide)
  have HFM := hid (fun (w' : World) (D : Nat) (h : St (.of w) w' [DkT D (DS.new 20)]) => st_wformat h 0 rfl hw0 rfl hf0 (by show (0 + 1) * 24 ≤ _; decide))
  have HNO := hid hno
  obtain ⟨z, hz⟩ : ∃ z, ((DS.new 20).write 1 (secB fmtH)).1 = z := ⟨_, rfl⟩
  obtain ⟨d1, hd1⟩ : ∃ z, ((DS.new 20).write 1 (secB fmtH)).2 = z := ⟨_, rfl⟩
  rw [hz, hd1] at hnl HFM
  obtain ⟨rfl, hL, ha, hr, hs, hz0⟩ := hnl
  have HL := hid (And.intro hL (And.intro ha (And.intro hr (And.intro hs hz0))))
  have HMX := hid (And.intro hm hn)
  clear H hz hd1 hL ha hr hs hz0 hf0 hw0 hno hm hn
  go_enter Try.func3, Try.ntmps3
  go_wp2_with fail
  refine HN.out.mono ?_
  rintro e w1 ⟨D, rfl, hS1⟩
  have hS1 : St (.of w) w1 [DkT D (DS.new 20)] := by simpa using hS1
  have HF1 := hid (HFM.out w1 D hS1)
  clear hS1
  go_wp2_with fail
  refine HF1.out.mono ?_
  rintro e w2 (⟨⟨h, s, l, hc⟩, _⟩ | ⟨_, rfl, hS2⟩)
  · exact absurd hc.fd (HNO.out _ (by omega) _ _ _)
  have hS2 : St (.of w) w2 [DkT D d1] := by simpa using hS2
  have HO := hid (st_lopen (x := ⟨fmtH, 0, false⟩) hS2 0 rfl HL.out.1.wf HL.out.1.on HL.out.1.fit HL.out.1.cnt)
  clear HF1 hS2
  go_wp2_with fail
  refine HO.out.mono ?_
  rintro e w3 ⟨B, p, rfl, H⟩
  have H : St (.of w) w3 [DkT D d1, WvT 9 1 p ([] : List ByteArray).length (strV []), WlT B D ⟨fmtH, 0, false⟩] := by simpa using H
  have H : St (.of w) w3 [DkT D d1, WlT B D ⟨fmtH, 0, false⟩] := by
    refine H.sub (B := [WvT 9 1 p ([] : List ByteArray).length (strV [])]) ?_
    exact List.Perm.cons _ (List.Perm.swap _ _ _)
  have HE := hid H.empty
  have HA := hid (show Apd ⟨fmtH, 0, false⟩ d1 [] from ⟨HL.out.1, HL.out.2.1, by rw [HL.out.2.2.1]; decide, rfl⟩)
  clear HO H
  go_wp2_with fail
  go_loopw [9, 10] (fun wv iv wr => ∃ (k : Nat) (x : WS) (d : DS) (l : List ByteArray), k ≤ n ∧ iv = .int .i64 k ∧ Hid (Apd x d l) ∧ St (.of w) wr [DkT D d, WlT B D x, RowT 9 1 wv l.length (l.map Value.string)]) (fun _ iv _ => n - (intOf iv).toNat)
  case atStart => exact ⟨0, _, _, [], Nat.zero_le _, rfl, HA, by simpa using HE.out⟩
  case round =>
    obtain ⟨k, x, d, l, hk, rfl, hA, H⟩ := hrel
    by_cases hlt : k < n
    · obtain ⟨b, off, rfl⟩ := HI.out.sm (by omega)
      obtain ⟨r, hr⟩ : ∃ r, sAt ss k = r := ⟨_, rfl⟩
      have hcell : ∀ w', Fr [] w w' → w'.cell? ⟨b, off + k, none⟩ = some (.string r) := fun w' hF => by
        have h1 := (HI.out.fr0 hF).cell b off rfl k (by omega)
        rw [← hr]; exact h1
      have hrs := HSZ.out k hlt
      rw [hr] at hrs
      have HC := hid hcell
      have HR := hid hrs
      have HLT := hid (And.intro hlt hk)
      have hltI : (k : Int) < n := by omega
      have HK := hid (show IntKind.i64.wrap ((k : Int) + 1) = (k : Int) + 1 from IntWalk.i64_in _ (by have := HMX.out.1; omega))
      clear hcell hrs hr HE
      have c1 := HC.out wr H.fr
      have hap := st_wappend H 1 0 (B := B) (D := D) (x := x) (d := d) rfl rfl (by decide) hA.out.log.i r (by have := HR.out; omega) hA.out.rawOk
      rcases hA.out.append2 r with ⟨hz, hsame⟩ | ⟨hz, hA'⟩
      · obtain ⟨z, hzz⟩ : ∃ z, (x.append d r).1 = z := ⟨_, rfl⟩
        rw [hsame, hzz] at hap
        rw [hzz] at hz
        have hzb : (z == 0) = false := by rw [beq_eq_false_iff_ne]; exact hz
        have HAP := hid hap
        clear hap hsame hzz hz H hk hlt
        go_wp2_with fail
        refine HAP.out.mono ?_
        rintro e w4 ⟨rfl, H⟩
        have HH := hid (show St (.of w) w4 [DkT D d, WlT B D x, RowT 9 1 u9 l.length (l.map Value.string)] from H)
        have hwk := HK.out
        clear H c1 HAP
        go_wp2_with fail
        go_roundw
        case rel => exact ⟨k + 1, x, d, l, HLT.out.1, by go_num, hA, HH.out⟩
        case measure => have := HLT.out.1; simp [intOf]; omega
      · obtain ⟨x', hx'⟩ : ∃ y, (x.append d r).2.1 = y := ⟨_, rfl⟩
        obtain ⟨d', hd'⟩ : ∃ y, (x.append d r).2.2 = y := ⟨_, rfl⟩
        rw [hz, hx', hd'] at hap
        rw [hx', hd'] at hA'
        have HAP := hid hap
        have HA' := hid hA'
        clear hap hx' hd' hz hA' H hk hlt
        go_wp2_with fail
        refine HAP.out.mono ?_
        rintro e w4 ⟨rfl, H⟩
        have c2 := HC.out w4 H.fr
        have hll := HA'.out.log.len.1
        rw [List.length_append, List.length_singleton] at hll
        obtain ⟨i0, hi0, hz0, hz1, hz2⟩ := info_parts info_string
        have HIN := hid (And.intro hi0 (And.intro hz0 (And.intro hz1 hz2)))
        have HROW := hid (St.append (H.alloc_ (.cells #[.string r] 9)) 2 (e := 9) (size := 1) (n := l.length) (v := u9) (xs := l.map Value.string) rfl)
        have HLEN := hid hll
        clear H c1 hi0 hz0 hz1 hz2 HAP hll
        go_wp2_with (at_builtin; refine wpList_append_blk rfl (.tmp 58) (.tmp 63) 22 rfl 9 i0 (.string ByteArray.empty) 1 16 Try.underlying22 HIN.out.1 HIN.out.2.1 HIN.out.2.2.1 HIN.out.2.2.2 rfl (by decide) u9 l.length (l.map Value.string) rfl HROW.out.1 ⟨w4.heap.size, 0, none⟩ 1 1 [.string r] rfl rfl (news_alloc w4 [.string r] 9) (by intro u hu; simp at hu; subst hu; rfl) (by have := HLEN.out; unfold maxLen; omega) (by have := HLEN.out; omega) ?_)
        intro v' w9 ho hF hb hnn
        have H9 := hid (HROW.out.2 v' w9 (l.length + 1) (l.map Value.string ++ [.string r]) ho (by simpa using hF) (by simpa using hb))
        have hwk := HK.out
        clear ho hF hb hnn HROW c2
        go_wp2_with fail
        go_roundw
        case rel =>
          refine ⟨k + 1, x', d', l ++ [r], HLT.out.1, by go_num, HA', ?_⟩
          have h := H9.out
          rw [List.length_append, List.map_append]
          exact h
        case measure => have := HLT.out.1; simp [intOf]; omega
    · obtain rfl : k = n := by omega
      have HLg := hid hA.out.log
      have hll := hA.out.log.len.1
      have HLL := hid hll
      obtain ⟨aw, cw, rfl, _⟩ := H.rowStr 2 (v := u9) (l := l) rfl
      have HO1 := hid (st_lopen (x := x) H 0 rfl HLg.out.wf HLg.out.on HLg.out.fit HLg.out.cnt)
      clear H hA HE hk hlt hll
      go_wp2_with fail
      refine HO1.out.mono ?_
      rintro e w4 ⟨B1, p1, rfl, H⟩
      have HO2 := hid (st_lopen (x := x) H 0 rfl HLg.out.wf HLg.out.on HLg.out.fit HLg.out.cnt)
      clear H HO1
      go_wp2_with fail
      refine HO2.out.mono ?_
      rintro e w5 ⟨B2, p2, rfl, H⟩
      have H : St (.of w) w5 [DkT D d, WlT B D x, RowT 9 1 (.slice aw l.length cw) l.length (l.map Value.string), WvT 9 1 p1 l.length (strV l), WlT B1 D ⟨x.h, l.length, false⟩, WvT 9 1 p2 l.length (strV l), WlT B2 D ⟨x.h, l.length, false⟩] := H
      have hrow : ∀ (w' : World) (T : List Thing), St (.of w) w' ([DkT D d, WlT B D x, RowT 9 1 (.slice aw l.length cw) l.length (l.map Value.string)] ++ T) → In w' 1 aw l.length cw (strV l) := fun w' T h => by
        obtain ⟨a', c', e, hi⟩ := h.rowStr 2 (v := .slice aw l.length cw) (l := l) rfl
        simp only [Value.slice.injEq, true_and] at e
        obtain ⟨rfl, rfl⟩ := e
        exact hi
      have HROW := hid hrow
      have HS1 := hid (st_same H (H.wvIn 3 HLL.out rfl) (HROW.out w5 _ H))
      clear H HO2 hrow
      go_wp2_with fail
      refine HS1.out.mono ?_
      rintro e w6 ⟨rfl, H⟩
      have HH := hid H
      clear H HS1
      go_wp2_with fail
      go_loopw [19] (fun iv wr => ∃ (q : Nat) (V : Nat → Value), q ≤ l.length ∧ iv = .int .i64 q ∧ St (.of w) wr [DkT D d, WlT B D x, RowT 9 1 (.slice aw l.length cw) l.length (l.map Value.string), WvT 9 1 p1 l.length V, WlT B1 D ⟨x.h, l.length, false⟩, WvT 9 1 p2 l.length (strV l), WlT B2 D ⟨x.h, l.length, false⟩]) (fun iv _ => l.length - (intOf iv).toNat)
      case atStart => exact ⟨0, strV l, Nat.zero_le _, rfl, HH.out⟩
      case round =>
        obtain ⟨q, V, hq, rfl, H⟩ := hrel
        by_cases hql : q < l.length
        · have hwv := H.wv 3 (e := 9) (sz := 1) (n := l.length) (a := p1) (V := V) rfl
          obtain ⟨g, rfl⟩ := hwv.sm (by omega)
          have hc := hwv.cell q (by omega)
          have hfz := hwv.free q
          rw [Nat.zero_add] at hc hfz
          have hset := H.setWv 3 (e := 9) (sz := 1) (n := l.length) (g := g) (V := V) rfl q (.string ⟨#[111, 118, 101, 114]⟩)
          have HSET := hid hset
          have HQL := hid (And.intro hql hq)
          have hqI : (q : Int) < l.length := by omega
          have hwq : IntKind.i64.wrap ((q : Int) + 1) = (q : Int) + 1 := IntWalk.i64_in _ (by have := HLL.out; omega)
          clear hset hwv H HH hql hq
          go_wp2_with fail
          go_roundw
          case rel => exact ⟨q + 1, _, HQL.out.1, by go_num, HSET.out⟩
          case measure => have := HQL.out.1; simp [intOf]; omega
        · obtain rfl : q = l.length := by omega
          have hin := (H.wv 3 (e := 9) (sz := 1) (n := l.length) (a := p1) (V := V) rfl).toIn (cap := l.length) (Nat.le_refl _) (by have := HLL.out; unfold maxLen; omega)
          have HIN := hid (hin.fr0 ((Fr.refl [] wr).alloc (.cells #[.string ⟨#[109, 111, 114, 101]⟩] 9)))
          have HH2 := hid (H.alloc_ (.cells #[.string ⟨#[109, 111, 114, 101]⟩] 9))
          obtain ⟨i0, hi0, hz0, hz1, hz2⟩ := info_parts info_string
          have HI0 := hid (And.intro hi0 (And.intro hz0 (And.intro hz1 hz2)))
          clear H hin HH hi0 hz0 hz1 hz2 hql hq
          go_wp2_with (at_builtin; refine wpList_append_full rfl (.tmp 92) (.tmp 93) 22 rfl 9 i0 (.string ByteArray.empty) 1 16 Try.underlying22 HI0.out.1 HI0.out.2.1 HI0.out.2.2.1 HI0.out.2.2.2 rfl (by decide) p1 l.length V rfl HIN.out ⟨wr.heap.size, 0, none⟩ 1 1 [.string ⟨#[109, 111, 114, 101]⟩] rfl (by decide) rfl (news_alloc wr [.string ⟨#[109, 111, 114, 101]⟩] 9) (by intro u hu; simp at hu; subst hu; rfl) (by have := HLL.out; unfold maxLen; omega) (by have := HLL.out; omega) ?_)
          intro g' cap' w9 hF9
          have H := HH2.out.same hF9
          have HO3 := hid (st_lopen (x := x) H 0 rfl HLg.out.wf HLg.out.on HLg.out.fit HLg.out.cnt)
          clear H hF9 HH2 HIN
          go_wp2_with fail
          refine HO3.out.mono ?_
          rintro e w10 ⟨B3, p3, rfl, H⟩
          have H : St (.of w) w10 [DkT D d, WlT B D x, RowT 9 1 (.slice aw l.length cw) l.length (l.map Value.string), WvT 9 1 p1 l.length V, WlT B1 D ⟨x.h, l.length, false⟩, WvT 9 1 p2 l.length (strV l), WlT B2 D ⟨x.h, l.length, false⟩, WvT 9 1 p3 l.length (strV l), WlT B3 D ⟨x.h, l.length, false⟩] := H
          have HS2 := hid (st_same H (H.wvIn 5 HLL.out rfl) (HROW.out w10 _ H))
          have hwl : IntKind.i64.wrap ((l.length : Int) + 1) = (l.length : Int) + 1 := IntWalk.i64_in _ (by have := HLL.out; omega)
          clear H HO3
          go_wp2_with fail
          refine HS2.out.mono ?_
          rintro e w11 ⟨rfl, H⟩
          have HS3 := hid (st_same H (H.wvIn 7 HLL.out rfl) (HROW.out w11 _ H))
          clear H HS2
          go_wp2_with fail
          refine HS3.out.mono ?_
          rintro e w12 ⟨rfl, H⟩
          have hrc := st_wrecords H 1 (B := B) (D := D) (x := x) rfl
          rw [HLg.out.n] at hrc
          have HRC := hid hrc
          clear H HS3 hrc
          go_wp2_with fail
          refine HRC.out.mono ?_
          rintro e w13 ⟨rfl, H⟩
          have HF := hid (st_fixed09 H)
          clear H HRC
          go_wp2_with fail
          refine HF.out.mono ?_
          rintro e w14 ⟨rfl, H⟩
          have hfr := hid H.fr
          clear H
          go_wp2_with fail
          go_ret
          exact ⟨by simp, hfr.out⟩

theorem walkeeps_walk (w : World) (a : Option Addr) (n cap : Nat) (V : Nat → Value) (hS : SlIn w 1 16 a n cap V) (hq : ∀ i, i < n → Str (V (i * 1))) :
    Calls Try.prog 3 #[.slice a n cap] w fun e w' => e = .returned (.bool true) ∧ Fr [] w w' := by
  obtain ⟨ss, hl, hI, _, hsz⟩ := strs_of hS hq
  exact walkeeps_any w a n cap ss hl hI hsz
end Go.Proofs.Ythghnlgojmedgaa

/-
  The walk of WalRooms.
-/
namespace Go.Proofs.Ythghnlgojmedgaa
open Go.RowKit
set_option linter.unusedVariables false
set_option linter.unusedSimpArgs false

theorem append_empty {x : WS} {d : DS} {r : ByteArray} (h1 : x.dead = false) (h2 : d.dead = false) (h : r.size = 0 ∨ 2048 < r.size) : x.append d r = (92, x, d) := by
  unfold WS.append; rw [if_neg (by rw [h1, h2]; simp), if_pos h]
theorem append_full {x : WS} {d : DS} {r : ByteArray} (h1 : x.dead = false) (h2 : d.dead = false) (h3 : 1 ≤ r.size) (h4 : r.size ≤ 2048) (h : roomN d.sec.length < x.h.snap + x.h.log + (tf r).size) : x.append d r = (93, x, d) := by
  unfold WS.append; rw [if_neg (by rw [h1, h2]; simp), if_neg (by omega), if_pos h]
theorem snapshot_long {x : WS} {d : DS} {r : ByteArray} (h1 : x.dead = false) (h2 : d.dead = false) (h : 17000 < r.size ∨ roomN d.sec.length < r.size) : x.snapshot d r = (92, x, d) := by
  unfold WS.snapshot; rw [if_neg (by rw [h1, h2]; simp), if_pos h]
theorem room_facts {x : WS} {d : DS} {s : ByteArray} {l : List ByteArray} (L : Log x d s l) : x.room d ≤ 2048 ∧ (x.room d = 0 ∨ x.h.snap + x.h.log + ((nf (x.room d)).size + x.room d) ≤ roomN d.sec.length) ∧
    (x.room d < 2048 → roomN d.sec.length < x.h.snap + x.h.log + ((nf (x.room d + 1)).size + (x.room d + 1))) := by
  have hr := L.i.room
  unfold WS.room
  obtain ⟨h1, h2, h3⟩ := rmL_spec (x.left d) (min 2048 (x.left d))
  have hle : x.left d + x.h.snap + x.h.log = roomN d.sec.length := by unfold WS.left; omega
  generalize rmL (x.left d) (min 2048 (x.left d)) = m at h1 h2 h3 ⊢
  refine ⟨by omega, by omega, fun hm => ?_⟩
  by_cases hk : m + 1 ≤ min 2048 (x.left d)
  · have := h3 (m + 1) (by omega) hk; omega
  · have := nf_pos (m + 1); omega
theorem zconv {w : World} {g n : Nat} (h : w.ownsRow 0 5 1 (.slice (some ⟨g, 0, none⟩) n n) n (madeCells #[Value.int .u8 0] n).toList) :
    (convert 47 9 (.slice (some ⟨g, 0, none⟩) n n)).run Try.prog w = .ok (.string (zeroS n)) w := by
  obtain ⟨cur, hb, hs, hz⟩ := made_blk h
  have hl : (zeroL n).length = n := List.length_replicate
  have hcur := bytes_of (cur := cur) (l := zeroL n) (by rw [hs, hl]) (fun j hj => by
    rw [hl] at hj
    rw [hz j hj]
    congr 2
    unfold zeroL
    rw [List.getD_eq_getElem?_getD, List.getElem?_replicate, if_pos hj]; rfl)
  have h2 := run_text' (P := Try.prog) w 47 9 5 g 0 n (zeroL n) Try.underlying47 Try.underlying5 Try.underlying9 (fun j v hv => by
    rw [Nat.zero_add]
    refine cell_blk hb ?_
    rw [← hcur, Array.getElem?_toList] at hv
    exact hv)
  rw [hl] at h2
  exact h2

theorem mkz (w : World) (z : Int) (q : Nat) (hz : z = (q : Int)) (hq : q ≤ 20000) : ∃ w' g, (Instr.makeSlice 47 (.int .i64 z) (.int .i64 z)).run Try.prog w = .ok (.slice (some ⟨g, 0, none⟩) q q) w' ∧ Fr [] w w' ∧
    (convert 47 9 (.slice (some ⟨g, 0, none⟩) q q)).run Try.prog w' = .ok (.string (zeroS q)) w' := by
  obtain ⟨i0, hi0, hz0, hz1, hz2⟩ := info_parts info_u8
  obtain ⟨w', hrun, r1, r2⟩ := run_make_full (P := Try.prog) w 0 47 5 i0 (.int .u8 0) 1 Try.underlying47 hi0 hz0 hz1 .i64 .i64 q (by rw [hz2]; omega) (by unfold maxLen; omega) (Nat.zero_le _)
  subst hz
  refine ⟨w', w.heap.size, hrun, (Fr.of_grown r2).mono (by simp), zconv ?_⟩
  simpa [Value.cells] using r1

theorem Apd.append3 {x : WS} {d : DS} {l : List ByteArray} (A : Apd x d l) (r : ByteArray) : ∃ l', Apd (x.append d r).2.1 (x.append d r).2.2 l' ∧ (x.append d r).2.2.sec.length = d.sec.length := by
  obtain ⟨l', h⟩ := A.append r
  refine ⟨l', h, ?_⟩
  rcases log_append A.log r A.armed with ⟨_, _, h⟩ | ⟨_, _, _, _, _, _, h⟩
  · rw [h]
  · exact h
theorem room_ok {x : WS} {d : DS} {l : List ByteArray} (A : Apd x d l) (h : 1 ≤ x.room d) : (x.append d (zeroS (x.room d))).1 = 0 := by
  have hf := room_facts A.log
  refine log_append_ok A.log _ A.armed ?_ ?_ (by rw [A.num]; have := A.log.len.1; omega)
  · unfold okRec; rw [zeroS_size]; omega
  · rw [tf_size, zeroS_size]
    rcases hf.2.1 with h1 | h1
    · omega
    · exact h1

set_option maxHeartbeats 1600000 in
set_option maxRecDepth 100000 in
theorem walrooms_any (w : World) (half : Int) (hl1 : -9223372036854775808 ≤ half) (hl2 : half ≤ 9223372036854775807) (a : Option Addr) (n cap : Nat) (ss : List ByteArray) (hn : ss.length = n) (hI : In w 1 a n cap (strV ss)) (hsz : ∀ i, i < n → (sAt ss i).size ≤ 140737488351232) :
    Calls Try.prog 6 #[.int .i64 half, .slice a n cap] w fun e w' => e = .returned (.bool true) ∧ Fr [] w w' := by
  have H := St.refl w
  have HI := hid hI
  have HSZ := hid hsz
  have hm := hI.max
  clear hI hsz
  by_cases hbad : half < 1 ∨ 512 < half
  · have HF := hid (st_fixed09 H)
    clear H
    by_cases h1 : half < 1
    · clear hbad
      go_enter Try.func6, Try.ntmps6
      go_wp2_with fail
      refine HF.out.mono ?_
      rintro e w1 ⟨rfl, H⟩
      go_wp2_with fail
      go_ret
      exact ⟨rfl, H.fr⟩
    · have h2 : 512 < half := by omega
      clear hbad
      go_enter Try.func6, Try.ntmps6
      go_wp2_with fail
      refine HF.out.mono ?_
      rintro e w1 ⟨rfl, H⟩
      go_wp2_with fail
      go_ret
      exact ⟨rfl, H.fr⟩
  obtain ⟨hf, rfl⟩ : ∃ hf : Nat, half = hf := ⟨half.toNat, by omega⟩
  have h1 : 1 ≤ hf := by omega
  have h2 : hf ≤ 512 := by omega
  have HL := hid (st_laid H hf h1 h2)
  have b1 : ¬ (hf : Int) < 1 := by omega
  have b2 : ¬ (512 : Int) < hf := by omega
  have HMX := hid (And.intro hm (And.intro hn (And.intro h1 h2)))
  clear H hbad hl1 hl2 h1 h2 hm hn
  go_enter Try.func6, Try.ntmps6
  go_wp2_with fail
  refine HL.out.mono ?_
  rintro e w1 ⟨D, B, d0, rfl, H, hl⟩
  have HS := hid H
  have HA := hid (show Apd ⟨fmtH, 0, false⟩ d0 [] ∧ d0.sec.length = 2 + 2 * hf from ⟨⟨hl.out.1, hl.out.2.1, by rw [hl.out.2.2.1]; decide, rfl⟩, hl.out.2.2.2.1⟩)
  clear H hl HL b1 b2
  go_wp2_with fail
  go_loopw [7] (fun iv wr => ∃ (k : Nat) (x : WS) (d : DS) (l : List ByteArray), k ≤ n ∧ iv = .int .i64 k ∧ Hid (Apd x d l ∧ d.sec.length = 2 + 2 * hf) ∧ St (.of w) wr [DkT D d, WlT B D x]) (fun iv _ => n - (intOf iv).toNat)
  case atStart => exact ⟨0, _, _, _, Nat.zero_le _, rfl, HA, by simpa using HS.out⟩
  case round =>
    obtain ⟨k, x, d, l, hk, rfl, hA, H⟩ := hrel
    by_cases hlt : k < n
    · obtain ⟨b, off, rfl⟩ := HI.out.sm (by omega)
      obtain ⟨r, hr⟩ : ∃ r, sAt ss k = r := ⟨_, rfl⟩
      have hcell : ∀ w', Fr [] w w' → w'.cell? ⟨b, off + k, none⟩ = some (.string r) := fun w' hF => by
        have h1 := (HI.out.fr0 hF).cell b off rfl k (by omega)
        rw [← hr]; exact h1
      have hrs := HSZ.out k hlt
      rw [hr] at hrs
      have HC := hid hcell
      have HR := hid hrs
      have HLT := hid (And.intro hlt hk)
      have hltI : (k : Int) < n := by omega
      have HK := hid (show IntKind.i64.wrap ((k : Int) + 1) = (k : Int) + 1 from IntWalk.i64_in _ (by have := HMX.out.1; omega))
      have HLg := hid hA.out.1.log
      have hrf := room_facts hA.out.1.log
      have hRM : ∀ (w' : World) (T : List Thing), St (.of w) w' ([DkT D d, WlT B D x] ++ T) → Calls Try.prog 18 #[.pointer (some ⟨B, 0, none⟩)] w' fun e w'' => e = .returned (.int .i64 (x.room d : Nat)) ∧ St (.of w) w'' ([DkT D d, WlT B D x] ++ T) := fun w' T h => st_wroom h 1 0 rfl rfl HLg.out.i
      obtain ⟨m, hm⟩ : ∃ m, x.room d = m := ⟨_, rfl⟩
      rw [hm] at hrf hRM
      have HRM := hid hRM
      have HRF := hid hrf
      have hAPP : ∀ (w' : World) (T : List Thing) (q : ByteArray), q.size ≤ 140737488355328 → St (.of w) w' ([DkT D d, WlT B D x] ++ T) → (q.size = 0 ∨ 2048 < q.size ∨ 1 ≤ q.size ∧ q.size ≤ 2048 ∧ roomN d.sec.length < x.h.snap + x.h.log + (tf q).size) → Calls Try.prog 12 #[.pointer (some ⟨B, 0, none⟩), .string q] w' fun e w'' => e = .returned (.int .i64 (if 1 ≤ q.size ∧ q.size ≤ 2048 then 93 else 92)) ∧ St (.of w) w'' ([DkT D d, WlT B D x] ++ T) := fun w' T q hq h hc => by
        have h1 := st_wappend h 1 0 (B := B) (D := D) (x := x) (d := d) rfl rfl (by decide) HLg.out.i q hq hA.out.1.rawOk
        rcases hc with hc | hc | hc
        · rw [append_empty HLg.out.alive HLg.out.on (.inl hc)] at h1
          rw [if_neg (by omega)]
          exact h1
        · rw [append_empty HLg.out.alive HLg.out.on (.inr hc)] at h1
          rw [if_neg (by omega)]
          exact h1
        · rw [append_full HLg.out.alive HLg.out.on hc.1 hc.2.1 hc.2.2] at h1
          rw [if_pos ⟨hc.1, hc.2.1⟩]
          exact h1
      have HAPP := hid hAPP
      obtain ⟨sq, hsq⟩ : ∃ q, min (128 * hf) 17000 + 1 = q := ⟨_, rfl⟩
      have hsq1 : sq ≤ 17001 := by omega
      have hzq : wrap64 (min (wrap64 (128 * (hf : Int))) 17000 + 1) = ((sq : Nat) : Int) := by
        have hb := HMX.out.2.2
        rw [IntWalk.wrap64_in (128 * (hf : Int)) (by omega)]
        rw [IntWalk.wrap64_in _ (by omega)]
        omega
      have hSNP : ∀ (w' : World) (T : List Thing), St (.of w) w' ([DkT D d, WlT B D x] ++ T) → Calls Try.prog 17 #[.pointer (some ⟨B, 0, none⟩), .string (zeroS sq)] w' fun e w'' => e = .returned (.int .i64 92) ∧ St (.of w) w'' ([DkT D d, WlT B D x] ++ T) := fun w' T h => by
        have h1 := st_wsnapshot h 1 0 (B := B) (D := D) (x := x) (d := d) rfl rfl (by decide) HLg.out.i (zeroS sq) (by rw [zeroS_size]; omega) hA.out.1.rawOk
        rw [snapshot_long HLg.out.alive HLg.out.on (by
          have hlen := hA.out.2
          have hro := (roomN_ok HLg.out.fit).2.2.2
          rw [zeroS_size, hro, hlen]; omega)] at h1
        exact h1
      have HSNP := hid hSNP
      have HSQ := hid (And.intro hsq1 hzq)
      clear hsq hsq1 hzq hSNP
      obtain ⟨z, hz⟩ : ∃ z, (x.append d r).1 = z := ⟨_, rfl⟩
      obtain ⟨x', hx'⟩ : ∃ y, (x.append d r).2.1 = y := ⟨_, rfl⟩
      obtain ⟨d', hd'⟩ : ∃ y, (x.append d r).2.2 = y := ⟨_, rfl⟩
      obtain ⟨l', hA', hln⟩ := hA.out.1.append3 r
      rw [hx', hd'] at hA'
      rw [hd', hA.out.2] at hln
      have hap : ∀ (w' : World), St (.of w) w' ([DkT D d, WlT B D x] ++ []) → Calls Try.prog 12 #[.pointer (some ⟨B, 0, none⟩), .string r] w' fun e w'' => e = .returned (.int .i64 z) ∧ St (.of w) w'' [DkT D d', WlT B D x'] := fun w' h => by
        have h2 := st_wappend h 1 0 (B := B) (D := D) (x := x) (d := d) rfl rfl (by decide) HLg.out.i r (by have := HR.out; omega) hA.out.1.rawOk
        rw [hz, hx', hd'] at h2
        exact h2
      have HAPT := hid hap
      have HA' := hid (And.intro hA' hln)
      clear hap hz hx' hd' hA' hln
      have HM := hid hm
      have HSC := hid (st_sectors H 0 rfl HLg.out.wf)
      clear hcell hrs hr hrf hRM hAPP hm H hlt hk HS
      go_wp2_with fail
      refine HSC.out.mono ?_
      rintro e w2 ⟨g1, p1, rfl, H⟩
      have HR1 := hid (HRM.out w2 _ H)
      clear H HSC
      go_wp2_with fail
      refine HR1.out.mono ?_
      rintro e w3 ⟨rfl, H⟩
      have n1 : ¬ (m : Int) < 0 := by omega
      have n2 : ¬ (2048 : Int) < m := by have := HRF.out.1; omega
      have HAE := HAPP.out w3 _ ⟨#[]⟩ (by decide) H (.inl rfl)
      rw [if_neg (by decide)] at HAE
      have HAE := hid HAE
      clear H HR1
      go_wp2_with fail
      refine HAE.out.mono ?_
      rintro e w4 ⟨rfl, H⟩
      have HH := hid H
      clear H HAE
      go_wp2_with fail
      obtain ⟨wm, g, hmk, hFm, hcv⟩ := mkz w4 2049 2049 (rfl) (by decide)
      rw [hmk]
      simp only [Result.andThen]
      rw [Oper.upon_value]
      have hSm := HH.out.same hFm
      clear hmk hFm HH
      have HAE := HAPP.out wm _ (zeroS 2049) (by rw [zeroS_size]; decide) hSm (.inr (.inl (by rw [zeroS_size]; decide)))
      rw [if_neg (by rw [zeroS_size]; decide)] at HAE
      have HAE := hid HAE
      clear hSm
      go_wp2_with fail
      refine HAE.out.mono ?_
      rintro e w5 ⟨rfl, H⟩
      have HH := hid H
      clear H HAE hcv
      rcases (show m = 2048 ∨ (m ≤ 2047 ∧ m = 0) ∨ (m ≤ 2047 ∧ 1 ≤ m) by have := HRF.out.1; omega) with hm8 | ⟨hm8, hm0⟩ | ⟨hm8, hm0⟩
      · have n3 : ¬ (m : Int) < 2048 := by omega
        have hm1 : 1 ≤ m := by omega
        have HM8 := hid hm8
        have H := HH.out
        clear hm8
        have HAE := trivial
        have hcv := trivial
        clear HH
        have HH := hid H
        clear H HAE hcv
        go_wp2_with fail
        obtain ⟨wm, g, hmk, hFm, hcv⟩ := mkz w5 _ sq (HSQ.out.2) (by have := HSQ.out.1; omega)
        rw [hmk]
        simp only [Result.andThen]
        rw [Oper.upon_value]
        have hSm := HH.out.same hFm
        clear hmk hFm HH
        have HSN := hid (HSNP.out wm _ hSm)
        clear hSm
        go_wp2_with fail
        refine HSN.out.mono ?_
        rintro e w8 ⟨rfl, H⟩
        have HK1 := hid (st_sectors H 0 rfl HLg.out.wf)
        clear H HSN hcv
        go_wp2_with fail
        refine HK1.out.mono ?_
        rintro e w9 ⟨g2, p2, rfl, H⟩
        try simp only [List.nil_append, List.cons_append, List.set_cons_zero, List.set_cons_succ] at H
        have HK2 := hid (st_same H (H.in_ 3 rfl) (H.in_ 2 rfl))
        clear H HK1
        go_wp2_with fail
        refine HK2.out.mono ?_
        rintro e w10 ⟨rfl, H⟩
        have HK3 := hid (HRM.out w10 [] (H.take 2))
        clear H HK2
        go_wp2_with fail
        refine HK3.out.mono ?_
        rintro e w11 ⟨rfl, H⟩
        have hdd := st_wdead H 1 (B := B) (D := D) (x := x) rfl
        rw [HLg.out.alive] at hdd
        have HK4 := hid hdd
        clear H HK3 hdd
        go_wp2_with fail
        refine HK4.out.mono ?_
        rintro e w12 ⟨rfl, H⟩
        have HK5 := hid (st_clone H 0 rfl HLg.out.wf (by have := hA.out.1.rawOk; omega))
        clear H HK4
        go_wp2_with fail
        refine HK5.out.mono ?_
        rintro e w13 ⟨C, rfl, H⟩
        try simp only [List.nil_append, List.cons_append, List.set_cons_zero, List.set_cons_succ] at H
        have HK6 := hid (st_wclone H 1 rfl C)
        clear H HK5
        go_wp2_with fail
        refine HK6.out.mono ?_
        rintro e w14 ⟨N, rfl, H⟩
        try simp only [List.nil_append, List.cons_append, List.set_cons_zero, List.set_cons_succ] at H
        have HH := hid H
        clear H HK6
        go_wp2_with fail
        obtain ⟨wm, g, hmk, hFm, hcv⟩ := mkz w14 _ m (rfl) (by omega)
        rw [hmk]
        simp only [Result.andThen]
        rw [Oper.upon_value]
        have hSm := HH.out.same hFm
        clear hmk hFm HH
        have hca := st_wappend hSm 3 2 (B := N) (D := C) (x := x) (d := d) rfl rfl (by decide) HLg.out.i (zeroS m) (by rw [zeroS_size]; omega) hA.out.1.rawOk
        rw [show (x.append d (zeroS m)).1 = 0 from by have := room_ok hA.out.1 (by rw [HM.out]; exact hm1); rw [HM.out] at this; exact this] at hca
        have HCA := hid hca
        clear hSm hca
        go_wp2_with fail
        refine HCA.out.mono ?_
        rintro e w16 ⟨rfl, H⟩
        have HK7 := hid (HRM.out w16 [] (H.take 2))
        clear H
        go_wp2_with fail
        refine HK7.out.mono ?_
        rintro e w17 ⟨rfl, H⟩
        clear HK7
        have c1 := HC.out w17 H.fr
        have HH := hid H
        clear H
        go_wp2_with fail
        refine (HAPT.out w17 HH.out).mono ?_
        rintro e w18 ⟨rfl, H⟩
        have HEND := hid H
        clear H HH c1
        have hwk := HK.out
        go_wp2_with fail
        go_roundw
        case rel => exact ⟨k + 1, x', d', l', HLT.out.1, by go_num, HA', HEND.out⟩
        case measure => have := HLT.out.1; simp [intOf]; omega
      · subst hm0
        have n3 : ((0 : Nat) : Int) < 2048 := by omega
        go_wp2_with fail
        obtain ⟨wm, g, hmk, hFm, hcv⟩ := mkz w5 1 1 (rfl) (by omega)
        rw [hmk]
        simp only [Result.andThen]
        rw [Oper.upon_value]
        have hSm := HH.out.same hFm
        clear hmk hFm HH
        have HAE := HAPP.out wm _ (zeroS 1) (by rw [zeroS_size]; omega) hSm (.inr (.inr (by rw [zeroS_size]; have := HRF.out.2.2 (by omega); exact ⟨by omega, by omega, by rw [tf_size, zeroS_size]; exact this⟩)))
        rw [if_pos (by rw [zeroS_size]; omega)] at HAE
        have HAE := hid HAE
        clear hSm
        go_wp2_with fail
        refine HAE.out.mono ?_
        rintro e w7 ⟨rfl, H⟩
        have HH := hid H
        clear H HAE hcv
        go_wp2_with fail
        obtain ⟨wm, g, hmk, hFm, hcv⟩ := mkz w7 _ sq (HSQ.out.2) (by have := HSQ.out.1; omega)
        rw [hmk]
        simp only [Result.andThen]
        rw [Oper.upon_value]
        have hSm := HH.out.same hFm
        clear hmk hFm HH
        have HSN := hid (HSNP.out wm _ hSm)
        clear hSm
        go_wp2_with fail
        refine HSN.out.mono ?_
        rintro e w8 ⟨rfl, H⟩
        have HK1 := hid (st_sectors H 0 rfl HLg.out.wf)
        clear H HSN hcv
        go_wp2_with fail
        refine HK1.out.mono ?_
        rintro e w9 ⟨g2, p2, rfl, H⟩
        try simp only [List.nil_append, List.cons_append, List.set_cons_zero, List.set_cons_succ] at H
        have HK2 := hid (st_same H (H.in_ 3 rfl) (H.in_ 2 rfl))
        clear H HK1
        go_wp2_with fail
        refine HK2.out.mono ?_
        rintro e w10 ⟨rfl, H⟩
        have HK3 := hid (HRM.out w10 [] (H.take 2))
        clear H HK2
        go_wp2_with fail
        refine HK3.out.mono ?_
        rintro e w11 ⟨rfl, H⟩
        have hdd := st_wdead H 1 (B := B) (D := D) (x := x) rfl
        rw [HLg.out.alive] at hdd
        have HK4 := hid hdd
        clear H HK3 hdd
        go_wp2_with fail
        refine HK4.out.mono ?_
        rintro e w12 ⟨rfl, H⟩
        have HK5 := hid (st_clone H 0 rfl HLg.out.wf (by have := hA.out.1.rawOk; omega))
        clear H HK4
        go_wp2_with fail
        refine HK5.out.mono ?_
        rintro e w13 ⟨C, rfl, H⟩
        try simp only [List.nil_append, List.cons_append, List.set_cons_zero, List.set_cons_succ] at H
        have HK6 := hid (st_wclone H 1 rfl C)
        clear H HK5
        go_wp2_with fail
        refine HK6.out.mono ?_
        rintro e w14 ⟨N, rfl, H⟩
        try simp only [List.nil_append, List.cons_append, List.set_cons_zero, List.set_cons_succ] at H
        have HH := hid H
        clear H HK6
        go_wp2_with fail
        refine (HRM.out w14 [] (HH.out.take 2)).mono ?_
        rintro e w17 ⟨rfl, H⟩
        clear HH
        have c1 := HC.out w17 H.fr
        have HH := hid H
        clear H
        go_wp2_with fail
        refine (HAPT.out w17 HH.out).mono ?_
        rintro e w18 ⟨rfl, H⟩
        have HEND := hid H
        clear H HH c1
        have hwk := HK.out
        go_wp2_with fail
        go_roundw
        case rel => exact ⟨k + 1, x', d', l', HLT.out.1, by go_num, HA', HEND.out⟩
        case measure => have := HLT.out.1; simp [intOf]; omega
      · have n3 : (m : Int) < 2048 := by omega
        have w6 : IntKind.i64.wrap ((m : Int) + 1) = ((m + 1 : Nat) : Int) := by rw [show ((m + 1 : Nat) : Int) = (m : Int) + 1 from Int.natCast_add _ _]; exact IntWalk.i64_in _ (by omega)
        go_wp2_with fail
        obtain ⟨wm, g, hmk, hFm, hcv⟩ := mkz w5 ((m : Int) + 1) (m + 1) (by omega) (by omega)
        rw [hmk]
        simp only [Result.andThen]
        rw [Oper.upon_value]
        have hSm := HH.out.same hFm
        clear hmk hFm HH
        have HAE := HAPP.out wm _ (zeroS (m + 1)) (by rw [zeroS_size]; omega) hSm (.inr (.inr (by rw [zeroS_size]; have := HRF.out.2.2 (by omega); exact ⟨by omega, by omega, by rw [tf_size, zeroS_size]; exact this⟩)))
        rw [if_pos (by rw [zeroS_size]; omega)] at HAE
        have HAE := hid HAE
        clear hSm w6
        go_wp2_with fail
        refine HAE.out.mono ?_
        rintro e w7 ⟨rfl, H⟩
        have HH := hid H
        clear H HAE hcv
        go_wp2_with fail
        obtain ⟨wm, g, hmk, hFm, hcv⟩ := mkz w7 _ sq (HSQ.out.2) (by have := HSQ.out.1; omega)
        rw [hmk]
        simp only [Result.andThen]
        rw [Oper.upon_value]
        have hSm := HH.out.same hFm
        clear hmk hFm HH
        have HSN := hid (HSNP.out wm _ hSm)
        clear hSm
        go_wp2_with fail
        refine HSN.out.mono ?_
        rintro e w8 ⟨rfl, H⟩
        have HK1 := hid (st_sectors H 0 rfl HLg.out.wf)
        clear H HSN hcv
        go_wp2_with fail
        refine HK1.out.mono ?_
        rintro e w9 ⟨g2, p2, rfl, H⟩
        try simp only [List.nil_append, List.cons_append, List.set_cons_zero, List.set_cons_succ] at H
        have HK2 := hid (st_same H (H.in_ 3 rfl) (H.in_ 2 rfl))
        clear H HK1
        go_wp2_with fail
        refine HK2.out.mono ?_
        rintro e w10 ⟨rfl, H⟩
        have HK3 := hid (HRM.out w10 [] (H.take 2))
        clear H HK2
        go_wp2_with fail
        refine HK3.out.mono ?_
        rintro e w11 ⟨rfl, H⟩
        have hdd := st_wdead H 1 (B := B) (D := D) (x := x) rfl
        rw [HLg.out.alive] at hdd
        have HK4 := hid hdd
        clear H HK3 hdd
        go_wp2_with fail
        refine HK4.out.mono ?_
        rintro e w12 ⟨rfl, H⟩
        have HK5 := hid (st_clone H 0 rfl HLg.out.wf (by have := hA.out.1.rawOk; omega))
        clear H HK4
        go_wp2_with fail
        refine HK5.out.mono ?_
        rintro e w13 ⟨C, rfl, H⟩
        try simp only [List.nil_append, List.cons_append, List.set_cons_zero, List.set_cons_succ] at H
        have HK6 := hid (st_wclone H 1 rfl C)
        clear H HK5
        go_wp2_with fail
        refine HK6.out.mono ?_
        rintro e w14 ⟨N, rfl, H⟩
        try simp only [List.nil_append, List.cons_append, List.set_cons_zero, List.set_cons_succ] at H
        have HH := hid H
        clear H HK6
        go_wp2_with fail
        obtain ⟨wm, g, hmk, hFm, hcv⟩ := mkz w14 _ m (rfl) (by omega)
        rw [hmk]
        simp only [Result.andThen]
        rw [Oper.upon_value]
        have hSm := HH.out.same hFm
        clear hmk hFm HH
        have hca := st_wappend hSm 3 2 (B := N) (D := C) (x := x) (d := d) rfl rfl (by decide) HLg.out.i (zeroS m) (by rw [zeroS_size]; omega) hA.out.1.rawOk
        rw [show (x.append d (zeroS m)).1 = 0 from by have := room_ok hA.out.1 (by rw [HM.out]; exact hm0); rw [HM.out] at this; exact this] at hca
        have HCA := hid hca
        clear hSm hca
        go_wp2_with fail
        refine HCA.out.mono ?_
        rintro e w16 ⟨rfl, H⟩
        have HK7 := hid (HRM.out w16 [] (H.take 2))
        clear H
        go_wp2_with fail
        refine HK7.out.mono ?_
        rintro e w17 ⟨rfl, H⟩
        clear HK7
        have c1 := HC.out w17 H.fr
        have HH := hid H
        clear H
        go_wp2_with fail
        refine (HAPT.out w17 HH.out).mono ?_
        rintro e w18 ⟨rfl, H⟩
        have HEND := hid H
        clear H HH c1
        have hwk := HK.out
        go_wp2_with fail
        go_roundw
        case rel => exact ⟨k + 1, x', d', l', HLT.out.1, by go_num, HA', HEND.out⟩
        case measure => have := HLT.out.1; simp [intOf]; omega
    · obtain rfl : k = n := by omega
      have HF := hid (st_fixed09 H)
      clear H HS
      go_wp2_with fail
      refine HF.out.mono ?_
      rintro e w2 ⟨rfl, H⟩
      have hfr := hid H.fr
      clear H
      go_wp2_with fail
      go_ret
      exact ⟨rfl, hfr.out⟩
theorem walrooms_walk (w : World) (half : Int) (h1 : -9223372036854775808 ≤ half) (h2 : half ≤ 9223372036854775807) (a : Option Addr) (n cap : Nat) (V : Nat → Value) (hS : SlIn w 1 16 a n cap V) (hq : ∀ i, i < n → Str (V (i * 1))) :
    Calls Try.prog 6 #[.int .i64 half, .slice a n cap] w fun e w' => e = .returned (.bool true) ∧ Fr [] w w' := by
  obtain ⟨ss, hl, hI, _, hsz⟩ := strs_of hS hq
  exact walrooms_any w half h1 h2 a n cap ss hl hI hsz
end Go.Proofs.Ythghnlgojmedgaa

/-
  A law's argument as a list of integers; lives of a log that came in.
-/
namespace Go.Proofs.Ythghnlgojmedgaa
open Go.RowKit Go.ChangeShapes Go.WideShapes Go.ChangeAt
set_option linter.unusedVariables false

def mAt (l : List Int) (i : Nat) : Int := l.getD i 0
def mV (l : List Int) : Nat → Value := fun i => .int .i64 (mAt l i)
theorem ints_of {w : World} {a : Option Addr} {len cap : Nat} {V : Nat → Value} (h : SlIn w 1 8 a len cap V) (hq : ∀ i, i < len → I64 (V (i * 1))) :
    ∃ ms : List Int, ms.length = len ∧ In w 1 a len cap (mV ms) := by
  have e : ∀ i, i < len → V i = .int .i64 (intOf (V i)) := fun i hi => by
    obtain ⟨s, hs, _⟩ := hq i hi
    rw [Nat.mul_one] at hs; rw [hs]; rfl
  have hat : ∀ i, i < len → mAt ((List.range len).map fun i => intOf (V i)) i = intOf (V i) := fun i hi => by
    unfold mAt; simp [List.getD, hi]
  refine ⟨(List.range len).map fun i => intOf (V i), by simp, ⟨h.le, by unfold maxLen; exact h.mx, h.sm, fun b off e1 j hj => ?_⟩⟩
  rw [h.cell b off e1 j hj]
  unfold mV
  rw [hat j (by omega), ← e j (by omega)]

/-- A life. -/
structure Lf where
  texts : List ByteArray
  ta : Option Addr
  tc : Nat
  marks : List Int
  ma : Option Addr
  mc : Nat
  n : Int
  bytes : Int
def lfL : Lay Lf where
  f := fun x => [.slice x.ta x.texts.length x.tc, .slice x.ma x.marks.length x.mc, .int .i64 x.n, .int .i64 x.bytes]
  d := ⟨[], none, 0, [], none, 0, 0, 0⟩
  sz := 4
  len := fun _ => rfl
  pos := by decide
  one := fun a u hu => by simp at hu; rcases hu with rfl | rfl | rfl | rfl <;> rfl
/-- A life that came in. -/
structure OneLf (w : World) (x : Lf) : Prop where
  tx : In w 1 x.ta x.texts.length x.tc (strV x.texts)
  mks : In w 1 x.ma x.marks.length x.mc (mV x.marks)
  tsz : ∀ i, i < x.texts.length → (sAt x.texts i).size ≤ 140737488351232
  n1 : -9223372036854775808 ≤ x.n
  n2 : x.n ≤ 9223372036854775807
  b1 : -9223372036854775808 ≤ x.bytes
  b2 : x.bytes ≤ 9223372036854775807
/-- Lives that came in. -/
structure LfArg (w : World) (a : Option Addr) (n cap : Nat) (l : List Lf) : Prop where
  row : In w 4 a n cap (lfL.at_ l)
  len : l.length = n
  one : ∀ x, x ∈ l → OneLf w x
theorem lf_cells {w : World} {b o n cap : Nat} {l : List Lf} (h : In w 4 (some ⟨b, o, none⟩) n cap (lfL.at_ l)) (k : Nat) (hk : k < n) (x : Lf) (hx : lfL.nth l k = x) :
    w.cell? ⟨b, o + k * 4, none⟩ = some (.slice x.ta x.texts.length x.tc) ∧ w.cell? ⟨b, o + k * 4 + 1, none⟩ = some (.slice x.ma x.marks.length x.mc) ∧ w.cell? ⟨b, o + k * 4 + 2, none⟩ = some (.int .i64 x.n) ∧ w.cell? ⟨b, o + k * 4 + 3, none⟩ = some (.int .i64 x.bytes) := by
  have hc : ∀ q, q < 4 → w.cell? ⟨b, o + k * 4 + q, none⟩ = some ((lfL.f x).getD q undef) := fun q hq => by
    have h1 := h.cell b o rfl (k * 4 + q) (by omega)
    rw [show k * 4 + q = k * lfL.sz + q from rfl, lfL.at_add _ _ q hq, hx] at h1
    rw [Nat.add_assoc]; exact h1
  exact ⟨hc 0 (by decide), hc 1 (by decide), hc 2 (by decide), hc 3 (by decide)⟩
theorem LfArg.nth {w : World} {a : Option Addr} {n cap : Nat} {l : List Lf} (h : LfArg w a n cap l) (k : Nat) (hk : k < n) : OneLf w (lfL.nth l k) := by
  have hl := h.len
  refine h.one _ ?_
  unfold Lay.nth
  rw [List.getD_eq_getElem?_getD, List.getElem?_eq_getElem (by omega)]
  exact List.getElem_mem _

theorem flat_lf : flat Try.prog 6 42 = some [.other 22, .other 36, .int .i64, .int .i64] := by kernel_rfl
theorem lf_bytes : Try.prog.bytesOf 42 = 64 := by kernel_rfl
theorem flat_txt : flat Try.prog 6 9 = some [.str] := by kernel_rfl
theorem flat_num : flat Try.prog 6 3 = some [.int .i64] := by kernel_rfl
theorem txt_bytes : Try.prog.bytesOf 9 = 16 := by kernel_rfl
theorem num_bytes : Try.prog.bytesOf 3 = 8 := by kernel_rfl
section
variable {H : Type} {enc : TypeId × Value → H} {w : World} {base : Nat} {spare : Nat → Bool} {held : Bool}
theorem oneLf_arg {c : Nat → Value} (hsp : ∀ b, spare b = true)
    (h : ∀ (q : Nat) (L : Leaf), ([.other 22, .other 36, .int .i64, .int .i64] : List Leaf)[q]? = some L → L.ok enc Try.prog w reachBytes base spare held (c q)) :
    ∃ x : Lf, OneLf w x ∧ ∀ q, q < 4 → c q = (lfL.f x).getD q undef := by
  obtain ⟨n2, e2, l2, u2⟩ := i64_ok (h 2 _ rfl)
  obtain ⟨n3, e3, l3, u3⟩ := i64_ok (h 3 _ rfl)
  obtain ⟨a0, k0, cap0, V0, e0, hS0, hL0⟩ := in_flat Try.underlying22 flat_txt (by decide) hsp (h 0 _ rfl)
  obtain ⟨a1, k1, cap1, V1, e1, hS1, hL1⟩ := in_flat Try.underlying36 flat_num (by decide) hsp (h 1 _ rfl)
  rw [txt_bytes] at hS0
  rw [num_bytes] at hS1
  obtain ⟨ss, hsl, hsI, _, hsz⟩ := strs_of hS0 (fun i hi => str_ok (hL0 i hi 0 _ rfl))
  obtain ⟨ms, hml, hmI⟩ := ints_of hS1 (fun i hi => i64_ok (hL1 i hi 0 _ rfl))
  subst hsl hml
  refine ⟨⟨ss, a0, cap0, ms, a1, cap1, n2, n3⟩, ⟨hsI, hmI, hsz, l2, u2, l3, u3⟩, ?_⟩
  intro q hq
  match q, hq with
  | 0, _ => exact e0
  | 1, _ => exact e1
  | 2, _ => exact e2
  | 3, _ => exact e3
theorem lives_arg {v : Value} (hsp : ∀ b, spare b = true) (h : (Leaf.other 40).ok enc Try.prog w reachBytes base spare held v) :
    ∃ (a : Option Addr) (n cap : Nat) (l : List Lf), v = .slice a n cap ∧ LfArg w a n cap l := by
  obtain ⟨a, len, cap, V, rfl, hS, hL⟩ := in_flat Try.underlying40 flat_lf (by decide) hsp h
  rw [lf_bytes] at hS
  have hone : ∀ i, i < len → ∃ x : Lf, OneLf w x ∧ ∀ q, q < 4 → V (i * 4 + q) = (lfL.f x).getD q undef := fun i hi => oneLf_arg (c := fun q => V (i * 4 + q)) hsp (fun q L hq => hL i hi q L hq)
  let g : Nat → Lf := fun i => if h : i < len then Classical.choose (hone i h) else lfL.d
  have hg : ∀ i, i < len → OneLf w (g i) ∧ ∀ q, q < 4 → V (i * 4 + q) = (lfL.f (g i)).getD q undef := fun i hi => by
    have := Classical.choose_spec (hone i hi)
    simpa only [g, dif_pos hi] using this
  have hlen : ((List.range len).map g).length = len := by simp
  refine ⟨a, len, cap, (List.range len).map g, rfl, ?_, hlen, fun x hx => ?_⟩
  · refine ⟨hS.le, by unfold maxLen; exact hS.mx, hS.sm, fun b off e j hj => ?_⟩
    have hj : j < len * 4 := hj
    rw [hS.cell b off e j hj]
    have hk : j / 4 < len := by omega
    have hq : j % 4 < 4 := Nat.mod_lt _ (by decide)
    have e1 : V j = (lfL.f (g (j / 4))).getD (j % 4) undef := by
      have := (hg (j / 4) hk).2 (j % 4) hq
      rwa [show j / 4 * 4 + j % 4 = j by omega] at this
    have e2 : lfL.at_ ((List.range len).map g) j = (lfL.f (g (j / 4))).getD (j % 4) undef := by
      have := lfL.at_add ((List.range len).map g) (j / 4) (j % 4) hq
      rw [show j / 4 * lfL.sz + j % 4 = j by show j / 4 * 4 + j % 4 = j; omega] at this
      rw [this]
      simp [Lay.nth, hk]
    rw [e1, e2]
  · obtain ⟨i, hi, rfl⟩ := List.mem_map.1 hx
    exact (hg i (by simpa using hi)).1
end
end Go.Proofs.Ythghnlgojmedgaa

/-
  The remainder of a number below nought. Of no program.
-/
namespace Go.Proofs.Ythghnlgojmedgaa
open Go.RowKit
set_option linter.unusedVariables false

theorem tmod_of_neg4 (n m : Int) (hn : n < 0) (hm : 1 ≤ m) : n.tmod m = if n % m = 0 then 0 else n % m - m := by
  have key : n.tmod m = - ((-n) % m) := by
    rw [← Int.tmod_eq_emod_of_nonneg (by omega : 0 ≤ -n), Int.neg_tmod]; simp
  rw [key]
  have h1 := Int.mul_ediv_add_emod n m
  have h2 := Int.mul_ediv_add_emod (-n) m
  have e1 : 0 ≤ (-n) % m := Int.emod_nonneg _ (by omega)
  have e2 : (-n) % m < m := Int.emod_lt_of_pos _ (by omega)
  have e3 : 0 ≤ n % m := Int.emod_nonneg _ (by omega)
  have e4 : n % m < m := Int.emod_lt_of_pos _ (by omega)
  have hd : (n % m + (-n) % m) % m = 0 := by
    rw [← Int.add_emod, Int.add_right_neg, Int.zero_emod]
  by_cases hz : n % m = 0
  · rw [if_pos hz]; rw [hz] at hd; simp at hd; omega
  · rw [if_neg hz]
    have : n % m + (-n) % m < 2 * m := by omega
    by_cases hlt : n % m + (-n) % m < m
    · rw [Int.emod_eq_of_lt (by omega) hlt] at hd; omega
    · have : (n % m + (-n) % m - m) % m = 0 := by rw [Int.sub_emod, hd]; simp
      rw [Int.emod_eq_of_lt (by omega) (by omega)] at this; omega

end Go.Proofs.Ythghnlgojmedgaa

/-
  The laws' helper 'place' of layer 9.
-/
namespace Go.Proofs.Ythghnlgojmedgaa
open Go.RowKit
set_option linter.unusedVariables false

theorem place09 (n m : Int) (w : World) (h1 : -9223372036854775808 ≤ n) (h2 : n ≤ 9223372036854775807) (h3 : 1 ≤ m) (h4 : m ≤ 1000000) :
    Calls Try.prog 20 #[.int .i64 n, .int .i64 m] w fun e w' => e = .returned (.int .i64 (n % m)) ∧ w = w' := by
  have hm : (m == 0) = false := by simp; omega
  by_cases hn : 0 ≤ n
  · have e1 : 0 ≤ n % m := Int.emod_nonneg _ (by omega)
    have hp : ¬ n % m < 0 := by omega
    go_enter Try.func20, Try.ntmps20
    go_wp2
    go_ret
    exact ⟨rfl, rfl⟩
  · have ht := tmod_of_neg4 n m (by omega) h3
    have e3 : 0 ≤ n % m := Int.emod_nonneg _ (by omega)
    have e4 : n % m < m := Int.emod_lt_of_pos _ (by omega)
    by_cases hz : n % m = 0
    · rw [if_pos hz] at ht
      have b1 : 0 ≤ n.tmod m := by omega
      have b2 : n.tmod m ≤ 0 := by omega
      have b3 : ¬ n.tmod m < 0 := by omega
      have H := hid (ht.trans hz.symm)
      clear ht hz
      go_enter Try.func20, Try.ntmps20
      go_wp2
      go_ret
      exact ⟨by rw [← H.out]; rfl, rfl⟩
    · rw [if_neg hz] at ht
      have b1 : n.tmod m < 0 := by omega
      have b2 : -m < n.tmod m := by omega
      have H := hid (show n.tmod m + m = n % m by omega)
      clear ht hz
      go_enter Try.func20, Try.ntmps20
      go_wp2
      go_ret
      exact ⟨by rw [← H.out]; rfl, rfl⟩

end Go.Proofs.Ythghnlgojmedgaa

/-
  A log over cuts, as plain data: behind a call that was cut. Of no program.
-/
namespace Go.Proofs.Ythghnlgojmedgaa
set_option linter.unusedVariables false
set_option linter.unusedSimpArgs false

/-- A disk on which a log lies, of which the next head's sector tells no head of that number. -/
structure Lay9 (d : DS) (h : WH) (s : ByteArray) (l : List ByteArray) : Prop where
  wf : d.wf
  fit : roomN d.sec.length ≠ 0
  cnt : Cnt d.sec h s l
  stale : Stale (sAt d.sec ((h.number + 1) % 2)) (h.number + 1)

theorem plan_all (ss : List ByteArray) (half at_ : Nat) (t : List UInt8) : plan ss half at_ t = (plan ss half at_ t).take (pN at_ t) := by
  rw [← plan_len ss half at_ t, List.take_length]

/-- A call, cut or not. -/
theorem call_any {d : DS} {h h' : WH} {s s' t : ByteArray} {l l' : List ByteArray} {at_ : Nat} (L : Lay9 d h s l) (hon : d.dead = false) (P : Pl d.sec h'.half at_ (bl t)) (hN : h.number < 1099511627776) (hn : h'.number = h.number + 1)
    (hs : h'.snap ≤ 17000) (hfit : h'.snap + h'.log = at_ + t.size) (e : hTake d.sec h'.half at_ ++ bl t = bl s' ++ frs l') (hs' : s'.size = h'.snap) (ok : okRecs l')
    (hold : h'.half = h.half ∧ at_ = h.snap + h.log ∨ h'.half ≠ h.half) :
    ((d.armed = 0 ∨ ((callW d at_ t h').length : Int) < d.armed) ∧ runP d (callW d at_ t h') = (0, behindN d (callW d at_ t h') (callW d at_ t h').length) ∧ Lay9 (runP d (callW d at_ t h')).2 h' s' l') ∨
    ∃ k, k < (callW d at_ t h').length ∧ d.armed = k + 1 ∧ (runP d (callW d at_ t h')).1 = 2 ∧ (runP d (callW d at_ t h')).2.dead = true ∧ (runP d (callW d at_ t h')).2.raw.length = d.raw.length + k ∧
      (k + 1 = (callW d at_ t h').length ∧ d.bytes = 128 ∧ Lay9 (runP d (callW d at_ t h')).2 h' s' l' ∨ ¬ (k + 1 = (callW d at_ t h').length ∧ d.bytes = 128) ∧ Lay9 (runP d (callW d at_ t h')).2 h s l) := by
  have hwd := run_wfD (callW d at_ t h') d L.wf
  have hpar : h'.number % 2 = (h.number + 1) % 2 := by rw [hn]
  have hpar2 : h.number % 2 = (h'.number + 1) % 2 := by omega
  have hf := P.fit
  have hset : ∀ c : ByteArray, sAt ((setAll d.sec (plan d.sec h'.half at_ (bl t))).set (h'.number % 2) c) (h'.number % 2) = c := fun c => by
    rw [sAt_set' _ _ _ _ (by rw [setAll_len]; omega), if_pos rfl]
  have hdone := cnt_done (s' := s') (l' := l') L.cnt P hN hn rfl hs (by rw [bl_len]; exact hfit) e hs' ok
  have hnew : ∀ D : DS, D.wf → D.sec = (setAll d.sec (plan d.sec h'.half at_ (bl t))).set (h'.number % 2) (secB h') → Lay9 D h' s' l' := fun D hDw hDs => by
    refine ⟨hDw, ?_, by rw [hDs]; exact hdone.1, ?_⟩
    · rw [hDs, List.length_set, setAll_len]; exact L.fit
    · rw [hDs, ← hpar2, hdone.2, hn]
      exact Stale.next
  rcases run_to _ d hon L.wf.a0 (callW_ok P) with ⟨ha, hr⟩ | ⟨k, hk, ha, x, hx, hr⟩
  · left
    refine ⟨ha, hr, ?_⟩
    rw [hr] at hwd ⊢
    refine hnew _ hwd.1 ?_
    show (behindN d _ _).sec = _
    unfold behindN
    rw [List.take_length]
    exact callW_set
  · right
    rw [hr] at hwd ⊢
    have hb1 := L.wf.b1
    have hb0 := L.wf.b0
    refine ⟨k, hk, ha, rfl, rfl, ?_, ?_⟩
    · show (behindN d _ k).raw.length = _
      unfold behindN
      rw [List.length_append, List.length_map, List.length_take, Nat.min_eq_left (by omega)]
    have hlenW : (callW d at_ t h').length = pN at_ (bl t) + 1 := by unfold callW; rw [List.length_append, plan_len]; rfl
    by_cases hlast : k + 1 = (callW d at_ t h').length
    · have hkp : k = pN at_ (bl t) := by omega
      have htk : (callW d at_ t h').take k = plan d.sec h'.half at_ (bl t) := by
        unfold callW; rw [List.take_left' (by rw [plan_len]; exact hkp.symm)]
      have hxe : x = (h'.number % 2, secB h') := by
        have h1 : (callW d at_ t h')[k]? = some (h'.number % 2, secB h') := by
          unfold callW; rw [List.getElem?_append_right (by rw [plan_len]; omega), plan_len, hkp, Nat.sub_self]; rfl
        rw [hx] at h1; exact Option.some.inj h1
      subst hxe
      have hbs : (behindN d (callW d at_ t h') k).sec = setAll d.sec (plan d.sec h'.half at_ (bl t)) := by unfold behindN; rw [htk]
      have hosz : (sAt (setAll d.sec (plan d.sec h'.half at_ (bl t))) (h'.number % 2)).size = 128 := by
        rw [plan_all, P.heads (Nat.le_refl _) (by omega)]
        exact L.wf.sz _ (by omega)
      by_cases hby : d.bytes = 128
      · left
        refine ⟨hlast, hby, hnew _ hwd.1 ?_⟩
        show List.set _ _ _ = _
        rw [hbs]
        simp only
        rw [hby, show (128 : Int).toNat = (secB h').size by rw [secB_size]; rfl, cutB_all _ _ (by rw [secB_size]; exact hosz)]
      · right
        refine ⟨fun h => hby h.2, ⟨hwd.1, by rw [hwd.2.1]; exact L.fit, ?_, ?_⟩⟩
        · refine cnt_kept L.cnt hwd.2.1 ?_ ?_ ?_
          · show sAt (List.set _ _ _) _ = _
            rw [hbs, sAt_set' _ _ _ _ (by rw [setAll_len]; show h'.number % 2 < _; omega), if_neg (by show ¬ h.number % 2 = h'.number % 2; omega), plan_all, P.heads (Nat.le_refl _) (by omega)]
          · show hTake (List.set _ _ _) _ _ = _
            rw [hbs]
            refine hTake_congr fun i hi => ?_
            rw [hbyte_head (by show h'.number % 2 < 2; omega) (by rw [setAll_len]; omega), plan_all]
            rcases hold with ⟨h1, h2⟩ | h1
            · rw [← h1]; exact P.kept (Nat.le_refl _) (by omega)
            · refine P.other (Nat.le_refl _) L.cnt.fd.ok.half1 (Ne.symm h1) ?_
              have := L.cnt.fd.ok.fit
              have h3 := roomN_ok L.fit
              omega
          · show Stale (sAt (List.set _ _ _) _) _
            rw [hbs, show 1 - h.number % 2 = h'.number % 2 by omega, sAt_set' _ _ _ _ (by rw [setAll_len]; show h'.number % 2 < _; omega), if_pos rfl]
            have hst := L.stale
            rw [← hpar] at hst
            refine Stale.torn ?_ h' hn (by omega)
            rw [plan_all, P.heads (Nat.le_refl _) (by omega)]
            exact hst
        · show Stale (sAt (List.set _ _ _) _) _
          rw [hbs, ← hpar, sAt_set' _ _ _ _ (by rw [setAll_len]; show h'.number % 2 < _; omega), if_pos rfl]
          have hst := L.stale
          rw [← hpar] at hst
          refine Stale.torn ?_ h' hn (by omega)
          rw [plan_all, P.heads (Nat.le_refl _) (by omega)]
          exact hst
    · right
      have hkp : k < pN at_ (bl t) := by omega
      have htk : (callW d at_ t h').take k = (plan d.sec h'.half at_ (bl t)).take k := by
        unfold callW; rw [List.take_append_of_le_length (by rw [plan_len]; omega)]
      have hxe : x = (2 + h'.half * (d.sec.length / 2 - 1) + at_ / 128 + k, pC d.sec h'.half at_ (bl t) k) := by
        have h1 : (callW d at_ t h')[k]? = some (2 + h'.half * (d.sec.length / 2 - 1) + at_ / 128 + k, pC d.sec h'.half at_ (bl t) k) := by
          unfold callW; rw [List.getElem?_append_left (by rw [plan_len]; exact hkp), plan_get _ _ _ _ hkp]
        rw [hx] at h1; exact Option.some.inj h1
      subst hxe
      have hbs : (behindN d (callW d at_ t h') k).sec = setAll d.sec ((plan d.sec h'.half at_ (bl t)).take k) := by unfold behindN; rw [htk]
      have hpf := P.fine hkp
      have hhd : ∀ i, i < 2 → sAt ((setAll d.sec ((plan d.sec h'.half at_ (bl t)).take k)).set (2 + h'.half * (d.sec.length / 2 - 1) + at_ / 128 + k) (cutB (pC d.sec h'.half at_ (bl t) k) (sAt (setAll d.sec ((plan d.sec h'.half at_ (bl t)).take k)) (2 + h'.half * (d.sec.length / 2 - 1) + at_ / 128 + k)) d.bytes.toNat)) i = sAt d.sec i := fun i hi => by
        rw [sAt_set' _ _ _ _ (by rw [setAll_len]; exact hpf), if_neg (by omega), P.heads (by omega) hi]
      refine ⟨fun h => hlast h.1, ⟨hwd.1, by rw [hwd.2.1]; exact L.fit, ?_, ?_⟩⟩
      · refine cnt_kept L.cnt hwd.2.1 ?_ ?_ ?_
        · show sAt (List.set _ _ _) _ = _
          rw [hbs]; exact hhd _ (by omega)
        · show hTake (List.set _ _ _) _ _ = _
          rw [hbs]
          refine hTake_congr fun i hi => ?_
          rcases hold with ⟨h1, h2⟩ | h1
          · rw [← h1]; exact P.torn hkp (by omega) (by omega)
          · have hfit2 := L.cnt.fd.ok.fit
            have h3 := roomN_ok L.fit
            have hg := L.cnt.fd.ok.half1
            have hh := P.half1
            have hpg := P.pages
            have h4 : hbyte ((setAll d.sec ((plan d.sec h'.half at_ (bl t)).take k)).set (2 + h'.half * (d.sec.length / 2 - 1) + at_ / 128 + k) (cutB (pC d.sec h'.half at_ (bl t) k) (sAt (setAll d.sec ((plan d.sec h'.half at_ (bl t)).take k)) (2 + h'.half * (d.sec.length / 2 - 1) + at_ / 128 + k)) d.bytes.toNat)) h.half i = hbyte (setAll d.sec ((plan d.sec h'.half at_ (bl t)).take k)) h.half i := by
              unfold hbyte
              rw [List.length_set, setAll_len, sAt_set' _ _ _ _ (by rw [setAll_len]; exact hpf), if_neg]
              have : h.half = 0 ∧ h'.half = 1 ∨ h.half = 1 ∧ h'.half = 0 := by omega
              rcases this with ⟨e1, e2⟩ | ⟨e1, e2⟩ <;> rw [e1, e2] <;> omega
            rw [h4]
            exact P.other (by omega) hg (Ne.symm h1) (by omega)
        · show Stale (sAt (List.set _ _ _) _) _
          rw [hbs, hhd _ (by omega), show 1 - h.number % 2 = (h.number + 1) % 2 by omega]
          exact L.stale
      · show Stale (sAt (List.set _ _ _) _) _
        rw [hbs, hhd _ (by omega)]
        exact L.stale

end Go.Proofs.Ythghnlgojmedgaa

/-
  A log over cuts, as plain data: how a call of a log ends on a disk that may be armed. Of no program.
-/
namespace Go.Proofs.Ythghnlgojmedgaa
set_option linter.unusedVariables false
set_option linter.unusedSimpArgs false

/-- A log that lives, and the sector of its next head. -/
structure Lg9 (x : WS) (d : DS) (s : ByteArray) (l : List ByteArray) : Prop where
  log : Log x d s l
  stale : Stale (sAt d.sec ((x.h.number + 1) % 2)) (x.h.number + 1)
theorem Lg9.lay {x : WS} {d : DS} {s : ByteArray} {l : List ByteArray} (L : Lg9 x d s l) : Lay9 d x.h s l := ⟨L.log.wf, L.log.fit, L.log.cnt, L.stale⟩
theorem Lay9.log {d : DS} {h : WH} {s : ByteArray} {l : List ByteArray} (L : Lay9 d h s l) (hd : d.dead = false) : Lg9 ⟨h, l.length, false⟩ d s l := ⟨⟨L.wf, L.fit, L.cnt, rfl, rfl, hd⟩, L.stale⟩
theorem Lay9.revive {d : DS} {h : WH} {s : ByteArray} {l : List ByteArray} (L : Lay9 d h s l) : Lay9 d.revive h s l := ⟨revive_wf L.wf, L.fit, L.cnt, L.stale⟩
theorem Lg9.forget {x : WS} {d : DS} {s : ByteArray} {l : List ByteArray} (L : Lg9 x d s l) : Lg9 x d.forget s l := ⟨⟨forget_wf L.log.wf, L.log.fit, L.log.cnt, L.log.n, L.log.alive, L.log.on⟩, L.stale⟩
theorem arm_ok {d : DS} {n b : Int} (hd : d.dead = false) (hn : 0 ≤ n) (hb : 0 ≤ b) (hb2 : b ≤ 128) : d.arm n b = (0, { d with armed := n, bytes := b }) := by
  unfold DS.arm
  rw [if_neg (by rw [hd]; simp), if_neg (by omega)]
theorem Lg9.arm {x : WS} {d : DS} {s : ByteArray} {l : List ByteArray} (L : Lg9 x d s l) {n b : Int} (hn : 0 ≤ n) (hn2 : n ≤ 9223372036854775807) (hb : 0 ≤ b) (hb2 : b ≤ 128) : (d.arm n b).1 = 0 ∧ Lg9 x (d.arm n b).2 s l ∧ (d.arm n b).2.armed = n ∧ (d.arm n b).2.bytes = b ∧ (d.arm n b).2.raw = d.raw ∧ (d.arm n b).2.sec = d.sec := by
  rw [arm_ok L.log.on hn hb hb2]
  exact ⟨rfl, ⟨⟨⟨L.log.wf.n1, L.log.wf.n2, L.log.wf.sz, hn, hn2, hb, hb2⟩, L.log.fit, L.log.cnt, L.log.n, L.log.alive, L.log.on⟩, L.stale⟩, rfl, rfl, rfl, rfl⟩

/-- How a call ends. -/
def CutTo (x : WS) (d : DS) (s s' : ByteArray) (l l' : List ByteArray) (z : Int × WS × DS) (m : Nat) : Prop :=
  (z.1 ≠ 0 ∧ z.1 ≠ 2 ∧ z.2 = (x, d)) ∨
  (z.1 = 0 ∧ Lg9 z.2.1 z.2.2 s' l' ∧ (d.armed = 0 → z.2.2.armed = 0) ∧ z.2.2.raw.length = d.raw.length + m ∧ m ≤ 600 ∧ z.2.1.h.number = x.h.number + 1 ∧ z.2.2.sec.length = d.sec.length) ∨
  (z.1 = 2 ∧ d.armed ≠ 0 ∧ z.2.1.dead = true ∧ z.2.2.dead = true ∧ z.2.2.wf ∧ z.2.2.sec.length = d.sec.length ∧ m ≤ 600 ∧ LgI z.2.1 z.2.2 ∧ ∃ k h', k < m ∧ z.2.2.raw.length = d.raw.length + k ∧ h'.number = x.h.number + 1 ∧
    ((k + 1 = m ∧ d.bytes = 128) ∧ Lay9 z.2.2 h' s' l' ∨ ¬ (k + 1 = m ∧ d.bytes = 128) ∧ Lay9 z.2.2 x.h s l))

theorem call_cut {x : WS} {d : DS} {s s' t : ByteArray} {l l' : List ByteArray} {at_ : Nat} {h' : WH} (L : Lg9 x d s l) (P : Pl d.sec h'.half at_ (bl t)) (hN : x.h.number < 1099511627776) (hn : h'.number = x.h.number + 1)
    (hs : h'.snap ≤ 17000) (hfit : h'.snap + h'.log = at_ + t.size) (e : hTake d.sec h'.half at_ ++ bl t = bl s' ++ frs l') (hs' : s'.size = h'.snap) (ok : okRecs l')
    (hold : h'.half = x.h.half ∧ at_ = x.h.snap + x.h.log ∨ h'.half ≠ x.h.half) (n' : Nat) (hn' : n' = l'.length) :
    CutTo x d s s' l l' (if (runP d (callW d at_ t h')).1 = 0 then (0, { x with h := h', n := n' }, (runP d (callW d at_ t h')).2) else (2, { x with dead := true }, (runP d (callW d at_ t h')).2)) (pN at_ (bl t) + 1) := by
  have hl : (callW d at_ t h').length = pN at_ (bl t) + 1 := by unfold callW; rw [List.length_append, plan_len]; rfl
  have h600 := callW_len (h := h') P
  have hwd := run_wfD (callW d at_ t h') d L.log.wf
  rcases call_any L.lay L.log.on P hN hn hs hfit e hs' ok hold with ⟨ha, hr, hL⟩ | ⟨k, hk, hka, h1, h2, h3, h4⟩
  · have h1 : (runP d (callW d at_ t h')).1 = 0 := by rw [hr]
    rw [if_pos h1]
    have hdead : (runP d (callW d at_ t h')).2.dead = false := by rw [hr]; exact L.log.on
    refine .inr (.inl ⟨rfl, ⟨⟨hL.wf, hL.fit, hL.cnt, hn', L.log.alive, hdead⟩, hL.stale⟩, fun h0 => ?_, ?_, by omega, hn, hwd.2.1⟩)
    · show (runP d (callW d at_ t h')).2.armed = 0
      rw [hr]; unfold behindN; simp only [h0]; omega
    · show (runP d (callW d at_ t h')).2.raw.length = _
      rw [hr]; unfold behindN; simp only
      rw [List.length_append, List.length_map, List.length_take]; omega
  · have h0 : ¬ (runP d (callW d at_ t h')).1 = 0 := by rw [h1]; decide
    rw [if_neg h0]
    have hI := L.log.i
    refine .inr (.inr ⟨rfl, by omega, rfl, h2, hwd.1, hwd.2.1, by omega, ⟨hwd.1, ?_, hI.half1, hI.snap1, ?_, hI.num, hI.n1⟩, k, h', by omega, h3, hn, ?_⟩)
    · show roomN (runP d (callW d at_ t h')).2.sec.length ≠ 0
      rw [hwd.2.1]; exact L.log.fit
    · show _ ≤ roomN (runP d (callW d at_ t h')).2.sec.length
      rw [hwd.2.1]; exact hI.room
    · rcases h4 with ⟨a, b, c⟩ | ⟨a, b⟩
      · exact .inl ⟨⟨by omega, b⟩, c⟩
      · exact .inr ⟨fun h => a ⟨by omega, h.2⟩, b⟩

def apM (x : WS) (r : ByteArray) : Nat := pN (x.h.snap + x.h.log) (bl (tf r)) + 1
def apBad (x : WS) (d : DS) (r : ByteArray) : Prop := r.size = 0 ∨ 2048 < r.size ∨ roomN d.sec.length < x.h.snap + x.h.log + (tf r).size ∨ 1099511627776 ≤ x.h.number
theorem append_bad {x : WS} {d : DS} {s : ByteArray} {l : List ByteArray} (L : Log x d s l) (r : ByteArray) (h : apBad x d r) : (x.append d r).1 ≠ 0 ∧ (x.append d r).1 ≠ 2 ∧ (x.append d r).2 = (x, d) := by
  have hdead : ¬ (x.dead = true ∨ d.dead = true) := by rw [L.alive, L.on]; simp
  unfold WS.append
  rw [if_neg hdead]
  by_cases h1 : r.size = 0 ∨ 2048 < r.size
  · rw [if_pos h1]; exact ⟨by simp, by simp, rfl⟩
  rw [if_neg h1]
  by_cases h2 : roomN d.sec.length < x.h.snap + x.h.log + (tf r).size
  · rw [if_pos h2]; exact ⟨by simp, by simp, rfl⟩
  rw [if_neg h2]
  by_cases h3 : 1099511627776 ≤ x.h.number
  · rw [if_pos h3]; exact ⟨by simp, by simp, rfl⟩
  exfalso
  rcases h with h | h | h | h
  · exact h1 (.inl h)
  · exact h1 (.inr h)
  · exact h2 h
  · exact h3 h
theorem append_cut {x : WS} {d : DS} {s : ByteArray} {l : List ByteArray} (L : Lg9 x d s l) (r : ByteArray) (h : ¬ apBad x d r) : okRec r ∧ CutTo x d s s l (l ++ [r]) (x.append d r) (apM x r) ∧ ((x.append d r).1 = 0 ∨ (x.append d r).1 = 2) := by
  have hdead : ¬ (x.dead = true ∨ d.dead = true) := by rw [L.log.alive, L.log.on]; simp
  have h1 : ¬ (r.size = 0 ∨ 2048 < r.size) := fun k => h (k.elim .inl fun k => .inr (.inl k))
  have h2 : ¬ roomN d.sec.length < x.h.snap + x.h.log + (tf r).size := fun k => h (.inr (.inr (.inl k)))
  have h3 : ¬ 1099511627776 ≤ x.h.number := fun k => h (.inr (.inr (.inr k)))
  have hrec : okRec r := ⟨by omega, by omega⟩
  have hok := L.log.cnt.fd
  have hP : Pl d.sec (x.nxt (tf r).size).half (x.h.snap + x.h.log) (bl (tf r)) := log_pl L.log h2
  have hc := call_cut (s' := s) (l' := l ++ [r]) (h' := x.nxt (tf r).size) L hP (by omega) rfl hok.ok.snap1 (by show x.h.snap + (x.h.log + (tf r).size) = _; omega)
    (by show hTake d.sec x.h.half _ ++ _ = _; rw [hok.all, frs_snoc, List.append_assoc]) hok.size.1 (okRecs_snoc hok.recs hrec) (.inl ⟨rfl, rfl⟩) (x.n + 1) (by rw [L.log.n, List.length_append]; rfl)
  have he : x.append d r = if (runP d (callW d (x.h.snap + x.h.log) (tf r) (x.nxt (tf r).size))).1 = 0 then (0, { x with h := x.nxt (tf r).size, n := x.n + 1 }, (runP d (callW d (x.h.snap + x.h.log) (tf r) (x.nxt (tf r).size))).2) else (2, { x with dead := true }, (runP d (callW d (x.h.snap + x.h.log) (tf r) (x.nxt (tf r).size))).2) := by
    unfold WS.append
    rw [if_neg hdead, if_neg h1, if_neg h2, if_neg h3]
  refine ⟨hrec, by rw [he]; exact hc, ?_⟩
  rw [he]; split
  · exact .inl rfl
  · exact .inr rfl

def snM (r : ByteArray) : Nat := pN 0 (bl r) + 1
def snBad (x : WS) (d : DS) (r : ByteArray) : Prop := 17000 < r.size ∨ roomN d.sec.length < r.size ∨ 1099511627776 ≤ x.h.number
theorem snapshot_bad {x : WS} {d : DS} {s : ByteArray} {l : List ByteArray} (L : Log x d s l) (r : ByteArray) (h : snBad x d r) : (x.snapshot d r).1 ≠ 0 ∧ (x.snapshot d r).1 ≠ 2 ∧ (x.snapshot d r).2 = (x, d) := by
  have hdead : ¬ (x.dead = true ∨ d.dead = true) := by rw [L.alive, L.on]; simp
  unfold WS.snapshot
  rw [if_neg hdead]
  by_cases h1 : 17000 < r.size ∨ roomN d.sec.length < r.size
  · rw [if_pos h1]; exact ⟨by simp, by simp, rfl⟩
  rw [if_neg h1]
  by_cases h3 : 1099511627776 ≤ x.h.number
  · rw [if_pos h3]; exact ⟨by simp, by simp, rfl⟩
  exfalso
  rcases h with h | h | h
  · exact h1 (.inl h)
  · exact h1 (.inr h)
  · exact h3 h
theorem snapshot_cut {x : WS} {d : DS} {s : ByteArray} {l : List ByteArray} (L : Lg9 x d s l) (t : ByteArray) (h : ¬ snBad x d t) : CutTo x d s t l [] (x.snapshot d t) (snM t) ∧ ((x.snapshot d t).1 = 0 ∨ (x.snapshot d t).1 = 2) := by
  have hdead : ¬ (x.dead = true ∨ d.dead = true) := by rw [L.log.alive, L.log.on]; simp
  have h1 : ¬ (17000 < t.size ∨ roomN d.sec.length < t.size) := fun k => h (k.elim .inl fun k => .inr (.inl k))
  have h3 : ¬ 1099511627776 ≤ x.h.number := fun k => h (.inr (.inr k))
  have hh := L.log.i.half1
  have hP : Pl d.sec (x.snapH t.size).half 0 (bl t) := L.log.i.pl (by show 1 - x.h.half ≤ 1; omega) (by omega)
  have hc := call_cut (s' := t) (l' := []) (h' := x.snapH t.size) L hP (by omega) rfl (by show t.size ≤ _; omega) (by show t.size + 0 = 0 + t.size; omega)
    (by rw [hTake_zero]; simp [frs]) rfl (fun _ h => by cases h) (.inr (by show 1 - x.h.half ≠ x.h.half; omega)) 0 rfl
  have he : x.snapshot d t = if (runP d (callW d 0 t (x.snapH t.size))).1 = 0 then (0, { x with h := x.snapH t.size, n := 0 }, (runP d (callW d 0 t (x.snapH t.size))).2) else (2, { x with dead := true }, (runP d (callW d 0 t (x.snapH t.size))).2) := by
    unfold WS.snapshot
    rw [if_neg hdead, if_neg h1, if_neg h3]
  refine ⟨by rw [he]; exact hc, ?_⟩
  rw [he]; split
  · exact .inl rfl
  · exact .inr rfl
theorem append_dead {x : WS} {d : DS} (h : x.dead = true) (r : ByteArray) : x.append d r = (2, x, d) := by
  unfold WS.append
  rw [if_pos (.inl h)]
  cases x; simp only at h; subst h; rfl
theorem snapshot_dead {x : WS} {d : DS} (h : x.dead = true) (r : ByteArray) : x.snapshot d r = (2, x, d) := by
  unfold WS.snapshot
  rw [if_pos (.inl h)]
  cases x; simp only at h; subst h; rfl
theorem zero_stale : Stale zeroSec 2 := by
  refine ⟨rfl, 0, 0, by decide, by decide, by decide, fun i hi => ?_⟩
  have hz : ∀ q, gB zeroSec q = 0 := fun q => by
    unfold gB
    have h := zero_at q
    unfold sget at h
    have h2 : (zeroSec.data.toList.getD q 0).toNat = 0 := by omega
    exact UInt8.toNat_inj.1 h2
  have hn : nB 0 i = 0 := by
    unfold nB
    match i, hi with
    | 0, _ => rfl
    | 1, _ => rfl
    | 2, _ => rfl
    | 3, _ => rfl
    | 4, _ => rfl
    | 5, _ => rfl
    | 6, _ => rfl
    | 7, _ => rfl
  rw [hz, hz, if_neg (by omega), if_neg (by omega), hn]
  exact ⟨rfl, rfl⟩
end Go.Proofs.Ythghnlgojmedgaa
