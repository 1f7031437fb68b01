/-
  Merged, in build order: V9 VA VB VC VD VE VF.
-/
import Derived.Test.YthghnlgojmedgaaGreatM34
import Derived.Deep.RegionHeld3
import Derived.Test.YthghnlgojmedgaaGreatM35
import Derived.Test.YthghnlgojmedgaaGreatM28
import Derived.Test.YthghnlgojmedgaaGreatM3
import Derived.Test.YthghnlgojmedgaaGreatM2
/-
  The document's disk: Arm. Its log: Room, where the disk is pinned.
-/
namespace Go.Proofs.YthghnlgojmedgaaGreat
open Go.RowKit
set_option linter.unusedVariables false
set_option linter.unusedSimpArgs false

section
variable {W : Base} {w : World} {R : List Thing}
theorem st_ref_arm (H : St W w R) (i : Nat) {X : Nat} {d : DS} (hi : R[i]? = some (XkT X d)) (n b : Int) :
    Calls Tryz.prog 54 #[.pointer (some ⟨X, 0, none⟩), .int .i64 n, .int .i64 b] w fun e w' => e = .returned (.int .i64 (d.arm n b).1) ∧ St W w' (R.set i (XkT X (d.arm n b).2)) := by
  have HS := hid (H.set_self hi)
  obtain ⟨F, G, ⟨sv, rv, hF, hG, hX, hS, hR⟩, hFW, hd, hback⟩ := H.atG i hi
  subst hF hG
  have c4 : w.cell? ⟨X, 4, none⟩ = some (.bool d.dead) := cell_blk hX rfl
  have c2 : w.cell? ⟨X, 2, none⟩ = some (.int .i64 d.armed) := cell_blk hX rfl
  have c3 : w.cell? ⟨X, 3, none⟩ = some (.int .i64 d.bytes) := cell_blk hX rfl
  have f2 : w.frozen? ⟨X, 2, none⟩ = false := free_blk hX
  have f3 : w.frozen? ⟨X, 3, none⟩ = false := free_blk hX
  have HB := hid (And.intro hX (And.intro hS (And.intro hR (And.intro hback (hd X (by simp))))))
  clear hX hS hR hback hd hFW H hi
  by_cases hdead : d.dead = true
  · have hr : d.arm n b = (2, d) := by unfold DS.arm; rw [if_pos hdead]
    rw [hr]
    rw [hdead] at c4
    clear hdead hr HB
    go_enter Tryz.func54, Tryz.ntmps54
    go_wp2
    go_ret
    exact ⟨rfl, HS.out⟩
  have hd' : d.dead = false := by simpa using hdead
  rw [hd'] at c4
  by_cases hb : n < 0 ∨ b < 0 ∨ 128 < b
  · have hr : d.arm n b = (1, d) := by unfold DS.arm; rw [if_neg hdead, if_pos hb]
    rw [hr]
    clear hdead hr hd' HB
    by_cases hn : n < 0
    · clear hb
      go_enter Tryz.func54, Tryz.ntmps54
      go_wp2
      go_ret
      exact ⟨rfl, HS.out⟩
    by_cases hb0 : b < 0
    · clear hb
      go_enter Tryz.func54, Tryz.ntmps54
      go_wp2
      go_ret
      exact ⟨rfl, HS.out⟩
    · have hb1 : 128 < b := by omega
      clear hb
      go_enter Tryz.func54, Tryz.ntmps54
      go_wp2
      go_ret
      exact ⟨rfl, HS.out⟩
  · have hr : d.arm n b = (0, { d with armed := n, bytes := b }) := by unfold DS.arm; rw [if_neg hdead, if_neg hb]
    rw [hr]
    have g1 : ¬ n < 0 := by omega
    have g2 : ¬ b < 0 := by omega
    have g3 : ¬ 128 < b := by omega
    clear hdead hr hd' hb
    go_enter Tryz.func54, Tryz.ntmps54
    go_wp2
    go_ret
    obtain ⟨b1, b2, b3, hback, hdX⟩ := HB.out
    have hF : Fr [X] w ((w.setCell ⟨X, 2, none⟩ (.int .i64 n)).setCell ⟨X, 3, none⟩ (.int .i64 b)) := ((Fr.refl _ _).setCell (.inl (by simp)) _).setCell (.inl (by simp)) _
    refine ⟨rfl, hback _ [X] _ _ inferInstance ⟨sv, rv, rfl, rfl, blk_setCell_at _ (blk_setCell_at _ b1), owns_keep b2 hF ?_, owns_keep b3 hF ?_⟩ hF (fun x hx => .inl hx) (fun x hx => .inr (.inl hx)) ?_⟩
    · intro q hq h; simp at h; subst h; exact hdX (List.mem_append.2 (.inl hq))
    · intro q hq h; simp at h; subst h; exact hdX (List.mem_append.2 (.inr hq))
    · intro x hx; simp at hx; subst hx; exact hdX
set_option maxHeartbeats 800000 in
set_option maxRecDepth 100000 in
theorem st_rroomP (H : St W w R) (i j : Nat) {Y X : Nat} {x : WS} {d : DS} (hi : R[i]? = some (RlT Y X x)) {a : Option Addr} {c : Nat} {rv : Value} (hj : R[j]? = some (XkP X d a c rv)) (L : LgI x d) :
    Calls Tryz.prog 59 #[.pointer (some ⟨Y, 0, none⟩)] w fun e w' => e = .returned (.int .i64 (x.room d : Nat)) ∧ St W w' R := by
  have hb := H.blk i hi
  have c0 := cell_blk (i := 0) hb rfl
  have c4 := cell_blk (i := 4) hb rfl
  have c5 := cell_blk (i := 5) hb rfl
  have hx := (H.xkp j hj).1
  have d0 := cell_blk (i := 0) hx rfl
  have hf := L.fit
  obtain ⟨k1, k2, k3, k4⟩ := roomN_ok hf
  have h1 := roomN_le d.sec.length
  have h2 := L.room
  obtain ⟨lf, hlf⟩ : ∃ lf, x.left d = lf := ⟨_, rfl⟩
  have hle : lf ≤ 65536 := by rw [← hlf]; unfold WS.left; omega
  obtain ⟨n, hn⟩ : ∃ n, d.sec.length = n := ⟨_, rfl⟩
  have hrn : roomN n = (n / 2 - 1) * 128 := by rw [← hn]; exact k4
  have hlf2 : lf + x.h.snap + x.h.log = roomN n := by rw [← hlf, ← hn]; unfold WS.left; omega
  rw [hn] at d0 k1 k2 k3 h1 h2
  have e0 : IntKind.i64.wrap ((n : Int) / 2) = (n : Int) / 2 := IntWalk.i64_in _ (by omega)
  have e1 : IntKind.i64.wrap ((n : Int) / 2 - 1) = (n : Int) / 2 - 1 := IntWalk.i64_in _ (by omega)
  have e2 : IntKind.i64.wrap (128 * ((n : Int) / 2 - 1)) = 128 * ((n : Int) / 2 - 1) := IntWalk.i64_in _ (by omega)
  have e3 : IntKind.i64.wrap (128 * ((n : Int) / 2 - 1) - x.h.snap) = 128 * ((n : Int) / 2 - 1) - x.h.snap := IntWalk.i64_in _ (by omega)
  have e4 : IntKind.i64.wrap (128 * ((n : Int) / 2 - 1) - x.h.snap - x.h.log) = (lf : Int) := by rw [IntWalk.i64_in _ (by omega)]; omega
  have HRES := hid (show x.room d = rmL lf (min 2048 lf) by unfold WS.room; rw [hlf])
  rw [HRES.out]
  have HH := hid H
  have HLE := hid hle
  clear H hb hi hj L hf h1 h2 hlf hle hn hrn hlf2 k1 k2 k3 k4 hx
  go_enter Tryz.func59, Tryz.ntmps59
  go_wp2_with fail
  go_upto_region 1 with (fail)
  go_cut [3] from 6 (fun s3 wx => s3 = .int .i64 lf ∧ ∃ nq, wx = w.drewN nq)
  case first =>
    have htd : (n : Int).tdiv 2 = (n : Int) / 2 := Int.tdiv_eq_ediv_of_nonneg (by omega)
    go_quiet (fail)
    go_wp2_with fail
    go_meet
    first
      | exact ⟨rfl, _, rfl⟩
      | exact ⟨by rw [e4], _, rfl⟩
  obtain ⟨rfl, nq, rfl⟩ := hcut
  have HS := hid (HH.out.drewN nq)
  generalize w.drewN nq = w1 at HS ⊢
  clear c0 c4 c5 d0 e0 e1 e2 e3 e4
  have HNUM := hid (fun (w : World) (n : Nat) (h : n ≤ 2048) => rnum_walk w n (by omega))
  go_wp2_with fail
  go_loopw [4, 5] (fun nv kv wr => ∃ k n : Nat, k ≤ 2048 ∧ kv = .int .i64 ((k + 1 : Nat) : Int) ∧ nv = .int .i64 n ∧ Hid (RmI lf k n) ∧ St W wr R) (fun _ kv _ => 2050 - (intOf kv).toNat)
  case atStart => exact ⟨0, 0, by decide, rfl, rfl, hid ⟨Nat.le_refl _, .inl rfl, fun j h1 h2 => by omega⟩, HS.out⟩
  case round =>
    obtain ⟨k, n, hk, rfl, rfl, hI, hS⟩ := hrel
    have HSS := hid hS
    clear hS
    by_cases hend : k = 2048
    · subst hend
      have HI := hid hI.out.eq
      have b1 : decide (((2048 + 1 : Nat) : Int) ≤ 2048) = false := by decide
      clear hk
      go_wp2_with fail
      go_ret
      exact ⟨by rw [← HI.out]; rfl, HSS.out⟩
    · obtain ⟨q, hq⟩ : ∃ q, k + 1 = q := ⟨_, rfl⟩
      have hq1 : q ≤ 2048 := by omega
      have b1 : decide ((q : Int) ≤ 2048) = true := decide_eq_true (by omega)
      have b1' : decide (q ≤ 2048) = true := decide_eq_true hq1
      have hcv : IntKind.u64.wrap (q : Int) = (q : Int) := u64_nat _ (by omega)
      have HP := hid (HNUM.out wr q hq1)
      have hsz := nf_two hq1
      obtain ⟨nb, hnb⟩ : ∃ nb, nf q = nb := ⟨_, rfl⟩
      rw [hnb] at HP hsz
      rw [hq]
      have hwn : IntKind.i64.wrap ((nb.size : Int) + q) = (nb.size : Int) + q := IntWalk.i64_in _ (by omega)
      have hwm : IntKind.i64.wrap ((q : Int) + 1) = (q : Int) + 1 := IntWalk.i64_in _ (by omega)
      have HQ := hid (And.intro hq (And.intro hq1 hnb))
      clear hnb hq hq1 hsz hk hend
      go_wp2_with fail
      refine HP.out.mono ?_
      rintro e w3 ⟨rfl, hF3⟩
      have HS3 := hid (HSS.out.same hF3)
      clear hF3
      by_cases hfit : nb.size + q ≤ lf
      · have b2 : decide ((nb.size : Int) + q ≤ lf) = true := decide_eq_true (by omega)
        have b2' : decide (nb.size + q ≤ lf) = true := decide_eq_true hfit
        have HR := hid (show RmI lf (k + 1) (k + 1) from hI.out.yes (by rw [HQ.out.1, HQ.out.2.2]; exact hfit))
        clear hfit
        go_wp2_with fail
        go_roundw
        case rel => exact ⟨k + 1, q, by have := HQ.out; omega, by have := HQ.out.1; exact congrArg (Value.int .i64) (by omega), rfl, hid (by have h := HR.out; rw [HQ.out.1] at h ⊢; exact h), HS3.out⟩
        case measure => have := HQ.out; simp [intOf]; omega
      · have b2 : decide ((nb.size : Int) + q ≤ lf) = false := decide_eq_false (by omega)
        have b2' : decide (nb.size + q ≤ lf) = false := decide_eq_false hfit
        have HR := hid (show RmI lf (k + 1) n from hI.out.skip (by rw [HQ.out.1, HQ.out.2.2]; omega))
        clear hfit
        go_wp2_with fail
        go_roundw
        case rel => exact ⟨k + 1, n, by have := HQ.out; omega, by have := HQ.out.1; exact congrArg (Value.int .i64) (by omega), rfl, HR, HS3.out⟩
        case measure => have := HQ.out; simp [intOf]; omega
end
end Go.Proofs.YthghnlgojmedgaaGreat

/-
  The laws' helpers of layer 9: pairs; tells.
-/
namespace Go.Proofs.YthghnlgojmedgaaGreat
open Go.RowKit
set_option linter.unusedVariables false
set_option linter.unusedSimpArgs false

/-- A log on its disk, and the document's. -/
structure P4 where
  D : Nat
  B : Nat
  X : Nat
  Y : Nat
  d : DS
  x : WS
abbrev pO (D B X Y : Nat) : Obj := .cells #[.pointer (some ⟨D, 0, none⟩), .pointer (some ⟨B, 0, none⟩), .pointer (some ⟨X, 0, none⟩), .pointer (some ⟨Y, 0, none⟩)] 42
abbrev pA (D B X Y : Nat) : Value := .agg #[.pointer (some ⟨D, 0, none⟩), .pointer (some ⟨B, 0, none⟩), .pointer (some ⟨X, 0, none⟩), .pointer (some ⟨Y, 0, none⟩)]
/-- Its four things lie from a on. -/
structure Pr (R : List Thing) (a : Nat) (p : P4) : Prop where
  d : R[a]? = some (DkT p.D p.d)
  w : R[a + 1]? = some (WlT p.B p.D p.x)
  e : R[a + 2]? = some (XkT p.X p.d)
  x : R[a + 3]? = some (RlT p.Y p.X p.x)

section
variable {W : Base} {w : World} {R : List Thing}


set_option maxHeartbeats 1600000 in
set_option maxRecDepth 100000 in
theorem st_tells (H : St W w R) (a : Nat) {p : P4} (hP : Pr R a p) (L : LgI p.x p.d) :
    Calls Tryz.prog 34 #[pA p.D p.B p.X p.Y] w fun e w' => e = .returned (.bool true) ∧ St W w' R := by
  obtain ⟨D, B, X, Y, d, x⟩ := p
  obtain ⟨h1, h2, h3, h4⟩ := hP
  simp only at h1 h2 h3 h4 L
  obtain ⟨s, c, rv, HQ⟩ := H.pin (a + 2) h3
  have hl := lt_of_get h4
  obtain ⟨T, hT⟩ : ∃ T, R.set (a + 2) (XkP X d s c rv) = T := ⟨_, rfl⟩
  rw [hT] at HQ
  have k1 : T[a]? = some (DkT D d) := by rw [← hT, List.getElem?_set_ne (by omega)]; exact h1
  have k2 : T[a + 1]? = some (WlT B D x) := by rw [← hT, List.getElem?_set_ne (by omega)]; exact h2
  have k3 : T[a + 2]? = some (XkP X d s c rv) := by rw [← hT]; exact List.getElem?_set_self (by omega)
  have k4 : T[a + 3]? = some (RlT Y X x) := by rw [← hT, List.getElem?_set_ne (by omega)]; exact h4
  have hback : ∀ w', St W w' T → St W w' R := fun w' h => by
    have := h.unpin (a + 2) k3
    rw [← hT, List.set_set, things_set_self h3] at this
    exact this
  obtain ⟨b, hbe⟩ : ∃ b, w.heap.size = b := ⟨_, rfl⟩
  have HS := HQ.alloc (pO D B X Y)
  rw [hbe] at HS
  obtain ⟨U, hU⟩ : ∃ U, T ++ [BlkT b (pO D B X Y)] = U := ⟨_, rfl⟩
  rw [hU] at HS
  have hTl : T.length = R.length := by rw [← hT, List.length_set]
  have u1 : U[a]? = some (DkT D d) := by rw [← hU, List.getElem?_append_left (by omega)]; exact k1
  have u2 : U[a + 1]? = some (WlT B D x) := by rw [← hU, List.getElem?_append_left (by omega)]; exact k2
  have u3 : U[a + 2]? = some (XkP X d s c rv) := by rw [← hU, List.getElem?_append_left (by omega)]; exact k3
  have u4 : U[a + 3]? = some (RlT Y X x) := by rw [← hU, List.getElem?_append_left (by omega)]; exact k4
  have u5 : U[T.length]? = some (BlkT b (pO D B X Y)) := by rw [← hU]; simp
  have hend : ∀ w', St W w' U → St W w' R := fun w' h => hback w' (by rw [← hU] at h; exact h.drop)
  have HE := hid hend
  obtain ⟨xd, hxd⟩ : ∃ xd : Bool, x.dead = xd := ⟨_, rfl⟩
  obtain ⟨dd, hdd⟩ : ∃ dd : Bool, d.dead = dd := ⟨_, rfl⟩
  obtain ⟨xn, hxn⟩ : ∃ xn : Nat, x.n = xn := ⟨_, rfl⟩
  have hcells : ∀ wx : World, St W wx U → (wx.cell? ⟨b, 0, none⟩ = some (.pointer (some ⟨D, 0, none⟩)) ∧ wx.cell? ⟨b, 1, none⟩ = some (.pointer (some ⟨B, 0, none⟩)) ∧ wx.cell? ⟨b, 2, none⟩ = some (.pointer (some ⟨X, 0, none⟩)) ∧ wx.cell? ⟨b, 3, none⟩ = some (.pointer (some ⟨Y, 0, none⟩)) ∧ wx.cell? ⟨X, 0, none⟩ = some (.slice s d.sec.length c) ∧ wx.cell? ⟨X, 4, none⟩ = some (.bool dd) ∧ wx.cell? ⟨Y, 1, none⟩ = some (.bool xd) ∧ wx.cell? ⟨Y, 6, none⟩ = some (.int .i64 (xn : Nat))) ∧ Hid (St W wx U) := fun wx h => by
    rw [← hxd, ← hdd, ← hxn]
    have q1 := h.blk T.length u5
    have q2 := (h.xkp (a + 2) u3).1
    have q3 := h.blk (a + 3) u4
    exact ⟨⟨cell_blk q1 rfl, cell_blk q1 rfl, cell_blk q1 rfl, cell_blk q1 rfl, cell_blk q2 rfl, cell_blk q2 rfl, cell_blk q3 rfl, cell_blk q3 rfl⟩, hid h⟩
  have hin : ∀ wx : World, Hid (St W wx U) → In wx 1 s d.sec.length c (strV d.sec) := fun wx h => (h.out.xkp (a + 2) u3).2
  have K1 := hid (fun wx (h : Hid (St W wx U)) => st_wroom h.out (a + 1) a u2 u1 L)
  have K2 := hid (fun wx (h : Hid (St W wx U)) => st_rroomP h.out (a + 3) (a + 2) u4 u3 L)
  have K3 := hid (fun wx (h : Hid (St W wx U)) => st_wrecords h.out (a + 1) u2)
  have K4 := hid (fun wx (h : Hid (St W wx U)) => st_wdead h.out (a + 1) u2)
  have K5 : Hid (∀ wx (h : Hid (St W wx U)), Calls Tryz.prog 22 #[.pointer (some ⟨D, 0, none⟩)] wx fun e w' => e = .returned (.bool d.dead) ∧ St W w' U) := hid (fun wx h => by
    obtain ⟨F, hF⟩ := h.out.dk a u1
    refine (disk_dead wx F D d hF).mono ?_
    rintro e w' ⟨rfl, rfl⟩
    exact ⟨rfl, h.out⟩)
  have K6 := hid (fun wx (h : Hid (St W wx U)) => st_sectors h.out a u1 L.wf)
  have HC := hid hcells
  have HI := hid hin
  have HS := hid HS
  clear H HQ hback hend h1 h2 h3 h4 k1 k2 k3 k4 u1 u2 u3 u4 u5 hT hU hl hTl hcells hin L
  have HB := hid hbe
  clear hbe
  obtain ⟨rm, hrm⟩ : ∃ rm : Nat, x.room d = rm := ⟨_, rfl⟩
  rw [hrm] at K1 K2
  clear hrm
  rw [hxd] at K4
  rw [hdd] at K5
  rw [hxn] at K3
  clear hxd hdd hxn
  go_enter Tryz.func34, Tryz.ntmps34
  go_wp2_with fail
  rw [HB.out]
  have hSw := HS.out
  generalize w.alloc (pO D B X Y) = w1 at hSw ⊢
  have HS0 := hid (HC.out _ hSw.drew)
  clear HS hSw HB
  go_region_held3 (fun wx : World => (wx.cell? ⟨b, 0, none⟩ = some (.pointer (some ⟨D, 0, none⟩)) ∧ wx.cell? ⟨b, 1, none⟩ = some (.pointer (some ⟨B, 0, none⟩)) ∧ wx.cell? ⟨b, 2, none⟩ = some (.pointer (some ⟨X, 0, none⟩)) ∧ wx.cell? ⟨b, 3, none⟩ = some (.pointer (some ⟨Y, 0, none⟩)) ∧ wx.cell? ⟨X, 0, none⟩ = some (.slice s d.sec.length c) ∧ wx.cell? ⟨X, 4, none⟩ = some (.bool dd) ∧ wx.cell? ⟨Y, 1, none⟩ = some (.bool xd) ∧ wx.cell? ⟨Y, 6, none⟩ = some (.int .i64 (xn : Nat))) ∧ Hid (St W wx U)) ((first | exact HNow.out | exact HS0.out | assumption))
    (first
      | (go_at_call 20; with_reducible refine (K1.out _ HS0.out.2).mono ?_; rintro e w2 ⟨rfl, h2⟩; have HNow := hid (HC.out _ h2); clear h2)
      | (go_at_call 59; with_reducible refine (K2.out _ HNow.out.2).mono ?_; rintro e w2 ⟨rfl, h2⟩; have HNow := hid (HC.out _ h2); clear h2)
      | (go_at_call 60; with_reducible refine (K3.out _ HNow.out.2).mono ?_; rintro e w2 ⟨rfl, h2⟩; have HNow := hid (HC.out _ h2); clear h2)
      | (go_at_call 61; with_reducible refine (K4.out _ HNow.out.2).mono ?_; rintro e w2 ⟨rfl, h2⟩; have HNow := hid (HC.out _ h2); clear h2)
      | (go_at_call 22; with_reducible refine (K5.out _ HNow.out.2).mono ?_; rintro e w2 ⟨rfl, h2⟩; have HNow := hid (HC.out _ h2); clear h2)
      | (go_at_call 11; with_reducible refine (K6.out _ HNow.out.2).mono ?_; rintro e w2 ⟨g6, c6, rfl, h2⟩; have hI6 := h2.in_ U.length (List.getElem?_concat_length); have HI6 := hid hI6; have HNow := hid (HC.out _ h2.drop); clear h2 hI6)
      | (go_at_call 10; with_reducible refine (st_same HNow.out.2.out HI6.out (HI.out _ HNow.out.2)).mono ?_; rintro e w7 ⟨rfl, h2⟩; have HNow := hid (HC.out _ h2); clear h2))
  go_wp2_with fail
  go_ret
  exact ⟨rfl, HE.out _ HNow.out.2.out⟩
end
end Go.Proofs.YthghnlgojmedgaaGreat

/-
  The laws' helper of layer 9: opened.
-/
namespace Go.Proofs.YthghnlgojmedgaaGreat
open Go.RowKit
set_option linter.unusedVariables false
set_option linter.unusedSimpArgs false

/-- What opened comes to. -/
def OdTo (W : Base) (R : List Thing) (D X : Nat) (d : DS) (e : Ending) (w' : World) : Prop :=
  (e = .returned (.tuple #[.agg #[.pointer (some ⟨D, 0, none⟩), .pointer none, .pointer (some ⟨X, 0, none⟩), .pointer none], .bool true]) ∧ (¬ ∃ h s l, d.dead = false ∧ roomN d.sec.length ≠ 0 ∧ Cnt d.sec h s l) ∧ St W w' R) ∨
  (d.dead = false ∧ roomN d.sec.length ≠ 0 ∧ ∃ h s l, Cnt d.sec h s l ∧ ∃ B Y, e = .returned (.tuple #[pA D B X Y, .bool true]) ∧ St W w' (R ++ [WlT B D ⟨h, l.length, false⟩, RlT Y X ⟨h, l.length, false⟩]))

theorem od_perm (R : List Thing) {a b c d e : Thing} : (R ++ [a, b, c, d, e]).Perm ((R ++ [c, e]) ++ [a, b, d]) := by
  rw [List.append_assoc]
  exact List.Perm.append_left R ((List.perm_append_comm (l₁ := [a, b]) (l₂ := [c])).append_right [d, e] |>.trans (List.Perm.cons c ((List.perm_append_comm (l₁ := [a, b, d]) (l₂ := [e])))))

section
variable {W : Base} {w : World} {R : List Thing}

set_option maxHeartbeats 1600000 in
set_option maxRecDepth 100000 in
theorem st_opened (H : St W w R) (i j : Nat) {D X : Nat} {d : DS} (hi : R[i]? = some (DkT D d)) (hj : R[j]? = some (XkT X d)) (hw : d.wf) :
    Calls Tryz.prog 12 #[.pointer (some ⟨D, 0, none⟩), .pointer (some ⟨X, 0, none⟩)] w (OdTo W R D X d) := by
  have hil := lt_of_get hi
  have hjl := lt_of_get hj
  obtain ⟨b, hbe⟩ : ∃ b, w.heap.size = b := ⟨_, rfl⟩
  have HA := H.alloc (.cells #[.pointer none, .pointer none, .pointer none, .pointer none] 42)
  rw [hbe] at HA
  have HB := hid hbe
  by_cases hc : ∃ h s l, d.dead = false ∧ roomN d.sec.length ≠ 0 ∧ Cnt d.sec h s l
  · obtain ⟨h, s, l, hd, hf, C⟩ := hc
    have KW := hid (fun wx T (hS : St W wx (R ++ T)) => st_lopen (x := ⟨h, 0, false⟩) hS i (by rw [List.getElem?_append_left hil]; exact hi) hw hd hf C)
    have KR : Hid (∀ wx T, St W wx (R ++ T) → Calls Tryz.prog 31 #[.pointer (some ⟨X, 0, none⟩)] wx fun e w' => ∃ Y p c, e = .returned (.tuple #[.pointer (some ⟨Y, 0, none⟩), .string s, .slice p l.length c, .int .i64 0]) ∧
        St W w' ((R ++ T) ++ [TxT p c l, RlT Y X ⟨h, l.length, false⟩])) := hid (fun wx T hS => by
      refine (st_ropen hS j (by rw [List.getElem?_append_left hjl]; exact hj) hw).mono ?_
      rintro e w' (⟨c, hc, rfl, hS⟩ | ⟨h1, h2, g, s', l', hg, Y, p, c, rfl, hS⟩)
      · exfalso
        rcases hc with ⟨hc, _⟩ | ⟨_, hc, _⟩ | ⟨_, _, hc, _⟩
        · rw [hd] at hc; cases hc
        · exact hf hc
        · exact hc _ (by omega) _ _ _ C.fd
      · obtain ⟨rfl, rfl, rfl⟩ := hg.uniq C
        exact ⟨Y, p, c, rfl, hS⟩)
    have HFIN := hid (And.intro hd (And.intro hf C))
    have hll : l.length ≤ 65536 := (show Log ⟨h, l.length, false⟩ d s l from ⟨hw, hf, C, rfl, rfl, hd⟩).len.1
    have HLL := hid hll
    have HA := hid HA
    clear hll hi hj hw hd hf C hil hjl hbe H
    go_enter Tryz.func12, Tryz.ntmps12
    go_wp2_with fail
    rw [HB.out]
    have hSw := HA.out
    generalize w.alloc (.cells #[.pointer none, .pointer none, .pointer none, .pointer none] 42) = w1 at hSw ⊢
    have HK := hid (KW.out _ _ hSw)
    clear HA hSw HB KW
    with_reducible refine HK.out.mono ?_
    rintro e w2 ⟨B, p, rfl, h2⟩
    rw [List.append_assoc] at h2
    have HK := hid (KR.out _ _ h2)
    clear h2 KR
    go_wp2_with fail
    with_reducible refine HK.out.mono ?_
    rintro e w3 ⟨Y, q, c, rfl, h3⟩
    simp only [List.append_assoc, List.cons_append, List.nil_append] at h3
    have hi1 := (h3.wvTx (a := p) (l := l) (R.length + 1) HLL.out (by simp)).in_ (R.length + 1) (List.getElem?_set_self (by simp))
    have hi2 : In w3 1 q l.length c (strV l) := h3.in_ (R.length + 3) (by simp)
    have HI := hid (And.intro hi1 hi2)
    have H3 := hid h3
    have hbe : (s.toList == s.toList) = true := by simp
    clear hi1 hi2 h3
    go_wp2_with fail
    with_reducible refine (st_same H3.out HI.out.1 HI.out.2).mono ?_
    rintro e w4 ⟨rfl, h4⟩
    have hb : w4.heap[b]? = some (.cells #[.pointer none, .pointer none, .pointer none, .pointer none] 42) := h4.blk R.length (by simp)
    have f0 := free_blk (i := 0) hb
    have f1 := free_blk (i := 1) hb
    have f2 := free_blk (i := 2) hb
    have f3 := free_blk (i := 3) hb
    have c0 := cell_blk (i := 0) hb rfl
    have c1 := cell_blk (i := 1) hb rfl
    have c2 := cell_blk (i := 2) hb rfl
    have c3 := cell_blk (i := 3) hb rfl
    have H4 := hid h4
    clear h4 hb
    go_wp2_with fail
    (try simp only [Exit.inBlock, Exit.then])
    have h5 := H4.out.blk4 (.pointer (some ⟨D, 0, none⟩)) (.pointer (some ⟨B, 0, none⟩)) (.pointer (some ⟨X, 0, none⟩)) (.pointer (some ⟨Y, 0, none⟩))
    generalize (((w4.setCell ⟨b, 0, none⟩ _).setCell ⟨b, 1, none⟩ _).setCell ⟨b, 2, none⟩ _).setCell ⟨b, 3, none⟩ _ = w5 at h5 ⊢
    clear c0 c1 c2 c3 f0 f1 f2 f3
    have hb : w5.heap[b]? = some (pO D B X Y) := h5.blk R.length (by simp)
    have x0 := cell_blk (i := 0) hb rfl
    have x1 := cell_blk (i := 1) hb rfl
    have x2 := cell_blk (i := 2) hb rfl
    have x3 := cell_blk (i := 3) hb rfl
    refine bodyPost_ret (v := .tuple #[pA D B X Y, .bool true]) (by simp [results, Tryz.results12, go_sem, x0, x1, x2, x3]) rfl ?_
    exact .inr ⟨HFIN.out.1, HFIN.out.2.1, h, s, l, HFIN.out.2.2, B, Y, rfl, h5.sub (od_perm R)⟩
  · obtain ⟨c, hcd⟩ : ∃ c : Int, (if d.dead = true then (2 : Int) else if roomN d.sec.length = 0 then 91 else 90) = c := ⟨_, rfl⟩
    have hcc : ∀ c' : Int, (d.dead = true ∧ c' = 2 ∨ d.dead = false ∧ roomN d.sec.length = 0 ∧ c' = 91 ∨ d.dead = false ∧ roomN d.sec.length ≠ 0 ∧ (∀ a, a < 2 → ∀ h s l, ¬ Fd d.sec a h s l) ∧ c' = 90) → c' = c := by
      intro c' hx
      rw [← hcd]
      rcases hx with ⟨q1, q2⟩ | ⟨q1, q2, q3⟩ | ⟨q1, q2, _, q3⟩
      · rw [if_pos q1]; exact q2
      · rw [if_neg (by simp [q1]), if_pos q2]; exact q3
      · rw [if_neg (by simp [q1]), if_neg q2]; exact q3
    have KW : Hid (∀ wx T, St W wx (R ++ T) → Calls Tryz.prog 19 #[.pointer (some ⟨D, 0, none⟩)] wx fun e w' => e = .returned (.tuple #[.pointer none, .string ⟨#[]⟩, .slice none 0 0, .int .i64 c]) ∧ St W w' (R ++ T)) := hid (fun wx T hS => by
      refine (st_wopen hS i (by rw [List.getElem?_append_left hil]; exact hi) hw).mono ?_
      rintro e w' (⟨c', hc', rfl, hS⟩ | ⟨h1, h2, g, s', l', hg, _⟩)
      · rw [hcc c' hc']; exact ⟨rfl, hS⟩
      · exact absurd ⟨g, s', l', h1, h2, hg⟩ hc)
    have KR : Hid (∀ wx T, St W wx (R ++ T) → Calls Tryz.prog 31 #[.pointer (some ⟨X, 0, none⟩)] wx fun e w' => e = .returned (.tuple #[.pointer none, .string ⟨#[]⟩, .slice none 0 0, .int .i64 c]) ∧ St W w' (R ++ T)) := hid (fun wx T hS => by
      refine (st_ropen hS j (by rw [List.getElem?_append_left hjl]; exact hj) hw).mono ?_
      rintro e w' (⟨c', hc', rfl, hS⟩ | ⟨h1, h2, g, s', l', hg, _⟩)
      · rw [hcc c' hc']; exact ⟨rfl, hS⟩
      · exact absurd ⟨g, s', l', h1, h2, hg⟩ hc)
    have HFIN := hid hc
    have HA := hid HA
    clear hi hj hw hil hjl hbe H hc hcc hcd
    go_enter Tryz.func12, Tryz.ntmps12
    go_wp2_with fail
    rw [HB.out]
    have hSw := HA.out
    generalize w.alloc (.cells #[.pointer none, .pointer none, .pointer none, .pointer none] 42) = w1 at hSw ⊢
    have HK := hid (KW.out _ _ hSw)
    clear HA hSw HB KW
    with_reducible refine HK.out.mono ?_
    rintro e w2 ⟨rfl, h2⟩
    have HK := hid (KR.out _ _ h2)
    clear h2 KR
    go_wp2_with fail
    with_reducible refine HK.out.mono ?_
    rintro e w3 ⟨rfl, h3⟩
    have hin : In w3 1 none 0 0 (strV []) := ⟨Nat.le_refl _, by decide, fun h => by omega, fun b off e => by cases e⟩
    have hsm : Calls Tryz.prog 10 #[.slice none 0 0, .slice none 0 0] w3 fun e w' => e = .returned (.bool true) ∧ St W w' (R ++ [BlkT b (.cells #[.pointer none, .pointer none, .pointer none, .pointer none] 42)]) := st_same (ss := []) h3 hin hin
    have HSM := hid hsm
    have hbe : ((⟨#[]⟩ : ByteArray).toList == (⟨#[]⟩ : ByteArray).toList) = true := by simp
    clear hsm hin h3
    go_wp2_with fail
    with_reducible refine HSM.out.mono ?_
    rintro e w4 ⟨rfl, h4⟩
    have hb : w4.heap[b]? = some (.cells #[.pointer none, .pointer none, .pointer none, .pointer none] 42) := h4.blk R.length (by simp)
    have f0 := free_blk (i := 0) hb
    have f1 := free_blk (i := 1) hb
    have f2 := free_blk (i := 2) hb
    have f3 := free_blk (i := 3) hb
    have c0 := cell_blk (i := 0) hb rfl
    have c1 := cell_blk (i := 1) hb rfl
    have c2 := cell_blk (i := 2) hb rfl
    have c3 := cell_blk (i := 3) hb rfl
    have H4 := hid h4
    clear h4 hb
    go_wp2_with fail
    (try simp only [Exit.inBlock, Exit.then])
    have h5 := H4.out.blk4 (rest := []) (.pointer (some ⟨D, 0, none⟩)) (.pointer none) (.pointer (some ⟨X, 0, none⟩)) (.pointer none)
    generalize (((w4.setCell ⟨b, 0, none⟩ _).setCell ⟨b, 1, none⟩ _).setCell ⟨b, 2, none⟩ _).setCell ⟨b, 3, none⟩ _ = w5 at h5 ⊢
    clear c0 c1 c2 c3 f0 f1 f2 f3
    have hb : w5.heap[b]? = some (.cells #[.pointer (some ⟨D, 0, none⟩), .pointer none, .pointer (some ⟨X, 0, none⟩), .pointer none] 42) := h5.blk R.length (by simp)
    have x0 := cell_blk (i := 0) hb rfl
    have x1 := cell_blk (i := 1) hb rfl
    have x2 := cell_blk (i := 2) hb rfl
    have x3 := cell_blk (i := 3) hb rfl
    refine bodyPost_ret (v := .tuple #[.agg #[.pointer (some ⟨D, 0, none⟩), .pointer none, .pointer (some ⟨X, 0, none⟩), .pointer none], .bool true]) (by simp [results, Tryz.results12, go_sem, x0, x1, x2, x3]) rfl ?_
    exact .inl ⟨rfl, HFIN.out, h5.drop⟩
end
end Go.Proofs.YthghnlgojmedgaaGreat

/-
  The laws' helper of layer 9: done: Append, Snapshot, Arm, and what tells.
-/
namespace Go.Proofs.YthghnlgojmedgaaGreat
open Go.RowKit
set_option linter.unusedVariables false
set_option linter.unusedSimpArgs false

/-- The pair's things, anew. -/
def setP (R : List Thing) (a : Nat) (p : P4) : List Thing := (((R.set (a + 1) (WlT p.B p.D p.x)).set a (DkT p.D p.d)).set (a + 3) (RlT p.Y p.X p.x)).set (a + 2) (XkT p.X p.d)
abbrev oO (on kind n b : Int) (s : ByteArray) : Obj := .cells #[.int .i64 on, .int .i64 kind, .int .i64 n, .int .i64 b, .string s] 79
abbrev oA (on kind n b : Int) (s : ByteArray) : Value := .agg #[.int .i64 on, .int .i64 kind, .int .i64 n, .int .i64 b, .string s]
abbrev zO : Obj := .cells #[.pointer none, .pointer none, .pointer none, .pointer none] 42
/-- What a call of a script comes to, where no clone is made. -/
def DnTo (W : Base) (R : List Thing) (a k : Nat) (p : P4) (e : Ending) (w' : World) : Prop :=
  ∃ p' : P4, e = .returned (.tuple #[pA p'.D p'.B p'.X p'.Y, .bool true]) ∧ p'.D = p.D ∧ p'.X = p.X ∧ PI (k + 1) p'.x p'.d ∧ St W w' (setP R a p')

theorem setP_app {R T : List Thing} {a : Nat} {p : P4} (h : a + 3 < R.length) : setP (R ++ T) a p = setP R a p ++ T := by
  unfold setP
  rw [List.set_append_left _ _ (by omega), List.set_append_left _ _ (by simp; omega), List.set_append_left _ _ (by simp; omega), List.set_append_left _ _ (by simp; omega)]

theorem setP_dx {R : List Thing} {a D B X Y : Nat} {d : DS} {x : WS} (h2 : R[a + 1]? = some (WlT B D x)) (h4 : R[a + 3]? = some (RlT Y X x)) : (R.set a (DkT D d)).set (a + 2) (XkT X d) = setP R a ⟨D, B, X, Y, d, x⟩ := by
  unfold setP
  rw [things_set_self h2, things_set_self (R := R.set a (DkT D d)) (i := a + 3) (by rw [List.getElem?_set_ne (by omega)]; exact h4)]
theorem setP_self {R : List Thing} {a : Nat} {p : P4} (h : Pr R a p) : setP R a p = R := by
  unfold setP
  rw [things_set_self h.w, things_set_self h.d, things_set_self h.x, things_set_self h.e]

section
variable {W : Base} {w : World} {R : List Thing}
/-- The cells that done reads. -/
abbrev DnC (g D B X Y : Nat) (kind n b : Int) (s : ByteArray) (wx : World) : Prop :=
  wx.cell? ⟨g, 0, none⟩ = some (.pointer (some ⟨D, 0, none⟩)) ∧ wx.cell? ⟨g, 1, none⟩ = some (.pointer (some ⟨B, 0, none⟩)) ∧ wx.cell? ⟨g, 2, none⟩ = some (.pointer (some ⟨X, 0, none⟩)) ∧ wx.cell? ⟨g, 3, none⟩ = some (.pointer (some ⟨Y, 0, none⟩)) ∧ wx.cell? ⟨g + 1, 1, none⟩ = some (.int .i64 kind) ∧ wx.cell? ⟨g + 1, 2, none⟩ = some (.int .i64 n) ∧ wx.cell? ⟨g + 1, 3, none⟩ = some (.int .i64 b) ∧ wx.cell? ⟨g + 1, 4, none⟩ = some (.string s)
/-- Its own three blocks. -/
def T3 (g D B X Y : Nat) (on kind n b : Int) (s : ByteArray) : List Thing := [BlkT g (pO D B X Y), BlkT (g + 1) (oO on kind n b s), BlkT (g + 2) zO]
theorem dn_begin (H : St W w R) (D B X Y : Nat) (on kind n b : Int) (s : ByteArray) {g : Nat} (hg : w.heap.size = g) :
    St W (((w.alloc (pO D B X Y)).alloc (oO on kind n b s)).alloc zO) (R ++ T3 g D B X Y on kind n b s) := by
  subst hg
  have h := ((H.alloc (pO D B X Y)).allocAt (oO on kind n b s) (w.heap.size + 1) (by simp)).allocAt zO (w.heap.size + 2) (by simp)
  simpa [T3] using h
theorem dn_cells {g D B X Y : Nat} {on kind n b : Int} {s : ByteArray} (H : St W w (R ++ T3 g D B X Y on kind n b s)) : DnC g D B X Y kind n b s w := by
  have q1 : w.heap[g]? = some (pO D B X Y) := H.blk R.length (by simp [T3])
  have q2 : w.heap[g + 1]? = some (oO on kind n b s) := H.blk (R.length + 1) (by simp [T3])
  exact ⟨cell_blk q1 rfl, cell_blk q1 rfl, cell_blk q1 rfl, cell_blk q1 rfl, cell_blk q2 rfl, cell_blk q2 rfl, cell_blk q2 rfl, cell_blk q2 rfl⟩
theorem dn_set {g D B X Y : Nat} {kind n b : Int} {s : ByteArray} (h : DnC g D B X Y kind n b s w) (v : Value) (i : Nat) : DnC g D B X Y kind n b s (w.setCell ⟨g + 2, i, none⟩ v) := by
  have hF : Fr [g + 2] w (w.setCell ⟨g + 2, i, none⟩ v) := (Fr.refl _ _).setCell (.inl (by simp)) _
  obtain ⟨q0, q1, q2, q3, q4, q5, q6, q7⟩ := h
  exact ⟨hF.cell q0 (by simp), hF.cell q1 (by simp), hF.cell q2 (by simp), hF.cell q3 (by simp), hF.cell q4 (by simp), hF.cell q5 (by simp), hF.cell q6 (by simp), hF.cell q7 (by simp)⟩
theorem dn_free {g D B X Y : Nat} {on kind n b : Int} {s : ByteArray} (H : St W w (R ++ T3 g D B X Y on kind n b s)) :
    (w.cell? ⟨g + 2, 0, none⟩ = some (.pointer none) ∧ w.cell? ⟨g + 2, 1, none⟩ = some (.pointer none) ∧ w.cell? ⟨g + 2, 2, none⟩ = some (.pointer none) ∧ w.cell? ⟨g + 2, 3, none⟩ = some (.pointer none)) ∧
    w.frozen? ⟨g + 2, 0, none⟩ = false ∧ w.frozen? ⟨g + 2, 1, none⟩ = false ∧ w.frozen? ⟨g + 2, 2, none⟩ = false ∧ w.frozen? ⟨g + 2, 3, none⟩ = false := by
  have q : w.heap[g + 2]? = some zO := H.blk (R.length + 2) (by simp [T3])
  exact ⟨⟨cell_blk q rfl, cell_blk q rfl, cell_blk q rfl, cell_blk q rfl⟩, free_blk q, free_blk q, free_blk q, free_blk q⟩
theorem dn_end {g D B X Y : Nat} {on kind n b : Int} {s : ByteArray} (v0 v1 v2 v3 : Value) (H : St W w (R ++ T3 g D B X Y on kind n b s)) {w5 : World} (h5 : (((w.setCell ⟨g + 2, 0, none⟩ v0).setCell ⟨g + 2, 1, none⟩ v1).setCell ⟨g + 2, 2, none⟩ v2).setCell ⟨g + 2, 3, none⟩ v3 = w5) :
    (w5.cell? ⟨g + 2, 0, none⟩ = some v0 ∧ w5.cell? ⟨g + 2, 1, none⟩ = some v1 ∧ w5.cell? ⟨g + 2, 2, none⟩ = some v2 ∧ w5.cell? ⟨g + 2, 3, none⟩ = some v3) ∧ St W w5 R := by
  have e : R ++ T3 g D B X Y on kind n b s = (R ++ [BlkT g (pO D B X Y), BlkT (g + 1) (oO on kind n b s)]) ++ [BlkT (g + 2) zO] := by simp [T3]
  rw [e] at H
  have h := H.blk4 (rest := []) v0 v1 v2 v3
  rw [h5] at h
  have q : w5.heap[g + 2]? = some (.cells #[v0, v1, v2, v3] 42) := h.blk (R ++ [BlkT g (pO D B X Y), BlkT (g + 1) (oO on kind n b s)]).length (by simp)
  exact ⟨⟨cell_blk q rfl, cell_blk q rfl, cell_blk q rfl, cell_blk q rfl⟩, h.drop.drop⟩

set_option maxHeartbeats 400000 in
set_option maxRecDepth 100000 in
theorem st_done_append (H : St W w R) (a k : Nat) {p : P4} (hP : Pr R a p) (pi : PI k p.x p.d) (hk : k ≤ 2097152) (on n b : Int) (s : ByteArray) (hs : s.size ≤ 140737488355328) :
    Calls Tryz.prog 33 #[pA p.D p.B p.X p.Y, oA on 0 n b s] w (DnTo W R a k p) := by
  obtain ⟨D, B, X, Y, d, x⟩ := p
  have hl := lt_of_get hP.x
  obtain ⟨h1, h2, h3, h4⟩ := hP
  simp only at h1 h2 h3 h4 pi hl
  obtain ⟨g, hg⟩ : ∃ g, w.heap.size = g := ⟨_, rfl⟩
  have HA := hid (dn_begin H D B X Y on 0 n b s hg)
  have HG := hid hg
  have k1 := lt_of_get h1
  have hraw : (d.raw.length + 2000) * 24 ≤ 140737488355328 := by have := pi.raw; omega
  obtain ⟨z, hz⟩ : ∃ z, x.append d s = z := ⟨_, rfl⟩
  have KW : Hid (∀ wx T, St W wx (R ++ T) → Calls Tryz.prog 21 #[.pointer (some ⟨B, 0, none⟩), .string s] wx fun e w' => e = .returned (.int .i64 z.1) ∧ St W w' ((R.set (a + 1) (WlT B D z.2.1)).set a (DkT D z.2.2) ++ T)) := hid (fun wx T hS => by
    have := st_wappend hS (a + 1) a (by rw [List.getElem?_append_left (by omega)]; exact h2) (by rw [List.getElem?_append_left (by omega)]; exact h1) (by omega) pi.lg s hs hraw
    rw [List.set_append_left _ _ (by omega), List.set_append_left _ _ (by simp; omega), hz] at this
    exact this)
  have KR : Hid (∀ wx T, St W wx ((R.set (a + 1) (WlT B D z.2.1)).set a (DkT D z.2.2) ++ T) → Calls Tryz.prog 50 #[.pointer (some ⟨Y, 0, none⟩), .string s] wx fun e w' => e = .returned (.int .i64 z.1) ∧ St W w' (setP R a ⟨D, B, X, Y, z.2.2, z.2.1⟩ ++ T)) := hid (fun wx T hS => by
    have := st_rappend hS (a + 3) (a + 2) (by rw [List.getElem?_append_left (by simp; omega), List.getElem?_set_ne (by omega), List.getElem?_set_ne (by omega)]; exact h4) (by rw [List.getElem?_append_left (by simp; omega), List.getElem?_set_ne (by omega), List.getElem?_set_ne (by omega)]; exact h3) (by omega) pi.lg pi.log s hs hraw
    rw [List.set_append_left _ _ (by simp; omega), List.set_append_left _ _ (by simp; omega), hz] at this
    exact this)
  have HPI := pi.append s
  rw [hz] at HPI
  have HPI := hid HPI
  obtain ⟨z0, hz0⟩ : ∃ z0, z.1 = z0 := ⟨_, rfl⟩
  rw [hz0] at KW KR
  clear H h1 h2 h3 h4 pi hk hs hraw hz hz0 hg hl k1
  go_enter Tryz.func33, Tryz.ntmps33
  go_wp2_with fail
  rw [HG.out]
  have hSw := HA.out
  generalize ((w.alloc (pO D B X Y)).alloc (oO on 0 n b s)).alloc zO = w1 at hSw ⊢
  have HS := hid hSw
  obtain ⟨c0, c1, c2, c3, c4, c5, c6, c7⟩ := dn_cells hSw
  clear HA hSw HG
  go_wp2_with fail
  have HS0 := hid (dn_cells HS.out.drew)
  go_region_held3 (fun wx : World => wx.cell? ⟨g, 0, none⟩ = some (.pointer (some ⟨D, 0, none⟩)) ∧ wx.cell? ⟨g, 1, none⟩ = some (.pointer (some ⟨B, 0, none⟩)) ∧ wx.cell? ⟨g, 2, none⟩ = some (.pointer (some ⟨X, 0, none⟩)) ∧ wx.cell? ⟨g, 3, none⟩ = some (.pointer (some ⟨Y, 0, none⟩)) ∧ wx.cell? ⟨g + 1, 1, none⟩ = some (.int .i64 0) ∧ wx.cell? ⟨g + 1, 2, none⟩ = some (.int .i64 n) ∧ wx.cell? ⟨g + 1, 3, none⟩ = some (.int .i64 b) ∧ wx.cell? ⟨g + 1, 4, none⟩ = some (.string s)) ((first | with_reducible exact HNow.out | with_reducible exact HS0.out | with_reducible exact dn_set (dn_set (dn_set (dn_set HNow.out _ _) _ _) _ _) _ _))
    (first
      | (go_at_call 21; with_reducible refine (KW.out _ _ HS.out.drew).mono ?_; rintro e w2 ⟨rfl, h2⟩; have HNow := hid (dn_cells h2); have H2 := hid h2; clear h2)
      | (go_at_call 50; with_reducible refine (KR.out _ _ H2.out).mono ?_; rintro e w3 ⟨rfl, h3⟩; have HNow := hid (dn_cells h3); obtain ⟨⟨y0, y1, y2, y3⟩, f0, f1, f2, f3⟩ := dn_free h3; have H3 := hid h3; clear h3))
  go_wp2_with fail
  (try simp only [Exit.inBlock, Exit.then])
  have hE := dn_end (.pointer (some ⟨D, 0, none⟩)) (.pointer (some ⟨B, 0, none⟩)) (.pointer (some ⟨X, 0, none⟩)) (.pointer (some ⟨Y, 0, none⟩)) H3.out rfl
  generalize (((w3.setCell ⟨g + 2, 0, none⟩ _).setCell ⟨g + 2, 1, none⟩ _).setCell ⟨g + 2, 2, none⟩ _).setCell ⟨g + 2, 3, none⟩ _ = w5 at hE ⊢
  obtain ⟨⟨x0, x1, x2, x3⟩, h5⟩ := hE
  refine bodyPost_ret (v := .tuple #[pA D B X Y, .bool true]) (by simp [results, Tryz.results33, go_sem, x0, x1, x2, x3]) rfl ?_
  exact ⟨⟨D, B, X, Y, z.2.2, z.2.1⟩, rfl, rfl, rfl, HPI.out, h5⟩
set_option maxHeartbeats 400000 in
set_option maxRecDepth 100000 in
theorem st_done_snapshot (H : St W w R) (a k : Nat) {p : P4} (hP : Pr R a p) (pi : PI k p.x p.d) (hk : k ≤ 2097152) (on n b : Int) (s : ByteArray) (hs : s.size ≤ 140737488355328) :
    Calls Tryz.prog 33 #[pA p.D p.B p.X p.Y, oA on 1 n b s] w (DnTo W R a k p) := by
  obtain ⟨D, B, X, Y, d, x⟩ := p
  have hl := lt_of_get hP.x
  obtain ⟨h1, h2, h3, h4⟩ := hP
  simp only at h1 h2 h3 h4 pi hl
  obtain ⟨g, hg⟩ : ∃ g, w.heap.size = g := ⟨_, rfl⟩
  have HA := hid (dn_begin H D B X Y on 1 n b s hg)
  have HG := hid hg
  have k1 := lt_of_get h1
  have hraw : (d.raw.length + 2000) * 24 ≤ 140737488355328 := by have := pi.raw; omega
  obtain ⟨z, hz⟩ : ∃ z, x.snapshot d s = z := ⟨_, rfl⟩
  have KW : Hid (∀ wx T, St W wx (R ++ T) → Calls Tryz.prog 51 #[.pointer (some ⟨B, 0, none⟩), .string s] wx fun e w' => e = .returned (.int .i64 z.1) ∧ St W w' ((R.set (a + 1) (WlT B D z.2.1)).set a (DkT D z.2.2) ++ T)) := hid (fun wx T hS => by
    have := st_wsnapshot hS (a + 1) a (by rw [List.getElem?_append_left (by omega)]; exact h2) (by rw [List.getElem?_append_left (by omega)]; exact h1) (by omega) pi.lg s hs hraw
    rw [List.set_append_left _ _ (by omega), List.set_append_left _ _ (by simp; omega), hz] at this
    exact this)
  have KR : Hid (∀ wx T, St W wx ((R.set (a + 1) (WlT B D z.2.1)).set a (DkT D z.2.2) ++ T) → Calls Tryz.prog 52 #[.pointer (some ⟨Y, 0, none⟩), .string s] wx fun e w' => e = .returned (.int .i64 z.1) ∧ St W w' (setP R a ⟨D, B, X, Y, z.2.2, z.2.1⟩ ++ T)) := hid (fun wx T hS => by
    have := st_rsnapshot hS (a + 3) (a + 2) (by rw [List.getElem?_append_left (by simp; omega), List.getElem?_set_ne (by omega), List.getElem?_set_ne (by omega)]; exact h4) (by rw [List.getElem?_append_left (by simp; omega), List.getElem?_set_ne (by omega), List.getElem?_set_ne (by omega)]; exact h3) (by omega) pi.lg pi.log s hs hraw
    rw [List.set_append_left _ _ (by simp; omega), List.set_append_left _ _ (by simp; omega), hz] at this
    exact this)
  have HPI := pi.snapshot s
  rw [hz] at HPI
  have HPI := hid HPI
  obtain ⟨z0, hz0⟩ : ∃ z0, z.1 = z0 := ⟨_, rfl⟩
  rw [hz0] at KW KR
  clear H h1 h2 h3 h4 pi hk hs hraw hz hz0 hg hl k1
  go_enter Tryz.func33, Tryz.ntmps33
  go_wp2_with fail
  rw [HG.out]
  have hSw := HA.out
  generalize ((w.alloc (pO D B X Y)).alloc (oO on 1 n b s)).alloc zO = w1 at hSw ⊢
  have HS := hid hSw
  obtain ⟨c0, c1, c2, c3, c4, c5, c6, c7⟩ := dn_cells hSw
  clear HA hSw HG
  go_wp2_with fail
  have HS0 := hid (dn_cells HS.out.drew)
  go_region_held3 (fun wx : World => wx.cell? ⟨g, 0, none⟩ = some (.pointer (some ⟨D, 0, none⟩)) ∧ wx.cell? ⟨g, 1, none⟩ = some (.pointer (some ⟨B, 0, none⟩)) ∧ wx.cell? ⟨g, 2, none⟩ = some (.pointer (some ⟨X, 0, none⟩)) ∧ wx.cell? ⟨g, 3, none⟩ = some (.pointer (some ⟨Y, 0, none⟩)) ∧ wx.cell? ⟨g + 1, 1, none⟩ = some (.int .i64 1) ∧ wx.cell? ⟨g + 1, 2, none⟩ = some (.int .i64 n) ∧ wx.cell? ⟨g + 1, 3, none⟩ = some (.int .i64 b) ∧ wx.cell? ⟨g + 1, 4, none⟩ = some (.string s)) ((first | with_reducible exact HNow.out | with_reducible exact HS0.out | with_reducible exact dn_set (dn_set (dn_set (dn_set HNow.out _ _) _ _) _ _) _ _))
    (first
      | (go_at_call 51; with_reducible refine (KW.out _ _ HS.out.drew).mono ?_; rintro e w2 ⟨rfl, h2⟩; have HNow := hid (dn_cells h2); have H2 := hid h2; clear h2)
      | (go_at_call 52; with_reducible refine (KR.out _ _ H2.out).mono ?_; rintro e w3 ⟨rfl, h3⟩; have HNow := hid (dn_cells h3); obtain ⟨⟨y0, y1, y2, y3⟩, f0, f1, f2, f3⟩ := dn_free h3; have H3 := hid h3; clear h3))
  go_wp2_with fail
  (try simp only [Exit.inBlock, Exit.then])
  have hE := dn_end (.pointer (some ⟨D, 0, none⟩)) (.pointer (some ⟨B, 0, none⟩)) (.pointer (some ⟨X, 0, none⟩)) (.pointer (some ⟨Y, 0, none⟩)) H3.out rfl
  generalize (((w3.setCell ⟨g + 2, 0, none⟩ _).setCell ⟨g + 2, 1, none⟩ _).setCell ⟨g + 2, 2, none⟩ _).setCell ⟨g + 2, 3, none⟩ _ = w5 at hE ⊢
  obtain ⟨⟨x0, x1, x2, x3⟩, h5⟩ := hE
  refine bodyPost_ret (v := .tuple #[pA D B X Y, .bool true]) (by simp [results, Tryz.results33, go_sem, x0, x1, x2, x3]) rfl ?_
  exact ⟨⟨D, B, X, Y, z.2.2, z.2.1⟩, rfl, rfl, rfl, HPI.out, h5⟩
set_option maxHeartbeats 400000 in
set_option maxRecDepth 100000 in
theorem st_done_arm (H : St W w R) (a k : Nat) {p : P4} (hP : Pr R a p) (pi : PI k p.x p.d) (on n b : Int) (s : ByteArray) (hn : n ≤ 9223372036854775807) :
    Calls Tryz.prog 33 #[pA p.D p.B p.X p.Y, oA on 3 n b s] w (DnTo W R a k p) := by
  obtain ⟨D, B, X, Y, d, x⟩ := p
  have hl := lt_of_get hP.x
  obtain ⟨h1, h2, h3, h4⟩ := hP
  simp only at h1 h2 h3 h4 pi hl
  obtain ⟨g, hg⟩ : ∃ g, w.heap.size = g := ⟨_, rfl⟩
  have HA := hid (dn_begin H D B X Y on 3 n b s hg)
  have HG := hid hg
  have k1 := lt_of_get h1
  obtain ⟨z, hz⟩ : ∃ z, d.arm n b = z := ⟨_, rfl⟩
  have KW : Hid (∀ wx T, St W wx (R ++ T) → Calls Tryz.prog 53 #[.pointer (some ⟨D, 0, none⟩), .int .i64 n, .int .i64 b] wx fun e w' => e = .returned (.int .i64 z.1) ∧ St W w' (R.set a (DkT D z.2) ++ T)) := hid (fun wx T hS => by
    have := st_arm hS a (by rw [List.getElem?_append_left (by omega)]; exact h1) n b
    rw [List.set_append_left _ _ (by omega), hz] at this
    exact this)
  have KR : Hid (∀ wx T, St W wx (R.set a (DkT D z.2) ++ T) → Calls Tryz.prog 54 #[.pointer (some ⟨X, 0, none⟩), .int .i64 n, .int .i64 b] wx fun e w' => e = .returned (.int .i64 z.1) ∧ St W w' (setP R a ⟨D, B, X, Y, z.2, x⟩ ++ T)) := hid (fun wx T hS => by
    have := st_ref_arm hS (a + 2) (by rw [List.getElem?_append_left (by simp; omega), List.getElem?_set_ne (by omega)]; exact h3) n b
    rw [List.set_append_left _ _ (by simp; omega), hz, setP_dx h2 h4] at this
    exact this)
  have HPI := pi.arm (n := n) (b := b) hn
  rw [hz] at HPI
  have HPI := hid HPI
  obtain ⟨z0, hz0⟩ : ∃ z0, z.1 = z0 := ⟨_, rfl⟩
  rw [hz0] at KW KR
  clear H h1 h2 h3 h4 pi hn hz hz0 hg hl k1
  go_enter Tryz.func33, Tryz.ntmps33
  go_wp2_with fail
  rw [HG.out]
  have hSw := HA.out
  generalize ((w.alloc (pO D B X Y)).alloc (oO on 3 n b s)).alloc zO = w1 at hSw ⊢
  have HS := hid hSw
  obtain ⟨c0, c1, c2, c3, c4, c5, c6, c7⟩ := dn_cells hSw
  clear HA hSw HG
  go_wp2_with fail
  have HS0 := hid (dn_cells HS.out.drew)
  go_region_held3 (fun wx : World => wx.cell? ⟨g, 0, none⟩ = some (.pointer (some ⟨D, 0, none⟩)) ∧ wx.cell? ⟨g, 1, none⟩ = some (.pointer (some ⟨B, 0, none⟩)) ∧ wx.cell? ⟨g, 2, none⟩ = some (.pointer (some ⟨X, 0, none⟩)) ∧ wx.cell? ⟨g, 3, none⟩ = some (.pointer (some ⟨Y, 0, none⟩)) ∧ wx.cell? ⟨g + 1, 1, none⟩ = some (.int .i64 3) ∧ wx.cell? ⟨g + 1, 2, none⟩ = some (.int .i64 n) ∧ wx.cell? ⟨g + 1, 3, none⟩ = some (.int .i64 b) ∧ wx.cell? ⟨g + 1, 4, none⟩ = some (.string s)) ((first | with_reducible exact HNow.out | with_reducible exact HS0.out | with_reducible exact dn_set (dn_set (dn_set (dn_set HNow.out _ _) _ _) _ _) _ _))
    (first
      | (go_at_call 53; with_reducible refine (KW.out _ _ HS.out.drew).mono ?_; rintro e w2 ⟨rfl, h2⟩; have HNow := hid (dn_cells h2); have H2 := hid h2; clear h2)
      | (go_at_call 54; with_reducible refine (KR.out _ _ H2.out).mono ?_; rintro e w3 ⟨rfl, h3⟩; have HNow := hid (dn_cells h3); obtain ⟨⟨y0, y1, y2, y3⟩, f0, f1, f2, f3⟩ := dn_free h3; have H3 := hid h3; clear h3))
  go_wp2_with fail
  (try simp only [Exit.inBlock, Exit.then])
  have hE := dn_end (.pointer (some ⟨D, 0, none⟩)) (.pointer (some ⟨B, 0, none⟩)) (.pointer (some ⟨X, 0, none⟩)) (.pointer (some ⟨Y, 0, none⟩)) H3.out rfl
  generalize (((w3.setCell ⟨g + 2, 0, none⟩ _).setCell ⟨g + 2, 1, none⟩ _).setCell ⟨g + 2, 2, none⟩ _).setCell ⟨g + 2, 3, none⟩ _ = w5 at hE ⊢
  obtain ⟨⟨x0, x1, x2, x3⟩, h5⟩ := hE
  refine bodyPost_ret (v := .tuple #[pA D B X Y, .bool true]) (by simp [results, Tryz.results33, go_sem, x0, x1, x2, x3]) rfl ?_
  exact ⟨⟨D, B, X, Y, z.2, x⟩, rfl, rfl, rfl, HPI.out, h5⟩
set_option maxHeartbeats 400000 in
set_option maxRecDepth 100000 in
theorem st_done_tells (H : St W w R) (a k : Nat) {p : P4} (hP : Pr R a p) (pi : PI k p.x p.d) (on kind n b : Int) (s : ByteArray) (q0 : (kind == 0) = false) (q1 : (kind == 1) = false) (q3 : (kind == 3) = false) (q4 : (kind == 4) = false) (q5 : (kind == 5) = false) :
    Calls Tryz.prog 33 #[pA p.D p.B p.X p.Y, oA on kind n b s] w (DnTo W R a k p) := by
  have hPP := hP
  have hPI := pi
  obtain ⟨D, B, X, Y, d, x⟩ := p
  have hl := lt_of_get hP.x
  obtain ⟨h1, h2, h3, h4⟩ := hP
  simp only at h1 h2 h3 h4 pi hl
  obtain ⟨g, hg⟩ : ∃ g, w.heap.size = g := ⟨_, rfl⟩
  have HA := hid (dn_begin H D B X Y on kind n b s hg)
  have HG := hid hg
  have k1 := lt_of_get h1
  have KW : Hid (∀ wx T, St W wx (R ++ T) → Calls Tryz.prog 34 #[pA D B X Y] wx fun e w' => e = .returned (.bool true) ∧ St W w' (R ++ T)) := hid (fun wx T hS => by
    refine st_tells hS a (p := ⟨D, B, X, Y, d, x⟩) ⟨?_, ?_, ?_, ?_⟩ pi.lg
    · rw [List.getElem?_append_left (by omega)]; exact h1
    · rw [List.getElem?_append_left (by omega)]; exact h2
    · rw [List.getElem?_append_left (by omega)]; exact h3
    · rw [List.getElem?_append_left (by omega)]; exact h4)
  have HPI := hid (And.intro (pi.mono (Nat.le_succ k)) (setP_self (R := R) (a := a) (p := ⟨D, B, X, Y, d, x⟩) hPP))
  clear H h1 h2 h3 h4 pi hg hl k1 hPP hPI
  go_enter Tryz.func33, Tryz.ntmps33
  go_wp2_with fail
  rw [HG.out]
  have hSw := HA.out
  generalize ((w.alloc (pO D B X Y)).alloc (oO on kind n b s)).alloc zO = w1 at hSw ⊢
  have HS := hid hSw
  obtain ⟨c0, c1, c2, c3, c4, c5, c6, c7⟩ := dn_cells hSw
  clear HA hSw HG
  go_wp2_with fail
  have HS0 := hid (dn_cells HS.out.drew)
  go_region_held3 (fun wx : World => wx.cell? ⟨g, 0, none⟩ = some (.pointer (some ⟨D, 0, none⟩)) ∧ wx.cell? ⟨g, 1, none⟩ = some (.pointer (some ⟨B, 0, none⟩)) ∧ wx.cell? ⟨g, 2, none⟩ = some (.pointer (some ⟨X, 0, none⟩)) ∧ wx.cell? ⟨g, 3, none⟩ = some (.pointer (some ⟨Y, 0, none⟩)) ∧ wx.cell? ⟨g + 1, 1, none⟩ = some (.int .i64 kind) ∧ wx.cell? ⟨g + 1, 2, none⟩ = some (.int .i64 n) ∧ wx.cell? ⟨g + 1, 3, none⟩ = some (.int .i64 b) ∧ wx.cell? ⟨g + 1, 4, none⟩ = some (.string s)) ((first | with_reducible exact HNow.out | with_reducible exact HS0.out | with_reducible exact dn_set (dn_set (dn_set (dn_set HNow.out _ _) _ _) _ _) _ _))
    (first
      | (go_at_call 34; with_reducible refine (KW.out _ _ HS.out.drew).mono ?_; rintro e w3 ⟨rfl, h3⟩; have HNow := hid (dn_cells h3); obtain ⟨⟨y0, y1, y2, y3⟩, f0, f1, f2, f3⟩ := dn_free h3; have H3 := hid h3; clear h3))
  go_wp2_with fail
  (try simp only [Exit.inBlock, Exit.then])
  have hE := dn_end (.pointer (some ⟨D, 0, none⟩)) (.pointer (some ⟨B, 0, none⟩)) (.pointer (some ⟨X, 0, none⟩)) (.pointer (some ⟨Y, 0, none⟩)) H3.out rfl
  generalize (((w3.setCell ⟨g + 2, 0, none⟩ _).setCell ⟨g + 2, 1, none⟩ _).setCell ⟨g + 2, 2, none⟩ _).setCell ⟨g + 2, 3, none⟩ _ = w5 at hE ⊢
  obtain ⟨⟨x0, x1, x2, x3⟩, h5⟩ := hE
  refine bodyPost_ret (v := .tuple #[pA D B X Y, .bool true]) (by simp [results, Tryz.results33, go_sem, x0, x1, x2, x3]) rfl ?_
  exact ⟨⟨D, B, X, Y, d, x⟩, rfl, rfl, rfl, HPI.out.1, by rw [HPI.out.2]; exact h5⟩
end
end Go.Proofs.YthghnlgojmedgaaGreat

/-
  The laws' helper of layer 9: done: Open, Clone; as one.
-/
namespace Go.Proofs.YthghnlgojmedgaaGreat
open Go.RowKit
set_option linter.unusedVariables false
set_option linter.unusedSimpArgs false

theorem perm_repl (A : Thing) : ∀ (R : List Thing) (i : Nat) (h : i < R.length), (R ++ [A]).Perm (R.set i A ++ [R[i]])
  | [], i, h => absurd h (Nat.not_lt_zero _)
  | q :: r, 0, _ => by
    show (q :: (r ++ [A])).Perm (A :: (r ++ [q]))
    exact ((List.perm_append_singleton A r).cons q).trans ((List.Perm.swap A q r).trans ((List.perm_append_singleton q r).symm.cons A))
  | q :: r, i + 1, h => (perm_repl A r i (by simpa using h)).cons q
theorem setP_alt {R : List Thing} {a D B X Y : Nat} {d : DS} {x : WS} : ((((R.set a (DkT D d)).set (a + 2) (XkT X d)).set (a + 3) (RlT Y X x)).set (a + 1) (WlT B D x)) = setP R a ⟨D, B, X, Y, d, x⟩ := by
  unfold setP
  rw [List.set_comm (RlT Y X x) (WlT B D x) (show a + 3 ≠ a + 1 by omega), List.set_comm (XkT X d) (WlT B D x) (show a + 2 ≠ a + 1 by omega), List.set_comm (DkT D d) (WlT B D x) (show a ≠ a + 1 by omega), List.set_comm (XkT X d) (RlT Y X x) (show a + 2 ≠ a + 3 by omega)]
def things1 (p : P4) : List Thing := [DkT p.D p.d, WlT p.B p.D p.x, XkT p.X p.d, RlT p.Y p.X p.x]

section
variable {W : Base} {w : World} {R : List Thing}
theorem St.repl {A : Thing} (H : St W w (R ++ [A])) (i : Nat) (h : i < R.length) : St W w (R.set i A) := H.sub (perm_repl A R i h)
theorem St.repl2 {A B : Thing} (H : St W w (R ++ [B, A])) (i j : Nat) (hi : i < R.length) (hj : j < R.length) : St W w ((R.set i A).set j B) := by
  have h : St W w ((R ++ [B]) ++ [A]) := by rw [List.append_assoc]; exact H
  have h2 := h.repl i (by simp; omega)
  rw [List.set_append_left _ _ hi] at h2
  exact h2.repl j (by simpa using hj)
theorem St.back {T U : List Thing} (H : St W w ((R ++ T) ++ U)) : St W w ((R ++ U) ++ T) :=
  H.perm (by rw [List.append_assoc, List.append_assoc]; exact List.Perm.append_left R List.perm_append_comm)

set_option maxHeartbeats 400000 in
set_option maxRecDepth 100000 in
theorem st_done_open (H : St W w R) (a k : Nat) {p : P4} (hP : Pr R a p) (pi : PI k p.x p.d) (on n b : Int) (s : ByteArray) :
    Calls Tryz.prog 33 #[pA p.D p.B p.X p.Y, oA on 4 n b s] w (DnTo W R a k p) := by
  obtain ⟨D, B, X, Y, d, x⟩ := p
  have hl := lt_of_get hP.x
  obtain ⟨h1, h2, h3, h4⟩ := hP
  simp only at h1 h2 h3 h4 pi hl
  obtain ⟨g, hg⟩ : ∃ g, w.heap.size = g := ⟨_, rfl⟩
  have HA := hid (dn_begin H D B X Y on 4 n b s hg)
  have HG := hid hg
  have k1 := lt_of_get h1
  have KW : Hid (∀ wx T, St W wx (R ++ T) → Calls Tryz.prog 55 #[.pointer (some ⟨D, 0, none⟩)] wx fun e w' => e = .returned (.tuple #[]) ∧ St W w' (R.set a (DkT D d.revive) ++ T)) := hid (fun wx T hS => by
    have := st_revive hS a (by rw [List.getElem?_append_left (by omega)]; exact h1)
    rw [List.set_append_left _ _ (by omega)] at this
    exact this)
  have KR : Hid (∀ wx T, St W wx (R.set a (DkT D d.revive) ++ T) → Calls Tryz.prog 56 #[.pointer (some ⟨X, 0, none⟩)] wx fun e w' => e = .returned (.tuple #[]) ∧ St W w' ((R.set a (DkT D d.revive)).set (a + 2) (XkT X d.revive) ++ T)) := hid (fun wx T hS => by
    have := st_ref_revive hS (a + 2) (by rw [List.getElem?_append_left (by simp; omega), List.getElem?_set_ne (by omega)]; exact h3)
    rw [List.set_append_left _ _ (by simp; omega)] at this
    exact this)
  obtain ⟨h, s1, l, C⟩ := pi.ops.cnt
  have hL : PI (k + 1) ⟨h, l.length, false⟩ d.revive := PI.opened (revive_wf pi.lg.wf) pi.lg.fit rfl C (by have := pi.raw; show d.raw.length ≤ _; omega)
  have KO : Hid (∀ wx T, St W wx ((R.set a (DkT D d.revive)).set (a + 2) (XkT X d.revive) ++ T) → Calls Tryz.prog 12 #[.pointer (some ⟨D, 0, none⟩), .pointer (some ⟨X, 0, none⟩)] wx fun e w' => ∃ B' Y', e = .returned (.tuple #[pA D B' X Y', .bool true]) ∧ St W w' (setP R a ⟨D, B', X, Y', d.revive, ⟨h, l.length, false⟩⟩ ++ T)) := hid (fun wx T hS => by
    have hla : a < ((R.set a (DkT D d.revive)).set (a + 2) (XkT X d.revive)).length := by simp; omega
    refine (st_opened hS a (a + 2) (D := D) (X := X) (d := d.revive) ?_ ?_ (revive_wf pi.lg.wf)).mono ?_
    · rw [List.getElem?_append_left hla, List.getElem?_set_ne (by omega), List.getElem?_set_self (by omega)]
    · rw [List.getElem?_append_left (by simp; omega), List.getElem?_set_self (by simp; omega)]
    · rintro e w' (⟨_, hno, _⟩ | ⟨_, _, h', s', l', C', B', Y', rfl, h5⟩)
      · exact absurd ⟨h, s1, l, rfl, pi.lg.fit, C⟩ hno
      · obtain ⟨rfl, rfl, rfl⟩ := C'.uniq C
        refine ⟨B', Y', rfl, ?_⟩
        have h6 := h5.back
        have h7 : St W w' (T ++ (((R.set a (DkT D d.revive)).set (a + 2) (XkT X d.revive)) ++ [WlT B' D ⟨h', l'.length, false⟩, RlT Y' X ⟨h', l'.length, false⟩])) := h6.perm List.perm_append_comm
        rw [← List.append_assoc] at h7
        have h8 := h7.repl2 (T.length + (a + 3)) (T.length + (a + 1)) (by simp; omega) (by simp; omega)
        rw [List.set_append_right _ _ (by omega), List.set_append_right _ _ (by omega), Nat.add_sub_cancel_left, Nat.add_sub_cancel_left, setP_alt] at h8
        exact h8.perm List.perm_append_comm)
  have HPI := hid hL
  clear H h1 h2 h3 h4 pi hg hl k1 C hL
  go_enter Tryz.func33, Tryz.ntmps33
  go_wp2_with fail
  rw [HG.out]
  have hSw := HA.out
  generalize ((w.alloc (pO D B X Y)).alloc (oO on 4 n b s)).alloc zO = w1 at hSw ⊢
  have HS := hid hSw
  obtain ⟨c0, c1, c2, c3, c4, c5, c6, c7⟩ := dn_cells hSw
  clear HA hSw HG
  go_wp2_with fail
  with_reducible refine (KW.out _ _ HS.out).mono ?_
  rintro e w2 ⟨rfl, h2⟩
  have H2 := hid h2
  clear c0 c1 c2 c3 c4 c5 c6 c7
  obtain ⟨c0, c1, c2, c3, c4, c5, c6, c7⟩ := dn_cells h2
  clear h2
  go_wp2_with fail
  with_reducible refine (KR.out _ _ H2.out).mono ?_
  rintro e w4 ⟨rfl, h2⟩
  have H4 := hid h2
  clear c0 c1 c2 c3 c4 c5 c6 c7
  obtain ⟨c0, c1, c2, c3, c4, c5, c6, c7⟩ := dn_cells h2
  clear h2
  go_wp2_with fail
  with_reducible refine (KO.out _ _ H4.out).mono ?_
  rintro e w3 ⟨B1, Y1, rfl, h3⟩
  obtain ⟨⟨y0, y1, y2, y3⟩, f0, f1, f2, f3⟩ := dn_free h3
  have H3 := hid h3
  clear h3 c0 c1 c2 c3 c4 c5 c6 c7
  go_wp2_with fail
  (try simp only [Exit.inBlock, Exit.then])
  have hE := dn_end (.pointer (some ⟨D, 0, none⟩)) (.pointer (some ⟨B1, 0, none⟩)) (.pointer (some ⟨X, 0, none⟩)) (.pointer (some ⟨Y1, 0, none⟩)) H3.out rfl
  generalize (((w3.setCell ⟨g + 2, 0, none⟩ _).setCell ⟨g + 2, 1, none⟩ _).setCell ⟨g + 2, 2, none⟩ _).setCell ⟨g + 2, 3, none⟩ _ = w5 at hE ⊢
  obtain ⟨⟨x0, x1, x2, x3⟩, h5⟩ := hE
  refine bodyPost_ret (v := .tuple #[pA D B1 X Y1, .bool true]) (by simp [results, Tryz.results33, go_sem, x0, x1, x2, x3]) rfl ?_
  exact ⟨⟨D, B1, X, Y1, d.revive, ⟨h, l.length, false⟩⟩, rfl, rfl, rfl, HPI.out, h5⟩

set_option maxHeartbeats 400000 in
set_option maxRecDepth 100000 in
theorem st_done_clone (H : St W w R) (a k : Nat) {p : P4} (hP : Pr R a p) (pi : PI k p.x p.d) (hk : k ≤ 2097152) (on n b : Int) (s : ByteArray) :
    Calls Tryz.prog 33 #[pA p.D p.B p.X p.Y, oA on 5 n b s] w fun e w' => ∃ p' : P4, e = .returned (.tuple #[pA p'.D p'.B p'.X p'.Y, .bool true]) ∧ PI (k + 1) p'.x p'.d ∧ St W w' (R ++ things1 p') := by
  obtain ⟨D, B, X, Y, d, x⟩ := p
  have hl := lt_of_get hP.x
  obtain ⟨h1, h2, h3, h4⟩ := hP
  simp only at h1 h2 h3 h4 pi hl
  obtain ⟨g, hg⟩ : ∃ g, w.heap.size = g := ⟨_, rfl⟩
  have HA := hid (dn_begin H D B X Y on 5 n b s hg)
  have HG := hid hg
  have k1 := lt_of_get h1
  have hraw : d.raw.length * 24 ≤ 140737488355328 := by have := pi.raw; omega
  have K1 := hid (fun wx T (hS : St W wx (R ++ T)) => st_clone hS a (by rw [List.getElem?_append_left (by omega)]; exact h1) pi.lg.wf hraw)
  have K2 := hid (fun wx T C (hS : St W wx (R ++ T)) => st_wclone hS (a + 1) (by rw [List.getElem?_append_left (by omega)]; exact h2) C)
  have K3 := hid (fun wx T (hS : St W wx (R ++ T)) => st_ref_copy hS (a + 2) (by rw [List.getElem?_append_left (by omega)]; exact h3))
  have K4 := hid (fun wx T C (hS : St W wx (R ++ T)) => st_rwcopy hS (a + 3) (by rw [List.getElem?_append_left (by omega)]; exact h4) C)
  have HPI := hid (pi.mono (Nat.le_succ k))
  clear H h1 h2 h3 h4 pi hg hl k1 hk hraw
  go_enter Tryz.func33, Tryz.ntmps33
  go_wp2_with fail
  rw [HG.out]
  have hSw := HA.out
  generalize ((w.alloc (pO D B X Y)).alloc (oO on 5 n b s)).alloc zO = w1 at hSw ⊢
  have HS := hid hSw
  obtain ⟨c0, c1, c2, c3, c4, c5, c6, c7⟩ := dn_cells hSw
  clear HA hSw HG
  go_wp2_with fail
  with_reducible refine (K1.out _ _ HS.out).mono ?_
  rintro e w2 ⟨C, rfl, h2⟩
  have h2 := h2.back
  clear c0 c1 c2 c3 c4 c5 c6 c7
  obtain ⟨c0, c1, c2, c3, c4, c5, c6, c7⟩ := dn_cells h2
  rw [List.append_assoc] at h2
  have H2 := hid h2
  clear h2 HS K1
  go_wp2_with fail
  with_reducible refine (K2.out _ _ C H2.out).mono ?_
  rintro e w4 ⟨B1, rfl, h2⟩
  rw [← List.append_assoc R] at h2
  have h2 := h2.back
  clear c0 c1 c2 c3 c4 c5 c6 c7
  obtain ⟨c0, c1, c2, c3, c4, c5, c6, c7⟩ := dn_cells h2
  rw [List.append_assoc, List.append_assoc] at h2
  have H4 := hid h2
  clear h2 H2 K2
  go_wp2_with fail
  with_reducible refine (K3.out _ _ H4.out).mono ?_
  rintro e w5 ⟨X1, rfl, h2⟩
  rw [← List.append_assoc R, ← List.append_assoc (R ++ [DkT C d])] at h2
  have h2 := h2.back
  clear c0 c1 c2 c3 c4 c5 c6 c7
  obtain ⟨c0, c1, c2, c3, c4, c5, c6, c7⟩ := dn_cells h2
  rw [List.append_assoc, List.append_assoc, List.append_assoc] at h2
  have H5 := hid h2
  clear h2 H4 K3
  go_wp2_with fail
  with_reducible refine (K4.out _ _ X1 H5.out).mono ?_
  rintro e w3 ⟨Y1, rfl, h2⟩
  rw [← List.append_assoc R, ← List.append_assoc (R ++ [DkT C d]), ← List.append_assoc (R ++ [DkT C d] ++ [WlT B1 C x])] at h2
  have h3 := h2.back
  obtain ⟨⟨y0, y1, y2, y3⟩, f0, f1, f2, f3⟩ := dn_free h3
  have H3 := hid h3
  clear h2 h3 c0 c1 c2 c3 c4 c5 c6 c7 H5 K4
  go_wp2_with fail
  (try simp only [Exit.inBlock, Exit.then])
  have hE := dn_end (.pointer (some ⟨C, 0, none⟩)) (.pointer (some ⟨B1, 0, none⟩)) (.pointer (some ⟨X1, 0, none⟩)) (.pointer (some ⟨Y1, 0, none⟩)) H3.out rfl
  generalize (((w3.setCell ⟨g + 2, 0, none⟩ _).setCell ⟨g + 2, 1, none⟩ _).setCell ⟨g + 2, 2, none⟩ _).setCell ⟨g + 2, 3, none⟩ _ = w6 at hE ⊢
  obtain ⟨⟨x0, x1, x2, x3⟩, h5⟩ := hE
  refine bodyPost_ret (v := .tuple #[pA C B1 X1 Y1, .bool true]) (by simp [results, Tryz.results33, go_sem, x0, x1, x2, x3]) rfl ?_
  exact ⟨⟨C, B1, X1, Y1, d, x⟩, rfl, HPI.out, by simpa [things1] using h5⟩
end
end Go.Proofs.YthghnlgojmedgaaGreat

/-
  The laws' helpers of layer 9: a script's call, whatever its kind; the pairs as a list.
-/
namespace Go.Proofs.YthghnlgojmedgaaGreat
open Go.RowKit
set_option linter.unusedVariables false
set_option linter.unusedSimpArgs false

section
variable {W : Base} {w : World} {R : List Thing}
theorem st_done (H : St W w R) (a k : Nat) {p : P4} (hP : Pr R a p) (pi : PI k p.x p.d) (hk : k ≤ 2097152) (on kind n b : Int) (s : ByteArray) (hs : s.size ≤ 140737488355328) (hn : n ≤ 9223372036854775807) :
    Calls Tryz.prog 33 #[pA p.D p.B p.X p.Y, oA on kind n b s] w fun e w' => ∃ p' : P4, e = .returned (.tuple #[pA p'.D p'.B p'.X p'.Y, .bool true]) ∧ PI (k + 1) p'.x p'.d ∧ (kind ≠ 5 → St W w' (setP R a p')) ∧ (kind = 5 → St W w' (R ++ things1 p')) := by
  have hD : ∀ e w', kind ≠ 5 → DnTo W R a k p e w' → ∃ p' : P4, e = .returned (.tuple #[pA p'.D p'.B p'.X p'.Y, .bool true]) ∧ PI (k + 1) p'.x p'.d ∧ (kind ≠ 5 → St W w' (setP R a p')) ∧ (kind = 5 → St W w' (R ++ things1 p')) :=
    fun e w' h5 ⟨p', h1, _, _, h2, h3⟩ => ⟨p', h1, h2, fun _ => h3, fun h => absurd h h5⟩
  by_cases q0 : kind = 0
  · subst q0; exact (st_done_append H a k hP pi hk on n b s hs).mono fun e w' => hD e w' (by decide)
  by_cases q1 : kind = 1
  · subst q1; exact (st_done_snapshot H a k hP pi hk on n b s hs).mono fun e w' => hD e w' (by decide)
  by_cases q3 : kind = 3
  · subst q3; exact (st_done_arm H a k hP pi on n b s hn).mono fun e w' => hD e w' (by decide)
  by_cases q4 : kind = 4
  · subst q4; exact (st_done_open H a k hP pi on n b s).mono fun e w' => hD e w' (by decide)
  by_cases q5 : kind = 5
  · subst q5; exact (st_done_clone H a k hP pi hk on n b s).mono fun e w' ⟨p', h1, h2, h3⟩ => ⟨p', h1, h2, fun h => absurd rfl h, fun _ => h3⟩
  exact (st_done_tells H a k hP pi on kind n b s (beq_eq_false_iff_ne.2 q0) (beq_eq_false_iff_ne.2 q1) (beq_eq_false_iff_ne.2 q3) (beq_eq_false_iff_ne.2 q4) (beq_eq_false_iff_ne.2 q5)).mono fun e w' => hD e w' q5
theorem St.allocSet (H : St W w R) (D B X Y : Nat) : St W (((((w.alloc zO).setCell ⟨w.heap.size, 0, none⟩ (.pointer (some ⟨D, 0, none⟩))).setCell ⟨w.heap.size, 1, none⟩ (.pointer (some ⟨B, 0, none⟩))).setCell ⟨w.heap.size, 2, none⟩ (.pointer (some ⟨X, 0, none⟩))).setCell ⟨w.heap.size, 3, none⟩ (.pointer (some ⟨Y, 0, none⟩))) (R ++ [BlkT w.heap.size (pO D B X Y)]) :=
  (H.alloc zO).blk4 (rest := []) _ _ _ _
end

def things4 : List P4 → List Thing
  | [] => []
  | p :: r => DkT p.D p.d :: WlT p.B p.D p.x :: XkT p.X p.d :: RlT p.Y p.X p.x :: things4 r
def cells4 : List P4 → List Value
  | [] => []
  | p :: r => .pointer (some ⟨p.D, 0, none⟩) :: .pointer (some ⟨p.B, 0, none⟩) :: .pointer (some ⟨p.X, 0, none⟩) :: .pointer (some ⟨p.Y, 0, none⟩) :: cells4 r
theorem things4_get {ps : List P4} {k : Nat} {p : P4} (h : ps[k]? = some p) (A : Thing) : Pr (A :: things4 ps) (4 * k + 1) p := by
  induction ps generalizing k A with
  | nil => simp at h
  | cons q r ih =>
    match k with
    | 0 => simp at h; subst h; exact ⟨rfl, rfl, rfl, rfl⟩
    | k + 1 =>
      have := ih (k := k) (by simpa using h) A
      exact ⟨this.d, this.w, this.e, this.x⟩
theorem things4_set (ps : List P4) (k : Nat) (p : P4) (A : Thing) : setP (A :: things4 ps) (4 * k + 1) p = A :: things4 (ps.set k p) := by
  induction ps generalizing k A with
  | nil => rfl
  | cons q r ih =>
    match k with
    | 0 => rfl
    | k + 1 => 
      have := ih k A
      unfold setP at this ⊢
      simp only [List.set_cons_succ] at this
      show A :: DkT q.D q.d :: WlT q.B q.D q.x :: XkT q.X q.d :: RlT q.Y q.X q.x :: _ = _
      have e : things4 ((q :: r).set (k + 1) p) = DkT q.D q.d :: WlT q.B q.D q.x :: XkT q.X q.d :: RlT q.Y q.X q.x :: things4 (r.set k p) := rfl
      rw [e, ← List.tail_eq_of_cons_eq this]
      rfl
theorem things4_snoc (ps : List P4) (p : P4) : things4 ps ++ things1 p = things4 (ps ++ [p]) := by
  induction ps with
  | nil => rfl
  | cons q r ih => exact congrArg (fun l => DkT q.D q.d :: WlT q.B q.D q.x :: XkT q.X q.d :: RlT q.Y q.X q.x :: l) ih
theorem cells4_get {ps : List P4} {k : Nat} {p : P4} (h : ps[k]? = some p) : (cells4 ps)[k * 4]? = some (.pointer (some ⟨p.D, 0, none⟩)) ∧ (cells4 ps)[k * 4 + 1]? = some (.pointer (some ⟨p.B, 0, none⟩)) ∧ (cells4 ps)[k * 4 + 2]? = some (.pointer (some ⟨p.X, 0, none⟩)) ∧ (cells4 ps)[k * 4 + 3]? = some (.pointer (some ⟨p.Y, 0, none⟩)) := by
  induction ps generalizing k with
  | nil => simp at h
  | cons q r ih =>
    match k with
    | 0 => simp at h; subst h; exact ⟨rfl, rfl, rfl, rfl⟩
    | k + 1 =>
      have := ih (k := k) (by simpa using h)
      rw [show (k + 1) * 4 = k * 4 + 1 + 1 + 1 + 1 by omega]
      exact this
theorem cells4_snoc (ps : List P4) (p : P4) : cells4 ps ++ [.pointer (some ⟨p.D, 0, none⟩), .pointer (some ⟨p.B, 0, none⟩), .pointer (some ⟨p.X, 0, none⟩), .pointer (some ⟨p.Y, 0, none⟩)] = cells4 (ps ++ [p]) := by
  induction ps with
  | nil => rfl
  | cons q r ih => exact congrArg (fun l => Value.pointer (some ⟨q.D, 0, none⟩) :: .pointer (some ⟨q.B, 0, none⟩) :: .pointer (some ⟨q.X, 0, none⟩) :: .pointer (some ⟨q.Y, 0, none⟩) :: l) ih
theorem cells4_set (ps : List P4) (k : Nat) (p : P4) : ((((cells4 ps).set (k * 4) (.pointer (some ⟨p.D, 0, none⟩))).set (k * 4 + 1) (.pointer (some ⟨p.B, 0, none⟩))).set (k * 4 + 2) (.pointer (some ⟨p.X, 0, none⟩))).set (k * 4 + 3) (.pointer (some ⟨p.Y, 0, none⟩)) = cells4 (ps.set k p) := by
  induction ps generalizing k with
  | nil => rfl
  | cons q r ih =>
    match k with
    | 0 => rfl
    | k + 1 =>
      rw [show (k + 1) * 4 = k * 4 + 1 + 1 + 1 + 1 by omega]
      exact congrArg (fun l => Value.pointer (some ⟨q.D, 0, none⟩) :: .pointer (some ⟨q.B, 0, none⟩) :: .pointer (some ⟨q.X, 0, none⟩) :: .pointer (some ⟨q.Y, 0, none⟩) :: l) (ih k)

theorem info_pair09 : (Tryz.prog.info? 42).map (fun i => (i.zero, i.size, i.bytes)) = some (some (.agg #[.pointer none, .pointer none, .pointer none, .pointer none]), 4, 32) := by kernel_rfl

/-- What played's loop keeps. -/
structure PInv (w0 wr : World) (v : Value) (k : Nat) (ps : List P4) : Prop where
  st : St (.of w0) wr (RowT 42 4 v ps.length (cells4 ps) :: things4 ps)
  ok : ∀ p, p ∈ ps → PI k p.x p.d
  l1 : 1 ≤ ps.length
  l2 : ps.length ≤ 5

end Go.Proofs.YthghnlgojmedgaaGreat

/-
  The laws' helper of layer 9: played. A script, as it came in.
-/
namespace Go.Proofs.YthghnlgojmedgaaGreat
open Go.RowKit
set_option linter.unusedVariables false
set_option linter.unusedSimpArgs false

structure Op9 where
  on : Int
  kind : Int
  n : Int
  b : Int
  s : ByteArray
def Op9.wf (o : Op9) : Prop := (-9223372036854775808 ≤ o.on ∧ o.on ≤ 9223372036854775807) ∧ o.n ≤ 9223372036854775807 ∧ o.s.size ≤ 140737488355328
/-- The script's calls stand there. -/
def Ops9 (w : World) (s : Option Addr) (ns cs : Nat) (l : Nat → Op9) : Prop :=
  ns ≤ cs ∧ cs ≤ 9223372036854775807 ∧ (∀ k, k < ns → (l k).wf) ∧ (0 < ns → ∃ b o, s = some ⟨b, o, none⟩) ∧ ∀ b o, s = some ⟨b, o, none⟩ → ∀ k, k < ns → ∀ wx, Fr [] w wx →
    wx.cell? ⟨b, o + k * 5, none⟩ = some (.int .i64 (l k).on) ∧ wx.cell? ⟨b, o + k * 5 + 1, none⟩ = some (.int .i64 (l k).kind) ∧ wx.cell? ⟨b, o + k * 5 + 2, none⟩ = some (.int .i64 (l k).n) ∧ wx.cell? ⟨b, o + k * 5 + 3, none⟩ = some (.int .i64 (l k).b) ∧ wx.cell? ⟨b, o + k * 5 + 4, none⟩ = some (.string (l k).s)
def txOf : Value → ByteArray | .string b => b | _ => ⟨#[]⟩
theorem ops9_of {w : World} {s : Option Addr} {ns cs : Nat} {U : Nat → Value} (hT : SlIn w 5 48 s ns cs U) (hq0 : ∀ i, i < ns → I64 (U (i * 5))) (hq1 : ∀ i, i < ns → I64 (U (i * 5 + 1))) (hq2 : ∀ i, i < ns → I64 (U (i * 5 + 2))) (hq3 : ∀ i, i < ns → I64 (U (i * 5 + 3)))
    (hq4 : ∀ i, i < ns → Str (U (i * 5 + 4))) : ∃ l, Ops9 w s ns cs l := by
  have ci : ∀ v, I64 v → v = .int .i64 (intOf v) ∧ -9223372036854775808 ≤ intOf v ∧ intOf v ≤ 9223372036854775807 := fun v ⟨n, h, h1, h2⟩ => by subst h; exact ⟨rfl, h1, h2⟩
  have cs' : ∀ v, Str v → v = .string (txOf v) ∧ (txOf v).size ≤ 140737488355328 := fun v ⟨n, h, h1⟩ => by subst h; exact ⟨rfl, by show n.size ≤ _; omega⟩
  refine ⟨fun k => ⟨intOf (U (k * 5)), intOf (U (k * 5 + 1)), intOf (U (k * 5 + 2)), intOf (U (k * 5 + 3)), txOf (U (k * 5 + 4))⟩, hT.le, hT.mx,
    fun k hk => ⟨(ci _ (hq0 k hk)).2, (ci _ (hq2 k hk)).2.2, (cs' _ (hq4 k hk)).2⟩, hT.sm, fun b o e k hk wx hF => ?_⟩
  have hc : ∀ q, q < 5 → wx.cell? ⟨b, o + k * 5 + q, none⟩ = some (U (k * 5 + q)) := fun q hq => by
    rw [Nat.add_assoc]; exact hF.cell0 (hT.cell b o e (k * 5 + q) (by omega))
  exact ⟨by rw [← (ci _ (hq0 k hk)).1]; exact hc 0 (by omega), by rw [← (ci _ (hq1 k hk)).1]; exact hc 1 (by omega), by rw [← (ci _ (hq2 k hk)).1]; exact hc 2 (by omega), by rw [← (ci _ (hq3 k hk)).1]; exact hc 3 (by omega), by rw [← (cs' _ (hq4 k hk)).1]; exact hc 4 (by omega)⟩

theorem Pr.app {R : List Thing} {a : Nat} {p : P4} (h : Pr R a p) (T : List Thing) : Pr (R ++ T) a p :=
  ⟨by rw [List.getElem?_append_left (lt_of_get h.d)]; exact h.d, by rw [List.getElem?_append_left (lt_of_get h.w)]; exact h.w, by rw [List.getElem?_append_left (lt_of_get h.e)]; exact h.e, by rw [List.getElem?_append_left (lt_of_get h.x)]; exact h.x⟩
set_option maxHeartbeats 800000 in
set_option maxRecDepth 100000 in
theorem played9 {w0 w : World} {p : P4} (H : St (.of w0) w (things1 p)) (pi : PI 0 p.x p.d) (s : Option Addr) (ns cs : Nat) (l : Nat → Op9) (hO : Ops9 w0 s ns cs l) (hb : ns ≤ 1048576) :
    Calls Tryz.prog 13 #[pA p.D p.B p.X p.Y, .slice s ns cs] w fun e w' => e = .returned (.bool true) ∧ Fr [] w0 w' := by
  obtain ⟨D, B, X, Y, d, x⟩ := p
  simp only at pi
  have hms := hO.2.1
  have hls := hO.1
  have HO := hid hO
  obtain ⟨i0, hi, hz0, hz1, hz2⟩ := info_parts info_pair09
  have HI := hid (And.intro hi (And.intro hz0 (And.intro hz1 hz2)))
  have HB := hid hb
  clear hO hi hz0 hz1 hz2 hb
  go_enter Tryz.func13, Tryz.ntmps13
  go_wp2_with fail
  have H1 : St (.of w0) ((w.alloc (pO D B X Y)).alloc (pO D B X Y)) (things1 ⟨D, B, X, Y, d, x⟩ ++ [RowT 42 4 (.slice (some ⟨w.heap.size + 1, 0, none⟩) 1 1) 1 (cells4 [⟨D, B, X, Y, d, x⟩])]) :=
    (H.alloc_ (pO D B X Y)).new ((Fr.refl _ _).alloc _) inferInstance (F := [w.heap.size + 1]) ⟨rfl, by simp [cells4], .inr ⟨w.heap.size + 1, 1, _, rfl, Nat.zero_le _, blk_alloc_at _ _ _ (by simp), Nat.le_refl _, by decide, rfl, rfl⟩⟩ (by simp)
  have hP : PInv w0 ((w.alloc (pO D B X Y)).alloc (pO D B X Y)) (.slice (some ⟨w.heap.size + 1, 0, none⟩) 1 1) 0 [⟨D, B, X, Y, d, x⟩] :=
    ⟨H1.perm List.perm_append_comm, by intro p hp; simp at hp; subst hp; exact pi, by simp, by simp⟩
  have HP := hid hP
  clear H H1 hP pi
  go_loopw [5, 6] (fun v i wr => ∃ (k : Nat) (ps : List P4), k ≤ ns ∧ i = .int .i64 k ∧ (∃ g cap, v = .slice (some ⟨g, 0, none⟩) ps.length cap) ∧ PInv w0 wr v k ps) (fun _ i _ => ns - (intOf i).toNat)
  case atStart => exact ⟨0, _, Nat.zero_le _, rfl, ⟨_, _, rfl⟩, HP.out⟩
  case round =>
    obtain ⟨k, ps, hk, rfl, ⟨g, cap, rfl⟩, hinv⟩ := hrel
    have HV := hid hinv
    have hl1 := hinv.l1
    have hl2 := hinv.l2
    clear HP hinv
    by_cases hlt : k < ns
    · obtain ⟨bb, ob, rfl⟩ := HO.out.2.2.2.1 (by omega)
      have HC := hid (fun (wx : World) (hx : Fr [] w0 wx) => HO.out.2.2.2.2 bb ob rfl k hlt wx hx)
      have hon := HO.out.2.2.1 k hlt
      generalize l k = o at HC hon
      obtain ⟨on, kind, n, b, t⟩ := o
      obtain ⟨d0, d1, d2, d3, d4⟩ := HC.out _ HV.out.st.fr
      have hpl := place09 on ps.length wr hon.1.1 hon.1.2 (by omega) (by omega)
      obtain ⟨j, hj⟩ : ∃ j : Nat, on % (ps.length : Int) = j := ⟨(on % (ps.length : Int)).toNat, by have := Int.emod_nonneg on (show (ps.length : Int) ≠ 0 by omega); omega⟩
      have hjl : j < ps.length := by have := Int.emod_lt_of_pos on (show 0 < (ps.length : Int) by omega); omega
      rw [hj] at hpl
      have HPL := hid hpl
      obtain ⟨p, hp⟩ : ∃ p, ps[j]? = some p := ⟨_, List.getElem?_eq_getElem hjl⟩
      obtain ⟨u0, u1, u2, u3⟩ := cells4_get hp
      have r0 := (ownsRow_cell (HV.out.st.row 0 rfl) _ u0).1
      have r1 := (ownsRow_cell (HV.out.st.row 0 rfl) _ u1).1
      have r2 := (ownsRow_cell (HV.out.st.row 0 rfl) _ u2).1
      have r3 := (ownsRow_cell (HV.out.st.row 0 rfl) _ u3).1
      have HK := hid (show k ≤ 2097152 by have := HB.out; omega)
      have hdn : ∀ wx T, St (.of w0) wx ((RowT 42 4 (.slice (some ⟨g, 0, none⟩) ps.length cap) ps.length (cells4 ps) :: things4 ps) ++ T) → Calls Tryz.prog 33 #[pA p.D p.B p.X p.Y, oA on kind n b t] wx fun e w' => ∃ p' : P4, e = .returned (.tuple #[pA p'.D p'.B p'.X p'.Y, .bool true]) ∧ PI (k + 1) p'.x p'.d ∧ ∃ T', St (.of w0) w' ((RowT 42 4 (.slice (some ⟨g, 0, none⟩) ps.length cap) ps.length (cells4 ps) :: T') ++ T) ∧ (kind ≠ 5 ∧ T' = things4 (ps.set j p') ∨ kind = 5 ∧ T' = things4 (ps ++ [p'])) := fun wx T hS => by
        have hPr := things4_get hp (RowT 42 4 (.slice (some ⟨g, 0, none⟩) ps.length cap) ps.length (cells4 ps))
        refine (st_done hS (4 * j + 1) k (hPr.app _) (HV.out.ok p (List.mem_of_getElem? hp)) HK.out on kind n b t hon.2.2 hon.2.1).mono ?_
        rintro e w' ⟨p', rfl, hpi, hA, hB⟩
        refine ⟨p', rfl, hpi, ?_⟩
        by_cases h5 : kind = 5
        · refine ⟨_, ?_, .inr ⟨h5, rfl⟩⟩
          have h := (hB h5).back
          rw [show (RowT 42 4 (.slice (some ⟨g, 0, none⟩) ps.length cap) ps.length (cells4 ps) :: things4 ps) ++ things1 p' = RowT 42 4 (.slice (some ⟨g, 0, none⟩) ps.length cap) ps.length (cells4 ps) :: (things4 ps ++ things1 p') from rfl, things4_snoc] at h
          exact h
        · refine ⟨_, ?_, .inl ⟨h5, rfl⟩⟩
          have h := hA h5
          rw [setP_app (lt_of_get hPr.x), things4_set] at h
          exact h
      have HDN := hid hdn
      have HS1 := hid (show St (.of w0) (wr.alloc zO).drew ((RowT 42 4 (.slice (some ⟨g, 0, none⟩) ps.length cap) ps.length (cells4 ps) :: things4 ps) ++ [BlkT wr.heap.size zO]) from (HV.out.st.alloc zO).drew)
      have HSa := hid (show St (.of w0) wr.drew ((RowT 42 4 (.slice (some ⟨g, 0, none⟩) ps.length cap) ps.length (cells4 ps) :: things4 ps) ++ []) from by rw [List.append_nil]; exact HV.out.st.drew)
      have HJ := hid (And.intro hp hjl)
      clear hpl hj hp u0 u1 u2 u3 hon hdn
      dsimp only at d0 d1 d2 d3 d4
      go_wp2_with fail
      refine HPL.out.mono ?_
      rintro e w1 ⟨rfl, rfl⟩
      go_wp2_with fail
      have hX : ∀ (wz : World) (T' : List Thing), St (.of w0) wz (RowT 42 4 (.slice (some ⟨g, 0, none⟩) ps.length cap) ps.length (cells4 ps) :: T') → (fun wx : World => wx.cell? ⟨g, j * 4, none⟩ = some (.pointer (some ⟨p.D, 0, none⟩)) ∧ wx.cell? ⟨g, j * 4 + 1, none⟩ = some (.pointer (some ⟨p.B, 0, none⟩)) ∧ wx.cell? ⟨g, j * 4 + 2, none⟩ = some (.pointer (some ⟨p.X, 0, none⟩)) ∧ wx.cell? ⟨g, j * 4 + 3, none⟩ = some (.pointer (some ⟨p.Y, 0, none⟩)) ∧ wx.cell? ⟨bb, ob + k * 5, none⟩ = some (.int .i64 on) ∧ wx.cell? ⟨bb, ob + k * 5 + 1, none⟩ = some (.int .i64 kind) ∧ wx.cell? ⟨bb, ob + k * 5 + 2, none⟩ = some (.int .i64 n) ∧ wx.cell? ⟨bb, ob + k * 5 + 3, none⟩ = some (.int .i64 b) ∧ wx.cell? ⟨bb, ob + k * 5 + 4, none⟩ = some (.string t)) wz := fun wz T' h => by
        obtain ⟨u0, u1, u2, u3⟩ := cells4_get HJ.out.1
        have hrow := h.row 0 rfl
        obtain ⟨d0, d1, d2, d3, d4⟩ := HC.out _ h.fr
        exact ⟨(ownsRow_cell hrow _ u0).1, (ownsRow_cell hrow _ u1).1, (ownsRow_cell hrow _ u2).1, (ownsRow_cell hrow _ u3).1, d0, d1, d2, d3, d4⟩
      have HS0 := hid (hX _ _ HV.out.st.drew)
      have HSb := hid (hX _ _ HS1.out)
      have HX := hid hX
      clear hX d0 d1 d2 d3 d4 r0 r1 r2 r3
      go_upto_region 6 with (fail)
      go_cut [8, 9] from 14 to 63 (fun s8 s9 wx => ∃ (p' : P4) (q8 : Nat) (T' : List Thing), s8 = .pointer (some ⟨q8, 0, none⟩) ∧ s9 = .bool true ∧ Hid (PI (k + 1) p'.x p'.d ∧ (kind ≠ 5 ∧ T' = things4 (ps.set j p') ∨ kind = 5 ∧ T' = things4 (ps ++ [p']))) ∧ St (.of w0) wx ((RowT 42 4 (.slice (some ⟨g, 0, none⟩) ps.length cap) ps.length (cells4 ps) :: T') ++ [BlkT q8 (pO p'.D p'.B p'.X p'.Y)]))
      case first =>
        go_region_held3 (fun wx : World => wx.cell? ⟨g, j * 4, none⟩ = some (.pointer (some ⟨p.D, 0, none⟩)) ∧ wx.cell? ⟨g, j * 4 + 1, none⟩ = some (.pointer (some ⟨p.B, 0, none⟩)) ∧ wx.cell? ⟨g, j * 4 + 2, none⟩ = some (.pointer (some ⟨p.X, 0, none⟩)) ∧ wx.cell? ⟨g, j * 4 + 3, none⟩ = some (.pointer (some ⟨p.Y, 0, none⟩)) ∧ wx.cell? ⟨bb, ob + k * 5, none⟩ = some (.int .i64 on) ∧ wx.cell? ⟨bb, ob + k * 5 + 1, none⟩ = some (.int .i64 kind) ∧ wx.cell? ⟨bb, ob + k * 5 + 2, none⟩ = some (.int .i64 n) ∧ wx.cell? ⟨bb, ob + k * 5 + 3, none⟩ = some (.int .i64 b) ∧ wx.cell? ⟨bb, ob + k * 5 + 4, none⟩ = some (.string t)) ((first | with_reducible exact HNow.out | with_reducible exact HSb.out | with_reducible exact HS0.out | with_reducible exact HNw2.out | with_reducible exact HEnd.out))
          (first
            | (go_at_call 33; with_reducible refine (HDN.out _ _ HS1.out).mono ?_; rintro e w4 ⟨p', rfl, hpi, T', hT', hor⟩; have HNow := hid (HX.out _ _ hT'); have hq4 : w4.heap[wr.heap.size]? = some zO := hT'.blk (T'.length + 1) (by simp); have f0 := free_blk (i := 0) hq4; have f1 := free_blk (i := 1) hq4; have f2 := free_blk (i := 2) hq4; have f3 := free_blk (i := 3) hq4; have y0 := cell_blk (i := 0) hq4 rfl; have y1 := cell_blk (i := 1) hq4 rfl; have y2 := cell_blk (i := 2) hq4 rfl; have y3 := cell_blk (i := 3) hq4 rfl; have H5 := hid (St.blk4 (rest := []) (.pointer (some ⟨p'.D, 0, none⟩)) (.pointer (some ⟨p'.B, 0, none⟩)) (.pointer (some ⟨p'.X, 0, none⟩)) (.pointer (some ⟨p'.Y, 0, none⟩)) hT'); have HEnd := hid (HX.out _ _ H5.out); have HPI := hid (And.intro hpi hor); clear hpi hor hT' hq4)
            | (go_at_call 33; with_reducible refine (HDN.out _ _ HSa.out).mono ?_; rintro e w4 ⟨p', rfl, hpi, T', hT', hor⟩; rw [List.append_nil] at hT'; have HNow := hid (HX.out _ _ hT'); have HNw2 := hid (HX.out _ _ (hT'.alloc_ zO)); have H5 := hid (hT'.alloc (pO p'.D p'.B p'.X p'.Y)); have HEnd := hid (HX.out _ _ H5.out); have HPI := hid (And.intro hpi hor); clear hpi hor hT'))
        all_goals (go_wp2_with fail; go_meet; exact ⟨p', _, T', rfl, rfl, HPI, H5.out⟩)
      obtain ⟨p', q8, T', rfl, rfl, HPI, hS8⟩ := hcut
      have hq : wc.heap[q8]? = some (pO p'.D p'.B p'.X p'.Y) := hS8.blk (T'.length + 1) (by simp)
      have x0 := cell_blk (i := 0) hq rfl
      have x1 := cell_blk (i := 1) hq rfl
      have x2 := cell_blk (i := 2) hq rfl
      have x3 := cell_blk (i := 3) hq rfl
      have hok : ∀ q, q ∈ ps → PI (k + 1) q.x q.d := fun q hq => (HV.out.ok q hq).mono (Nat.le_succ k)
      have HOK := hid hok
      clear hok
      obtain ⟨z0, z1, z2, z3, v0, v1, v2, v3, v4⟩ := HX.out wc (T' ++ [BlkT q8 (pO p'.D p'.B p'.X p'.Y)]) hS8
      clear z0 z1 z2 z3 v0 v2 v3 v4 HX HS0 HSb HS1 HSa HDN HPL hq
      by_cases h5 : kind = 5
      · have e5 : (kind == 5) = true := by rw [beq_iff_eq]; exact h5
        by_cases hlen : ps.length < 5
        · have hc9 : (ps.length : Int) < 5 := by omega
          have hR6 : St (.of w0) (wc.alloc (pO p'.D p'.B p'.X p'.Y)) (RowT 42 4 (.slice (some ⟨g, 0, none⟩) ps.length cap) ps.length (cells4 ps) :: T') := hS8.drop.alloc_ _
          obtain ⟨ho6, hb6⟩ := hR6.append 0 rfl
          have HTT := hid (show T' = things4 (ps ++ [p']) from by rcases HPI.out.2 with ⟨h, _⟩ | ⟨_, h⟩; exact absurd h5 h; exact h)
          have H6 := hid (And.intro ho6 hb6)
          have HLN := hid hlen
          clear hR6 ho6 hb6 hS8 hlen
          go_wp2_with (at_builtin; refine wpList_append_blk rfl (.tmp 60) (.tmp 62) 76 rfl 42 i0 (.agg #[.pointer none, .pointer none, .pointer none, .pointer none]) 4 32 Tryz.underlying76 HI.out.1 HI.out.2.1 HI.out.2.2.1 HI.out.2.2.2 rfl (by decide) (.slice (some ⟨g, 0, none⟩) ps.length cap) ps.length _ rfl H6.out.1 ⟨wc.heap.size, 0, none⟩ 1 1 [.pointer (some ⟨p'.D, 0, none⟩), .pointer (some ⟨p'.B, 0, none⟩), .pointer (some ⟨p'.X, 0, none⟩), .pointer (some ⟨p'.Y, 0, none⟩)] rfl rfl ?qb ?qc ?qd ?qe ?_)
          case qb => exact news_alloc wc [.pointer (some ⟨p'.D, 0, none⟩), .pointer (some ⟨p'.B, 0, none⟩), .pointer (some ⟨p'.X, 0, none⟩), .pointer (some ⟨p'.Y, 0, none⟩)] _
          case qc => intro u hu; simp at hu; rcases hu with rfl | rfl | rfl | rfl <;> rfl
          case qd => unfold maxLen; omega
          case qe => omega
          intro v7 w7 ho7 hF7 hb7 hn7
          obtain ⟨g7, c7, rfl, _⟩ := ownsRow_shape ho7 (by omega)
          have H7 := H6.out.2 _ _ _ _ ho7 hF7 (by simpa using hb7)
          have H7 := hid H7
          clear ho7 hF7 hb7 hn7
          go_wp2_with fail
          go_roundw
          case rel =>
            have h1 : (ps ++ [p']).length = ps.length + 1 := by simp
            have hl := HLN.out
            refine ⟨k + 1, ps ++ [p'], by omega, by go_num, ⟨g7, c7, by rw [h1]⟩, ⟨?_, fun q hq => ?_, by omega, by omega⟩⟩
            · have h2 := H7.out
              simp only [List.set_cons_zero] at h2
              rw [h1, ← cells4_snoc, ← HTT.out]
              exact h2
            · rcases List.mem_append.1 hq with h6 | h6
              · exact HOK.out q h6
              · simp at h6; subst h6; exact HPI.out.1
          case measure => simp [intOf]; omega
        · have hc9 : ¬ (ps.length : Int) < 5 := by omega
          have HSX := hid (show St (.of w0) wc (RowT 42 4 (.slice (some ⟨g, 0, none⟩) ps.length cap) ps.length (cells4 ps) :: things4 ps) from by
            have h := hS8.drop
            rw [show T' = things4 (ps ++ [p']) from by rcases HPI.out.2 with ⟨h, _⟩ | ⟨_, h⟩; exact absurd h5 h; exact h, ← things4_snoc] at h
            exact St.drop (R := RowT 42 4 (.slice (some ⟨g, 0, none⟩) ps.length cap) ps.length (cells4 ps) :: things4 ps) h)
          clear hS8
          go_wp2_with fail
          go_roundw
          case rel => exact ⟨k + 1, ps, by omega, by go_num, ⟨g, cap, rfl⟩, ⟨HSX.out, HOK.out, by omega, by omega⟩⟩
          case measure => simp [intOf]; omega
      · have e5 : (kind == 5) = false := by rw [beq_eq_false_iff_ne]; exact h5
        obtain ⟨u0, u1, u2, u3⟩ := cells4_get HJ.out.1
        have hrow := hS8.row 0 rfl
        obtain ⟨r0, f0⟩ := ownsRow_cell hrow _ u0
        obtain ⟨r1, f1⟩ := ownsRow_cell hrow _ u1
        obtain ⟨r2, f2⟩ := ownsRow_cell hrow _ u2
        obtain ⟨r3, f3⟩ := ownsRow_cell hrow _ u3
        have HTT := hid (show T' = things4 (ps.set j p') from by rcases HPI.out.2 with ⟨_, h⟩ | ⟨h, _⟩; exact h; exact absurd h h5)
        have H8 := hid hS8
        clear hS8 u0 u1 u2 u3 hrow h5
        go_wp2_with fail
        have h1 := St.setRowCell H8.out 0 rfl (j * 4) (.pointer (some ⟨p'.D, 0, none⟩))
        have h2 := St.setRowCell h1 0 rfl (j * 4 + 1) (.pointer (some ⟨p'.B, 0, none⟩))
        have h3 := St.setRowCell h2 0 rfl (j * 4 + 2) (.pointer (some ⟨p'.X, 0, none⟩))
        have h4 := St.setRowCell h3 0 rfl (j * 4 + 3) (.pointer (some ⟨p'.Y, 0, none⟩))
        have h5 : St (.of w0) ((((wc.setCell ⟨g, j * 4, none⟩ (.pointer (some ⟨p'.D, 0, none⟩))).setCell ⟨g, j * 4 + 1, none⟩ (.pointer (some ⟨p'.B, 0, none⟩))).setCell ⟨g, j * 4 + 2, none⟩ (.pointer (some ⟨p'.X, 0, none⟩))).setCell ⟨g, j * 4 + 3, none⟩ (.pointer (some ⟨p'.Y, 0, none⟩))) (RowT 42 4 (.slice (some ⟨g, 0, none⟩) ps.length cap) ps.length (cells4 (ps.set j p')) :: things4 (ps.set j p')) := by
          rw [← cells4_set, ← HTT.out]
          exact St.drop (R := RowT 42 4 (.slice (some ⟨g, 0, none⟩) ps.length cap) ps.length (((((cells4 ps).set (j * 4) (.pointer (some ⟨p'.D, 0, none⟩))).set (j * 4 + 1) (.pointer (some ⟨p'.B, 0, none⟩))).set (j * 4 + 2) (.pointer (some ⟨p'.X, 0, none⟩))).set (j * 4 + 3) (.pointer (some ⟨p'.Y, 0, none⟩))) :: T') h4
        have H9 := hid h5
        clear h1 h2 h3 h4 h5 r0 r1 r2 r3 f0 f1 f2 f3
        go_roundw
        case rel =>
          have hll : (ps.set j p').length = ps.length := List.length_set
          refine ⟨k + 1, ps.set j p', by omega, by go_num, ⟨g, cap, by rw [hll]⟩, ⟨?_, fun q hq => ?_, by rw [hll]; exact hl1, by rw [hll]; exact hl2⟩⟩
          · rw [hll]; exact H9.out
          · rcases List.mem_or_eq_of_mem_set hq with h6 | h6
            · exact HOK.out q h6
            · subst h6; exact HPI.out.1
        case measure => simp [intOf]; omega
    · have HP := HV
      clear HV
      go_wp2_with fail
      go_loopw [10] (fun i wx => ∃ (q : Nat), q ≤ ps.length ∧ i = .int .i64 q ∧ Hid (St (.of w0) wx (RowT 42 4 (.slice (some ⟨g, 0, none⟩) ps.length cap) ps.length (cells4 ps) :: things4 ps))) (fun i _ => ps.length - (intOf i).toNat)
      case atStart => exact ⟨0, Nat.zero_le _, rfl, hid HP.out.st⟩
      case round =>
        obtain ⟨q, hq, rfl, HQ⟩ := hrel
        by_cases hlt2 : q < ps.length
        · obtain ⟨p, hp⟩ : ∃ p, ps[q]? = some p := ⟨_, List.getElem?_eq_getElem hlt2⟩
          obtain ⟨u0, u1, u2, u3⟩ := cells4_get hp
          have hrow := HQ.out.row 0 rfl
          have r0 := (ownsRow_cell hrow _ u0).1
          have r1 := (ownsRow_cell hrow _ u1).1
          have r2 := (ownsRow_cell hrow _ u2).1
          have r3 := (ownsRow_cell hrow _ u3).1
          have HTL := hid (st_tells HQ.out (4 * q + 1) (things4_get hp _) (HP.out.ok p (List.mem_of_getElem? hp)).lg)
          clear hp u0 u1 u2 u3 hrow
          go_wp2_with fail
          with_reducible refine HTL.out.mono ?_
          rintro e w3 ⟨rfl, h3⟩
          have H3 := hid h3
          clear h3 HTL r0 r1 r2 r3
          go_wp2_with fail
          go_roundw
          case rel => exact ⟨q + 1, by omega, by go_num, H3⟩
          case measure => simp [intOf]; omega
        · go_wp2_with fail
          go_ret
          exact ⟨rfl, HQ.out.fr⟩
end Go.Proofs.YthghnlgojmedgaaGreat
