/-
  gafferref08: SameOne, Same.
-/
import Derived.Test.YtdobbmlaokolmaaR4
import Derived.BigQuiet
import Derived.Deep.QuietTactic
namespace Go.Proofs.Ytdobbmlaokolmaa
open Go.RowKit
set_option linter.unusedVariables false
set_option linter.unusedSimpArgs false

theorem ba_ne {a b : ByteArray} (h : a ≠ b) : (a.toList == b.toList) = false := by
  rw [beq_eq_false_iff_ne]
  intro e
  rw [ByteArray.toList_eq, ByteArray.toList_eq] at e
  apply h
  cases a; cases b
  simp only [ByteArray.mk.injEq]
  exact Array.toList_inj.1 e

/-- It returns whether P holds. -/
def IsB (P : Prop) (e : Ending) : Prop := ∃ z : Bool, e = .returned (.bool z) ∧ (z = true ↔ P)
theorem IsB.no {P : Prop} (h : ¬ P) : IsB P (.returned (.bool false)) := ⟨false, rfl, ⟨fun h => (by cases h), fun k => absurd k h⟩⟩
theorem IsB.yes {P : Prop} (h : P) : IsB P (.returned (.bool true)) := ⟨true, rfl, ⟨fun _ => h, fun _ => rfl⟩⟩

set_option maxHeartbeats 4000000 in
set_option maxRecDepth 100000 in
theorem sameOne_walk (w : World) (c d : CV) (t u : TS) (ht : In w 1 t.a c.texts.length t.c (sL.at_ c.texts)) (hu : In w 1 u.a d.texts.length u.c (sL.at_ d.texts)) :
    Calls Try.prog 13 #[.agg (c.f t).toArray, .agg (d.f u).toArray] w fun e w' => IsB (c = d) e ∧ Fr [] w w' := by
  obtain ⟨ck, cn, cj, cb, cs, cl, cc, ci, cp, ct⟩ := c
  obtain ⟨dk, dn, dj, db, ds, dl, dc, di, dp, dt⟩ := d
  obtain ⟨ta, tc⟩ := t
  obtain ⟨ua, uc⟩ := u
  simp only at ht hu
  have hm1 := ht.max
  have hm2 := hu.max
  show Calls _ _ #[.agg #[.int .i64 ck, .int .i64 cn, .int .i64 cj, .int .i64 cb, .int .i64 cs, .int .i64 cl, .int .i64 cc, .int .u64 ci, .string cp, .slice ta ct.length tc], .agg #[.int .i64 dk, .int .i64 dn, .int .i64 dj, .int .i64 db, .int .i64 ds, .int .i64 dl, .int .i64 dc, .int .u64 di, .string dp, .slice ua dt.length uc]] _ _
  by_cases hl : ct.length = dt.length
  case neg =>
    have h1 : ((ct.length : Int) == dt.length) = false := by rw [beq_eq_false_iff_ne]; omega
    have h2 : ((ct.length : Int) != dt.length) = true := by rw [bne_iff_ne]; omega
    have HL := hid hl
    clear hl ht hu
    go_enter Try.func13, Try.ntmps13
    go_wp2
    go_ret
    exact ⟨IsB.no (fun h => absurd (by injection h with _ _ _ _ _ _ _ _ _ h; rw [h]) HL.out), ((Fr.refl _ _).alloc _).alloc _⟩
  have HA := hid ht
  have HB := hid hu
  have hl1 : ((ct.length : Int) == dt.length) = true := by rw [beq_iff_eq]; omega
  have hl2 : ((ct.length : Int) != dt.length) = false := by rw [bne_eq_false_iff_eq]; omega
  have HL := hid hl
  clear hl ht hu
  have hb1 := blk_alloc_lt (.cells #[.int .i64 dk, .int .i64 dn, .int .i64 dj, .int .i64 db, .int .i64 ds, .int .i64 dl, .int .i64 dc, .int .u64 di, .string dp, .slice ua dt.length uc] 27) (blk_alloc_at w (.cells #[.int .i64 ck, .int .i64 cn, .int .i64 cj, .int .i64 cb, .int .i64 cs, .int .i64 cl, .int .i64 cc, .int .u64 ci, .string cp, .slice ta ct.length tc] 27) _ rfl)
  have hb2 := blk_alloc_at (w.alloc (.cells #[.int .i64 ck, .int .i64 cn, .int .i64 cj, .int .i64 cb, .int .i64 cs, .int .i64 cl, .int .i64 cc, .int .u64 ci, .string cp, .slice ta ct.length tc] 27)) (.cells #[.int .i64 dk, .int .i64 dn, .int .i64 dj, .int .i64 db, .int .i64 ds, .int .i64 dl, .int .i64 dc, .int .u64 di, .string dp, .slice ua dt.length uc] 27) (w.heap.size + 1) (by simp)
  have hf : Fr [] w ((w.alloc (.cells #[.int .i64 ck, .int .i64 cn, .int .i64 cj, .int .i64 cb, .int .i64 cs, .int .i64 cl, .int .i64 cc, .int .u64 ci, .string cp, .slice ta ct.length tc] 27)).alloc (.cells #[.int .i64 dk, .int .i64 dn, .int .i64 dj, .int .i64 db, .int .i64 ds, .int .i64 dl, .int .i64 dc, .int .u64 di, .string dp, .slice ua dt.length uc] 27)) := ((Fr.refl _ _).alloc _).alloc _
  have HH := hid (And.intro hb1 (And.intro hb2 hf))
  clear hb1 hb2 hf
  go_enter Try.func13, Try.ntmps13
  go_wp2_with fail
  generalize ((w.alloc (.cells #[.int .i64 ck, .int .i64 cn, .int .i64 cj, .int .i64 cb, .int .i64 cs, .int .i64 cl, .int .i64 cc, .int .u64 ci, .string cp, .slice ta ct.length tc] 27)).alloc (.cells #[.int .i64 dk, .int .i64 dn, .int .i64 dj, .int .i64 db, .int .i64 ds, .int .i64 dl, .int .i64 dc, .int .u64 di, .string dp, .slice ua dt.length uc] 27)) = w0 at HH ⊢
  generalize w.heap.size + 1 = b2 at HH ⊢
  generalize w.heap.size = b1 at HH ⊢
  go_loopw [5] (fun i wr => ∃ k : Nat, k ≤ ct.length ∧ i = .int .i64 k ∧ (∀ j, j < k → sL.nth ct j = sL.nth dt j) ∧ Fr [] w0 wr) (fun i _ => ct.length - (intOf i).toNat)
  case atStart => exact ⟨0, Nat.zero_le _, rfl, fun j hj => absurd hj (Nat.not_lt_zero _), Fr.refl _ _⟩
  case round =>
    obtain ⟨k, hk, rfl, hall, hFw⟩ := hrel
    have HAll := hid hall
    clear hall
    have g1 := hFw.keep HH.out.1 (by simp)
    have g2 := hFw.keep HH.out.2.1 (by simp)
    have k0 : wr.cell? ⟨b1, 0, none⟩ = some (.int .i64 ck) := cell_blk (i := 0) g1 rfl
    have m0 : wr.cell? ⟨b2, 0, none⟩ = some (.int .i64 dk) := cell_blk (i := 0) g2 rfl
    have k1 : wr.cell? ⟨b1, 1, none⟩ = some (.int .i64 cn) := cell_blk (i := 1) g1 rfl
    have m1 : wr.cell? ⟨b2, 1, none⟩ = some (.int .i64 dn) := cell_blk (i := 1) g2 rfl
    have k2 : wr.cell? ⟨b1, 2, none⟩ = some (.int .i64 cj) := cell_blk (i := 2) g1 rfl
    have m2 : wr.cell? ⟨b2, 2, none⟩ = some (.int .i64 dj) := cell_blk (i := 2) g2 rfl
    have k3 : wr.cell? ⟨b1, 3, none⟩ = some (.int .i64 cb) := cell_blk (i := 3) g1 rfl
    have m3 : wr.cell? ⟨b2, 3, none⟩ = some (.int .i64 db) := cell_blk (i := 3) g2 rfl
    have k4 : wr.cell? ⟨b1, 4, none⟩ = some (.int .i64 cs) := cell_blk (i := 4) g1 rfl
    have m4 : wr.cell? ⟨b2, 4, none⟩ = some (.int .i64 ds) := cell_blk (i := 4) g2 rfl
    have k5 : wr.cell? ⟨b1, 5, none⟩ = some (.int .i64 cl) := cell_blk (i := 5) g1 rfl
    have m5 : wr.cell? ⟨b2, 5, none⟩ = some (.int .i64 dl) := cell_blk (i := 5) g2 rfl
    have k6 : wr.cell? ⟨b1, 6, none⟩ = some (.int .i64 cc) := cell_blk (i := 6) g1 rfl
    have m6 : wr.cell? ⟨b2, 6, none⟩ = some (.int .i64 dc) := cell_blk (i := 6) g2 rfl
    have k7 : wr.cell? ⟨b1, 7, none⟩ = some (.int .u64 ci) := cell_blk (i := 7) g1 rfl
    have m7 : wr.cell? ⟨b2, 7, none⟩ = some (.int .u64 di) := cell_blk (i := 7) g2 rfl
    have k8 : wr.cell? ⟨b1, 8, none⟩ = some (.string cp) := cell_blk (i := 8) g1 rfl
    have m8 : wr.cell? ⟨b2, 8, none⟩ = some (.string dp) := cell_blk (i := 8) g2 rfl
    have k9 : wr.cell? ⟨b1, 9, none⟩ = some (.slice ta ct.length tc) := cell_blk (i := 9) g1 rfl
    have m9 : wr.cell? ⟨b2, 9, none⟩ = some (.slice ua dt.length uc) := cell_blk (i := 9) g2 rfl
    clear g1 g2
    have HF := hid (HH.out.2.2.trans hFw)
    have HW := hid hFw
    clear hFw
    by_cases hlt : k < ct.length
    · have hlt2 : k < dt.length := by have := HL.out; omega
      obtain ⟨ba, oa, rfl⟩ := HA.out.sm (by omega)
      obtain ⟨bb, ob, rfl⟩ := HB.out.sm (by omega)
      have c1 := str_cells (HA.out.fr0 HF.out) k hlt
      have c2 := str_cells (HB.out.fr0 HF.out) k hlt2
      by_cases heq : sL.nth ct k = sL.nth dt k
      · rw [← heq] at c2
        have HE := hid heq
        clear heq
        go_wp2
        go_quiet (fail)
        go_wp2
        go_roundw
        case rel => exact ⟨k + 1, by omega, by go_num, fun j hj => by by_cases hjk : j = k; (subst hjk; exact HE.out); exact HAll.out j (by omega), HW.out.drewN _⟩
        case measure => simp [intOf]; omega
      · have h3 := ba_ne heq
        have HE := hid heq
        clear heq
        go_wp2
        go_quiet (fail)
        go_wp2
        go_ret
        exact ⟨IsB.no (fun h => absurd (by injection h with _ _ _ _ _ _ _ _ _ h; rw [h]) HE.out), HF.out.drewN _⟩
    · obtain rfl : k = ct.length := by omega
      have HE := hid (show ct = dt from sL.ext HL.out HAll.out)
      by_cases h0 : ck = dk
      case neg =>
        have e0 : (ck == dk) = false := by rw [beq_eq_false_iff_ne]; exact h0
        have HN := hid h0
        clear h0
        go_wp2
        all_goals go_ret
        all_goals exact ⟨IsB.no (fun h => absurd (by injection h) HN.out), HF.out⟩
      subst h0
      by_cases h1 : cn = dn
      case neg =>
        have e1 : (cn == dn) = false := by rw [beq_eq_false_iff_ne]; exact h1
        have HN := hid h1
        clear h1
        go_wp2
        all_goals go_ret
        all_goals exact ⟨IsB.no (fun h => absurd (by injection h) HN.out), HF.out⟩
      subst h1
      by_cases h2 : cj = dj
      case neg =>
        have e2 : (cj == dj) = false := by rw [beq_eq_false_iff_ne]; exact h2
        have HN := hid h2
        clear h2
        go_wp2
        all_goals go_ret
        all_goals exact ⟨IsB.no (fun h => absurd (by injection h) HN.out), HF.out⟩
      subst h2
      by_cases h3 : cb = db
      case neg =>
        have e3 : (cb == db) = false := by rw [beq_eq_false_iff_ne]; exact h3
        have HN := hid h3
        clear h3
        go_wp2
        all_goals go_ret
        all_goals exact ⟨IsB.no (fun h => absurd (by injection h) HN.out), HF.out⟩
      subst h3
      by_cases h4 : cs = ds
      case neg =>
        have e4 : (cs == ds) = false := by rw [beq_eq_false_iff_ne]; exact h4
        have HN := hid h4
        clear h4
        go_wp2
        all_goals go_ret
        all_goals exact ⟨IsB.no (fun h => absurd (by injection h) HN.out), HF.out⟩
      subst h4
      by_cases h5 : cl = dl
      case neg =>
        have e5 : (cl == dl) = false := by rw [beq_eq_false_iff_ne]; exact h5
        have HN := hid h5
        clear h5
        go_wp2
        all_goals go_ret
        all_goals exact ⟨IsB.no (fun h => absurd (by injection h) HN.out), HF.out⟩
      subst h5
      by_cases h6 : cc = dc
      case neg =>
        have e6 : (cc == dc) = false := by rw [beq_eq_false_iff_ne]; exact h6
        have HN := hid h6
        go_wp2
        all_goals go_ret
        all_goals exact ⟨IsB.no (fun h => absurd (by injection h) HN.out), HF.out⟩
      subst h6
      by_cases h7 : ci = di
      case neg =>
        have e7 : (ci == di) = false := by rw [beq_eq_false_iff_ne]; exact h7
        have HN := hid h7
        go_wp2
        all_goals go_ret
        all_goals exact ⟨IsB.no (fun h => absurd (by injection h) HN.out), HF.out⟩
      subst h7
      by_cases h8 : cp = dp
      case neg =>
        have e8 := ba_ne h8
        have HN := hid h8
        clear h8
        go_wp2
        all_goals go_ret
        all_goals exact ⟨IsB.no (fun h => absurd (by injection h) HN.out), HF.out⟩
      subst h8
      go_wp2
      all_goals go_ret
      all_goals exact ⟨IsB.yes (by rw [HE.out]), HF.out⟩

end Go.Proofs.Ytdobbmlaokolmaa
