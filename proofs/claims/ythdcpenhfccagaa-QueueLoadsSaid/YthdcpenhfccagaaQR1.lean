/-
  The document's queue: RowsMay.
-/
import Derived.Test.YthdcpenhfccagaaQR0
namespace Go.Proofs.Ythdcpenhfccagaa
open Go.RowKit
set_option linter.unusedVariables false
set_option linter.unusedSimpArgs false

/-- The first k rows are as rows may be. -/
structure RM (att : Int) (l : List QR) (k : Nat) : Prop where
  ok : ∀ i, i < k → (qL.nth l i).may att (i + 1) = true
  ba : ∀ i j, i < j → j < k → 0 < (qL.nth l i).ba → (qL.nth l i).ba ≠ (qL.nth l j).ba

theorem rm_wf {att : Int} (h1 : 1 ≤ att) (h2 : att ≤ 8) (l : List QR) : (l.length ≤ 8 ∧ RM att l l.length) ↔ (⟨att, l⟩ : QS).wf := by
  constructor
  · rintro ⟨h, k⟩
    exact ⟨h1, h2, h, k.ok, fun i j hij hj h0 e => k.ba i j hij hj (by rw [e]; exact h0) e⟩
  · intro h
    exact ⟨h.n, h.ok, fun i j hij hj h0 e => h.ba i j hij hj (by rw [← e]; exact h0) e⟩

set_option maxHeartbeats 1600000 in
set_option maxRecDepth 100000 in
theorem rowsMay_any (w : World) (att : Int) (a : Option Addr) (n cap : Nat) (l : List QR) (hn : l.length = n) (ha : In w 8 a n cap (qL.at_ l)) :
    Calls Try.prog 24 #[.int .i64 att, .slice a n cap] w fun e w' => ∃ z : Bool, e = .returned (.bool z) ∧ (z = true ↔ l.length ≤ 8 ∧ RM att l l.length) ∧ Fr [] w w' := by
  subst hn
  have hma := ha.max
  by_cases h8 : 8 < l.length
  · have HL := hid h8
    clear ha
    go_enter Try.func24, Try.ntmps24
    go_wp2
    go_ret
    exact ⟨false, rfl, ⟨(fun h => by cases h), fun h => absurd h.1 (by have := HL.out; omega)⟩, Fr.refl _ _⟩
  have hl8 : l.length ≤ 8 := by omega
  have HA := hid ha
  clear ha h8
  go_enter Try.func24, Try.ntmps24
  go_wp2
  go_loopw [5] (fun i wr => ∃ k : Nat, k ≤ l.length ∧ i = .int .i64 k ∧ RM att l k ∧ Fr [] w wr) (fun i _ => l.length - (intOf i).toNat)
  case atStart => exact ⟨0, Nat.zero_le _, rfl, ⟨fun j hj => absurd hj (Nat.not_lt_zero _), fun i j hij hj => absurd hj (Nat.not_lt_zero _)⟩, Fr.refl _ _⟩
  case round =>
    obtain ⟨k, hk, rfl, hall, hFw⟩ := hrel
    have HAll := hid (And.intro hall hFw)
    clear hall hFw
    by_cases hlt : k < l.length
    · obtain ⟨ba, oa, rfl⟩ := HA.out.sm (by omega)
      obtain ⟨x0, x1, x2, x3, x4, x5, x6, x7⟩ := qrow_cells (HA.out.fr0 HAll.out.2) k hlt
      have hbl := World.block_lt_of_cell? _ _ x0
      simp only at hbl
      have HE : Hid (∀ x : QR, qL.nth l k = x → x.may att (k + 1) = false → ¬ RM att l l.length) := hid (fun x hx h1 h2 => by have h3 := h2.ok k hlt; rw [hx, h1] at h3; cases h3)
      obtain ⟨x, hx⟩ : ∃ x, qL.nth l k = x := ⟨_, rfl⟩
      rw [hx] at x0 x1 x2 x3 x4 x5 x6 x7
      have HX := hid hx
      clear hx
      by_cases hj : x.job = k + 1
      case neg =>
        have e1 : (x.job == (k : Int) + 1) = false := by rw [beq_eq_false_iff_ne]; exact hj
        have e2 : (x.job != (k : Int) + 1) = true := by rw [bne_iff_ne]; exact hj
        have hm : x.may att (k + 1) = false := may_false_a (by unfold QR.ka; simp [e1])
        have HM := hid hm
        clear hm hj
        go_wp2_with fail
        go_ret
        exact ⟨false, rfl, ⟨(fun h => by cases h), fun h => absurd h.2 (HE.out x HX.out HM.out)⟩, HAll.out.2⟩
      have HJ := hid hj
      have e1 : (x.job == (k : Int) + 1) = true := by rw [beq_iff_eq]; exact hj
      have e2 : (x.job != (k : Int) + 1) = false := by rw [bne_eq_false_iff_eq]; exact hj
      clear hj
      obtain ⟨z, hz⟩ : ∃ z, x.may att (k + 1) = z := ⟨_, rfl⟩
      have HZ := hid hz
      clear hz
      have hc := mayRef wr att x.job x.st x.at_ x.ba x.node x.life x.code x.bits
      rw [show (QR.mk x.job x.st x.at_ x.ba x.node x.life x.code x.bits).may att x.job = z from (show x.may att x.job = z by rw [HJ.out]; exact HZ.out)] at hc
      have HC := hid hc
      clear hc
      cases z
      case false =>
        go_wp2_with fail
        refine HC.out.mono ?_
        rintro e w1 ⟨rfl, hF1⟩
        go_wp2_with fail
        go_ret
        exact ⟨false, rfl, ⟨(fun h => by cases h), fun h => absurd h.2 (HE.out x HX.out HZ.out)⟩, HAll.out.2.trans hF1⟩
      go_wp2_with fail
      refine HC.out.mono ?_
      rintro e w1 ⟨rfl, hF1⟩
      have HF1 := hid (HAll.out.2.trans hF1)
      have y3 := hF1.cell0 x3
      clear hF1 x0 x1 x2 x4 x5 x6 x7 e1 e2 HC
      go_wp2_with fail
      have HK := hid (rfl : k = k)
      go_loopw [6] (fun i wr => ∃ j : Nat, j ≤ k ∧ i = .int .i64 j ∧ (∀ i, i < j → 0 < (qL.nth l i).ba → (qL.nth l i).ba ≠ x.ba) ∧ Fr [] w wr) (fun i _ => k - (intOf i).toNat)
      case atStart => exact ⟨0, Nat.zero_le _, rfl, fun i hi => absurd hi (Nat.not_lt_zero _), HF1.out⟩
      case round =>
        clear hbl x3 y3
        obtain ⟨j, hjk, rfl, hba, hFj⟩ := hrel
        have HB := hid (And.intro hba hFj)
        clear hba hFj
        by_cases hj : j < k
        · obtain ⟨u0, u1, u2, u3, _⟩ := qrow_cells (HA.out.fr0 HB.out.2) j (by omega)
          obtain ⟨v0, v1, v2, v3, _⟩ := qrow_cells (HA.out.fr0 HB.out.2) k hlt
          rw [HX.out] at v3
          clear u0 u1 u2 v0 v1 v2
          have HE2 : Hid (0 < (qL.nth l j).ba → (qL.nth l j).ba = x.ba → ¬ RM att l l.length) := hid (fun h1 h2 h3 => h3.ba j k hj hlt h1 (by rw [HX.out]; exact h2))
          have HN : Hid ((0 < (qL.nth l j).ba → (qL.nth l j).ba ≠ x.ba) → ∀ i, i < j + 1 → 0 < (qL.nth l i).ba → (qL.nth l i).ba ≠ x.ba) := hid (fun h i hi => by
            by_cases hij : i = j
            · rw [hij]; exact h
            · exact HB.out.1 i (by omega))
          generalize (qL.nth l j).ba = b at u3 HE2 HN
          by_cases hb0 : 0 < b
          · by_cases hbx : b = x.ba
            · have HBX := hid hbx
              have e3 : (b == x.ba) = true := by rw [beq_iff_eq]; exact hbx
              clear hbx
              go_wp2_with fail
              go_quiet (fail)
              go_wp2_with fail
              go_ret
              exact ⟨false, rfl, ⟨(fun h => by cases h), fun h => absurd h.2 (HE2.out hb0 HBX.out)⟩, HB.out.2.drewN _⟩
            · have HBX := hid hbx
              have e3 : (b == x.ba) = false := by rw [beq_eq_false_iff_ne]; exact hbx
              clear hbx
              go_wp2_with fail
              go_quiet (fail)
              go_wp2_with fail
              go_roundw
              case rel => exact ⟨j + 1, by omega, by go_num, HN.out (fun _ => HBX.out), HB.out.2.drewN _⟩
              case measure => simp [intOf]; omega
          · have hb1 : decide (0 < b) = false := by simpa using hb0
            have HB0 := hid hb0
            clear hb0
            go_wp2_with fail
            go_quiet (fail)
            go_wp2_with fail
            go_roundw
            case rel => exact ⟨j + 1, by omega, by go_num, HN.out (fun h => by have := HB0.out; omega), HB.out.2.drewN _⟩
            case measure => simp [intOf]; omega
        · have hjk2 : j = k := by omega
          have HB2 : Hid (RM att l (k + 1)) := hid ⟨fun i hi => by
            by_cases hik : i = k
            · rw [hik, HX.out]; exact HZ.out
            · exact HAll.out.1.ok i (by omega), fun i i' hij hi' h0 => by
            by_cases hik : i' = k
            · rw [hik, HX.out]; exact HB.out.1 i (by omega) h0
            · exact HAll.out.1.ba i i' hij (by omega) h0⟩
          clear hjk2
          go_wp2_with fail
          go_roundw
          case rel => exact ⟨k + 1, by omega, by go_num, HB2.out, HB.out.2⟩
          case measure => simp [intOf]; omega
    · obtain rfl : k = l.length := by omega
      go_wp2_with fail
      go_ret
      exact ⟨true, rfl, ⟨fun _ => ⟨by omega, HAll.out.1⟩, fun _ => rfl⟩, HAll.out.2⟩

end Go.Proofs.Ythdcpenhfccagaa
