/-
  The walk of BadgeTwins.
-/
import Derived.Test.YtkkahkgjedgjnaaBadgeLaw
namespace Go.Proofs.Ytkkahkgjedgjnaa
open Go.RowKit
set_option linter.unusedVariables false

/-- What Next tells, and what it leaves, of whatever state. -/
def nB (l : Int) : Int := if l < 1099511627776 then l + 1 else 0
def nN (b l r : Int) : Int := if l < 1099511627776 then (if r < l + 1 then nextR b l r else 0) else 0
def nE (l : Int) : Int := if l < 1099511627776 then 0 else 101
def nL (l : Int) : Int := if l < 1099511627776 then l + 1 else l
def nR (b l r : Int) : Int := if l < 1099511627776 then nextR b l r else r

theorem n_bounds (b l r : Int) (h1 : 1 ≤ b) (h2 : b ≤ 16) (h3 : 0 ≤ l) (h4 : l ≤ 1099511627776) (h5 : 0 ≤ r) (h6 : r ≤ 1099511627776) : 0 ≤ nL l ∧ nL l ≤ 1099511627776 ∧ 0 ≤ nR b l r ∧ nR b l r ≤ 1099511627776 := by
  unfold nL nR nextR; omega

theorem badge_next_any (B : Nat) (b l r : Int) (w : World) (hC : Ctr w B b l r) (hl : 0 ≤ l) (hr0 : 0 ≤ r) (hb1 : 1 ≤ b) (hb2 : b ≤ 16) :
    Calls Try.prog 21 #[.pointer (some ⟨B, 0, none⟩)] w fun e w' => e = .returned (.tuple #[.int .i64 (nB l), .int .i64 (nN b l r), .int .i64 (nE l)]) ∧ Fr [B] w w' ∧ Ctr w' B b (nL l) (nR b l r) := by
  by_cases h : l < 1099511627776
  · refine (badge_next B b l r w hC hl h hr0 hb1 hb2).mono ?_
    unfold nB nN nE nL nR
    rw [if_pos h, if_pos h, if_pos h, if_pos h, if_pos h]
    exact fun e w' x => x
  · refine (badge_next_end B b l r w hC (by omega)).mono ?_
    unfold nB nN nE nL nR
    rw [if_neg h, if_neg h, if_neg h, if_neg h, if_neg h]
    exact fun e w' x => ⟨x.1, x.2.mono (by simp), x.2.keep hC (by simp)⟩

set_option maxHeartbeats 1600000 in
set_option maxRecDepth 100000 in
theorem twins10_any (w : World) (x0 : Int) (h01 : -9223372036854775808 ≤ x0) (h02 : x0 ≤ 9223372036854775807) (x1 : Int) (h11 : -9223372036854775808 ≤ x1) (h12 : x1 ≤ 9223372036854775807)
    (x2 : Int) (h21 : -9223372036854775808 ≤ x2) (h22 : x2 ≤ 9223372036854775807) :
    Calls Try.prog 6 #[.int .i64 x0, .int .i64 x1, .int .i64 x2] w fun e w' => e = .returned (.bool true) ∧ Fr [] w w' := by
  by_cases hx : x0 < 1 ∨ 16 < x0
  · go_enter Try.func6, Try.ntmps6
    go_wp2_with fail
    refine (badge_new_block x0 x1 _ hx).mono ?_
    rintro e w1 ⟨rfl, rfl⟩
    go_wp2_with fail
    refine (fixed10 _).mono ?_
    rintro e w1 ⟨rfl, hF⟩
    go_wp2_with fail
    go_ret
    exact ⟨rfl, hF⟩
  · by_cases hy : x1 < 0 ∨ 1099511627776 < x1
    · go_enter Try.func6, Try.ntmps6
      go_wp2_with fail
      refine (badge_new_arg x0 x1 _ (by omega) (by omega) hy).mono ?_
      rintro e w1 ⟨rfl, rfl⟩
      go_wp2_with fail
      refine (fixed10 _).mono ?_
      rintro e w1 ⟨rfl, hF⟩
      go_wp2_with fail
      go_ret
      exact ⟨rfl, hF⟩
    · have hb1 : 1 ≤ x0 := by omega
      have hb2 : x0 ≤ 16 := by omega
      have hr1 : 0 ≤ x1 := by omega
      have hr2 : x1 ≤ 1099511627776 := by omega
      clear hx hy
      have hC0 : Ctr (w.alloc (.cells #[.int .i64 x0, .int .i64 x1, .int .i64 x1] 85)) w.heap.size x0 x1 x1 := blk_alloc_at _ _ _ rfl
      have hF1 := (Fr.refl [] w).alloc (.cells #[.int .i64 x0, .int .i64 x1, .int .i64 x1] 85)
      have hCs : w.heap.size ≤ w.heap.size := Nat.le_refl _
      go_enter Try.func6, Try.ntmps6
      go_wp2_with fail
      refine (badge_new_ok x0 x1 _ hb1 hb2 hr1 hr2).mono ?_
      rintro e w1 ⟨rfl, rfl⟩
      generalize hCz : w.heap.size = C at hC0 ⊢
      have hCs : w.heap.size ≤ C := by omega
      clear hCz
      generalize w.alloc (.cells #[.int .i64 x0, .int .i64 x1, .int .i64 x1] 85) = w1 at hC0 hF1 ⊢
      go_wp2_with fail
      go_loopw [9] (fun i wi => ∃ (n L R : Int), i = .int .i64 n ∧ 0 ≤ n ∧ n ≤ 20 ∧ 0 ≤ L ∧ L ≤ 1099511627776 ∧ 0 ≤ R ∧ R ≤ 1099511627776 ∧ Ctr wi C x0 L R ∧ Fr [] w wi) (fun i _ => (20 - intOf i).toNat)
      case atStart => exact ⟨0, x1, x1, rfl, by omega, by omega, by omega, by omega, by omega, by omega, hC0, hF1⟩
      case round =>
        clear hC0 hF1
        obtain ⟨n, L, R, rfl, hn0, hn1, hL0, hL1, hR0, hR1, hC, hFw⟩ := hrel
        have hp1 : 0 ≤ x2 % 20 := by omega
        have hp2 : x2 % 20 < 20 := by omega
        by_cases hlt : n < x2 % 20
        · go_wp2_with fail
          refine (place10 x2 20 _ h21 h22 (by omega) (by omega)).mono ?_
          rintro e w2 ⟨rfl, rfl⟩
          obtain ⟨q1, q2, q3, q4⟩ := n_bounds x0 L R hb1 hb2 hL0 hL1 hR0 hR1
          go_wp2_with fail
          refine (badge_next_any _ _ _ _ _ hC hL0 hR0 hb1 hb2).mono ?_
          rintro e w2 ⟨rfl, hF2, hC2⟩
          go_wp2_with fail
          go_roundw
          case rel => exact ⟨n + 1, _, _, rfl, by omega, by omega, q1, q2, q3, q4, hC2, hFw.step hF2 (by simp; omega)⟩
          case measure => simp [intOf]; omega
        · go_wp2_with fail
          refine (place10 x2 20 _ h21 h22 (by omega) (by omega)).mono ?_
          rintro e w2 ⟨rfl, rfl⟩
          go_wp2_with fail
          refine (badge_clone _ _ _ _ _ hC).mono ?_
          rintro e w2 ⟨rfl, rfl⟩
          have hCw : C < wr.heap.size := lt_of_block hC
          have hD : Ctr (wr.alloc (.cells #[.int .i64 x0, .int .i64 L, .int .i64 R] 85)) wr.heap.size x0 L R := blk_alloc_at _ _ _ rfl
          have hCa : Ctr (wr.alloc (.cells #[.int .i64 x0, .int .i64 L, .int .i64 R] 85)) C x0 L R := blk_alloc_lt _ hC
          have hFa := hFw.alloc (.cells #[.int .i64 x0, .int .i64 L, .int .i64 R] 85)
          generalize hDz : wr.heap.size = D at hD hCw ⊢
          have hDs : w.heap.size ≤ D := by omega
          clear hDz
          generalize wr.alloc (.cells #[.int .i64 x0, .int .i64 L, .int .i64 R] 85) = w3 at hD hCa hFa ⊢
          clear hC hFw hlt hn0 hn1 hp1 hp2
          go_wp2_with fail
          go_loopw [11] (fun i wi => ∃ (n L R : Int), i = .int .i64 n ∧ 0 ≤ n ∧ n ≤ 20 ∧ 0 ≤ L ∧ L ≤ 1099511627776 ∧ 0 ≤ R ∧ R ≤ 1099511627776 ∧ Ctr wi C x0 L R ∧ Ctr wi D x0 L R ∧ Fr [] w wi) (fun i _ => (20 - intOf i).toNat)
          case atStart => exact ⟨0, L, R, rfl, by omega, by omega, by omega, by omega, by omega, by omega, hCa, hD, hFa⟩
          case round =>
            clear hCa hD hFa hL0 hL1 hR0 hR1
            obtain ⟨n, L, R, rfl, hn0, hn1, hL0, hL1, hR0, hR1, hC, hD, hFw⟩ := hrel
            by_cases hlt : n < 20
            · obtain ⟨q1, q2, q3, q4⟩ := n_bounds x0 L R hb1 hb2 hL0 hL1 hR0 hR1
              go_wp2_with fail
              refine (badge_last _ _ _ _ _ hD).mono ?_
              rintro e w4 ⟨rfl, rfl⟩
              go_wp2_with fail
              refine (badge_reserved _ _ _ _ _ hD).mono ?_
              rintro e w4 ⟨rfl, rfl⟩
              go_wp2_with fail
              refine (badge_next_any _ _ _ _ _ hC hL0 hR0 hb1 hb2).mono ?_
              rintro e w4 ⟨rfl, hF4, hC4⟩
              have hD4 : Ctr w4 D x0 L R := hF4.keep hD (by simp; omega)
              go_wp2_with fail
              refine (badge_last _ _ _ _ _ hD4).mono ?_
              rintro e w5 ⟨rfl, rfl⟩
              go_wp2_with fail
              refine (badge_reserved _ _ _ _ _ hD4).mono ?_
              rintro e w5 ⟨rfl, rfl⟩
              go_wp2_with fail
              refine (badge_next_any _ _ _ _ _ hD4 hL0 hR0 hb1 hb2).mono ?_
              rintro e w5 ⟨rfl, hF5, hD5⟩
              have hC5 := hF5.keep hC4 (by simp; omega)
              go_wp2_with fail
              go_roundw
              case rel => exact ⟨n + 1, _, _, rfl, by omega, by omega, q1, q2, q3, q4, hC5, hD5, (hFw.step hF4 (by simp; omega)).step hF5 (by simp; omega)⟩
              case measure => simp [intOf]; omega
            · go_wp2_with fail
              refine (fixed10 _).mono ?_
              rintro e w4 ⟨rfl, hF4⟩
              go_wp2_with fail
              go_ret
              exact ⟨rfl, hFw.trans hF4⟩

end Go.Proofs.Ytkkahkgjedgjnaa
