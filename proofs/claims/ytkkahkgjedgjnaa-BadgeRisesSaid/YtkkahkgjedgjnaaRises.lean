/-
  The walk of BadgeRises: it returns true, and nothing that was there has turned.
-/
import Derived.Test.YtkkahkgjedgjnaaBadgeLaw
namespace Go.Proofs.Ytkkahkgjedgjnaa
open Go.RowKit

theorem next_bounds (b l r : Int) (h1 : 1 ≤ b) (h2 : b ≤ 16) (h3 : l < 1099511627776) (h4 : r < l + 1) (h5 : l ≤ r) : nextR b l r = min (r + b) 1099511627776 ∧ r < nextR b l r ∧ nextR b l r ≤ 1099511627776 ∧ l + 1 ≤ nextR b l r := by
  unfold nextR; rw [if_pos h4]; omega

set_option linter.unusedVariables false
set_option maxHeartbeats 1600000 in
set_option maxRecDepth 100000 in
theorem rises_any (x0 : Int) (a : Option Addr) (len cap : Nat) (f g : Nat → Int) (w : World) (hr1 : -9223372036854775808 ≤ x0) (hr2 : x0 ≤ 9223372036854775807) (hlen : len ≤ 9223372036854775807)
    (hs : 0 < len → ∃ b off, a = some ⟨b, off, none⟩ ∧ ∀ i, i < len → w.cell? ⟨b, off + i * 2, none⟩ = some (.int .i64 (f i)) ∧ w.cell? ⟨b, off + i * 2 + 1, none⟩ = some (.int .i64 (g i)))
    (hb : ∀ i, i < len → -9223372036854775808 ≤ f i ∧ f i ≤ 9223372036854775807 ∧ -9223372036854775808 ≤ g i ∧ g i ≤ 9223372036854775807) :
    Calls Try.prog 3 #[.int .i64 x0, .slice a len cap] w fun e w' => e = .returned (.bool true) ∧ Fr [] w w' := by
  by_cases hx : x0 < 0 ∨ 1099511627776 < x0
  · rcases hx with hx | hx
    · go_enter Try.func3, Try.ntmps3
      go_wp2_with fail
      refine (badge_new_arg 1 x0 _ (by omega) (by omega) (.inl hx)).mono ?_
      rintro e w1 ⟨rfl, rfl⟩
      go_wp2_with fail
      refine (fixed10 _).mono ?_
      rintro e w1 ⟨rfl, hF⟩
      go_wp2_with fail
      go_ret
      exact ⟨rfl, hF⟩
    · have hx' : ¬ x0 < 0 := by omega
      go_enter Try.func3, Try.ntmps3
      go_wp2_with fail
      refine (badge_new_arg 1 x0 _ (by omega) (by omega) (.inr hx)).mono ?_
      rintro e w1 ⟨rfl, rfl⟩
      go_wp2_with fail
      refine (fixed10 _).mono ?_
      rintro e w1 ⟨rfl, hF⟩
      go_wp2_with fail
      go_ret
      exact ⟨rfl, hF⟩
  · have hx1 : ¬ x0 < 0 := by omega
    have hx2 : ¬ 1099511627776 < x0 := by omega
    clear hx
    go_enter Try.func3, Try.ntmps3
    go_wp2_with fail
    go_loopw [7, 8, 9] (fun l k i wr => ∃ (n : Nat) (K : Int), n ≤ len ∧ i = .int .i64 n ∧ l = .int .i64 K ∧ k = .int .i64 K ∧ 0 ≤ K ∧ K ≤ 1099511627776 ∧ Fr [] w wr) (fun _ _ i _ => len - (intOf i).toNat)
    case atStart => exact ⟨0, x0, Nat.zero_le _, rfl, rfl, rfl, by omega, by omega, Fr.refl _ _⟩
    case round =>
      obtain ⟨n, K, hn, rfl, rfl, rfl, hK0, hK1, hFw⟩ := hrel
      by_cases hlt : n < len
      · obtain ⟨b, off, rfl, hcs⟩ := hs (by omega)
        obtain ⟨hb1, hb2, hb3, hb4⟩ := hb n hlt
        obtain ⟨hc1, hc2⟩ := hcs n hlt
        have hd1 := hFw.cell0 hc1
        have hd2 := hFw.cell0 hc2
        clear hc1 hc2 hcs hs hb
        go_wp2_with fail
        refine (place10 (g n) 16 _ hb3 hb4 (by omega) (by omega)).mono ?_
        rintro e w1 ⟨rfl, rfl⟩
        go_wp2_with fail
        refine (badge_new_ok (1 + g n % 16) K _ (by omega) (by omega) hK0 hK1).mono ?_
        rintro e w1 ⟨rfl, rfl⟩
        have hC0 : Ctr (wr.alloc (.cells #[.int .i64 (1 + g n % 16), .int .i64 K, .int .i64 K] 85)) wr.heap.size (1 + g n % 16) K K := blk_alloc_at _ _ _ rfl
        have hd3 := ((Fr.refl [] wr).alloc (.cells #[.int .i64 (1 + g n % 16), .int .i64 K, .int .i64 K] 85)).cell0 hd1
        go_wp2_with fail
        refine (badge_last _ _ _ _ _ hC0).mono ?_
        rintro e w1 ⟨rfl, rfl⟩
        go_wp2_with fail
        refine (badge_reserved _ _ _ _ _ hC0).mono ?_
        rintro e w1 ⟨rfl, rfl⟩
        go_wp2_with fail
        refine (place10 (f n) 40 _ hb1 hb2 (by omega) (by omega)).mono ?_
        rintro e w1 ⟨rfl, rfl⟩
        have hF1 := hFw.alloc (.cells #[.int .i64 (1 + g n % 16), .int .i64 K, .int .i64 K] 85)
        go_wp2_with fail
        have hCs : w.heap.size ≤ wr.heap.size := hFw.size
        generalize wr.heap.size = C at hC0 hCs ⊢
        generalize wr.alloc (.cells #[.int .i64 (1 + g n % 16), .int .i64 K, .int .i64 K] 85) = w1 at hC0 hF1 ⊢
        have hm0 : 0 ≤ f n % 40 := by omega
        have hm1 : f n % 40 < 40 := by omega
        have hB0 : 1 ≤ 1 + g n % 16 := by omega
        have hB1 : 1 + g n % 16 ≤ 16 := by omega
        generalize 1 + g n % 16 = blk at hC0 hB0 hB1 ⊢
        generalize f n % 40 = m at hm0 hm1 ⊢
        clear hd1 hd2 hd3 hFw hb1 hb2 hb3 hb4
        go_loopw [7, 8, 12] (fun l k j wi => ∃ (L R J : Int), j = .int .i64 J ∧ l = .int .i64 L ∧ k = .int .i64 R ∧ 0 ≤ L ∧ L ≤ R ∧ R ≤ 1099511627776 ∧ J < 40 ∧ Ctr wi C blk L R ∧ Fr [] w wi) (fun _ _ j _ => (intOf j).toNat)
        case atStart => exact ⟨K, K, m, rfl, rfl, rfl, by omega, by omega, by omega, by omega, hC0, hF1⟩
        case round =>
          obtain ⟨L, R, J, rfl, rfl, rfl, hL0, hL1, hR1, hJ, hC, hFi⟩ := hrel
          by_cases hj : 0 < J
          · by_cases hLe : L < 1099511627776
            · by_cases hRl : R < L + 1
              · obtain ⟨q1, q2, q3, q4⟩ := next_bounds blk L R hB0 hB1 hLe hRl hL1
                clear q1
                go_wp2_with fail
                refine (badge_next _ _ _ _ _ hC hL0 hLe (by omega) hB0 hB1).mono ?_
                rw [if_pos hRl]
                rintro e w2 ⟨rfl, hF2, hC2⟩
                generalize nextR blk L R = R' at hC2 q2 q3 q4 ⊢
                go_wp2_with fail
                refine (badge_last _ _ _ _ _ hC2).mono ?_
                rintro e w3 ⟨rfl, rfl⟩
                go_wp2_with fail
                refine (badge_reserved _ _ _ _ _ hC2).mono ?_
                rintro e w3 ⟨rfl, rfl⟩
                go_wp2_with fail
                go_roundw
                case rel => exact ⟨L + 1, R', J - 1, rfl, rfl, rfl, by omega, by omega, by omega, by omega, hC2, hFi.step hF2 (by simp; omega)⟩
                case measure => simp [intOf]; omega
              · have hRl' : L + 1 ≤ R := by omega
                go_wp2_with fail
                refine (badge_next _ _ _ _ _ hC hL0 hLe (by omega) hB0 hB1).mono ?_
                rw [if_neg (show ¬ R < L + 1 by omega), show nextR blk L R = R from by unfold nextR; rw [if_neg (by omega)]]
                rintro e w2 ⟨rfl, hF2, hC2⟩
                go_wp2_with fail
                refine (badge_last _ _ _ _ _ hC2).mono ?_
                rintro e w3 ⟨rfl, rfl⟩
                go_wp2_with fail
                refine (badge_reserved _ _ _ _ _ hC2).mono ?_
                rintro e w3 ⟨rfl, rfl⟩
                go_wp2_with fail
                go_roundw
                case rel => exact ⟨L + 1, R, J - 1, rfl, rfl, rfl, by omega, by omega, by omega, by omega, hC2, hFi.step hF2 (by simp; omega)⟩
                case measure => simp [intOf]; omega
            · obtain rfl : L = 1099511627776 := by omega
              go_wp2_with fail
              refine (badge_next_end _ _ _ _ _ hC (by omega)).mono ?_
              rintro e w2 ⟨rfl, hF2⟩
              go_wp2_with fail
              refine (fixed10 _).mono ?_
              rintro e w3 ⟨rfl, hF3⟩
              go_wp2_with fail
              go_ret
              exact ⟨rfl, (hFi.trans hF2).trans hF3⟩
          · go_wp2_with fail
            go_roundw
            case rel => exact ⟨n + 1, R, by omega, by go_num, rfl, rfl, by omega, by omega, hFi⟩
            case measure => simp [intOf]; omega
      · go_wp2_with fail
        refine (fixed10 _).mono ?_
        rintro e w3 ⟨rfl, hF3⟩
        go_wp2_with fail
        go_ret
        exact ⟨rfl, hFw.trans hF3⟩

end Go.Proofs.Ytkkahkgjedgjnaa
