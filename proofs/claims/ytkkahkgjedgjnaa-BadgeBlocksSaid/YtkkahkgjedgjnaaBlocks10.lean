/-
  The walk of BadgeBlocks.
-/
import Derived.Test.YtkkahkgjedgjnaaTwins10
import Derived.Deep.Cut
namespace Go.Proofs.Ytkkahkgjedgjnaa
open Go.RowKit
set_option linter.unusedVariables false

def eEnd (res b k : Int) : Int := min (res + b * ((k + b - 1) / b)) 1099511627776
theorem div_low (b k : Int) (hb : 1 ≤ b) (h : k % b = 0) : (k + b - 1) / b = k / b ∧ b * (k / b) = k ∧ (k + 1 + b - 1) / b = k / b + 1 := by
  have h1 := Int.mul_ediv_add_emod k b
  have h2 : b * (k / b) = k := by omega
  refine ⟨?_, h2, ?_⟩
  · rw [show k + b - 1 = (b - 1) + b * (k / b) by omega, Int.add_mul_ediv_left _ _ (by omega), Int.ediv_eq_zero_of_lt (by omega) (by omega)]; omega
  · rw [show k + 1 + b - 1 = 0 + b * (k / b + 1) by rw [Int.mul_add]; omega, Int.add_mul_ediv_left _ _ (by omega)]; simp
theorem div_high (b k : Int) (hb : 1 ≤ b) (h : k % b ≠ 0) : (k + b - 1) / b = k / b + 1 ∧ (k + 1 + b - 1) / b = k / b + 1 ∧ k < b * (k / b + 1) ∧ b * (k / b) ≤ k := by
  have h1 := Int.mul_ediv_add_emod k b
  have h3 := Int.emod_nonneg k (show b ≠ 0 by omega)
  have h4 := Int.emod_lt_of_pos k (show 0 < b by omega)
  refine ⟨?_, ?_, ?_, by omega⟩
  · rw [show k + b - 1 = (k % b - 1) + b * (k / b + 1) by rw [Int.mul_add]; omega, Int.add_mul_ediv_left _ _ (by omega), Int.ediv_eq_zero_of_lt (by omega) (by omega)]; omega
  · rw [show k + 1 + b - 1 = (k % b) + b * (k / b + 1) by rw [Int.mul_add]; omega, Int.add_mul_ediv_left _ _ (by omega), Int.ediv_eq_zero_of_lt (by omega) (by omega)]; omega
  · rw [Int.mul_add]; omega
theorem mod_low (b k : Int) (hb : 1 ≤ b) (h : k % b = 0) : (k + 1) % b = 1 % b := by rw [Int.add_emod, h]; simp
theorem mod_high (b k : Int) (hb : 1 ≤ b) (h : k % b ≠ 0) : (k + 1) % b ≠ 1 % b := by
  have h3 := Int.emod_nonneg k (show b ≠ 0 by omega)
  have h4 := Int.emod_lt_of_pos k (show 0 < b by omega)
  have h1 := Int.mul_ediv_add_emod k b
  by_cases hb1 : b = 1
  · subst hb1; omega
  · rw [Int.emod_eq_of_lt (show (0:Int) ≤ 1 by omega) (show 1 < b by omega)]
    have : (k + 1) % b = (k % b + 1) % b := by rw [Int.emod_add_emod]
    rw [this]
    by_cases hk : k % b + 1 = b
    · rw [hk, Int.emod_self]; omega
    · rw [Int.emod_eq_of_lt (by omega) (by omega)]; omega
theorem e_low (res b k : Int) (hb : 1 ≤ b) (hk : 0 ≤ k) (hr : res + k + 1 ≤ 1099511627776) (h : k % b = 0) : eEnd res b k = res + k ∧ eEnd res b (k + 1) = min (res + k + b) 1099511627776 := by
  obtain ⟨a1, a2, a3⟩ := div_low b k hb h
  unfold eEnd
  rw [a1, a2, a3, Int.mul_add, a2]
  omega
theorem e_high (res b k : Int) (hb : 1 ≤ b) (hk : 0 ≤ k) (hr : res + k + 1 ≤ 1099511627776) (h : k % b ≠ 0) : res + k + 1 ≤ eEnd res b k ∧ eEnd res b (k + 1) = eEnd res b k := by
  obtain ⟨a1, a2, a3, a4⟩ := div_high b k hb h
  unfold eEnd
  rw [a1, a2]
  omega
theorem e_prod (b k : Int) (hb : 1 ≤ b) (hb2 : b ≤ 16) (hk : 0 ≤ k) (hk2 : k ≤ 100) : 0 ≤ (k + b - 1) / b ∧ (k + b - 1) / b ≤ 200 ∧ 0 ≤ b * ((k + b - 1) / b) ∧ b * ((k + b - 1) / b) ≤ 200 := by
  have h0 : 0 ≤ (k + b - 1) / b := Int.ediv_nonneg (by omega) (by omega)
  have h1 := Int.mul_ediv_add_emod (k + b - 1) b
  have h3 := Int.emod_nonneg (k + b - 1) (show b ≠ 0 by omega)
  refine ⟨h0, ?_, Int.mul_nonneg (by omega) h0, by omega⟩
  have := Int.ediv_le_self b (show 0 ≤ k + b - 1 by omega)
  omega

theorem next_low (res b k : Int) (hb : 1 ≤ b) (hk : 0 ≤ k) (hr : res + k + 1 ≤ 1099511627776) (h0 : 0 ≤ res) (h : k % b = 0) : nextR b (res + k) (eEnd res b k) = eEnd res b (k + 1) ∧ eEnd res b k < res + k + 1 ∧ res + k + 1 ≤ eEnd res b (k + 1) ∧ eEnd res b k = res + k := by
  obtain ⟨a1, a2⟩ := e_low res b k hb hk hr h
  unfold nextR; rw [a1, if_pos (by omega), a2]; omega
theorem next_high (res b k : Int) (hb : 1 ≤ b) (hk : 0 ≤ k) (hr : res + k + 1 ≤ 1099511627776) (h0 : 0 ≤ res) (h : k % b ≠ 0) : nextR b (res + k) (eEnd res b k) = eEnd res b (k + 1) ∧ ¬ eEnd res b k < res + k + 1 ∧ eEnd res b (k + 1) = eEnd res b k := by
  obtain ⟨a1, a2⟩ := e_high res b k hb hk hr h
  unfold nextR; rw [if_neg (by omega), a2]; omega

theorem ret_bool {a b : Bool} (h : a = b) : Ending.returned (.bool a) = .returned (.bool b) := by rw [h]

theorem quiet_mine {P : Program} {f : FuncId} {args : Array Value} {w : World} {n : Nat} {v : Value}
    (h : Calls P f args (w.drewN n) fun e w' => e = .returned v ∧ w.drewN n = w') : Calls P f args (w.drewN n) fun e w'' => e = .returned v ∧ ∃ m, w'' = w.drewN m :=
  h.mono fun _ _ ⟨he, hm⟩ => ⟨he, n, hm.symm⟩

set_option maxHeartbeats 6400000 in
set_option maxRecDepth 100000 in
theorem blocks_any (w : World) (x0 : Int) (h01 : -9223372036854775808 ≤ x0) (h02 : x0 ≤ 9223372036854775807) (x1 : Int) (h11 : -9223372036854775808 ≤ x1) (h12 : x1 ≤ 9223372036854775807)
    (x2 : Int) (h21 : -9223372036854775808 ≤ x2) (h22 : x2 ≤ 9223372036854775807) :
    Calls Try.prog 4 #[.int .i64 x0, .int .i64 x1, .int .i64 x2] w fun e w' => e = .returned (.bool true) ∧ Fr [] w w' := by
  by_cases hx : x0 < 1
  · go_enter Try.func4, Try.ntmps4
    go_wp2_with fail
    refine (badge_new_block x0 x1 _ (.inl hx)).mono ?_
    rintro e w1 ⟨rfl, rfl⟩
    go_wp2_with fail
    refine (fixed10 _).mono ?_
    rintro e w1 ⟨rfl, hF⟩
    go_wp2_with fail
    go_ret
    exact ⟨rfl, hF⟩
  by_cases hx' : 16 < x0
  · go_enter Try.func4, Try.ntmps4
    go_wp2_with fail
    refine (badge_new_block x0 x1 _ (.inr hx')).mono ?_
    rintro e w1 ⟨rfl, rfl⟩
    go_wp2_with fail
    refine (fixed10 _).mono ?_
    rintro e w1 ⟨rfl, hF⟩
    go_wp2_with fail
    go_ret
    exact ⟨rfl, hF⟩
  by_cases hy : x1 < 0
  · go_enter Try.func4, Try.ntmps4
    go_wp2_with fail
    refine (badge_new_arg x0 x1 _ (by omega) (by omega) (.inl hy)).mono ?_
    rintro e w1 ⟨rfl, rfl⟩
    go_wp2_with fail
    refine (fixed10 _).mono ?_
    rintro e w1 ⟨rfl, hF⟩
    go_wp2_with fail
    go_ret
    exact ⟨ret_bool (by simp; omega), hF⟩
  by_cases hy' : 1099511627776 < x1
  · go_enter Try.func4, Try.ntmps4
    go_wp2_with fail
    refine (badge_new_arg x0 x1 _ (by omega) (by omega) (.inr hy')).mono ?_
    rintro e w1 ⟨rfl, rfl⟩
    go_wp2_with fail
    refine (fixed10 _).mono ?_
    rintro e w1 ⟨rfl, hF⟩
    go_wp2_with fail
    go_ret
    exact ⟨ret_bool (by simp; omega), hF⟩
  have hb1 : 1 ≤ x0 := by omega
  have hb2 : x0 ≤ 16 := by omega
  have hr1 : 0 ≤ x1 := by omega
  have hr2 : x1 ≤ 1099511627776 := by omega
  clear hx hx' hy hy'
  have hC0 : Ctr (w.alloc (.cells #[.int .i64 x0, .int .i64 x1, .int .i64 x1] 85)) w.heap.size x0 x1 x1 := blk_alloc_at _ _ _ rfl
  have hF1 := (Fr.refl [] w).alloc (.cells #[.int .i64 x0, .int .i64 x1, .int .i64 x1] 85)
  go_enter Try.func4, Try.ntmps4
  go_wp2_with fail
  refine (badge_new_ok x0 x1 _ hb1 hb2 hr1 hr2).mono ?_
  rintro e w1 ⟨rfl, rfl⟩
  generalize hCz : w.heap.size = C at hC0 ⊢
  have hCs : w.heap.size ≤ C := by omega
  clear hCz
  generalize w.alloc (.cells #[.int .i64 x0, .int .i64 x1, .int .i64 x1] 85) = w1 at hC0 hF1 ⊢
  go_wp2_with fail
  go_loopw [11] (fun i wi => ∃ k : Int, i = .int .i64 (k + 1) ∧ 0 ≤ k ∧ k ≤ 100 ∧ x1 + k ≤ 1099511627776 ∧ Ctr wi C x0 (x1 + k) (eEnd x1 x0 k) ∧ Fr [] w wi) (fun i _ => (200 - intOf i).toNat)
  case atStart =>
    refine ⟨0, rfl, by omega, by omega, by omega, ?_, hF1⟩
    have : eEnd x1 x0 0 = x1 := by
      obtain ⟨a1, a2, a3⟩ := div_low x0 0 hb1 (by simp)
      unfold eEnd; rw [a1, a2]; omega
    rw [this]; simpa using hC0
  case round =>
    clear hC0 hF1
    obtain ⟨k, rfl, hk0, hk1, hk2, hC, hFw⟩ := hrel
    by_cases hlt : (k + 1 ≤ x2 ∧ k + 1 ≤ 100) ∧ x1 + (k + 1) ≤ 1099511627776
    · obtain ⟨⟨hl1, hl2⟩, hl3⟩ := hlt
      obtain ⟨p1, p2, p3, p4⟩ := e_prod x0 (k + 1) hb1 hb2 (by omega) hl2
      have hE : min (x1 + x0 * ((k + 1 + x0 - 1) / x0)) 1099511627776 = eEnd x1 x0 (k + 1) := rfl
      have HE := hid hE; clear hE
      by_cases hx2 : 100 < x2
      all_goals
        by_cases hm : k % x0 = 0
        · obtain ⟨n1, n2, n3, n4⟩ := next_low x1 x0 k hb1 hk0 (by omega) hr1 hm
          have hmod : ((k + 1) % x0 == 1 % x0) = true := by rw [mod_low x0 k hb1 hm]; simp
          have HM := hid hm; clear hm
          by_cases hmx : x1 + x0 * ((k + 1 + x0 - 1) / x0) ≤ 1099511627776
          all_goals
            go_wp2_with fail
            refine (badge_next _ _ _ _ _ hC (by omega) (by omega) (by omega) hb1 hb2).mono ?_
            rw [if_pos n2, n1]
            clear n1 n2 n4
            rintro e w2 ⟨rfl, hF2, hC2⟩
            have hE1 : 0 < eEnd x1 x0 (k + 1) := by omega
            generalize hEE : eEnd x1 x0 (k + 1) = E at hC2 HE n3 hE1 ⊢
            go_upto_region 12 with (fail)
            have y3 : (E != 0) = true := by rw [bne_iff_ne]; omega
            have y4 : (E == 0) = false := by rw [beq_eq_false_iff_ne]; omega
            first
              | (have hq : x1 + x0 * ((k + 1 + x0 - 1) / x0) = E := by rw [← HE.out]; omega
                 rw [hq]; clear hq)
              | (obtain rfl : E = 1099511627776 := by rw [← HE.out]; omega)
            have HEE := hid hEE
            clear hmx p1 p2 p3 p4 hEE HE
            have z1 : IntKind.i64.wrap (x1 + (k + 1)) = x1 + (k + 1) := IntWalk.i64_in _ (by omega)
            have z2 : (x1 + k + 1 != x1 + (k + 1)) = false := by rw [bne_eq_false_iff_eq]; omega
            have z3 : (x1 + k + 1 == x1 + (k + 1)) = true := by rw [beq_iff_eq]; omega
            have z4 : (k + 1).tmod x0 = (k + 1) % x0 := Int.tmod_eq_emod_of_nonneg (by omega)
            have z5 : (1 : Int).tmod x0 = 1 % x0 := Int.tmod_eq_emod_of_nonneg (by omega)
            have z6 : 0 ≤ (k + 1) % x0 := Int.emod_nonneg _ (by omega)
            have z7 : (k + 1) % x0 < x0 := Int.emod_lt_of_pos _ (by omega)
            have z8 : 0 ≤ 1 % x0 := Int.emod_nonneg _ (by omega)
            have z9 : 1 % x0 < x0 := Int.emod_lt_of_pos _ (by omega)
            have y1 : IntKind.i64.wrap ((k + 1) % x0) = (k + 1) % x0 := IntWalk.i64_in _ (by omega)
            have y2 : IntKind.i64.wrap (1 % x0) = 1 % x0 := IntWalk.i64_in _ (by omega)
            have y0 : ¬ x0 = 0 := by omega
            go_quiet ((first | (go_at_call 20; exact quiet_mine (badge_reserved _ _ _ _ _ hC2)) | (go_at_call 19; exact quiet_mine (badge_last _ _ _ _ _ hC2))))
            clear z1 z2 z3 z4 z5 z6 z7 z8 z9 y0 y1 y2 y3 y4
            go_wp2
            go_roundw
            case rel => exact ⟨k + 1, rfl, by omega, by omega, by omega, by rw [HEE.out, ← Int.add_assoc]; exact hC2, (hFw.step hF2 (by simp; omega)).drewN _⟩
            case measure => simp [intOf]; omega
        · obtain ⟨n1, n2, n3⟩ := next_high x1 x0 k hb1 hk0 (by omega) hr1 hm
          have hmod : ((k + 1) % x0 == 1 % x0) = false := by rw [beq_eq_false_iff_ne]; exact mod_high x0 k hb1 hm
          have HM := hid hm; clear hm
          by_cases hmx : x1 + x0 * ((k + 1 + x0 - 1) / x0) ≤ 1099511627776
          all_goals
            go_wp2_with fail
            refine (badge_next _ _ _ _ _ hC (by omega) (by omega) (by omega) hb1 hb2).mono ?_
            rw [if_neg (by omega), n1]
            clear n1
            rintro e w2 ⟨rfl, hF2, hC2⟩
            have hE1 : 0 < eEnd x1 x0 (k + 1) := by omega
            clear n3 n2
            generalize hEE : eEnd x1 x0 (k + 1) = E at hC2 HE hE1 ⊢
            go_upto_region 12 with (fail)
            have y3 : (E != 0) = true := by rw [bne_iff_ne]; omega
            have y4 : (E == 0) = false := by rw [beq_eq_false_iff_ne]; omega
            first
              | (have hq : x1 + x0 * ((k + 1 + x0 - 1) / x0) = E := by rw [← HE.out]; omega
                 rw [hq]; clear hq)
              | (obtain rfl : E = 1099511627776 := by rw [← HE.out]; omega)
            have HEE := hid hEE
            clear hmx p1 p2 p3 p4 hEE HE
            have z1 : IntKind.i64.wrap (x1 + (k + 1)) = x1 + (k + 1) := IntWalk.i64_in _ (by omega)
            have z2 : (x1 + k + 1 != x1 + (k + 1)) = false := by rw [bne_eq_false_iff_eq]; omega
            have z3 : (x1 + k + 1 == x1 + (k + 1)) = true := by rw [beq_iff_eq]; omega
            have z4 : (k + 1).tmod x0 = (k + 1) % x0 := Int.tmod_eq_emod_of_nonneg (by omega)
            have z5 : (1 : Int).tmod x0 = 1 % x0 := Int.tmod_eq_emod_of_nonneg (by omega)
            have z6 : 0 ≤ (k + 1) % x0 := Int.emod_nonneg _ (by omega)
            have z7 : (k + 1) % x0 < x0 := Int.emod_lt_of_pos _ (by omega)
            have z8 : 0 ≤ 1 % x0 := Int.emod_nonneg _ (by omega)
            have z9 : 1 % x0 < x0 := Int.emod_lt_of_pos _ (by omega)
            have y1 : IntKind.i64.wrap ((k + 1) % x0) = (k + 1) % x0 := IntWalk.i64_in _ (by omega)
            have y2 : IntKind.i64.wrap (1 % x0) = 1 % x0 := IntWalk.i64_in _ (by omega)
            have y0 : ¬ x0 = 0 := by omega
            go_quiet ((first | (go_at_call 20; exact quiet_mine (badge_reserved _ _ _ _ _ hC2)) | (go_at_call 19; exact quiet_mine (badge_last _ _ _ _ _ hC2))))
            clear z1 z2 z3 z4 z5 z6 z7 z8 z9 y0 y1 y2 y3 y4
            go_wp2
            go_roundw
            case rel => exact ⟨k + 1, rfl, by omega, by omega, by omega, by rw [HEE.out, ← Int.add_assoc]; exact hC2, (hFw.step hF2 (by simp; omega)).drewN _⟩
            case measure => simp [intOf]; omega
    · have hcase : x2 < k + 1 ∨ 100 < k + 1 ∨ (k + 1 ≤ x2 ∧ k + 1 ≤ 100 ∧ 1099511627776 < x1 + (k + 1)) := by omega
      have hfive : x2 < 0 ∨ x2 = 0 ∨ (0 < x2 ∧ x2 < 100) ∨ x2 = 100 ∨ 100 < x2 := by omega
      clear hlt
      rcases hfive with hx2 | rfl | ⟨hx2, hx3⟩ | rfl | hx2
      all_goals rcases hcase with hc | hc | ⟨hc, hc2, hc3⟩
      all_goals
        first
          | (exfalso; omega)
          | (go_wp2_with fail
             refine (fixed10 _).mono ?_
             rintro e w3 ⟨rfl, hF3⟩
             go_wp2_with fail
             go_ret
             exact ⟨rfl, hFw.trans hF3⟩)

end Go.Proofs.Ytkkahkgjedgjnaa
