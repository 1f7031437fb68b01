/-
  The document's queue: HolderMay, ResultMay, may.
-/
import Derived.Test.YthdcpenhfccagaaQLoad2
import Derived.Test.YthdcpenhfccagaaGen2
namespace Go.Proofs.Ythdcpenhfccagaa
open Go.RowKit
set_option linter.unusedVariables false
set_option linter.unusedSimpArgs false

theorem holderMay (w : World) (node life : Int) : Calls Try.prog 49 #[.agg #[.int .i64 node, .int .i64 life]] w fun e w' => e = .returned (.bool (holdB node life)) ∧ w.alloc (.cells #[.int .i64 node, .int .i64 life] 31) = w' := by
  by_cases h1 : 2 ≤ node
  by_cases h2 : node ≤ 9
  by_cases h3 : 1 ≤ life
  all_goals
    go_enter Try.func49, Try.ntmps49
    go_wp2
    go_ret
    exact ⟨ret_bool (by rw [Bool.eq_iff_iff]; simp [holdB, inB]; omega), rfl⟩

theorem resultMay (w : World) (code bits : Int) : Calls Try.prog 50 #[.agg #[.int .i64 code, .int .u64 bits]] w fun e w' => e = .returned (.bool (resB code bits)) ∧ w.alloc (.cells #[.int .i64 code, .int .u64 bits] 35) = w' := by
  by_cases h1 : 0 ≤ code
  by_cases h2 : code ≤ 7
  cases h3 : (code == 0)
  all_goals
    try simp only [beq_iff_eq, beq_eq_false_iff_ne] at h3
    go_enter Try.func50, Try.ntmps50
    go_wp2
    go_ret
    exact ⟨ret_bool (by rw [Bool.eq_iff_iff]; simp [resB, inB]; omega), by first | rfl | (subst h3; rfl)⟩

set_option maxHeartbeats 1600000 in
set_option maxRecDepth 100000 in
theorem mayRef (w : World) (att job st at_ ba node life code bits : Int) :
    Calls Try.prog 41 #[.int .i64 att, .agg #[.int .i64 job, .int .i64 st, .int .i64 at_, .int .i64 ba, .int .i64 node, .int .i64 life, .int .i64 code, .int .u64 bits]] w fun e w' => e = .returned (.bool ((⟨job, st, at_, ba, node, life, code, bits⟩ : QR).may att job)) ∧ Fr [] w w' := by
  by_cases hb : 0 ≤ at_ ∧ at_ ≤ att ∧ 0 ≤ ba ∧ ba ≤ 1099511627776 ∧ (ba = 0 ↔ at_ = 0)
  case neg =>
    have e : (⟨job, st, at_, ba, node, life, code, bits⟩ : QR).may att job = false := may_false_a (by
      rw [← Bool.not_eq_true]; simp [QR.ka, inB]; omega)
    rw [e]
    clear e
    by_cases h1 : at_ < 0
    case pos =>
      go_enter Try.func41, Try.ntmps41
      go_wp2
      go_ret
      exact ⟨rfl, (Fr.refl _ _).alloc _⟩
    by_cases h2 : att < at_
    case pos =>
      go_enter Try.func41, Try.ntmps41
      go_wp2
      go_ret
      exact ⟨rfl, (Fr.refl _ _).alloc _⟩
    by_cases h3 : ba < 0
    case pos =>
      go_enter Try.func41, Try.ntmps41
      go_wp2
      go_ret
      exact ⟨rfl, (Fr.refl _ _).alloc _⟩
    by_cases h4 : 1099511627776 < ba
    case pos =>
      go_enter Try.func41, Try.ntmps41
      go_wp2
      go_ret
      exact ⟨rfl, (Fr.refl _ _).alloc _⟩
    have h5 : ¬ (ba = 0 ↔ at_ = 0) := fun h => hb ⟨by omega, by omega, by omega, by omega, h⟩
    clear hb
    have h6 : ba = 0 ∧ (at_ == 0) = false ∨ at_ = 0 ∧ (ba == 0) = false := by
      simp only [beq_eq_false_iff_ne]; omega
    clear h5
    rcases h6 with ⟨rfl, h6⟩ | ⟨rfl, h6⟩
    all_goals
      go_enter Try.func41, Try.ntmps41
      go_wp2
      go_ret
      exact ⟨rfl, (Fr.refl _ _).alloc _⟩
  obtain ⟨b1, b2, b3, b4, b5⟩ := hb
  have e : (⟨job, st, at_, ba, node, life, code, bits⟩ : QR).may att job = ((⟨job, st, at_, ba, node, life, code, bits⟩ : QR).kb && (⟨job, st, at_, ba, node, life, code, bits⟩ : QR).kc att) := by
    have h1 : (⟨job, st, at_, ba, node, life, code, bits⟩ : QR).ka att job = true := by simp [QR.ka, inB]; omega
    unfold QR.may; rw [h1]; simp
  rw [e]
  clear e
  have b6 : (ba == 0) = (at_ == 0) := by rw [Bool.eq_iff_iff]; simpa using b5
  obtain ⟨z, hz⟩ : ∃ z, (at_ == 0) = z := ⟨_, rfl⟩
  rw [hz] at b6
  clear b5
  by_cases h2 : st = 2
  case pos =>
    subst h2
    go_enter Try.func41, Try.ntmps41
    go_wp2_with fail
    all_goals
      refine (holderMay _ _ _).mono ?_
      rintro e w1 ⟨rfl, rfl⟩
      go_wp2_with fail
      all_goals
        go_ret
        exact ⟨ret_bool (by simp_all [QR.kb, QR.kc, holdB, inB] <;> omega), ((Fr.refl _ _).alloc _).alloc _⟩
  by_cases h3 : st = 3
  case pos =>
    subst h3
    go_enter Try.func41, Try.ntmps41
    go_wp2_with fail
    all_goals
      refine (resultMay _ _ _).mono ?_
      rintro e w1 ⟨rfl, rfl⟩
      go_wp2_with fail
      all_goals
        go_ret
        exact ⟨ret_bool (by simp_all [QR.kb, QR.kc, resB, inB] <;> omega), ((Fr.refl _ _).alloc _).alloc _⟩
  by_cases h1 : st = 1
  case pos =>
    subst h1
    go_enter Try.func41, Try.ntmps41
    go_wp2_with fail
    all_goals
      go_ret
      exact ⟨ret_bool (by simp_all [QR.kb, QR.kc]), ((Fr.refl _ _).alloc _)⟩
  by_cases h4 : st = 4
  case pos =>
    subst h4
    go_enter Try.func41, Try.ntmps41
    go_wp2_with fail
    all_goals
      go_ret
      exact ⟨ret_bool (by simp_all [QR.kb, QR.kc]), ((Fr.refl _ _).alloc _)⟩
  have e1 : (st == 1) = false := by rw [beq_eq_false_iff_ne]; exact h1
  have e2 : (st == 2) = false := by rw [beq_eq_false_iff_ne]; exact h2
  have e3 : (st == 3) = false := by rw [beq_eq_false_iff_ne]; exact h3
  have e4 : (st == 4) = false := by rw [beq_eq_false_iff_ne]; exact h4
  go_enter Try.func41, Try.ntmps41
  go_wp2_with fail
  all_goals
    go_ret
    exact ⟨ret_bool (by simp_all [QR.kb, QR.kc]), ((Fr.refl _ _).alloc _)⟩

end Go.Proofs.Ythdcpenhfccagaa
