/-
  '==' between addresses, results, rows; may of the package queue.
-/
import Derived.Test.YthdcpenhfccagaaQ1
namespace Go.Proofs.Ythdcpenhfccagaa
open Go.RowKit
set_option linter.unusedVariables false
set_option linter.unusedSimpArgs false

theorem eq_result (d : Nat) (a b c e : Int) (w : World) : (Op.equalIn (d + 2) 35 (.agg #[.int .i64 a, .int .u64 b]) (.agg #[.int .i64 c, .int .u64 e])).run Try.prog w = .ok (a == c && b == e) w := by
  have hS : Try.prog.underlying 35 = some (.struct (Try.prog.fieldsOf 35)) := by kernel_rfl
  have hp : Try.prog.stoodInHeld 35 = false := by kernel_rfl
  rw [run_equalIn_agg w (d + 1) 35 _ _ hS hp]
  simp only [Program.fieldsOf, Try.underlying35]
  go_simp
  by_cases h1 : a = c <;> by_cases h2 : b = e <;> simp [h1, h2]

@[go_sem] theorem eq_addr0 (a b c e : Int) (w : World) : (Op.equalIn 10000 31 (.agg #[.int .i64 a, .int .i64 b]) (.agg #[.int .i64 c, .int .i64 e])).run Try.prog w = .ok (a == c && b == e) w := eq_addr 9998 a b c e w
@[go_sem] theorem eqg_addr (op : BinOp) (x y : Operand) (xs ys : Array Value) (w : World) : (eqGuard op 31 x y (.agg xs) (.agg ys)).run Try.prog w = .ok () w := run_eqGuard_agg w op 31 x y xs ys (by kernel_rfl)
@[go_sem] theorem eq_result0 (a b c e : Int) (w : World) : (Op.equalIn 10000 35 (.agg #[.int .i64 a, .int .u64 b]) (.agg #[.int .i64 c, .int .u64 e])).run Try.prog w = .ok (a == c && b == e) w := eq_result 9998 a b c e w
@[go_sem] theorem eqg_result (op : BinOp) (x y : Operand) (xs ys : Array Value) (w : World) : (eqGuard op 35 x y (.agg xs) (.agg ys)).run Try.prog w = .ok () w := run_eqGuard_agg w op 35 x y xs ys (by kernel_rfl)

instance : BEq QR := ⟨fun a b => a.job == b.job && a.st == b.st && a.at_ == b.at_ && a.ba == b.ba && (a.node == b.node && a.life == b.life) && (a.code == b.code && a.bits == b.bits)⟩
theorem qr_beq (a b : QR) : (a == b) = (a.job == b.job && a.st == b.st && a.at_ == b.at_ && a.ba == b.ba && (a.node == b.node && a.life == b.life) && (a.code == b.code && a.bits == b.bits)) := rfl
theorem qr_eq (a b : QR) : (a == b) = true ↔ a = b := by
  rw [qr_beq, QR.ext_iff]; simp; constructor <;> intro h <;> simp_all

@[go_sem] theorem eq_qrow (a1 a2 a3 a4 a5 a6 a7 a8 b1 b2 b3 b4 b5 b6 b7 b8 : Int) (w : World) : (Op.equalIn 10000 37 (.agg #[.int .i64 a1, .int .i64 a2, .int .i64 a3, .int .i64 a4, .int .i64 a5, .int .i64 a6, .int .i64 a7, .int .u64 a8]) (.agg #[.int .i64 b1, .int .i64 b2, .int .i64 b3, .int .i64 b4, .int .i64 b5, .int .i64 b6, .int .i64 b7, .int .u64 b8])).run Try.prog w = .ok ((⟨a1, a2, a3, a4, a5, a6, a7, a8⟩ : QR) == ⟨b1, b2, b3, b4, b5, b6, b7, b8⟩) w := by
  have hS : Try.prog.underlying 37 = some (.struct (Try.prog.fieldsOf 37)) := by kernel_rfl
  have hp : Try.prog.stoodInHeld 37 = false := by kernel_rfl
  rw [qr_beq, show (10000 : Nat) = 9999 + 1 from rfl, run_equalIn_agg w 9999 37 _ _ hS hp]
  simp only [Program.fieldsOf, Try.underlying37]
  go_simp
  by_cases h1 : a1 = b1
  case neg => simp [h1]
  rw [if_pos h1]
  by_cases h2 : a2 = b2
  case neg => simp [h2]
  rw [if_pos h2]
  by_cases h3 : a3 = b3
  case neg => simp [h3]
  rw [if_pos h3]
  by_cases h4 : a4 = b4
  case neg => simp [h4]
  rw [if_pos h4]
  by_cases h5 : a5 = b5
  case neg => simp [h5]
  rw [if_pos h5]
  by_cases h6 : a6 = b6
  case neg => simp [h6]
  rw [if_pos h6]
  by_cases h7 : a7 = b7
  case neg => simp [h7]
  rw [if_pos h7]
  by_cases h8 : a8 = b8
  case neg => simp [h8]
  rw [if_pos h8]
  simp [h1, h2, h3, h4, h5, h6, h7, h8]
@[go_sem] theorem eqg_qrow (op : BinOp) (x y : Operand) (xs ys : Array Value) (w : World) : (eqGuard op 37 x y (.agg xs) (.agg ys)).run Try.prog w = .ok () w := run_eqGuard_agg w op 37 x y xs ys (by kernel_rfl)

theorem may_false_a {att : Int} {r : QR} {job : Int} (h : r.ka att job = false) : r.may att job = false := by unfold QR.may; rw [h]; rfl

set_option maxHeartbeats 1600000 in
set_option maxRecDepth 100000 in
theorem may_any (w : World) (Q : Nat) (att : Int) (hq : w.cell? ⟨Q, 0, none⟩ = some (.int .i64 att)) (job st at_ ba node life code bits j : Int) :
    Calls Try.prog 40 #[.pointer (some ⟨Q, 0, none⟩), .agg #[.int .i64 job, .int .i64 st, .int .i64 at_, .int .i64 ba, .int .i64 node, .int .i64 life, .int .i64 code, .int .u64 bits], .int .i64 j] w fun e w' => e = .returned (.bool ((⟨job, st, at_, ba, node, life, code, bits⟩ : QR).may att j)) ∧ Fr [] w w' := by
  have hQ : Q < w.heap.size := World.block_lt_of_cell? w ⟨Q, 0, none⟩ hq
  by_cases h1 : job = j
  case neg =>
    have e : (⟨job, st, at_, ba, node, life, code, bits⟩ : QR).may att j = false := may_false_a (by unfold QR.ka; simp [h1])
    rw [e]
    have h2 : (job == j) = false := by rw [beq_eq_false_iff_ne]; exact h1
    have h3 : (job != j) = true := by rw [bne_iff_ne]; exact h1
    clear e h1
    go_enter Try.func40, Try.ntmps40
    go_wp2_with fail
    go_quiet (fail)
    go_wp2_with fail
    go_ret
    exact ⟨rfl, ((Fr.refl _ _).alloc _).drewN _⟩
  subst h1
  cases h2 : inB at_ 0 att
  case false =>
    have e : (⟨job, st, at_, ba, node, life, code, bits⟩ : QR).may att job = false := may_false_a (by unfold QR.ka; simp [h2])
    rw [e]
    have HC := hid (fun w => (in_any w at_ 0 att))
    rw [h2] at HC
    clear e h2
    go_enter Try.func40, Try.ntmps40
    go_wp2_with fail
    go_quiet ((go_at_call 34; exact quiet_mine (HC.out _)))
    go_wp2_with fail
    go_ret
    exact ⟨rfl, ((Fr.refl _ _).alloc _).drewN _⟩
  cases h3 : inB ba 0 1099511627776
  case false =>
    have e : (⟨job, st, at_, ba, node, life, code, bits⟩ : QR).may att job = false := may_false_a (by unfold QR.ka; simp [h3])
    rw [e]
    clear e
    go_enter Try.func40, Try.ntmps40
    go_wp2_with fail
    go_quiet ((go_at_call 34; exact quiet_mine (in_any _ _ _ _)))
    go_wp2_with fail
    go_ret
    exact ⟨rfl, ((Fr.refl _ _).alloc _).drewN _⟩
  cases h4 : (decide (0 < ba) == decide (0 < at_))
  case false =>
    have e : (⟨job, st, at_, ba, node, life, code, bits⟩ : QR).may att job = false := may_false_a (by unfold QR.ka; simp [h4])
    rw [e]
    clear e
    go_enter Try.func40, Try.ntmps40
    go_wp2_with fail
    go_quiet ((go_at_call 34; exact quiet_mine (in_any _ _ _ _)))
    go_wp2_with fail
    go_ret
    exact ⟨rfl, ((Fr.refl _ _).alloc _).drewN _⟩
  have e : (⟨job, st, at_, ba, node, life, code, bits⟩ : QR).may att job = ((⟨job, st, at_, ba, node, life, code, bits⟩ : QR).kb && (⟨job, st, at_, ba, node, life, code, bits⟩ : QR).kc att) := by
    unfold QR.may QR.ka; simp [h2, h3, h4]
  rw [e]
  clear e
  go_enter Try.func40, Try.ntmps40
  go_wp2_with fail
  go_quiet ((go_at_call 34; exact quiet_mine (in_any _ _ _ _)))
  clear h2 h3 h4
  go_wp2_with fail
  all_goals first
    | (have a0 : st = 2 := (by assumption); have a1 : code = 0 := (by assumption); have a2 : bits = 0 := (by assumption); have a3 : 0 < at_ := (by assumption); refine (holder_any _ _ _).mono ?_; rintro e w1 ⟨rfl, hF1⟩; go_wp2_with fail; go_ret; exact ⟨by simp [QR.kb, QR.kc, a0, a1, a2, a3], (((Fr.refl _ _).alloc _).drewN _).trans hF1⟩)
    | (have a0 : st = 2 := (by assumption); have a1 : code = 0 := (by assumption); have a2 : bits = 0 := (by assumption); have a9 : at_ ≤ 0 := (by assumption); have a3 : ¬ 0 < at_ := (by omega); go_ret; exact ⟨by simp [QR.kb, QR.kc, a0, a1, a2, a3], ((Fr.refl _ _).alloc _).drewN _⟩)
    | (have a0 : st = 2 := (by assumption); have a1 : code = 0 := (by assumption); have a2 : ¬bits = 0 := (by assumption); go_ret; exact ⟨by simp [QR.kb, QR.kc, a0, a1, a2], ((Fr.refl _ _).alloc _).drewN _⟩)
    | (have a0 : st = 2 := (by assumption); have a1 : ¬code = 0 := (by assumption); go_ret; exact ⟨by simp [QR.kb, QR.kc, a0, a1], ((Fr.refl _ _).alloc _).drewN _⟩)
    | (have a0 : node = 0 := (by assumption); have a1 : life = 0 := (by assumption); have a2 : st = 3 := (by assumption); have a3 : 0 < at_ := (by assumption); refine (result_any _ _ _).mono ?_; rintro e w1 ⟨rfl, hF1⟩; go_wp2_with fail; go_ret; exact ⟨by simp [QR.kb, QR.kc, a0, a1, a2, a3], (((Fr.refl _ _).alloc _).drewN _).trans hF1⟩)
    | (have a0 : node = 0 := (by assumption); have a1 : life = 0 := (by assumption); have a2 : st = 3 := (by assumption); have a9 : at_ ≤ 0 := (by assumption); have a3 : ¬ 0 < at_ := (by omega); go_ret; exact ⟨by simp [QR.kb, QR.kc, a0, a1, a2, a3], ((Fr.refl _ _).alloc _).drewN _⟩)
    | (have b1 : (st == 1) = true := (by assumption); obtain rfl : st = 1 := (by simpa using b1); have a0 : node = 0 := (by assumption); have a1 : life = 0 := (by assumption); have a2 : code = 0 := (by assumption); have a3 : bits = 0 := (by assumption); go_quiet (fail); go_wp2_with fail; go_ret; exact ⟨by simp [QR.kb, QR.kc, a0, a1, a2, a3], (((Fr.refl _ _).alloc _).drewN _).drewN _⟩)
    | (have b1 : (st == 4) = true := (by assumption); obtain rfl : st = 4 := (by simpa using b1); have a0 : node = 0 := (by assumption); have a1 : life = 0 := (by assumption); have a2 : code = 0 := (by assumption); have a3 : bits = 0 := (by assumption); go_quiet (fail); go_wp2_with fail; go_ret; exact ⟨by simp [QR.kb, QR.kc, a0, a1, a2, a3], (((Fr.refl _ _).alloc _).drewN _).drewN _⟩)
    | (have b1 : (st == 1) = false := (by assumption); have b2 : (st == 4) = false := (by assumption); have b3 : ¬ st = 1 := (by simpa using b1); have b4 : ¬ st = 4 := (by simpa using b2); have b5 : ¬st = 2 := (by assumption); have b6 : ¬st = 3 := (by assumption); go_ret; exact ⟨by simp [QR.kb, QR.kc, b3, b4, b5, b6], ((Fr.refl _ _).alloc _).drewN _⟩)
    | (have a0 : ¬st = 3 := (by assumption); have a1 : code = 0 := (by assumption); have a2 : ¬bits = 0 := (by assumption); go_ret; exact ⟨by simp [QR.kb, QR.kc, a0, a1, a2], ((Fr.refl _ _).alloc _).drewN _⟩)
    | (have a0 : ¬st = 3 := (by assumption); have a1 : ¬code = 0 := (by assumption); go_ret; exact ⟨by simp [QR.kb, QR.kc, a0, a1], ((Fr.refl _ _).alloc _).drewN _⟩)
    | (have a0 : ¬st = 2 := (by assumption); have a1 : node = 0 := (by assumption); have a2 : ¬life = 0 := (by assumption); go_ret; exact ⟨by simp [QR.kb, QR.kc, a0, a1, a2], ((Fr.refl _ _).alloc _).drewN _⟩)
    | (have a0 : ¬st = 2 := (by assumption); have a1 : ¬node = 0 := (by assumption); go_ret; exact ⟨by simp [QR.kb, QR.kc, a0, a1], ((Fr.refl _ _).alloc _).drewN _⟩)

end Go.Proofs.Ythdcpenhfccagaa
