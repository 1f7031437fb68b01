/-
  The queue's small functions: in, holder, result, may, New.
-/
import Derived.Test.YthdcpenhfccagaaQRow
namespace Go.Proofs.Ythdcpenhfccagaa
open Go.RowKit
set_option linter.unusedVariables false
set_option linter.unusedSimpArgs false

def inB (n lo hi : Int) : Bool := decide (lo ≤ n) && decide (n ≤ hi)
def most : Int := 1099511627776
def holdB (node life : Int) : Bool := inB node 2 9 && inB life 1 1099511627776
def resB (code bits : Int) : Bool := inB code 0 7 && (code == 0 || bits == 0)
def QR.ka (att : Int) (r : QR) (job : Int) : Bool := r.job == job && inB r.at_ 0 att && inB r.ba 0 1099511627776 && (decide (0 < r.ba) == decide (0 < r.at_))
def QR.kb (r : QR) : Bool := (r.st == 2 || (r.node == 0 && r.life == 0)) && (r.st == 3 || (r.code == 0 && r.bits == 0))
def QR.kc (att : Int) (r : QR) : Bool := if r.st = 1 then decide (r.at_ < att) else if r.st = 2 then decide (0 < r.at_) && holdB r.node r.life else if r.st = 3 then decide (0 < r.at_) && resB r.code r.bits else if r.st = 4 then r.at_ == att else false
/-- May a row be, at its place? -/
def QR.may (att : Int) (r : QR) (job : Int) : Bool := r.ka att job && r.kb && r.kc att

def QR.val (r : QR) : Value := .agg #[.int .i64 r.job, .int .i64 r.st, .int .i64 r.at_, .int .i64 r.ba, .int .i64 r.node, .int .i64 r.life, .int .i64 r.code, .int .u64 r.bits]

theorem in_any (w : World) (n lo hi : Int) : Calls Try.prog 34 #[.int .i64 n, .int .i64 lo, .int .i64 hi] w fun e w' => e = .returned (.bool (inB n lo hi)) ∧ w = w' := by
  unfold inB
  by_cases h : lo ≤ n
  · rw [decide_eq_true h]
    go_enter Try.func34, Try.ntmps34
    go_wp2
    go_ret
    exact ⟨by simp, rfl⟩
  · rw [decide_eq_false h]
    go_enter Try.func34, Try.ntmps34
    go_wp2
    go_ret
    exact ⟨rfl, rfl⟩

theorem holder_any (w : World) (node life : Int) : Calls Try.prog 36 #[.agg #[.int .i64 node, .int .i64 life]] w fun e w' => e = .returned (.bool (holdB node life)) ∧ Fr [] w w' := by
  unfold holdB
  cases h : inB node 2 9
  · go_enter Try.func36, Try.ntmps36
    go_wp2_with fail
    refine (in_any _ _ _ _).mono ?_
    rw [h]
    clear h
    rintro e w1 ⟨rfl, rfl⟩
    go_wp2_with fail
    go_ret
    exact ⟨rfl, (Fr.refl _ _).alloc _⟩
  · go_enter Try.func36, Try.ntmps36
    go_wp2_with fail
    refine (in_any _ _ _ _).mono ?_
    rw [h]
    clear h
    rintro e w1 ⟨rfl, rfl⟩
    go_wp2_with fail
    refine (in_any _ _ _ _).mono ?_
    rintro e w1 ⟨rfl, rfl⟩
    go_wp2_with fail
    go_ret
    exact ⟨by simp, (Fr.refl _ _).alloc _⟩

theorem result_any (w : World) (code bits : Int) : Calls Try.prog 46 #[.agg #[.int .i64 code, .int .u64 bits]] w fun e w' => e = .returned (.bool (resB code bits)) ∧ Fr [] w w' := by
  unfold resB
  cases h : inB code 0 7
  · go_enter Try.func46, Try.ntmps46
    go_wp2_with fail
    refine (in_any _ _ _ _).mono ?_
    rw [h]
    clear h
    rintro e w1 ⟨rfl, rfl⟩
    go_wp2_with fail
    go_ret
    exact ⟨rfl, (Fr.refl _ _).alloc _⟩
  · cases h2 : (code == 0)
    · go_enter Try.func46, Try.ntmps46
      go_wp2_with fail
      refine (in_any _ _ _ _).mono ?_
      rw [h]
      clear h
      rintro e w1 ⟨rfl, rfl⟩
      go_wp2_with fail
      go_ret
      exact ⟨by simp, (Fr.refl _ _).alloc _⟩
    · go_enter Try.func46, Try.ntmps46
      go_wp2_with fail
      refine (in_any _ _ _ _).mono ?_
      rw [h]
      clear h
      rintro e w1 ⟨rfl, rfl⟩
      go_wp2_with fail
      go_ret
      exact ⟨by simp, (Fr.refl _ _).alloc _⟩

theorem queue_new_bad (w : World) (n : Int) (h : n < 1 ∨ 8 < n) :
    Calls Try.prog 11 #[.int .i64 n] w fun e w' => e = .returned (.tuple #[.pointer none, .int .i64 1]) ∧ w = w' := by
  by_cases h1 : n < 1
  · clear h
    go_enter Try.func11, Try.ntmps11
    go_wp2
    go_ret2
    exact ⟨rfl, rfl⟩
  · have h2 : 8 < n := by omega
    clear h
    go_enter Try.func11, Try.ntmps11
    go_wp2
    go_ret2
    exact ⟨rfl, rfl⟩

theorem eq_addr (d : Nat) (a b c e : Int) (w : World) : (Op.equalIn (d + 2) 31 (.agg #[.int .i64 a, .int .i64 b]) (.agg #[.int .i64 c, .int .i64 e])).run Try.prog w = .ok (a == c && b == e) w := by
  have hS : Try.prog.underlying 31 = some (.struct (Try.prog.fieldsOf 31)) := by kernel_rfl
  have hp : Try.prog.stoodInHeld 31 = false := by kernel_rfl
  rw [run_equalIn_agg w (d + 1) 31 _ _ hS hp]
  simp only [Program.fieldsOf, Try.underlying31]
  go_simp
  by_cases h1 : a = c <;> by_cases h2 : b = e <;> simp [h1, h2]

end Go.Proofs.Ythdcpenhfccagaa
