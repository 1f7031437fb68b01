/-
  Merged, in build order: Q0 QRow InB Q1 Q2 Q3 Q4.
-/
import Derived.Test.YtmgnekjhlfghaaaGreatProg
import Derived.WalkSpells
import Derived.WalkLawsBesides
import Derived.BigRegion
import Derived.BigQuiet
import Derived.Deep.QuietTactic
import Derived.Handy
import Derived.Deep.Cut
import Derived.RegionTactic
import Derived.Deep.RegionLaw
import Derived.Deep.RegionHeld3
import Derived.Test.YtmgnekjhlfghaaaGreatM4
/-
  A queue's rows as plain data.
-/
namespace Go.Proofs.YtmgnekjhlfghaaaGreat
open Go.RowKit
set_option linter.unusedVariables false
set_option linter.unusedSimpArgs false

@[ext] structure QR where
  job : Int
  st : Int
  at_ : Int
  ba : Int
  node : Int
  life : Int
  code : Int
  bits : Int

def QR.zero : QR := ⟨0, 0, 0, 0, 0, 0, 0, 0⟩
def QR.f (r : QR) : List Value := [.int .i64 r.job, .int .i64 r.st, .int .i64 r.at_, .int .i64 r.ba, .int .i64 r.node, .int .i64 r.life, .int .i64 r.code, .int .u64 r.bits]
def qL : Lay QR where
  f := QR.f
  d := .zero
  sz := 8
  len := fun _ => rfl
  pos := by decide
  one := fun a u hu => by simp [QR.f] at hu; rcases hu with rfl | rfl | rfl | rfl | rfl | rfl | rfl | rfl <;> rfl

/-- A queue's state. -/
structure QS where
  att : Int
  rows : List QR

end Go.Proofs.YtmgnekjhlfghaaaGreat

/-
  slices.Clone, Clip, IndexFunc at rows.
-/
namespace Go.Proofs.YtmgnekjhlfghaaaGreat
open Go.RowKit
set_option linter.unusedVariables false
set_option linter.unusedSimpArgs false

theorem info_qrow : (Tryz.prog.info? 51).map (fun i => (i.zero, i.size, i.bytes)) = some (some (.agg #[.int .i64 0, .int .i64 0, .int .i64 0, .int .i64 0, .int .i64 0, .int .i64 0, .int .i64 0, .int .u64 0]), 8, 64) := by kernel_rfl

/-- The cells of an element. -/
theorem qrow_cells {w : World} {b o n cap : Nat} {l : List QR} (h : In w 8 (some ⟨b, o, none⟩) n cap (qL.at_ l)) (k : Nat) (hk : k < n) :
    w.cell? ⟨b, o + k * 8, none⟩ = some (.int .i64 (qL.nth l k).job) ∧ w.cell? ⟨b, o + k * 8 + 1, none⟩ = some (.int .i64 (qL.nth l k).st) ∧ w.cell? ⟨b, o + k * 8 + 2, none⟩ = some (.int .i64 (qL.nth l k).at_) ∧ w.cell? ⟨b, o + k * 8 + 3, none⟩ = some (.int .i64 (qL.nth l k).ba) ∧ w.cell? ⟨b, o + k * 8 + 4, none⟩ = some (.int .i64 (qL.nth l k).node) ∧ w.cell? ⟨b, o + k * 8 + 5, none⟩ = some (.int .i64 (qL.nth l k).life) ∧ w.cell? ⟨b, o + k * 8 + 6, none⟩ = some (.int .i64 (qL.nth l k).code) ∧ w.cell? ⟨b, o + k * 8 + 7, none⟩ = some (.int .u64 (qL.nth l k).bits) := by
  have c0 := h.cell b o rfl (k * 8) (by omega)
  rw [show k * 8 = k * qL.sz + 0 from rfl, qL.at_add _ _ 0 (by decide)] at c0
  have c1 := h.cell b o rfl (k * 8 + 1) (by omega)
  rw [show k * 8 + 1 = k * qL.sz + 1 from rfl, qL.at_add _ _ 1 (by decide)] at c1
  have c2 := h.cell b o rfl (k * 8 + 2) (by omega)
  rw [show k * 8 + 2 = k * qL.sz + 2 from rfl, qL.at_add _ _ 2 (by decide)] at c2
  have c3 := h.cell b o rfl (k * 8 + 3) (by omega)
  rw [show k * 8 + 3 = k * qL.sz + 3 from rfl, qL.at_add _ _ 3 (by decide)] at c3
  have c4 := h.cell b o rfl (k * 8 + 4) (by omega)
  rw [show k * 8 + 4 = k * qL.sz + 4 from rfl, qL.at_add _ _ 4 (by decide)] at c4
  have c5 := h.cell b o rfl (k * 8 + 5) (by omega)
  rw [show k * 8 + 5 = k * qL.sz + 5 from rfl, qL.at_add _ _ 5 (by decide)] at c5
  have c6 := h.cell b o rfl (k * 8 + 6) (by omega)
  rw [show k * 8 + 6 = k * qL.sz + 6 from rfl, qL.at_add _ _ 6 (by decide)] at c6
  have c7 := h.cell b o rfl (k * 8 + 7) (by omega)
  rw [show k * 8 + 7 = k * qL.sz + 7 from rfl, qL.at_add _ _ 7 (by decide)] at c7
  exact And.intro (c0) (And.intro (c1) (And.intro (c2) (And.intro (c3) (And.intro (c4) (And.intro (c5) (And.intro (c6) (c7)))))))

theorem clip_qrow (w : World) (a : Option Addr) (n cap : Nat) (h1 : n ≤ cap) (h2 : cap ≤ 9223372036854775807) (h3 : a = none → cap = 0) :
    Calls Tryz.prog 84 #[.slice a n cap] w fun e w' => e = .returned (.slice a n n) ∧ w = w' := by
  go_enter Tryz.func84, Tryz.ntmps84
  go_wp2
  go_ret
  exact ⟨rfl, rfl⟩

set_option maxHeartbeats 800000 in
set_option maxRecDepth 100000 in
theorem clone_qrow (w : World) (a : Option Addr) (cap : Nat) (l : List QR) (h : In w 8 a l.length cap (qL.at_ l)) (h0 : a = none → cap = 0) (hn : l.length * 64 ≤ 140737488355328) :
    Calls Tryz.prog 85 #[.slice a l.length cap] w fun e w' => ∃ a' c', e = .returned (.slice a' l.length c') ∧ Fr [] w w' ∧ w'.ownsRow 0 51 8 (.slice a' l.length c') l.length (qL.cells l) ∧ (∀ x, x ∈ (Value.slice a' l.length c').ownBlock.toList → w.heap.size ≤ x) ∧ (a' = none → c' = 0) := by
  rcases a with _ | ⟨b, off, sp⟩
  · have hn0 : l = [] := by
      rcases Nat.eq_zero_or_pos l.length with h1 | h1
      · exact List.length_eq_zero_iff.1 h1
      · obtain ⟨b, o, e⟩ := h.sm h1; cases e
    subst hn0
    obtain rfl := h0 rfl
    have heq := fun w1 => Lib.run_eql_slice_nil (P := Tryz.prog) w1 37 51 none 0 0 0 0 Tryz.underlying37
    clear h
    go_enter Tryz.func85, Tryz.ntmps85
    go_wp2
    go_ret
    exact ⟨none, 0, rfl, Fr.refl _ _, World.ownsRow_nil _ _ _ _, by simp [Value.ownBlock], fun _ => rfl⟩
  · obtain ⟨i0, hi, hz0, hz1, hz2⟩ := info_parts info_qrow
    have HI := hid (And.intro hi (And.intro hz0 (And.intro hz1 hz2)))
    have H := hid h
    have hlm := h.max
    clear hi hz0 hz1 hz2 h
    have heq := fun w1 => Lib.run_eql_slice_nil (P := Tryz.prog) w1 37 51 (some ⟨b, off, sp⟩) l.length cap 0 0 Tryz.underlying37
    go_enter Tryz.func85, Tryz.ntmps85
    go_wp2_with (at_builtin; refine wpList_copied rfl (.tmp 5) (.tmp 6) 37 rfl 51 i0 (.agg #[.int .i64 0, .int .i64 0, .int .i64 0, .int .i64 0, .int .i64 0, .int .i64 0, .int .i64 0, .int .u64 0]) 8 64 Tryz.underlying37 HI.out.1 HI.out.2.1 HI.out.2.2.1 HI.out.2.2.2 rfl (by decide) w.heap.size rfl (blk_alloc_at _ _ _ rfl) (some ⟨b, off, sp⟩) l.length cap (qL.at_ l) rfl ?qa (fun j _ => qL.at_one _ j) (by omega) ?_)
    case qa => exact H.out.fr0 ((Fr.refl [] w).alloc _)
    intro g cg w1 ho hF1 hg
    have hr : (List.range (l.length * 8)).map (qL.at_ l) = qL.cells l := qL.range l
    rw [hr] at ho
    have hF : Fr [] w w1 := ((Fr.refl [] w).alloc (.cells #[] 51)).step hF1 (by intro x hx; simp at hx; subst hx; exact .inr (Nat.le_refl _))
    have hg' : w.heap.size ≤ g := by rcases hg with h | h <;> first | omega | (simp at h; omega)
    have HZ := hid (And.intro ho (And.intro hF hg'))
    clear ho hF hF1 hg hg'
    go_wp2_with fail
    go_ret
    exact ⟨some ⟨g, 0, none⟩, cg, rfl, HZ.out.2.1, HZ.out.1, by simpa [Value.ownBlock] using HZ.out.2.2, fun h => by cases h⟩

set_option maxHeartbeats 800000 in
set_option maxRecDepth 100000 in
theorem index_qrow (w : World) (b : Option Addr) (cb n : Nat) (l : List QR) (hln : l.length = n) (hb : In w 8 b n cb (qL.at_ l)) (fid : Nat) (cap : Array Value) (p : Nat → Bool) (he : ∀ args wx, (callFunc fid args).run Tryz.prog wx = .ok (.enter fid args) wx)
    (hf : ∀ k wx, k < n → Fr [] w wx → Calls Tryz.prog fid (#[.agg #[.int .i64 (qL.nth l k).job, .int .i64 (qL.nth l k).st, .int .i64 (qL.nth l k).at_, .int .i64 (qL.nth l k).ba, .int .i64 (qL.nth l k).node, .int .i64 (qL.nth l k).life, .int .i64 (qL.nth l k).code, .int .u64 (qL.nth l k).bits]] ++ cap) wx fun e w' => e = .returned (.bool (p k)) ∧ Fr [] wx w') :
    Calls Tryz.prog 130 #[.slice b n cb, .func (.func fid) #[] cap] w fun e w' => ∃ z : Int, e = .returned (.int .i64 z) ∧ Fr [] w w' ∧ ((∃ k, k < n ∧ p k = true ∧ (∀ j, j < k → p j = false) ∧ z = k) ∨ (∀ k, k < n → p k = false) ∧ z = -1) := by
  have hmb := hb.max
  have HB := hid hb
  have HF := hid hf
  have HE := hid he
  clear hb hf he
  go_enter Tryz.func130, Tryz.ntmps130
  go_wp2_with fail
  go_loopw [8] (fun i wr => ∃ k : Nat, k ≤ n ∧ i = .int .i64 k ∧ (∀ j, j < k → p j = false) ∧ Fr [] w wr) (fun i _ => n - (intOf i).toNat)
  case atStart => exact ⟨0, Nat.zero_le _, rfl, fun j hj => absurd hj (Nat.not_lt_zero _), Fr.refl _ _⟩
  case round =>
    obtain ⟨k, hk, rfl, hall, hF⟩ := hrel
    have HAll := hid (And.intro hall hF)
    clear hall hF
    by_cases hlt : k < n
    · obtain ⟨bb, ob, rfl⟩ := HB.out.sm (by omega)
      obtain ⟨c0, c1, c2, c3, c4, c5, c6, c7⟩ := qrow_cells (HB.out.fr0 HAll.out.2) k hlt
      have HC := hid (HF.out k wr hlt HAll.out.2)
      generalize hx : qL.nth l k = x at c0 c1 c2 c3 c4 c5 c6 c7 HC
      clear hx
      cases hp : p k
      · rw [hp] at HC
        have HPk := hid hp
        clear hp
        go_wp2_with fail
        rw [HE.out, Oper.upon_enter]
        refine HC.out.mono ?_
        rintro e w1 ⟨rfl, hF1⟩
        have HF1 := hid hF1
        clear hF1
        go_wp2_with fail
        go_roundw
        case rel => exact ⟨k + 1, by omega, by go_num, fun j hj => by by_cases hjk : j = k; (subst hjk; exact HPk.out); exact HAll.out.1 j (by omega), HAll.out.2.trans HF1.out⟩
        case measure => simp [intOf]; omega
      · rw [hp] at HC
        have HPk := hid hp
        clear hp
        go_wp2_with fail
        rw [HE.out, Oper.upon_enter]
        refine HC.out.mono ?_
        rintro e w1 ⟨rfl, hF1⟩
        have HF1 := hid hF1
        clear hF1
        go_wp2_with fail
        go_ret
        exact ⟨_, rfl, HAll.out.2.trans HF1.out, .inl ⟨k, hlt, HPk.out, HAll.out.1, rfl⟩⟩
    · obtain rfl : k = n := by omega
      go_wp2_with fail
      go_ret
      exact ⟨_, rfl, HAll.out.2, .inr ⟨HAll.out.1, rfl⟩⟩

end Go.Proofs.YtmgnekjhlfghaaaGreat

/-
  In bounds, as a Bool. Of no program.
-/
namespace Go.Proofs.YtmgnekjhlfghaaaGreat
def inB (n lo hi : Int) : Bool := decide (lo ≤ n) && decide (n ≤ hi)
end Go.Proofs.YtmgnekjhlfghaaaGreat

/-
  The queue's small functions: in, holder, result, may, New.
-/
namespace Go.Proofs.YtmgnekjhlfghaaaGreat
open Go.RowKit
set_option linter.unusedVariables false
set_option linter.unusedSimpArgs false

def most : Int := 1099511627776
def holdB (node life : Int) : Bool := inB node 2 9 && inB life 1 1099511627776
def resB (code bits : Int) : Bool := inB code 0 7 && (code == 0 || bits == 0)
def QR.ka (att : Int) (r : QR) (job : Int) : Bool := r.job == job && inB r.at_ 0 att && inB r.ba 0 1099511627776 && (decide (0 < r.ba) == decide (0 < r.at_))
def QR.kb (r : QR) : Bool := (r.st == 2 || (r.node == 0 && r.life == 0)) && (r.st == 3 || (r.code == 0 && r.bits == 0))
def QR.kc (att : Int) (r : QR) : Bool := if r.st = 1 then decide (r.at_ < att) else if r.st = 2 then decide (0 < r.at_) && holdB r.node r.life else if r.st = 3 then decide (0 < r.at_) && resB r.code r.bits else if r.st = 4 then r.at_ == att else false
/-- May a row be, at its place? -/
def QR.may (att : Int) (r : QR) (job : Int) : Bool := r.ka att job && r.kb && r.kc att

def QR.val (r : QR) : Value := .agg #[.int .i64 r.job, .int .i64 r.st, .int .i64 r.at_, .int .i64 r.ba, .int .i64 r.node, .int .i64 r.life, .int .i64 r.code, .int .u64 r.bits]

theorem in_any (w : World) (n lo hi : Int) : Calls Tryz.prog 131 #[.int .i64 n, .int .i64 lo, .int .i64 hi] w fun e w' => e = .returned (.bool (inB n lo hi)) ∧ w = w' := by
  unfold inB
  by_cases h : lo ≤ n
  · rw [decide_eq_true h]
    go_enter Tryz.func131, Tryz.ntmps131
    go_wp2
    go_ret
    exact ⟨by simp, rfl⟩
  · rw [decide_eq_false h]
    go_enter Tryz.func131, Tryz.ntmps131
    go_wp2
    go_ret
    exact ⟨rfl, rfl⟩

theorem holder_any (w : World) (node life : Int) : Calls Tryz.prog 140 #[.agg #[.int .i64 node, .int .i64 life]] w fun e w' => e = .returned (.bool (holdB node life)) ∧ Fr [] w w' := by
  unfold holdB
  cases h : inB node 2 9
  · go_enter Tryz.func140, Tryz.ntmps140
    go_wp2_with fail
    refine (in_any _ _ _ _).mono ?_
    rw [h]
    clear h
    rintro e w1 ⟨rfl, rfl⟩
    go_wp2_with fail
    go_ret
    exact ⟨rfl, (Fr.refl _ _).alloc _⟩
  · go_enter Tryz.func140, Tryz.ntmps140
    go_wp2_with fail
    refine (in_any _ _ _ _).mono ?_
    rw [h]
    clear h
    rintro e w1 ⟨rfl, rfl⟩
    go_wp2_with fail
    refine (in_any _ _ _ _).mono ?_
    rintro e w1 ⟨rfl, rfl⟩
    go_wp2_with fail
    go_ret
    exact ⟨by simp, (Fr.refl _ _).alloc _⟩

theorem result_any (w : World) (code bits : Int) : Calls Tryz.prog 141 #[.agg #[.int .i64 code, .int .u64 bits]] w fun e w' => e = .returned (.bool (resB code bits)) ∧ Fr [] w w' := by
  unfold resB
  cases h : inB code 0 7
  · go_enter Tryz.func141, Tryz.ntmps141
    go_wp2_with fail
    refine (in_any _ _ _ _).mono ?_
    rw [h]
    clear h
    rintro e w1 ⟨rfl, rfl⟩
    go_wp2_with fail
    go_ret
    exact ⟨rfl, (Fr.refl _ _).alloc _⟩
  · cases h2 : (code == 0)
    · go_enter Tryz.func141, Tryz.ntmps141
      go_wp2_with fail
      refine (in_any _ _ _ _).mono ?_
      rw [h]
      clear h
      rintro e w1 ⟨rfl, rfl⟩
      go_wp2_with fail
      go_ret
      exact ⟨by simp, (Fr.refl _ _).alloc _⟩
    · go_enter Tryz.func141, Tryz.ntmps141
      go_wp2_with fail
      refine (in_any _ _ _ _).mono ?_
      rw [h]
      clear h
      rintro e w1 ⟨rfl, rfl⟩
      go_wp2_with fail
      go_ret
      exact ⟨by simp, (Fr.refl _ _).alloc _⟩

theorem queue_new_bad (w : World) (n : Int) (h : n < 1 ∨ 8 < n) :
    Calls Tryz.prog 23 #[.int .i64 n] w fun e w' => e = .returned (.tuple #[.pointer none, .int .i64 1]) ∧ w = w' := by
  by_cases h1 : n < 1
  · clear h
    go_enter Tryz.func23, Tryz.ntmps23
    go_wp2
    go_ret2
    exact ⟨rfl, rfl⟩
  · have h2 : 8 < n := by omega
    clear h
    go_enter Tryz.func23, Tryz.ntmps23
    go_wp2
    go_ret2
    exact ⟨rfl, rfl⟩

theorem eq_addr (d : Nat) (a b c e : Int) (w : World) : (Op.equalIn (d + 2) 46 (.agg #[.int .i64 a, .int .i64 b]) (.agg #[.int .i64 c, .int .i64 e])).run Tryz.prog w = .ok (a == c && b == e) w := by
  have hS : Tryz.prog.underlying 46 = some (.struct (Tryz.prog.fieldsOf 46)) := by kernel_rfl
  have hp : Tryz.prog.stoodInHeld 46 = false := by kernel_rfl
  rw [run_equalIn_agg w (d + 1) 46 _ _ hS hp]
  simp only [Program.fieldsOf, Tryz.underlying46]
  go_simp
  by_cases h1 : a = c <;> by_cases h2 : b = e <;> simp [h1, h2]

end Go.Proofs.YtmgnekjhlfghaaaGreat

/-
  '==' between addresses, results, rows; may of the package queue.
-/
namespace Go.Proofs.YtmgnekjhlfghaaaGreat
open Go.RowKit
set_option linter.unusedVariables false
set_option linter.unusedSimpArgs false

theorem eq_result (d : Nat) (a b c e : Int) (w : World) : (Op.equalIn (d + 2) 49 (.agg #[.int .i64 a, .int .u64 b]) (.agg #[.int .i64 c, .int .u64 e])).run Tryz.prog w = .ok (a == c && b == e) w := by
  have hS : Tryz.prog.underlying 49 = some (.struct (Tryz.prog.fieldsOf 49)) := by kernel_rfl
  have hp : Tryz.prog.stoodInHeld 49 = false := by kernel_rfl
  rw [run_equalIn_agg w (d + 1) 49 _ _ hS hp]
  simp only [Program.fieldsOf, Tryz.underlying49]
  go_simp
  by_cases h1 : a = c <;> by_cases h2 : b = e <;> simp [h1, h2]

@[go_sem] theorem eq_addr0 (a b c e : Int) (w : World) : (Op.equalIn 10000 46 (.agg #[.int .i64 a, .int .i64 b]) (.agg #[.int .i64 c, .int .i64 e])).run Tryz.prog w = .ok (a == c && b == e) w := eq_addr 9998 a b c e w
@[go_sem] theorem eqg_addr (op : BinOp) (x y : Operand) (xs ys : Array Value) (w : World) : (eqGuard op 46 x y (.agg xs) (.agg ys)).run Tryz.prog w = .ok () w := run_eqGuard_agg w op 46 x y xs ys (by kernel_rfl)
@[go_sem] theorem eq_result0 (a b c e : Int) (w : World) : (Op.equalIn 10000 49 (.agg #[.int .i64 a, .int .u64 b]) (.agg #[.int .i64 c, .int .u64 e])).run Tryz.prog w = .ok (a == c && b == e) w := eq_result 9998 a b c e w
@[go_sem] theorem eqg_result (op : BinOp) (x y : Operand) (xs ys : Array Value) (w : World) : (eqGuard op 49 x y (.agg xs) (.agg ys)).run Tryz.prog w = .ok () w := run_eqGuard_agg w op 49 x y xs ys (by kernel_rfl)

instance : BEq QR := ⟨fun a b => a.job == b.job && a.st == b.st && a.at_ == b.at_ && a.ba == b.ba && (a.node == b.node && a.life == b.life) && (a.code == b.code && a.bits == b.bits)⟩
theorem qr_beq (a b : QR) : (a == b) = (a.job == b.job && a.st == b.st && a.at_ == b.at_ && a.ba == b.ba && (a.node == b.node && a.life == b.life) && (a.code == b.code && a.bits == b.bits)) := rfl
theorem qr_eq (a b : QR) : (a == b) = true ↔ a = b := by
  rw [qr_beq, QR.ext_iff]; simp; constructor <;> intro h <;> simp_all

@[go_sem] theorem eq_qrow (a1 a2 a3 a4 a5 a6 a7 a8 b1 b2 b3 b4 b5 b6 b7 b8 : Int) (w : World) : (Op.equalIn 10000 51 (.agg #[.int .i64 a1, .int .i64 a2, .int .i64 a3, .int .i64 a4, .int .i64 a5, .int .i64 a6, .int .i64 a7, .int .u64 a8]) (.agg #[.int .i64 b1, .int .i64 b2, .int .i64 b3, .int .i64 b4, .int .i64 b5, .int .i64 b6, .int .i64 b7, .int .u64 b8])).run Tryz.prog w = .ok ((⟨a1, a2, a3, a4, a5, a6, a7, a8⟩ : QR) == ⟨b1, b2, b3, b4, b5, b6, b7, b8⟩) w := by
  have hS : Tryz.prog.underlying 51 = some (.struct (Tryz.prog.fieldsOf 51)) := by kernel_rfl
  have hp : Tryz.prog.stoodInHeld 51 = false := by kernel_rfl
  rw [qr_beq, show (10000 : Nat) = 9999 + 1 from rfl, run_equalIn_agg w 9999 51 _ _ hS hp]
  simp only [Program.fieldsOf, Tryz.underlying51]
  go_simp
  by_cases h1 : a1 = b1
  case neg => simp [h1]
  rw [if_pos h1]
  by_cases h2 : a2 = b2
  case neg => simp [h2]
  rw [if_pos h2]
  by_cases h3 : a3 = b3
  case neg => simp [h3]
  rw [if_pos h3]
  by_cases h4 : a4 = b4
  case neg => simp [h4]
  rw [if_pos h4]
  by_cases h5 : a5 = b5
  case neg => simp [h5]
  rw [if_pos h5]
  by_cases h6 : a6 = b6
  case neg => simp [h6]
  rw [if_pos h6]
  by_cases h7 : a7 = b7
  case neg => simp [h7]
  rw [if_pos h7]
  by_cases h8 : a8 = b8
  case neg => simp [h8]
  rw [if_pos h8]
  simp [h1, h2, h3, h4, h5, h6, h7, h8]
@[go_sem] theorem eqg_qrow (op : BinOp) (x y : Operand) (xs ys : Array Value) (w : World) : (eqGuard op 51 x y (.agg xs) (.agg ys)).run Tryz.prog w = .ok () w := run_eqGuard_agg w op 51 x y xs ys (by kernel_rfl)

theorem may_false_a {att : Int} {r : QR} {job : Int} (h : r.ka att job = false) : r.may att job = false := by unfold QR.may; rw [h]; rfl

set_option maxHeartbeats 1600000 in
set_option maxRecDepth 100000 in
theorem may_any (w : World) (Q : Nat) (att : Int) (hq : w.cell? ⟨Q, 0, none⟩ = some (.int .i64 att)) (job st at_ ba node life code bits j : Int) :
    Calls Tryz.prog 110 #[.pointer (some ⟨Q, 0, none⟩), .agg #[.int .i64 job, .int .i64 st, .int .i64 at_, .int .i64 ba, .int .i64 node, .int .i64 life, .int .i64 code, .int .u64 bits], .int .i64 j] w fun e w' => e = .returned (.bool ((⟨job, st, at_, ba, node, life, code, bits⟩ : QR).may att j)) ∧ Fr [] w w' := by
  have hQ : Q < w.heap.size := World.block_lt_of_cell? w ⟨Q, 0, none⟩ hq
  by_cases h1 : job = j
  case neg =>
    have e : (⟨job, st, at_, ba, node, life, code, bits⟩ : QR).may att j = false := may_false_a (by unfold QR.ka; simp [h1])
    rw [e]
    have h2 : (job == j) = false := by rw [beq_eq_false_iff_ne]; exact h1
    have h3 : (job != j) = true := by rw [bne_iff_ne]; exact h1
    clear e h1
    go_enter Tryz.func110, Tryz.ntmps110
    go_wp2_with fail
    go_quiet (fail)
    go_wp2_with fail
    go_ret
    exact ⟨rfl, ((Fr.refl _ _).alloc _).drewN _⟩
  subst h1
  cases h2 : inB at_ 0 att
  case false =>
    have e : (⟨job, st, at_, ba, node, life, code, bits⟩ : QR).may att job = false := may_false_a (by unfold QR.ka; simp [h2])
    rw [e]
    have HC := hid (fun w => (in_any w at_ 0 att))
    rw [h2] at HC
    clear e h2
    go_enter Tryz.func110, Tryz.ntmps110
    go_wp2_with fail
    go_quiet ((go_at_call 131; exact quiet_mine (HC.out _)))
    go_wp2_with fail
    go_ret
    exact ⟨rfl, ((Fr.refl _ _).alloc _).drewN _⟩
  cases h3 : inB ba 0 1099511627776
  case false =>
    have e : (⟨job, st, at_, ba, node, life, code, bits⟩ : QR).may att job = false := may_false_a (by unfold QR.ka; simp [h3])
    rw [e]
    clear e
    go_enter Tryz.func110, Tryz.ntmps110
    go_wp2_with fail
    go_quiet ((go_at_call 131; exact quiet_mine (in_any _ _ _ _)))
    go_wp2_with fail
    go_ret
    exact ⟨rfl, ((Fr.refl _ _).alloc _).drewN _⟩
  cases h4 : (decide (0 < ba) == decide (0 < at_))
  case false =>
    have e : (⟨job, st, at_, ba, node, life, code, bits⟩ : QR).may att job = false := may_false_a (by unfold QR.ka; simp [h4])
    rw [e]
    clear e
    go_enter Tryz.func110, Tryz.ntmps110
    go_wp2_with fail
    go_quiet ((go_at_call 131; exact quiet_mine (in_any _ _ _ _)))
    go_wp2_with fail
    go_ret
    exact ⟨rfl, ((Fr.refl _ _).alloc _).drewN _⟩
  have e : (⟨job, st, at_, ba, node, life, code, bits⟩ : QR).may att job = ((⟨job, st, at_, ba, node, life, code, bits⟩ : QR).kb && (⟨job, st, at_, ba, node, life, code, bits⟩ : QR).kc att) := by
    unfold QR.may QR.ka; simp [h2, h3, h4]
  rw [e]
  clear e
  go_enter Tryz.func110, Tryz.ntmps110
  go_wp2_with fail
  go_quiet ((go_at_call 131; exact quiet_mine (in_any _ _ _ _)))
  clear h2 h3 h4
  go_wp2_with fail
  all_goals first
    | (have a0 : st = 2 := (by assumption); have a1 : code = 0 := (by assumption); have a2 : bits = 0 := (by assumption); have a3 : 0 < at_ := (by assumption); refine (holder_any _ _ _).mono ?_; rintro e w1 ⟨rfl, hF1⟩; go_wp2_with fail; go_ret; exact ⟨by simp [QR.kb, QR.kc, a0, a1, a2, a3], (((Fr.refl _ _).alloc _).drewN _).trans hF1⟩)
    | (have a0 : st = 2 := (by assumption); have a1 : code = 0 := (by assumption); have a2 : bits = 0 := (by assumption); have a9 : at_ ≤ 0 := (by assumption); have a3 : ¬ 0 < at_ := (by omega); go_ret; exact ⟨by simp [QR.kb, QR.kc, a0, a1, a2, a3], ((Fr.refl _ _).alloc _).drewN _⟩)
    | (have a0 : st = 2 := (by assumption); have a1 : code = 0 := (by assumption); have a2 : ¬bits = 0 := (by assumption); go_ret; exact ⟨by simp [QR.kb, QR.kc, a0, a1, a2], ((Fr.refl _ _).alloc _).drewN _⟩)
    | (have a0 : st = 2 := (by assumption); have a1 : ¬code = 0 := (by assumption); go_ret; exact ⟨by simp [QR.kb, QR.kc, a0, a1], ((Fr.refl _ _).alloc _).drewN _⟩)
    | (have a0 : node = 0 := (by assumption); have a1 : life = 0 := (by assumption); have a2 : st = 3 := (by assumption); have a3 : 0 < at_ := (by assumption); refine (result_any _ _ _).mono ?_; rintro e w1 ⟨rfl, hF1⟩; go_wp2_with fail; go_ret; exact ⟨by simp [QR.kb, QR.kc, a0, a1, a2, a3], (((Fr.refl _ _).alloc _).drewN _).trans hF1⟩)
    | (have a0 : node = 0 := (by assumption); have a1 : life = 0 := (by assumption); have a2 : st = 3 := (by assumption); have a9 : at_ ≤ 0 := (by assumption); have a3 : ¬ 0 < at_ := (by omega); go_ret; exact ⟨by simp [QR.kb, QR.kc, a0, a1, a2, a3], ((Fr.refl _ _).alloc _).drewN _⟩)
    | (have b1 : (st == 1) = true := (by assumption); obtain rfl : st = 1 := (by simpa using b1); have a0 : node = 0 := (by assumption); have a1 : life = 0 := (by assumption); have a2 : code = 0 := (by assumption); have a3 : bits = 0 := (by assumption); go_quiet (fail); go_wp2_with fail; go_ret; exact ⟨by simp [QR.kb, QR.kc, a0, a1, a2, a3], (((Fr.refl _ _).alloc _).drewN _).drewN _⟩)
    | (have b1 : (st == 4) = true := (by assumption); obtain rfl : st = 4 := (by simpa using b1); have a0 : node = 0 := (by assumption); have a1 : life = 0 := (by assumption); have a2 : code = 0 := (by assumption); have a3 : bits = 0 := (by assumption); go_quiet (fail); go_wp2_with fail; go_ret; exact ⟨by simp [QR.kb, QR.kc, a0, a1, a2, a3], (((Fr.refl _ _).alloc _).drewN _).drewN _⟩)
    | (have b1 : (st == 1) = false := (by assumption); have b2 : (st == 4) = false := (by assumption); have b3 : ¬ st = 1 := (by simpa using b1); have b4 : ¬ st = 4 := (by simpa using b2); have b5 : ¬st = 2 := (by assumption); have b6 : ¬st = 3 := (by assumption); go_ret; exact ⟨by simp [QR.kb, QR.kc, b3, b4, b5, b6], ((Fr.refl _ _).alloc _).drewN _⟩)
    | (have a0 : ¬st = 3 := (by assumption); have a1 : code = 0 := (by assumption); have a2 : ¬bits = 0 := (by assumption); go_ret; exact ⟨by simp [QR.kb, QR.kc, a0, a1, a2], ((Fr.refl _ _).alloc _).drewN _⟩)
    | (have a0 : ¬st = 3 := (by assumption); have a1 : ¬code = 0 := (by assumption); go_ret; exact ⟨by simp [QR.kb, QR.kc, a0, a1], ((Fr.refl _ _).alloc _).drewN _⟩)
    | (have a0 : ¬st = 2 := (by assumption); have a1 : node = 0 := (by assumption); have a2 : ¬life = 0 := (by assumption); go_ret; exact ⟨by simp [QR.kb, QR.kc, a0, a1, a2], ((Fr.refl _ _).alloc _).drewN _⟩)
    | (have a0 : ¬st = 2 := (by assumption); have a1 : ¬node = 0 := (by assumption); go_ret; exact ⟨by simp [QR.kb, QR.kc, a0, a1], ((Fr.refl _ _).alloc _).drewN _⟩)

end Go.Proofs.YtmgnekjhlfghaaaGreat

/-
  A queue in memory; first, Head, held, Row, Find, Rows, Open, Clone, Submit.
-/
namespace Go.Proofs.YtmgnekjhlfghaaaGreat
open Go.RowKit
set_option linter.unusedVariables false
set_option linter.unusedSimpArgs false

/-- The first place of one that is as asked; -1: none is. -/
def fIdx (p : QR → Bool) : List QR → Int
  | [] => -1
  | x :: r => if p x = true then 0 else if fIdx p r < 0 then -1 else fIdx p r + 1

theorem fIdx_none {p : QR → Bool} {l : List QR} (h : ∀ k, k < l.length → p (qL.nth l k) = false) : fIdx p l = -1 := by
  induction l with
  | nil => rfl
  | cons x r ih =>
    have h0 := h 0 (by simp)
    have h0' : p x = false := h0
    have hr : fIdx p r = -1 := ih fun k hk => h (k + 1) (by simpa using hk)
    unfold fIdx
    rw [if_neg (by rw [h0']; simp), if_pos (by rw [hr]; decide)]
theorem fIdx_some {p : QR → Bool} {l : List QR} {k : Nat} (hk : k < l.length) (h : p (qL.nth l k) = true) (ha : ∀ j, j < k → p (qL.nth l j) = false) : fIdx p l = k := by
  induction l generalizing k with
  | nil => simp at hk
  | cons x r ih =>
    match k with
    | 0 =>
      have h' : p x = true := h
      unfold fIdx; rw [if_pos h']; rfl
    | k + 1 =>
      have h0 : p x = false := ha 0 (by omega)
      have hr := ih (k := k) (by simpa using hk) h (fun j hj => ha (j + 1) (by omega))
      unfold fIdx
      rw [if_neg (by rw [h0]; simp), hr, if_neg (by omega)]; rfl
theorem fIdx_cases (p : QR → Bool) (l : List QR) : (∃ k, k < l.length ∧ p (qL.nth l k) = true ∧ (∀ j, j < k → p (qL.nth l j) = false) ∧ fIdx p l = k) ∨ (∀ k, k < l.length → p (qL.nth l k) = false) ∧ fIdx p l = -1 := by
  by_cases h : ∃ k, k < l.length ∧ p (qL.nth l k) = true
  · have hmin : ∃ k, (k < l.length ∧ p (qL.nth l k) = true) ∧ ∀ j, j < k → ¬ (j < l.length ∧ p (qL.nth l j) = true) := by
      obtain ⟨k, hk⟩ := h
      induction k using Nat.strongRecOn with
      | _ k ih =>
        by_cases hj : ∃ j, j < k ∧ (j < l.length ∧ p (qL.nth l j) = true)
        · obtain ⟨j, h1, h2⟩ := hj; exact ih j h1 h2
        · exact ⟨k, hk, fun j h1 h2 => hj ⟨j, h1, h2⟩⟩
    obtain ⟨k, ⟨h1, h2⟩, h3⟩ := hmin
    have h4 : ∀ j, j < k → p (qL.nth l j) = false := fun j hj => by
      cases hp : p (qL.nth l j)
      · rfl
      · exact absurd ⟨by omega, hp⟩ (h3 j hj)
    exact .inl ⟨k, h1, h2, h4, fIdx_some h1 h2 h4⟩
  · have h1 : ∀ k, k < l.length → p (qL.nth l k) = false := fun k hk => by
      cases hp : p (qL.nth l k)
      · rfl
      · exact absurd ⟨k, hk, hp⟩ h
    exact .inr ⟨h1, fIdx_none h1⟩
theorem fIdx_bd (p : QR → Bool) (l : List QR) : -1 ≤ fIdx p l ∧ fIdx p l < l.length := by
  rcases fIdx_cases p l with ⟨k, h1, _, _, h⟩ | ⟨_, h⟩ <;> omega

/-! ### In memory -/
def Qk1 (Q : Nat) (q : QS) : Thing1 := fun w F => ∃ rv, F = Q :: rv.ownBlock.toList ∧ w.heap[Q]? = some (.cells #[.int .i64 q.att, rv] 127 (0, 0)) ∧ w.ownsRow 0 51 8 rv q.rows.length (qL.cells q.rows)
def QkT (Q : Nat) (q : QS) : Thing := own (Qk1 Q q)
instance (Q : Nat) (q : QS) : Loc1 (Qk1 Q q) where
  keep := fun ⟨rv, h1, h2, h3⟩ hF hd => ⟨rv, h1, hF.keep h2 (hd _ (by simp [h1])), ownsRow_keep h3 hF (fun g hg => hd g (by rw [h1]; exact List.mem_cons_of_mem _ hg))⟩
  lt := fun ⟨rv, h1, h2, h3⟩ x hx => by
    subst h1
    simp only [List.mem_cons] at hx
    rcases hx with rfl | hx
    · exact lt_of_block h2
    · exact ownsRow_lt h3 x hx

theorem own_slice {w : World} {rv : Value} {l : List QR} (h : w.ownsRow 0 51 8 rv l.length (qL.cells l)) : ∃ a c, rv = .slice a l.length c ∧ In w 8 a l.length c (qL.at_ l) ∧ (a = none → c = 0) ∧ (∀ b off, a = some ⟨b, off, none⟩ → b ∈ rv.ownBlock.toList ∧ off = 0) := by
  rcases ownsRow_one h with ⟨rfl, h0, h1⟩ | ⟨g, cap, rfl, _, _⟩
  · rw [h0]
    exact ⟨none, 0, rfl, ⟨Nat.le_refl _, by decide, fun h => absurd h (Nat.lt_irrefl _), fun b off e => by cases e⟩, fun _ => rfl, fun b off e => by cases e⟩
  · exact ⟨_, _, rfl, ownsRow_in h _ (fun j hj => qL.get l j hj), (fun h => by cases h), fun b off e => by cases e; simp [Value.ownBlock]⟩

theorem St.qk {W : Base} {w : World} {R : List Thing} (H : St W w R) (i : Nat) {Q : Nat} {q : QS} (hi : R[i]? = some (QkT Q q)) :
    ∃ a c, w.heap[Q]? = some (.cells #[.int .i64 q.att, .slice a q.rows.length c] 127 (0, 0)) ∧ In w 8 a q.rows.length c (qL.at_ q.rows) ∧ (a = none → c = 0) := by
  obtain ⟨F, ⟨rv, _, h2, h3⟩, _⟩ := H.get i hi
  obtain ⟨a, c, rfl, h4, h5, _⟩ := own_slice h3
  exact ⟨a, c, h2, h4, h5⟩

/-! ### The closures -/
theorem enter_head1 (args : Array Value) (w : World) : (callFunc 134 args).run Tryz.prog w = .ok (.enter 134 args) w := run_enter Tryz.func134 (by kernel_rfl) rfl args w
theorem enter_grant1 (args : Array Value) (w : World) : (callFunc 146 args).run Tryz.prog w = .ok (.enter 146 args) w := run_enter Tryz.func146 (by kernel_rfl) rfl args w
theorem enter_held1 (args : Array Value) (w : World) : (callFunc 152 args).run Tryz.prog w = .ok (.enter 152 args) w := run_enter Tryz.func152 (by kernel_rfl) rfl args w
theorem enter_find1 (args : Array Value) (w : World) : (callFunc 88 args).run Tryz.prog w = .ok (.enter 88 args) w := run_enter Tryz.func88 (by kernel_rfl) rfl args w

def QR.pHead (r : QR) : Bool := r.st == 1
def QR.pGrant (b : Int) (r : QR) : Bool := decide (b ≤ r.ba)
def QR.pHeld (b : Int) (r : QR) : Bool := r.st == 2 && r.ba == b
def QR.pFind (b : Int) (r : QR) : Bool := r.ba == b && decide (0 < b)

theorem head1_any (w : World) (x : QR) : Calls Tryz.prog 134 #[.agg #[.int .i64 x.job, .int .i64 x.st, .int .i64 x.at_, .int .i64 x.ba, .int .i64 x.node, .int .i64 x.life, .int .i64 x.code, .int .u64 x.bits]] w fun e w' => e = .returned (.bool x.pHead) ∧ Fr [] w w' := by
  go_enter Tryz.func134, Tryz.ntmps134
  go_wp2
  go_ret
  exact ⟨rfl, (Fr.refl _ _).alloc _⟩
theorem grant1_any (w : World) (x : QR) (B : Nat) (b : Int) (hc : w.cell? ⟨B, 0, none⟩ = some (.int .i64 b)) : Calls Tryz.prog 146 #[.agg #[.int .i64 x.job, .int .i64 x.st, .int .i64 x.at_, .int .i64 x.ba, .int .i64 x.node, .int .i64 x.life, .int .i64 x.code, .int .u64 x.bits], .pointer (some ⟨B, 0, none⟩)] w fun e w' => e = .returned (.bool (x.pGrant b)) ∧ Fr [] w w' := by
  have hB : B < w.heap.size := World.block_lt_of_cell? w ⟨B, 0, none⟩ hc
  go_enter Tryz.func146, Tryz.ntmps146
  go_wp2
  go_ret
  exact ⟨rfl, (Fr.refl _ _).alloc _⟩
theorem held1_any (w : World) (x : QR) (B : Nat) (b : Int) (hc : w.cell? ⟨B, 0, none⟩ = some (.int .i64 b)) : Calls Tryz.prog 152 #[.agg #[.int .i64 x.job, .int .i64 x.st, .int .i64 x.at_, .int .i64 x.ba, .int .i64 x.node, .int .i64 x.life, .int .i64 x.code, .int .u64 x.bits], .pointer (some ⟨B, 0, none⟩)] w fun e w' => e = .returned (.bool (x.pHeld b)) ∧ Fr [] w w' := by
  have hB : B < w.heap.size := World.block_lt_of_cell? w ⟨B, 0, none⟩ hc
  unfold QR.pHeld
  cases h : (x.st == 2)
  all_goals
    go_enter Tryz.func152, Tryz.ntmps152
    go_wp2
    go_ret
    exact ⟨by simp, (Fr.refl _ _).alloc _⟩
theorem find1_any (w : World) (x : QR) (B : Nat) (b : Int) (hc : w.cell? ⟨B, 0, none⟩ = some (.int .i64 b)) : Calls Tryz.prog 88 #[.agg #[.int .i64 x.job, .int .i64 x.st, .int .i64 x.at_, .int .i64 x.ba, .int .i64 x.node, .int .i64 x.life, .int .i64 x.code, .int .u64 x.bits], .pointer (some ⟨B, 0, none⟩)] w fun e w' => e = .returned (.bool (x.pFind b)) ∧ Fr [] w w' := by
  have hB : B < w.heap.size := World.block_lt_of_cell? w ⟨B, 0, none⟩ hc
  unfold QR.pFind
  cases h : (x.ba == b)
  all_goals
    go_enter Tryz.func88, Tryz.ntmps88
    go_wp2
    go_ret
    exact ⟨by simp, (Fr.refl _ _).alloc _⟩

/-! ### first -/
theorem first_any (w : World) (b : Option Addr) (cb n : Nat) (l : List QR) (hln : l.length = n) (hb : In w 8 b n cb (qL.at_ l)) (fid : Nat) (cap : Array Value) (p : QR → Bool) (he : ∀ args wx, (callFunc fid args).run Tryz.prog wx = .ok (.enter fid args) wx)
    (hf : ∀ (x : QR) wx, Fr [] w wx → Calls Tryz.prog fid (#[.agg #[.int .i64 x.job, .int .i64 x.st, .int .i64 x.at_, .int .i64 x.ba, .int .i64 x.node, .int .i64 x.life, .int .i64 x.code, .int .u64 x.bits]] ++ cap) wx fun e w' => e = .returned (.bool (p x)) ∧ Fr [] wx w') :
    Calls Tryz.prog 87 #[.slice b n cb, .func (.func fid) #[] cap] w fun e w' => e = .returned (.int .i64 (fIdx p l)) ∧ Fr [] w w' := by
  have HC := hid (index_qrow w b cb n l hln hb fid cap (fun k => p (qL.nth l k)) he (fun k wx _ hF => hf (qL.nth l k) wx hF))
  have HL := hid hln
  clear hb he hf hln
  go_enter Tryz.func87, Tryz.ntmps87
  go_wp2_with fail
  refine HC.out.mono ?_
  rintro e w1 ⟨z, rfl, hF, hz⟩
  have hfz : fIdx p l = z := by
    rcases hz with ⟨k, h1, h2, h3, rfl⟩ | ⟨h1, rfl⟩
    · exact fIdx_some (by rw [HL.out]; exact h1) h2 h3
    · exact fIdx_none (by rw [HL.out]; exact h1)
  have HF := hid (And.intro hF hfz)
  clear hfz hz hF
  go_wp2_with fail
  go_ret
  exact ⟨by rw [HF.out.2]; rfl, HF.out.1⟩

section
variable {W : Base} {w : World} {R : List Thing}

def QS.head (q : QS) : Int := fIdx QR.pHead q.rows + 1

theorem st_head (H : St W w R) (i : Nat) {Q : Nat} {q : QS} (hi : R[i]? = some (QkT Q q)) (hl : q.rows.length ≤ 8) :
    Calls Tryz.prog 95 #[.pointer (some ⟨Q, 0, none⟩)] w fun e w' => e = .returned (.int .i64 q.head) ∧ Fr [] w w' := by
  obtain ⟨a, c, h1, h2, _⟩ := H.qk i hi
  have c1 := cell_blk (i := 1) h1 rfl
  have HF := hid (first_any w a c _ q.rows rfl h2 134 #[] QR.pHead enter_head1 (fun x wx _ => head1_any wx x))
  have hb := fIdx_bd QR.pHead q.rows
  unfold QS.head
  generalize fIdx QR.pHead q.rows = z at HF hb
  obtain ⟨hb1, hb2⟩ := hb
  clear h1 h2 H hi
  go_enter Tryz.func95, Tryz.ntmps95
  go_wp2_with fail
  refine HF.out.mono ?_
  rintro e w1 ⟨rfl, hF⟩
  go_wp2_with fail
  go_ret
  exact ⟨rfl, hF⟩

theorem st_rows (H : St W w R) (i : Nat) {Q : Nat} {q : QS} (hi : R[i]? = some (QkT Q q)) (hl : q.rows.length ≤ 8) :
    Calls Tryz.prog 30 #[.pointer (some ⟨Q, 0, none⟩)] w fun e w' => ∃ a, e = .returned (.slice a q.rows.length q.rows.length) ∧ Fr [] w w' ∧ WRow w' 51 8 a q.rows.length (qL.at_ q.rows) ∧ ∀ b off, a = some ⟨b, off, none⟩ → w.heap.size ≤ b := by
  obtain ⟨a, c, h1, h2, h3⟩ := H.qk i hi
  have c1 := cell_blk (i := 1) h1 rfl
  have HC := hid (clone_qrow w a c q.rows h2 h3 (by omega))
  clear h1 h2 h3 H hi
  go_enter Tryz.func30, Tryz.ntmps30
  go_wp2_with fail
  refine HC.out.mono ?_
  rintro e w1 ⟨a', c', rfl, hF, ho, hb, hn⟩
  obtain ⟨hle, hmx⟩ : q.rows.length ≤ c' ∧ c' ≤ maxLen := by
    rcases ownsRow_one ho with ⟨he, h0, _⟩ | ⟨g, cap, he, h1, h2⟩
    · simp only [Value.slice.injEq] at he; obtain ⟨_, _, rfl⟩ := he; exact ⟨by omega, by decide⟩
    · simp only [Value.slice.injEq] at he; obtain ⟨_, _, rfl⟩ := he; exact ⟨h1, h2⟩
  unfold maxLen at hmx
  have HZ := hid (And.intro hF (And.intro ho hb))
  clear hF ho hb
  go_wp2_with fail
  refine (clip_qrow w1 a' _ _ hle hmx hn).mono ?_
  rintro e w2 ⟨rfl, rfl⟩
  go_wp2_with fail
  go_ret
  refine ⟨a', rfl, HZ.out.1, ownsRow_W HZ.out.2.1 _ (fun j hj => qL.get _ j hj), fun b off e => HZ.out.2.2 b ?_⟩
  rcases ownsRow_one HZ.out.2.1 with ⟨he, _, _⟩ | ⟨g, cap, he, _, _⟩
  · simp only [Value.slice.injEq] at he; rw [he.1] at e; cases e
  · simp only [Value.slice.injEq] at he; rw [he.1] at e ⊢; cases e; simp [Value.ownBlock]

theorem st_qclone (H : St W w R) (i : Nat) {Q : Nat} {q : QS} (hi : R[i]? = some (QkT Q q)) (hl : q.rows.length ≤ 8) :
    Calls Tryz.prog 62 #[.pointer (some ⟨Q, 0, none⟩)] w fun e w' => ∃ C, e = .returned (.pointer (some ⟨C, 0, none⟩)) ∧ Fr [] w w' ∧ ∃ F, Qk1 C q w' F ∧ ∀ x, x ∈ F → w.heap.size ≤ x := by
  obtain ⟨a, c, h1, h2, h3⟩ := H.qk i hi
  have c0 := cell_blk (i := 0) h1 rfl
  have c1 := cell_blk (i := 1) h1 rfl
  have HC := hid (clone_qrow w.drew a c q.rows (h2.fr0 ((Fr.refl [] w).drew)) h3 (by omega))
  clear h1 h2 h3 H hi
  go_enter Tryz.func62, Tryz.ntmps62
  go_wp2_with fail
  go_region_held3 (fun wx : World => wx.cell? ⟨Q, 0, none⟩ = some (.int .i64 q.att) ∧ wx.cell? ⟨Q, 1, none⟩ = some (.slice a q.rows.length c)) ((first | exact hN2 | exact hNow | exact ⟨c0, c1⟩))
    (first | (go_at_call 85; refine HC.out.mono ?_; rintro e w1 ⟨a', c', rfl, hF, ho, hb, hn⟩; have hNow := And.intro (hF.cell0 (w := w.drew) c0) (hF.cell0 (w := w.drew) c1); have hN2 := And.intro (((Fr.refl [] w1).alloc (.cells #[.int .i64 q.att, .slice a' q.rows.length c'] 127)).cell0 hNow.1) (((Fr.refl [] w1).alloc (.cells #[.int .i64 q.att, .slice a' q.rows.length c'] 127)).cell0 hNow.2); have HZ := hid (And.intro hF (And.intro ho hb)); clear hF ho hb))
  go_wp2_with fail
  go_ret
  have hs := HZ.out.1.size
  have hs' : w.drew.heap.size = w.heap.size := rfl
  refine ⟨w1.heap.size, rfl, ((Fr.refl [] w).drew.trans HZ.out.1).alloc _, _, ⟨.slice a' q.rows.length c', rfl, blk_alloc_at _ _ _ rfl, ownsRow_keep (S := []) HZ.out.2.1 ((Fr.refl [] _).alloc _) (by simp)⟩, fun x hx => ?_⟩
  simp only [List.mem_cons] at hx
  rcases hx with rfl | hx
  · omega
  · exact HZ.out.2.2 x hx
end

end Go.Proofs.YtmgnekjhlfghaaaGreat

/-
  held, Row, Find, Open, New, Submit of the package queue.
-/
namespace Go.Proofs.YtmgnekjhlfghaaaGreat
open Go.RowKit
set_option linter.unusedVariables false
set_option linter.unusedSimpArgs false

theorem held_none (w : World) (Q n c : Nat) (a : Option Addr) (l : List QR) (hln : l.length = n) (h1 : w.cell? ⟨Q, 1, none⟩ = some (.slice a n c)) (h2 : In w 8 a n c (qL.at_ l)) (b : Int) (hi : fIdx (QR.pHeld b) l = -1) :
    Calls Tryz.prog 147 #[.pointer (some ⟨Q, 0, none⟩), .int .i64 b] w fun e w' => e = .returned (.pointer none) ∧ Fr [] w w' := by
  have hQ : Q < w.heap.size := World.block_lt_of_cell? w ⟨Q, 1, none⟩ h1
  have hF0 := (Fr.refl [] w).alloc (.cells #[.int .i64 b] 3)
  have HF := hid (first_any (w.alloc (.cells #[.int .i64 b] 3)) a c n l hln (h2.fr0 hF0) 152 #[.pointer (some ⟨w.heap.size, 0, none⟩)] (QR.pHeld b) enter_held1 (fun x wx hx => held1_any wx x _ b (hx.cell0 (cell_blk (blk_alloc_at _ _ _ rfl) rfl))))
  rw [hi] at HF
  clear h2 hi hF0 hln
  go_enter Tryz.func147, Tryz.ntmps147
  go_wp2_with fail
  refine HF.out.mono ?_
  rintro e w1 ⟨rfl, hF⟩
  go_wp2_with fail
  go_ret
  exact ⟨rfl, ((Fr.refl _ _).alloc _).trans hF⟩

theorem held_some (w : World) (Q n c g : Nat) (l : List QR) (hln : l.length = n) (hn8 : n ≤ 8) (h1 : w.cell? ⟨Q, 1, none⟩ = some (.slice (some ⟨g, 0, none⟩) n c)) (h2 : In w 8 (some ⟨g, 0, none⟩) n c (qL.at_ l)) (b : Int) (k : Nat) (hk : k < n) (hi : fIdx (QR.pHeld b) l = k) :
    Calls Tryz.prog 147 #[.pointer (some ⟨Q, 0, none⟩), .int .i64 b] w fun e w' => e = .returned (.pointer (some ⟨g, k * 8, none⟩)) ∧ Fr [] w w' := by
  have hQ : Q < w.heap.size := World.block_lt_of_cell? w ⟨Q, 1, none⟩ h1
  have hF0 := (Fr.refl [] w).alloc (.cells #[.int .i64 b] 3)
  have HF := hid (first_any (w.alloc (.cells #[.int .i64 b] 3)) (some ⟨g, 0, none⟩) c n l hln (h2.fr0 hF0) 152 #[.pointer (some ⟨w.heap.size, 0, none⟩)] (QR.pHeld b) enter_held1 (fun x wx hx => held1_any wx x _ b (hx.cell0 (cell_blk (blk_alloc_at _ _ _ rfl) rfl))))
  rw [hi] at HF
  have HH := hid (hF0.cell0 h1)
  clear h2 hi hF0 hln
  go_enter Tryz.func147, Tryz.ntmps147
  go_wp2_with fail
  refine HF.out.mono ?_
  rintro e w1 ⟨rfl, hF⟩
  have c1 := hF.cell0 HH.out
  have hk0 : ¬ ((k : Int) < 0) := by omega
  go_wp2_with fail
  go_ret
  exact ⟨rfl, ((Fr.refl _ _).alloc _).trans hF⟩

section
variable {W : Base} {w : World} {R : List Thing}

def QS.row (q : QS) (j : Int) : QR × Bool := if j < 1 ∨ (q.rows.length : Int) < j then (.zero, false) else (qL.nth q.rows (j - 1).toNat, true)
def QS.find (q : QS) (b : Int) : QR × Bool := q.row (fIdx (QR.pFind b) q.rows + 1)

theorem st_row (H : St W w R) (i : Nat) {Q : Nat} {q : QS} (hi : R[i]? = some (QkT Q q)) (hl : q.rows.length ≤ 8) (j : Int) :
    Calls Tryz.prog 89 #[.pointer (some ⟨Q, 0, none⟩), .int .i64 j] w fun e w' => ∃ x b, q.row j = (x, b) ∧ e = .returned (.tuple #[.agg #[.int .i64 x.job, .int .i64 x.st, .int .i64 x.at_, .int .i64 x.ba, .int .i64 x.node, .int .i64 x.life, .int .i64 x.code, .int .u64 x.bits], .bool b]) ∧ Fr [] w w' := by
  obtain ⟨a, c, h1, h2, h3⟩ := H.qk i hi
  have c1 := cell_blk (i := 1) h1 rfl
  have hQ := lt_of_block h1
  by_cases hj : j < 1 ∨ (q.rows.length : Int) < j
  · have e : q.row j = (.zero, false) := by unfold QS.row; rw [if_pos hj]
    have HE := hid e
    have hin : inB j 1 q.rows.length = false := by unfold inB; simp; omega
    clear e hj h1 h2 h3 H hi
    go_enter Tryz.func89, Tryz.ntmps89
    go_wp2_with fail
    refine (in_any _ _ _ _).mono ?_
    rw [hin]
    rintro e w1 ⟨rfl, rfl⟩
    go_wp2_with fail
    refine bodyPost_ret (v := .tuple #[.agg #[.int .i64 0, .int .i64 0, .int .i64 0, .int .i64 0, .int .i64 0, .int .i64 0, .int .i64 0, .int .u64 0], .bool false]) (by simp [results, Tryz.results89, go_sem]) rfl ⟨.zero, false, HE.out, rfl, ?_⟩
    exact (Fr.refl _ _).alloc _
  · have hin : inB j 1 q.rows.length = true := by unfold inB; simp; omega
    obtain ⟨k, rfl⟩ : ∃ k : Nat, j = k + 1 := ⟨(j - 1).toNat, by omega⟩
    have hk : k < q.rows.length := by omega
    have e : q.row (k + 1) = (qL.nth q.rows k, true) := by
      unfold QS.row; rw [if_neg hj, show ((k : Int) + 1 - 1).toNat = k by omega]
    have HE := hid e
    obtain ⟨b, o, rfl⟩ := h2.sm (by omega)
    obtain ⟨r0, r1, r2, r3, r4, r5, r6, r7⟩ := qrow_cells h2 k hk
    generalize qL.nth q.rows k = x at r0 r1 r2 r3 r4 r5 r6 r7 HE
    have hbl : b < w.heap.size := World.block_lt_of_cell? w ⟨b, o + k * 8, none⟩ r0
    have hmx := h2.max
    clear e hj h1 h2 h3 H hi
    go_enter Tryz.func89, Tryz.ntmps89
    go_wp2_with fail
    refine (in_any _ _ _ _).mono ?_
    rw [hin]
    rintro e w1 ⟨rfl, rfl⟩
    go_wp2_with fail
    refine bodyPost_ret (v := .tuple #[.agg #[.int .i64 x.job, .int .i64 x.st, .int .i64 x.at_, .int .i64 x.ba, .int .i64 x.node, .int .i64 x.life, .int .i64 x.code, .int .u64 x.bits], .bool true]) (by simp [results, Tryz.results89, go_sem]) rfl ⟨x, true, HE.out, rfl, ?_⟩
    exact (Fr.refl _ _).alloc _

set_option maxHeartbeats 1600000 in
theorem st_find (H : St W w R) (i : Nat) {Q : Nat} {q : QS} (hi : R[i]? = some (QkT Q q)) (hl : q.rows.length ≤ 8) (b : Int) :
    Calls Tryz.prog 33 #[.pointer (some ⟨Q, 0, none⟩), .int .i64 b] w fun e w' => ∃ x z, q.find b = (x, z) ∧ e = .returned (.tuple #[.agg #[.int .i64 x.job, .int .i64 x.st, .int .i64 x.at_, .int .i64 x.ba, .int .i64 x.node, .int .i64 x.life, .int .i64 x.code, .int .u64 x.bits], .bool z]) ∧ Fr [] w w' := by
  obtain ⟨a, c, h1, h2, _⟩ := H.qk i hi
  have c1 := cell_blk (i := 1) h1 rfl
  have hQ : Q < w.heap.size := lt_of_block h1
  have hF0 := ((Fr.refl [] w).alloc (.cells #[.int .i64 b] 3)).alloc (.cells #[.int .i64 0, .int .i64 0, .int .i64 0, .int .i64 0, .int .i64 0, .int .i64 0, .int .i64 0, .int .u64 0] 51)
  have hbx : ((w.alloc (.cells #[.int .i64 b] 3)).alloc (.cells #[.int .i64 0, .int .i64 0, .int .i64 0, .int .i64 0, .int .i64 0, .int .i64 0, .int .i64 0, .int .u64 0] 51)).cell? ⟨w.heap.size, 0, none⟩ = some (.int .i64 b) := cell_blk (blk_alloc_lt _ (blk_alloc_at _ _ _ rfl)) rfl
  have hzz : ((w.alloc (.cells #[.int .i64 b] 3)).alloc (.cells #[.int .i64 0, .int .i64 0, .int .i64 0, .int .i64 0, .int .i64 0, .int .i64 0, .int .i64 0, .int .u64 0] 51)).heap[w.heap.size + 1]? = some (.cells #[.int .i64 0, .int .i64 0, .int .i64 0, .int .i64 0, .int .i64 0, .int .i64 0, .int .i64 0, .int .u64 0] 51) := blk_alloc_at _ _ _ (by simp)
  have HF := hid (first_any ((w.alloc (.cells #[.int .i64 b] 3)).alloc (.cells #[.int .i64 0, .int .i64 0, .int .i64 0, .int .i64 0, .int .i64 0, .int .i64 0, .int .i64 0, .int .u64 0] 51)) a c _ q.rows rfl (h2.fr0 hF0) 88 #[.pointer (some ⟨w.heap.size, 0, none⟩)] (QR.pFind b) enter_find1 (fun x wx hx => find1_any wx x _ b (hx.cell0 hbx)))
  have hbd := fIdx_bd (QR.pFind b) q.rows
  have HFd := hid (show q.find b = q.row (fIdx (QR.pFind b) q.rows + 1) from rfl)
  have HS := hid (H.same hF0)
  have HZ := hid (And.intro hF0 hzz)
  generalize fIdx (QR.pFind b) q.rows = z at HF hbd HFd
  obtain ⟨hb1, hb2⟩ := hbd
  clear h1 h2 H hF0 hbx hzz
  go_enter Tryz.func33, Tryz.ntmps33
  go_wp2_with fail
  refine HF.out.mono ?_
  rintro e w1 ⟨rfl, hF1⟩
  have HS1 := hid (HS.out.same hF1)
  have HZ1 := hid (And.intro (HZ.out.1.trans hF1) (hF1.keep HZ.out.2 (by simp)))
  clear hF1
  go_wp2_with fail
  refine (st_row HS1.out i hi hl _).mono ?_
  rintro e w2 ⟨x, b2, hr, rfl, hF2⟩
  have hzb := hF2.keep HZ1.out.2 (by simp)
  have z0 := cell_blk (i := 0) hzb rfl
  have z1 := cell_blk (i := 1) hzb rfl
  have z2 := cell_blk (i := 2) hzb rfl
  have z3 := cell_blk (i := 3) hzb rfl
  have z4 := cell_blk (i := 4) hzb rfl
  have z5 := cell_blk (i := 5) hzb rfl
  have z6 := cell_blk (i := 6) hzb rfl
  have z7 := cell_blk (i := 7) hzb rfl
  have f0 : w2.frozen? ⟨w.heap.size + 1, 0, none⟩ = false := free_blk hzb
  have f1 : w2.frozen? ⟨w.heap.size + 1, 1, none⟩ = false := free_blk hzb
  have f2 : w2.frozen? ⟨w.heap.size + 1, 2, none⟩ = false := free_blk hzb
  have f3 : w2.frozen? ⟨w.heap.size + 1, 3, none⟩ = false := free_blk hzb
  have f4 : w2.frozen? ⟨w.heap.size + 1, 4, none⟩ = false := free_blk hzb
  have f5 : w2.frozen? ⟨w.heap.size + 1, 5, none⟩ = false := free_blk hzb
  have f6 : w2.frozen? ⟨w.heap.size + 1, 6, none⟩ = false := free_blk hzb
  have f7 : w2.frozen? ⟨w.heap.size + 1, 7, none⟩ = false := free_blk hzb
  have HR := hid (And.intro (HFd.out.trans hr) (HZ1.out.1.trans hF2))
  have HB8 : Hid (((((((((w2.setCell ⟨w.heap.size + 1, 0, none⟩ (.int .i64 x.job)).setCell ⟨w.heap.size + 1, 1, none⟩ (.int .i64 x.st)).setCell ⟨w.heap.size + 1, 2, none⟩ (.int .i64 x.at_)).setCell ⟨w.heap.size + 1, 3, none⟩ (.int .i64 x.ba)).setCell ⟨w.heap.size + 1, 4, none⟩ (.int .i64 x.node)).setCell ⟨w.heap.size + 1, 5, none⟩ (.int .i64 x.life)).setCell ⟨w.heap.size + 1, 6, none⟩ (.int .i64 x.code)).setCell ⟨w.heap.size + 1, 7, none⟩ (.int .u64 x.bits)).heap[w.heap.size + 1]? = some (.cells #[.int .i64 x.job, .int .i64 x.st, .int .i64 x.at_, .int .i64 x.ba, .int .i64 x.node, .int .i64 x.life, .int .i64 x.code, .int .u64 x.bits] 51 (0, 0))) := hid (blk_setCell_at (i := 7) (.int .u64 x.bits) (blk_setCell_at (i := 6) (.int .i64 x.code) (blk_setCell_at (i := 5) (.int .i64 x.life) (blk_setCell_at (i := 4) (.int .i64 x.node) (blk_setCell_at (i := 3) (.int .i64 x.ba) (blk_setCell_at (i := 2) (.int .i64 x.at_) (blk_setCell_at (i := 1) (.int .i64 x.st) (blk_setCell_at (i := 0) (.int .i64 x.job) hzb))))))))
  have HF8 : Hid (Fr [] w ((((((((w2.setCell ⟨w.heap.size + 1, 0, none⟩ (.int .i64 x.job)).setCell ⟨w.heap.size + 1, 1, none⟩ (.int .i64 x.st)).setCell ⟨w.heap.size + 1, 2, none⟩ (.int .i64 x.at_)).setCell ⟨w.heap.size + 1, 3, none⟩ (.int .i64 x.ba)).setCell ⟨w.heap.size + 1, 4, none⟩ (.int .i64 x.node)).setCell ⟨w.heap.size + 1, 5, none⟩ (.int .i64 x.life)).setCell ⟨w.heap.size + 1, 6, none⟩ (.int .i64 x.code)).setCell ⟨w.heap.size + 1, 7, none⟩ (.int .u64 x.bits))) := hid (Fr.setCell (p := ⟨w.heap.size + 1, 7, none⟩) (Fr.setCell (p := ⟨w.heap.size + 1, 6, none⟩) (Fr.setCell (p := ⟨w.heap.size + 1, 5, none⟩) (Fr.setCell (p := ⟨w.heap.size + 1, 4, none⟩) (Fr.setCell (p := ⟨w.heap.size + 1, 3, none⟩) (Fr.setCell (p := ⟨w.heap.size + 1, 2, none⟩) (Fr.setCell (p := ⟨w.heap.size + 1, 1, none⟩) (Fr.setCell (p := ⟨w.heap.size + 1, 0, none⟩) HR.out.2 (.inr (Nat.le_succ _)) (.int .i64 x.job)) (.inr (Nat.le_succ _)) (.int .i64 x.st)) (.inr (Nat.le_succ _)) (.int .i64 x.at_)) (.inr (Nat.le_succ _)) (.int .i64 x.ba)) (.inr (Nat.le_succ _)) (.int .i64 x.node)) (.inr (Nat.le_succ _)) (.int .i64 x.life)) (.inr (Nat.le_succ _)) (.int .i64 x.code)) (.inr (Nat.le_succ _)) (.int .u64 x.bits))
  clear hr hF2 hzb
  go_wp2_with fail
  generalize ((((((((w2.setCell ⟨w.heap.size + 1, 0, none⟩ (.int .i64 x.job)).setCell ⟨w.heap.size + 1, 1, none⟩ (.int .i64 x.st)).setCell ⟨w.heap.size + 1, 2, none⟩ (.int .i64 x.at_)).setCell ⟨w.heap.size + 1, 3, none⟩ (.int .i64 x.ba)).setCell ⟨w.heap.size + 1, 4, none⟩ (.int .i64 x.node)).setCell ⟨w.heap.size + 1, 5, none⟩ (.int .i64 x.life)).setCell ⟨w.heap.size + 1, 6, none⟩ (.int .i64 x.code)).setCell ⟨w.heap.size + 1, 7, none⟩ (.int .u64 x.bits)) = w8 at HB8 HF8 ⊢
  clear z0 z1 z2 z3 z4 z5 z6 z7 f0 f1 f2 f3 f4 f5 f6 f7
  have z0 := cell_blk (i := 0) HB8.out rfl
  have z1 := cell_blk (i := 1) HB8.out rfl
  have z2 := cell_blk (i := 2) HB8.out rfl
  have z3 := cell_blk (i := 3) HB8.out rfl
  have z4 := cell_blk (i := 4) HB8.out rfl
  have z5 := cell_blk (i := 5) HB8.out rfl
  have z6 := cell_blk (i := 6) HB8.out rfl
  have z7 := cell_blk (i := 7) HB8.out rfl
  refine bodyPost_ret (v := .tuple #[.agg #[.int .i64 x.job, .int .i64 x.st, .int .i64 x.at_, .int .i64 x.ba, .int .i64 x.node, .int .i64 x.life, .int .i64 x.code, .int .u64 x.bits], .bool b2]) (by simp [results, Tryz.results33, go_sem, z0, z1, z2, z3, z4, z5, z6, z7]) rfl ⟨x, b2, HR.out.1, rfl, HF8.out⟩
end

end Go.Proofs.YtmgnekjhlfghaaaGreat
