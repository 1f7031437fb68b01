/-
  The laws' helpers of layer 11: Same, does, fixed.
-/
import Derived.Test.YthdcpenhfccagaaQWf
namespace Go.Proofs.Ythdcpenhfccagaa
open Go.RowKit
set_option linter.unusedVariables false
set_option linter.unusedSimpArgs false

theorem ne_if {α : Type} {x y : QR} (h : x ≠ y) (a b : α) : (if x.job = y.job then if x.st = y.st then if x.at_ = y.at_ then if x.ba = y.ba then if x.node = y.node then if x.life = y.life then if x.code = y.code then if x.bits = y.bits then a else b else b else b else b else b else b else b else b) = b := by
  by_cases h1 : x.job = y.job
  case neg => rw [if_neg h1]
  by_cases h2 : x.st = y.st
  case neg => rw [if_pos h1, if_neg h2]
  by_cases h3 : x.at_ = y.at_
  case neg => rw [if_pos h1, if_pos h2, if_neg h3]
  by_cases h4 : x.ba = y.ba
  case neg => rw [if_pos h1, if_pos h2, if_pos h3, if_neg h4]
  by_cases h5 : x.node = y.node
  case neg => rw [if_pos h1, if_pos h2, if_pos h3, if_pos h4, if_neg h5]
  by_cases h6 : x.life = y.life
  case neg => rw [if_pos h1, if_pos h2, if_pos h3, if_pos h4, if_pos h5, if_neg h6]
  by_cases h7 : x.code = y.code
  case neg => rw [if_pos h1, if_pos h2, if_pos h3, if_pos h4, if_pos h5, if_pos h6, if_neg h7]
  by_cases h8 : x.bits = y.bits
  case neg => rw [if_pos h1, if_pos h2, if_pos h3, if_pos h4, if_pos h5, if_pos h6, if_pos h7, if_neg h8]
  exact absurd (QR.ext h1 h2 h3 h4 h5 h6 h7 h8) h

set_option maxHeartbeats 1600000 in
set_option maxRecDepth 100000 in
theorem qsame_any (w : World) (a b : Option Addr) (n m ca cb : Nat) (l r : List QR) (hn : l.length = n) (hm : r.length = m) (ha : In w 8 a n ca (qL.at_ l)) (hb : In w 8 b m cb (qL.at_ r)) :
    Calls Try.prog 22 #[.slice a n ca, .slice b m cb] w fun e w' => ∃ z : Bool, e = .returned (.bool z) ∧ (z = true ↔ l = r) ∧ Fr [] w w' := by
  subst hn hm
  have hma := ha.max
  have hmb := hb.max
  by_cases hl : l.length = r.length
  case neg =>
    have h1 : ((l.length : Int) == r.length) = false := by rw [beq_eq_false_iff_ne]; omega
    have h2 : ((l.length : Int) != r.length) = true := by rw [bne_iff_ne]; omega
    have HL := hid hl
    clear ha hb hl
    go_enter Try.func22, Try.ntmps22
    go_wp2
    go_ret
    exact ⟨false, rfl, ⟨(fun h => by cases h), fun h => absurd (by rw [h]) HL.out⟩, Fr.refl _ _⟩
  have HA := hid ha
  have HB := hid hb
  have hl1 : ((l.length : Int) == r.length) = true := by rw [beq_iff_eq]; omega
  have hl2 : ((l.length : Int) != r.length) = false := by rw [bne_eq_false_iff_eq]; omega
  have HL := hid hl
  clear ha hb hl
  go_enter Try.func22, Try.ntmps22
  go_wp2
  go_loopw [5] (fun i wr => ∃ k : Nat, k ≤ l.length ∧ i = .int .i64 k ∧ (∀ j, j < k → qL.nth l j = qL.nth r j) ∧ Fr [] w wr) (fun i _ => l.length - (intOf i).toNat)
  case atStart => exact ⟨0, Nat.zero_le _, rfl, fun j hj => absurd hj (Nat.not_lt_zero _), Fr.refl _ _⟩
  case round =>
    obtain ⟨k, hk, rfl, hall, hFw⟩ := hrel
    have HAll := hid hall
    clear hall
    by_cases hlt : k < l.length
    · have hlt2 : k < r.length := by have := HL.out; omega
      obtain ⟨ba, oa, rfl⟩ := HA.out.sm (by omega)
      obtain ⟨bb, ob, rfl⟩ := HB.out.sm (by omega)
      obtain ⟨x0, x1, x2, x3, x4, x5, x6, x7⟩ := qrow_cells (HA.out.fr0 hFw) k hlt
      obtain ⟨y0, y1, y2, y3, y4, y5, y6, y7⟩ := qrow_cells (HB.out.fr0 hFw) k hlt2
      by_cases heq : qL.nth l k = qL.nth r k
      · have HE := hid heq
        rw [← heq] at y0 y1 y2 y3 y4 y5 y6 y7
        clear heq
        generalize qL.nth l k = x at x0 x1 x2 x3 x4 x5 x6 x7 y0 y1 y2 y3 y4 y5 y6 y7
        have hxy : ((⟨x.job, x.st, x.at_, x.ba, x.node, x.life, x.code, x.bits⟩ : QR) == ⟨x.job, x.st, x.at_, x.ba, x.node, x.life, x.code, x.bits⟩) = true := (qr_eq _ _).2 rfl
        have hxx : (x == x) = true := (qr_eq _ _).2 rfl
        go_wp2
        go_quiet (fail)
        go_wp2
        go_roundw
        case rel => exact ⟨k + 1, by omega, by go_num, fun j hj => by by_cases hjk : j = k; (subst hjk; exact HE.out); exact HAll.out j (by omega), hFw.drewN _⟩
        case measure => simp [intOf]; omega
      · have HE := hid (show ¬ l = r from fun h => heq (by rw [h]))
        have hif := fun (a b : Result Next) => ne_if heq a b
        generalize qL.nth l k = x at x0 x1 x2 x3 x4 x5 x6 x7 hif
        generalize qL.nth r k = y at y0 y1 y2 y3 y4 y5 y6 y7 hif
        clear heq
        go_wp2
        go_quiet (fail)
        go_wp2
        go_ret
        exact ⟨false, rfl, ⟨(fun h => by cases h), fun h => absurd h HE.out⟩, hFw.drewN _⟩
    · obtain rfl : k = l.length := by omega
      have HE := hid (qL.ext HL.out HAll.out)
      go_wp2
      go_ret
      exact ⟨true, rfl, ⟨fun _ => HE.out, fun _ => rfl⟩, hFw⟩

theorem qsame_self (w : World) (a b : Option Addr) (n ca cb : Nat) (l : List QR) (hn : l.length = n) (ha : In w 8 a n ca (qL.at_ l)) (hb : In w 8 b n cb (qL.at_ l)) :
    Calls Try.prog 22 #[.slice a n ca, .slice b n cb] w fun e w' => e = .returned (.bool true) ∧ Fr [] w w' :=
  (qsame_any w a b n n ca cb l l hn hn ha hb).mono fun e w' ⟨z, h1, h2, h3⟩ => ⟨by rw [h1, h2.2 rfl], h3⟩

/-- A call of the laws' scripts: was it refused, and what stands behind it. -/
def QS.does (q : QS) (kind job badge node life code bits : Int) : Bool × QS :=
  if kind = 0 then (q.submit.2.1 != 0, q.submit.2.2)
  else if kind = 2 then ((q.grant job badge node life).1 != 0, (q.grant job badge node life).2)
  else if kind = 3 then ((q.expire badge).2.1 != 0, (q.expire badge).2.2)
  else if kind = 4 then ((q.settle badge code bits).2.1 != 0, (q.settle badge code bits).2.2)
  else (true, q)

theorem does_wf {q : QS} (hw : q.wf) (kind job badge node life code bits : Int) : (q.does kind job badge node life code bits).2.wf := by
  unfold QS.does
  split
  · exact submit_wf hw
  split
  · exact grant_wf hw _ _ _ _
  split
  · exact expire_wf hw _
  split
  · exact settle_wf hw _ _ _
  · exact hw

theorem Base.fr_of {W : Base} {w w' : World} {R R' : List Thing} (h : St W w R) (h' : St W w' R') : True := trivial

section
variable {W : Base} {w : World} {R : List Thing}

set_option maxHeartbeats 1600000 in
set_option maxRecDepth 100000 in
theorem st_does (H : St W w R) (i : Nat) {Q : Nat} {q : QS} (hi : R[i]? = some (QkT Q q)) (hw : q.wf) (on kind job badge node life code bits : Int) :
    Calls Try.prog 20 #[.pointer (some ⟨Q, 0, none⟩), .agg #[.int .i64 on, .int .i64 kind, .int .i64 job, .int .i64 badge, .int .i64 node, .int .i64 life, .int .i64 code, .int .u64 bits]] w fun e w' => e = .returned (.bool (q.does kind job badge node life code bits).1) ∧ St W w' (R.set i (QkT Q (q.does kind job badge node life code bits).2)) := by
  have H1 := H.alloc_ (.cells #[.int .i64 on, .int .i64 kind, .int .i64 job, .int .i64 badge, .int .i64 node, .int .i64 life, .int .i64 code, .int .u64 bits] 48)
  have HS := hid (H1.set_self hi)
  have H1 := hid H1
  clear H
  by_cases h0 : kind = 0
  · have e : q.does kind job badge node life code bits = (q.submit.2.1 != 0, q.submit.2.2) := by unfold QS.does; rw [if_pos h0]
    rw [e]
    have hc := st_submit H1.out i hi hw.n
    generalize q.submit.2.2 = q' at hc ⊢
    generalize q.submit.2.1 = z at hc ⊢
    generalize q.submit.1 = z1 at hc
    have HC := hid hc
    subst h0
    clear e hc
    go_enter Try.func20, Try.ntmps20
    go_wp2_with fail
    refine HC.out.mono ?_
    rintro e w1 ⟨rfl, H2⟩
    go_wp2_with fail
    go_ret
    exact ⟨rfl, H2⟩
  have b0 : (kind == 0) = false := by rw [beq_eq_false_iff_ne]; exact h0
  by_cases h2 : kind = 2
  · have e : q.does kind job badge node life code bits = ((q.grant job badge node life).1 != 0, (q.grant job badge node life).2) := by unfold QS.does; rw [if_neg h0, if_pos h2]
    rw [e]
    have hc := st_grant H1.out i hi hw job badge node life
    generalize q.grant job badge node life = z at hc ⊢
    have HC := hid hc
    subst h2
    clear e hc b0
    go_enter Try.func20, Try.ntmps20
    go_wp2_with fail
    refine HC.out.mono ?_
    rintro e w1 ⟨rfl, H2⟩
    go_wp2_with fail
    go_ret
    exact ⟨rfl, H2⟩
  have b2 : (kind == 2) = false := by rw [beq_eq_false_iff_ne]; exact h2
  by_cases h3 : kind = 3
  · have e : q.does kind job badge node life code bits = ((q.expire badge).2.1 != 0, (q.expire badge).2.2) := by unfold QS.does; rw [if_neg h0, if_neg h2, if_pos h3]
    rw [e]
    have hc := st_expire H1.out i hi hw badge
    generalize q.expire badge = z at hc ⊢
    have HC := hid hc
    subst h3
    clear e hc b0 b2
    go_enter Try.func20, Try.ntmps20
    go_wp2_with fail
    refine HC.out.mono ?_
    rintro e w1 ⟨rfl, H2⟩
    go_wp2_with fail
    go_ret
    exact ⟨rfl, H2⟩
  have b3 : (kind == 3) = false := by rw [beq_eq_false_iff_ne]; exact h3
  by_cases h4 : kind = 4
  · have e : q.does kind job badge node life code bits = ((q.settle badge code bits).2.1 != 0, (q.settle badge code bits).2.2) := by unfold QS.does; rw [if_neg h0, if_neg h2, if_neg h3, if_pos h4]
    rw [e]
    have hc := st_settle H1.out i hi hw badge code bits
    generalize q.settle badge code bits = z at hc ⊢
    have HC := hid hc
    subst h4
    clear e hc b0 b2 b3
    go_enter Try.func20, Try.ntmps20
    go_wp2_with fail
    refine HC.out.mono ?_
    rintro e w1 ⟨rfl, H2⟩
    go_wp2_with fail
    go_ret
    exact ⟨rfl, H2⟩
  · have b4 : (kind == 4) = false := by rw [beq_eq_false_iff_ne]; exact h4
    have e : q.does kind job badge node life code bits = (true, q) := by unfold QS.does; rw [if_neg h0, if_neg h2, if_neg h3, if_neg h4]
    rw [e]
    clear e
    go_enter Try.func20, Try.ntmps20
    go_wp2_with fail
    go_ret
    exact ⟨rfl, HS.out⟩
end

set_option maxHeartbeats 1600000 in
set_option maxRecDepth 100000 in
theorem fixed11 (w : World) : Calls Try.prog 12 #[] w fun e w' => e = .returned (.bool true) ∧ Fr [] w w' := by
  have H := St.refl w
  go_enter Try.func12, Try.ntmps12
  go_wp2_with fail
  refine (st_qnew H 2 (by omega) (by omega)).mono ?_
  clear H
  rintro e w101 ⟨Q, rfl, H⟩
  try simp only [List.nil_append, List.cons_append, List.set_cons_zero, List.set_cons_succ] at H
  go_wp2_with fail
  refine (st_head H 0 rfl (by simp)).mono ?_
  rw [show (⟨2, []⟩ : QS).head = 0 from rfl]
  rintro e w2 ⟨rfl, hF⟩
  replace H := H.same hF
  clear hF
  go_wp2_with fail
  have hc := st_submit H 0 rfl (by simp)
  rw [show (⟨2, []⟩ : QS).submit = (1, 0, ⟨2, [⟨1, 1, 0, 0, 0, 0, 0, 0⟩]⟩) from rfl] at hc
  refine (hc).mono ?_
  clear H
  rintro e w102 ⟨rfl, H⟩
  try simp only [List.nil_append, List.cons_append, List.set_cons_zero, List.set_cons_succ] at H
  clear hc
  go_wp2_with fail
  have hw1 : (⟨2, [⟨1, 1, 0, 0, 0, 0, 0, 0⟩]⟩ : QS).wf := submit_wf (q := ⟨2, []⟩) (qnew_wf (by omega) (by omega))
  have hc := st_grant H 0 rfl hw1 1 5 2 1
  rw [show (⟨2, [⟨1, 1, 0, 0, 0, 0, 0, 0⟩]⟩ : QS).grant 1 5 2 1 = (0, ⟨2, [⟨1, 2, 1, 5, 2, 1, 0, 0⟩]⟩) from rfl] at hc
  clear hw1
  refine (hc).mono ?_
  clear H
  rintro e w103 ⟨rfl, H⟩
  try simp only [List.nil_append, List.cons_append, List.set_cons_zero, List.set_cons_succ] at H
  clear hc
  go_wp2_with fail
  refine (st_find H 0 rfl (by simp) 5).mono ?_
  rintro e w5 ⟨x, z, hx, rfl, hF⟩
  rw [show (⟨2, [⟨1, 2, 1, 5, 2, 1, 0, 0⟩]⟩ : QS).find 5 = (⟨1, 2, 1, 5, 2, 1, 0, 0⟩, true) from rfl] at hx
  simp only [Prod.mk.injEq] at hx
  obtain ⟨rfl, rfl⟩ := hx
  have HF := hid (H.fr.trans hF)
  clear H hF
  go_wp2_with fail
  go_ret
  exact ⟨rfl, HF.out.alloc _⟩

end Go.Proofs.Ythdcpenhfccagaa
