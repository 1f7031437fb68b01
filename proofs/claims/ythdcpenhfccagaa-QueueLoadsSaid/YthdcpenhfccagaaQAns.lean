/-
  'changes' and 'answers' of layer 11: a call of a script, of a queue and of the document's: they answer alike, and go on alike.
-/
import Derived.Test.YthdcpenhfccagaaQX2
import Derived.Test.YthdcpenhfccagaaCalm
namespace Go.Proofs.Ythdcpenhfccagaa
open Go.RowKit
set_option linter.unusedVariables false
set_option linter.unusedSimpArgs false

/-- What a call leaves: a queue, and the document's, alike. -/
def AlikeQ (V : Base) (w' : World) (Q X : Nat) : Prop := ∃ q', St V w' [QkT Q q', XqT X q'] ∧ q'.wf

section
variable {W : Base} {w : World} {R : List Thing}
theorem st_xhead (H : St W w R) (i : Nat) {X : Nat} {q : QS} (hi : R[i]? = some (XqT X q)) (hl : q.rows.length ≤ 8) :
    Calls Try.prog 45 #[.pointer (some ⟨X, 0, none⟩)] w fun e w' => e = .returned (.int .i64 q.head) ∧ St W w' R := by
  obtain ⟨a, c, h⟩ := H.xq i hi
  exact (x_head w X q a c h hl).mono fun e w' ⟨h1, h2⟩ => ⟨h1, h2 ▸ H⟩
theorem st_xrow (H : St W w R) (i : Nat) {X : Nat} {q : QS} (hi : R[i]? = some (XqT X q)) (hl : q.rows.length ≤ 8) {j : Int} {x : QR} {z : Bool} (hj : q.row j = (x, z)) :
    Calls Try.prog 51 #[.pointer (some ⟨X, 0, none⟩), .int .i64 j] w fun e w' => e = .returned (.tuple #[.agg #[.int .i64 x.job, .int .i64 x.st, .int .i64 x.at_, .int .i64 x.ba, .int .i64 x.node, .int .i64 x.life, .int .i64 x.code, .int .u64 x.bits], .bool z]) ∧ St W w' R := by
  obtain ⟨a, c, h⟩ := H.xq i hi
  exact (x_row w X q a c h hl j hj).mono fun e w' ⟨h1, h2⟩ => ⟨h1, H.same h2⟩
theorem st_xfind (H : St W w R) (i : Nat) {X : Nat} {q : QS} (hi : R[i]? = some (XqT X q)) (hl : q.rows.length ≤ 8) {j : Int} {x : QR} {z : Bool} (hj : q.find j = (x, z)) :
    Calls Try.prog 52 #[.pointer (some ⟨X, 0, none⟩), .int .i64 j] w fun e w' => e = .returned (.tuple #[.agg #[.int .i64 x.job, .int .i64 x.st, .int .i64 x.at_, .int .i64 x.ba, .int .i64 x.node, .int .i64 x.life, .int .i64 x.code, .int .u64 x.bits], .bool z]) ∧ St W w' R := by
  obtain ⟨a, c, h⟩ := H.xq i hi
  exact (x_find w X q a c h hl j hj).mono fun e w' ⟨h1, h2⟩ => ⟨h1, H.same h2⟩
theorem st_xopen (H : St W w R) (i : Nat) {X : Nat} {q : QS} (hi : R[i]? = some (XqT X q)) (hw : q.wf) :
    Calls Try.prog 53 #[.pointer (some ⟨X, 0, none⟩)] w fun e w' => e = .returned (.tuple #[.int .i64 q.opened.1, .int .i64 q.opened.2]) ∧ St W w' R := by
  obtain ⟨a, c, h⟩ := H.xq i hi
  exact (x_open w X q a c h hw).mono fun e w' ⟨h1, h2⟩ => ⟨h1, H.same h2⟩

/-- What both queues do, by names. -/
theorem st_submit_eq (H : St W w R) (i : Nat) {Q : Nat} {q q' : QS} {a b : Int} (hi : R[i]? = some (QkT Q q)) (hw : q.wf) (hz : q.submit = (a, b, q')) :
    Calls Try.prog 14 #[.pointer (some ⟨Q, 0, none⟩)] w fun e w' => e = .returned (.tuple #[.int .i64 a, .int .i64 b]) ∧ St W w' (R.set i (QkT Q q')) := by
  have := st_submit H i hi hw.n; rw [hz] at this; exact this
theorem st_xsubmit_eq (H : St W w R) (i : Nat) {Q : Nat} {q q' : QS} {a b : Int} (hi : R[i]? = some (XqT Q q)) (hw : q.wf) (hz : q.submit = (a, b, q')) :
    Calls Try.prog 55 #[.pointer (some ⟨Q, 0, none⟩)] w fun e w' => e = .returned (.tuple #[.int .i64 a, .int .i64 b]) ∧ St W w' (R.set i (XqT Q q')) := by
  have := st_xsubmit H i hi hw.n; rw [hz] at this; exact this
theorem st_grant_eq (H : St W w R) (i : Nat) {Q : Nat} {q q' : QS} {a : Int} (hi : R[i]? = some (QkT Q q)) (hw : q.wf) (job badge node life : Int) (hz : q.grant job badge node life = (a, q')) :
    Calls Try.prog 17 #[.pointer (some ⟨Q, 0, none⟩), .int .i64 job, .int .i64 badge, .agg #[.int .i64 node, .int .i64 life]] w fun e w' => e = .returned (.int .i64 a) ∧ St W w' (R.set i (QkT Q q')) := by
  have := st_grant H i hi hw job badge node life; rw [hz] at this; exact this
theorem st_xgrant_eq (H : St W w R) (i : Nat) {Q : Nat} {q q' : QS} {a : Int} (hi : R[i]? = some (XqT Q q)) (hw : q.wf) (job badge node life : Int) (hz : q.grant job badge node life = (a, q')) :
    Calls Try.prog 56 #[.pointer (some ⟨Q, 0, none⟩), .int .i64 job, .int .i64 badge, .agg #[.int .i64 node, .int .i64 life]] w fun e w' => e = .returned (.int .i64 a) ∧ St W w' (R.set i (XqT Q q')) := by
  have := st_xgrant H i hi hw job badge node life; rw [hz] at this; exact this
theorem st_expire_eq (H : St W w R) (i : Nat) {Q : Nat} {q q' : QS} {a b : Int} (hi : R[i]? = some (QkT Q q)) (hw : q.wf) (bg : Int) (hz : q.expire bg = (a, b, q')) :
    Calls Try.prog 18 #[.pointer (some ⟨Q, 0, none⟩), .int .i64 bg] w fun e w' => e = .returned (.tuple #[.int .i64 a, .int .i64 b]) ∧ St W w' (R.set i (QkT Q q')) := by
  have := st_expire H i hi hw bg; rw [hz] at this; exact this
theorem st_xexpire_eq (H : St W w R) (i : Nat) {Q : Nat} {q q' : QS} {a b : Int} (hi : R[i]? = some (XqT Q q)) (hw : q.wf) (bg : Int) (hz : q.expire bg = (a, b, q')) :
    Calls Try.prog 57 #[.pointer (some ⟨Q, 0, none⟩), .int .i64 bg] w fun e w' => e = .returned (.tuple #[.int .i64 a, .int .i64 b]) ∧ St W w' (R.set i (XqT Q q')) := by
  have := st_xexpire H i hi hw bg; rw [hz] at this; exact this
theorem st_settle_eq (H : St W w R) (i : Nat) {Q : Nat} {q q' : QS} {a b : Int} (hi : R[i]? = some (QkT Q q)) (hw : q.wf) (bg code bits : Int) (hz : q.settle bg code bits = (a, b, q')) :
    Calls Try.prog 29 #[.pointer (some ⟨Q, 0, none⟩), .int .i64 bg, .agg #[.int .i64 code, .int .u64 bits]] w fun e w' => e = .returned (.tuple #[.int .i64 a, .int .i64 b]) ∧ St W w' (R.set i (QkT Q q')) := by
  have := st_settle H i hi hw bg code bits; rw [hz] at this; exact this
theorem st_xsettle_eq (H : St W w R) (i : Nat) {Q : Nat} {q q' : QS} {a b : Int} (hi : R[i]? = some (XqT Q q)) (hw : q.wf) (bg code bits : Int) (hz : q.settle bg code bits = (a, b, q')) :
    Calls Try.prog 58 #[.pointer (some ⟨Q, 0, none⟩), .int .i64 bg, .agg #[.int .i64 code, .int .u64 bits]] w fun e w' => e = .returned (.tuple #[.int .i64 a, .int .i64 b]) ∧ St W w' (R.set i (XqT Q q')) := by
  have := st_xsettle H i hi hw bg code bits; rw [hz] at this; exact this
end

set_option maxHeartbeats 3200000 in
set_option maxRecDepth 100000 in
theorem changes11 {V : Base} {w : World} {Q X : Nat} {q : QS} (H : St V w [QkT Q q, XqT X q]) (hw : q.wf) (o : Op11) :
    Calls Try.prog 54 #[.agg #[.pointer (some ⟨Q, 0, none⟩), .pointer (some ⟨X, 0, none⟩)], .agg #[.int .i64 o.on, .int .i64 o.kind, .int .i64 o.job, .int .i64 o.badge, .int .i64 o.node, .int .i64 o.life, .int .i64 o.code, .int .u64 o.bits]] w
      fun e w' => e = .returned (.bool true) ∧ AlikeQ V w' Q X := by
  have H0 : St V ((w.alloc (.cells #[.pointer (some ⟨Q, 0, none⟩), .pointer (some ⟨X, 0, none⟩)] 63)).alloc (.cells #[.int .i64 o.on, .int .i64 o.kind, .int .i64 o.job, .int .i64 o.badge, .int .i64 o.node, .int .i64 o.life, .int .i64 o.code, .int .u64 o.bits] 48)) [QkT Q q, XqT X q, BlkT w.heap.size (.cells #[.pointer (some ⟨Q, 0, none⟩), .pointer (some ⟨X, 0, none⟩)] 63), BlkT (w.heap.size + 1) (.cells #[.int .i64 o.on, .int .i64 o.kind, .int .i64 o.job, .int .i64 o.badge, .int .i64 o.node, .int .i64 o.life, .int .i64 o.code, .int .u64 o.bits] 48)] := (H.allocAt _ w.heap.size rfl).allocAt _ (w.heap.size + 1) (by simp)
  clear H
  have hk : ∀ (wx : World) (A B : Thing), St V wx [A, B, BlkT w.heap.size (.cells #[.pointer (some ⟨Q, 0, none⟩), .pointer (some ⟨X, 0, none⟩)] 63), BlkT (w.heap.size + 1) (.cells #[.int .i64 o.on, .int .i64 o.kind, .int .i64 o.job, .int .i64 o.badge, .int .i64 o.node, .int .i64 o.life, .int .i64 o.code, .int .u64 o.bits] 48)] → wx.cell? ⟨w.heap.size, 0, none⟩ = some (.pointer (some ⟨Q, 0, none⟩)) ∧ wx.cell? ⟨w.heap.size, 1, none⟩ = some (.pointer (some ⟨X, 0, none⟩)) ∧ wx.cell? ⟨w.heap.size + 1, 1, none⟩ = some (.int .i64 o.kind) ∧ wx.cell? ⟨w.heap.size + 1, 2, none⟩ = some (.int .i64 o.job) ∧ wx.cell? ⟨w.heap.size + 1, 3, none⟩ = some (.int .i64 o.badge) ∧ wx.cell? ⟨w.heap.size + 1, 4, none⟩ = some (.int .i64 o.node) ∧ wx.cell? ⟨w.heap.size + 1, 5, none⟩ = some (.int .i64 o.life) ∧ wx.cell? ⟨w.heap.size + 1, 6, none⟩ = some (.int .i64 o.code) ∧ wx.cell? ⟨w.heap.size + 1, 7, none⟩ = some (.int .u64 o.bits) := fun wx A B h =>
    ⟨cell_blk (h.blk 2 rfl) rfl, cell_blk (h.blk 2 rfl) rfl, cell_blk (h.blk 3 rfl) rfl, cell_blk (h.blk 3 rfl) rfl, cell_blk (h.blk 3 rfl) rfl, cell_blk (h.blk 3 rfl) rfl, cell_blk (h.blk 3 rfl) rfl, cell_blk (h.blk 3 rfl) rfl, cell_blk (h.blk 3 rfl) rfl⟩
  have HK := hid hk
  have HE := hid (fun (wx : World) (q' : QS) (h : St V wx [QkT Q q', XqT X q', BlkT w.heap.size (.cells #[.pointer (some ⟨Q, 0, none⟩), .pointer (some ⟨X, 0, none⟩)] 63), BlkT (w.heap.size + 1) (.cells #[.int .i64 o.on, .int .i64 o.kind, .int .i64 o.job, .int .i64 o.badge, .int .i64 o.node, .int .i64 o.life, .int .i64 o.code, .int .u64 o.bits] 48)]) (h1 : q'.wf) => (⟨q', h.take 2, h1⟩ : AlikeQ V wx Q X))
  clear hk
  by_cases h0 : o.kind = 0
  · have e0 : (o.kind == 0) = true := by rw [beq_iff_eq]; exact h0
    obtain ⟨a, b, q', hz⟩ : ∃ a b q', q.submit = (a, b, q') := ⟨_, _, _, rfl⟩
    have hw' : q'.wf := by have := submit_wf hw; rw [hz] at this; exact this
    have HZ := hid (And.intro hz (And.intro hw hw'))
    clear h0 hz hw hw'
    go_enter Try.func54, Try.ntmps54
    go_wp2_with fail
    refine (st_submit_eq H0 0 rfl HZ.out.2.1 HZ.out.1).mono ?_
    clear H0
    rintro e w1 ⟨rfl, H⟩
    try simp only [List.nil_append, List.cons_append, List.set_cons_zero, List.set_cons_succ] at H
    obtain ⟨k0, k1, k2, k3, k4, k5, k6, k7, k8⟩ := HK.out _ _ _ H
    go_wp2_with fail
    refine (st_xsubmit_eq H 1 rfl HZ.out.2.1 HZ.out.1).mono ?_
    clear H k0 k1 k2 k3 k4 k5 k6 k7 k8
    rintro e w2 ⟨rfl, H⟩
    try simp only [List.nil_append, List.cons_append, List.set_cons_zero, List.set_cons_succ] at H
    go_wp2_with fail
    go_ret
    exact ⟨rfl, HE.out _ _ H HZ.out.2.2⟩
  have e0 : (o.kind == 0) = false := by rw [beq_eq_false_iff_ne]; exact h0
  by_cases h2 : o.kind = 2
  · have e2 : (o.kind == 2) = true := by rw [beq_iff_eq]; exact h2
    obtain ⟨a, q', hz⟩ : ∃ a q', q.grant o.job o.badge o.node o.life = (a, q') := ⟨_, _, rfl⟩
    have hw' : q'.wf := by have := grant_wf hw o.job o.badge o.node o.life; rw [hz] at this; exact this
    have HZ := hid (And.intro hz (And.intro hw hw'))
    clear h0 h2 hz hw hw'
    go_enter Try.func54, Try.ntmps54
    go_wp2_with fail
    go_region_held3 (fun wx => wx.cell? ⟨w.heap.size, 0, none⟩ = some (.pointer (some ⟨Q, 0, none⟩)) ∧ wx.cell? ⟨w.heap.size, 1, none⟩ = some (.pointer (some ⟨X, 0, none⟩)) ∧ wx.cell? ⟨w.heap.size + 1, 1, none⟩ = some (.int .i64 o.kind) ∧ wx.cell? ⟨w.heap.size + 1, 2, none⟩ = some (.int .i64 o.job) ∧ wx.cell? ⟨w.heap.size + 1, 3, none⟩ = some (.int .i64 o.badge) ∧ wx.cell? ⟨w.heap.size + 1, 4, none⟩ = some (.int .i64 o.node) ∧ wx.cell? ⟨w.heap.size + 1, 5, none⟩ = some (.int .i64 o.life) ∧ wx.cell? ⟨w.heap.size + 1, 6, none⟩ = some (.int .i64 o.code) ∧ wx.cell? ⟨w.heap.size + 1, 7, none⟩ = some (.int .u64 o.bits)) ((first | exact hNow | exact HK.out _ _ _ H0.drew))
      (first
        | (go_at_call 17; refine (st_grant_eq H0.drew 0 rfl HZ.out.2.1 o.job o.badge o.node o.life HZ.out.1).mono ?_; rintro e w2 ⟨rfl, HD⟩; have hNow := HK.out _ _ _ HD)
        | (go_at_call 56; refine (st_xgrant_eq HD 1 rfl HZ.out.2.1 o.job o.badge o.node o.life HZ.out.1).mono ?_; rintro e w3 ⟨rfl, HD⟩; have hNow := HK.out _ _ _ HD))
    go_wp2_with fail
    go_ret
    exact ⟨rfl, HE.out _ q' HD HZ.out.2.2⟩
  have e2 : (o.kind == 2) = false := by rw [beq_eq_false_iff_ne]; exact h2
  by_cases h3 : o.kind = 3
  · have e3 : (o.kind == 3) = true := by rw [beq_iff_eq]; exact h3
    obtain ⟨a, b, q', hz⟩ : ∃ a b q', q.expire o.badge = (a, b, q') := ⟨_, _, _, rfl⟩
    have hw' : q'.wf := by have := expire_wf hw o.badge; rw [hz] at this; exact this
    have HZ := hid (And.intro hz (And.intro hw hw'))
    clear h0 h2 h3 hz hw hw'
    go_enter Try.func54, Try.ntmps54
    go_wp2_with fail
    refine (st_expire_eq H0 0 rfl HZ.out.2.1 o.badge HZ.out.1).mono ?_
    clear H0
    rintro e w1 ⟨rfl, H⟩
    try simp only [List.nil_append, List.cons_append, List.set_cons_zero, List.set_cons_succ] at H
    obtain ⟨k0, k1, k2, k3, k4, k5, k6, k7, k8⟩ := HK.out _ _ _ H
    go_wp2_with fail
    refine (st_xexpire_eq H 1 rfl HZ.out.2.1 o.badge HZ.out.1).mono ?_
    clear H k0 k1 k2 k3 k4 k5 k6 k7 k8
    rintro e w2 ⟨rfl, H⟩
    try simp only [List.nil_append, List.cons_append, List.set_cons_zero, List.set_cons_succ] at H
    go_wp2_with fail
    go_ret
    exact ⟨rfl, HE.out _ _ H HZ.out.2.2⟩
  have e3 : (o.kind == 3) = false := by rw [beq_eq_false_iff_ne]; exact h3
  by_cases h4 : o.kind = 4
  · have e4 : (o.kind == 4) = true := by rw [beq_iff_eq]; exact h4
    obtain ⟨a, b, q', hz⟩ : ∃ a b q', q.settle o.badge o.code o.bits = (a, b, q') := ⟨_, _, _, rfl⟩
    have hw' : q'.wf := by have := settle_wf hw o.badge o.code o.bits; rw [hz] at this; exact this
    have HZ := hid (And.intro hz (And.intro hw hw'))
    clear h0 h2 h3 h4 hz hw hw'
    go_enter Try.func54, Try.ntmps54
    go_wp2_with fail
    refine (st_settle_eq H0 0 rfl HZ.out.2.1 o.badge o.code o.bits HZ.out.1).mono ?_
    clear H0
    rintro e w1 ⟨rfl, H⟩
    try simp only [List.nil_append, List.cons_append, List.set_cons_zero, List.set_cons_succ] at H
    obtain ⟨k0, k1, k2, k3, k4, k5, k6, k7, k8⟩ := HK.out _ _ _ H
    go_wp2_with fail
    refine (st_xsettle_eq H 1 rfl HZ.out.2.1 o.badge o.code o.bits HZ.out.1).mono ?_
    clear H k0 k1 k2 k3 k4 k5 k6 k7 k8
    rintro e w2 ⟨rfl, H⟩
    try simp only [List.nil_append, List.cons_append, List.set_cons_zero, List.set_cons_succ] at H
    go_wp2_with fail
    go_ret
    exact ⟨rfl, HE.out _ _ H HZ.out.2.2⟩
  have e4 : (o.kind == 4) = false := by rw [beq_eq_false_iff_ne]; exact h4
  clear h0 h2 h3 h4
  go_enter Try.func54, Try.ntmps54
  go_wp2_with fail
  go_ret
  exact ⟨rfl, HE.out _ q H0 hw⟩

end Go.Proofs.Ythdcpenhfccagaa
