/-
  The document's queue: its calls that change it: set, Submit, Grant, Expire, Settle; Copy, New, Load.
-/
import Derived.Test.YthdcpenhfccagaaQX0
import Derived.Test.YthdcpenhfccagaaQKeeps
namespace Go.Proofs.Ythdcpenhfccagaa
open Go.RowKit
set_option linter.unusedVariables false
set_option linter.unusedSimpArgs false

/-- A row of a list is written over. -/
def setRow8 (w : World) (g k : Nat) (x : QR) : World := (((((((w.setCell ⟨g, k * 8, none⟩ (.int .i64 x.job)).setCell ⟨g, k * 8 + 1, none⟩ (.int .i64 x.st)).setCell ⟨g, k * 8 + 2, none⟩ (.int .i64 x.at_)).setCell ⟨g, k * 8 + 3, none⟩ (.int .i64 x.ba)).setCell ⟨g, k * 8 + 4, none⟩ (.int .i64 x.node)).setCell ⟨g, k * 8 + 5, none⟩ (.int .i64 x.life)).setCell ⟨g, k * 8 + 6, none⟩ (.int .i64 x.code)).setCell ⟨g, k * 8 + 7, none⟩ (.int .u64 x.bits)
theorem setRow8_fr (w : World) (g k : Nat) (x : QR) : Fr [g] w (setRow8 w g k x) := by
  unfold setRow8
  exact ((((((((Fr.refl [g] w).setCell (.inl (by simp)) _).setCell (.inl (by simp)) _).setCell (.inl (by simp)) _).setCell (.inl (by simp)) _).setCell (.inl (by simp)) _).setCell (.inl (by simp)) _).setCell (.inl (by simp)) _).setCell (.inl (by simp)) _
theorem setRow8_row {w : World} {g c n k : Nat} {l : List QR} (h : w.ownsRow 0 37 8 (.slice (some ⟨g, 0, none⟩) n c) n (qL.cells l)) (hk : k < l.length) (x : QR) :
    (setRow8 w g k x).ownsRow 0 37 8 (.slice (some ⟨g, 0, none⟩) n c) n (qL.cells (l.set k x)) := by
  have h0 := row_set0 h hk
  generalize qL.nth l k = y at h0
  have h1 := row_setk (q := 0) (x := ⟨x.job, y.st, y.at_, y.ba, y.node, y.life, y.code, y.bits⟩) (v := .int .i64 x.job) h0 hk (by omega) rfl
  have h2 := row_setk (q := 1) (x := ⟨x.job, x.st, y.at_, y.ba, y.node, y.life, y.code, y.bits⟩) (v := .int .i64 x.st) h1 hk (by omega) rfl
  have h3 := row_setk (q := 2) (x := ⟨x.job, x.st, x.at_, y.ba, y.node, y.life, y.code, y.bits⟩) (v := .int .i64 x.at_) h2 hk (by omega) rfl
  have h4 := row_setk (q := 3) (x := ⟨x.job, x.st, x.at_, x.ba, y.node, y.life, y.code, y.bits⟩) (v := .int .i64 x.ba) h3 hk (by omega) rfl
  have h5 := row_setk (q := 4) (x := ⟨x.job, x.st, x.at_, x.ba, x.node, y.life, y.code, y.bits⟩) (v := .int .i64 x.node) h4 hk (by omega) rfl
  have h6 := row_setk (q := 5) (x := ⟨x.job, x.st, x.at_, x.ba, x.node, x.life, y.code, y.bits⟩) (v := .int .i64 x.life) h5 hk (by omega) rfl
  have h7 := row_setk (q := 6) (x := ⟨x.job, x.st, x.at_, x.ba, x.node, x.life, x.code, y.bits⟩) (v := .int .i64 x.code) h6 hk (by omega) rfl
  exact row_setk (q := 7) (x := x) (v := .int .u64 x.bits) h7 hk (by omega) rfl

section
variable {W : Base} {w : World} {R : List Thing}

/-- The list of a queue of the document is another one, in new memory. -/
theorem St.xq_new (H : St W w R) (i : Nat) {X : Nat} {q q' : QS} (hi : R[i]? = some (XqT X q)) :
    ∃ a c, XqIn w X q a c ∧ (a = none → c = 0) ∧ ∀ (w' : World) (rv : Value), Fr [X] w w' → w'.heap[X]? = some (.cells #[.int .i64 q'.att, rv] 79 (0, 0)) → w'.ownsRow 0 37 8 rv q'.rows.length (qL.cells q'.rows) → (∀ x, x ∈ rv.ownBlock.toList → w.heap.size ≤ x) → St W w' (R.set i (XqT X q')) := by
  obtain ⟨F, G, ⟨rv, rfl, rfl, h3, h4⟩, _, hd, hback⟩ := H.atG i hi
  have hlt := lt_of_block h3
  obtain ⟨a, c, rfl, h5, h6, _⟩ := own_slice h4
  refine ⟨a, c, ⟨h3, h5⟩, h6, fun w' rv' hF hX hr hn => hback w' [X] rv'.ownBlock.toList (XqT X q') inferInstance ⟨rv', rfl, rfl, hX, hr⟩ hF (fun x hx => .inl hx) (fun x hx => .inr (.inr (hn x hx))) (fun x hx hx2 => ?_)⟩
  simp at hx
  subst hx
  have := hn x hx2
  omega

set_option maxHeartbeats 1600000 in
set_option maxRecDepth 100000 in
theorem st_xset (H : St W w R) (i : Nat) {X : Nat} {q : QS} (hi : R[i]? = some (XqT X q)) (hl : q.rows.length ≤ 8) (k : Nat) (hk : k < q.rows.length) (x : QR) (hx : x.job = k + 1) :
    Calls Try.prog 59 #[.pointer (some ⟨X, 0, none⟩), .agg #[.int .i64 x.job, .int .i64 x.st, .int .i64 x.at_, .int .i64 x.ba, .int .i64 x.node, .int .i64 x.life, .int .i64 x.code, .int .u64 x.bits]] w fun e w' => e = .returned (.tuple #[]) ∧ St W w' (R.set i (XqT X { q with rows := q.rows.set k x })) := by
  obtain ⟨a, c, hX, hac, hback⟩ := H.xq_new (q' := { q with rows := q.rows.set k x }) i hi
  have c1 := hX.c1
  have hXl := lt_of_block hX.blk
  obtain ⟨b, o, rfl⟩ := hX.inn.sm (by omega)
  obtain ⟨i0, hi0, hz0, hz1, hz2⟩ := info_parts info_qrow
  have HI := hid (And.intro hi0 (And.intro hz0 (And.intro hz1 hz2)))
  have HX := hid hX
  have HB := hid hback
  obtain ⟨job, st, at_, ba, node, life, code, bits⟩ := x
  simp only at hx
  subst hx
  clear hX hback hi0 hz0 hz1 hz2 H hi hac
  go_enter Try.func59, Try.ntmps59
  go_wp2_with (at_builtin; refine wpList_copied rfl (.tmp 5) (.tmp 9) 42 rfl 37 i0 (.agg #[.int .i64 0, .int .i64 0, .int .i64 0, .int .i64 0, .int .i64 0, .int .i64 0, .int .i64 0, .int .u64 0]) 8 64 Try.underlying42 HI.out.1 HI.out.2.1 HI.out.2.2.1 HI.out.2.2.2 rfl (by decide) (w.heap.size + 1) rfl (blk_alloc_at _ _ _ (by simp)) (some ⟨b, o, none⟩) q.rows.length c (qL.at_ q.rows) rfl ?qa (fun j _ => qL.at_one _ j) (by omega) ?_)
  case qa => exact HX.out.inn.fr0 (((Fr.refl [] w).alloc _).alloc _)
  intro g cg w1 ho hF1 hg
  rw [show (List.range (q.rows.length * 8)).map (qL.at_ q.rows) = qL.cells q.rows from qL.range q.rows] at ho
  have hF : Fr [] w w1 := (((Fr.refl [] w).alloc (.cells #[.int .i64 ((k : Int) + 1), .int .i64 st, .int .i64 at_, .int .i64 ba, .int .i64 node, .int .i64 life, .int .i64 code, .int .u64 bits] 37)).alloc (.cells #[] 37)).step hF1 (by intro x hx; simp at hx; subst hx; exact .inr (by omega))
  have hg' : w.heap.size < g := by rcases hg with h | h <;> first | omega | (simp at h; omega)
  have hrb := hF1.keep (blk_alloc_lt (.cells #[] 37) (blk_alloc_at w (.cells #[.int .i64 ((k : Int) + 1), .int .i64 st, .int .i64 at_, .int .i64 ba, .int .i64 node, .int .i64 life, .int .i64 code, .int .u64 bits] 37) _ rfl)) (by simp)
  have c1' := hF.cell0 c1
  have y0 := cell_blk (i := 0) hrb rfl
  have y1 := cell_blk (i := 1) hrb rfl
  have y2 := cell_blk (i := 2) hrb rfl
  have y3 := cell_blk (i := 3) hrb rfl
  have y4 := cell_blk (i := 4) hrb rfl
  have y5 := cell_blk (i := 5) hrb rfl
  have y6 := cell_blk (i := 6) hrb rfl
  have y7 := cell_blk (i := 7) hrb rfl
  have hW := ownsRow_W ho _ (fun j hj => qL.get _ j hj)
  have d0 := hW.cell (k * 8) (by omega)
  have d1 := hW.cell (k * 8 + 1) (by omega)
  have d2 := hW.cell (k * 8 + 2) (by omega)
  have d3 := hW.cell (k * 8 + 3) (by omega)
  have d4 := hW.cell (k * 8 + 4) (by omega)
  have d5 := hW.cell (k * 8 + 5) (by omega)
  have d6 := hW.cell (k * 8 + 6) (by omega)
  have d7 := hW.cell (k * 8 + 7) (by omega)
  have f0 := hW.free (k * 8)
  have f1 := hW.free (k * 8 + 1)
  have f2 := hW.free (k * 8 + 2)
  have f3 := hW.free (k * 8 + 3)
  have f4 := hW.free (k * 8 + 4)
  have f5 := hW.free (k * 8 + 5)
  have f6 := hW.free (k * 8 + 6)
  have f7 := hW.free (k * 8 + 7)
  rw [Nat.zero_add] at d0 d1 d2 d3 d4 d5 d6 d7 f0 f1 f2 f3 f4 f5 f6 f7
  have hXb := hF.keep HX.out.blk (by simp)
  have fX : w1.frozen? ⟨X, 1, none⟩ = false := free_blk hXb
  have HZ := hid (And.intro ho (And.intro hF (And.intro hg' hXb)))
  have hgX : g ≠ X := by omega
  have hgw : g ≠ w.heap.size := by omega
  clear ho hF hF1 hg hrb hW hXb
  go_wp2_with fail
  go_end0
  refine ⟨rfl, ?_⟩
  have h1 := setRow8_row HZ.out.1 hk ⟨(k : Int) + 1, st, at_, ba, node, life, code, bits⟩
  have h2 := setRow8_fr w1 g k ⟨(k : Int) + 1, st, at_, ba, node, life, code, bits⟩
  have h3 := h2.keep HZ.out.2.2.2 (by simp; omega)
  have h4 : Fr [X] w (setRow8 w1 g k ⟨(k : Int) + 1, st, at_, ba, node, life, code, bits⟩) := (HZ.out.2.1.mono (by simp)).step h2 (by intro x hx; simp at hx; subst hx; exact .inr (by have := HZ.out.2.2.1; omega))
  refine HB.out _ (.slice (some ⟨g, 0, none⟩) q.rows.length cg) (h4.setCell (p := ⟨X, 1, none⟩) (.inl (by simp)) _) (by show _ = _; exact blk_setCell_at (i := 1) (.slice (some ⟨g, 0, none⟩) q.rows.length cg) h3) ?_ (by simp [Value.ownBlock]; have := HZ.out.2.2.1; omega)
  simp only [List.length_set]
  exact ownsRow_keep (S := [X]) h1 ((Fr.refl _ _).setCell (.inl (by simp)) _) (fun x hx => by simp [Value.ownBlock] at hx; subst hx; simpa using hgX)

theorem st_xnew (H : St W w R) (n : Int) (h1 : 1 ≤ n) (h2 : n ≤ 8) :
    Calls Try.prog 27 #[.int .i64 n] w fun e w' => ∃ X, e = .returned (.tuple #[.pointer (some ⟨X, 0, none⟩), .int .i64 0]) ∧ St W w' (R ++ [XqT X ⟨n, []⟩]) := by
  have g1 : ¬ n < 1 := by omega
  have g2 : ¬ 8 < n := by omega
  have HH := hid H
  clear H
  go_enter Try.func27, Try.ntmps27
  go_wp2
  go_ret2
  exact ⟨_, rfl, HH.out.newOf (F := [w.heap.size]) (G := []) ((Fr.refl _ _).alloc _) inferInstance ⟨.slice none 0 0, rfl, rfl, blk_alloc_at _ _ _ rfl, World.ownsRow_nil _ _ _ _⟩ (by simp) (by simp) (by simp)⟩

theorem xnew_bad (w : World) (n : Int) (h : n < 1 ∨ 8 < n) :
    Calls Try.prog 27 #[.int .i64 n] w fun e w' => e = .returned (.tuple #[.pointer none, .int .i64 1]) ∧ w = w' := by
  by_cases h1 : n < 1
  · clear h
    go_enter Try.func27, Try.ntmps27
    go_wp2
    go_ret2
    exact ⟨rfl, rfl⟩
  · have h2 : 8 < n := by omega
    clear h
    go_enter Try.func27, Try.ntmps27
    go_wp2
    go_ret2
    exact ⟨rfl, rfl⟩

theorem st_xcopy (H : St W w R) (i : Nat) {X : Nat} {q : QS} (hi : R[i]? = some (XqT X q)) :
    Calls Try.prog 44 #[.pointer (some ⟨X, 0, none⟩)] w fun e w' => ∃ Y, e = .returned (.pointer (some ⟨Y, 0, none⟩)) ∧ St W w' (R ++ [XqT Y q]) := by
  obtain ⟨F, G, ⟨rv, hF, hG, hX, hR⟩, hFW, hd, hback⟩ := H.atG i hi
  subst hF hG
  obtain ⟨a, c, rfl, h5, _⟩ := own_slice hR
  have c0 : w.cell? ⟨X, 0, none⟩ = some (.int .i64 q.att) := cell_blk hX rfl
  have c1 : w.cell? ⟨X, 1, none⟩ = some (.slice a q.rows.length c) := cell_blk hX rfl
  have HB := hid (And.intro hX (And.intro hR H))
  clear hX hR hback hd hFW H h5
  go_enter Try.func44, Try.ntmps44
  go_wp2
  go_ret
  obtain ⟨b1, b2, H⟩ := HB.out
  refine ⟨_, rfl, H.newOf (F := [w.heap.size]) (G := (Value.slice a q.rows.length c).ownBlock.toList) ((Fr.refl _ _).alloc _) inferInstance ⟨_, rfl, rfl, blk_alloc_at _ _ _ rfl, ownsRow_keep (S := []) b2 ((Fr.refl [] _).alloc _) (by simp)⟩ (by simp) (fun x hx => .inr (.inr ⟨i, _, hi, ?_⟩)) ?_⟩
  · rintro F' G' ⟨rv', rfl, rfl, hX', _⟩
    rw [b1] at hX'
    simp only [Option.some.injEq, Obj.cells.injEq, Array.mk.injEq, List.cons.injEq, and_true, true_and] at hX'
    rw [← hX']
    exact hx
  · intro x hx hx2
    simp at hx
    subst hx
    have := ownsRow_lt b2 _ hx2
    omega

set_option maxHeartbeats 1600000 in
set_option maxRecDepth 100000 in
theorem st_xsubmit (H : St W w R) (i : Nat) {X : Nat} {q : QS} (hi : R[i]? = some (XqT X q)) (hl : q.rows.length ≤ 8) :
    Calls Try.prog 55 #[.pointer (some ⟨X, 0, none⟩)] w fun e w' => e = .returned (.tuple #[.int .i64 q.submit.1, .int .i64 q.submit.2.1]) ∧ St W w' (R.set i (XqT X q.submit.2.2)) := by
  have HS := hid (H.set_self hi)
  obtain ⟨a, c, hX, hac, hback⟩ := H.xq_new (q' := q.submit.2.2) i hi
  have c1 := hX.c1
  have hXl := lt_of_block hX.blk
  by_cases h8 : 8 ≤ q.rows.length
  · have e : q.submit = (0, 110, q) := by unfold QS.submit; rw [if_pos h8]
    rw [e]
    have h8' : (8 : Int) < (q.rows.length : Int) + 1 := by omega
    clear e hX hback H hi hac
    go_enter Try.func55, Try.ntmps55
    go_wp2
    go_ret2
    exact ⟨rfl, HS.out⟩
  have e : q.submit = ((q.rows.length : Int) + 1, 0, { q with rows := q.rows ++ [QR.mk (q.rows.length + 1) 1 0 0 0 0 0 0] }) := by unfold QS.submit; rw [if_neg h8]
  rw [e] at hback ⊢
  have h8' : ¬ (8 : Int) < (q.rows.length : Int) + 1 := by omega
  obtain ⟨i0, hi0, hz0, hz1, hz2⟩ := info_parts info_qrow
  have HI := hid (And.intro hi0 (And.intro hz0 (And.intro hz1 hz2)))
  have HX := hid hX
  have HB := hid hback
  clear e hX hback hi0 hz0 hz1 hz2 H hi hac HS
  go_enter Try.func55, Try.ntmps55
  go_wp2_with (at_builtin; refine wpList_copied rfl (.tmp 14) (.tmp 18) 42 rfl 37 i0 (.agg #[.int .i64 0, .int .i64 0, .int .i64 0, .int .i64 0, .int .i64 0, .int .i64 0, .int .i64 0, .int .u64 0]) 8 64 Try.underlying42 HI.out.1 HI.out.2.1 HI.out.2.2.1 HI.out.2.2.2 rfl (by decide) w.heap.size rfl (blk_alloc_at _ _ _ rfl) a q.rows.length c (qL.at_ q.rows) rfl ?qa (fun j _ => qL.at_one _ j) (by omega) ?_)
  case qa => exact HX.out.inn.fr0 ((Fr.refl [] w).alloc _)
  intro g cg w1 ho hF1 hg
  rw [show (List.range (q.rows.length * 8)).map (qL.at_ q.rows) = qL.cells q.rows from qL.range q.rows] at ho
  have hF : Fr [] w w1 := ((Fr.refl [] w).alloc (.cells #[] 37)).step hF1 (by intro x hx; simp at hx; subst hx; exact .inr (Nat.le_refl _))
  have hg' : w.heap.size ≤ g := by rcases hg with h | h <;> first | omega | (simp at h; omega)
  have H1 := hid (And.intro ho (And.intro hF hg'))
  clear ho hF hF1 hg hg'
  go_wp2_with (at_builtin; refine wpList_append_blk rfl (.tmp 19) (.tmp 22) 42 rfl 37 i0 (.agg #[.int .i64 0, .int .i64 0, .int .i64 0, .int .i64 0, .int .i64 0, .int .i64 0, .int .i64 0, .int .u64 0]) 8 64 Try.underlying42 HI.out.1 HI.out.2.1 HI.out.2.2.1 HI.out.2.2.2 rfl (by decide) (.slice (some ⟨g, 0, none⟩) q.rows.length cg) q.rows.length _ rfl (ownsRow_keep (S := []) H1.out.1 ((Fr.refl [] _).alloc _) (by simp)) ⟨w1.heap.size, 0, none⟩ 1 1 (QR.f (QR.mk (q.rows.length + 1) 1 0 0 0 0 0 0)) rfl rfl ?qb ?qc ?qd ?qe ?_)
  case qb => exact news_alloc w1 (QR.f (QR.mk (q.rows.length + 1) 1 0 0 0 0 0 0)) _
  case qc => exact qL.one _
  case qd => unfold maxLen; omega
  case qe => omega
  intro v w2 ho hF hb hn
  obtain ⟨g2, c2, rfl, _⟩ := ownsRow_shape ho (by omega)
  have hs : qL.cells q.rows ++ QR.f (QR.mk (q.rows.length + 1) 1 0 0 0 0 0 0) = qL.cells (q.rows ++ [QR.mk (q.rows.length + 1) 1 0 0 0 0 0 0]) := qL.snoc _ _
  rw [hs] at ho
  have hFw : Fr [] w w2 := (H1.out.2.1.alloc (.cells (QR.f (QR.mk (q.rows.length + 1) 1 0 0 0 0 0 0)).toArray 37)).step hF (by intro x hx; simp [Value.ownBlock] at hx; subst hx; exact .inr H1.out.2.2)
  have hg2 : w.heap.size ≤ g2 := by
    rcases hb g2 (by simp [Value.ownBlock]) with h | h
    · simp [Value.ownBlock] at h; have := H1.out.2.2; omega
    · have := H1.out.2.1.size; first | omega | (simp at h; omega)
  have hXb := hFw.keep HX.out.blk (by simp)
  have fX : w2.frozen? ⟨X, 1, none⟩ = false := free_blk hXb
  have e1 := cell_blk (i := 1) hXb rfl
  have H2 := hid (And.intro ho (And.intro hFw (And.intro hg2 hXb)))
  clear ho hF hb hn hs hFw hg2 hXb
  go_wp2_with fail
  go_ret2
  refine ⟨rfl, HB.out _ (.slice (some ⟨g2, 0, none⟩) (q.rows.length + 1) c2) ((H2.out.2.1.mono (by simp)).setCell (p := ⟨X, 1, none⟩) (.inl (by simp)) _) (by show _ = _; exact blk_setCell_at (i := 1) (.slice (some ⟨g2, 0, none⟩) (q.rows.length + 1) c2) H2.out.2.2.2) ?_ (by simp [Value.ownBlock]; exact H2.out.2.2.1)⟩
  simp only [List.length_append, List.length_singleton]
  exact ownsRow_keep (S := [X]) H2.out.1 ((Fr.refl _ _).setCell (.inl (by simp)) _) (fun x hx => by simp [Value.ownBlock] at hx; subst hx; have := H2.out.2.2.1; simp; omega)

set_option maxHeartbeats 1600000 in
set_option maxRecDepth 100000 in
theorem st_xload (H : St W w R) (n : Int) (hn1 : 1 ≤ n) (hn8 : n ≤ 8) (a : Option Addr) (m cap : Nat) (l : List QR) (hm : l.length = m) (ha : In w 8 a m cap (qL.at_ l)) (hw : (⟨n, l⟩ : QS).wf) :
    Calls Try.prog 31 #[.int .i64 n, .slice a m cap] w fun e w' => ∃ X, e = .returned (.tuple #[.pointer (some ⟨X, 0, none⟩), .int .i64 0]) ∧ St W w' (R ++ [XqT X ⟨n, l⟩]) := by
  subst hm
  have hl8 : l.length ≤ 8 := hw.n
  have HA := hid (fun (wx : World) (hx : Fr [] w wx) => ha.fr0 hx)
  have HW := hid hw
  have H0 := hid H
  obtain ⟨i0, hi0, hz0, hz1, hz2⟩ := info_parts info_qrow
  have HI := hid (And.intro hi0 (And.intro hz0 (And.intro hz1 hz2)))
  clear ha hw hi0 hz0 hz1 hz2 H
  go_enter Try.func31, Try.ntmps31
  go_wp2_with fail
  refine (st_xnew (St.refl w) n hn1 hn8).mono ?_
  rintro e w1 ⟨X, rfl, H1⟩
  have HH := hid H1
  clear H1
  go_wp2_with fail
  refine (st_rowsMay HH.out n hn1 hn8 a _ cap l rfl (HA.out _ HH.out.fr) true ⟨fun _ => HW.out, fun _ => rfl⟩).mono ?_
  clear HH
  rintro e w2 ⟨rfl, H2⟩
  simp only [List.nil_append] at H2
  obtain ⟨a2, c2, hX, _, hback⟩ := H2.xq_new (q' := ⟨n, l⟩) 0 rfl
  have hXl := lt_of_block hX.blk
  have hFr := H2.fr
  have HX := hid (And.intro hX (And.intro hback hFr))
  clear hX hback H2 hFr
  go_wp2_with (at_builtin; refine wpList_copied rfl (.tmp 21) (.tmp 22) 42 rfl 37 i0 (.agg #[.int .i64 0, .int .i64 0, .int .i64 0, .int .i64 0, .int .i64 0, .int .i64 0, .int .i64 0, .int .u64 0]) 8 64 Try.underlying42 HI.out.1 HI.out.2.1 HI.out.2.2.1 HI.out.2.2.2 rfl (by decide) w2.heap.size rfl (blk_alloc_at _ _ _ rfl) a l.length cap (qL.at_ l) rfl ?qa (fun j _ => qL.at_one _ j) (by omega) ?_)
  case qa => exact HA.out _ (HX.out.2.2.alloc _)
  intro g cg w3 ho hF1 hg
  rw [show (List.range (l.length * 8)).map (qL.at_ l) = qL.cells l from qL.range l] at ho
  have hF : Fr [] w2 w3 := ((Fr.refl [] w2).alloc (.cells #[] 37)).step hF1 (by intro x hx; simp at hx; subst hx; exact .inr (Nat.le_refl _))
  have hg' : w2.heap.size ≤ g := by rcases hg with h | h <;> first | omega | (simp at h; omega)
  have hXb := hF.keep HX.out.1.blk (by simp)
  have fX : w3.frozen? ⟨X, 1, none⟩ = false := free_blk hXb
  have e1 := cell_blk (i := 1) hXb rfl
  have H1 := hid (And.intro ho (And.intro hF (And.intro hg' hXb)))
  clear ho hF hF1 hg hg' hXb
  go_wp2_with fail
  go_ret2
  have h1 : St (.of w) (w3.setCell ⟨X, 1, none⟩ (.slice (some ⟨g, 0, none⟩) l.length cg)) [XqT X ⟨n, l⟩] := HX.out.2.1 _ (.slice (some ⟨g, 0, none⟩) l.length cg) ((H1.out.2.1.mono (by simp)).setCell (p := ⟨X, 1, none⟩) (.inl (by simp)) _) (by show _ = _; exact blk_setCell_at (i := 1) (.slice (some ⟨g, 0, none⟩) l.length cg) H1.out.2.2.2) (ownsRow_keep (S := [X]) H1.out.1 ((Fr.refl _ _).setCell (.inl (by simp)) _) (fun x hx => by simp [Value.ownBlock] at hx; subst hx; have := H1.out.2.2.1; simp; omega)) (by simp [Value.ownBlock]; exact H1.out.2.2.1)
  obtain ⟨F, G, hXq, hFb, hFG, _⟩ := h1.atG 0 rfl
  refine ⟨X, rfl, H0.out.newOf h1.fr inferInstance hXq (fun x hx => (hFb x hx).elim (fun h => by cases h) id) (fun x hx => .inl ?_) hFG⟩
  obtain ⟨rv, _, rfl, hb, _⟩ := hXq
  rw [blk_setCell_at (i := 1) (.slice (some ⟨g, 0, none⟩) l.length cg) H1.out.2.2.2] at hb
  simp only [Option.some.injEq, Obj.cells.injEq, and_true] at hb
  have h2 := congrArg (fun c => c[1]?) hb
  simp at h2
  subst h2
  simp [Value.ownBlock] at hx
  subst hx
  have := HX.out.2.2.size
  have := H1.out.2.2.1
  omega

theorem st_xload_bad (H : St W w R) (n : Int) (hn1 : 1 ≤ n) (hn8 : n ≤ 8) (a : Option Addr) (m cap : Nat) (l : List QR) (hm : l.length = m) (ha : In w 8 a m cap (qL.at_ l)) (hw : ¬ (⟨n, l⟩ : QS).wf) :
    Calls Try.prog 31 #[.int .i64 n, .slice a m cap] w fun e w' => e = .returned (.tuple #[.pointer none, .int .i64 114]) ∧ St W w' R := by
  have HA := hid (fun (wx : World) (hx : Fr [] w wx) => ha.fr0 hx)
  have HM := hid hm
  have HW := hid hw
  have H0 := hid H
  clear ha hw hm H
  go_enter Try.func31, Try.ntmps31
  go_wp2_with fail
  refine (st_xnew (St.refl w) n hn1 hn8).mono ?_
  rintro e w1 ⟨X, rfl, H1⟩
  have HH := hid H1
  clear H1
  go_wp2_with fail
  refine (st_rowsMay HH.out n hn1 hn8 a _ cap l HM.out (HA.out _ HH.out.fr) false ⟨(fun h => by cases h), fun h => absurd h HW.out⟩).mono ?_
  clear HH
  rintro e w2 ⟨rfl, H2⟩
  go_wp2_with fail
  go_ret2
  exact ⟨rfl, H0.out.same H2.fr⟩

end
end Go.Proofs.Ythdcpenhfccagaa
