/-
  Merged, in build order: S0 SGs SGt S1 S2 S3 SB.
-/
import Derived.Test.YtmgnekjhlfghaaaM6
import Derived.Test.YtmgnekjhlfghaaaM9
import Derived.Test.YtmgnekjhlfghaaaM17
import Derived.Test.YtmgnekjhlfghaaaM16
/-
  state: a state as plain data; a state as a thing.
-/
namespace Go.Proofs.Ytmgnekjhlfghaaa
open Go.RowKit
set_option linter.unusedVariables false
set_option linter.unusedSimpArgs false

/-- A row of rows of texts. -/
def tL : Lay (List ByteArray × TS) where
  f := fun x => [.slice x.2.a x.1.length x.2.c]
  d := ([], ⟨none, 0⟩)
  sz := 1
  len := fun _ => rfl
  pos := by decide
  one := fun a u hu => by simp at hu; subst hu; rfl

/-- A state. -/
structure SV where
  q : QS
  res : Int
  progs : List ByteArray
  logs : List (List ByteArray)

/-- A log, as a row of the state's own. -/
def lg1 (x : List ByteArray × TS) : Thing1 := Row1 9 1 (.slice x.2.a x.1.length x.2.c) x.1.length (sL.cells x.1)
/-- A state's things. -/
def sk1 (S Q : Nat) (q : QS) (res : Int) (pv : Value) (progs : List ByteArray) (lv : Value) (ll : List (List ByteArray × TS)) : List Thing1 :=
  [Blk1 S (.cells #[.pointer (some ⟨Q, 0, none⟩), .int .i64 res, pv, lv] 65), Qk1 Q q, Row1 9 1 pv progs.length (sL.cells progs), Row1 39 1 lv ll.length (tL.cells ll)] ++ ll.map lg1
def skL (S Q : Nat) (q : QS) (res : Int) (pv : Value) (progs : List ByteArray) (lv : Value) (ll : List (List ByteArray × TS)) : List Thing :=
  [BlkT S (.cells #[.pointer (some ⟨Q, 0, none⟩), .int .i64 res, pv, lv] 65), QkT Q q, RowT 9 1 pv progs.length (sL.cells progs), RowT 39 1 lv ll.length (tL.cells ll)] ++ ll.map fun x => own (lg1 x)
theorem sk1_own (S Q : Nat) (q : QS) (res : Int) (pv : Value) (progs : List ByteArray) (lv : Value) (ll : List (List ByteArray × TS)) : (sk1 S Q q res pv progs lv ll).map own = skL S Q q res pv progs lv ll := by
  simp [sk1, skL, BlkT, QkT, RowT]
theorem sk1_loc (S Q : Nat) (q : QS) (res : Int) (pv : Value) (progs : List ByteArray) (lv : Value) (ll : List (List ByteArray × TS)) : ∀ A, A ∈ sk1 S Q q res pv progs lv ll → Loc1 A := by
  intro A hA
  simp only [sk1, List.cons_append, List.nil_append, List.mem_cons, List.mem_map] at hA
  rcases hA with rfl | rfl | rfl | rfl | ⟨x, _, rfl⟩
  · exact inferInstance
  · exact inferInstance
  · exact inferInstance
  · exact inferInstance
  · exact (inferInstance : Loc1 (Row1 _ _ _ _ _))

/-- A state, as one thing. -/
def Sk1 (S : Nat) (v : SV) : Thing1 := fun w F => ∃ (Q : Nat) (pv lv : Value) (ll : List (List ByteArray × TS)), ll.map (·.1) = v.logs ∧ Pack1 (sk1 S Q v.q v.res pv v.progs lv ll) w F
def SkT (S : Nat) (v : SV) : Thing := own (Sk1 S v)
instance (S : Nat) (v : SV) : Loc1 (Sk1 S v) where
  keep := fun ⟨Q, pv, lv, ll, h1, h2⟩ hF hd => ⟨Q, pv, lv, ll, h1, h2.keep hF hd⟩
  lt := fun ⟨Q, pv, lv, ll, h1, h2⟩ x hx => h2.lt x hx

section
variable {W : Base} {w : World} {R : List Thing}

theorem St.sk (H : St W w R) (i : Nat) {S : Nat} {v : SV} (hi : R[i]? = some (SkT S v)) : ∃ (Q : Nat) (pv lv : Value) (ll : List (List ByteArray × TS)), ll.map (·.1) = v.logs ∧ St W w (R.set i NilT ++ skL S Q v.q v.res pv v.progs lv ll) := by
  obtain ⟨F, ⟨Q, pv, lv, ll, h1, h2⟩, h3⟩ := H.unpackG i hi
  refine ⟨Q, pv, lv, ll, h1, ?_⟩
  have h := h3 _ h2
  rwa [sk1_own] at h
theorem St.skBack {i S Q : Nat} {q : QS} {res : Int} {pv lv : Value} {progs : List ByteArray} {ll : List (List ByteArray × TS)} (hil : i < R.length) (H : St W w (R.set i NilT ++ skL S Q q res pv progs lv ll)) : St W w (R.set i (SkT S ⟨q, res, progs, ll.map (·.1)⟩)) := by
  rw [← sk1_own] at H
  have h := H.packG i (List.getElem?_set_self hil) (sk1_loc _ _ _ _ _ _ _ _) (B := Sk1 S ⟨q, res, progs, ll.map (·.1)⟩) (fun F hP => ⟨Q, pv, lv, ll, rfl, hP⟩)
  rwa [List.set_set] at h
theorem St.skEnd {S Q : Nat} {q : QS} {res : Int} {pv lv : Value} {progs : List ByteArray} {ll : List (List ByteArray × TS)} (H : St W w (R ++ skL S Q q res pv progs lv ll)) : St W w (R ++ [SkT S ⟨q, res, progs, ll.map (·.1)⟩]) := by
  rw [← sk1_own] at H
  exact H.packEnd (sk1_loc _ _ _ _ _ _ _ _) (B := Sk1 S ⟨q, res, progs, ll.map (·.1)⟩) (fun F hP => ⟨Q, pv, lv, ll, rfl, hP⟩)
end
end Go.Proofs.Ytmgnekjhlfghaaa

/-
  slices.Clone, Clip at texts.
-/
namespace Go.Proofs.Ytmgnekjhlfghaaa
open Go.RowKit
set_option linter.unusedVariables false
set_option linter.unusedSimpArgs false

theorem info_gs : (Try.prog.info? 9).map (fun i => (i.zero, i.size, i.bytes)) = some (some (.string ByteArray.empty), 1, 16) := by kernel_rfl

/-- The cells of an element. -/
theorem gs_cells {w : World} {b o n cap : Nat} {l : List ByteArray} (h : In w 1 (some ⟨b, o, none⟩) n cap (sL.at_ l)) (k : Nat) (hk : k < n) :
    w.cell? ⟨b, o + k * 1, none⟩ = some (.string (sL.nth l k)) := by
  have c0 := h.cell b o rfl (k * 1) (by omega)
  rw [show k * 1 = k * sL.sz + 0 from rfl, sL.at_add _ _ 0 (by decide)] at c0
  exact c0

theorem clip_gs (w : World) (a : Option Addr) (n cap : Nat) (h1 : n ≤ cap) (h2 : cap ≤ 9223372036854775807) (h3 : a = none → cap = 0) :
    Calls Try.prog 65 #[.slice a n cap] w fun e w' => e = .returned (.slice a n n) ∧ w = w' := by
  go_enter Try.func65, Try.ntmps65
  go_wp2
  go_ret
  exact ⟨rfl, rfl⟩

set_option maxHeartbeats 800000 in
set_option maxRecDepth 100000 in
theorem clone_gs (w : World) (a : Option Addr) (cap : Nat) (l : List ByteArray) (h : In w 1 a l.length cap (sL.at_ l)) (h0 : a = none → cap = 0) (hn : l.length * 16 ≤ 140737488355328) :
    Calls Try.prog 33 #[.slice a l.length cap] w fun e w' => ∃ a' c', e = .returned (.slice a' l.length c') ∧ Fr [] w w' ∧ w'.ownsRow 0 9 1 (.slice a' l.length c') l.length (sL.cells l) ∧ (∀ x, x ∈ (Value.slice a' l.length c').ownBlock.toList → w.heap.size ≤ x) ∧ (a' = none → c' = 0) := by
  rcases a with _ | ⟨b, off, sp⟩
  · have hn0 : l = [] := by
      rcases Nat.eq_zero_or_pos l.length with h1 | h1
      · exact List.length_eq_zero_iff.1 h1
      · obtain ⟨b, o, e⟩ := h.sm h1; cases e
    subst hn0
    obtain rfl := h0 rfl
    have heq := fun w1 => Lib.run_eql_slice_nil (P := Try.prog) w1 39 9 none 0 0 0 0 Try.underlying39
    clear h
    go_enter Try.func33, Try.ntmps33
    go_wp2
    go_ret
    exact ⟨none, 0, rfl, Fr.refl _ _, World.ownsRow_nil _ _ _ _, by simp [Value.ownBlock], fun _ => rfl⟩
  · obtain ⟨i0, hi, hz0, hz1, hz2⟩ := info_parts info_gs
    have HI := hid (And.intro hi (And.intro hz0 (And.intro hz1 hz2)))
    have H := hid h
    have hlm := h.max
    clear hi hz0 hz1 hz2 h
    have heq := fun w1 => Lib.run_eql_slice_nil (P := Try.prog) w1 39 9 (some ⟨b, off, sp⟩) l.length cap 0 0 Try.underlying39
    go_enter Try.func33, Try.ntmps33
    go_wp2_with (at_builtin; refine wpList_copied rfl (.tmp 5) (.tmp 6) 39 rfl 9 i0 (.string ByteArray.empty) 1 16 Try.underlying39 HI.out.1 HI.out.2.1 HI.out.2.2.1 HI.out.2.2.2 rfl (by decide) w.heap.size rfl (blk_alloc_at _ _ _ rfl) (some ⟨b, off, sp⟩) l.length cap (sL.at_ l) rfl ?qa (fun j _ => sL.at_one _ j) (by omega) ?_)
    case qa => exact H.out.fr0 ((Fr.refl [] w).alloc _)
    intro g cg w1 ho hF1 hg
    have hr : (List.range (l.length * 1)).map (sL.at_ l) = sL.cells l := sL.range l
    first | rw [hr] at ho | (simp only [Nat.mul_one] at hr ho; rw [hr] at ho)
    have hF : Fr [] w w1 := ((Fr.refl [] w).alloc (.cells #[] 9)).step hF1 (by intro x hx; simp at hx; subst hx; exact .inr (Nat.le_refl _))
    have hg' : w.heap.size ≤ g := by rcases hg with h | h <;> first | omega | (simp at h; omega)
    have HZ := hid (And.intro ho (And.intro hF hg'))
    clear ho hF hF1 hg hg'
    go_wp2_with fail
    go_ret
    exact ⟨some ⟨g, 0, none⟩, cg, rfl, HZ.out.2.1, HZ.out.1, by simpa [Value.ownBlock] using HZ.out.2.2, fun h => by cases h⟩

end Go.Proofs.Ytmgnekjhlfghaaa

/-
  slices.Clone at rows of texts.
-/
namespace Go.Proofs.Ytmgnekjhlfghaaa
open Go.RowKit
set_option linter.unusedVariables false
set_option linter.unusedSimpArgs false

theorem info_gt : (Try.prog.info? 39).map (fun i => (i.zero, i.size, i.bytes)) = some (some (.slice none 0 0), 1, 24) := by kernel_rfl

/-- The cells of an element. -/
theorem gt_cells {w : World} {b o n cap : Nat} {l : List (List ByteArray × TS)} (h : In w 1 (some ⟨b, o, none⟩) n cap (tL.at_ l)) (k : Nat) (hk : k < n) :
    w.cell? ⟨b, o + k * 1, none⟩ = some (.slice (tL.nth l k).2.a (tL.nth l k).1.length (tL.nth l k).2.c) := by
  have c0 := h.cell b o rfl (k * 1) (by omega)
  rw [show k * 1 = k * tL.sz + 0 from rfl, tL.at_add _ _ 0 (by decide)] at c0
  exact c0

set_option maxHeartbeats 800000 in
set_option maxRecDepth 100000 in
theorem clone_gt (w : World) (a : Option Addr) (cap : Nat) (l : List (List ByteArray × TS)) (h : In w 1 a l.length cap (tL.at_ l)) (h0 : a = none → cap = 0) (hn : l.length * 24 ≤ 140737488355328) :
    Calls Try.prog 34 #[.slice a l.length cap] w fun e w' => ∃ a' c', e = .returned (.slice a' l.length c') ∧ Fr [] w w' ∧ w'.ownsRow 0 39 1 (.slice a' l.length c') l.length (tL.cells l) ∧ (∀ x, x ∈ (Value.slice a' l.length c').ownBlock.toList → w.heap.size ≤ x) ∧ (a' = none → c' = 0) := by
  rcases a with _ | ⟨b, off, sp⟩
  · have hn0 : l = [] := by
      rcases Nat.eq_zero_or_pos l.length with h1 | h1
      · exact List.length_eq_zero_iff.1 h1
      · obtain ⟨b, o, e⟩ := h.sm h1; cases e
    subst hn0
    obtain rfl := h0 rfl
    have heq := fun w1 => Lib.run_eql_slice_nil (P := Try.prog) w1 63 39 none 0 0 0 0 Try.underlying63
    clear h
    go_enter Try.func34, Try.ntmps34
    go_wp2
    go_ret
    exact ⟨none, 0, rfl, Fr.refl _ _, World.ownsRow_nil _ _ _ _, by simp [Value.ownBlock], fun _ => rfl⟩
  · obtain ⟨i0, hi, hz0, hz1, hz2⟩ := info_parts info_gt
    have HI := hid (And.intro hi (And.intro hz0 (And.intro hz1 hz2)))
    have H := hid h
    have hlm := h.max
    clear hi hz0 hz1 hz2 h
    have heq := fun w1 => Lib.run_eql_slice_nil (P := Try.prog) w1 63 39 (some ⟨b, off, sp⟩) l.length cap 0 0 Try.underlying63
    go_enter Try.func34, Try.ntmps34
    go_wp2_with (at_builtin; refine wpList_copied rfl (.tmp 5) (.tmp 6) 63 rfl 39 i0 (.slice none 0 0) 1 24 Try.underlying63 HI.out.1 HI.out.2.1 HI.out.2.2.1 HI.out.2.2.2 rfl (by decide) w.heap.size rfl (blk_alloc_at _ _ _ rfl) (some ⟨b, off, sp⟩) l.length cap (tL.at_ l) rfl ?qa (fun j _ => tL.at_one _ j) (by omega) ?_)
    case qa => exact H.out.fr0 ((Fr.refl [] w).alloc _)
    intro g cg w1 ho hF1 hg
    have hr : (List.range (l.length * 1)).map (tL.at_ l) = tL.cells l := tL.range l
    first | rw [hr] at ho | (simp only [Nat.mul_one] at hr ho; rw [hr] at ho)
    have hF : Fr [] w w1 := ((Fr.refl [] w).alloc (.cells #[] 39)).step hF1 (by intro x hx; simp at hx; subst hx; exact .inr (Nat.le_refl _))
    have hg' : w.heap.size ≤ g := by rcases hg with h | h <;> first | omega | (simp at h; omega)
    have HZ := hid (And.intro ho (And.intro hF hg'))
    clear ho hF hF1 hg hg'
    go_wp2_with fail
    go_ret
    exact ⟨some ⟨g, 0, none⟩, cg, rfl, HZ.out.2.1, HZ.out.1, by simpa [Value.ownBlock] using HZ.out.2.2, fun h => by cases h⟩

end Go.Proofs.Ytmgnekjhlfghaaa

/-
  state: rows as things: their clones; small laws.
-/
namespace Go.Proofs.Ytmgnekjhlfghaaa
open Go.RowKit
set_option linter.unusedVariables false
set_option linter.unusedSimpArgs false

section
variable {W : Base} {w : World} {R : List Thing}

theorem St.rowShape (H : St W w R) (i : Nat) {e : TypeId} {sz n : Nat} {v : Value} {xs : List Value} (hi : R[i]? = some (RowT e sz v n xs)) : ∃ a c, v = .slice a n c ∧ (a = none → c = 0) ∧ n ≤ c ∧ c ≤ maxLen ∧ (0 < n → ∃ g, a = some ⟨g, 0, none⟩) := by
  rcases ownsRow_one (H.row i hi) with ⟨h1, h2, _⟩ | ⟨g, c, h1, h2, h3⟩
  · subst h2; exact ⟨none, 0, h1, fun _ => rfl, Nat.le_refl _, by decide, fun h => absurd h (Nat.lt_irrefl _)⟩
  · exact ⟨_, c, h1, fun h => by (cases h), h2, h3, fun _ => ⟨g, rfl⟩⟩
theorem St.lay {α : Type} (L : Lay α) (H : St W w R) (i : Nat) {e : TypeId} {a : Option Addr} {c : Nat} {l : List α} (hi : R[i]? = some (RowT e L.sz (.slice a l.length c) l.length (L.cells l))) : In w L.sz a l.length c (L.at_ l) := by
  obtain ⟨a', c', h1, h2⟩ := ownsRow_In (H.row i hi) (L.at_ l) (fun j hj => L.get l j hj)
  simp only [Value.slice.injEq, true_and] at h1
  rw [h1.1, h1.2]; exact h2.1

theorem st_clone_gs (H : St W w R) (i : Nat) {a : Option Addr} {c : Nat} {l : List ByteArray} (hi : R[i]? = some (RowT 9 1 (.slice a l.length c) l.length (sL.cells l))) (hn : l.length ≤ 1000) :
    Calls Try.prog 33 #[.slice a l.length c] w fun e w' => ∃ a' c', e = .returned (.slice a' l.length c') ∧ St W w' (R ++ [RowT 9 1 (.slice a' l.length c') l.length (sL.cells l)]) := by
  obtain ⟨a1, c1, h1, h2, _⟩ := H.rowShape i hi
  simp only [Value.slice.injEq, true_and] at h1
  obtain ⟨rfl, rfl⟩ := h1
  refine (clone_gs w a c l (H.lay sL i hi) h2 (by omega)).mono ?_
  rintro e w' ⟨a', c', rfl, hF, ho, hb, _⟩
  exact ⟨a', c', rfl, H.new (A := Row1 9 1 (.slice a' l.length c') l.length (sL.cells l)) hF inferInstance ⟨rfl, ho⟩ hb⟩
theorem st_clone_gt (H : St W w R) (i : Nat) {a : Option Addr} {c : Nat} {l : List (List ByteArray × TS)} (hi : R[i]? = some (RowT 39 1 (.slice a l.length c) l.length (tL.cells l))) (hn : l.length ≤ 1000) :
    Calls Try.prog 34 #[.slice a l.length c] w fun e w' => ∃ a' c', e = .returned (.slice a' l.length c') ∧ St W w' (R ++ [RowT 39 1 (.slice a' l.length c') l.length (tL.cells l)]) := by
  obtain ⟨a1, c1, h1, h2, _⟩ := H.rowShape i hi
  simp only [Value.slice.injEq, true_and] at h1
  obtain ⟨rfl, rfl⟩ := h1
  refine (clone_gt w a c l (H.lay tL i hi) h2 (by omega)).mono ?_
  rintro e w' ⟨a', c', rfl, hF, ho, hb, _⟩
  exact ⟨a', c', rfl, H.new (A := Row1 39 1 (.slice a' l.length c') l.length (tL.cells l)) hF inferInstance ⟨rfl, ho⟩ hb⟩
end
end Go.Proofs.Ytmgnekjhlfghaaa

/-
  state: what changes do: plain. Of no program's memory.
-/
namespace Go.Proofs.Ytmgnekjhlfghaaa
set_option linter.unusedVariables false
set_option linter.unusedSimpArgs false

structure SV.wf (v : SV) : Prop where
  q : v.q.wf
  np : v.progs.length = v.q.rows.length
  nl : v.logs.length = v.q.rows.length
  res : 0 ≤ v.res ∧ v.res ≤ 1099511627776
  pr : ∀ p, p ∈ v.progs → 1 ≤ p.size ∧ p.size ≤ 1024
  lg : ∀ l, l ∈ v.logs → l.length ≤ 32 ∧ ∀ t, t ∈ l → t.size ≤ 32
  bd : ∀ x, x ∈ v.q.rows → x.ba ≤ v.res
  at0 : ∀ k, k < v.q.rows.length → (qL.nth v.q.rows k).at_ = 0 → v.logs.getD k [] = []
  bt : ∀ x, x ∈ v.q.rows → 0 ≤ x.bits ∧ x.bits < 18446744073709551616

def SV.reserve (v : SV) (n : Int) : Option SV := if n ≤ v.res then none else some { v with res := n }
def SV.submit (v : SV) (job : Int) (p : ByteArray) : Option SV :=
  if job ≠ (v.progs.length : Int) + 1 then none else if v.q.submit.2.1 ≠ 0 then none else some { v with q := v.q.submit.2.2, progs := v.progs ++ [p], logs := v.logs ++ [[]] }
def SV.grant (v : SV) (job badge slot life : Int) : Option SV :=
  if v.res < badge then none else if (v.q.grant job badge (2 + slot) life).1 ≠ 0 then none else some { v with q := (v.q.grant job badge (2 + slot) life).2, logs := v.logs.set (job - 1).toNat [] }
def SV.log (v : SV) (badge : Int) (ts : List ByteArray) : Option SV :=
  if (v.q.find badge).2 = false then none else if (v.q.find badge).1.st ≠ 2 then none
  else if 32 < (v.logs.getD ((v.q.find badge).1.job - 1).toNat []).length + ts.length then none
  else some { v with logs := v.logs.set ((v.q.find badge).1.job - 1).toNat (v.logs.getD ((v.q.find badge).1.job - 1).toNat [] ++ ts) }
def SV.expire (v : SV) (badge : Int) : Option SV := if (v.q.expire badge).2.1 ≠ 0 then none else some { v with q := (v.q.expire badge).2.2 }
def SV.settle (v : SV) (badge code bits : Int) : Option SV := if (v.q.settle badge code bits).2.1 ≠ 0 then none else some { v with q := (v.q.settle badge code bits).2.2 }
/-- A change is done, if it may come. -/
def SV.does (v : SV) (c : CV) : Option SV :=
  if c.kind = 1 then v.reserve c.n else if c.kind = 2 then v.submit c.job c.prog else if c.kind = 3 then v.grant c.job c.badge c.slot c.life
  else if c.kind = 4 then v.log c.badge c.texts else if c.kind = 5 then v.expire c.badge else v.settle c.badge c.code c.bits
def SV.one (v : SV) (c : CV) : Option SV := if c.check = 0 then v.does c else none
/-- Changes, one behind the other; of an error which one. -/
def SV.go : SV → List CV → Nat → Except Nat SV
  | v, [], _ => .ok v
  | v, c :: l, i => match v.one c with
    | none => .error i
    | some v' => SV.go v' l (i + 1)
def SV.new (n : Int) : SV := ⟨⟨n, []⟩, 0, [], []⟩

theorem new_wf {n : Int} (h1 : 1 ≤ n) (h2 : n ≤ 8) : (SV.new n).wf :=
  ⟨qnew_wf h1 h2, rfl, rfl, by simp [SV.new], by simp [SV.new], by simp [SV.new], by simp [SV.new], fun k hk => by simp [SV.new] at hk, by simp [SV.new]⟩

theorem reserve_wf {v v' : SV} (hv : v.wf) {n : Int} (hn : n ≤ 1099511627776) (h : v.reserve n = some v') : v'.wf := by
  unfold SV.reserve at h
  split at h
  · cases h
  · next hlt =>
    cases h
    exact ⟨hv.q, hv.np, hv.nl, ⟨by have := hv.res; show 0 ≤ n; omega, hn⟩, hv.pr, hv.lg, fun x hx => by have := hv.bd x hx; show x.ba ≤ n; omega, hv.at0, hv.bt⟩

theorem submit_svwf {v v' : SV} (hv : v.wf) {job : Int} {p : ByteArray} (hp : 1 ≤ p.size ∧ p.size ≤ 1024) (h : v.submit job p = some v') : v'.wf := by
  unfold SV.submit at h
  split at h
  · cases h
  · split at h
    · cases h
    · next hj he =>
      cases h
      have hw := submit_wf hv.q
      have hr : v.q.submit.2.2 = { v.q with rows := v.q.rows ++ [QR.mk (v.q.rows.length + 1) 1 0 0 0 0 0 0] } := by
        unfold QS.submit at he ⊢
        split
        · next h8 => rw [if_pos h8] at he; exact (he (by simp)).elim
        · rfl
      refine ⟨hw, ?_, ?_, hv.res, ?_, ?_, ?_, ?_, ?_⟩
      · rw [hr]; simp [hv.np]
      · rw [hr]; simp [hv.nl]
      · intro x hx
        rcases List.mem_append.1 hx with h | h
        · exact hv.pr x h
        · rw [List.mem_singleton.1 h]; exact hp
      · intro x hx
        rcases List.mem_append.1 hx with h | h
        · exact hv.lg x h
        · rw [List.mem_singleton.1 h]; simp
      · intro x hx
        rw [hr] at hx
        rcases List.mem_append.1 hx with h | h
        · exact hv.bd x h
        · rw [List.mem_singleton.1 h]; exact hv.res.1
      · intro k hk h0
        rw [hr] at hk h0
        simp only [List.length_append, List.length_singleton] at hk
        rw [qL.nth_snoc] at h0
        by_cases hkl : k = v.q.rows.length
        · subst hkl
          simp [List.getD, ← hv.nl]
        · rw [if_neg hkl] at h0
          have := hv.at0 k (by omega) h0
          rw [List.getD, List.getElem?_append_left (by rw [hv.nl]; omega)]
          exact this
      · intro x hx
        rw [hr] at hx
        rcases List.mem_append.1 hx with h | h
        · exact hv.bt x h
        · rw [List.mem_singleton.1 h]; exact ⟨Int.le_refl 0, by show (0 : Int) < 18446744073709551616; decide⟩

theorem nth_mem {l : List QR} {k : Nat} (hk : k < l.length) : qL.nth l k ∈ l := qL.mem_nth hk
theorem mem_set' {α : Type} {l : List α} {k : Nat} {x y : α} (h : x ∈ l.set k y) : x ∈ l ∨ x = y := by
  rcases List.mem_or_eq_of_mem_set h with h | h
  · exact .inl h
  · exact .inr h

theorem grant_svwf {v v' : SV} (hv : v.wf) {job badge slot life : Int} (h : v.grant job badge slot life = some v') : v'.wf := by
  unfold SV.grant at h
  split at h
  · cases h
  · split at h
    · cases h
    · next hb he =>
      cases h
      have hw := grant_wf hv.q job badge (2 + slot) life
      obtain ⟨hj, hr⟩ : (1 ≤ job ∧ job ≤ v.q.rows.length) ∧ (v.q.grant job badge (2 + slot) life).2 = { v.q with rows := v.q.rows.set (job - 1).toNat { qL.nth v.q.rows (job - 1).toNat with st := 2, ba := badge, node := 2 + slot, life := life, at_ := (qL.nth v.q.rows (job - 1).toNat).at_ + 1 } } := by
        unfold QS.grant at he ⊢
        split
        · next h1 => rw [if_pos h1] at he; exact (he (by simp)).elim
        · next h1 =>
          rw [if_neg h1] at he
          split
          · next h2 => rw [if_pos h2] at he; exact (he (by simp)).elim
          · next h2 =>
            rw [if_neg h2] at he
            split
            · next h3 => rw [if_pos h3] at he; exact (he (by simp)).elim
            · next h3 =>
              rw [if_neg h3] at he
              split
              · next h4 => rw [if_pos h4] at he; exact (he (by simp)).elim
              · exact ⟨by omega, rfl⟩
      refine ⟨hw, ?_, ?_, hv.res, hv.pr, ?_, ?_, ?_, ?_⟩
      · rw [hr]; simp [hv.np]
      · rw [hr]; simp [hv.nl]
      · intro x hx
        rcases mem_set' hx with h | h
        · exact hv.lg x h
        · rw [h]; simp
      · intro x hx
        rw [hr] at hx
        rcases mem_set' hx with h | h
        · exact hv.bd x h
        · rw [h]; show badge ≤ v.res; omega
      · intro k hk h0
        rw [hr] at hk h0
        simp only [List.length_set] at hk
        by_cases hkj : k = (job - 1).toNat
        · subst hkj
          show (v.logs.set (job - 1).toNat []).getD (job - 1).toNat [] = []
          rw [List.getD, List.getElem?_set_self (by rw [hv.nl]; exact hk)]; rfl
        · rw [qL.nth_set _ _ _ _ (by omega), if_neg hkj] at h0
          have := hv.at0 k hk h0
          simp only [List.getD, List.getElem?_set_ne (Ne.symm hkj)] at this ⊢
          exact this
      · intro x hx
        rw [hr] at hx
        rcases mem_set' hx with h | h
        · exact hv.bt x h
        · have hm : qL.nth v.q.rows (job - 1).toNat ∈ v.q.rows := nth_mem (by omega)
          have h2 := hv.bt _ hm
          rw [h]; exact h2

theorem log_svwf {v v' : SV} (hv : v.wf) {badge : Int} {ts : List ByteArray} (ht : ∀ t, t ∈ ts → t.size ≤ 32) (h : v.log badge ts = some v') : v'.wf := by
  unfold SV.log at h
  split at h
  · cases h
  · split at h
    · cases h
    · split at h
      · cases h
      · next h1 h2 h3 =>
        cases h
        obtain ⟨k, hk⟩ : ∃ k, ((v.q.find badge).1.job - 1).toNat = k := ⟨_, rfl⟩
        simp only [hk] at h3 ⊢
        have hfk : (v.q.find badge).1 ∈ v.q.rows ∧ (v.q.find badge).1 = qL.nth v.q.rows k ∧ k < v.q.rows.length := by
          unfold QS.find QS.row at h1 hk ⊢
          split
          · next hh => rw [if_pos hh] at h1; exact absurd rfl h1
          · next hh =>
            rw [if_neg hh] at hk
            have hb := fIdx_bd (QR.pFind badge) v.q.rows
            have hm := may_facts (hv.q.ok (fIdx (QR.pFind badge) v.q.rows + 1 - 1).toNat (by omega))
            have e : (fIdx (QR.pFind badge) v.q.rows + 1 - 1).toNat = k := by
              rw [hm.1] at hk; omega
            rw [e]
            refine ⟨nth_mem (by omega), rfl, by omega⟩
        refine ⟨hv.q, hv.np, by simp [hv.nl], hv.res, hv.pr, ?_, hv.bd, ?_, hv.bt⟩
        · intro x hx
          rcases mem_set' hx with h | h
          · exact hv.lg x h
          · subst h
            have hl : v.logs.getD k [] ∈ v.logs := by
              rw [List.getD, List.getElem?_eq_getElem (by rw [hv.nl]; exact hfk.2.2)]
              exact List.getElem_mem _
            refine ⟨by rw [List.length_append]; omega, fun t h => ?_⟩
            rcases List.mem_append.1 h with h | h
            · exact (hv.lg _ hl).2 t h
            · exact ht t h
        · intro j hj h0
          by_cases hjk : j = k
          · subst hjk
            exfalso
            have hm := may_facts (hv.q.ok j hj)
            have h2' : (qL.nth v.q.rows j).st = 2 := by rw [← hfk.2.1]; exact Classical.not_not.1 h2
            have h5 := hm.2.2.2.2.2.2.2
            rw [kc_2 h2'] at h5
            simp only [Bool.and_eq_true, decide_eq_true_eq] at h5
            have h0' : (qL.nth v.q.rows j).at_ = 0 := h0
            omega
          · have := hv.at0 j hj h0
            simp only [List.getD, List.getElem?_set_ne (Ne.symm hjk)] at this ⊢
            exact this

theorem expire_svwf {v v' : SV} (hv : v.wf) {badge : Int} (h : v.expire badge = some v') : v'.wf := by
  unfold SV.expire at h
  split at h
  · cases h
  · next he =>
    cases h
    have hw := expire_wf hv.q badge
    have hr : ∃ k x, k < v.q.rows.length ∧ (v.q.expire badge).2.2 = { v.q with rows := v.q.rows.set k x } ∧ x.ba = (qL.nth v.q.rows k).ba ∧ x.at_ = (qL.nth v.q.rows k).at_ ∧ x.bits = (qL.nth v.q.rows k).bits := by
      unfold QS.expire at he ⊢
      split
      · next h1 => rw [if_pos h1] at he; exact (he (by simp)).elim
      · next h1 => have hb := fIdx_bd (QR.pHeld badge) v.q.rows; exact ⟨_, _, by omega, rfl, rfl, rfl, rfl⟩
    obtain ⟨k, x, hk, hr, hx1, hx2, hx3⟩ := hr
    exact set_svwf hv hw hk hr hx1 hx2 (by rw [hx3]; exact hv.bt _ (nth_mem hk))
where
  set_svwf {v : SV} (hv : v.wf) {q' : QS} (hw : q'.wf) {k : Nat} {x : QR} (hk : k < v.q.rows.length) (hr : q' = { v.q with rows := v.q.rows.set k x }) (h1 : x.ba = (qL.nth v.q.rows k).ba) (h2 : x.at_ = (qL.nth v.q.rows k).at_) (h3 : 0 ≤ x.bits ∧ x.bits < 18446744073709551616) : ({ v with q := q' } : SV).wf := by
    refine ⟨hw, by rw [hr]; simp [hv.np], by rw [hr]; simp [hv.nl], hv.res, hv.pr, hv.lg, ?_, ?_, ?_⟩
    · intro y hy
      rw [hr] at hy
      rcases mem_set' hy with h | h
      · exact hv.bd y h
      · rw [h, h1]; exact hv.bd _ (nth_mem hk)
    · intro j hj h0
      rw [hr] at hj h0
      simp only [List.length_set] at hj
      rw [qL.nth_set _ _ _ _ hk] at h0
      split at h0
      · next e => subst e; exact hv.at0 j hj (by rw [← h2]; exact h0)
      · exact hv.at0 j hj h0
    · intro y hy
      rw [hr] at hy
      rcases mem_set' hy with h | h
      · exact hv.bt y h
      · rw [h]; exact h3

theorem settle_svwf {v v' : SV} (hv : v.wf) {badge code bits : Int} (hb : 0 ≤ bits ∧ bits < 18446744073709551616) (h : v.settle badge code bits = some v') : v'.wf := by
  unfold SV.settle at h
  split at h
  · cases h
  · next he =>
    cases h
    have hw := settle_wf hv.q badge code bits
    have hr : ∃ k x, k < v.q.rows.length ∧ (v.q.settle badge code bits).2.2 = { v.q with rows := v.q.rows.set k x } ∧ x.ba = (qL.nth v.q.rows k).ba ∧ x.at_ = (qL.nth v.q.rows k).at_ ∧ x.bits = bits := by
      unfold QS.settle at he ⊢
      split
      · next h1 => rw [if_pos h1] at he; exact (he (by simp)).elim
      · next h1 =>
        rw [if_neg h1] at he
        split
        · next h2 => rw [if_pos h2] at he; exact (he (by simp)).elim
        · have hb := fIdx_bd (QR.pHeld badge) v.q.rows; exact ⟨_, _, by omega, rfl, rfl, rfl, rfl⟩
    obtain ⟨k, x, hk, hr, hx1, hx2, hx3⟩ := hr
    exact expire_svwf.set_svwf hv hw hk hr hx1 hx2 (by rw [hx3]; exact hb)

theorem one_wf {v v' : SV} (hv : v.wf) {c : CV} (hb : 0 ≤ c.bits ∧ c.bits < 18446744073709551616) (h : v.one c = some v') : v'.wf := by
  unfold SV.one at h
  split at h
  · next hc =>
    obtain ⟨hk, c1, c2, c3, c4, c5, c6, c7⟩ := check_iff.1 hc
    have hk' : c.kind = 1 ∨ c.kind = 2 ∨ c.kind = 3 ∨ c.kind = 4 ∨ c.kind = 5 ∨ c.kind = 6 := by omega
    unfold SV.does at h
    rcases hk' with e | e | e | e | e | e <;> rw [e] at h c1 c2 c3 c4 c5 c6 c7
    · rw [if_pos rfl] at h
      exact reserve_wf hv (by rw [if_pos (by decide)] at c1; exact c1.2) h
    · rw [if_neg (by decide), if_pos rfl] at h
      exact submit_svwf hv (by rw [if_pos (by decide)] at c3; exact c3) h
    · rw [if_neg (by decide), if_neg (by decide), if_pos rfl] at h
      exact grant_svwf hv h
    · rw [if_neg (by decide), if_neg (by decide), if_neg (by decide), if_pos rfl] at h
      exact log_svwf hv (by rw [if_pos (by decide)] at c6; exact c6.2) h
    · rw [if_neg (by decide), if_neg (by decide), if_neg (by decide), if_neg (by decide), if_pos rfl] at h
      exact expire_svwf hv h
    · rw [if_neg (by decide), if_neg (by decide), if_neg (by decide), if_neg (by decide), if_neg (by decide)] at h
      exact settle_svwf hv hb h
  · cases h
theorem go_wf {l : List CV} : (∀ c, c ∈ l → 0 ≤ c.bits ∧ c.bits < 18446744073709551616) → ∀ {v v' : SV} {i : Nat}, v.wf → v.go l i = .ok v' → v'.wf := by
  induction l with
  | nil => intro _ v v' i hv h; cases h; exact hv
  | cons c l ih =>
    intro hb v v' i hv h
    rw [SV.go] at h
    split at h
    · cases h
    · next v1 h1 => exact ih (fun c hc => hb c (List.mem_cons_of_mem _ hc)) (one_wf hv (hb _ List.mem_cons_self) h1) h
end Go.Proofs.Ytmgnekjhlfghaaa

/-
  state: reserve, submit, grant, expire, settle.
-/
namespace Go.Proofs.Ytmgnekjhlfghaaa
open Go.RowKit
set_option linter.unusedVariables false
set_option linter.unusedSimpArgs false

section
variable {W : Base} {w : World} {R : List Thing}

/-- What a change's doing comes to. -/
def DoTo (W : Base) (R : List Thing) (i S : Nat) (o : Option SV) (e : Ending) (w' : World) : Prop :=
  ∃ v', e = .returned (.bool o.isSome) ∧ St W w' (R.set i (SkT S v')) ∧ ∀ u, o = some u → v' = u
theorem DoTo.no {i S : Nat} {o : Option SV} {w' : World} {v : SV} (h : o = none) (H : St W w' (R.set i (SkT S v))) : DoTo W R i S o (.returned (.bool false)) w' := by
  subst h; exact ⟨v, rfl, H, fun u hu => by cases hu⟩
theorem DoTo.yes {i S : Nat} {o : Option SV} {w' : World} {v : SV} (h : o = some v) (H : St W w' (R.set i (SkT S v))) : DoTo W R i S o (.returned (.bool true)) w' := by
  subst h; exact ⟨v, rfl, H, fun u hu => by cases hu; rfl⟩

/-- The change's block, boxed. -/
abbrev chO (c : CV) (t : TS) : Obj := .cells #[.int .i64 c.kind, .int .i64 c.n, .int .i64 c.job, .int .i64 c.badge, .int .i64 c.slot, .int .i64 c.life, .int .i64 c.code, .int .u64 c.bits, .string c.prog, .slice t.a c.texts.length t.c] 41

variable {S Q : Nat} {q : QS} {res : Int} {pv lv : Value} {progs : List ByteArray} {ll : List (List ByteArray × TS)}
theorem St.skS (H : St W w (R ++ skL S Q q res pv progs lv ll)) : w.heap[S]? = some (.cells #[.pointer (some ⟨Q, 0, none⟩), .int .i64 res, pv, lv] 65 (0, 0)) := H.blk (R.length + 0) (by rw [get_behind]; rfl)
theorem St.skSet (H : St W w (R ++ skL S Q q res pv progs lv ll)) (k : Nat) (u : Value) {Q' : Nat} {res' : Int} {pv' lv' : Value} (h : (#[.pointer (some ⟨Q, 0, none⟩), .int .i64 res, pv, lv] : Array Value).setIfInBounds k u = #[.pointer (some ⟨Q', 0, none⟩), .int .i64 res', pv', lv']) :
    St W (w.setCell ⟨S, k, none⟩ u) (R ++ (BlkT S (.cells #[.pointer (some ⟨Q', 0, none⟩), .int .i64 res', pv', lv'] 65) :: (skL S Q q res pv progs lv ll).tail)) := by
  have h1 := H.setBlk (R.length + 0) (by rw [get_behind]; rfl) k u
  rw [List.set_append_right _ _ (by omega), Nat.add_sub_cancel_left, h] at h1
  exact h1

theorem sk_get1 : (R ++ skL S Q q res pv progs lv ll)[R.length + 1]? = some (QkT Q q) := by rw [get_behind]; rfl
theorem sk_get2 : (R ++ skL S Q q res pv progs lv ll)[R.length + 2]? = some (RowT 9 1 pv progs.length (sL.cells progs)) := by rw [get_behind]; rfl
theorem sk_get3 : (R ++ skL S Q q res pv progs lv ll)[R.length + 3]? = some (RowT 39 1 lv ll.length (tL.cells ll)) := by rw [get_behind]; rfl
theorem sk_getL {k : Nat} {x : List ByteArray × TS} (hx : ll[k]? = some x) : (R ++ skL S Q q res pv progs lv ll)[R.length + (4 + k)]? = some (RowT 9 1 (.slice x.2.a x.1.length x.2.c) x.1.length (sL.cells x.1)) := by
  rw [get_behind]
  unfold skL
  rw [List.getElem?_append_right (by simp), List.getElem?_map]
  simp [hx]
  rfl
theorem get_l {A B : List Thing} {k : Nat} {x : Thing} (h : A[k]? = some x) : (A ++ B)[k]? = some x := by rw [List.getElem?_append_left (lt_of_get h)]; exact h
theorem gt_at {l : List (List ByteArray × TS)} {k : Nat} (hk : k < l.length) : tL.at_ l k = .slice (tL.nth l k).2.a (tL.nth l k).1.length (tL.nth l k).2.c := by
  have := tL.at_add l k 0 (by decide)
  rw [show k * tL.sz + 0 = k by show k * 1 + 0 = k; omega] at this
  rw [this]; rfl

theorem gt_get {l : List (List ByteArray × TS)} {k : Nat} (hk : k < l.length) : (tL.cells l)[k]? = some (.slice (tL.nth l k).2.a (tL.nth l k).1.length (tL.nth l k).2.c) := by
  rw [tL.get l k (by show k < l.length * 1; omega), gt_at hk]
theorem St.logNil {k : Nat} (hk : k < ll.length) (H : St W w (R ++ skL S Q q res pv progs lv ll)) : St W w ((R ++ skL S Q q res pv progs lv ll).set (R.length + (4 + k)) (RowT 9 1 (.slice none ([] : List ByteArray).length 0) ([] : List ByteArray).length (sL.cells []))) := by
  obtain ⟨x, hx⟩ : ∃ x, ll[k]? = some x := ⟨_, List.getElem?_eq_getElem hk⟩
  obtain ⟨F, hA, hF, h⟩ := H.at (R.length + (4 + k)) (sk_getL hx)
  exact h w [] (Row1 9 1 (.slice none 0 0) 0 (sL.cells [])) inferInstance ⟨rfl, World.ownsRow_nil _ _ _ _⟩ (Fr.refl _ _) (by simp)
theorem St.logSet {lc g k : Nat} {a : Option Addr} {c : Nat} {l : List ByteArray} (hk : k < ll.length)
    (H : St W w ((R ++ skL S Q q res pv progs (.slice (some ⟨g, 0, none⟩) ll.length lc) ll).set (R.length + (4 + k)) (RowT 9 1 (.slice a l.length c) l.length (sL.cells l)))) :
    St W (w.setCell ⟨g, k, none⟩ (.slice a l.length c)) (R ++ skL S Q q res pv progs (.slice (some ⟨g, 0, none⟩) ll.length lc) (ll.set k (l, ⟨a, c⟩))) := by
  have h1 := H.setRowCell (g := g) (cap := lc) (e := 39) (size := 1) (n := ll.length) (xs := tL.cells ll) (R.length + 3) (by rw [List.getElem?_set_ne (by omega)]; exact sk_get3) k (.slice a l.length c)
  have e1 : (tL.cells ll).set k (.slice a l.length c) = tL.cells (ll.set k (l, ⟨a, c⟩)) := by
    have := tL.set_cell ll k 0 (.slice a l.length c) (l, ⟨a, c⟩) hk (by decide) (by simp [tL])
    rw [show k * tL.sz + 0 = k by show k * 1 + 0 = k; omega] at this
    exact this
  rw [e1, List.set_append_right _ _ (by omega), Nat.add_sub_cancel_left, List.set_append_right _ _ (by omega), Nat.add_sub_cancel_left] at h1
  have e2 : ((skL S Q q res pv progs (.slice (some ⟨g, 0, none⟩) ll.length lc) ll).set (4 + k) (RowT 9 1 (.slice a l.length c) l.length (sL.cells l))).set 3 (RowT 39 1 (.slice (some ⟨g, 0, none⟩) ll.length lc) ll.length (tL.cells (ll.set k (l, ⟨a, c⟩)))) = skL S Q q res pv progs (.slice (some ⟨g, 0, none⟩) ll.length lc) (ll.set k (l, ⟨a, c⟩)) := by
    unfold skL
    rw [List.set_append_right _ _ (by simp), show 4 + k - ([BlkT S (.cells #[.pointer (some ⟨Q, 0, none⟩), .int .i64 res, pv, .slice (some ⟨g, 0, none⟩) ll.length lc] 65), QkT Q q, RowT 9 1 pv progs.length (sL.cells progs), RowT 39 1 (.slice (some ⟨g, 0, none⟩) ll.length lc) ll.length (tL.cells ll)] : List Thing).length = k by simp, List.length_set, List.map_set]
    rfl
  rw [e2] at h1
  exact h1

set_option maxHeartbeats 1600000 in
theorem st_sreserve (H : St W w R) (i : Nat) {v : SV} (hi : R[i]? = some (SkT S v)) (c : CV) (t : TS) :
    Calls Try.prog 59 #[.pointer (some ⟨S, 0, none⟩), .agg (c.f t).toArray] w (DoTo W R i S (v.reserve c.n)) := by
  have hil := lt_of_get hi
  obtain ⟨Q, pv, lv, ll, hll, H1⟩ := H.sk i hi
  obtain ⟨q, res, progs, logs⟩ := v
  simp only at hll H1
  subst hll
  have b1 := H1.skS
  have s0 := cell_blk (i := 0) b1 rfl
  have s1 := cell_blk (i := 1) b1 rfl
  have s2 := cell_blk (i := 2) b1 rfl
  have s3 := cell_blk (i := 3) b1 rfl
  have f1 := free_blk (i := 1) b1
  have f2 := free_blk (i := 2) b1
  have f3 := free_blk (i := 3) b1
  have hlS := lt_of_block b1
  have H1 := hid H1
  clear H hi b1
  by_cases h : c.n ≤ res
  · have ho : SV.reserve ⟨q, res, progs, ll.map (·.1)⟩ c.n = none := by unfold SV.reserve; rw [if_pos h]
    have ho := hid ho
    go_enter Try.func59, Try.ntmps59
    simp only [CV.f]
    go_wp2_with fail
    go_quiet (fail)
    go_wp2_with fail
    go_ret
    exact DoTo.no ho.out (St.skBack hil (((H1.out.alloc_ _).drewN _)))
  · have ho : SV.reserve ⟨q, res, progs, ll.map (·.1)⟩ c.n = some ⟨q, c.n, progs, ll.map (·.1)⟩ := by unfold SV.reserve; rw [if_neg h]
    have ho := hid ho
    go_enter Try.func59, Try.ntmps59
    simp only [CV.f]
    go_wp2_with fail
    go_quiet (fail)
    go_wp2_with fail
    go_ret
    exact DoTo.yes ho.out (St.skBack hil ((((H1.out.alloc_ _).drewN _).skSet 1 (.int .i64 c.n) rfl)))

theorem sk_get {T : List Thing} : ((R ++ skL S Q q res pv progs lv ll) ++ T)[R.length + 1]? = some (QkT Q q) := by
  rw [List.append_assoc, get_behind]; rfl
theorem sk_setq {T : List Thing} {q' : QS} : ((R ++ skL S Q q res pv progs lv ll) ++ T).set (R.length + 1) (QkT Q q') = (R ++ skL S Q q' res pv progs lv ll) ++ T := by
  rw [List.append_assoc, List.set_append_right _ _ (by omega), Nat.add_sub_cancel_left, List.append_assoc]; rfl
theorem St.chB {T : List Thing} {b : Nat} {o : Obj} (H : St W w (T ++ [BlkT b o])) : w.heap[b]? = some o := H.blk (T.length + 0) (by rw [get_behind]; rfl)

set_option maxHeartbeats 1600000 in
theorem st_sexpire (H : St W w R) (i : Nat) {v : SV} (hi : R[i]? = some (SkT S v)) (hv : v.wf) (c : CV) (t : TS) :
    Calls Try.prog 63 #[.pointer (some ⟨S, 0, none⟩), .agg (c.f t).toArray] w (DoTo W R i S (v.expire c.badge)) := by
  have hq := hid hv.q
  have hil := lt_of_get hi
  obtain ⟨Q, pv, lv, ll, hll, H1⟩ := H.sk i hi
  obtain ⟨q, res, progs, logs⟩ := v
  simp only at hll H1
  subst hll
  have b1 := H1.skS
  have s0 := cell_blk (i := 0) b1 rfl
  have s1 := cell_blk (i := 1) b1 rfl
  have s2 := cell_blk (i := 2) b1 rfl
  have s3 := cell_blk (i := 3) b1 rfl
  have f1 := free_blk (i := 1) b1
  have f2 := free_blk (i := 2) b1
  have f3 := free_blk (i := 3) b1
  have hlS := lt_of_block b1
  have H1 := hid H1
  clear H hi b1
  simp only at hq
  have H2 := H1.out.alloc (chO c t)
  have hE := hid (st_expire H2.drew ((R.set i NilT).length + 1) sk_get hq.out c.badge)
  have hk : ∀ w2, St W w2 ((((R.set i NilT) ++ skL S Q q res pv progs lv ll) ++ [BlkT w.heap.size (chO c t)]).set ((R.set i NilT).length + 1) (QkT Q (q.expire c.badge).2.2)) → St W w2 (((R.set i NilT) ++ skL S Q (q.expire c.badge).2.2 res pv progs lv ll) ++ [BlkT w.heap.size (chO c t)]) := fun w2 h => by rw [sk_setq] at h; exact h
  have hk := hid hk
  obtain ⟨job, e, q', hx⟩ : ∃ job e q', q.expire c.badge = (job, e, q') := ⟨_, _, _, rfl⟩
  have ho : SV.expire ⟨q, res, progs, ll.map (·.1)⟩ c.badge = if e ≠ 0 then none else some ⟨q', res, progs, ll.map (·.1)⟩ := by unfold SV.expire; simp only [hx]
  rw [hx] at hE hk
  have ho := hid ho
  clear H1 hx f1 f2 f3 s1 s2 s3
  have hb := H2.chB
  have c3 : (w.alloc (chO c t)).cell? ⟨w.heap.size, 3, none⟩ = some (.int .i64 c.badge) := cell_blk hb rfl
  have H2 := hid H2
  clear hb
  go_enter Try.func63, Try.ntmps63
  simp only [CV.f]
  go_wp2_with fail
  have d0 := cell_blk (i := 0) H2.out.drop.skS rfl
  have hNow := And.intro d0 c3
  go_region_held3 (fun wx : World => wx.cell? ⟨S, 0, none⟩ = some (.pointer (some ⟨Q, 0, none⟩)) ∧ wx.cell? ⟨w.heap.size, 3, none⟩ = some (.int .i64 c.badge)) ((first | exact hNow)) (first | (go_at_call 89; refine hE.out.mono ?_; rintro e2 w2 ⟨rfl, H3⟩; have H4 := hk.out _ H3; have hNow := And.intro (cell_blk (i := 0) H4.drop.skS rfl) (show w2.cell? ⟨w.heap.size, 3, none⟩ = some (.int .i64 c.badge) from cell_blk H4.chB rfl); have H4 := hid H4; clear H3))
  have H5 := hid H4.out.drop
  by_cases h0 : e = 0
  · subst h0
    go_wp2_with fail
    go_ret
    exact DoTo.yes (by rw [ho.out, if_neg (fun h => h rfl)]) (St.skBack hil H5.out)
  · have h1 : (e == 0) = false := by rw [beq_eq_false_iff_ne]; exact h0
    go_wp2_with fail
    go_ret
    exact DoTo.no (by rw [ho.out, if_pos h0]) (St.skBack hil H5.out)

set_option maxHeartbeats 1600000 in
theorem st_ssettle (H : St W w R) (i : Nat) {v : SV} (hi : R[i]? = some (SkT S v)) (hv : v.wf) (c : CV) (t : TS) :
    Calls Try.prog 64 #[.pointer (some ⟨S, 0, none⟩), .agg (c.f t).toArray] w (DoTo W R i S (v.settle c.badge c.code c.bits)) := by
  have hq := hid hv.q
  have hil := lt_of_get hi
  obtain ⟨Q, pv, lv, ll, hll, H1⟩ := H.sk i hi
  obtain ⟨q, res, progs, logs⟩ := v
  simp only at hll H1
  subst hll
  have b1 := H1.skS
  have s0 := cell_blk (i := 0) b1 rfl
  have s1 := cell_blk (i := 1) b1 rfl
  have s2 := cell_blk (i := 2) b1 rfl
  have s3 := cell_blk (i := 3) b1 rfl
  have f1 := free_blk (i := 1) b1
  have f2 := free_blk (i := 2) b1
  have f3 := free_blk (i := 3) b1
  have hlS := lt_of_block b1
  have H1 := hid H1
  clear H hi b1
  simp only at hq
  have H2 := H1.out.alloc (chO c t)
  have hE := hid (st_settle H2.drew ((R.set i NilT).length + 1) sk_get hq.out c.badge c.code c.bits)
  have hk : ∀ w2, St W w2 ((((R.set i NilT) ++ skL S Q q res pv progs lv ll) ++ [BlkT w.heap.size (chO c t)]).set ((R.set i NilT).length + 1) (QkT Q (q.settle c.badge c.code c.bits).2.2)) → St W w2 (((R.set i NilT) ++ skL S Q (q.settle c.badge c.code c.bits).2.2 res pv progs lv ll) ++ [BlkT w.heap.size (chO c t)]) := fun w2 h => by rw [sk_setq] at h; exact h
  have hk := hid hk
  obtain ⟨job, e, q', hx⟩ : ∃ job e q', q.settle c.badge c.code c.bits = (job, e, q') := ⟨_, _, _, rfl⟩
  have ho : SV.settle ⟨q, res, progs, ll.map (·.1)⟩ c.badge c.code c.bits = if e ≠ 0 then none else some ⟨q', res, progs, ll.map (·.1)⟩ := by unfold SV.settle; simp only [hx]
  rw [hx] at hE hk
  have ho := hid ho
  clear H1 hx f1 f2 f3 s1 s2 s3
  have hb := H2.chB
  have c3 : (w.alloc (chO c t)).cell? ⟨w.heap.size, 3, none⟩ = some (.int .i64 c.badge) := cell_blk hb rfl
  have c6 : (w.alloc (chO c t)).cell? ⟨w.heap.size, 6, none⟩ = some (.int .i64 c.code) := cell_blk hb rfl
  have c7 : (w.alloc (chO c t)).cell? ⟨w.heap.size, 7, none⟩ = some (.int .u64 c.bits) := cell_blk hb rfl
  have H2 := hid H2
  clear hb
  go_enter Try.func64, Try.ntmps64
  simp only [CV.f]
  go_wp2_with fail
  have d0 := cell_blk (i := 0) H2.out.drop.skS rfl
  have hNow := And.intro d0 (And.intro c3 (And.intro c6 c7))
  go_region_held3 (fun wx : World => wx.cell? ⟨S, 0, none⟩ = some (.pointer (some ⟨Q, 0, none⟩)) ∧ wx.cell? ⟨w.heap.size, 3, none⟩ = some (.int .i64 c.badge) ∧ wx.cell? ⟨w.heap.size, 6, none⟩ = some (.int .i64 c.code) ∧ wx.cell? ⟨w.heap.size, 7, none⟩ = some (.int .u64 c.bits)) ((first | exact hNow)) (first | (go_at_call 90; refine hE.out.mono ?_; rintro e2 w2 ⟨rfl, H3⟩; have H4 := hk.out _ H3; have hb2 := H4.chB; have hNow := And.intro (cell_blk (i := 0) H4.drop.skS rfl) (And.intro (show w2.cell? ⟨w.heap.size, 3, none⟩ = some (.int .i64 c.badge) from cell_blk hb2 rfl) (And.intro (show w2.cell? ⟨w.heap.size, 6, none⟩ = some (.int .i64 c.code) from cell_blk hb2 rfl) (show w2.cell? ⟨w.heap.size, 7, none⟩ = some (.int .u64 c.bits) from cell_blk hb2 rfl))); have H4 := hid H4; clear H3 hb2))
  have H5 := hid H4.out.drop
  by_cases h0 : e = 0
  · subst h0
    go_wp2_with fail
    go_ret
    exact DoTo.yes (by rw [ho.out, if_neg (fun h => h rfl)]) (St.skBack hil H5.out)
  · have h1 : (e == 0) = false := by rw [beq_eq_false_iff_ne]; exact h0
    go_wp2_with fail
    go_ret
    exact DoTo.no (by rw [ho.out, if_pos h0]) (St.skBack hil H5.out)

set_option maxHeartbeats 1600000 in
theorem st_sgrant (H : St W w R) (i : Nat) {v : SV} (hi : R[i]? = some (SkT S v)) (hv : v.wf) (c : CV) (t : TS) (hsl : 0 ≤ c.slot ∧ c.slot ≤ 7) :
    Calls Try.prog 61 #[.pointer (some ⟨S, 0, none⟩), .agg (c.f t).toArray] w (DoTo W R i S (v.grant c.job c.badge c.slot c.life)) := by
  have hq := hid hv.q
  have hnl := hid hv.nl
  have hil := lt_of_get hi
  obtain ⟨Q, pv, lv, ll, hll, H1⟩ := H.sk i hi
  obtain ⟨q, res, progs, logs⟩ := v
  simp only at hll H1
  subst hll
  have b1 := H1.skS
  have s0 := cell_blk (i := 0) b1 rfl
  have s1 := cell_blk (i := 1) b1 rfl
  have s2 := cell_blk (i := 2) b1 rfl
  have s3 := cell_blk (i := 3) b1 rfl
  have f1 := free_blk (i := 1) b1
  have f2 := free_blk (i := 2) b1
  have f3 := free_blk (i := 3) b1
  have hlS := lt_of_block b1
  have H1 := hid H1
  clear H hi b1
  simp only at hq hnl
  have H2 := H1.out.alloc (chO c t)
  have hb := H2.chB
  have c2 : (w.alloc (chO c t)).cell? ⟨w.heap.size, 2, none⟩ = some (.int .i64 c.job) := cell_blk hb rfl
  have c3 : (w.alloc (chO c t)).cell? ⟨w.heap.size, 3, none⟩ = some (.int .i64 c.badge) := cell_blk hb rfl
  have c4 : (w.alloc (chO c t)).cell? ⟨w.heap.size, 4, none⟩ = some (.int .i64 c.slot) := cell_blk hb rfl
  have c5 : (w.alloc (chO c t)).cell? ⟨w.heap.size, 5, none⟩ = some (.int .i64 c.life) := cell_blk hb rfl
  have d0 := cell_blk (i := 0) H2.drop.skS rfl
  have d1 := cell_blk (i := 1) H2.drop.skS rfl
  have H2 := hid H2
  have hsum : IntKind.i64.wrap (2 + c.slot) = 2 + c.slot := IntWalk.i64_in _ (by omega)
  clear H1 f1 f2 f3 s0 s1 s2 s3 hb
  have hNow := And.intro d0 (And.intro d1 (And.intro c2 (And.intro c3 (And.intro c4 c5))))
  by_cases hres : res < c.badge
  · have ho : SV.grant ⟨q, res, progs, ll.map (·.1)⟩ c.job c.badge c.slot c.life = none := by unfold SV.grant; rw [if_pos hres]
    have ho := hid ho
    go_enter Try.func61, Try.ntmps61
    simp only [CV.f]
    go_wp2_with fail
    go_quiet (fail)
    go_wp2_with fail
    go_ret
    exact DoTo.no ho.out (St.skBack hil ((H2.out.drewN _).drop))
  · obtain ⟨e, q', hx⟩ : ∃ e q', q.grant c.job c.badge (2 + c.slot) c.life = (e, q') := ⟨_, _, rfl⟩
    have ho : SV.grant ⟨q, res, progs, ll.map (·.1)⟩ c.job c.badge c.slot c.life = if e ≠ 0 then none else some ⟨q', res, progs, (ll.map (·.1)).set (c.job - 1).toNat []⟩ := by unfold SV.grant; rw [if_neg hres]; simp only [hx]
    have hE := st_grant H2.out.drew ((R.set i NilT).length + 1) sk_get hq.out c.job c.badge (2 + c.slot) c.life
    have hj : e = 0 → 1 ≤ c.job ∧ c.job ≤ q.rows.length := by
      intro h0
      have h1 : (q.grant c.job c.badge (2 + c.slot) c.life).1 = 0 := by rw [hx]; exact h0
      unfold QS.grant at h1
      split at h1
      · simp at h1
      · omega
    rw [hx] at hE
    have hE := hid hE
    have ho := hid ho
    have hj := hid hj
    have hd : decide (res < c.badge) = false := decide_eq_false hres
    clear hx
    go_enter Try.func61, Try.ntmps61
    simp only [CV.f]
    go_wp2_with fail
    go_region_held3 (fun wx : World => wx.cell? ⟨S, 0, none⟩ = some (.pointer (some ⟨Q, 0, none⟩)) ∧ wx.cell? ⟨S, 1, none⟩ = some (.int .i64 res) ∧ wx.cell? ⟨w.heap.size, 2, none⟩ = some (.int .i64 c.job) ∧ wx.cell? ⟨w.heap.size, 3, none⟩ = some (.int .i64 c.badge) ∧ wx.cell? ⟨w.heap.size, 4, none⟩ = some (.int .i64 c.slot) ∧ wx.cell? ⟨w.heap.size, 5, none⟩ = some (.int .i64 c.life)) ((first | exact hNow)) (first | (go_at_call 88; refine hE.out.mono ?_; rintro e2 w2 ⟨rfl, H3⟩; rw [sk_setq] at H3; have hb2 := H3.chB; have g0 := H3.drop.skS; have hNow := And.intro (cell_blk (i := 0) g0 rfl) (And.intro (cell_blk (i := 1) g0 rfl) (And.intro (show w2.cell? ⟨w.heap.size, 2, none⟩ = some (.int .i64 c.job) from cell_blk hb2 rfl) (And.intro (show w2.cell? ⟨w.heap.size, 3, none⟩ = some (.int .i64 c.badge) from cell_blk hb2 rfl) (And.intro (show w2.cell? ⟨w.heap.size, 4, none⟩ = some (.int .i64 c.slot) from cell_blk hb2 rfl) (show w2.cell? ⟨w.heap.size, 5, none⟩ = some (.int .i64 c.life) from cell_blk hb2 rfl))))); have H3 := hid H3; clear hb2 g0))
    by_cases h0 : e = 0
    · subst h0
      obtain ⟨hj1, hj2⟩ := hj.out rfl
      have hlen : q.rows.length = ll.length := by have := hnl.out; rw [List.length_map] at this; omega
      obtain ⟨k, hk⟩ : ∃ k : Nat, c.job = k + 1 := ⟨(c.job - 1).toNat, by omega⟩
      have hkl : k < ll.length := by omega
      obtain ⟨la, lc, rfl, _, _, _, hsm⟩ := H3.out.rowShape ((R.set i NilT).length + 3) (get_l sk_get3)
      obtain ⟨g, rfl⟩ := hsm (by omega)
      have HK := hid (And.intro hk hlen)
      have hrow := H3.out.row ((R.set i NilT).length + 3) (get_l sk_get3)
      have r0 := (ownsRow_cell hrow k (gt_get hkl)).1
      have r1 := (ownsRow_cell hrow k (gt_get hkl)).2
      have b1 := H3.out.drop.skS
      have e3 := cell_blk (i := 3) b1 rfl
      have eS := lt_of_block b1
      have eb := H3.out.chB
      have e2 : w2.cell? ⟨w.heap.size, 2, none⟩ = some (.int .i64 c.job) := cell_blk eb rfl
      have hw1 : IntKind.i64.wrap (c.job - 1) = (k : Int) := by have hn8 := hq.out.n; rw [show c.job - 1 = (k : Int) by omega]; exact IntWalk.i64_in _ (by omega)
      have hk1 : (k : Int) < ll.length := by omega
      have hk0 : (0 : Int) ≤ k := by omega
      have hset := hid ((H3.out.drop.logNil (k := k) (by omega)).logSet (l := []) (by omega))
      have heq := hid (show (ll.map (·.1)).set (c.job - 1).toNat [] = (ll.set k ([], (⟨none, 0⟩ : TS))).map (·.1) by rw [show (c.job - 1).toNat = k by omega, List.map_set])
      have hjm := hid (show (c.job - 1).toNat = k by omega)
      clear b1 eb hrow hk hj1 hj2 hsm hd hNow
      go_wp2_with fail
      go_region_law (fail)
      all_goals go_wp2_with fail
      all_goals go_ret
      all_goals exact DoTo.yes (v := ⟨q', res, progs, (ll.set k ([], (⟨none, 0⟩ : TS))).map (·.1)⟩) (by rw [ho.out, if_neg (fun h => h rfl), heq.out]) (St.skBack hil (by first | exact hset.out.drew | exact hset.out))
    · have h1 : (e == 0) = false := by rw [beq_eq_false_iff_ne]; exact h0
      have h2 : (e != 0) = true := by simp [bne, h1]
      go_wp2_with fail
      go_ret
      exact DoTo.no (by rw [ho.out, if_pos h0]) (St.skBack hil H3.out.drop)

end
end Go.Proofs.Ytmgnekjhlfghaaa

/-
  state: submit, log.
-/
namespace Go.Proofs.Ytmgnekjhlfghaaa
open Go.RowKit
set_option linter.unusedVariables false
set_option linter.unusedSimpArgs false

section
variable {W : Base} {w : World} {R : List Thing}
variable {S Q : Nat} {q : QS} {res : Int} {pv lv : Value} {progs : List ByteArray} {ll : List (List ByteArray × TS)}
theorem mid_set {X T : List Thing} {k : Nat} {A : Thing} (hk : k < X.length) : ((R ++ X) ++ T).set (R.length + k) A = (R ++ X.set k A) ++ T := by
  rw [List.append_assoc, List.set_append_right _ _ (by omega), Nat.add_sub_cancel_left, List.set_append_left _ _ hk, List.append_assoc]
theorem mid_get {X T : List Thing} {k : Nat} {A : Thing} (h : X[k]? = some A) : ((R ++ X) ++ T)[R.length + k]? = some A := by
  rw [List.append_assoc, get_behind, List.getElem?_append_left (lt_of_get h)]; exact h
theorem sk_len : (skL S Q q res pv progs lv ll).length = 4 + ll.length := by simp [skL]; omega
set_option maxHeartbeats 3000000 in
set_option maxRecDepth 100000 in
theorem st_ssubmit (H : St W w R) (i : Nat) {v : SV} (hi : R[i]? = some (SkT S v)) (hv : v.wf) (c : CV) (t : TS) :
    Calls Try.prog 60 #[.pointer (some ⟨S, 0, none⟩), .agg (c.f t).toArray] w (DoTo W R i S (v.submit c.job c.prog)) := by
  have hq := hid hv.q
  have hnp := hv.np
  have hnl := hv.nl
  have hn8 := hv.q.n
  obtain ⟨i0, hi0, hz0, hz1, hz2⟩ := info_parts info_gs
  obtain ⟨i1, hi1, hy0, hy1, hy2⟩ := info_parts info_gt
  have HI := hid (And.intro hi0 (And.intro hz0 (And.intro hz1 hz2)))
  have HJ := hid (And.intro hi1 (And.intro hy0 (And.intro hy1 hy2)))
  clear hi0 hz0 hz1 hz2 hi1 hy0 hy1 hy2
  have hil := lt_of_get hi
  obtain ⟨Q, pv, lv, ll, hll, H1⟩ := H.sk i hi
  obtain ⟨q, res, progs, logs⟩ := v
  simp only at hll H1
  subst hll
  have b1 := H1.skS
  have s0 := cell_blk (i := 0) b1 rfl
  have s1 := cell_blk (i := 1) b1 rfl
  have s2 := cell_blk (i := 2) b1 rfl
  have s3 := cell_blk (i := 3) b1 rfl
  have f1 := free_blk (i := 1) b1
  have f2 := free_blk (i := 2) b1
  have f3 := free_blk (i := 3) b1
  have hlS := lt_of_block b1
  have H1 := hid H1
  clear H hi b1
  simp only [List.length_map] at hq hnp hnl hn8
  obtain ⟨pa, pc, rfl, _, _, _, _⟩ := H1.out.rowShape ((R.set i NilT).length + 2) sk_get2
  obtain ⟨la, lc, rfl, _, _, _, _⟩ := H1.out.rowShape ((R.set i NilT).length + 3) sk_get3
  have hp8 : (progs.length : Int) ≤ 8 := by omega
  have hl8 : (ll.length : Int) ≤ 8 := by omega
  have hw1 : IntKind.i64.wrap ((progs.length : Int) + 1) = (progs.length : Int) + 1 := IntWalk.i64_in _ (by omega)
  have H2 := H1.out.alloc (chO c t)
  have hb := H2.chB
  have c2 : (w.alloc (chO c t)).cell? ⟨w.heap.size, 2, none⟩ = some (.int .i64 c.job) := cell_blk hb rfl
  have H2 := hid H2
  have HN := hid (And.intro hnp hnl)
  clear H1 f1 f2 f3 s1 s3 hb hnp hnl hn8
  by_cases hj : c.job = (progs.length : Int) + 1
  · obtain ⟨job, e, q', hx⟩ : ∃ job e q', q.submit = (job, e, q') := ⟨_, _, _, rfl⟩
    have ho : SV.submit ⟨q, res, progs, ll.map (·.1)⟩ c.job c.prog = if e ≠ 0 then none else some ⟨q', res, progs ++ [c.prog], ll.map (·.1) ++ [[]]⟩ := by
      unfold SV.submit; rw [if_neg (fun h => h hj)]; simp only [hx]
    have hE := hid (fun nq => st_submit (H2.out.drewN nq) ((R.set i NilT).length + 1) sk_get hq.out.n)
    rw [hx] at hE
    have ho_ := hid ho
    clear ho
    have hj2 : (c.job == (progs.length : Int) + 1) = true := by rw [beq_iff_eq]; exact hj
    have hj3 := hid hj
    clear hj hx
    go_enter Try.func60, Try.ntmps60
    simp only [CV.f]
    go_wp2_with fail
    go_quiet (fail)
    go_wp2_with fail
    refine (hE.out _).mono ?_
    rintro e2 w2 ⟨rfl, H3⟩
    rw [sk_setq] at H3
    by_cases h0 : e = 0
    · subst h0
      have b3 := H3.drop.skS
      have g2 := cell_blk (i := 2) b3 rfl
      have g3 := cell_blk (i := 3) b3 rfl
      have gS := lt_of_block b3
      have gc : w2.cell? ⟨w.heap.size, 7, none⟩ = some (.int .u64 c.bits) := cell_blk H3.chB rfl
      have gp : w2.cell? ⟨w.heap.size, 8, none⟩ = some (.string c.prog) := cell_blk H3.chB rfl
      have gl := lt_of_block H3.chB
      have H3 := hid H3
      have hn3 := hid (show ∀ wx : World, ∀ (j : Nat) (u : Value), [Value.string c.prog][j]? = some u → (wx.alloc (.cells #[.string c.prog] 9)).cell? ((⟨wx.heap.size, 0, none⟩ : Addr).add j) = some u from fun wx => news_alloc wx [.string c.prog] 9)
      clear b3 gc hw1 hj2 s2 s0 hlS
      go_wp2_with fail
      have hap := hid ((H3.out.drew.alloc_ (.cells #[.string c.prog] 9)).append ((R.set i NilT).length + 2) (get_l sk_get2))
      have hln : (progs ++ [c.prog]).length = progs.length + 1 := by simp
      have HLN := hid hln
      clear hn3 hln
      go_region_law (refine step_append_blk rfl (.tmp 31) (.tmp 34) 39 rfl 9 i0 (.string ByteArray.empty) 1 16 Try.underlying39 HI.out.1 HI.out.2.1 HI.out.2.2.1 HI.out.2.2.2 rfl (by decide) (.slice pa progs.length pc) progs.length (sL.cells progs) rfl hap.out.1 ⟨w2.heap.size, 0, none⟩ 1 1 [.string c.prog] rfl rfl (news_alloc w2.drew [.string c.prog] 9) (by intro u hu; simp at hu; subst hu; rfl) (by unfold maxLen; omega) (by omega) ?_; intro v' w4 ho hF hb hn; have H4 := hap.out.2 v' w4 (progs.length + 1) (sL.cells (progs ++ [c.prog])) (by rw [← sL.snoc progs c.prog]; exact ho) hF hb; rw [mid_set (by rw [sk_len]; omega)] at H4; have b4 := H4.blk ((R.set i NilT).length + 0) (mid_get rfl); obtain ⟨g', cap', rfl, _⟩ := ownsRow_shape ho (by omega); have e4 := cell_blk (i := 2) b4 rfl; have e5 := free_blk (i := 2) b4; have e7 := cell_blk (i := 3) b4 rfl; have e8 := free_blk (i := 3) b4; have e6 := lt_of_block b4; have H5 := H4.setBlk ((R.set i NilT).length + 0) (mid_get rfl) 2 (.slice (some ⟨g', 0, none⟩) (progs.length + 1) cap'); rw [mid_set (by rw [List.length_set, sk_len]; omega)] at H5; have H5 := hid H5; clear ho hF hb hn b4 H4)
      all_goals
        have hap2 := hid ((H5.out.alloc_ (.cells #[.slice none 0 0] 39)).append ((R.set i NilT).length + 3) (mid_get rfl))
        clear hap
        go_wp2_with (at_builtin; refine wpList_append_blk rfl (.tmp 42) (.tmp 43) 63 rfl 39 i1 (.slice none 0 0) 1 24 Try.underlying63 HJ.out.1 HJ.out.2.1 HJ.out.2.2.1 HJ.out.2.2.2 rfl (by decide) (.slice la ll.length lc) ll.length (tL.cells ll) rfl hap2.out.1 ⟨w4.heap.size, 0, none⟩ 1 1 [.slice none 0 0] rfl rfl ?qn (by intro u hu; simp at hu; subst hu; rfl) (by unfold maxLen; omega) (by omega) ?_)
        case qn =>
          have h := news_alloc (w4.setCell ⟨S, 2, none⟩ (.slice (some ⟨g', 0, none⟩) (progs.length + 1) cap')) [.slice none 0 0] 39
          rwa [show (w4.setCell ⟨S, 2, none⟩ (.slice (some ⟨g', 0, none⟩) (progs.length + 1) cap')).heap.size = w4.heap.size by simp [World.setCell]] at h
        intro v2 w6 ho hF hb hn
        have H6 := hap2.out.2 v2 w6 (ll.length + 1) (tL.cells (ll ++ [([], (⟨none, 0⟩ : TS))])) (by rw [← tL.snoc ll ([], ⟨none, 0⟩)]; exact ho) (by simpa using hF) (by simpa using hb)
        rw [mid_set (by rw [List.length_set, List.length_set, sk_len]; omega)] at H6
        have b6 := H6.blk ((R.set i NilT).length + 0) (mid_get rfl)
        obtain ⟨g2, cap2, rfl, _⟩ := ownsRow_shape ho (by omega)
        have m3 := cell_blk (i := 3) b6 rfl
        have n3 := free_blk (i := 3) b6
        have H7 := H6.setBlk ((R.set i NilT).length + 0) (mid_get rfl) 3 (.slice (some ⟨g2, 0, none⟩) (ll.length + 1) cap2)
        rw [mid_set (by rw [List.length_set, List.length_set, List.length_set, sk_len]; omega)] at H7
        have H8 := H7.drop.new (A := Row1 9 1 (.slice none 0 0) 0 (sL.cells [])) (F := []) (Fr.refl _ _) inferInstance ⟨rfl, World.ownsRow_nil _ _ _ _⟩ (by simp)
        have H9 : St W (w6.setCell ⟨S, 3, none⟩ (.slice (some ⟨g2, 0, none⟩) (ll.length + 1) cap2)) (R.set i NilT ++ skL S Q q' res (.slice (some ⟨g', 0, none⟩) (progs.length + 1) cap') (progs ++ [c.prog]) (.slice (some ⟨g2, 0, none⟩) (ll.length + 1) cap2) (ll ++ [([], (⟨none, 0⟩ : TS))])) := by
          rw [List.append_assoc] at H8
          simpa [skL, lg1, RowT] using H8
        have H9 := hid H9
        clear ho hF hb hn b6 H6 H7 H8 hap2 H5
        go_wp2_with fail
        go_ret
        have h10 := St.skBack hil H9.out
        rw [List.map_append, show List.map (fun x : List ByteArray × TS => x.1) [([], (⟨none, 0⟩ : TS))] = [[]] from rfl] at h10
        exact DoTo.yes (by rw [ho_.out, if_neg (fun h => h rfl)]) h10
    · have h1 : (e == 0) = false := by rw [beq_eq_false_iff_ne]; exact h0
      have h2 : (e != 0) = true := by simp [bne, h1]
      have H3 := hid H3
      go_wp2_with fail
      go_ret
      exact DoTo.no (by rw [ho_.out, if_pos h0]) (St.skBack hil H3.out.drop)
  · have ho : SV.submit ⟨q, res, progs, ll.map (·.1)⟩ c.job c.prog = none := by unfold SV.submit; rw [if_pos hj]
    have ho := hid ho
    have hj2 : (c.job == (progs.length : Int) + 1) = false := by rw [beq_eq_false_iff_ne]; exact hj
    clear hj
    go_enter Try.func60, Try.ntmps60
    simp only [CV.f]
    go_wp2_with fail
    go_quiet (fail)
    go_wp2_with fail
    go_ret
    exact DoTo.no ho.out (St.skBack hil (H2.out.drewN _).drop)
end
end Go.Proofs.Ytmgnekjhlfghaaa
