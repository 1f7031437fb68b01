/-
  Merged, in build order: SI Vw.
-/
import Derived.Test.YtmgnekjhlfghaaaGreatM24
/-
  state: changes one behind the other: plain; parts of a row of changes; New that is refused.
-/
namespace Go.Proofs.YtmgnekjhlfghaaaGreat
open Go.RowKit
set_option linter.unusedVariables false
set_option linter.unusedSimpArgs false

theorem go_any {v u : SV} {l : List CV} : ∀ {v : SV} {i : Nat} (j : Nat), v.go l i = .ok u → v.go l j = .ok u := by
  induction l with
  | nil => intro v i j h; exact h
  | cons c l ih =>
    intro v i j h
    rw [SV.go] at h ⊢
    split at h
    · cases h
    · next v1 h1 => exact ih (j + 1) h
theorem go_err {l : List CV} : ∀ {v : SV} {i k : Nat}, v.go l i = .error k → i ≤ k ∧ k < i + l.length ∧ ∃ u, v.go (l.take (k - i)) 0 = .ok u ∧ ∃ c, l[k - i]? = some c ∧ u.one c = none := by
  induction l with
  | nil => intro v i k h; cases h
  | cons c l ih =>
    intro v i k h
    rw [SV.go] at h
    split at h
    · next h1 =>
      cases h
      refine ⟨Nat.le_refl _, by simp, v, by rw [Nat.sub_self]; rfl, c, by rw [Nat.sub_self]; rfl, h1⟩
    · next v1 h1 =>
      obtain ⟨g1, g2, u, g3, c', g4, g5⟩ := ih h
      refine ⟨by omega, by simp; omega, u, ?_, c', ?_, g5⟩
      · rw [show k - i = (k - (i + 1)) + 1 by omega, List.take_succ_cons, SV.go, h1]
        exact go_any (v := v1) _ g3
      · rw [show k - i = (k - (i + 1)) + 1 by omega]; exact g4
theorem go_app {l r : List CV} {u : SV} : ∀ {v : SV} {i : Nat}, v.go l i = .ok u → v.go (l ++ r) i = u.go r (i + l.length) := by
  induction l with
  | nil => intro v i h; cases h; simp
  | cons c l ih =>
    intro v i h
    rw [SV.go] at h
    rw [List.cons_append, SV.go]
    split at h
    · cases h
    · next v1 h1 =>
      rw [ih h, List.length_cons]
      congr 1; omega
theorem go_split {l r : List CV} {u : SV} : ∀ {v : SV} {i : Nat}, v.go (l ++ r) i = .ok u → ∃ x, v.go l i = .ok x ∧ x.go r (i + l.length) = .ok u := by
  induction l with
  | nil => intro v i h; exact ⟨v, rfl, by simpa using h⟩
  | cons c l ih =>
    intro v i h
    rw [List.cons_append, SV.go] at h
    rw [SV.go]
    split at h
    · cases h
    · next v1 h1 =>
      obtain ⟨x, h2, h3⟩ := ih h
      exact ⟨x, h2, by rw [List.length_cons, show i + (l.length + 1) = i + 1 + l.length by omega]; exact h3⟩
theorem put_wf {v : SV} {l : List CV} (hv : v.wf) (hb : ∀ c, c ∈ l → 0 ≤ c.bits ∧ c.bits < 18446744073709551616) : (v.put l).wf := by
  unfold SV.put
  split
  · next u h => exact go_wf hb hv h
  · exact hv

/-- A part of a row of changes. -/
theorem ChIn.part {w : World} {b o n cap : Nat} {l : List (CV × TS)} (h : ChIn w (some ⟨b, o, none⟩) n cap l) (lo m : Nat) (hm : lo + m ≤ n) : ChIn w (some ⟨b, o + lo * 10, none⟩) m (cap - lo) ((l.drop lo).take m) := by
  have hl := h.len
  refine ⟨⟨by have := h.row.le; omega, by have := h.row.mx; omega, fun _ => ⟨_, _, rfl⟩, fun b' o' e j hj => ?_⟩, by simp; omega, fun x hx => h.one x (List.mem_of_mem_drop (List.mem_of_mem_take hx))⟩
  cases e
  have h1 := h.row.cell b o rfl (lo * 10 + j) (by omega)
  rw [Nat.add_assoc, h1]
  congr 1
  have hq : j % 10 < 10 := Nat.mod_lt _ (by decide)
  have e1 := cL.at_add l (lo + j / 10) (j % 10) hq
  have e2 := cL.at_add ((l.drop lo).take m) (j / 10) (j % 10) hq
  rw [show (lo + j / 10) * cL.sz + j % 10 = lo * 10 + j by show (lo + j / 10) * 10 + j % 10 = _; omega] at e1
  rw [show j / 10 * cL.sz + j % 10 = j by show j / 10 * 10 + j % 10 = _; omega] at e2
  rw [e1, e2]
  congr 2
  unfold Lay.nth
  have hj2 : j / 10 < m := by omega
  simp only [List.getD, List.getElem?_take, List.getElem?_drop, if_pos hj2]
theorem part_one {l : List (CV × TS)} {k : Nat} {x : CV × TS} (hx : l[k]? = some x) : (l.drop k).take 1 = [x] := by
  rw [List.take_one]
  simp [hx]

theorem st_applyV {W : Base} {w : World} {R : List Thing} (H : St W w R) (i : Nat) {S : Nat} {v : SV} (hi : R[i]? = some (SkT S v)) (hv : v.wf) (a : Option Addr) (n cap : Nat) (l : List (CV × TS)) (hC : ∀ (wx : World) (T : List Thing), St W wx (R ++ T) → ChIn wx a n cap l) (u : SV) (hu : v.put (l.map (·.1)) = u) :
    Calls Tryz.prog 8 #[.pointer (some ⟨S, 0, none⟩), .slice a n cap] w fun e w' => ∃ r1 r2 : Int, e = .returned (.tuple #[.int .i64 r1, .int .i64 r2]) ∧ St W w' (R.set i (SkT S u)) := by
  refine (st_sapply H i hi hv a n cap l hC).mono ?_
  rintro e w' ⟨rfl, H'⟩
  rw [hu] at H'
  unfold SV.ret
  split
  · exact ⟨_, _, rfl, H'⟩
  · exact ⟨_, _, rfl, H'⟩
theorem state_new_bad (w : World) (n : Int) (hn : n < 1 ∨ 8 < n) : Calls Tryz.prog 6 #[.int .i64 n] w fun e w' => e = .returned (.tuple #[.pointer none, .int .i64 1]) ∧ w = w' := by
  have HQ := hid (queue_new_bad w n hn)
  clear hn
  go_enter Tryz.func6, Tryz.ntmps6
  go_wp2_with (go_at_call 23; refine HQ.out.mono ?_; rintro e w1 ⟨rfl, rfl⟩)
  go_ret2
  exact ⟨rfl, rfl⟩
end Go.Proofs.YtmgnekjhlfghaaaGreat

/-
  state: views in the laws.
-/
namespace Go.Proofs.YtmgnekjhlfghaaaGreat
open Go.RowKit
set_option linter.unusedVariables false
set_option linter.unusedSimpArgs false

/-- A view, boxed. -/
abbrev vO (res : Int) (a : Option Addr) (n : Nat) : Obj := .cells #[.int .i64 res, .slice a n n] 34
/-- Places that show a state. -/
structure VOk (v : SV) (l : List (PV × TS)) : Prop where
  wf : v.wf
  eq : l.map (·.1) = v.places
  c : ∀ x, x ∈ l → x.2.c = x.1.log.length
theorem VOk.len {v : SV} {l : List (PV × TS)} (h : VOk v l) : l.length = v.q.rows.length := by
  have h1 := congrArg List.length h.eq
  unfold SV.places at h1
  simpa using h1
theorem VOk.nth {v : SV} {l : List (PV × TS)} (h : VOk v l) {k : Nat} (hk : k < l.length) : (pL.nth l k).1 = v.place k := by
  have h1 := congrArg (fun m => m[k]?) h.eq
  have hk2 : k < v.q.rows.length := by rw [← h.len]; exact hk
  simp only [List.getElem?_map, pL.nth_get hk, SV.places, List.getElem?_range hk2, Option.map_some, Option.some.injEq] at h1
  exact h1
theorem VOk.small {v : SV} {l : List (PV × TS)} (h : VOk v l) : l.length ≤ 8 ∧ ∀ x, x ∈ l → x.1.log.length ≤ 32 := by
  refine ⟨by rw [h.len]; exact h.wf.q.n, fun x hx => ?_⟩
  have h2 : x.1 ∈ v.places := by rw [← h.eq]; exact List.mem_map_of_mem hx
  unfold SV.places at h2
  obtain ⟨k, hk, e⟩ := List.mem_map.1 h2
  rw [← e]
  have hk : k < v.logs.length := by rw [h.wf.nl]; simpa using hk
  exact (h.wf.lg (v.logs.getD k []) (by rw [List.getD, List.getElem?_eq_getElem hk]; exact List.getElem_mem hk)).1
theorem St.vok {W : Base} {w : World} {R : List Thing} (H : St W w R) (i : Nat) {a : Option Addr} {v : SV} {l : List (PV × TS)} (hi : R[i]? = some (VwT a l)) (h : VOk v l) : PlIn w a l.length l.length l := H.plIn i hi h.c h.small.1 h.small.2
end Go.Proofs.YtmgnekjhlfghaaaGreat
