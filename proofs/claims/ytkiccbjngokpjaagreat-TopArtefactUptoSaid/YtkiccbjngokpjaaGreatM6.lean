/-
  Merged, in build order: Calm.
-/
import Derived.Still
import Derived.Deep.RegionHeld3
import Derived.KernelRfl
import Derived.Test.YtkiccbjngokpjaaGreatM4
/-
  A region that draws its order, whose operations read, or call what leaves a condition S on the world as it is: one walk, in the text's order. Of no program.
-/
namespace Go.Proofs.YtkiccbjngokpjaaGreat
open Go.RowKit
set_option linter.unusedVariables false

section
variable {P : Program} {ops : Array Oper} {S : World → Prop} {md : Region.Mode}

/-- What one operation that runs to its end may come to: the value v, and S again. -/
def calmTo (P : Program) (S : World → Prop) (v : Value) : Result Next → Prop
  | .ok (.value u) w' => u = v ∧ S w'
  | .ok .skip w' => v = undef ∧ S w'
  | .ok (.enter f args) w' => Calls P f args w' fun e w'' => e = .returned v ∧ S w''
  | _ => False
@[go_sem] theorem calmTo_value (v u : Value) (w : World) : calmTo P S v (.ok (.value u) w) = (u = v ∧ S w) := rfl
@[go_sem] theorem calmTo_skip (v : Value) (w : World) : calmTo P S v (.ok .skip w) = (v = undef ∧ S w) := rfl
@[go_sem] theorem calmTo_enter (v : Value) (f : FuncId) (args : Array Value) (w : World) : calmTo P S v (.ok (.enter f args) w) = Calls P f args w fun e w'' => e = .returned v ∧ S w'' := rfl

/-- In every world of S the operation yields v and leaves S; or it isn't wanted. -/
def IsCalm (P : Program) (ops : Array Oper) (S : World → Prop) (o : Oper) (v : Value) (a : Act) : Prop :=
  (Region.wanted o (yielded ops a.tmps) = true ∧ ∀ w, S w → calmTo P S v ((execOp a.eval o).run P w)) ∨ (Region.wanted o (yielded ops a.tmps) = false ∧ v = undef)

theorem IsCalm.alike {o : Oper} {v : Value} {a a' : Act} (h : IsCalm P ops S o v a) (he : execOp a'.eval o = execOp a.eval o) (hw : Region.wanted o (yielded ops a'.tmps) = Region.wanted o (yielded ops a.tmps)) : IsCalm P ops S o v a' := by
  unfold IsCalm; rw [he, hw]; exact h

theorem IsCalm.wpOp {Q : Exit → Act → World → Prop} {i : Nat} {o : Oper} {v : Value} {a : Act} (hi : ops[i]? = some o) (h : IsCalm P ops S o v a) {K : Act → World → Prop} {w : World} (hS : S w) (hK : ∀ w', S w' → K (a.put o.dst v) w') : wpOp P ops Q i K a w := by
  unfold Go.wpOp
  simp only [hi]
  rcases h with ⟨hw, hv⟩ | ⟨hw, rfl⟩
  · have h1 := hv w hS
    simp only [hw, if_true]
    refine .inl ?_
    unfold Oper.wp
    generalize (execOp a.eval o).run P w = r at h1 ⊢
    cases r with
    | halt x w' => exact h1.elim
    | ok n w' =>
      cases n with
      | value u => obtain ⟨rfl, h2⟩ := h1; exact hK _ h2
      | skip => obtain ⟨rfl, h2⟩ := h1; exact hK _ h2
      | enter f args =>
        refine Calls.mono (show Calls P f args w' fun e w'' => e = .returned v ∧ S w'' from h1) fun e w'' h2 => ?_
        obtain ⟨rfl, h3⟩ := h2
        exact hK _ h3
      | _ => exact h1.elim
  · simp only [hw, Bool.false_eq_true, if_false]; exact hK _ hS

/-- Whatever may come up next is calm, and so on. -/
def anyCalm (P : Program) (md : Region.Mode) (ops : Array Oper) (S : World → Prop) (Q : Act → Prop) : Nat → Array Bool → Act → Prop
  | 0, listed, a => Region.ready md ops listed = [] ∧ Q a
  | fuel + 1, listed, a => (Region.ready md ops listed = [] → Q a) ∧
    ∀ i ∈ Region.ready md ops listed, ∃ o v, ops[i]? = some o ∧ IsCalm P ops S o v a ∧ anyCalm P md ops S Q fuel (listed.setIfInBounds i true) (a.put o.dst v)

theorem anyCalm.sound {Q : Act → Prop} {Q' : Exit → Act → World → Prop} (hQ : ∀ a w, Q a → S w → Q' .normal a w) : ∀ (fuel : Nat) (listed : Array Bool) (a : Act) (w : World), S w → anyCalm P md ops S Q fuel listed a → wpAny P md ops Q' fuel listed a w
  | 0, _, _, _, hS, h => ⟨h.1, hQ _ _ h.2 hS⟩
  | fuel + 1, listed, a, w, hS, h => ⟨fun h0 => hQ _ _ (h.1 h0) hS, fun i hi => by
      obtain ⟨o, v, ho, hc, hn⟩ := h.2 i hi
      exact hc.wpOp ho hS fun w' hS' => anyCalm.sound hQ fuel _ _ w' hS' hn⟩

/-- An operation that may come up and that nobody waits to pass may come first. -/
theorem anyCalm.first {Q : Act → Prop} {i : Nat} {oi : Oper} {v : Value} (hi : ops[i]? = some oi) (hns : Region.noSelect ops = true) (fuel : Nat) :
    ∀ (listed : Array Bool) (a : Act), (∀ j oj, ops[j]? = some oj → j ≠ i → listed.getD j true = false → (∀ e ∈ oj.after, Region.binds md e = true → e.on ≠ i) → oi.apart ops oj = true) →
      i ∈ Region.ready md ops listed → IsCalm P ops S oi v a → anyCalm P md ops S Q fuel (listed.setIfInBounds i true) (a.put oi.dst v) → anyCalm P md ops S Q (fuel + 1) listed a := by
  have hsel := fun (j : Nat) (o : Oper) (cs : Array SelectCase) (b : Bool) => Region.noSelect_spec hns j o cs b
  induction fuel with
  | zero =>
    intro listed a _ hr hc H
    refine ⟨fun h0 => absurd hr (by rw [h0]; exact List.not_mem_nil), fun j hj => ?_⟩
    by_cases e : j = i
    · subst e; exact ⟨oi, v, hi, hc, H⟩
    · have h1 := ready_mono hj e
      rw [H.1] at h1
      cases h1
  | succ fuel ih =>
    intro listed a hfree hr hc H
    refine ⟨fun h0 => absurd hr (by rw [h0]; exact List.not_mem_nil), fun j hj => ?_⟩
    by_cases e : j = i
    · subst e; exact ⟨oi, v, hi, hc, H⟩
    obtain ⟨oj, u, hoj, hcj, hn⟩ := H.2 j (ready_mono hj e)
    obtain ⟨hjun, oj', hoj', hall⟩ := mem_ready.1 hj
    have : oj' = oj := by rw [hoj] at hoj'; exact (Option.some.inj hoj').symm
    subst this
    have hnot : ∀ x ∈ oj'.after, Region.binds md x = true → x.on ≠ i := fun x hx hb he => by
      have h1 := hall x hx hb
      have h0 := (mem_ready.1 hr).1
      rw [he] at h1
      by_cases hs : i < listed.size
      · simp [hs] at h0 h1; rw [h0] at h1; cases h1
      · simp [Array.getElem?_eq_none (Nat.le_of_not_lt hs)] at h1
    have hap := hfree j oj' hoj e hjun hnot
    obtain ⟨p1, p2, p3⟩ := Oper.apart_spec hap
    have hcj' : IsCalm P ops S oj' u a := hcj.alike (execOp_put oj' (fun cs b => hsel j oj' cs b hoj) a oi.dst v p1).symm (wanted_put oj' a oi.dst v p1).symm
    have hci' : IsCalm P ops S oi v (a.put oj'.dst u) := hc.alike (execOp_put oi (fun cs b => hsel i oi cs b hi) a oj'.dst u p3) (wanted_put oi a oj'.dst u p3)
    refine ⟨oj', u, hoj, hcj', ih (listed.setIfInBounds j true) _ ?_ (ready_mono hr (fun h => e h.symm)) hci' ?_⟩
    · intro k ok hk hki hun hno
      refine hfree k ok hk hki ?_ hno
      by_cases hjk : j = k
      · subst hjk; exact hjun
      · rw [getD_set_ne true hjk] at hun; exact hun
    · rw [Array.setIfInBounds_comm _ _ e, ← Act.put_comm a v u p2]
      exact hn

/-- One walk, in the text's order. -/
def calmRow (P : Program) (ops : Array Oper) (S : World → Prop) (Q : Act → Prop) : List Oper → Act → Prop
  | [], a => Q a
  | o :: rest, a => ∃ v, IsCalm P ops S o v a ∧ calmRow P ops S Q rest (a.put o.dst v)

theorem calmRow.any {Q : Act → Prop} (hns : Region.noSelect ops = true) : ∀ (l : List Oper) (k : Nat) (listed : Array Bool) (a : Act), (∀ j, l[j]? = ops[k + j]?) → Region.lexFrom md ops l.length k listed = true → calmRow P ops S Q l a → anyCalm P md ops S Q l.length listed a
  | [], _, _, _, _, hB, h => ⟨by simpa [Region.lexFrom] using hB, h⟩
  | o :: l, k, listed, a, hl, hB, h => by
    have h0 : ops[k]? = some o := by simpa using (hl 0).symm
    obtain ⟨v, hc, hn⟩ := h
    simp only [List.length_cons, Region.lexFrom, Bool.and_eq_true, List.contains_iff_mem] at hB
    exact anyCalm.first h0 hns l.length listed a (Region.free_spec h0 hB.1.2) hB.1.1 hc (calmRow.any hns l (k + 1) _ _ (fun j => by have := hl (j + 1); rw [Nat.add_assoc, Nat.add_comm 1 j]; simpa using this) hB.2 hn)

theorem wp_region_calm {id : Nat} {Q' : Exit → Act → World → Prop} {a : Act} {w : World} {l : List Oper} (hm : P.follows .mixedOrders = true) (hB : Region.lexB .any l.toArray = true) (hS : S w.drew)
    (h : calmRow P l.toArray S (fun a => ∀ w', S w' → Q' .normal a w') l a) : (Code.region id l.toArray true).wp P Q' a w := by
  simp only [Region.lexB, Bool.and_eq_true] at hB
  refine wp_region_any hm (anyCalm.sound (S := S) (Q := fun a => ∀ w', S w' → Q' .normal a w') (fun a w hQ hw => hQ w hw) _ _ _ _ hS ?_)
  have := calmRow.any (md := .any) hB.1 l 0 (Array.replicate l.toArray.size false) a (by simp) (by simpa using hB.2) h
  simpa using this

theorem calmRow_nil {Q : Act → Prop} {a : Act} (h : Q a) : calmRow P ops S Q [] a := h
theorem calmRow_take {Q : Act → Prop} {a : Act} {o : Oper} {rest : List Oper} {v : Value} (hw : Region.wanted o (yielded ops a.tmps) = true) (hv : ∀ w, S w → calmTo P S v ((execOp a.eval o).run P w)) (h : calmRow P ops S Q rest (a.put o.dst v)) : calmRow P ops S Q (o :: rest) a :=
  ⟨v, .inl ⟨hw, hv⟩, h⟩
theorem calmRow_free {Q : Act → Prop} {a : Act} {o : Oper} {rest : List Oper} {v : Value} (hg : o.guard = none) (hv : ∀ w, S w → calmTo P S v ((execOp a.eval o).run P w)) (h : calmRow P ops S Q rest (a.put o.dst v)) : calmRow P ops S Q (o :: rest) a :=
  ⟨v, .inl ⟨by unfold Region.wanted; rw [hg], hv⟩, h⟩
theorem calmRow_skip {Q : Act → Prop} {a : Act} {o : Oper} {rest : List Oper} (hw : Region.wanted o (yielded ops a.tmps) = false) (h : calmRow P ops S Q rest (a.put o.dst undef)) : calmRow P ops S Q (o :: rest) a :=
  ⟨undef, .inr ⟨hw, rfl⟩, h⟩

end
end Go.Proofs.YtkiccbjngokpjaaGreat
