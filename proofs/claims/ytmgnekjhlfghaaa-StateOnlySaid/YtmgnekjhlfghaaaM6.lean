/-
  Merged, in build order: Calm Pack.
-/
import Derived.Still
import Derived.Deep.RegionHeld3
import Derived.KernelRfl
import Derived.Test.YtmgnekjhlfghaaaM3
import Derived.Test.YtmgnekjhlfghaaaM2
/-
  A region that draws its order, whose operations read, or call what leaves a condition S on the world as it is: one walk, in the text's order. Of no program.
-/
namespace Go.Proofs.Ytmgnekjhlfghaaa
open Go.RowKit
set_option linter.unusedVariables false

section
variable {P : Program} {ops : Array Oper} {S : World → Prop} {md : Region.Mode}

/-- What one operation that runs to its end may come to: the value v, and S again. -/
def calmTo (P : Program) (S : World → Prop) (v : Value) : Result Next → Prop
  | .ok (.value u) w' => u = v ∧ S w'
  | .ok .skip w' => v = undef ∧ S w'
  | .ok (.enter f args) w' => Calls P f args w' fun e w'' => e = .returned v ∧ S w''
  | _ => False
@[go_sem] theorem calmTo_value (v u : Value) (w : World) : calmTo P S v (.ok (.value u) w) = (u = v ∧ S w) := rfl
@[go_sem] theorem calmTo_skip (v : Value) (w : World) : calmTo P S v (.ok .skip w) = (v = undef ∧ S w) := rfl
@[go_sem] theorem calmTo_enter (v : Value) (f : FuncId) (args : Array Value) (w : World) : calmTo P S v (.ok (.enter f args) w) = Calls P f args w fun e w'' => e = .returned v ∧ S w'' := rfl

/-- In every world of S the operation yields v and leaves S; or it isn't wanted. -/
def IsCalm (P : Program) (ops : Array Oper) (S : World → Prop) (o : Oper) (v : Value) (a : Act) : Prop :=
  (Region.wanted o (yielded ops a.tmps) = true ∧ ∀ w, S w → calmTo P S v ((execOp a.eval o).run P w)) ∨ (Region.wanted o (yielded ops a.tmps) = false ∧ v = undef)

theorem IsCalm.alike {o : Oper} {v : Value} {a a' : Act} (h : IsCalm P ops S o v a) (he : execOp a'.eval o = execOp a.eval o) (hw : Region.wanted o (yielded ops a'.tmps) = Region.wanted o (yielded ops a.tmps)) : IsCalm P ops S o v a' := by
  unfold IsCalm; rw [he, hw]; exact h

theorem IsCalm.wpOp {Q : Exit → Act → World → Prop} {i : Nat} {o : Oper} {v : Value} {a : Act} (hi : ops[i]? = some o) (h : IsCalm P ops S o v a) {K : Act → World → Prop} {w : World} (hS : S w) (hK : ∀ w', S w' → K (a.put o.dst v) w') : wpOp P ops Q i K a w := by
  unfold Go.wpOp
  simp only [hi]
  rcases h with ⟨hw, hv⟩ | ⟨hw, rfl⟩
  · have h1 := hv w hS
    simp only [hw, if_true]
    refine .inl ?_
    unfold Oper.wp
    generalize (execOp a.eval o).run P w = r at h1 ⊢
    cases r with
    | halt x w' => exact h1.elim
    | ok n w' =>
      cases n with
      | value u => obtain ⟨rfl, h2⟩ := h1; exact hK _ h2
      | skip => obtain ⟨rfl, h2⟩ := h1; exact hK _ h2
      | enter f args =>
        refine Calls.mono (show Calls P f args w' fun e w'' => e = .returned v ∧ S w'' from h1) fun e w'' h2 => ?_
        obtain ⟨rfl, h3⟩ := h2
        exact hK _ h3
      | _ => exact h1.elim
  · simp only [hw, Bool.false_eq_true, if_false]; exact hK _ hS

/-- Whatever may come up next is calm, and so on. -/
def anyCalm (P : Program) (md : Region.Mode) (ops : Array Oper) (S : World → Prop) (Q : Act → Prop) : Nat → Array Bool → Act → Prop
  | 0, listed, a => Region.ready md ops listed = [] ∧ Q a
  | fuel + 1, listed, a => (Region.ready md ops listed = [] → Q a) ∧
    ∀ i ∈ Region.ready md ops listed, ∃ o v, ops[i]? = some o ∧ IsCalm P ops S o v a ∧ anyCalm P md ops S Q fuel (listed.setIfInBounds i true) (a.put o.dst v)

theorem anyCalm.sound {Q : Act → Prop} {Q' : Exit → Act → World → Prop} (hQ : ∀ a w, Q a → S w → Q' .normal a w) : ∀ (fuel : Nat) (listed : Array Bool) (a : Act) (w : World), S w → anyCalm P md ops S Q fuel listed a → wpAny P md ops Q' fuel listed a w
  | 0, _, _, _, hS, h => ⟨h.1, hQ _ _ h.2 hS⟩
  | fuel + 1, listed, a, w, hS, h => ⟨fun h0 => hQ _ _ (h.1 h0) hS, fun i hi => by
      obtain ⟨o, v, ho, hc, hn⟩ := h.2 i hi
      exact hc.wpOp ho hS fun w' hS' => anyCalm.sound hQ fuel _ _ w' hS' hn⟩

/-- An operation that may come up and that nobody waits to pass may come first. -/
theorem anyCalm.first {Q : Act → Prop} {i : Nat} {oi : Oper} {v : Value} (hi : ops[i]? = some oi) (hns : Region.noSelect ops = true) (fuel : Nat) :
    ∀ (listed : Array Bool) (a : Act), (∀ j oj, ops[j]? = some oj → j ≠ i → listed.getD j true = false → (∀ e ∈ oj.after, Region.binds md e = true → e.on ≠ i) → oi.apart ops oj = true) →
      i ∈ Region.ready md ops listed → IsCalm P ops S oi v a → anyCalm P md ops S Q fuel (listed.setIfInBounds i true) (a.put oi.dst v) → anyCalm P md ops S Q (fuel + 1) listed a := by
  have hsel := fun (j : Nat) (o : Oper) (cs : Array SelectCase) (b : Bool) => Region.noSelect_spec hns j o cs b
  induction fuel with
  | zero =>
    intro listed a _ hr hc H
    refine ⟨fun h0 => absurd hr (by rw [h0]; exact List.not_mem_nil), fun j hj => ?_⟩
    by_cases e : j = i
    · subst e; exact ⟨oi, v, hi, hc, H⟩
    · have h1 := ready_mono hj e
      rw [H.1] at h1
      cases h1
  | succ fuel ih =>
    intro listed a hfree hr hc H
    refine ⟨fun h0 => absurd hr (by rw [h0]; exact List.not_mem_nil), fun j hj => ?_⟩
    by_cases e : j = i
    · subst e; exact ⟨oi, v, hi, hc, H⟩
    obtain ⟨oj, u, hoj, hcj, hn⟩ := H.2 j (ready_mono hj e)
    obtain ⟨hjun, oj', hoj', hall⟩ := mem_ready.1 hj
    have : oj' = oj := by rw [hoj] at hoj'; exact (Option.some.inj hoj').symm
    subst this
    have hnot : ∀ x ∈ oj'.after, Region.binds md x = true → x.on ≠ i := fun x hx hb he => by
      have h1 := hall x hx hb
      have h0 := (mem_ready.1 hr).1
      rw [he] at h1
      by_cases hs : i < listed.size
      · simp [hs] at h0 h1; rw [h0] at h1; cases h1
      · simp [Array.getElem?_eq_none (Nat.le_of_not_lt hs)] at h1
    have hap := hfree j oj' hoj e hjun hnot
    obtain ⟨p1, p2, p3⟩ := Oper.apart_spec hap
    have hcj' : IsCalm P ops S oj' u a := hcj.alike (execOp_put oj' (fun cs b => hsel j oj' cs b hoj) a oi.dst v p1).symm (wanted_put oj' a oi.dst v p1).symm
    have hci' : IsCalm P ops S oi v (a.put oj'.dst u) := hc.alike (execOp_put oi (fun cs b => hsel i oi cs b hi) a oj'.dst u p3) (wanted_put oi a oj'.dst u p3)
    refine ⟨oj', u, hoj, hcj', ih (listed.setIfInBounds j true) _ ?_ (ready_mono hr (fun h => e h.symm)) hci' ?_⟩
    · intro k ok hk hki hun hno
      refine hfree k ok hk hki ?_ hno
      by_cases hjk : j = k
      · subst hjk; exact hjun
      · rw [getD_set_ne true hjk] at hun; exact hun
    · rw [Array.setIfInBounds_comm _ _ e, ← Act.put_comm a v u p2]
      exact hn

/-- One walk, in the text's order. -/
def calmRow (P : Program) (ops : Array Oper) (S : World → Prop) (Q : Act → Prop) : List Oper → Act → Prop
  | [], a => Q a
  | o :: rest, a => ∃ v, IsCalm P ops S o v a ∧ calmRow P ops S Q rest (a.put o.dst v)

theorem calmRow.any {Q : Act → Prop} (hns : Region.noSelect ops = true) : ∀ (l : List Oper) (k : Nat) (listed : Array Bool) (a : Act), (∀ j, l[j]? = ops[k + j]?) → Region.lexFrom md ops l.length k listed = true → calmRow P ops S Q l a → anyCalm P md ops S Q l.length listed a
  | [], _, _, _, _, hB, h => ⟨by simpa [Region.lexFrom] using hB, h⟩
  | o :: l, k, listed, a, hl, hB, h => by
    have h0 : ops[k]? = some o := by simpa using (hl 0).symm
    obtain ⟨v, hc, hn⟩ := h
    simp only [List.length_cons, Region.lexFrom, Bool.and_eq_true, List.contains_iff_mem] at hB
    exact anyCalm.first h0 hns l.length listed a (Region.free_spec h0 hB.1.2) hB.1.1 hc (calmRow.any hns l (k + 1) _ _ (fun j => by have := hl (j + 1); rw [Nat.add_assoc, Nat.add_comm 1 j]; simpa using this) hB.2 hn)

theorem wp_region_calm {id : Nat} {Q' : Exit → Act → World → Prop} {a : Act} {w : World} {l : List Oper} (hm : P.follows .mixedOrders = true) (hB : Region.lexB .any l.toArray = true) (hS : S w.drew)
    (h : calmRow P l.toArray S (fun a => ∀ w', S w' → Q' .normal a w') l a) : (Code.region id l.toArray true).wp P Q' a w := by
  simp only [Region.lexB, Bool.and_eq_true] at hB
  refine wp_region_any hm (anyCalm.sound (S := S) (Q := fun a => ∀ w', S w' → Q' .normal a w') (fun a w hQ hw => hQ w hw) _ _ _ _ hS ?_)
  have := calmRow.any (md := .any) hB.1 l 0 (Array.replicate l.toArray.size false) a (by simp) (by simpa using hB.2) h
  simpa using this

theorem calmRow_nil {Q : Act → Prop} {a : Act} (h : Q a) : calmRow P ops S Q [] a := h
theorem calmRow_take {Q : Act → Prop} {a : Act} {o : Oper} {rest : List Oper} {v : Value} (hw : Region.wanted o (yielded ops a.tmps) = true) (hv : ∀ w, S w → calmTo P S v ((execOp a.eval o).run P w)) (h : calmRow P ops S Q rest (a.put o.dst v)) : calmRow P ops S Q (o :: rest) a :=
  ⟨v, .inl ⟨hw, hv⟩, h⟩
theorem calmRow_free {Q : Act → Prop} {a : Act} {o : Oper} {rest : List Oper} {v : Value} (hg : o.guard = none) (hv : ∀ w, S w → calmTo P S v ((execOp a.eval o).run P w)) (h : calmRow P ops S Q rest (a.put o.dst v)) : calmRow P ops S Q (o :: rest) a :=
  ⟨v, .inl ⟨by unfold Region.wanted; rw [hg], hv⟩, h⟩
theorem calmRow_skip {Q : Act → Prop} {a : Act} {o : Oper} {rest : List Oper} (hw : Region.wanted o (yielded ops a.tmps) = false) (h : calmRow P ops S Q rest (a.put o.dst undef)) : calmRow P ops S Q (o :: rest) a :=
  ⟨undef, .inr ⟨hw, rfl⟩, h⟩

end
end Go.Proofs.Ytmgnekjhlfghaaa

/-
  Things packed into one, and taken apart again. Of no program.
-/
namespace Go.Proofs.Ytmgnekjhlfghaaa
open Go.RowKit
set_option linter.unusedVariables false
set_option linter.unusedSimpArgs false

/-- Several things in one. -/
def Pack1 (L : List Thing1) : Thing1 := fun w F => (∀ A, A ∈ L → Loc1 A) ∧ ∃ FF : Nat → List Nat, F = (List.range L.length).flatMap FF ∧ (∀ (k : Nat) (A : Thing1), L[k]? = some A → A w (FF k)) ∧ ∀ j k : Nat, j < L.length → k < L.length → j ≠ k → ∀ x, x ∈ FF j → x ∉ FF k
def PackT (L : List Thing1) : Thing := own (Pack1 L)
theorem Pack1.keep {L : List Thing1} {w w' : World} {F S : List Nat} (h : Pack1 L w F) (hF : Fr S w w') (hd : ∀ x, x ∈ F → x ∉ S) : Pack1 L w' F := by
  obtain ⟨h0, FF, rfl, h1, h2⟩ := h
  refine ⟨h0, FF, rfl, fun k A hA => ?_, h2⟩
  have := h0 A (List.mem_of_getElem? hA)
  exact this.keep (h1 k A hA) hF (fun x hx => hd x (List.mem_flatMap.2 ⟨k, by simpa using (List.getElem?_eq_some_iff.1 hA).1, hx⟩))
theorem Pack1.lt {L : List Thing1} {w : World} {F : List Nat} (h : Pack1 L w F) : ∀ x, x ∈ F → x < w.heap.size := by
  obtain ⟨h0, FF, rfl, h1, h2⟩ := h
  intro x hx
  obtain ⟨k, hk, hx⟩ := List.mem_flatMap.1 hx
  have hk : k < L.length := by simpa using hk
  have := h0 _ (List.getElem_mem hk)
  exact this.lt (h1 k _ (List.getElem?_eq_getElem hk)) x hx
instance (L : List Thing1) : Loc1 (Pack1 L) where
  keep := fun h hF hd => h.keep hF hd
  lt := fun h x hx => h.lt x hx

/-- Nothing at all. -/
def Nil1 : Thing1 := fun _ F => F = []
def NilT : Thing := own Nil1
instance : Loc1 Nil1 where
  keep := fun h _ _ => h
  lt := fun h x hx => by rw [h] at hx; cases hx

section
variable {W : Base} {w : World} {R : List Thing}

theorem St.unpackG (H : St W w R) (i : Nat) {B : Thing1} (hi : R[i]? = some (own B)) : ∃ F, B w F ∧ ∀ L : List Thing1, Pack1 L w F → St W w (R.set i NilT ++ L.map own) := by
  obtain ⟨h1, Fs, Gs, h2, h3, h4⟩ := H
  have hlt := lt_of_get hi
  obtain ⟨⟨hG, hB⟩, hL, hf, hg⟩ := h2 i _ hi
  refine ⟨Fs i, hB, fun L hP => ?_⟩
  obtain ⟨p0, FF, pF, p1, p2⟩ := hP
  have hmem : ∀ k, k < L.length → ∀ x, x ∈ FF k → x ∈ Fs i := fun k hk x hx => by rw [pF]; exact List.mem_flatMap.2 ⟨k, by simpa using hk, hx⟩
  refine ⟨h1, fun j => if j < R.length then (if j = i then [] else Fs j) else FF (j - R.length), fun j => if j < R.length then (if j = i then [] else Gs j) else [], fun j A hA => ?_, fun j k hj hk hjk x hx hxk => ?_, fun j k hj hk x hx hxk => ?_⟩
  · by_cases hjr : j < R.length
    · rw [List.getElem?_append_left (by simpa using hjr)] at hA
      simp only [if_pos hjr]
      by_cases hji : j = i
      · subst hji
        rw [List.getElem?_set_self hlt] at hA
        cases hA
        simp only [if_pos]
        exact ⟨⟨rfl, rfl⟩, (inferInstance : Loc (own Nil1)), by simp, by simp⟩
      · rw [List.getElem?_set_ne (fun e => hji e.symm)] at hA
        simp only [if_neg hji]
        exact h2 j A hA
    · rw [List.getElem?_append_right (by simpa using hjr)] at hA
      simp only [List.length_set, List.getElem?_map] at hA
      obtain ⟨A1, hA1, rfl⟩ := Option.map_eq_some_iff.1 hA
      simp only [if_neg hjr]
      have hk := (List.getElem?_eq_some_iff.1 hA1).1
      have hl := p0 A1 (List.mem_of_getElem? hA1)
      exact ⟨⟨rfl, p1 _ _ hA1⟩, inferInstance, fun x hx => hf x (hmem _ hk x hx), by simp⟩
  · simp only [List.length_append, List.length_set, List.length_map] at hj hk
    by_cases hjr : j < R.length
    · simp only [if_pos hjr] at hx
      by_cases hji : j = i
      · simp [hji] at hx
      · simp only [if_neg hji] at hx
        by_cases hkr : k < R.length
        · simp only [if_pos hkr] at hxk
          by_cases hki : k = i
          · simp [hki] at hxk
          · simp only [if_neg hki] at hxk
            exact h3 j k hjr hkr hjk x hx hxk
        · simp only [if_neg hkr] at hxk
          exact h3 j i hjr hlt hji x hx (hmem _ (by omega) x hxk)
    · simp only [if_neg hjr] at hx
      by_cases hkr : k < R.length
      · simp only [if_pos hkr] at hxk
        by_cases hki : k = i
        · simp [hki] at hxk
        · simp only [if_neg hki] at hxk
          exact h3 k i hkr hlt hki x hxk (hmem _ (by omega) x hx)
      · simp only [if_neg hkr] at hxk
        exact p2 _ _ (by omega) (by omega) (by omega) x hx hxk
  · simp only [List.length_append, List.length_set, List.length_map] at hj hk
    by_cases hkr : k < R.length
    · simp only [if_pos hkr] at hxk
      by_cases hki : k = i
      · simp [hki] at hxk
      · simp only [if_neg hki] at hxk
        by_cases hjr : j < R.length
        · simp only [if_pos hjr] at hx
          by_cases hji : j = i
          · simp [hji] at hx
          · simp only [if_neg hji] at hx
            exact h4 j k hjr hkr x hx hxk
        · simp only [if_neg hjr] at hx
          exact h4 i k hlt hkr x (hmem _ (by omega) x hx) hxk
    · simp [if_neg hkr] at hxk

theorem St.packG {T : List Thing} {L : List Thing1} (H : St W w (T ++ L.map own)) (i : Nat) (hi : T[i]? = some NilT) (hL : ∀ A, A ∈ L → Loc1 A) {B : Thing1} [hB : Loc1 B] (h : ∀ F, Pack1 L w F → B w F) : St W w (T.set i (own B)) := by
  obtain ⟨h1, Fs, Gs, h2, h3, h4⟩ := H
  have hlt := lt_of_get hi
  have hget : ∀ k A, L[k]? = some A → (T ++ L.map own)[T.length + k]? = some (own A) := fun k A hk => by
    rw [List.getElem?_append_right (by omega), Nat.add_sub_cancel_left, List.getElem?_map, hk]; rfl
  have hP : Pack1 L w ((List.range L.length).flatMap fun k => Fs (T.length + k)) := by
    refine ⟨hL, fun k => Fs (T.length + k), rfl, fun k A hA => ?_, fun j k hj hk hjk => ?_⟩
    · exact (h2 _ _ (hget k A hA)).1.2
    · exact h3 _ _ (by simp; omega) (by simp; omega) (by omega)
  have hmem : ∀ x, x ∈ ((List.range L.length).flatMap fun k => Fs (T.length + k)) → ∃ k, k < L.length ∧ x ∈ Fs (T.length + k) := fun x hx => by
    obtain ⟨k, hk, hx⟩ := List.mem_flatMap.1 hx
    exact ⟨k, by simpa using hk, hx⟩
  refine ⟨h1, fun j => if j = i then (List.range L.length).flatMap (fun k => Fs (T.length + k)) else Fs j, fun j => if j = i then [] else Gs j, fun j A hA => ?_, fun j k hj hk hjk x hx hxk => ?_, fun j k hj hk x hx hxk => ?_⟩
  · by_cases hji : j = i
    · subst hji
      rw [List.getElem?_set_self hlt] at hA
      cases hA
      simp only [if_pos]
      refine ⟨⟨rfl, h _ hP⟩, inferInstance, fun x hx => ?_, by simp⟩
      obtain ⟨k, hk, hx⟩ := hmem x hx
      exact (h2 _ _ (hget k _ (List.getElem?_eq_getElem hk))).2.2.1 x hx
    · rw [List.getElem?_set_ne (fun e => hji e.symm)] at hA
      simp only [if_neg hji]
      have hj := lt_of_get hA
      exact h2 j A (by rw [List.getElem?_append_left hj]; exact hA)
  · simp only [List.length_set] at hj hk
    by_cases hji : j = i
    · simp only [if_pos hji] at hx
      have hki : ¬ k = i := fun e => hjk (hji.trans e.symm)
      simp only [if_neg hki] at hxk
      obtain ⟨m, hm, hx⟩ := hmem x hx
      exact h3 _ _ (by simp; omega) (by simp; omega) (by omega) x hx hxk
    · simp only [if_neg hji] at hx
      by_cases hki : k = i
      · simp only [if_pos hki] at hxk
        obtain ⟨m, hm, hxk⟩ := hmem x hxk
        exact h3 _ _ (by simp; omega) (by simp; omega) (by omega) x hx hxk
      · simp only [if_neg hki] at hxk
        exact h3 _ _ (by simp; omega) (by simp; omega) hjk x hx hxk
  · simp only [List.length_set] at hj hk
    by_cases hki : k = i
    · simp [if_pos hki] at hxk
    · simp only [if_neg hki] at hxk
      by_cases hji : j = i
      · simp only [if_pos hji] at hx
        obtain ⟨m, hm, hx⟩ := hmem x hx
        exact h4 _ _ (by simp; omega) (by simp; omega) x hx hxk
      · simp only [if_neg hji] at hx
        exact h4 _ _ (by simp; omega) (by simp; omega) x hx hxk

/-- Behind the end: several things become one. -/
theorem St.packEnd {L : List Thing1} (H : St W w (R ++ L.map own)) (hL : ∀ A, A ∈ L → Loc1 A) {B : Thing1} [hB : Loc1 B] (h : ∀ F, Pack1 L w F → B w F) : St W w (R ++ [own B]) := by
  have h1 : St W w ((R ++ L.map own) ++ [NilT]) := H.new (A := Nil1) (F := []) (Fr.refl _ _) inferInstance rfl (by simp)
  have h2 : St W w ((R ++ [NilT]) ++ L.map own) := by
    refine h1.pick (List.range R.length ++ [(R ++ L.map own).length] ++ (List.range L.length).map (R.length + ·)) ?_ (by simp <;> omega) (fun k j hk => ?_)
    · rw [List.nodup_append, List.nodup_append]
      refine ⟨⟨List.nodup_range, by simp, fun a ha b hb => by simp at ha hb; omega⟩, List.Pairwise.map _ (fun a b hab => by simpa using hab) List.nodup_range, fun a ha b hb => ?_⟩
      simp at ha hb
      obtain ⟨c, hc, rfl⟩ := hb
      omega
    · by_cases hk1 : k < R.length
      · rw [List.append_assoc, List.getElem?_append_left (by simpa using hk1), List.getElem?_range hk1] at hk
        cases hk
        rw [List.append_assoc, List.getElem?_append_left hk1, List.append_assoc, List.getElem?_append_left hk1]
      · by_cases hk2 : k = R.length
        · subst hk2
          have e0 : (List.range R.length ++ [(R ++ L.map own).length] ++ (List.range L.length).map (R.length + ·))[R.length]? = some (R ++ L.map own).length := by
            rw [List.append_assoc, List.getElem?_append_right (by simp)]; simp
          rw [e0] at hk
          cases hk
          have e1 : ((R ++ [NilT]) ++ L.map own)[R.length]? = some NilT := by
            rw [List.getElem?_append_left (by simp), List.getElem?_append_right (Nat.le_refl _), Nat.sub_self]; rfl
          have e2 : ((R ++ L.map own) ++ [NilT])[(R ++ L.map own).length]? = some NilT := by
            rw [List.getElem?_append_right (Nat.le_refl _), Nat.sub_self]; rfl
          rw [e1, e2]
        · rw [List.getElem?_append_right (by simp; omega)] at hk
          simp only [List.length_append, List.length_range, List.length_singleton, List.getElem?_map] at hk
          obtain ⟨m, hm, rfl⟩ := Option.map_eq_some_iff.1 hk
          obtain ⟨hm1, hm2⟩ := List.getElem?_eq_some_iff.1 hm
          simp at hm1 hm2
          rw [List.getElem?_append_right (by simp; omega), List.append_assoc, List.getElem?_append_right (by omega), Nat.add_sub_cancel_left, List.getElem?_append_left (by simpa using by omega)]
          congr 1
          simp; omega
  have h3 := h2.packG R.length (by simp) hL h
  rwa [List.set_append_right _ _ (by omega), Nat.sub_self] at h3

/-! ### The order of the things doesn't count -/
theorem St.swap {A B : Thing} {T : List Thing} (H : St W w (R ++ A :: B :: T)) : St W w (R ++ B :: A :: T) := by
  have hinj : ∀ a b : Nat, (if a = R.length then R.length + 1 else if a = R.length + 1 then R.length else a) = (if b = R.length then R.length + 1 else if b = R.length + 1 then R.length else b) → a = b := fun a b h => by
    split at h <;> split at h <;> (try split at h) <;> (try split at h) <;> omega
  refine H.pick ((List.range (R ++ A :: B :: T).length).map fun k => if k = R.length then R.length + 1 else if k = R.length + 1 then R.length else k) (List.Pairwise.map _ (fun a b hab h => hab (hinj a b h)) List.nodup_range) (by simp) (fun k i hk => ?_)
  rw [List.getElem?_map] at hk
  obtain ⟨j, hj, rfl⟩ := Option.map_eq_some_iff.1 hk
  obtain ⟨h1, h2⟩ := List.getElem?_eq_some_iff.1 hj
  simp at h1 h2
  subst h2
  by_cases e1 : k = R.length
  · subst e1
    rw [if_pos rfl, List.getElem?_append_right (Nat.le_refl _), List.getElem?_append_right (by omega)]
    simp
  · rw [if_neg e1]
    by_cases e2 : k = R.length + 1
    · subst e2
      rw [if_pos rfl, List.getElem?_append_right (by omega), List.getElem?_append_right (Nat.le_refl _)]
      simp
    · rw [if_neg e2]
      by_cases e3 : k < R.length
      · rw [List.getElem?_append_left e3, List.getElem?_append_left e3]
      · obtain ⟨m, hm⟩ : ∃ m, k = R.length + (m + 2) := ⟨k - R.length - 2, by omega⟩
        subst hm
        rw [List.getElem?_append_right (by omega), List.getElem?_append_right (by omega), Nat.add_sub_cancel_left]
        rfl
theorem St.permG {A B : List Thing} (h : A.Perm B) : ∀ {R : List Thing}, St W w (R ++ A) → St W w (R ++ B) := by
  induction h with
  | nil => exact fun H => H
  | cons x _ ih =>
    intro R H
    have h1 := ih (R := R ++ [x]) (by rw [List.append_assoc]; exact H)
    rw [List.append_assoc] at h1
    exact h1
  | swap x y l => exact fun H => H.swap
  | trans _ _ ih1 ih2 => exact fun H => ih2 (ih1 H)
theorem St.perm {R' : List Thing} (H : St W w R) (h : R.Perm R') : St W w R' := by
  have := St.permG (R := []) h (by simpa using H)
  simpa using this
/-- Some of the things, in any order. -/
theorem St.sub {A B : List Thing} (H : St W w R) (h : R.Perm (A ++ B)) : St W w A := by
  have h1 := (H.perm h).take A.length
  rwa [List.take_left'] at h1
  rfl
end
end Go.Proofs.Ytmgnekjhlfghaaa
