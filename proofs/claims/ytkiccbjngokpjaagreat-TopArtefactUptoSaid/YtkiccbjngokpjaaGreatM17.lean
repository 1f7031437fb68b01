/-
  Merged, in build order: Map Strm.
-/
import Derived.Maps.OwnSet
import Derived.Test.YtkiccbjngokpjaaGreatM3
/-
  A map keyed by int, as a thing: its entries as a list. Of no program.
-/
namespace Go.Proofs.YtkiccbjngokpjaaGreat
open Go.RowKit
open Go.Maps (Keyed IsMap Tidy int_keyed keyOf_int_mk)
set_option linter.unusedVariables false

section
variable {α : Type}
def mget (es : List (Int × α)) (k : Int) : Option α := (es.find? (fun p => p.1 == k)).map (·.2)
def mdel (es : List (Int × α)) (k : Int) : List (Int × α) := es.filter (fun p => !(p.1 == k))
def mput (es : List (Int × α)) (k : Int) (v : α) : List (Int × α) := mdel es k ++ [(k, v)]
theorem mget_del_same (es : List (Int × α)) (k : Int) : mget (mdel es k) k = none := by
  unfold mget mdel
  rw [Option.map_eq_none_iff, List.find?_eq_none]
  intro p hp
  simpa using (List.mem_filter.1 hp).2
theorem mget_del_other (es : List (Int × α)) {j k : Int} (h : j ≠ k) : mget (mdel es k) j = mget es j := by
  unfold mget mdel
  rw [Maps.find_filter_keep]
  intro p hp
  simp only [beq_iff_eq] at hp
  simp [hp, h]
theorem mget_put_same (es : List (Int × α)) (k : Int) (v : α) : mget (mput es k v) k = some v := by
  have h := mget_del_same es k
  unfold mget at h ⊢
  rw [Option.map_eq_none_iff] at h
  unfold mput
  rw [List.find?_append, h]
  simp
theorem mget_put_other (es : List (Int × α)) {j k : Int} (h : j ≠ k) (v : α) : mget (mput es k v) j = mget es j := by
  rw [← mget_del_other es h]
  unfold mget mput
  rw [List.find?_append]
  have h1 : List.find? (fun p : Int × α => p.1 == j) [(k, v)] = none := by simp [h.symm]
  rw [h1, Option.or_none]
theorem mdel_of_none {es : List (Int × α)} {k : Int} (h : mget es k = none) : mdel es k = es := by
  unfold mget at h
  rw [Option.map_eq_none_iff, List.find?_eq_none] at h
  unfold mdel
  rw [List.filter_eq_self]
  intro p hp
  simpa using h p hp
theorem mget_mem {es : List (Int × α)} {k : Int} {v : α} (h : mget es k = some v) : (k, v) ∈ es := by
  unfold mget at h
  obtain ⟨p, hp, rfl⟩ := Option.map_eq_some_iff.1 h
  have h1 := List.find?_some hp
  have h2 := List.mem_of_find?_eq_some hp
  simp only [beq_iff_eq] at h1
  subst h1
  exact h2
theorem mdel_length (k : Int) : ∀ (es : List (Int × α)), (es.map (·.1)).Nodup → (mdel es k).length + (if (mget es k).isSome then 1 else 0) = es.length
  | [], _ => rfl
  | p :: es, h => by
    simp only [List.map_cons, List.nodup_cons] at h
    have ih := mdel_length k es h.2
    unfold mdel mget at ih ⊢
    by_cases hp : p.1 = k
    · have h1 : es.find? (fun p => p.1 == k) = none := by
        rw [List.find?_eq_none]
        intro q hq e
        simp only [beq_iff_eq] at e
        exact h.1 (List.mem_map.2 ⟨q, hq, e.trans hp.symm⟩)
      rw [h1] at ih
      simp [hp] at ih ⊢
      omega
    · have h1 : (p.1 == k) = false := by simpa using hp
      simp only [List.filter_cons, h1, Bool.not_false, if_true, List.length_cons, List.find?_cons]
      omega
theorem mdel_nodup {es : List (Int × α)} (h : (es.map (·.1)).Nodup) (k : Int) : ((mdel es k).map (·.1)).Nodup := by
  unfold mdel
  exact h.sublist ((List.filter_sublist).map _)
theorem mput_nodup {es : List (Int × α)} (h : (es.map (·.1)).Nodup) (k : Int) (v : α) : ((mput es k v).map (·.1)).Nodup := by
  unfold mput
  rw [List.map_append, List.nodup_append]
  refine ⟨mdel_nodup h k, by simp, fun x hx y hy e => ?_⟩
  obtain ⟨p, hp, rfl⟩ := List.mem_map.1 hx
  simp at hy
  subst hy
  have := (List.mem_filter.1 hp).2
  simp [e] at this
theorem mput_length {es : List (Int × α)} (h : (es.map (·.1)).Nodup) (k : Int) (v : α) : (mput es k v).length = if (mget es k).isSome then es.length else es.length + 1 := by
  have := mdel_length k es h
  unfold mput
  rw [List.length_append, List.length_singleton]
  split <;> rename_i hs
  · rw [if_pos hs] at this; exact this
  · rw [if_neg hs] at this; omega
theorem mput_length_le {es : List (Int × α)} (k : Int) (v : α) : (mput es k v).length ≤ es.length + 1 := by
  unfold mput mdel
  rw [List.length_append, List.length_singleton]
  have := List.length_filter_le (fun p : Int × α => !(p.1 == k)) es
  omega
end

/-- An element is read as it lies. -/
def rawE (v : Value) : Option (DataW Value × List MemPlace) := some (.held v, [])

section
variable {α : Type} {P : Program} {kt : TypeId}
def MpRel (es : List (Int × α)) (enc : α → Value) (D : DataW Value) : Prop := ∀ k : Int, (Lit.int .i64 k).wf = true → (mget es k = none → Maps.has D (.int .i64 k) = false) ∧ ∀ v, mget es k = some v → Maps.has D (.int .i64 k) = true ∧ ∀ z, D.atKey (.int .i64 k) z = .held (enc v)
def Mp1 (P : Program) (kt : TypeId) (b : Nat) (enc : α → Value) (es : List (Int × α)) : Thing1 := fun w F => F = [b] ∧ (es.map (·.1)).Nodup ∧ ∃ D, w.ownsMap P kt rawE b es.length D ∧ Maps.size D = es.length ∧ MpRel es enc D
def MpT (P : Program) (kt : TypeId) (b : Nat) (enc : α → Value) (es : List (Int × α)) : Thing := own (Mp1 P kt b enc es)
instance (b : Nat) (enc : α → Value) (es : List (Int × α)) : Loc1 (Mp1 P kt b enc es) where
  keep := fun ⟨h1, h2, D, ⟨s, c, hb, r⟩, h4⟩ hF hd => ⟨h1, h2, D, ⟨s, c, hF.keep hb (hd b (by rw [h1]; simp)), r⟩, h4⟩
  lt := fun ⟨h1, h2, D, ⟨s, c, hb, r⟩, h4⟩ x hx => by rw [h1] at hx; simp at hx; subst hx; exact (Array.getElem?_eq_some_iff.1 hb).1

variable {W : Base} {w : World} {R : List Thing} {b : Nat} {enc : α → Value} {es : List (Int × α)}

theorem St.newMap (H : St W w R) (P : Program) (kt : TypeId) (enc : α → Value) : St W (w.alloc (.map #[] 0)) (R ++ [MpT P kt w.heap.size enc []]) :=
  H.new (F := [w.heap.size]) ((Fr.refl _ _).alloc _) inferInstance ⟨rfl, by simp, .map [], World.ownsMap_made _ _ _ _, rfl, fun k hk => ⟨fun _ => rfl, fun v hv => by simp [mget] at hv⟩⟩ (fun x hx => by simp at hx; omega)

theorem mp_nodup (H : St W w R) (i : Nat) (hi : R[i]? = some (MpT P kt b enc es)) : (es.map (·.1)).Nodup := by
  obtain ⟨F, ⟨_, h, _⟩, _⟩ := H.get i hi; exact h

theorem Fr.of_turned {w w' : World} {b : Nat} (h : w.mapTurned w' b) : Fr [b] w w' := by
  have hg := h.grown
  exact (Fr.refl _ w).grown hg (fun k hk => .inl (by simp at hk; simp [hk]))

theorem MpRel.put {D : DataW Value} (h : MpRel es enc D) (hD : IsMap D) {k : Int} (hk : (Lit.int .i64 k).wf = true) (v : α) : MpRel (mput es k v) enc (D.put (.int .i64 k) (.held (enc v))) := by
  intro j hj
  by_cases e : j = k
  · subst e
    have hkl : WideAt.IsKeyLit (Lit.int IntKind.i64 j) := trivial
    rw [mget_put_same]
    refine ⟨fun h => (by cases h), fun u hu => ?_⟩
    cases hu
    exact ⟨Maps.has_put_same hD hkl _, fun z => Maps.atKey_put_same hD hkl _ _⟩
  · have hne : Lit.int .i64 j ≠ Lit.int .i64 k := fun h => e (by injection h)
    rw [mget_put_other es e]
    obtain ⟨h1, h2⟩ := h j hj
    refine ⟨fun hn => by rw [Maps.has_put_other hne]; exact h1 hn, fun u hu => ?_⟩
    obtain ⟨h3, h4⟩ := h2 u hu
    exact ⟨by rw [Maps.has_put_other hne]; exact h3, fun z => by rw [Maps.atKey_put_other hne]; exact h4 z⟩

theorem MpRel.del {D : DataW Value} (h : MpRel es enc D) (k : Int) : MpRel (mdel es k) enc (D.del (.int .i64 k)) := by
  intro j hj
  by_cases e : j = k
  · subst e
    rw [mget_del_same]
    exact ⟨fun _ => Maps.has_del_same, fun u hu => by cases hu⟩
  · have hne : Lit.int .i64 j ≠ Lit.int .i64 k := fun h => e (by injection h)
    rw [mget_del_other es e]
    obtain ⟨h1, h2⟩ := h j hj
    refine ⟨fun hn => by rw [Maps.has_del_other hne]; exact h1 hn, fun u hu => ?_⟩
    obtain ⟨h3, h4⟩ := h2 u hu
    exact ⟨by rw [Maps.has_del_other hne]; exact h3, fun z => by rw [Maps.atKey_del_other hne]; exact h4 z⟩

theorem own_size {D : DataW Value} {n : Nat} (h : w.ownsMap P kt rawE b n D) : w.ownsMap P kt rawE b (Maps.size D) D := by
  obtain ⟨s, c, hb, F, hs, rfl⟩ := h
  exact ⟨s, c, hb, F, by simp [Maps.size, length_sorted], rfl⟩

/-- 'v, ok := m[k]'. -/
theorem mp_look (H : St W w R) (i : Nat) (hi : R[i]? = some (MpT P kt b enc es)) (t e : TypeId) (hk : P.underlying kt = some (.int .i64)) (ht : P.underlying t = some (.map kt e)) {z : Value} (hz : (zeroValue e).run P w = .ok z w) (k : Int) (hwf : (Lit.int .i64 k).wf = true)
    (r : Option α) (hr : mget es k = r) : (Instr.lookup t (.map (some b)) (.int .i64 k) true).run P w = .ok (.tuple #[(r.map enc).getD z, .bool r.isSome]) w := by
  obtain ⟨F, ⟨_, _, D, hown, _, hrel⟩, _⟩ := H.get i hi
  obtain ⟨v, ps, hrun, hv⟩ := hown.look_ok (int_keyed hk) ht hz (zd := .held z) (zp := []) rfl (keyOf_int_mk hk hwf)
  have hv1 : DataW.held v = D.atKey (.int .i64 k) (.held z) := by
    unfold rawE at hv
    simp only [Option.some.injEq, Prod.mk.injEq] at hv
    exact hv.1
  rw [hrun]
  obtain ⟨h1, h2⟩ := hrel k hwf
  rcases r with _ | u
  · have h3 := h1 hr
    rw [Maps.atKey_of_not_has h3] at hv1
    cases hv1
    rw [h3]
    rfl
  · obtain ⟨h3, h4⟩ := h2 u hr
    rw [h4] at hv1
    cases hv1
    rw [h3]
    rfl

/-- 'm[k]'. -/
theorem mp_at (H : St W w R) (i : Nat) (hi : R[i]? = some (MpT P kt b enc es)) (t e : TypeId) (hk : P.underlying kt = some (.int .i64)) (ht : P.underlying t = some (.map kt e)) {z : Value} (hz : (zeroValue e).run P w = .ok z w) (k : Int) (hwf : (Lit.int .i64 k).wf = true)
    (r : Option α) (hr : mget es k = r) : (Instr.lookup t (.map (some b)) (.int .i64 k) false).run P w = .ok ((r.map enc).getD z) w := by
  obtain ⟨F, ⟨_, _, D, hown, _, hrel⟩, _⟩ := H.get i hi
  obtain ⟨v, ps, hrun, hv⟩ := hown.lookup (int_keyed hk) ht hz (zd := .held z) (zp := []) rfl (keyOf_int_mk hk hwf)
  have hv1 : DataW.held v = D.atKey (.int .i64 k) (.held z) := by
    unfold rawE at hv
    simp only [Option.some.injEq, Prod.mk.injEq] at hv
    exact hv.1
  rw [hrun]
  obtain ⟨h1, h2⟩ := hrel k hwf
  rcases r with _ | u
  · rw [Maps.atKey_of_not_has (h1 hr)] at hv1
    cases hv1
    rfl
  · rw [(h2 u hr).2] at hv1
    cases hv1
    rfl

/-- 'm[k] = v'. -/
theorem mp_put (H : St W w R) (i : Nat) (hi : R[i]? = some (MpT P kt b enc es)) (t e : TypeId) (hk : P.underlying kt = some (.int .i64)) (ht : P.underlying t = some (.map kt e)) (hn : es.length < maxLen) (k : Int) (hwf : (Lit.int .i64 k).wf = true) (v : α) :
    ∃ w', (Instr.mapUpdate t (.map (some b)) (.int .i64 k) (enc v)).run P w = .ok () w' ∧ St W w' (R.set i (MpT P kt b enc (mput es k v))) := by
  obtain ⟨F, ⟨rfl, hnd, D, hown, hs, hrel⟩, hF, hset⟩ := H.at i hi
  have K := int_keyed hk
  obtain ⟨w', hrun, hown', ht'⟩ := hown.store K ht hn (keyOf_int_mk hk hwf) (d := .held (enc v)) (ps := []) rfl
  have hsz : Maps.size (D.put (.int .i64 k) (.held (enc v))) = (mput es k v).length := by
    rw [Maps.size_put (hown.tidy K), mput_length hnd, hs]
    obtain ⟨h1, h2⟩ := hrel k hwf
    rcases hg : mget es k with _ | u
    · rw [h1 hg]; rfl
    · rw [(h2 u hg).1]; rfl
  refine ⟨w', hrun, hset w' [b] _ inferInstance ⟨rfl, mput_nodup hnd k v, _, ?_, hsz, hrel.put hown.isMap hwf v⟩ (Fr.of_turned ht') (fun x hx => .inl hx)⟩
  rw [← hsz]
  exact own_size hown'

/-- 'delete(m, k)'. -/
theorem mp_del (H : St W w R) (i : Nat) (hi : R[i]? = some (MpT P kt b enc es)) (t e : TypeId) (hk : P.underlying kt = some (.int .i64)) (ht : P.underlying t = some (.map kt e)) (ty : TypeId) (k : Int) (hwf : (Lit.int .i64 k).wf = true) :
    ∃ w', (Builtin.delete_ #[t, kt] ty #[.map (some b), .int .i64 k]).run P w = .ok (.tuple #[]) w' ∧ St W w' (R.set i (MpT P kt b enc (mdel es k))) := by
  obtain ⟨F, ⟨rfl, hnd, D, hown, hs, hrel⟩, hF, hset⟩ := H.at i hi
  have K := int_keyed hk
  obtain ⟨w', hrun, hown', ht'⟩ := hown.drop K ht (keyOf_int_mk hk hwf) ty
  have hsz : Maps.size (D.del (.int .i64 k)) = (mdel es k).length := by
    have h5 := Maps.size_del (k := .int .i64 k) (hown.tidy K)
    have h6 := mdel_length k es hnd
    obtain ⟨h1, h2⟩ := hrel k hwf
    rcases hg : mget es k with _ | u
    · rw [h1 hg] at h5
      rw [hg] at h6
      simp at h5 h6
      omega
    · rw [(h2 u hg).1] at h5
      rw [hg] at h6
      simp at h5 h6
      omega
  refine ⟨w', hrun, hset w' [b] _ inferInstance ⟨rfl, mdel_nodup hnd k, _, ?_, hsz, hrel.del k⟩ (Fr.of_turned ht') (fun x hx => .inl hx)⟩
  rw [← hsz]
  exact own_size hown'

variable {ops : Array Oper} {rest : List Oper} {o : Oper} {a : Act} {Q : Exit → Act → World → Prop}
theorem wpMLook (H : St W w R) (i : Nat) (hg : o.guard = none) (m x : Operand) (t : TypeId) (hop : o.op = Op.lookup t m x true) (e : TypeId) (hk : P.underlying kt = some (.int .i64)) (ht : P.underlying t = some (.map kt e)) (z : Value) (hz : (zeroValue e).run P w = .ok z w)
    (b : Nat) (enc : α → Value) (es : List (Int × α)) (hi : R[i]? = some (MpT P kt b enc es)) (hm : a.eval m = .map (some b)) (k : Int) (hx : a.eval x = .int .i64 k) (hwf : (Lit.int .i64 k).wf = true) (r : Option α) (hr : mget es k = r)
    (h : wpList P ops Q rest (a.put o.dst (.tuple #[(r.map enc).getD z, .bool r.isSome])) w) : wpList P ops Q (o :: rest) a w := by
  refine wpList_plain hg fun K' hK' => ?_
  have hrun := mp_look H i hi t e hk ht hz k hwf r hr
  unfold Oper.wp
  simp [execOp, hop, hm, hx, hrun, Result.andThen]
  exact hK' _ _ h
theorem wpMAt (H : St W w R) (i : Nat) (hg : o.guard = none) (m x : Operand) (t : TypeId) (hop : o.op = Op.lookup t m x false) (e : TypeId) (hk : P.underlying kt = some (.int .i64)) (ht : P.underlying t = some (.map kt e)) (z : Value) (hz : (zeroValue e).run P w = .ok z w)
    (b : Nat) (enc : α → Value) (es : List (Int × α)) (hi : R[i]? = some (MpT P kt b enc es)) (hm : a.eval m = .map (some b)) (k : Int) (hx : a.eval x = .int .i64 k) (hwf : (Lit.int .i64 k).wf = true) (r : Option α) (hr : mget es k = r)
    (h : wpList P ops Q rest (a.put o.dst ((r.map enc).getD z)) w) : wpList P ops Q (o :: rest) a w := by
  refine wpList_plain hg fun K' hK' => ?_
  have hrun := mp_at H i hi t e hk ht hz k hwf r hr
  unfold Oper.wp
  simp [execOp, hop, hm, hx, hrun, Result.andThen]
  exact hK' _ _ h
theorem wpMPut (H : St W w R) (i : Nat) (hg : o.guard = none) (m x v : Operand) (t : TypeId) (hop : o.op = Op.mapUpdate t m x v) (e : TypeId) (hk : P.underlying kt = some (.int .i64)) (ht : P.underlying t = some (.map kt e))
    (b : Nat) (enc : α → Value) (es : List (Int × α)) (hi : R[i]? = some (MpT P kt b enc es)) (hm : a.eval m = .map (some b)) (hn : es.length < maxLen) (k : Int) (hx : a.eval x = .int .i64 k) (hwf : (Lit.int .i64 k).wf = true) (u : α) (hv : a.eval v = enc u)
    (h : ∀ w', St W w' (R.set i (MpT P kt b enc (mput es k u))) → wpList P ops Q rest (a.put o.dst undef) w') : wpList P ops Q (o :: rest) a w := by
  refine wpList_plain hg fun K' hK' => ?_
  obtain ⟨w', hrun, hS⟩ := mp_put H i hi t e hk ht hn k hwf u
  unfold Oper.wp
  simp [execOp, hop, hm, hx, hv, hrun, Result.andThen]
  exact hK' _ _ (h w' hS)
theorem wpMDel (H : St W w R) (i : Nat) (hg : o.guard = none) (m x : Operand) (t : TypeId) (hop : o.op = Op.call { callee := Callee.builtin Builtin.delete, args := #[m, x], argTypes := #[t, kt] }) (e : TypeId) (hk : P.underlying kt = some (.int .i64)) (ht : P.underlying t = some (.map kt e))
    (b : Nat) (enc : α → Value) (es : List (Int × α)) (hi : R[i]? = some (MpT P kt b enc es)) (hm : a.eval m = .map (some b)) (k : Int) (hx : a.eval x = .int .i64 k) (hwf : (Lit.int .i64 k).wf = true)
    (h : ∀ w', St W w' (R.set i (MpT P kt b enc (mdel es k))) → wpList P ops Q rest (a.put o.dst (.tuple #[])) w') : wpList P ops Q (o :: rest) a w := by
  refine wpList_plain hg fun K' hK' => ?_
  obtain ⟨w', hrun, hS⟩ := mp_del H i hi t e hk ht o.type k hwf
  unfold Oper.wp
  simp [execOp, hop, resolve, invoke, builtin, hm, hx, hrun, Result.andThen]
  exact hK' _ _ (h w' hS)
end

end Go.Proofs.YtkiccbjngokpjaaGreat

/-
  A stream over a net, plainly: a sender, a window, the net between; and that in calm all of it comes. Of no program.
-/
namespace Go.Proofs.YtkiccbjngokpjaaGreat
set_option linter.unusedVariables false
set_option linter.unusedSimpArgs false

/-- A sender. -/
structure Sn where
  texts : List ByteArray
  done : Nat
  said : Nat
  timer : Nat
  win : Nat
  res : Nat
def Sn.new (win res : Nat) : Sn := ⟨[], 0, 0, 0, win, res⟩
def Sn.canPut (s : Sn) (t : ByteArray) : Bool := decide (t.size ≤ 32) && decide (s.texts.length < 32)
def Sn.put (s : Sn) (t : ByteArray) : Sn := { s with texts := s.texts ++ [t] }
def Sn.tick (s : Sn) : Sn := { s with timer := s.timer - 1 }
def Sn.hi (s : Sn) : Nat := min s.texts.length (s.done + s.win)
def Sn.isDue (s : Sn) (j : Nat) : Bool := s.timer == 0 || decide (s.said ≤ s.done + j)
def Sn.itemsTo (s : Sn) (k : Nat) : List (Nat × ByteArray) := ((List.range k).filter s.isDue).map (fun j => (s.done + j, s.texts.getD (s.done + j) ⟨#[]⟩))
def Sn.items (s : Sn) : List (Nat × ByteArray) := s.itemsTo (s.hi - s.done)
def Sn.due (s : Sn) : Sn := match s.items.getLast? with
  | none => s
  | some x => { s with said := max s.said (x.1 + 1), timer := if s.timer = 0 then s.res else s.timer }
def Sn.ackOk (s : Sn) (c : Nat) : Bool := decide (s.done < c) && decide (c ≤ s.said)
def Sn.ack (s : Sn) (c : Nat) : Sn := if s.ackOk c then { s with done := c, timer := if c = s.texts.length then 0 else s.timer } else s

/-- A window. -/
structure Wn where
  win : Nat
  next : Nat
  held : List (Int × ByteArray)
def Wn.new (win : Nat) : Wn := ⟨win, 0, []⟩
def Wn.fits (w : Wn) (i : Nat) (t : ByteArray) : Bool := decide (t.size ≤ 32) && (decide (w.next ≤ i) && decide (i - w.next < w.win) && decide (i < 32))
def Wn.keep (w : Wn) (i : Nat) (t : ByteArray) : Wn := match mget w.held i with
  | none => { w with held := mput w.held i t }
  | some _ => w
def Wn.pop (w : Wn) : Wn := { w with held := mdel w.held w.next, next := w.next + 1 }
def Wn.drain : Nat → Wn → Wn × List ByteArray
  | 0, w => (w, [])
  | n + 1, w => match mget w.held w.next with
    | none => (w, [])
    | some s => ((Wn.drain n w.pop).1, s :: (Wn.drain n w.pop).2)
def Wn.take (w : Wn) (i : Nat) (t : ByteArray) : Wn × List ByteArray := if w.fits i t then Wn.drain (w.keep i t).held.length (w.keep i t) else (w, [])

/-- What is under way. -/
inductive Pkt where
  | chunk (i : Nat) (t : ByteArray)
  | ack (c : Nat)

/-- All of it. -/
structure Sm where
  s : Sn
  w : Wn
  bag : List (Int × Pkt)
  sent : Int
  stored : List ByteArray
def Sm.new (win res : Nat) : Sm := ⟨.new win res, .new win, [], 0, []⟩
def nextN (n : Int) : Int := IntKind.i64.wrap (n + 1)
def Sm.send (x : Sm) (p : Pkt) : Sm := { x with bag := x.bag ++ [(nextN x.sent, p)], sent := nextN x.sent }
def Sm.sendAll (x : Sm) : List (Nat × ByteArray) → Sm
  | [] => x
  | p :: l => (x.send (.chunk p.1 p.2)).sendAll l
def Sm.says (x : Sm) : Sm := { x with s := x.s.due }.sendAll x.s.items
def Sm.tick (x : Sm) : Sm := { x with s := x.s.tick }
def Sm.comes (x : Sm) : Pkt → Sm
  | .ack c => { x with s := x.s.ack c }
  | .chunk i t => { x with w := (x.w.take i t).1, stored := x.stored ++ (x.w.take i t).2 }.send (.ack (x.w.take i t).1.next)
def Sm.drop (x : Sm) (k : Nat) : Sm := { x with bag := x.bag.eraseIdx k }
def Sm.place (x : Sm) (n : Int) : Nat := if x.bag.length = 0 then 0 else (n % (x.bag.length : Int)).toNat
def Sm.dlv (x : Sm) (k : Nat) : Sm := match x.bag[k]? with
  | none => x
  | some p => (x.drop k).comes p.2
def Sm.does (x : Sm) (kind n : Int) (t : ByteArray) : Sm :=
  if kind = 1 then (if x.s.canPut t then { x with s := x.s.put t } else x)
  else if kind = 2 then x.tick.says
  else if kind = 3 then x.dlv (x.place n)
  else if kind = 4 then x.drop (x.place n)
  else if kind = 5 then (match x.bag[x.place n]? with | none => x | some p => x.send p.2)
  else x
def Sm.dlvs : Nat → Sm → Sm
  | 0, x => x
  | n + 1, x => Sm.dlvs n (x.dlv 0)
def Sm.round (x : Sm) : Sm := Sm.dlvs x.tick.says.bag.length x.tick.says
def Sm.rounds : Nat → Sm → Sm
  | 0, x => x
  | n + 1, x => Sm.rounds n x.round

/-! ### What always holds -/
def PktOk (said next : Nat) (texts : List ByteArray) : Pkt → Prop
  | .chunk i t => i < said ∧ texts[i]? = some t
  | .ack c => c ≤ next
structure Sm.ok (x : Sm) : Prop where
  w1 : 1 ≤ x.s.win
  w8 : x.s.win ≤ 8
  ww : x.w.win = x.s.win
  r1 : 1 ≤ x.s.res
  r16 : x.s.res ≤ 16
  d1 : x.s.done ≤ x.w.next
  d2 : x.w.next ≤ x.s.said
  d3 : x.s.said ≤ x.s.texts.length
  d4 : x.s.texts.length ≤ 32
  tm : x.s.timer ≤ x.s.res
  tx : ∀ t ∈ x.s.texts, t.size ≤ 32
  st : x.stored = x.s.texts.take x.w.next
  hd : ∀ p ∈ x.w.held, ∃ i : Nat, p.1 = (i : Int) ∧ i < x.s.said ∧ x.s.texts[i]? = some p.2
  nd : (x.w.held.map (·.1)).Nodup
  bg : ∀ p ∈ x.bag, PktOk x.s.said x.w.next x.s.texts p.2

theorem Sm.new_ok {win res : Nat} (h1 : 1 ≤ win) (h2 : win ≤ 8) (h3 : 1 ≤ res) (h4 : res ≤ 16) : (Sm.new win res).ok :=
  ⟨h1, h2, rfl, h3, h4, Nat.le_refl _, Nat.le_refl _, Nat.le_refl _, by simp [Sm.new, Sn.new], by simp [Sm.new, Sn.new], by simp [Sm.new, Sn.new], by simp [Sm.new, Sn.new], by simp [Sm.new, Wn.new], by simp [Sm.new, Wn.new], by simp [Sm.new]⟩

theorem PktOk.mono {a b c d : Nat} {l l' : List ByteArray} {p : Pkt} (h : PktOk a b l p) (h1 : a ≤ c) (h2 : b ≤ d) (h3 : ∀ (i : Nat) (t : ByteArray), l[i]? = some t → l'[i]? = some t) : PktOk c d l' p := by
  cases p with
  | chunk i t => exact ⟨Nat.lt_of_lt_of_le h.1 h1, h3 _ _ h.2⟩
  | ack c => exact Nat.le_trans h h2

theorem Sm.ok.put {x : Sm} (h : x.ok) {t : ByteArray} (ht : x.s.canPut t = true) : Sm.ok { x with s := x.s.put t } := by
  simp only [Sn.canPut, Bool.and_eq_true, decide_eq_true_eq] at ht
  have hget : ∀ (i : Nat) (u : ByteArray), x.s.texts[i]? = some u → (x.s.texts ++ [t])[i]? = some u := fun i u hu => by
    rw [List.getElem?_append_left (List.getElem?_eq_some_iff.1 hu).1]; exact hu
  refine ⟨h.w1, h.w8, h.ww, h.r1, h.r16, h.d1, h.d2, ?_, ?_, h.tm, ?_, ?_, ?_, h.nd, ?_⟩
  · show x.s.said ≤ (x.s.texts ++ [t]).length
    have := h.d3
    simp; omega
  · show (x.s.texts ++ [t]).length ≤ 32
    simp; omega
  · intro u hu
    rcases List.mem_append.1 hu with hu | hu
    · exact h.tx u hu
    · simp at hu; subst hu; exact ht.1
  · show x.stored = (x.s.texts ++ [t]).take x.w.next
    rw [List.take_append_of_le_length (Nat.le_trans h.d2 h.d3)]
    exact h.st
  · intro p hp
    obtain ⟨i, h1, h2, h3⟩ := h.hd p hp
    exact ⟨i, h1, h2, hget _ _ h3⟩
  · intro p hp
    exact (h.bg p hp).mono (Nat.le_refl _) (Nat.le_refl _) hget

theorem Sm.ok.tick {x : Sm} (h : x.ok) : x.tick.ok :=
  ⟨h.w1, h.w8, h.ww, h.r1, h.r16, h.d1, h.d2, h.d3, h.d4, Nat.le_trans (Nat.sub_le _ _) h.tm, h.tx, h.st, h.hd, h.nd, h.bg⟩

theorem Sn.mem_items {s : Sn} {p : Nat × ByteArray} {k : Nat} (h : p ∈ s.itemsTo k) : ∃ j, j < k ∧ s.isDue j = true ∧ p = (s.done + j, s.texts.getD (s.done + j) ⟨#[]⟩) := by
  unfold Sn.itemsTo at h
  obtain ⟨j, hj, rfl⟩ := List.mem_map.1 h
  obtain ⟨h1, h2⟩ := List.mem_filter.1 hj
  exact ⟨j, by simpa using h1, h2, rfl⟩
theorem Sn.itemsTo_succ (s : Sn) (k : Nat) : s.itemsTo (k + 1) = if s.isDue k then s.itemsTo k ++ [(s.done + k, s.texts.getD (s.done + k) ⟨#[]⟩)] else s.itemsTo k := by
  unfold Sn.itemsTo
  rw [List.range_succ, List.filter_append, List.map_append]
  by_cases h : s.isDue k
  · simp [h]
  · simp [h]
/-- The last one that is due. -/
theorem Sn.items_last {s : Sn} {x : Nat × ByteArray} (h : s.items.getLast? = some x) : s.done < s.hi ∧ x.1 + 1 = s.hi := by
  have hm : ∀ k, (s.itemsTo k).getLast? = some x → 0 < k ∧ x.1 + 1 ≤ s.done + k ∧ (s.isDue (k - 1) = true → x.1 + 1 = s.done + k) := by
    intro k
    induction k with
    | zero => intro h; simp [Sn.itemsTo] at h
    | succ k ih =>
      intro h
      rw [Sn.itemsTo_succ] at h
      by_cases hd : s.isDue k
      · rw [if_pos hd] at h
        simp at h
        subst h
        simp
        omega
      · rw [if_neg hd] at h
        obtain ⟨h1, h2, h3⟩ := ih h
        refine ⟨by omega, by omega, fun h => ?_⟩
        simp at h
        exact absurd h hd
  obtain ⟨h1, h2, h3⟩ := hm _ h
  have hmem := List.mem_of_getLast? h
  obtain ⟨j, hj, hd, hx⟩ := Sn.mem_items hmem
  refine ⟨by omega, ?_⟩
  have : s.isDue (s.hi - s.done - 1) = true := by
    unfold Sn.isDue at hd ⊢
    simp only [Bool.or_eq_true, decide_eq_true_eq] at hd ⊢
    rcases hd with hd | hd
    · exact .inl hd
    · exact .inr (by omega)
  have := h3 this
  omega

theorem Sn.due_texts (s : Sn) : s.due.texts = s.texts ∧ s.due.done = s.done ∧ s.due.win = s.win ∧ s.due.res = s.res := by
  unfold Sn.due; split <;> exact ⟨rfl, rfl, rfl, rfl⟩
theorem Sn.due_said {s : Sn} (h3 : s.said ≤ s.texts.length) : s.said ≤ s.due.said ∧ s.due.said ≤ s.texts.length ∧ ∀ p ∈ s.items, p.1 < s.due.said ∧ s.texts[p.1]? = some p.2 := by
  unfold Sn.due
  rcases hl : s.items.getLast? with _ | x
  · have : s.items = [] := List.getLast?_eq_none_iff.1 hl
    rw [this]
    exact ⟨Nat.le_refl _, h3, fun p hp => by cases hp⟩
  · obtain ⟨h1, h2⟩ := Sn.items_last hl
    have hh : s.hi ≤ s.texts.length := Nat.min_le_left _ _
    refine ⟨Nat.le_max_left _ _, Nat.max_le.2 ⟨h3, by omega⟩, fun p hp => ?_⟩
    obtain ⟨j, hj, hd, rfl⟩ := Sn.mem_items hp
    have hj2 : s.done + j < s.texts.length := by omega
    refine ⟨?_, ?_⟩
    · show s.done + j < max s.said (x.1 + 1)
      omega
    · show s.texts[s.done + j]? = some (s.texts.getD (s.done + j) ⟨#[]⟩)
      rw [List.getD_eq_getElem?_getD, List.getElem?_eq_getElem hj2]
      rfl
theorem Sn.due_timer {s : Sn} (h : s.timer ≤ s.res) : s.due.timer ≤ s.res := by
  unfold Sn.due
  split
  · exact h
  · show (if s.timer = 0 then s.res else s.timer) ≤ s.res
    split
    · exact Nat.le_refl _
    · exact h

theorem Sm.sendAll_is (x : Sm) (l : List (Nat × ByteArray)) : (x.sendAll l).s = x.s ∧ (x.sendAll l).w = x.w ∧ (x.sendAll l).stored = x.stored ∧ (∀ p ∈ x.bag, p ∈ (x.sendAll l).bag) ∧ (∀ p ∈ (x.sendAll l).bag, p ∈ x.bag ∨ ∃ q ∈ l, p.2 = .chunk q.1 q.2) ∧ (∀ q ∈ l, ∃ n, (n, Pkt.chunk q.1 q.2) ∈ (x.sendAll l).bag) ∧ (x.sendAll l).bag.length = x.bag.length + l.length := by
  induction l generalizing x with
  | nil => exact ⟨rfl, rfl, rfl, fun p h => h, fun p h => .inl h, fun q h => (by cases h), rfl⟩
  | cons q l ih =>
    obtain ⟨h1, h2, h3, h4, h5, h6, h7⟩ := ih (x.send (.chunk q.1 q.2))
    refine ⟨h1, h2, h3, fun p hp => h4 p (by simp [Sm.send, hp]), fun p hp => ?_, fun r hr => ?_, ?_⟩
    · rcases h5 p hp with h | ⟨r, hr, he⟩
      · simp only [Sm.send, List.mem_append, List.mem_singleton] at h
        rcases h with h | rfl
        · exact .inl h
        · exact .inr ⟨q, by simp, rfl⟩
      · exact .inr ⟨r, by simp [hr], he⟩
    · rcases List.mem_cons.1 hr with rfl | hr
      · exact ⟨_, h4 _ (by simp [Sm.send]; exact .inr rfl)⟩
      · exact h6 r hr
    · show ((x.send (.chunk q.1 q.2)).sendAll l).bag.length = _
      rw [h7]
      simp [Sm.send]
      omega

theorem Sm.says_s (x : Sm) : x.says.s = x.s.due := (Sm.sendAll_is _ _).1
theorem Sm.says_w (x : Sm) : x.says.w = x.w := (Sm.sendAll_is _ _).2.1
theorem Sm.says_stored (x : Sm) : x.says.stored = x.stored := (Sm.sendAll_is _ _).2.2.1
theorem Sm.says_len (x : Sm) : x.says.bag.length = x.bag.length + x.s.items.length := (Sm.sendAll_is _ _).2.2.2.2.2.2

theorem Sm.ok.says {x : Sm} (h : x.ok) : x.says.ok := by
  obtain ⟨t1, t2, t3, t4⟩ := Sn.due_texts x.s
  obtain ⟨s1, s2, s3⟩ := Sn.due_said h.d3
  obtain ⟨_, _, _, _, h5, _, _⟩ := Sm.sendAll_is { x with s := x.s.due } x.s.items
  refine ⟨?_, ?_, ?_, ?_, ?_, ?_, ?_, ?_, ?_, ?_, ?_, ?_, ?_, ?_, ?_⟩ <;> simp only [Sm.says_s, Sm.says_w, Sm.says_stored, t1, t2, t3, t4]
  · exact h.w1
  · exact h.w8
  · exact h.ww
  · exact h.r1
  · exact h.r16
  · exact h.d1
  · exact Nat.le_trans h.d2 s1
  · exact s2
  · exact h.d4
  · exact Sn.due_timer h.tm
  · exact h.tx
  · exact h.st
  · intro p hp
    obtain ⟨i, h1, h2, h3⟩ := h.hd p hp
    exact ⟨i, h1, Nat.lt_of_lt_of_le h2 s1, h3⟩
  · exact h.nd
  · intro p hp
    rcases h5 p hp with hp | ⟨q, hq, he⟩
    · exact (h.bg p hp).mono s1 (Nat.le_refl _) (fun _ _ h => h)
    · rw [he]
      exact s3 q hq

theorem Sm.ok.drop {x : Sm} (h : x.ok) (k : Nat) : (x.drop k).ok :=
  ⟨h.w1, h.w8, h.ww, h.r1, h.r16, h.d1, h.d2, h.d3, h.d4, h.tm, h.tx, h.st, h.hd, h.nd, fun p hp => h.bg p (List.mem_of_mem_eraseIdx hp)⟩

theorem Sm.ok.send {x : Sm} (h : x.ok) {p : Pkt} (hp : PktOk x.s.said x.w.next x.s.texts p) : (x.send p).ok :=
  ⟨h.w1, h.w8, h.ww, h.r1, h.r16, h.d1, h.d2, h.d3, h.d4, h.tm, h.tx, h.st, h.hd, h.nd, fun q hq => by
    simp only [Sm.send, List.mem_append, List.mem_singleton] at hq
    rcases hq with hq | rfl
    · exact h.bg q hq
    · exact hp⟩

/-- What a window hands on: of the texts, in order. -/
theorem Wn.drain_is {said : Nat} {texts : List ByteArray} (hs : said ≤ texts.length) : ∀ (n : Nat) (w : Wn), w.next ≤ said → (w.held.map (·.1)).Nodup → (∀ p ∈ w.held, ∃ i : Nat, p.1 = (i : Int) ∧ i < said ∧ texts[i]? = some p.2) →
    let r := Wn.drain n w
    r.1.win = w.win ∧ w.next ≤ r.1.next ∧ r.1.next ≤ said ∧ (r.1.held.map (·.1)).Nodup ∧ (∀ p ∈ r.1.held, p ∈ w.held) ∧ texts.take w.next ++ r.2 = texts.take r.1.next ∧ (0 < n → (mget w.held w.next).isSome → w.next < r.1.next)
  | 0, w, h1, h2, h3 => ⟨rfl, Nat.le_refl _, h1, h2, fun p h => h, by simp [Wn.drain], fun h => absurd h (by omega)⟩
  | n + 1, w, h1, h2, h3 => by
    unfold Wn.drain
    rcases hg : mget w.held w.next with _ | s
    · exact ⟨rfl, Nat.le_refl _, h1, h2, fun p h => h, by simp, fun _ h => by cases h⟩
    · obtain ⟨i, e1, e2, e3⟩ := h3 _ (mget_mem hg)
      simp only at e1 e3
      have e4 : i = w.next := by omega
      subst e4
      have hm : ∀ p ∈ mdel w.held w.next, p ∈ w.held := fun p hp => (List.mem_filter.1 hp).1
      obtain ⟨k1, k2, k3, k4, k5, k6, _⟩ := Wn.drain_is hs n w.pop (by show w.next + 1 ≤ said; omega) (mdel_nodup h2 _) (fun p hp => h3 p (hm p hp))
      have k2' : w.next + 1 ≤ (Wn.drain n w.pop).1.next := k2
      refine ⟨k1, by simp only; omega, k3, k4, fun p hp => hm p (k5 p hp), ?_, fun _ _ => by simp only; omega⟩
      have k6' : texts.take (w.next + 1) ++ (Wn.drain n w.pop).2 = texts.take (Wn.drain n w.pop).1.next := k6
      simp only
      rw [← k6', List.take_add_one, e3]
      simp

theorem Wn.take_is {said : Nat} {texts : List ByteArray} (hs : said ≤ texts.length) {w : Wn} (h1 : w.next ≤ said) (h2 : (w.held.map (·.1)).Nodup) (h3 : ∀ p ∈ w.held, ∃ i : Nat, p.1 = (i : Int) ∧ i < said ∧ texts[i]? = some p.2)
    {i : Nat} {t : ByteArray} (hi : i < said) (ht : texts[i]? = some t) :
    let r := w.take i t
    r.1.win = w.win ∧ w.next ≤ r.1.next ∧ r.1.next ≤ said ∧ (r.1.held.map (·.1)).Nodup ∧ (∀ p ∈ r.1.held, ∃ i : Nat, p.1 = (i : Int) ∧ i < said ∧ texts[i]? = some p.2) ∧ texts.take w.next ++ r.2 = texts.take r.1.next ∧ (w.fits i t = true → i = w.next → w.next < r.1.next) := by
  unfold Wn.take
  by_cases hf : w.fits i t
  · rw [if_pos hf]
    have hk : (w.keep i t).next = w.next ∧ (w.keep i t).win = w.win ∧ ((w.keep i t).held.map (·.1)).Nodup ∧ (∀ p ∈ (w.keep i t).held, ∃ i : Nat, p.1 = (i : Int) ∧ i < said ∧ texts[i]? = some p.2) ∧ (mget (w.keep i t).held i).isSome := by
      unfold Wn.keep
      rcases hg : mget w.held i with _ | u
      · refine ⟨rfl, rfl, mput_nodup h2 _ _, fun p hp => ?_, by simp only; rw [mget_put_same]; rfl⟩
        simp only [mput, List.mem_append, List.mem_singleton] at hp
        rcases hp with hp | rfl
        · exact h3 p (List.mem_filter.1 hp).1
        · exact ⟨i, rfl, hi, ht⟩
      · exact ⟨rfl, rfl, h2, h3, by simp [hg]⟩
    obtain ⟨a1, a2, a3, a4, a5⟩ := hk
    obtain ⟨k1, k2, k3, k4, k5, k6, k7⟩ := Wn.drain_is hs (w.keep i t).held.length (w.keep i t) (by rw [a1]; exact h1) a3 a4
    refine ⟨k1.trans a2, by rw [a1] at k2; exact k2, k3, k4, fun p hp => a4 p (k5 p hp), by rw [a1] at k6; exact k6, fun _ hin => ?_⟩
    have hpos : 0 < (w.keep i t).held.length := by
      rcases Nat.eq_zero_or_pos (w.keep i t).held.length with h0 | h0
      · have := List.eq_nil_of_length_eq_zero h0
        rw [this] at a5
        simp [mget] at a5
      · exact h0
    have := k7 hpos (by rw [a1, ← hin]; exact a5)
    rw [a1] at this
    exact this
  · rw [if_neg hf]
    exact ⟨rfl, Nat.le_refl _, h1, h2, h3, by simp, fun h => absurd h hf⟩

theorem Sm.ok.comes {x : Sm} (h : x.ok) {p : Pkt} (hp : PktOk x.s.said x.w.next x.s.texts p) : (x.comes p).ok := by
  cases p with
  | ack c =>
    have hc : c ≤ x.w.next := hp
    show Sm.ok { x with s := x.s.ack c }
    unfold Sn.ack
    by_cases ha : x.s.ackOk c
    · rw [if_pos ha]
      refine ⟨h.w1, h.w8, h.ww, h.r1, h.r16, hc, h.d2, h.d3, h.d4, ?_, h.tx, h.st, h.hd, h.nd, h.bg⟩
      show (if c = x.s.texts.length then 0 else x.s.timer) ≤ x.s.res
      split
      · omega
      · exact h.tm
    · rw [if_neg ha]
      exact h
  | chunk i t =>
    obtain ⟨hi, ht⟩ := hp
    obtain ⟨k1, k2, k3, k4, k5, k6, _⟩ := Wn.take_is h.d3 h.d2 h.nd h.hd hi ht
    have h1 : Sm.ok { x with w := (x.w.take i t).1, stored := x.stored ++ (x.w.take i t).2 } := by
      refine ⟨h.w1, h.w8, k1.trans h.ww, h.r1, h.r16, Nat.le_trans h.d1 k2, k3, h.d3, h.d4, h.tm, h.tx, ?_, k5, k4, fun q hq => (h.bg q hq).mono (Nat.le_refl _) k2 (fun _ _ h => h)⟩
      show x.stored ++ (x.w.take i t).2 = x.s.texts.take (x.w.take i t).1.next
      rw [← k6, h.st]
    exact h1.send (Nat.le_refl _)

theorem Sm.ok.dlv {x : Sm} (h : x.ok) (k : Nat) : (x.dlv k).ok := by
  unfold Sm.dlv
  rcases hb : x.bag[k]? with _ | p
  · exact h
  · exact (h.drop k).comes (h.bg p (List.mem_of_getElem? hb))

theorem Sm.ok.does {x : Sm} (h : x.ok) (kind n : Int) (t : ByteArray) : (x.does kind n t).ok := by
  unfold Sm.does
  split
  · split
    · rename_i h1; exact h.put h1
    · exact h
  · split
    · exact h.tick.says
    · split
      · exact h.dlv _
      · split
        · exact h.drop _
        · split
          · rcases hb : x.bag[x.place n]? with _ | p
            · exact h
            · exact h.send (h.bg p (List.mem_of_getElem? hb))
          · exact h

theorem Sm.ok.dlvs {x : Sm} (h : x.ok) (n : Nat) : (Sm.dlvs n x).ok := by
  induction n generalizing x with
  | zero => exact h
  | succ n ih => exact ih (h.dlv 0)
theorem Sm.ok.round {x : Sm} (h : x.ok) : x.round.ok := h.tick.says.dlvs _

/-- What is stored is a beginning of what was put, and at least what is acked. -/
theorem Sm.ok.begun {x : Sm} (h : x.ok) : x.stored = x.s.texts.take x.stored.length ∧ x.s.done ≤ x.stored.length ∧ x.stored.length = x.w.next := by
  have h1 : x.stored.length = x.w.next := by
    rw [h.st, List.length_take]
    have := h.d2; have := h.d3
    omega
  refine ⟨?_, by rw [h1]; exact h.d1, h1⟩
  rw [h1]
  exact h.st

/-! ### In calm -/
theorem Sn.ack_is (s : Sn) (c : Nat) : (s.ack c).texts = s.texts ∧ (s.ack c).win = s.win ∧ (s.ack c).res = s.res ∧ (s.ack c).said = s.said ∧ s.done ≤ (s.ack c).done ∧ ((s.ack c).timer = s.timer ∨ s.done < (s.ack c).done) := by
  unfold Sn.ack
  by_cases ha : s.ackOk c
  · rw [if_pos ha]
    simp only [Sn.ackOk, Bool.and_eq_true, decide_eq_true_eq] at ha
    exact ⟨rfl, rfl, rfl, rfl, Nat.le_of_lt ha.1, .inr ha.1⟩
  · rw [if_neg ha]
    exact ⟨rfl, rfl, rfl, rfl, Nat.le_refl _, .inl rfl⟩

/-- What a delivery leaves. -/
theorem Sm.comes_is (x : Sm) (p : Pkt) : (x.comes p).s.texts = x.s.texts ∧ (x.comes p).s.win = x.s.win ∧ (x.comes p).s.res = x.s.res ∧ (x.comes p).s.said = x.s.said ∧ x.s.done ≤ (x.comes p).s.done ∧ ((x.comes p).s.timer = x.s.timer ∨ x.s.done < (x.comes p).s.done) := by
  cases p with
  | ack c => exact Sn.ack_is x.s c
  | chunk i t => exact ⟨rfl, rfl, rfl, rfl, Nat.le_refl _, .inl rfl⟩

theorem Sm.comes_bag (x : Sm) (p : Pkt) : (x.comes p).bag = x.bag ∨ ∃ n c, (x.comes p).bag = x.bag ++ [(n, Pkt.ack c)] ∧ c = (x.comes p).w.next := by
  cases p with
  | ack c => exact .inl rfl
  | chunk i t => exact .inr ⟨_, _, rfl, rfl⟩
theorem Sm.ok.comes_next {x : Sm} (h : x.ok) {p : Pkt} (hp : PktOk x.s.said x.w.next x.s.texts p) : x.w.next ≤ (x.comes p).w.next := by
  cases p with
  | ack c => exact Nat.le_refl _
  | chunk i t =>
    obtain ⟨hi, ht⟩ := hp
    exact (Wn.take_is h.d3 h.d2 h.nd h.hd hi ht).2.1

theorem Sm.dlv_cons {x : Sm} {p : Int × Pkt} {r : List (Int × Pkt)} (hb : x.bag = p :: r) : x.dlv 0 = ({ x with bag := r } : Sm).comes p.2 := by
  unfold Sm.dlv Sm.drop
  rw [hb]
  rfl

def Pkt.isAck : Pkt → Bool
  | .ack _ => true
  | .chunk _ _ => false

/-- What n deliveries leave. -/
theorem Sm.ok.dlvs_is {x : Sm} (h : x.ok) (n : Nat) (hn : n ≤ x.bag.length) :
    let y := Sm.dlvs n x
    y.s.texts = x.s.texts ∧ y.s.win = x.s.win ∧ y.s.res = x.s.res ∧ y.s.said = x.s.said ∧ x.s.done ≤ y.s.done ∧ (y.s.timer = x.s.timer ∨ x.s.done < y.s.done) ∧ x.w.next ≤ y.w.next ∧
    (∀ p ∈ x.bag.drop n, p ∈ y.bag) ∧ (∀ c k, (k, Pkt.ack c) ∈ x.bag.take n → c ≤ y.s.done) ∧ (∀ i t k, (k, Pkt.chunk i t) ∈ x.bag.take n → i ≤ x.w.next → ∃ k' c, (k', Pkt.ack c) ∈ y.bag ∧ i + 1 ≤ c) ∧
    (∀ p ∈ y.bag, p ∈ x.bag.drop n ∨ p.2.isAck = true) ∧ y.bag.length + (x.bag.take n).countP (fun p => p.2.isAck) ≤ x.bag.length := by
  induction n generalizing x with
  | zero => exact ⟨rfl, rfl, rfl, rfl, Nat.le_refl _, .inl rfl, Nat.le_refl _, fun p hp => (by simpa [Sm.dlvs] using hp), fun c k hk => (by simp at hk), fun i t k hk => (by simp at hk), fun p hp => .inl (by simpa [Sm.dlvs] using hp), by simp [Sm.dlvs]⟩
  | succ n ih =>
    rcases hb : x.bag with _ | ⟨p, r⟩
    · rw [hb] at hn; simp at hn
    have hz : x.dlv 0 = ({ x with bag := r } : Sm).comes p.2 := Sm.dlv_cons hb
    have hr : Sm.ok { x with bag := r } := ⟨h.w1, h.w8, h.ww, h.r1, h.r16, h.d1, h.d2, h.d3, h.d4, h.tm, h.tx, h.st, h.hd, h.nd, fun q hq => h.bg q (by rw [hb]; simp [hq])⟩
    have hp : PktOk x.s.said x.w.next x.s.texts p.2 := h.bg p (by rw [hb]; simp)
    obtain ⟨a1, a2, a3, a4, a5, a6⟩ := Sm.comes_is { x with bag := r } p.2
    have a7 := hr.comes_next (p := p.2) hp
    have hbag := Sm.comes_bag { x with bag := r } p.2
    have hok := h.dlv 0
    rw [hz] at hok
    have hlen : n ≤ r.length := by rw [hb] at hn; simpa using hn
    have hlen2 : n ≤ (({ x with bag := r } : Sm).comes p.2).bag.length := by
      rcases hbag with e | ⟨_, _, e, _⟩ <;> rw [e]
      · exact hlen
      · simp; omega
    obtain ⟨b1, b2, b3, b4, b5, b6, b7, b8, b9, b10, b11, b12⟩ := ih hok hlen2
    have htake : (({ x with bag := r } : Sm).comes p.2).bag.take n = r.take n := by
      rcases hbag with e | ⟨_, _, e, _⟩ <;> rw [e]
      exact List.take_append_of_le_length hlen
    have hdrop : ∀ q ∈ r.drop n, q ∈ (({ x with bag := r } : Sm).comes p.2).bag.drop n := fun q hq => by
      rcases hbag with e | ⟨_, _, e, _⟩ <;> rw [e]
      · exact hq
      · rw [List.drop_append_of_le_length hlen]; simp [hq]
    have hdef : Sm.dlvs (n + 1) x = Sm.dlvs n (({ x with bag := r } : Sm).comes p.2) := by rw [← hz]; rfl
    rw [hdef]
    simp only [List.drop_succ_cons, List.take_succ_cons]
    refine ⟨b1.trans a1, b2.trans a2, b3.trans a3, b4.trans a4, Nat.le_trans a5 b5, ?_, Nat.le_trans a7 b7, fun q hq => b8 q (hdrop q hq), fun c k hk => ?_, fun i t k hk hi => ?_, fun q hq => ?_, ?_⟩
    · rcases b6 with e | e
      · rcases a6 with e2 | e2
        · exact .inl (e.trans e2)
        · exact .inr (Nat.lt_of_lt_of_le e2 b5)
      · exact .inr (Nat.lt_of_le_of_lt a5 e)
    · rcases List.mem_cons.1 hk with e | hk
      · subst e
        have hc : c ≤ x.w.next := hp
        have h1 := h.d2
        refine Nat.le_trans ?_ b5
        show c ≤ (x.s.ack c).done
        unfold Sn.ack
        by_cases ha : x.s.ackOk c
        · rw [if_pos ha]; exact Nat.le_refl _
        · rw [if_neg ha]
          simp only [Sn.ackOk, Bool.and_eq_true, decide_eq_true_eq] at ha
          omega
      · exact b9 c k (by rw [htake]; exact hk)
    · rcases List.mem_cons.1 hk with e | hk
      · subst e
        have hp' : i < x.s.said ∧ x.s.texts[i]? = some t := hp
        obtain ⟨k1, k2, k3, k4, k5, k6, k7⟩ := Wn.take_is h.d3 h.d2 h.nd h.hd hp'.1 hp'.2
        have hnx : i + 1 ≤ (x.w.take i t).1.next := by
          rcases Nat.lt_or_ge i x.w.next with h1 | h1
          · omega
          · have e1 : i = x.w.next := by omega
            have hsz := h.tx t (List.mem_of_getElem? hp'.2)
            have h8 := (List.getElem?_eq_some_iff.1 hp'.2).1
            have h9 := h.d4
            have h10 := h.w1
            have h11 := h.ww
            have := k7 (by simp only [Wn.fits, Bool.and_eq_true, decide_eq_true_eq]; omega) e1
            omega
        rcases hbag with e | ⟨m, c, e, hc⟩
        · exfalso
          have := congrArg List.length e
          simp [Sm.comes, Sm.send] at this
        · refine ⟨m, c, b8 _ ?_, ?_⟩
          · rw [e, List.drop_append_of_le_length hlen]; simp
          · rw [hc]; exact hnx
      · exact b10 i t k (by rw [htake]; exact hk) (Nat.le_trans hi a7)
    · rcases b11 q hq with hq | hq
      · rcases hbag with e | ⟨m, c, e, hc⟩ <;> rw [e] at hq
        · exact .inl hq
        · rw [List.drop_append_of_le_length hlen] at hq
          rcases List.mem_append.1 hq with hq | hq
          · exact .inl hq
          · simp at hq; subst hq; exact .inr rfl
      · exact .inr hq
    · rw [htake] at b12
      rw [List.countP_cons, List.length_cons]
      have key : (({ x with bag := r } : Sm).comes p.2).bag.length + (if p.2.isAck = true then 1 else 0) = r.length + 1 := by
        cases p.2 with
        | ack c => rfl
        | chunk i t => simp [Sm.comes, Sm.send, Pkt.isAck]
      omega

theorem Sn.items_len (s : Sn) : s.items.length ≤ s.win := by
  unfold Sn.items Sn.itemsTo
  rw [List.length_map]
  have h1 := List.length_filter_le s.isDue (List.range (s.hi - s.done))
  rw [List.length_range] at h1
  have h2 : s.hi ≤ s.done + s.win := Nat.min_le_right _ _
  omega

/-- What a round leaves. -/
theorem Sm.ok.round_is {x : Sm} (h : x.ok) :
    let y := x.round
    y.s.texts = x.s.texts ∧ y.s.win = x.s.win ∧ y.s.res = x.s.res ∧ x.s.done ≤ y.s.done ∧ (x.s.done < x.s.texts.length → x.s.timer ≤ 1 → ∃ k c, (k, Pkt.ack c) ∈ y.bag ∧ x.s.done + 1 ≤ c) ∧
    (∀ k c, (k, Pkt.ack c) ∈ x.bag → c ≤ y.s.done) ∧ (2 ≤ x.s.timer → y.s.timer = x.s.timer - 1 ∨ x.s.done < y.s.done) ∧
    (∀ p ∈ y.bag, p.2.isAck = true) ∧ y.bag.length ≤ x.bag.length + 8 ∧ ((∀ p ∈ x.bag, p.2.isAck = true) → y.bag.length ≤ 8) := by
  have hy := h.tick.says
  obtain ⟨b1, b2, b3, b4, b5, b6, b7, b8, b9, b10, b11, b12⟩ := hy.dlvs_is x.tick.says.bag.length (Nat.le_refl _)
  obtain ⟨t1, t2, t3, t4⟩ := Sn.due_texts x.tick.s
  have hS : x.tick.says.s = x.tick.s.due := Sm.says_s _
  have hI := x.tick.s.items_len
  have hw := h.w8
  have hlen := Sm.says_len x.tick
  obtain ⟨_, _, _, q4, q5, q6, _⟩ := Sm.sendAll_is { x.tick with s := x.tick.s.due } x.tick.s.items
  have hI8 : x.tick.s.items.length ≤ 8 := Nat.le_trans hI hw
  rw [hS] at b1 b2 b3 b5 b6
  rw [List.take_length] at b9 b10 b12
  refine ⟨b1.trans t1, b2.trans t3, b3.trans t4, by rw [t2] at b5; exact b5, fun hd ht => ?_, fun k c hk => b9 c k (q4 _ hk), fun ht => ?_, fun p hp => ?_, ?_, fun ha => ?_⟩
  · have h0 : x.tick.s.timer = 0 := by show x.s.timer - 1 = 0; omega
    have h1 := h.w1
    have hhi : x.s.done < x.tick.s.hi := by
      show x.s.done < min x.s.texts.length (x.s.done + x.s.win)
      omega
    have hmem : (x.s.done, x.s.texts.getD x.s.done ⟨#[]⟩) ∈ x.tick.s.items := by
      unfold Sn.items Sn.itemsTo
      refine List.mem_map.2 ⟨0, List.mem_filter.2 ⟨?_, ?_⟩, rfl⟩
      · rw [List.mem_range]
        show 0 < x.tick.s.hi - x.s.done
        omega
      · simp [Sn.isDue, h0]
    obtain ⟨n, hn⟩ := q6 _ hmem
    obtain ⟨k', c, hk, hc⟩ := b10 _ _ _ hn (by rw [Sm.says_w]; exact h.d1)
    exact ⟨k', c, hk, hc⟩
  · have h0 : x.tick.s.timer = x.s.timer - 1 := rfl
    have hdt : x.tick.s.due.timer = x.s.timer - 1 := by
      unfold Sn.due
      split
      · exact h0
      · show (if x.tick.s.timer = 0 then _ else x.tick.s.timer) = _
        rw [if_neg (by rw [h0]; omega), h0]
    rcases b6 with e | e
    · exact .inl (e.trans hdt)
    · rw [t2] at e
      exact .inr e
  · rcases b11 p hp with hp | hp
    · rw [List.drop_length] at hp; cases hp
    · exact hp
  · have hl : x.tick.bag.length = x.bag.length := rfl
    show (Sm.dlvs _ _).bag.length ≤ _
    omega
  · have hl : x.tick.bag.length = x.bag.length := rfl
    have hcount : x.bag.length ≤ x.tick.says.bag.countP (fun p => p.2.isAck) := by
      have : ∀ (z : Sm) (l : List (Nat × ByteArray)), (z.sendAll l).bag.countP (fun p => p.2.isAck) = z.bag.countP (fun p => p.2.isAck) := by
        intro z l
        induction l generalizing z with
        | nil => rfl
        | cons q l ih =>
          show ((z.send (.chunk q.1 q.2)).sendAll l).bag.countP _ = _
          rw [ih]
          show List.countP _ (z.bag ++ [_]) = _
          rw [List.countP_append]
          simp [Pkt.isAck]
      show x.bag.length ≤ List.countP _ (Sm.sendAll _ _).bag
      rw [this]
      show x.bag.length ≤ List.countP _ x.bag
      rw [List.countP_eq_length.2 ha]
      exact Nat.le_refl _
    show (Sm.dlvs _ _).bag.length ≤ _
    omega

theorem Sm.rounds_add (a b : Nat) (x : Sm) : Sm.rounds (a + b) x = Sm.rounds b (Sm.rounds a x) := by
  induction a generalizing x with
  | zero => simp [Sm.rounds]
  | succ a ih => rw [Nat.succ_add]; exact ih _
theorem Sm.ok.rounds {x : Sm} (h : x.ok) (n : Nat) : (Sm.rounds n x).ok ∧ (Sm.rounds n x).s.texts = x.s.texts ∧ (Sm.rounds n x).s.res = x.s.res ∧ x.s.done ≤ (Sm.rounds n x).s.done := by
  induction n generalizing x with
  | zero => exact ⟨h, rfl, rfl, Nat.le_refl _⟩
  | succ n ih =>
    obtain ⟨a1, a2, a3, a4, _⟩ := h.round_is
    obtain ⟨b1, b2, b3, b4⟩ := ih h.round
    exact ⟨b1, b2.trans a1, b3.trans a3, Nat.le_trans a4 b4⟩

/-- Within so many rounds one more is acked. -/
theorem Sm.ok.rises {x : Sm} (h : x.ok) (hd : x.s.done < x.s.texts.length) : ∀ (T : Nat), x.s.timer ≤ T → x.s.done < (Sm.rounds (T + 2) x).s.done := by
  intro T
  induction T generalizing x with
  | zero =>
    intro ht
    obtain ⟨a1, a2, a3, a4, a5, _⟩ := h.round_is
    obtain ⟨k, c, hk, hc⟩ := a5 hd (by omega)
    obtain ⟨_, _, _, _, _, b6, _⟩ := h.round.round_is
    have h3 := b6 k c hk
    have e : Sm.rounds (0 + 2) x = x.round.round := rfl
    rw [e]
    omega
  | succ T ih =>
    intro ht
    obtain ⟨a1, a2, a3, a4, a5, a6, a7, _⟩ := h.round_is
    rcases Nat.lt_or_ge x.s.timer 2 with h2 | h2
    · obtain ⟨k, c, hk, hc⟩ := a5 hd (by omega)
      obtain ⟨_, _, _, _, _, b6, _⟩ := h.round.round_is
      have h3 := b6 k c hk
      have h4 := (h.round.round.rounds (T + 1)).2.2.2
      show x.s.done < (Sm.rounds (T + 1) x.round.round).s.done
      omega
    · rcases Nat.lt_or_ge x.s.done x.round.s.done with h3 | h3
      · have h4 := (h.round.rounds (T + 2)).2.2.2
        show x.s.done < (Sm.rounds (T + 2) x.round).s.done
        omega
      · have h5 : x.round.s.done = x.s.done := by omega
        rcases a7 h2 with e | e
        · have h6 := ih h.round (by rw [h5, a1]; exact hd) (by rw [e]; omega)
          rw [h5] at h6
          exact h6
        · omega

theorem Sm.ok.calm {x : Sm} (h : x.ok) (m : Nat) : m ≤ (Sm.rounds (m * (x.s.res + 2)) x).s.done ∨ (Sm.rounds (m * (x.s.res + 2)) x).s.done = x.s.texts.length := by
  induction m with
  | zero => exact .inl (Nat.zero_le _)
  | succ m ih =>
    obtain ⟨b1, b2, b3, b4⟩ := h.rounds (m * (x.s.res + 2))
    rw [Nat.succ_mul, Sm.rounds_add]
    generalize hz : Sm.rounds (m * (x.s.res + 2)) x = z at *
    obtain ⟨c1, c2, c3, c4⟩ := b1.rounds (x.s.res + 2)
    have hle : (Sm.rounds (x.s.res + 2) z).s.done ≤ x.s.texts.length := by
      have := c1.d1; have := c1.d2; have := c1.d3
      rw [c2, b2] at this
      omega
    rcases Nat.lt_or_ge z.s.done z.s.texts.length with hlt | hge
    · have := b1.rises hlt (x.s.res) (by rw [← b3]; exact b1.tm)
      rw [b2] at hlt
      rcases ih with ih | ih
      · exact .inl (by omega)
      · omega
    · rw [b2] at hge
      exact .inr (by omega)

/-- In calm all of it is stored, and acked. -/
theorem Sm.ok.ends {x : Sm} (h : x.ok) : let y := Sm.rounds ((x.s.texts.length + 1) * (x.s.res + 2)) x
    y.s.texts = x.s.texts ∧ y.stored = x.s.texts ∧ y.s.done = x.s.texts.length := by
  obtain ⟨b1, b2, b3, b4⟩ := h.rounds ((x.s.texts.length + 1) * (x.s.res + 2))
  have hle : (Sm.rounds ((x.s.texts.length + 1) * (x.s.res + 2)) x).s.done ≤ x.s.texts.length := by
    have := b1.d1; have := b1.d2; have := b1.d3
    rw [b2] at this
    omega
  have hd : (Sm.rounds ((x.s.texts.length + 1) * (x.s.res + 2)) x).s.done = x.s.texts.length := by
    rcases h.calm (x.s.texts.length + 1) with e | e
    · omega
    · exact e
  refine ⟨b2, ?_, hd⟩
  have h1 := b1.d1; have h2 := b1.d2; have h3 := b1.d3
  rw [b2] at h3
  have hst := b1.st
  rw [b2] at hst
  rw [hst]
  exact List.take_of_length_le (by omega)

/-- How much is under way. -/
def Sm.few (B : Nat) (x : Sm) : Prop := x.bag.length ≤ B ∨ (x.bag.length ≤ B + 8 ∧ ∀ p ∈ x.bag, p.2.isAck = true)
theorem Sm.ok.few_round {x : Sm} (h : x.ok) {B : Nat} (hf : x.few B) : x.round.few B := by
  obtain ⟨_, _, _, _, _, _, _, a8, a9, a10⟩ := h.round_is
  rcases hf with hf | ⟨hf, ha⟩
  · exact .inr ⟨by omega, a8⟩
  · have := a10 ha
    exact .inr ⟨by omega, a8⟩
theorem Sm.ok.few_says {x : Sm} (h : x.ok) {B : Nat} (hf : x.few B) : x.tick.says.bag.length ≤ B + 16 := by
  rw [Sm.says_len]
  have h1 := x.tick.s.items_len
  have h2 : x.tick.s.win ≤ 8 := h.w8
  have h3 : x.tick.bag.length = x.bag.length := rfl
  rcases hf with hf | ⟨hf, _⟩ <;> omega
theorem Sm.ok.does_len {x : Sm} (h : x.ok) (kind n : Int) (t : ByteArray) : (x.does kind n t).bag.length ≤ x.bag.length + 8 := by
  have hc : ∀ (z : Sm) (p : Pkt), (z.comes p).bag.length ≤ z.bag.length + 1 := fun z p => by
    rcases Sm.comes_bag z p with e | ⟨_, _, e, _⟩ <;> rw [e] <;> simp
  have hd : ∀ k, (x.drop k).bag.length ≤ x.bag.length := fun k => by
    show (x.bag.eraseIdx k).length ≤ _
    rw [List.length_eraseIdx]
    split <;> omega
  unfold Sm.does
  split
  · split
    · show x.bag.length ≤ _; omega
    · omega
  · split
    · rw [Sm.says_len]
      have h1 := x.tick.s.items_len
      have h2 : x.tick.s.win ≤ 8 := h.w8
      have h3 : x.tick.bag.length = x.bag.length := rfl
      omega
    · split
      · unfold Sm.dlv
        rcases hb : x.bag[x.place n]? with _ | p
        · simp only; omega
        · have h1 := hc (x.drop (x.place n)) p.2
          have h2 := hd (x.place n)
          simp only
          omega
      · split
        · have := hd (x.place n); omega
        · split
          · rcases hb : x.bag[x.place n]? with _ | p
            · simp only; omega
            · simp [Sm.send]
          · omega

/-- Few are held: the keys are small, and no two the same. -/
theorem keys_few {α : Type} : ∀ (n : Nat) (es : List (Int × α)), (es.map (·.1)).Nodup → (∀ p ∈ es, ∃ i : Nat, p.1 = (i : Int) ∧ i < n) → es.length ≤ n
  | 0, es, _, h => by
    rcases es with _ | ⟨p, r⟩
    · exact Nat.le_refl _
    · obtain ⟨i, _, hi⟩ := h p (by simp); omega
  | n + 1, es, hn, h => by
    have h1 := mdel_length (n : Int) es hn
    have h2 := keys_few n (mdel es n) (mdel_nodup hn _) (fun p hp => by
      obtain ⟨hm, hne⟩ := List.mem_filter.1 hp
      obtain ⟨i, hi, hlt⟩ := h p hm
      refine ⟨i, hi, ?_⟩
      have : i ≠ n := fun e => by subst e; simp [hi] at hne
      omega)
    split at h1 <;> omega
theorem Sm.ok.held_few {x : Sm} (h : x.ok) : x.w.held.length ≤ 32 := by
  refine keys_few 32 _ h.nd fun p hp => ?_
  obtain ⟨i, h1, h2, _⟩ := h.hd p hp
  have := h.d3; have := h.d4
  exact ⟨i, h1, by omega⟩

end Go.Proofs.YtkiccbjngokpjaaGreat
