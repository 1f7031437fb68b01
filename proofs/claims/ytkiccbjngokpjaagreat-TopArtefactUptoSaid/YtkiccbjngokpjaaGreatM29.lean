/-
  Merged, in build order: At7 At8 At9 AtA AtB AtC.
-/
import Derived.Maps.RangeWalk
import Derived.Test.YtkiccbjngokpjaaGreatM27
import Derived.Deep.Upon
import Derived.Test.YtkiccbjngokpjaaGreatM13
import Derived.Test.YtkiccbjngokpjaaGreatM23
import Derived.Test.YtkiccbjngokpjaaGreatM25
import Derived.Test.YtkiccbjngokpjaaGreatM28
/-
  a map of one entry is ranged over; sorting one; slices.Clone of texts.
-/
namespace Go.Proofs.YtkiccbjngokpjaaGreat
open Go.RowKit
open Go.WideElems (Fit rd rg rd_val)
open Go.Maps (Keyed int_keyed)
open Go.ChangeMaps (setBlock)
set_option linter.unusedVariables false
set_option linter.unusedSimpArgs false

section
variable {α : Type} {P : Program} {kt : TypeId} {W : Base} {w : World} {R : List Thing} {b : Nat} {enc : α → Value}
theorem mp_empty (H : St W w R) (i : Nat) (hi : R[i]? = some (MpT P kt b enc [])) : ∃ clock, w.heap[b]? = some (.map #[] clock) := by
  obtain ⟨F, ⟨_, _, D, hown, hsz, _⟩, _⟩ := H.get i hi
  obtain ⟨es, clock, hb, F, hs, rfl⟩ := hown
  have h0 : es.size = 0 := by simpa using hs
  rw [Array.eq_empty_of_size_eq_zero h0] at hb
  exact ⟨clock, hb⟩
theorem mp_single (H : St W w R) (i : Nat) {k : Int} {v : α} (hi : R[i]? = some (MpT P kt b enc [(k, v)])) (hk : P.underlying kt = some (.int .i64)) (hw : (Lit.int .i64 k).wf = true) : ∃ bn clock, bn < clock ∧ w.heap[b]? = some (.map #[⟨.int .i64 k, enc v, bn⟩] clock) := by
  obtain ⟨F, ⟨_, _, D, hown, hsz, hrel⟩, _⟩ := H.get i hi
  obtain ⟨es, clock, hb, F, hs, rfl⟩ := hown
  have h1 : es.size = 1 := by
    have h2 : es.toList.length = 1 := by simpa [Maps.size, length_sorted] using hsz
    simpa using h2
  obtain ⟨e, he⟩ : ∃ e, es = #[e] := by
    rcases es with ⟨l⟩
    rcases l with _ | ⟨e, _ | ⟨f, l⟩⟩
    · simp at h1
    · exact ⟨e, rfl⟩
    · simp at h1
  subst he
  obtain ⟨hr1, hr2⟩ := (hrel k hw).2 v (by simp [mget])
  have hem : e ∈ (#[e] : Array MapEntry).toList := by simp
  obtain ⟨y, hy⟩ := F.reads e hem
  obtain ⟨z, hz, hzd⟩ := rd_val hy
  have hkey := WideElems.rd_key hy
  have hrg := WideElems.rg_of hy
  have hD : DataW.map (([e].map (rg P kt rawE)).foldr DataW.insert []) = DataW.map [y] := by
    simp only [List.map_cons, List.map_nil, List.foldr_cons, List.foldr_nil]
    rw [hrg]
    rfl
  have e1 : (#[e] : Array MapEntry).toList = [e] := rfl
  rw [e1, hD] at hr1 hr2
  have h3 : (y.1.sameKey (.int .i64 k)) = true := by simpa [Maps.has] using hr1
  have hy1 : y.1 = .int .i64 k := WideAt.sameKey_eq h3
  have hy2 : y.2 = .held (enc v) := by
    have h4 := hr2 .nil
    simpa [DataW.atKey, List.find?_cons, h3] using h4
  obtain ⟨x, hx1, hx2, _⟩ := Maps.keyOf_int_inv hk hkey
  have hxk : x = k := by rw [hy1] at hx2; injection hx2 with _ h5; exact h5.symm
  have hval : e.val = enc v := by
    unfold rawE at hz
    cases hz
    rw [hy2] at hzd
    injection hzd with h6
    exact h6.symm
  have hst := ((MapKept.stamped_iff _ clock).1 F.stamped).1 e hem
  refine ⟨e.born, clock, hst, ?_⟩
  rw [hb, ← hval, ← hxk, ← hx1]
end

section
variable {P : Program} {w : World} {ops : Array Oper} {rest : List Oper} {o : Oper} {a : Act} {Q : Exit → Act → World → Prop}
theorem wpRange1 (hg : o.guard = none) (m : Operand) (t : TypeId) (hop : o.op = Op.range t m) (k e : TypeId) (ht : P.underlying t = some (.map k e)) (b : Nat) (es : Array MapEntry) (clock : Nat) (hm : a.eval m = .map (some b)) (hb : w.heap[b]? = some (.map es clock))
    (hK : wpList P ops Q rest (a.put o.dst (.pointer (some ⟨w.heap.size, 0, none⟩))) (w.alloc (.mapIter (some b) clock #[] clock))) : wpList P ops Q (o :: rest) a w := by
  refine wpList_plain hg fun K' hK' => ?_
  have hrun := run_range_map (P := P) w t k e b es clock ht hb
  unfold Oper.wp
  simp [execOp, hop, hm, hrun, Result.andThen]
  exact hK' _ _ hK
theorem wpNext1 (hg : o.guard = none) (it : Operand) (hop : o.op = Op.next it false) (r : Nat) (hit : a.eval it = .pointer (some ⟨r, 0, none⟩)) (v : Value) (w' : World) (hrun : ∀ ty, (Instr.next (.pointer (some ⟨r, 0, none⟩)) false ty).run P w = .ok v w')
    (hK : wpList P ops Q rest (a.put o.dst v) w') : wpList P ops Q (o :: rest) a w := by
  refine wpList_plain hg fun K' hK' => ?_
  unfold Oper.wp
  simp [execOp, hop, hit, hrun, Result.andThen]
  exact hK' _ _ hK
/-- Nothing is left. -/
theorem next_none (w : World) (ty : TypeId) (r bm since c0 : Nat) (seen : Array Nat) (es : Array MapEntry) (clock : Nat) (hr : w.heap[r]? = some (.mapIter (some bm) since seen c0)) (hb : w.heap[bm]? = some (.map es clock)) (hold : ∀ x ∈ es.toList, x.born < since) (hsc : since ≤ c0) (hl : leftOf es seen = #[]) :
    (Instr.next (.pointer (some ⟨r, 0, none⟩)) false ty).run P w = .ok (.tuple #[.bool false]) w := by
  rcases run_next_at (P := P) w ty r bm since c0 seen es clock hr hb hold hsc with ⟨_, h⟩ | ⟨e, he, _⟩
  · exact h
  · rw [hl] at he; simp at he
/-- The one entry. -/
theorem next_one (w : World) (ty : TypeId) (r bm c0 : Nat) (e : MapEntry) (clock : Nat) (hr : w.heap[r]? = some (.mapIter (some bm) clock #[] clock)) (hb : w.heap[bm]? = some (.map #[e] clock)) (hold : e.born < clock) :
    ∃ w1, (w1 = w ∨ w1 = w.drew) ∧ ∀ ty, (Instr.next (.pointer (some ⟨r, 0, none⟩)) false ty).run P w = .ok (.tuple #[.bool true, e.key, e.val]) (setBlock w1 r (.mapIter (some bm) clock (#[].push e.born) clock)) := by
  rcases run_next_at (P := P) w ty r bm clock clock #[] #[e] clock hr hb (by simpa using hold) (Nat.le_refl _) with ⟨h0, _⟩ | ⟨e2, he, w1, hw1, h⟩
  · simp [leftOf] at h0
  · have : e2 = e := by simpa [leftOf] using he
    subst this
    exact ⟨w1, hw1, fun ty' => h⟩
theorem leftOf_one (e : MapEntry) : leftOf #[e] (#[].push e.born) = #[] := by simp [leftOf]
end

section
variable {W : Base} {w : World} {R : List Thing}
theorem blk_set {w : World} {r : Nat} {o1 : Obj} (h : w.heap[r]? = some o1) (o : Obj) : (setBlock w r o).heap[r]? = some o := by
  have hl := lt_of_block h
  show (w.heap.setIfInBounds r o)[r]? = _
  rw [Array.getElem?_setIfInBounds_self_of_lt hl]
theorem Fr.setBk {w : World} (r : Nat) (o : Obj) : Fr [r] w (setBlock w r o) := by
  refine ⟨rfl, rfl, rfl, by simp [setBlock], fun k hk hn => ?_⟩
  show (w.heap.setIfInBounds r o)[k]? = _
  rw [Array.getElem?_setIfInBounds_ne (by intro e; exact hn (by simp [e]))]
theorem St.setBk (H : St W w R) (i : Nat) {r : Nat} {o1 : Obj} (hi : R[i]? = some (BlkT r o1)) (o : Obj) : St W (setBlock w r o) (R.set i (BlkT r o)) := by
  obtain ⟨F, ⟨rfl, h1⟩, h2, h3⟩ := H.at i hi
  exact h3 _ [r] _ inferInstance ⟨rfl, blk_set h1 o⟩ (Fr.setBk r o) (fun x hx => .inl hx)
end

end Go.Proofs.YtkiccbjngokpjaaGreat

/-
  sink: Artefacts.
-/
namespace Go.Proofs.YtkiccbjngokpjaaGreat
open Go.RowKit
open Go.Maps (Keyed int_keyed)
open Go.ChangeMaps (setBlock)
set_option linter.unusedVariables false
set_option linter.unusedSimpArgs false

def axL : Lay ByteArray where
  f := fun s => [.string s]
  d := ⟨#[]⟩
  sz := 1
  len := fun _ => rfl
  pos := by decide
  one := fun a u hu => by simp at hu; subst hu; rfl
theorem axL_cells (l : List ByteArray) : axL.cells l = txC l := by
  induction l with
  | nil => rfl
  | cons a l ih => 
    show axL.f a ++ axL.cells l = _
    rw [ih]
    rfl

set_option maxHeartbeats 1600000 in
set_option maxRecDepth 100000 in
theorem len64_one (w : World) (n : Nat) (hn : n ≤ 1) : Calls Tryz.prog 77 #[.int .u64 n] w fun e w' => ∃ z : Int, e = .returned (.int .i64 z) ∧ w = w' := by
  obtain rfl | rfl : n = 0 ∨ n = 1 := by omega
  · go_enter Tryz.func77, Tryz.ntmps77
    go_wp2
    go_ret
    exact ⟨_, rfl, rfl⟩
  · go_enter Tryz.func77, Tryz.ntmps77
    go_wp2
    go_ret
    exact ⟨_, rfl, rfl⟩
theorem len_one (w : World) (n : Nat) (hn : n ≤ 1) : Calls Tryz.prog 50 #[.int .u64 n] w fun e w' => ∃ z : Int, e = .returned (.int .i64 z) ∧ w = w' := by
  have HL := hid (len64_one w n hn)
  clear hn
  go_enter Tryz.func50, Tryz.ntmps50
  go_wp2_with fail
  refine HL.out.mono ?_
  rintro e w1 ⟨z, rfl, rfl⟩
  go_wp2_with fail
  go_ret
  exact ⟨_, rfl, rfl⟩
theorem ins_one (w : World) (v fv : Value) (n : Nat) (hn : n ≤ 1) : Calls Tryz.prog 68 #[v, .int .i64 0, .int .i64 n, fv] w fun e w' => e = .returned (.tuple #[]) ∧ w = w' := by
  have hlt : ¬ (1 : Int) < n := by omega
  have HN := hid hn
  clear hn
  go_enter Tryz.func68, Tryz.ntmps68
  go_wp2_with fail
  go_loopw [8] (fun iv wr => iv = .int .i64 1 ∧ Hid (wr = w)) (fun _ _ => 0)
  case atStart => exact ⟨rfl, rfl⟩
  case round =>
    obtain ⟨rfl, HW⟩ := hrel
    go_wp2_with fail
    go_end0
    exact ⟨rfl, HW.out.symm⟩
theorem pdq_one (w : World) (v fv : Value) (n : Nat) (hn : n ≤ 1) (lim : Int) : Calls Tryz.prog 49 #[v, .int .i64 0, .int .i64 n, .int .i64 lim, fv] w fun e w' => e = .returned (.tuple #[]) ∧ w = w' := by
  have HI := hid (ins_one w v fv n hn)
  have hw : wrap64 ((n : Int) - 0) = n := by rw [IntWalk.wrap64_in _ (by omega)]; omega
  have hle : (n : Int) ≤ 12 := by omega
  clear hn
  go_enter Tryz.func49, Tryz.ntmps49
  go_wp2_with fail
  go_loopw [1, 2] (fun av bv wr => av = .int .i64 0 ∧ bv = .int .i64 n ∧ Hid (wr = w)) (fun _ _ _ => 0)
  case atStart => exact ⟨rfl, rfl, rfl⟩
  case round =>
    obtain ⟨rfl, rfl, HW⟩ := hrel
    go_wp2_with fail
    obtain rfl := HW.out
    refine HI.out.mono ?_
    rintro e w1 ⟨rfl, rfl⟩
    go_wp2_with fail
    refine bodyPost_ret (results_none rfl _ _ _) rfl ⟨rfl, rfl⟩
theorem sort_one (w : World) (ao : Option Addr) (n c : Nat) (fv : Value) (hn : n ≤ 1) : Calls Tryz.prog 32 #[.slice ao n c, fv] w fun e w' => e = .returned (.tuple #[]) ∧ w = w' := by
  have HL := hid (len_one w n hn)
  have HP := hid (fun lim => pdq_one w (.slice ao n c) fv n hn lim)
  have hcv : (n : Int) ≤ 1 := by omega
  clear hn
  go_enter Tryz.func32, Tryz.ntmps32
  go_wp2_with fail
  refine HL.out.mono ?_
  rintro e w1 ⟨z, rfl, rfl⟩
  go_wp2_with fail
  refine (HP.out z).mono ?_
  rintro e w1 ⟨rfl, rfl⟩
  go_wp2_with fail
  go_end0
  exact ⟨rfl, rfl⟩

set_option maxHeartbeats 800000 in
set_option maxRecDepth 100000 in
theorem aclone_gs (w : World) (a : Option Addr) (cap : Nat) (l : List ByteArray) (h : In w 1 a l.length cap (axL.at_ l)) (h0 : a = none → cap = 0) (hn : l.length * 16 ≤ 140737488355328) :
    Calls Tryz.prog 31 #[.slice a l.length cap] w fun e w' => ∃ a' c', e = .returned (.slice a' l.length c') ∧ Fr [] w w' ∧ w'.ownsRow 0 9 1 (.slice a' l.length c') l.length (axL.cells l) ∧ (∀ x, x ∈ (Value.slice a' l.length c').ownBlock.toList → w.heap.size ≤ x) ∧ (a' = none → c' = 0) := by
  rcases a with _ | ⟨b, off, sp⟩
  · have hn0 : l = [] := by
      rcases Nat.eq_zero_or_pos l.length with h1 | h1
      · exact List.length_eq_zero_iff.1 h1
      · obtain ⟨b, o, e⟩ := h.sm h1; cases e
    subst hn0
    obtain rfl := h0 rfl
    have heq := fun w1 => Lib.run_eql_slice_nil (P := Tryz.prog) w1 32 9 none 0 0 0 0 Tryz.underlying32
    clear h
    go_enter Tryz.func31, Tryz.ntmps31
    go_wp2
    go_ret
    exact ⟨none, 0, rfl, Fr.refl _ _, World.ownsRow_nil _ _ _ _, by simp [Value.ownBlock], fun _ => rfl⟩
  · obtain ⟨i0, hi, hz0, hz1, hz2⟩ := info_parts info_tx
    have HI := hid (And.intro hi (And.intro hz0 (And.intro hz1 hz2)))
    have H := hid h
    have hlm := h.max
    clear hi hz0 hz1 hz2 h
    have heq := fun w1 => Lib.run_eql_slice_nil (P := Tryz.prog) w1 32 9 (some ⟨b, off, sp⟩) l.length cap 0 0 Tryz.underlying32
    go_enter Tryz.func31, Tryz.ntmps31
    go_wp2_with (at_builtin; refine wpList_copied rfl (.tmp 5) (.tmp 6) 32 rfl 9 i0 (.string ByteArray.empty) 1 16 Tryz.underlying32 HI.out.1 HI.out.2.1 HI.out.2.2.1 HI.out.2.2.2 rfl (by decide) w.heap.size rfl (blk_alloc_at _ _ _ rfl) (some ⟨b, off, sp⟩) l.length cap (axL.at_ l) rfl ?qa (fun j _ => axL.at_one _ j) (by omega) ?_)
    case qa => exact H.out.fr0 ((Fr.refl [] w).alloc _)
    intro g cg w1 ho hF1 hg
    have hr : (List.range (l.length * 1)).map (axL.at_ l) = axL.cells l := axL.range l
    first | rw [hr] at ho | (simp only [Nat.mul_one] at hr ho; rw [hr] at ho)
    have hF : Fr [] w w1 := ((Fr.refl [] w).alloc (.cells #[] 9)).step hF1 (by intro x hx; simp at hx; subst hx; exact .inr (Nat.le_refl _))
    have hg' : w.heap.size ≤ g := by rcases hg with h | h <;> first | omega | (simp at h; omega)
    have HZ := hid (And.intro ho (And.intro hF hg'))
    clear ho hF hF1 hg hg'
    go_wp2_with fail
    go_ret
    exact ⟨some ⟨g, 0, none⟩, cg, rfl, HZ.out.2.1, HZ.out.1, by simpa [Value.ownBlock] using HZ.out.2.2, fun h => by cases h⟩


section
variable {W : Base} {w : World} {R : List Thing}
theorem st_aclone (H : St W w R) (i : Nat) {v : Value} {l : List ByteArray} (hi : R[i]? = some (RowT 9 1 v l.length (txC l))) (hn : l.length ≤ 1000) :
    Calls Tryz.prog 31 #[v] w fun e w' => ∃ a' c', e = .returned (.slice a' l.length c') ∧ St W w' (R ++ [RowT 9 1 (.slice a' l.length c') l.length (txC l)]) := by
  obtain ⟨a, c, rfl, hI, h0⟩ := ownsRow_In (H.row i hi) (axL.at_ l) (fun j hj => by rw [← axL_cells]; exact axL.get l j hj)
  have h00 : a = none → c = 0 := by
    intro ha
    rcases ownsRow_one (H.row i hi) with ⟨e1, _, _⟩ | ⟨g, cap, e1, _, _⟩
    · simp only [Value.slice.injEq] at e1; exact e1.2.2
    · simp only [Value.slice.injEq] at e1; rw [ha] at e1; cases e1.1
  refine (aclone_gs w a c l hI h00 (by omega)).mono ?_
  rintro e w' ⟨a', c', rfl, hF, ho, hb, _⟩
  rw [axL_cells] at ho
  exact ⟨a', c', rfl, H.new (A := Row1 9 1 (.slice a' l.length c') l.length (txC l)) hF inferInstance ⟨rfl, ho⟩ hb⟩
end

end Go.Proofs.YtkiccbjngokpjaaGreat

/-
  sink: Artefacts.
-/
namespace Go.Proofs.YtkiccbjngokpjaaGreat
open Go.RowKit
open Go.Maps (Keyed int_keyed)
open Go.ChangeMaps (setBlock)
set_option linter.unusedVariables false
set_option linter.unusedSimpArgs false

section
variable {α : Type} {P : Program} {kt : TypeId} {W : Base} {w : World} {R : List Thing} {b : Nat} {enc : α → Value} {es : List (Int × α)}
/-- A map's block, as it lies. -/
theorem St.mpRaw (H : St W w R) (i : Nat) (hi : R[i]? = some (MpT P kt b enc es)) {o : Obj} (hb : w.heap[b]? = some o) : St W w (R.set i (BlkT b o)) := by
  obtain ⟨F, ⟨rfl, _⟩, h2, h3⟩ := H.at i hi
  exact h3 _ [b] _ inferInstance ⟨rfl, hb⟩ (Fr.refl _ _) (fun x hx => .inl hx)
theorem St.mpUnraw (H : St W w R) (i : Nat) {o : Obj} (hi : R[i]? = some (BlkT b o)) (hM : ∀ wx : World, wx.heap[b]? = some o → Mp1 P kt b enc es wx [b]) : St W w (R.set i (MpT P kt b enc es)) := by
  obtain ⟨F, ⟨rfl, h1⟩, h2, h3⟩ := H.at i hi
  exact h3 _ [b] _ inferInstance (hM _ h1) (Fr.refl _ _) (fun x hx => .inl hx)
theorem mp_fact (H : St W w R) (i : Nat) (hi : R[i]? = some (MpT P kt b enc es)) {o : Obj} (hb : w.heap[b]? = some o) : ∀ wx : World, wx.heap[b]? = some o → Mp1 P kt b enc es wx [b] := by
  obtain ⟨F, ⟨rfl, h2, D, ⟨s, c, hb', r⟩, h4⟩, _⟩ := H.get i hi
  intro wx hx
  have he : o = .map s c := by rw [hb] at hb'; exact Option.some.inj hb'
  subst he
  exact ⟨rfl, h2, D, ⟨s, c, hx, r⟩, h4⟩
end

section
variable {W : Base} {w : World} {R : List Thing}
set_option maxHeartbeats 1600000 in
set_option maxRecDepth 100000 in
theorem st_arts_none (H : St W w R) (i : Nat) {K : Nat} {k : Kn} {nn : Nat} (hi : R[i]? = some (KnT K k nn)) (hh : k.held = none) :
    Calls Tryz.prog 7 #[ptr K] w fun e w' => e = .returned (.slice none 0 0) ∧ Fr [] w w' := by
  obtain ⟨m, v, nv, evs, H2⟩ := H.kn i hi
  have he : k.es v = [] := by unfold Kn.es; rw [hh]
  dsimp only [knL] at H2
  rw [he] at H2
  have hx0 := cell_blk (i := 0) (H2.blk _ (get_behind _ _ 0)) rfl
  obtain ⟨clock, hb⟩ := mp_empty H2 _ (get_behind _ _ 1)
  have HSt := hid (fun w fv => sort_one w none 0 0 fv (by decide))
  have HB := hid hb
  have hgm := lt_of_block hb
  clear H H2 hi hh he hb
  go_enter Tryz.func7, Tryz.ntmps7
  go_wp2_with (at_range; refine wpRange1 rfl (.tmp 9) 79 rfl 3 41 Tryz.underlying79 m #[] clock rfl HB.out ?_)
  go_frame
  have H3 : (w.alloc (.mapIter (some m) clock #[] clock)).heap[w.heap.size]? = some (.mapIter (some m) clock #[] clock) := by
    show (w.heap.push _)[w.heap.size]? = _
    simp
  have H4 : (w.alloc (.mapIter (some m) clock #[] clock)).heap[m]? = some (.map #[] clock) := by
    show (w.heap.push _)[m]? = _
    rw [Array.getElem?_push_lt hgm]
    rw [← HB.out, Array.getElem?_eq_getElem hgm]
  have HN := hid (fun ty => next_none (P := Tryz.prog) _ ty _ _ _ _ _ _ clock H3 H4 (by simp) (Nat.le_refl _) (by simp [leftOf]))
  have HF := hid ((Fr.refl [] w).alloc (.mapIter (some m) clock #[] clock))
  generalize w.heap.size = r at HN ⊢
  generalize w.alloc _ = w1 at HN HF ⊢
  clear H3 H4 hx0 hgm HB
  go_loopw [3] (fun lv wr => lv = .slice none 0 0 ∧ Hid (wr = w1)) (fun _ _ => 0)
  case atStart => exact ⟨rfl, rfl⟩
  case round =>
    obtain ⟨rfl, HW⟩ := hrel
    obtain rfl := HW.out
    go_wp2_with (at_next; refine wpNext1 rfl (.tmp 10) rfl r rfl _ _ HN.out ?_)
    refine (HSt.out _ _).mono ?_
    rintro e w2 ⟨rfl, rfl⟩
    go_wp2_with fail
    go_ret
    exact ⟨rfl, HF.out⟩
set_option maxHeartbeats 1600000 in
set_option maxRecDepth 100000 in
theorem st_arts_some (H : St W w R) (i : Nat) {K : Nat} {k : Kn} {nn : Nat} (hi : R[i]? = some (KnT K k nn)) {B : Nat} {ps : List ByteArray} (hh : k.held = some (B, ps)) (hB : B ≤ 16777216) (hl : ps.length ≤ 16) :
    Calls Tryz.prog 7 #[ptr K] w fun e w' => ∃ g c a' c', e = .returned (.slice (some ⟨g, 0, none⟩) 1 c) ∧ St W w' (R ++ [RowT 41 3 (.slice (some ⟨g, 0, none⟩) 1 c) 1 [.int .i64 1, .int .i64 B, .slice a' ps.length c'], RowT 9 1 (.slice a' ps.length c') ps.length (txC ps)]) := by
  obtain ⟨m, v, nv, evs, H2⟩ := H.kn i hi
  have hil := lt_of_get hi
  have he : k.es v = [(1, (B, v))] := by unfold Kn.es; rw [hh]
  have hps : k.ps = ps := by unfold Kn.ps; rw [hh]
  obtain ⟨va, vc, rfl, _, _⟩ := row_slice (H2.row _ (get_behind _ _ 2))
  dsimp only [knL] at H2
  rw [he, hps] at H2
  have hx0 := cell_blk (i := 0) (H2.blk _ (get_behind _ _ 0)) rfl
  obtain ⟨bn, clock, hbn, hb⟩ := mp_single H2 _ (get_behind _ _ 1) Tryz.underlying3 (lit_wf (by omega))
  have hM := mp_fact H2 _ (get_behind _ _ 1) hb
  have H2r := H2.mpRaw _ (get_behind _ _ 1) hb
  rw [set_bh] at H2r
  have H2r : St W w (R.set i NilT ++ [BlkT K (knO m nv), BlkT m (.map #[⟨.int .i64 1, avE (B, .slice va ps.length vc), bn⟩] clock), RowT 9 1 (.slice va ps.length vc) ps.length (txC ps), RowT 98 13 nv nn evs]) := H2r
  have HBk := hid (fun (wx : World) (L : List Thing) (h : St W wx ((R.set i NilT ++ [BlkT K (knO m nv), BlkT m (.map #[⟨.int .i64 1, avE (B, .slice va ps.length vc), bn⟩] clock), RowT 9 1 (.slice va ps.length vc) ps.length (txC ps), RowT 98 13 nv nn evs]) ++ L)) => (show St W wx (R ++ L) from by
    rw [List.append_assoc] at h
    have h1 := h.mpUnraw _ (get_behind _ _ 1) hM
    rw [set_bh] at h1
    have h2 : St W wx (R.set i NilT ++ ([BlkT K (knO m nv), MpT Tryz.prog 3 m avE [(1, (B, .slice va ps.length vc))], RowT 9 1 (.slice va ps.length vc) ps.length (txC ps), RowT 98 13 nv nn evs] ++ L)) := h1
    have h3 := h2.perm (List.Perm.append_left _ List.perm_append_comm)
    rw [← List.append_assoc] at h3
    have h4 : St W wx ((R ++ L).set i NilT ++ knL K k nn m (.slice va ps.length vc) nv evs) := by
      dsimp only [knL]
      rw [List.set_append_left _ _ hil, show k.es (.slice va ps.length vc) = [(1, (B, .slice va ps.length vc))] from by unfold Kn.es; rw [hh], hps]
      exact h3
    have h5 := St.knBack (i := i) (by rw [List.length_append]; omega) h4
    rw [List.set_append_left _ _ hil] at h5
    have h6 : R.set i (KnT K k nn) = R := by
      obtain ⟨q1, q2⟩ := List.getElem?_eq_some_iff.1 hi
      rw [← q2, List.set_getElem_self]
    rw [h6] at h5
    exact h5))
  have HSt := hid (fun w fv ao c => sort_one w ao 1 c fv (by decide))
  have HB := hid hb
  have HBn := hid hbn
  have H3 := hid (H2r.alloc (.mapIter (some m) clock #[] clock))
  have hg := lt_of_block (H2r.blk _ (get_behind _ _ 0))
  clear H H2 H2r hi hh he hb hB hM hbn
  go_enter Tryz.func7, Tryz.ntmps7
  go_wp2_with (at_range; refine wpRange1 rfl (.tmp 9) 79 rfl 3 41 Tryz.underlying79 m _ clock rfl HB.out ?_)
  go_frame
  generalize w.heap.size = r at H3 ⊢
  generalize w.alloc _ = w1 at H3 ⊢
  clear hg hx0 HB
  go_loopw [3] (fun lv wr => (lv = .slice none 0 0 ∧ Hid (St W wr (R.set i NilT ++ [BlkT K (knO m nv), BlkT m (.map #[⟨.int .i64 1, avE (B, .slice va ps.length vc), bn⟩] clock), RowT 9 1 (.slice va ps.length vc) ps.length (txC ps), RowT 98 13 nv nn evs] ++ [BlkT r (.mapIter (some m) clock #[] clock)]))) ∨ (∃ g c a' c', lv = .slice (some ⟨g, 0, none⟩) 1 c ∧ Hid (St W wr (R.set i NilT ++ [BlkT K (knO m nv), BlkT m (.map #[⟨.int .i64 1, avE (B, .slice va ps.length vc), bn⟩] clock), RowT 9 1 (.slice va ps.length vc) ps.length (txC ps), RowT 98 13 nv nn evs] ++ [BlkT r (.mapIter (some m) clock (#[].push bn) clock), RowT 41 3 (.slice (some ⟨g, 0, none⟩) 1 c) 1 [.int .i64 1, .int .i64 B, .slice a' ps.length c'], RowT 9 1 (.slice a' ps.length c') ps.length (txC ps)])))) (fun lv _ => match lv with | .slice _ n _ => 1 - n | _ => 0)
  case atStart => exact .inl ⟨rfl, H3⟩
  case round =>
    rcases hrel with ⟨rfl, HQ⟩ | ⟨g, c, a', c', rfl, HQ⟩
    · have hbr := HQ.out.blk _ (get_behind _ _ 0)
      have hbm := HQ.out.blk ((R.set i NilT).length + 1) (by rw [List.append_assoc, get_behind]; rfl)
      obtain ⟨w2, hw2, hrun⟩ := next_one (P := Tryz.prog) wr 4 r m clock _ clock hbr hbm HBn.out
      have hW2 : St W w2 (R.set i NilT ++ [BlkT K (knO m nv), BlkT m (.map #[⟨.int .i64 1, avE (B, .slice va ps.length vc), bn⟩] clock), RowT 9 1 (.slice va ps.length vc) ps.length (txC ps), RowT 98 13 nv nn evs] ++ [BlkT r (.mapIter (some m) clock #[] clock)]) := by
        rcases hw2 with rfl | rfl
        · exact HQ.out
        · exact HQ.out.same ((Fr.refl _ _).drew)
      have hW3 := hW2.setBk _ (get_behind _ _ 0) (.mapIter (some m) clock (#[].push bn) clock)
      rw [set_bh] at hW3
      have hbr3 := hW3.blk _ (get_behind _ _ 0)
      have hbm3 := hW3.blk ((R.set i NilT).length + 1) (by rw [List.append_assoc, get_behind]; rfl)
      have hen := run_entry_at (P := Tryz.prog) _ r m clock #[] _ clock ⟨.int .i64 1, avE (B, .slice va ps.length vc), bn⟩ hbr3 hbm3 (by simp) (by simp)
      have hW3 := hid hW3
      have HRun := hid hrun
      generalize setBlock w2 r _ = w3 at hW3 hen HRun
      clear hbr hbm hbr3 hbm3 hrun hw2 hW2 HQ H3
      dsimp only [avE] at hen HRun
      go_wp2_with (at_next; refine wpNext1 rfl (.tmp 10) rfl r rfl _ _ HRun.out ?_)
      have H4 := hW3.out.alloc (.cells #[.int .i64 1, .int .i64 B, .slice va ps.length vc] 41)
      rw [List.append_assoc (R.set i NilT ++ [BlkT K (knO m nv), BlkT m (.map #[⟨.int .i64 1, avE (B, .slice va ps.length vc), bn⟩] clock), RowT 9 1 (.slice va ps.length vc) ps.length (txC ps), RowT 98 13 nv nn evs])] at H4
      have H4 : St W (w3.alloc (.cells #[.int .i64 1, .int .i64 B, .slice va ps.length vc] 41)) (R.set i NilT ++ [BlkT K (knO m nv), BlkT m (.map #[⟨.int .i64 1, avE (B, .slice va ps.length vc), bn⟩] clock), RowT 9 1 (.slice va ps.length vc) ps.length (txC ps), RowT 98 13 nv nn evs] ++ [BlkT r (.mapIter (some m) clock (#[].push bn) clock), BlkT w3.heap.size (.cells #[.int .i64 1, .int .i64 B, .slice va ps.length vc] 41)]) := H4
      refine (st_aclone H4 ((R.set i NilT).length + 2) (by rw [List.append_assoc, get_behind]; rfl) (by omega)).mono ?_
      rintro e w5 ⟨a', c', rfl, H5⟩
      rw [List.append_assoc (R.set i NilT ++ [BlkT K (knO m nv), BlkT m (.map #[⟨.int .i64 1, avE (B, .slice va ps.length vc), bn⟩] clock), RowT 9 1 (.slice va ps.length vc) ps.length (txC ps), RowT 98 13 nv nn evs])] at H5
      have b5 := H5.blk _ (get_behind _ _ 1)
      have z0 := cell_blk (i := 0) b5 rfl
      have z1 := cell_blk (i := 1) b5 rfl
      have z2 := cell_blk (i := 2) b5 rfl
      have f2 := free_blk (i := 2) b5
      have hgz := lt_of_block b5
      have H6 := H5.setBlk _ (get_behind _ _ 1) 2 (.slice a' ps.length c')
      rw [set_bh] at H6
      have H6 : St W (w5.setCell ⟨w3.heap.size, 2, none⟩ (.slice a' ps.length c')) (R.set i NilT ++ [BlkT K (knO m nv), BlkT m (.map #[⟨.int .i64 1, avE (B, .slice va ps.length vc), bn⟩] clock), RowT 9 1 (.slice va ps.length vc) ps.length (txC ps), RowT 98 13 nv nn evs] ++ [BlkT r (.mapIter (some m) clock (#[].push bn) clock), BlkT w3.heap.size (.cells #[.int .i64 1, .int .i64 B, .slice a' ps.length c'] 41), RowT 9 1 (.slice a' ps.length c') ps.length (txC ps)]) := H6
      have H7 := (H6.allocAt (.cells #[.int .i64 1, .int .i64 B, .slice a' ps.length c'] 41) w5.heap.size (by simp)).nilRow 41 3
      rw [List.append_assoc, List.append_assoc (R.set i NilT ++ [BlkT K (knO m nv), BlkT m (.map #[⟨.int .i64 1, avE (B, .slice va ps.length vc), bn⟩] clock), RowT 9 1 (.slice va ps.length vc) ps.length (txC ps), RowT 98 13 nv nn evs])] at H7
      have H7 : St W _ (R.set i NilT ++ [BlkT K (knO m nv), BlkT m (.map #[⟨.int .i64 1, avE (B, .slice va ps.length vc), bn⟩] clock), RowT 9 1 (.slice va ps.length vc) ps.length (txC ps), RowT 98 13 nv nn evs] ++ [BlkT r (.mapIter (some m) clock (#[].push bn) clock), BlkT w3.heap.size (.cells #[.int .i64 1, .int .i64 B, .slice a' ps.length c'] 41), RowT 9 1 (.slice a' ps.length c') ps.length (txC ps), BlkT w5.heap.size (.cells #[.int .i64 1, .int .i64 B, .slice a' ps.length c'] 41), RowT 41 3 (.slice none 0 0) 0 []]) := H7
      have hBI := hid (H7.blkIn ((R.set i NilT ++ [BlkT K (knO m nv), BlkT m (.map #[⟨.int .i64 1, avE (B, .slice va ps.length vc), bn⟩] clock), RowT 9 1 (.slice va ps.length vc) ps.length (txC ps), RowT 98 13 nv nn evs]).length + 3) 3 1 rfl (by decide) (by rw [get_behind]; rfl))
      have hex : ∃ (L7 : List Thing) (j7 : Nat), L7[j7]? = some (RowT 41 3 (.slice none 0 0) 0 []) ∧ (∀ x, L7.set j7 x = R.set i NilT ++ [BlkT K (knO m nv), BlkT m (.map #[⟨.int .i64 1, avE (B, .slice va ps.length vc), bn⟩] clock), RowT 9 1 (.slice va ps.length vc) ps.length (txC ps), RowT 98 13 nv nn evs] ++ [BlkT r (.mapIter (some m) clock (#[].push bn) clock), BlkT w3.heap.size (.cells #[.int .i64 1, .int .i64 B, .slice a' ps.length c'] 41), RowT 9 1 (.slice a' ps.length c') ps.length (txC ps), BlkT w5.heap.size (.cells #[.int .i64 1, .int .i64 B, .slice a' ps.length c'] 41), x]) ∧ St W _ L7 := ⟨_, (R.set i NilT ++ [BlkT K (knO m nv), BlkT m (.map #[⟨.int .i64 1, avE (B, .slice va ps.length vc), bn⟩] clock), RowT 9 1 (.slice va ps.length vc) ps.length (txC ps), RowT 98 13 nv nn evs]).length + 4, by rw [get_behind]; rfl, fun x => by rw [set_bh]; rfl, H7⟩
      obtain ⟨L7, j7, hJ, hLx, H7⟩ := hex
      have H7 := hid H7
      have hJ := hid hJ
      have hLx := hid hLx
      obtain ⟨i0, hi0, hz0, hz1, hz2⟩ := info_parts info_av
      have HI := hid (And.intro hi0 (And.intro hz0 (And.intro hz1 hz2)))
      clear hi0 hz0 hz1 hz2 b5 H5 H6 H4 hW3 hen HRun
      go_wp2_with (at_builtin; refine wpAdded H7.out j7 rfl (.tmp 19) (.tmp 21) 38 rfl 41 i0 avZ 3 40 Tryz.underlying38 HI.out.1 HI.out.2.1 HI.out.2.2.1 HI.out.2.2.2 rfl (by decide) (.slice none 0 0) 0 [] hJ.out rfl (some ⟨w5.heap.size, 0, none⟩) 1 1 (fun q => ([.int .i64 1, .int .i64 B, .slice a' ps.length c'] : List Value).getD q undef) rfl hBI.out (fun j hj => by (obtain rfl | rfl | rfl : j = 0 ∨ j = 1 ∨ j = 2 := by omega) <;> rfl) (by unfold maxLen; omega) (by omega) ?_)
      intro a5 c5 w8 H8
      have H8 : St W w8 (R.set i NilT ++ [BlkT K (knO m nv), BlkT m (.map #[⟨.int .i64 1, avE (B, .slice va ps.length vc), bn⟩] clock), RowT 9 1 (.slice va ps.length vc) ps.length (txC ps), RowT 98 13 nv nn evs] ++ [BlkT r (.mapIter (some m) clock (#[].push bn) clock), BlkT w3.heap.size (.cells #[.int .i64 1, .int .i64 B, .slice a' ps.length c'] 41), RowT 9 1 (.slice a' ps.length c') ps.length (txC ps), BlkT w5.heap.size (.cells #[.int .i64 1, .int .i64 B, .slice a' ps.length c'] 41), RowT 41 3 (.slice a5 1 c5) 1 [.int .i64 1, .int .i64 B, .slice a' ps.length c']]) := by rw [List.append_assoc]; exact H8
      obtain ⟨g9, c9, e9, _, _⟩ := ownsRow_shape (H8.row _ (get_behind _ _ 4)) (by omega)
      simp only [Value.slice.injEq, true_and] at e9
      obtain ⟨rfl, rfl⟩ := e9
      have H9 := hid (H8.pickEnd [0, 4, 2] (by decide) (by intro q hq; simp at hq ⊢; omega))
      clear H7 H8 z0 z1 z2 f2 hgz HI hJ hLx hBI
      go_wp2_with fail
      refine ⟨.inr ⟨g9, _, a', c', rfl, H9⟩, ?_⟩
      show (1 - 1 : Nat) < 1 - 0
      decide
    · have hbr := HQ.out.blk _ (get_behind _ _ 0)
      have hbm := HQ.out.blk ((R.set i NilT).length + 1) (by rw [List.append_assoc, get_behind]; rfl)
      have HN := hid (fun ty => next_none (P := Tryz.prog) _ ty _ _ _ _ _ _ clock hbr hbm (by simpa using HBn.out) (Nat.le_refl _) (leftOf_one _))
      have HE := hid (show St W wr (R ++ [RowT 41 3 (.slice (some ⟨g, 0, none⟩) 1 c) 1 [.int .i64 1, .int .i64 B, .slice a' ps.length c'], RowT 9 1 (.slice a' ps.length c') ps.length (txC ps)]) from by
        have h := HBk.out _ _ HQ.out
        exact h.pickEnd [1, 2] (by decide) (by intro q hq; simp at hq ⊢; omega))
      clear hbr hbm HQ H3
      go_wp2_with (at_next; refine wpNext1 rfl (.tmp 10) rfl r rfl _ _ HN.out ?_)
      refine (HSt.out _ _ _ _).mono ?_
      rintro e w2 ⟨rfl, rfl⟩
      go_wp2_with fail
      go_ret
      exact ⟨_, _, _, _, rfl, HE.out⟩
end

end Go.Proofs.YtkiccbjngokpjaaGreat

/-
  the artefacts of top: behind, of rows that are read; behindClaim.
-/
namespace Go.Proofs.YtkiccbjngokpjaaGreat
open Go.RowKit
set_option linter.unusedVariables false
set_option linter.unusedSimpArgs false

/-- Texts that are read: the k-th cell. -/
def TxIn (w : World) (a : Option Addr) (l : List ByteArray) : Prop := l.length ≤ maxLen ∧ ∀ k t, l[k]? = some t → ∃ g o, a = some ⟨g, o, none⟩ ∧ w.cell? ⟨g, o + k, none⟩ = some (.string t)
theorem TxIn.same {w w' : World} {a : Option Addr} {l : List ByteArray} (h : TxIn w a l) (hF : Fr [] w w') : TxIn w' a l := ⟨h.1, fun k t hk => by
  obtain ⟨g, o, e, hc⟩ := h.2 k t hk
  exact ⟨g, o, e, hF.cell0 hc⟩⟩
section
variable {W : Base} {w : World} {R : List Thing}
theorem St.txIn (H : St W w R) (i : Nat) {a : Option Addr} {n c : Nat} {l : List ByteArray} (hi : R[i]? = some (RowT 9 1 (.slice a n c) l.length (txC l))) (hn : l.length ≤ 1048576) : TxIn w a l := by
  refine ⟨Nat.le_trans hn (by decide), fun k t hk => ?_⟩
  have hl := (List.getElem?_eq_some_iff.1 hk).1
  have h1 := H.row i hi
  obtain ⟨g, cap, e1, _, _⟩ := ownsRow_shape h1 (by omega)
  simp only [Value.slice.injEq] at e1
  obtain ⟨rfl, rfl, rfl⟩ := e1
  refine ⟨g, 0, rfl, ?_⟩
  rw [Nat.zero_add]
  exact (ownsRow_cell h1 k (txC_at hk)).1
/-- What stands behind the claim. -/
theorem TxIn.tail {w : World} {g o : Nat} {t : ByteArray} {l : List ByteArray} (h : TxIn w (some ⟨g, o, none⟩) (t :: l)) : TxIn w (some ⟨g, o + 1, none⟩) l := ⟨Nat.le_trans (Nat.le_succ _) h.1, fun k u hk => by
  obtain ⟨g', o', e, hc⟩ := h.2 (k + 1) u (by simpa using hk)
  cases e
  refine ⟨g, o + 1, rfl, ?_⟩
  rw [Nat.add_assoc, Nat.add_comm 1 k]
  exact hc⟩
set_option maxHeartbeats 3200000 in
theorem behind_in (w : World) (a1 a2 : Option Addr) (c1 c2 : Nat) (got put : List ByteArray) (h1 : TxIn w a1 got) (h2 : TxIn w a2 put) (hb : ∀ (k : Nat) (t : ByteArray), got[k]? = some t → put[k]? = some t) :
    Calls Tryz.prog 8 #[.slice a1 got.length c1, .slice a2 put.length c2] w fun e w' => e = .returned (.bool true) ∧ Fr [] w w' := by
  have hmx : got.length ≤ 9223372036854775807 := Nat.le_trans h1.1 (by decide)
  have h1 := hid h1
  have h2 := hid h2
  have hb := hid hb
  obtain ⟨n, hn⟩ : ∃ n, got.length = n := ⟨_, rfl⟩
  rw [hn] at hmx ⊢
  have HN := hid hn
  have HMX := hid hmx
  clear hn hmx
  go_enter Tryz.func8, Tryz.ntmps8
  go_wp2_with fail
  go_loopw [5] (fun iv wr => ∃ q : Nat, q ≤ n ∧ iv = .int .i64 q ∧ Hid (Fr [] w wr)) (fun iv _ => n - (intOf iv).toNat)
  case atStart => exact ⟨0, Nat.zero_le _, rfl, Fr.refl _ _⟩
  case round =>
    obtain ⟨q, hq, rfl, HF⟩ := hrel
    by_cases hlt : q < n
    · obtain ⟨t, ht⟩ : ∃ t, got[q]? = some t := ⟨_, List.getElem?_eq_getElem (by rw [HN.out]; exact hlt)⟩
      have ht2 := hb.out q t ht
      have hl2 := (List.getElem?_eq_some_iff.1 ht2).1
      obtain ⟨g1, o1, rfl, y1⟩ := h1.out.2 q t ht
      obtain ⟨g2, o2, rfl, y2⟩ := h2.out.2 q t ht2
      have HK := hid (show ∀ wx, Fr [] wr wx → wx.cell? ⟨g1, o1 + q, none⟩ = some (.string t) ∧ wx.cell? ⟨g2, o2 + q, none⟩ = some (.string t) from fun wx hF => ⟨(HF.out.trans hF).cell0 y1, (HF.out.trans hF).cell0 y2⟩)
      have hlt2 : (q : Int) < n := by omega
      have b1 : decide (put.length ≤ q) = false := by simp; omega
      have b2 : (q : Int) < put.length := by omega
      have HL := hid (And.intro hlt hq)
      have hq8 := HMX.out
      clear ht ht2 hl2 y1 y2 hlt hq
      go_wp2_with fail
      refine wp_region_calm (S := fun wx : World => Fr [] wr wx) (by kernel_rfl) (by kernel_rfl) ((Fr.refl _ _).drew) ?_
      repeat (first | (refine calmRow_free (v := ?_) rfl ?_ ?_; rotate_left; (focus (intro wx hSx; (try dsimp only at hSx); have hcx := HK.out wx hSx; go_simp; (first | with_reducible rfl | exact ⟨rfl, hSx⟩ | fail))); (try simp only [Act.put, List.setIfInBounds_toArray, List.set_cons_zero, List.set_cons_succ])) | (refine calmRow_skip ?_ ?_; (focus (go_simp; (try (intro hx; cases hx)); done)); (try simp only [Act.put, List.setIfInBounds_toArray, List.set_cons_zero, List.set_cons_succ])) | (refine calmRow_take (v := ?_) ?_ ?_ ?_; rotate_left; (focus (go_simp; done)); (focus (intro wx hSx; (try dsimp only at hSx); have hcx := HK.out wx hSx; go_simp; (first | with_reducible rfl | exact ⟨rfl, hSx⟩ | fail))); (try simp only [Act.put, List.setIfInBounds_toArray, List.set_cons_zero, List.set_cons_succ])))
      refine calmRow_nil ?_
      intro wn hFx
      try dsimp only at hFx
      go_wp2_with fail
      have hq1 : (q : Int) + 1 = ((q + 1 : Nat) : Int) := by omega
      refine ⟨⟨q + 1, by have := HL.out.1; omega, by rw [hq1], HF.out.trans hFx⟩, ?_⟩
      show n - ((q : Int) + 1).toNat < n - (q : Int).toNat
      have := HL.out.1
      omega
    · obtain rfl : q = n := by omega
      clear hlt hq
      go_wp2_with fail
      go_ret
      exact ⟨rfl, HF.out⟩
/-- Where the tail begins. -/
def bcO (o c : Nat) : Nat := if c = 1 then o else o + 1
theorem bclaim (w : World) (g o n c : Nat) (hc : n + 1 ≤ c) (hm : c ≤ 9223372036854775807) : Calls Tryz.prog 9 #[.slice (some ⟨g, o, none⟩) (n + 1) c] w fun e w' => e = .returned (.slice (some ⟨g, bcO o c, none⟩) n (c - 1)) ∧ w = w' := by
  have hz : (((n + 1 : Nat) : Int) == 0) = false := by rw [beq_eq_false_iff_ne]; omega
  go_enter Tryz.func9, Tryz.ntmps9
  by_cases h1 : c = 1
  · subst h1
    obtain rfl : n = 0 := by omega
    go_wp2
    go_ret
    exact ⟨rfl, rfl⟩
  · have hb : bcO o c = o + 1 := by unfold bcO; rw [if_neg h1]
    rw [hb]
    clear hb
    go_wp2
    go_ret
    exact ⟨rfl, rfl⟩
theorem TxIn.claim {w : World} {g o : Nat} {t : ByteArray} {l : List ByteArray} (h : TxIn w (some ⟨g, o, none⟩) (t :: l)) (c : Nat) (hc : l.length + 1 ≤ c) : TxIn w (some ⟨g, bcO o c, none⟩) l := by
  unfold bcO
  split
  · have hl : l.length = 0 := by omega
    refine ⟨by omega, fun k u hk => ?_⟩
    have := (List.getElem?_eq_some_iff.1 hk).1
    omega
  · exact h.tail
end

end Go.Proofs.YtkiccbjngokpjaaGreat

/-
  the artefacts of top: what the law notes, plainly.
-/
namespace Go.Proofs.YtkiccbjngokpjaaGreat
open Go.RowKit
set_option linter.unusedVariables false
set_option linter.unusedSimpArgs false

theorem Kn.B_put {k : Kn} {b i : Nat} {t : ByteArray} (hl : k.low b = false) : k.B ≤ (k.put b i t).B := by
  unfold Kn.put
  split
  · unfold Kn.add
    split
    · rw [kn_low_B] at hl
      show k.B ≤ b
      simp at hl
      exact hl
    · unfold Kn.B
      rcases hh : k.held with _ | p
      · simp
      · rw [kn_low_B] at hl
        unfold Kn.B at hl
        rw [hh] at hl
        simpa using hl
  · exact Nat.le_refl _
theorem Am.comes_B (x : Am) (p : Pz) : x.k.B ≤ (x.comes p).k.B := by
  cases p with
  | took b c => rw [Am.comes_took]; split <;> exact Nat.le_refl _
  | refused b => exact Nat.le_refl _
  | put b i t =>
    rw [Am.comes_put_]
    rcases hl : x.k.low b with _ | _
    · rw [if_neg (by decide)]; exact Kn.B_put hl
    · rw [if_pos rfl]; exact Nat.le_refl _
theorem Am.dlv_B (x : Am) (k : Nat) : x.k.B ≤ (x.dlv k).k.B := by
  unfold Am.dlv
  rcases x.bag[k]? with _ | p
  · exact Nat.le_refl _
  · exact Am.comes_B (x.drop k) p.2
theorem Am.doesT_B (x : Am) (kind n : Int) (t : ByteArray) : x.k.B ≤ (x.doesT kind n t).k.B := by
  unfold Am.doesT
  split
  · split <;> exact Nat.le_refl _
  · split
    · rw [Am.says_k]; exact Nat.le_refl _
    · split
      · exact Am.dlv_B _ _
      · split
        · exact Nat.le_refl _
        · split
          · rcases x.bag[x.place n]? with _ | p
            · exact Nat.le_refl _
            · exact Nat.le_refl _
          · split
            · exact Nat.le_refl _
            · exact Nat.le_refl _
theorem Am.doesT_wr (x : Am) (kind n : Int) (t : ByteArray) : (x.doesT kind n t).s.win = x.s.win ∧ (x.doesT kind n t).s.res = x.s.res := by
  unfold Am.doesT
  split
  · split
    · exact ⟨rfl, rfl⟩
    · exact ⟨rfl, rfl⟩
  · split
    · rw [Am.says_s]
      exact (Sn.due_texts x.tick.s).2.2
    · split
      · unfold Am.dlv
        rcases x.bag[x.place n]? with _ | p
        · exact ⟨rfl, rfl⟩
        · have h := Am.comes_is (x.drop (x.place n)) p.2
          exact ⟨h.2.1, h.2.2.1⟩
      · split
        · exact ⟨rfl, rfl⟩
        · split
          · rcases x.bag[x.place n]? with _ | p
            · exact ⟨rfl, rfl⟩
            · exact ⟨rfl, rfl⟩
          · split
            · exact ⟨rfl, rfl⟩
            · exact ⟨rfl, rfl⟩
theorem Am.doesT_olds (x : Am) {kind : Int} (n : Int) (t : ByteArray) (h6 : kind ≠ 6) : (x.doesT kind n t).olds = x.olds := by
  unfold Am.doesT
  split
  · split <;> rfl
  · split
    · exact Am.says_olds _
    · split
      · unfold Am.dlv
        rcases x.bag[x.place n]? with _ | p
        · rfl
        · exact (Am.comes_is (x.drop (x.place n)) p.2).2.2.2.2.2.2
      · split
        · rfl
        · split
          · rcases x.bag[x.place n]? with _ | p
            · rfl
            · rfl
          · rfl
theorem Am.doesT_6 (x : Am) (n : Int) (t : ByteArray) : x.doesT 6 n t = x.begins := by
  unfold Am.doesT
  rw [if_neg (by decide), if_neg (by decide), if_neg (by decide), if_neg (by decide), if_neg (by decide), if_pos rfl]

/-- A stream behind q happenings. -/
structure AmI (win res q : Nat) (x : Am) : Prop where
  ok : x.ok
  rc : x.rcOk
  bg : x.bag.length ≤ 8 * q
  od : x.olds.length ≤ q
  wn : x.s.win = win
  rs : x.s.res = res
theorem AmI.does {win res q : Nat} {x : Am} (h : AmI win res q x) (kind n : Int) (t : ByteArray) : AmI win res (q + 1) (x.does kind n t) := by
  obtain ⟨h1, h2⟩ := Am.doesT_len h.ok kind n t
  have h3 := h.bg
  have h4 := h.od
  refine ⟨h.ok.does h.rc kind n t, Am.does_rc _ _ _ _, ?_, ?_, (Am.doesT_wr x kind n t).1.trans h.wn, (Am.doesT_wr x kind n t).2.trans h.rs⟩
  · show (x.doesT kind n t).bag.length ≤ _
    omega
  · show (x.doesT kind n t).olds.length ≤ _
    omega
theorem AmI.new {win res : Nat} (h1 : 1 ≤ win) (h2 : win ≤ 8) (h3 : 1 ≤ res) (h4 : res ≤ 16) : AmI win res 0 (.new win res) := ⟨Am.new_ok h1 h2 h3 h4, .inr rfl, Nat.le_refl _, Nat.le_refl _, rfl, rfl⟩
theorem Am.rounds_succ (j : Nat) (x : Am) : Am.rounds (j + 1) x = (Am.rounds j x).round := by rw [Am.rounds_add j 1]; rfl
theorem Am.ok.few_rounds {x : Am} (h : x.ok) {B : Nat} (hf : x.few B) (j : Nat) : (Am.rounds j x).few B := by
  induction j generalizing x with
  | zero => exact hf
  | succ j ih => exact ih h.round (h.few_round hf)

/-! ### The rows of those before -/
def zipT : List Value → List (List ByteArray) → List Thing
  | v :: vs, l :: ls => RowT 9 1 v l.length (txC l) :: zipT vs ls
  | _, _ => []
theorem zipT_get : ∀ (vs : List Value) (ls : List (List ByteArray)) (k : Nat) (v : Value) (l : List ByteArray), vs[k]? = some v → ls[k]? = some l → (zipT vs ls)[k]? = some (RowT 9 1 v l.length (txC l))
  | [], _, k, v, l, h, _ => by simp at h
  | _ :: _, [], k, v, l, _, h => by simp at h
  | a :: vs, b :: ls, 0, v, l, h1, h2 => by
    simp at h1 h2
    subst h1 h2
    rfl
  | a :: vs, b :: ls, k + 1, v, l, h1, h2 => by
    show (zipT vs ls)[k]? = _
    exact zipT_get vs ls k v l (by simpa using h1) (by simpa using h2)
theorem zipT_snoc : ∀ (vs : List Value) (ls : List (List ByteArray)) (v : Value) (l : List ByteArray), vs.length = ls.length → zipT (vs ++ [v]) (ls ++ [l]) = zipT vs ls ++ [RowT 9 1 v l.length (txC l)]
  | [], [], v, l, _ => rfl
  | [], _ :: _, v, l, h => by simp at h
  | _ :: _, [], v, l, h => by simp at h
  | a :: vs, b :: ls, v, l, h => by
    show _ :: zipT (vs ++ [v]) (ls ++ [l]) = _
    rw [zipT_snoc vs ls v l (by simpa using h)]
    rfl
abbrev nilS : Value := .slice none 0 0
/-- What the law has noted: all's row. -/
def alls (ov : List Value) (z : Value) : List Value := (nilS :: ov) ++ [z]
theorem alls_len (ov : List Value) (z : Value) : (alls ov z).length = ov.length + 2 := by simp [alls]
theorem alls_set (ov : List Value) (z u : Value) : (alls ov z).set (ov.length + 1) u = alls ov u := by
  unfold alls
  rw [List.set_append_right _ _ (by simp)]
  simp
theorem alls_old {ov : List Value} {z : Value} {k : Nat} (h : k < ov.length) : (alls ov z)[k + 1]? = ov[k]? := by
  unfold alls
  rw [List.getElem?_append_left (by simp; omega)]
  rfl
theorem alls_cur (ov : List Value) (z : Value) : (alls ov z)[ov.length + 1]? = some z := by
  unfold alls
  rw [List.getElem?_append_right (by simp)]
  simp

/-- What a sink has of a badge: the beginning of what its writer has put. -/
theorem Am.ok.held_is {x : Am} (h : x.ok) {B : Nat} {ps : List ByteArray} (hh : x.k.held = some (B, ps)) : 1 ≤ B ∧ B ≤ x.badge ∧ ∃ r, x.allOf B = ⟨#[]⟩ :: r ∧ ∀ (k : Nat) (t : ByteArray), ps[k]? = some t → r[k]? = some t := by
  obtain ⟨h1, h2, h3⟩ := h.kn B ps hh
  refine ⟨h1, h2, ?_⟩
  rcases ha : x.allOf B with _ | ⟨a, r⟩
  · rw [ha] at h3; simp at h3
  · rw [ha, List.take_succ_cons] at h3
    simp only [List.cons.injEq] at h3
    obtain ⟨rfl, h4⟩ := h3
    refine ⟨r, rfl, fun k t hk => ?_⟩
    rw [← h4, List.getElem?_take] at hk
    split at hk
    · exact hk
    · cases hk
theorem Am.allOf_noted (x : Am) (B : Nat) : x.noted.allOf B = x.allOf B := rfl

end Go.Proofs.YtkiccbjngokpjaaGreat

/-
  the artefacts of top: the rows that the law notes, as things.
-/
namespace Go.Proofs.YtkiccbjngokpjaaGreat
open Go.RowKit
set_option linter.unusedVariables false
set_option linter.unusedSimpArgs false

theorem info_ss : (Tryz.prog.info? 32).map (fun i => (i.zero, i.size, i.bytes)) = some (some (.slice none 0 0), 1, 24) := by kernel_rfl
section
variable {W : Base} {w : World} {R : List Thing}
/-- A row of one cell is made. -/
theorem St.row1 (H : St W w R) (e : TypeId) (v : Value) : St W (w.alloc (.cells #[v] e)) (R ++ [RowT e 1 (.slice (some ⟨w.heap.size, 0, none⟩) 1 1) 1 [v]]) :=
  H.new (A := Row1 e 1 (.slice (some ⟨w.heap.size, 0, none⟩) 1 1) 1 [v]) (F := [w.heap.size]) ((Fr.refl _ _).alloc _) inferInstance ⟨rfl, ⟨by simp, Or.inr ⟨_, _, #[v], rfl, Nat.zero_le _, blk_alloc_at _ _ _ rfl, by simp, by decide, by simp, by simp⟩⟩⟩ (by simp)

/-- How the rows stand with what was noted. -/
def Noted (x : Am) (pv : Value) (ov vs : List Value) : Prop := ov.length = x.olds.length ∧ (vs = alls ov pv ∧ x.nt = x.s.texts ∨ vs = [nilS] ∧ x.olds = [] ∧ x.nt = [])
theorem am_rows {X S K N nn : Nat} {x : Am} {pv pv' : Value} {A : Thing} {ov vs : List Value} (hn : Noted x pv ov vs) {kind n : Int} {t : ByteArray}
    (H : St W w (amL X S K N (x.doesT kind n t) pv' nn ++ (if kind = 6 then (A :: zipT ov x.olds) ++ [RowT 9 1 pv x.s.texts.length (txC x.s.texts)] else A :: zipT ov x.olds))) :
    ∃ ov' z, St W w (amL X S K N (x.doesT kind n t) pv' nn ++ (A :: zipT ov' (x.doesT kind n t).olds)) ∧ ov'.length = (x.doesT kind n t).olds.length ∧ vs ++ List.replicate (ov'.length + 2 - vs.length) nilS = alls ov' z ∧ vs.length ≤ ov'.length + 2 ∧ 1 ≤ vs.length := by
  obtain ⟨h1, h2⟩ := hn
  by_cases h6 : kind = 6
  · subst h6
    rw [if_pos rfl] at H
    have ho : (x.doesT 6 n t).olds = x.olds ++ [x.nt] := by rw [Am.doesT_6]; rfl
    rw [ho]
    rcases h2 with ⟨rfl, h3⟩ | ⟨rfl, h3, h4⟩
    · refine ⟨ov ++ [pv], nilS, ?_, by simp [h1], ?_, by simp [alls], by simp [alls]⟩
      · rw [zipT_snoc ov x.olds pv x.nt h1, h3]
        exact H
      · have e : (ov ++ [pv]).length + 2 - (alls ov pv).length = 1 := by simp [alls]
        rw [e]
        simp [alls]
    · rw [h3] at h1
      have h0 : ov = [] := List.length_eq_zero_iff.1 h1
      subst h0
      rw [h3] at H ⊢
      rw [h4]
      refine ⟨[nilS], nilS, ?_, rfl, rfl, by simp, by simp⟩
      have h5 : St W w ((amL X S K N (x.doesT 6 n t) pv' nn ++ [A]) ++ [RowT 9 1 pv x.s.texts.length (txC x.s.texts)]) := by
        rw [List.append_assoc]
        exact H
      have h6 := h5.drop.nilRow 9 1
      rw [List.append_assoc] at h6
      exact h6
  · rw [if_neg h6] at H
    have ho := Am.doesT_olds x n t h6
    rw [ho]
    rcases h2 with ⟨rfl, h3⟩ | ⟨rfl, h3, h4⟩
    · refine ⟨ov, pv, H, h1, ?_, by simp [alls], by simp [alls]⟩
      have e : ov.length + 2 - (alls ov pv).length = 0 := by simp [alls]
      rw [e]
      simp
    · rw [h3] at h1
      have h0 : ov = [] := List.length_eq_zero_iff.1 h1
      subst h0
      exact ⟨[], nilS, H, by rw [h3]; rfl, rfl, by simp, by simp⟩

/-- What was noted of the badge that the sink has. -/
theorem all_at {X S K N nn : Nat} {x : Am} {pv : Value} {A : Thing} {ov : List Value} (H : St W w (amL X S K N x pv nn ++ (A :: zipT ov x.olds))) (ho : ov.length = x.olds.length) (hx : x.ok) {B : Nat} {ps : List ByteArray} (hh : x.k.held = some (B, ps)) :
    ∃ (r : List ByteArray) (aB : Nat) (cB : Nat), (alls ov pv)[B]? = some (.slice (some ⟨aB, 0, none⟩) (r.length + 1) cB) ∧ r.length + 1 ≤ cB ∧ cB ≤ maxLen ∧ (∀ (k : Nat) (t : ByteArray), ps[k]? = some t → r[k]? = some t) ∧ TxIn w (some ⟨aB, 0, none⟩) (⟨#[]⟩ :: r) := by
  obtain ⟨h1, h2, r, h3, h4⟩ := hx.held_is hh
  have htx := (hx.tx B).1
  rw [h3] at htx
  have htx : r.length + 1 ≤ 17 := htx
  by_cases hB : B = x.badge
  · subst hB
    rw [Am.allOf_cur] at h3
    have hrow := H.row 4 rfl
    obtain ⟨g, c, e, hc1, hc2⟩ := ownsRow_shape hrow (by rw [h3]; exact Nat.succ_pos _)
    have hti := H.txIn 4 (a := some ⟨g, 0, none⟩) (n := x.s.texts.length) (c := c) (l := x.s.texts) (by rw [← e]; rfl) (by rw [h3]; simp only [List.length_cons]; omega)
    rw [h3] at hti e hc1
    refine ⟨r, g, c, ?_, hc1, hc2, h4, hti⟩
    have e2 : x.badge = ov.length + 1 := by unfold Am.badge; rw [ho]
    rw [e2, alls_cur, e]
    rfl
  · have hlt : B - 1 < x.olds.length := by unfold Am.badge at h2 hB; omega
    have ho2 : x.olds[B - 1]? = some (⟨#[]⟩ :: r) := by
      unfold Am.allOf at h3
      rw [if_neg (by unfold Am.badge at hB; exact hB), List.getD_eq_getElem?_getD, List.getElem?_eq_getElem hlt] at h3
      rw [List.getElem?_eq_getElem hlt]
      exact congrArg some h3
    have hv : ov[B - 1]? = some (ov[B - 1]'(by omega)) := List.getElem?_eq_getElem (by omega)
    generalize ov[B - 1]'(by omega) = vB at hv
    have hz := zipT_get _ _ _ _ _ hv ho2
    have hi : (amL X S K N x pv nn ++ (A :: zipT ov x.olds))[6 + (B - 1)]? = some (RowT 9 1 vB (⟨#[]⟩ :: r : List ByteArray).length (txC (⟨#[]⟩ :: r))) := by
      rw [List.getElem?_append_right (by simp; omega)]
      have e : 6 + (B - 1) - (amL X S K N x pv nn).length = (B - 1) + 1 := by simp; omega
      rw [e, List.getElem?_cons_succ]
      exact hz
    obtain ⟨g, c, e, hc1, hc2⟩ := ownsRow_shape (H.row _ hi) (Nat.succ_pos _)
    subst e
    have hti := H.txIn _ (a := some ⟨g, 0, none⟩) hi (by simp only [List.length_cons]; omega)
    refine ⟨r, g, c, ?_, hc1, hc2, h4, hti⟩
    have e2 : B = (B - 1) + 1 := by omega
    rw [e2, alls_old (by omega), hv]
    rfl
end

end Go.Proofs.YtkiccbjngokpjaaGreat
