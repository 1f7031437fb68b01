/-
  'played' of layer 4: a script's calls, over a disk, the document's, and their clones.
-/
import Derived.Test.YtkkahkgjedgjnaaAnswers2
import Derived.Test.YtkkahkgjedgjnaaSep2
import Derived.Test.YtkkahkgjedgjnaaIn
namespace Go.Proofs.Ytkkahkgjedgjnaa
open Go.RowKit
set_option linter.unusedVariables false
set_option linter.unusedSimpArgs false

structure P3 where
  D : Nat
  X : Nat
  d : DS

def thingsOf : List P3 → List Thing
  | [] => []
  | p :: r => DkT p.D p.d :: XkT p.X p.d :: thingsOf r
def pairCells : List P3 → List Value
  | [] => []
  | p :: r => .pointer (some ⟨p.D, 0, none⟩) :: .pointer (some ⟨p.X, 0, none⟩) :: pairCells r

theorem thingsOf_get {ps : List P3} {k : Nat} {p : P3} (h : ps[k]? = some p) : (thingsOf ps)[2 * k]? = some (DkT p.D p.d) ∧ (thingsOf ps)[2 * k + 1]? = some (XkT p.X p.d) := by
  induction ps generalizing k with
  | nil => simp at h
  | cons q r ih =>
    match k with
    | 0 => simp at h; subst h; exact ⟨rfl, rfl⟩
    | k + 1 => exact ih (by simpa using h)
theorem thingsOf_set (ps : List P3) (k : Nat) (p : P3) : ((thingsOf ps).set (2 * k) (DkT p.D p.d)).set (2 * k + 1) (XkT p.X p.d) = thingsOf (ps.set k p) := by
  induction ps generalizing k with
  | nil => rfl
  | cons q r ih =>
    match k with
    | 0 => rfl
    | k + 1 => exact congrArg (fun l => DkT q.D q.d :: XkT q.X q.d :: l) (ih k)
theorem thingsOf_snoc (ps : List P3) (p : P3) : thingsOf ps ++ [DkT p.D p.d] ++ [XkT p.X p.d] = thingsOf (ps ++ [p]) := by
  induction ps with
  | nil => rfl
  | cons q r ih => exact congrArg (fun l => DkT q.D q.d :: XkT q.X q.d :: l) ih
theorem pairCells_get {ps : List P3} {k : Nat} {p : P3} (h : ps[k]? = some p) : (pairCells ps)[k * 2]? = some (.pointer (some ⟨p.D, 0, none⟩)) ∧ (pairCells ps)[k * 2 + 1]? = some (.pointer (some ⟨p.X, 0, none⟩)) := by
  induction ps generalizing k with
  | nil => simp at h
  | cons q r ih =>
    match k with
    | 0 => simp at h; subst h; exact ⟨rfl, rfl⟩
    | k + 1 =>
      have := ih (k := k) (by simpa using h)
      rw [show (k + 1) * 2 = k * 2 + 1 + 1 by omega]
      exact this
theorem pairCells_snoc (ps : List P3) (p : P3) : pairCells ps ++ [.pointer (some ⟨p.D, 0, none⟩), .pointer (some ⟨p.X, 0, none⟩)] = pairCells (ps ++ [p]) := by
  induction ps with
  | nil => rfl
  | cons q r ih => exact congrArg (fun l => Value.pointer (some ⟨q.D, 0, none⟩) :: .pointer (some ⟨q.X, 0, none⟩) :: l) ih
theorem pairCells_set (ps : List P3) (k : Nat) (p q : P3) (h : ps[k]? = some p) (hD : q.D = p.D) (hX : q.X = p.X) : pairCells (ps.set k q) = pairCells ps := by
  induction ps generalizing k with
  | nil => rfl
  | cons a r ih =>
    match k with
    | 0 => simp at h; subst h; simp [pairCells, hD, hX]
    | k + 1 => exact congrArg (fun l => Value.pointer (some ⟨a.D, 0, none⟩) :: .pointer (some ⟨a.X, 0, none⟩) :: l) (ih k (by simpa using h))

theorem info_pair04 : (Try.prog.info? 74).map (fun i => (i.zero, i.size, i.bytes)) = some (some (.agg #[.pointer none, .pointer none]), 2, 16) := by kernel_rfl

/-- What played's loop keeps. -/
structure PInv (w0 wr : World) (v : Value) (n k : Nat) (ps : List P3) : Prop where
  st : St (.of w0) wr (RowT 74 2 v ps.length (pairCells ps) :: thingsOf ps)
  ok : ∀ p, p ∈ ps → p.d.wf ∧ p.d.raw.length ≤ k
  l1 : 1 ≤ ps.length
  l2 : ps.length ≤ 8

/-- One pair by itself. -/
theorem PInv.one {w0 wr : World} {v : Value} {n k j : Nat} {ps : List P3} {p : P3} (h : PInv w0 wr v n k ps) (hj : ps[j]? = some p) :
    ∃ V : Base, St V wr [DkT p.D p.d, XkT p.X p.d] ∧ ∀ (w' : World) (d' : DS), St V w' [DkT p.D d', XkT p.X d'] → d'.wf → d'.raw.length ≤ k + 1 → PInv w0 w' v n (k + 1) (ps.set j ⟨p.D, p.X, d'⟩) := by
  obtain ⟨h1, h2⟩ := thingsOf_get hj
  obtain ⟨V, _, hV, hb⟩ := h.st.two (i := 2 * j + 1) (j := 2 * j + 1 + 1) (by simpa using h1) (by simpa using h2) (by omega)
  refine ⟨V, hV, fun w' d' h' hwf hl => ⟨?_, fun q hq => ?_, by simpa using h.l1, by simpa using h.l2⟩⟩
  · have := hb w' _ _ h'
    simp only [List.set_cons_succ] at this
    rw [show 2 * j + 1 = 2 * j + 1 from rfl] at this
    rw [thingsOf_set ps j ⟨p.D, p.X, d'⟩] at this
    rw [pairCells_set ps j p ⟨p.D, p.X, d'⟩ hj rfl rfl]
    simpa using this
  · rcases List.mem_or_eq_of_mem_set hq with h5 | h5
    · have := h.ok q h5; exact ⟨this.1, by omega⟩
    · subst h5; exact ⟨hwf, hl⟩

set_option maxHeartbeats 6400000 in
set_option maxRecDepth 100000 in
theorem played_any {w0 w : World} {D X : Nat} {d : DS} (H : St (.of w0) w [DkT D d, XkT X d]) (hw : d.wf) (hr : d.raw.length = 0)
    (s : Option Addr) (ns cs : Nat) (U : Nat → Value) (hT : SlIn w0 5 48 s ns cs U) (hq0 : ∀ i, i < ns → I64 (U (i * 5))) (hq1 : ∀ i, i < ns → I64 (U (i * 5 + 1))) (hq2 : ∀ i, i < ns → I64 (U (i * 5 + 2))) (hq3 : ∀ i, i < ns → I64 (U (i * 5 + 3))) (hq4 : ∀ i, i < ns → Str (U (i * 5 + 4))) :
    Calls Try.prog 39 #[.agg #[.pointer (some ⟨D, 0, none⟩), .pointer (some ⟨X, 0, none⟩)], .slice s ns cs] w fun e w' => e = .returned (.bool true) ∧ Fr [] w0 w' := by
  have hms := hT.mx
  have hls := hT.le
  have hrc := hT.rch
  have HT := hid hT
  have HQ := hid (And.intro hq0 (And.intro hq1 (And.intro hq2 (And.intro hq3 hq4))))
  obtain ⟨i0, hi, hz0, hz1, hz2⟩ := info_parts info_pair04
  have HI := hid (And.intro hi (And.intro hz0 (And.intro hz1 hz2)))
  clear hq0 hq1 hq2 hq3 hq4 hT hi hz0 hz1 hz2
  go_enter Try.func39, Try.ntmps39
  go_wp2_with fail
  have H1 : St (.of w0) ((w.alloc (.cells #[.pointer (some ⟨D, 0, none⟩), .pointer (some ⟨X, 0, none⟩)] 74)).alloc (.cells #[.pointer (some ⟨D, 0, none⟩), .pointer (some ⟨X, 0, none⟩)] 74)) ([DkT D d, XkT X d] ++ [RowT 74 2 (.slice (some ⟨w.heap.size + 1, 0, none⟩) 1 1) 1 (pairCells [⟨D, X, d⟩])]) :=
    (H.alloc_ (.cells #[.pointer (some ⟨D, 0, none⟩), .pointer (some ⟨X, 0, none⟩)] 74)).new ((Fr.refl _ _).alloc _) inferInstance (F := [w.heap.size + 1]) ⟨rfl, by simp [pairCells], .inr ⟨w.heap.size + 1, 1, _, rfl, Nat.zero_le _, blk_alloc_at _ _ _ (by simp), Nat.le_refl _, by decide, rfl, rfl⟩⟩ (by simp)
  have hP : PInv w0 ((w.alloc (.cells #[.pointer (some ⟨D, 0, none⟩), .pointer (some ⟨X, 0, none⟩)] 74)).alloc (.cells #[.pointer (some ⟨D, 0, none⟩), .pointer (some ⟨X, 0, none⟩)] 74)) (.slice (some ⟨w.heap.size + 1, 0, none⟩) 1 1) ns 0 [⟨D, X, d⟩] :=
    ⟨H1.pick [2, 0, 1] (by decide) rfl (by intro k i hk; match k with | 0 => cases hk; rfl | 1 => cases hk; rfl | 2 => cases hk; rfl | k + 3 => simp at hk), by intro p hp; simp at hp; subst hp; exact ⟨hw, by simp [hr]⟩, by simp, by simp⟩
  have HP := hid hP
  clear H H1 hP hw hr
  go_loopw [5, 6] (fun v i wr => ∃ (k : Nat) (ps : List P3), k ≤ ns ∧ i = .int .i64 k ∧ (∃ g cap, v = .slice (some ⟨g, 0, none⟩) ps.length cap) ∧ PInv w0 wr v ns k ps) (fun _ i _ => ns - (intOf i).toNat)
  case atStart => exact ⟨0, _, Nat.zero_le _, rfl, ⟨_, _, rfl⟩, HP.out⟩
  case round =>
    obtain ⟨k, ps, hk, rfl, ⟨g, cap, rfl⟩, hinv⟩ := hrel
    have HV := hid hinv
    have hl1 := hinv.l1
    have hl2 := hinv.l2
    clear HP hinv
    by_cases hlt : k < ns
    · obtain ⟨bb, ob, rfl⟩ := HT.out.sm (by omega)
      have hF := HV.out.st.fr
      have d0 := hF.cell0 (HT.out.cell bb ob rfl (k * 5) (by omega))
      have d1 := hF.cell0 (HT.out.cell bb ob rfl (k * 5 + 1) (by omega))
      have d2 := hF.cell0 (HT.out.cell bb ob rfl (k * 5 + 2) (by omega))
      have d3 := hF.cell0 (HT.out.cell bb ob rfl (k * 5 + 3) (by omega))
      have d4 := hF.cell0 (HT.out.cell bb ob rfl (k * 5 + 4) (by omega))
      obtain ⟨on, e0, on1, on2⟩ := HQ.out.1 k hlt
      obtain ⟨kind, e1, _, _⟩ := HQ.out.2.1 k hlt
      obtain ⟨a, e2, _, a2⟩ := HQ.out.2.2.1 k hlt
      obtain ⟨b, e3, _, _⟩ := HQ.out.2.2.2.1 k hlt
      obtain ⟨t, e4, _⟩ := HQ.out.2.2.2.2 k hlt
      rw [e0] at d0
      rw [e1, ← Nat.add_assoc] at d1
      rw [e2, ← Nat.add_assoc] at d2
      rw [e3, ← Nat.add_assoc] at d3
      rw [e4, ← Nat.add_assoc] at d4
      have hpl := place04 on ps.length wr on1 on2 (by omega) (by omega)
      obtain ⟨j, hj⟩ : ∃ j : Nat, on % (ps.length : Int) = j := ⟨(on % (ps.length : Int)).toNat, by have := Int.emod_nonneg on (show (ps.length : Int) ≠ 0 by omega); omega⟩
      have hjl : j < ps.length := by have := Int.emod_lt_of_pos on (show 0 < (ps.length : Int) by omega); omega
      rw [hj] at hpl
      have HPL := hid hpl
      obtain ⟨p, hp⟩ : ∃ p, ps[j]? = some p := ⟨_, List.getElem?_eq_getElem hjl⟩
      obtain ⟨u1, u2⟩ := pairCells_get hp
      have r0 := (ownsRow_cell (HV.out.st.row 0 rfl) _ u1).1
      have r1 := (ownsRow_cell (HV.out.st.row 0 rfl) _ u2).1
      have HJ := hid (And.intro hp (And.intro e0 (And.intro e1 (And.intro e2 (And.intro e3 e4)))))
      have HF := hid hF
      clear e0 e1 e2 e3 e4 hpl hj hp u1 u2 hF
      go_wp2_with fail
      refine HPL.out.mono ?_
      rintro e w1 ⟨rfl, rfl⟩
      go_wp2_with fail
      obtain ⟨V, hV, hback⟩ := HV.out.one HJ.out.1
      have hVB : St V (wr.alloc (.cells #[.pointer (some ⟨p.D, 0, none⟩), .pointer (some ⟨p.X, 0, none⟩)] 74)) [DkT p.D p.d, XkT p.X p.d, BlkT wr.heap.size (.cells #[.pointer (some ⟨p.D, 0, none⟩), .pointer (some ⟨p.X, 0, none⟩)] 74)] := hV.alloc _
      obtain ⟨V2, _, hV2, hb2⟩ := hVB.two (i := 0) (j := 1) rfl rfl (by decide)
      have hwp := HV.out.ok p (List.mem_of_getElem? HJ.out.1)
      have hFB : Fr [] wr (wr.alloc (.cells #[.pointer (some ⟨p.D, 0, none⟩), .pointer (some ⟨p.X, 0, none⟩)] 74)) := (Fr.refl _ _).alloc _
      have z0 := hFB.cell0 d0
      have z1 := hFB.cell0 d1
      have z2 := hFB.cell0 d2
      have z3 := hFB.cell0 d3
      have z4 := hFB.cell0 d4
      have y0 := cell_blk (i := 0) (hVB.blk 2 rfl) rfl
      have y1 := cell_blk (i := 1) (hVB.blk 2 rfl) rfl
      have HA := hid (answers_any hV2.drew hwp.1 (by omega) on kind a b t a2)
      have HB := hid (And.intro hback (And.intro hb2 hwp.2))
      clear hV hVB hV2 hback hb2 hwp hFB d0 d1 d2 d3 d4
      generalize wr.alloc (.cells #[.pointer (some ⟨p.D, 0, none⟩), .pointer (some ⟨p.X, 0, none⟩)] 74) = wB at z0 z1 z2 z3 z4 y0 y1 HA HB ⊢
      go_region_held3 (fun wx : World => wx.cell? ⟨wr.heap.size, 0, none⟩ = some (.pointer (some ⟨p.D, 0, none⟩)) ∧ wx.cell? ⟨wr.heap.size, 1, none⟩ = some (.pointer (some ⟨p.X, 0, none⟩)) ∧ wx.cell? ⟨bb, ob + k * 5, none⟩ = some (.int .i64 on) ∧ wx.cell? ⟨bb, ob + k * 5 + 1, none⟩ = some (.int .i64 kind) ∧ wx.cell? ⟨bb, ob + k * 5 + 2, none⟩ = some (.int .i64 a) ∧ wx.cell? ⟨bb, ob + k * 5 + 3, none⟩ = some (.int .i64 b) ∧ wx.cell? ⟨bb, ob + k * 5 + 4, none⟩ = some (.string t)) ((first | exact hNow | exact ⟨y0, y1, z0, z1, z2, z3, z4⟩))
        (first | (go_at_call 54; refine HA.out.mono ?_; rintro e w4 ⟨rfl, d', h4, hwf4, hl4⟩; have H3 := HB.out.2.1 w4 _ _ h4; have HP4 := HB.out.1 w4 d' (H3.take 2) hwf4 (by have := HB.out.2.2; omega); have hF4 := HP4.st.fr; have u0 := hF4.cell0 (HT.out.cell bb ob rfl (k * 5) (by omega)); have u1 := hF4.cell0 (HT.out.cell bb ob rfl (k * 5 + 1) (by omega)); have u2 := hF4.cell0 (HT.out.cell bb ob rfl (k * 5 + 2) (by omega)); have u3 := hF4.cell0 (HT.out.cell bb ob rfl (k * 5 + 3) (by omega)); have u4 := hF4.cell0 (HT.out.cell bb ob rfl (k * 5 + 4) (by omega)); rw [HJ.out.2.1] at u0; rw [HJ.out.2.2.1, ← Nat.add_assoc] at u1; rw [HJ.out.2.2.2.1, ← Nat.add_assoc] at u2; rw [HJ.out.2.2.2.2.1, ← Nat.add_assoc] at u3; rw [HJ.out.2.2.2.2.2, ← Nat.add_assoc] at u4; have x0 := cell_blk (i := 0) (H3.blk 2 rfl) rfl; have x1 := cell_blk (i := 1) (H3.blk 2 rfl) rfl; have hNow := And.intro x0 (And.intro x1 (And.intro u0 (And.intro u1 (And.intro u2 (And.intro u3 u4))))); have HP4 := hid (And.intro HP4 hwf4); clear H3 hF4 h4 hwf4 hl4))
      clear hNow u0 u2 u3 u4 z0 z1 z2 z3 z4 y0 y1 r0 r1 HA
      have hset : (ps.set j ⟨p.D, p.X, d'⟩)[j]? = some ⟨p.D, p.X, d'⟩ := by rw [List.getElem?_set_self hjl]
      have hlen : (ps.set j ⟨p.D, p.X, d'⟩).length = ps.length := List.length_set
      have HS := hid (And.intro hset hlen)
      clear hset hlen
      by_cases hc : kind = 7 ∧ ps.length < 8
      · obtain ⟨hc7, hc8⟩ := hc
        have hc9 : (ps.length : Int) < 8 := by omega
        subst hc7
        obtain ⟨F4, hD4⟩ := HP4.out.1.st.dk (2 * j + 1) (by simpa using (thingsOf_get HS.out.1).1)
        have HD4 := hid hD4
        have hraw4 : d'.raw.length ≤ k + 1 := (HP4.out.1.ok _ (List.mem_of_getElem? HS.out.1)).2
        clear hD4
        go_wp2_with fail
        refine (disk_clone w4 F4 p.D d' HD4.out HP4.out.2 (by omega)).mono ?_
        rintro e w5 ⟨Cc, F5, rfl, hF5, hD5, hb5⟩
        have H5 : St (.of w0) w5 ((RowT 74 2 (.slice (some ⟨g, 0, none⟩) ps.length cap) (ps.set j ⟨p.D, p.X, d'⟩).length (pairCells (ps.set j ⟨p.D, p.X, d'⟩)) :: thingsOf (ps.set j ⟨p.D, p.X, d'⟩)) ++ [DkT Cc d']) := HP4.out.1.st.new (A := Dk1 Cc d') hF5 inferInstance hD5 hb5
        have x2 := hF5.cell0 x1
        have hX5 : (RowT 74 2 (.slice (some ⟨g, 0, none⟩) ps.length cap) (ps.set j ⟨p.D, p.X, d'⟩).length (pairCells (ps.set j ⟨p.D, p.X, d'⟩)) :: thingsOf (ps.set j ⟨p.D, p.X, d'⟩) ++ [DkT Cc d'])[2 * j + 1 + 1]? = some (XkT p.X d') := by
          have h := (thingsOf_get HS.out.1).2
          have hl := lt_of_get h
          simp only [List.cons_append, List.getElem?_cons_succ]
          rw [List.getElem?_append_left hl]; exact h
        have H5 := hid (And.intro H5 hX5)
        clear hF5 hD5 hb5 x0 x1 hX5
        go_wp2_with fail
        refine (st_ref_copy H5.out.1 (2 * j + 1 + 1) H5.out.2).mono ?_
        rintro e w6 ⟨Y, rfl, H6⟩
        have hR6 := H6.alloc_ (.cells #[.pointer (some ⟨Cc, 0, none⟩), .pointer (some ⟨Y, 0, none⟩)] 74)
        obtain ⟨ho6, hb6⟩ := hR6.append 0 rfl
        rw [HS.out.2] at ho6
        have H6 := hid (And.intro ho6 hb6)
        clear hR6 ho6 hb6
        go_wp2_with (at_builtin; refine wpList_append_blk rfl (.tmp 54) (.tmp 60) 98 rfl 74 i0 (.agg #[.pointer none, .pointer none]) 2 16 Try.underlying98 HI.out.1 HI.out.2.1 HI.out.2.2.1 HI.out.2.2.2 rfl (by decide) (.slice (some ⟨g, 0, none⟩) ps.length cap) ps.length _ rfl H6.out.1 ⟨w6.heap.size, 0, none⟩ 1 1 [.pointer (some ⟨Cc, 0, none⟩), .pointer (some ⟨Y, 0, none⟩)] rfl rfl ?qb ?qc ?qd ?qe ?_)
        case qb => exact news_alloc w6 [.pointer (some ⟨Cc, 0, none⟩), .pointer (some ⟨Y, 0, none⟩)] _
        case qc => intro u hu; simp at hu; rcases hu with rfl | rfl <;> rfl
        case qd => unfold maxLen; omega
        case qe => omega
        intro v7 w7 ho7 hF7 hb7 hn7
        obtain ⟨g7, c7, rfl, _⟩ := ownsRow_shape ho7 (by omega)
        have H7 := H6.out.2 _ _ _ _ ho7 hF7 (by simpa using hb7)
        have H7 := hid H7
        clear ho7 hF7 hb7 hn7
        go_wp2_with fail
        go_roundw
        case rel =>
          have h1 : (ps.set j ⟨p.D, p.X, d'⟩ ++ [P3.mk Cc Y d']).length = ps.length + 1 := by simp
          refine ⟨k + 1, ps.set j ⟨p.D, p.X, d'⟩ ++ [P3.mk Cc Y d'], by omega, by go_num, ⟨g7, c7, by rw [h1]⟩, ⟨?_, fun q hq => ?_, by omega, by omega⟩⟩
          · have h2 := H7.out
            simp only [List.cons_append, List.set_cons_zero] at h2
            rw [h1, ← pairCells_snoc, ← thingsOf_snoc]
            simpa using h2
          · rcases List.mem_append.1 hq with h5 | h5
            · exact HP4.out.1.ok q h5
            · simp at h5; subst h5; exact ⟨HP4.out.2, hraw4⟩
        case measure => simp [intOf]; omega
      · have hfin : ∃ ps' : List P3, ps'.length = ps.length ∧ PInv w0 w4 (.slice (some ⟨g, 0, none⟩) ps.length cap) ns (k + 1) ps' := ⟨_, HS.out.2, HP4.out.1⟩
        obtain ⟨ps', hl', hP'⟩ := hfin
        have HFin := hid (And.intro hl' hP')
        clear hl' hP' x0 x1
        by_cases h7 : kind = 7
        · have h8 : ¬ (ps.length : Int) < 8 := by omega
          subst h7
          clear hc
          go_wp2_with fail
          go_roundw
          case rel => exact ⟨k + 1, ps', by omega, by go_num, ⟨g, cap, by rw [HFin.out.1]⟩, HFin.out.2⟩
          case measure => simp [intOf]; omega
        · have h8 : (kind == 7) = false := by rw [beq_eq_false_iff_ne]; exact h7
          clear hc
          go_wp2_with fail
          go_roundw
          case rel => exact ⟨k + 1, ps', by omega, by go_num, ⟨g, cap, by rw [HFin.out.1]⟩, HFin.out.2⟩
          case measure => simp [intOf]; omega
    · have HP := HV
      clear HV
      obtain ⟨wo, rfl⟩ : ∃ wo : World, wo = wr := ⟨_, rfl⟩
      go_wp2_with fail
      go_loopw [10] (fun i wx => ∃ (q : Nat), q ≤ ps.length ∧ i = .int .i64 q ∧ Fr [] wo wx) (fun i _ => ps.length - (intOf i).toNat)
      case atStart => exact ⟨0, Nat.zero_le _, rfl, Fr.refl _ _⟩
      case round =>
        obtain ⟨q, hq, rfl, hFq⟩ := hrel
        by_cases hlt2 : q < ps.length
        · obtain ⟨p, hp⟩ : ∃ p, ps[q]? = some p := ⟨_, List.getElem?_eq_getElem hlt2⟩
          have hst := HP.out.st.same hFq
          obtain ⟨hwp, hlp⟩ := HP.out.ok p (List.mem_of_getElem? hp)
          obtain ⟨v1, v2⟩ := pairCells_get hp
          have r0 := (ownsRow_cell (hst.row 0 rfl) _ v1).1
          have r1 := (ownsRow_cell (hst.row 0 rfl) _ v2).1
          obtain ⟨F0, hD0⟩ := hst.dk (2 * q + 1) (by simpa using (thingsOf_get hp).1)
          obtain ⟨_, _, sv, rv, _, _, x0, o1, o2⟩ := hst.getG (2 * q + 1 + 1) (by simpa using (thingsOf_get hp).2)
          obtain ⟨ra, rc, rfl, hIr, _⟩ := owns_In o2 (wrV p.d.raw) (fun j hj => rawCells_get _ j hj)
          obtain ⟨sa, sc, rfl, hIs, _⟩ := owns_In o1 (strV p.d.sec) (fun j hj => strs_get _ _ j (by omega))
          have hS0 : (fun wx : World => Fr [] wo wx ∧ wx.cell? ⟨g, q * 2, none⟩ = some (.pointer (some ⟨p.D, 0, none⟩)) ∧ wx.cell? ⟨g, q * 2 + 1, none⟩ = some (.pointer (some ⟨p.X, 0, none⟩)) ∧ wx.cell? ⟨p.X, 0, none⟩ = some (.slice sa p.d.sec.length sc) ∧ wx.cell? ⟨p.X, 1, none⟩ = some (.slice ra p.d.raw.length rc) ∧ wx.cell? ⟨p.X, 4, none⟩ = some (.bool p.d.dead)) wr.drew := ⟨hFq.drew, r0, r1, cell_blk x0 rfl, cell_blk x0 rfl, cell_blk x0 rfl⟩
          have hst : ∀ wy wz, (fun wx : World => Fr [] wo wx ∧ wx.cell? ⟨g, q * 2, none⟩ = some (.pointer (some ⟨p.D, 0, none⟩)) ∧ wx.cell? ⟨g, q * 2 + 1, none⟩ = some (.pointer (some ⟨p.X, 0, none⟩)) ∧ wx.cell? ⟨p.X, 0, none⟩ = some (.slice sa p.d.sec.length sc) ∧ wx.cell? ⟨p.X, 1, none⟩ = some (.slice ra p.d.raw.length rc) ∧ wx.cell? ⟨p.X, 4, none⟩ = some (.bool p.d.dead)) wy → Fr [] wy wz → (fun wx : World => Fr [] wo wx ∧ wx.cell? ⟨g, q * 2, none⟩ = some (.pointer (some ⟨p.D, 0, none⟩)) ∧ wx.cell? ⟨g, q * 2 + 1, none⟩ = some (.pointer (some ⟨p.X, 0, none⟩)) ∧ wx.cell? ⟨p.X, 0, none⟩ = some (.slice sa p.d.sec.length sc) ∧ wx.cell? ⟨p.X, 1, none⟩ = some (.slice ra p.d.raw.length rc) ∧ wx.cell? ⟨p.X, 4, none⟩ = some (.bool p.d.dead)) wz := fun wy wz h hF => ⟨h.1.trans hF, hF.cell0 h.2.1, hF.cell0 h.2.2.1, hF.cell0 h.2.2.2.1, hF.cell0 h.2.2.2.2.1, hF.cell0 h.2.2.2.2.2⟩
          have hwr := HP.out.st
          obtain ⟨F0, hD0⟩ := hwr.dk (2 * q + 1) (by simpa using (thingsOf_get hp).1)
          obtain ⟨_, _, sv, rv, _, _, x0', o1', o2'⟩ := hwr.getG (2 * q + 1 + 1) (by simpa using (thingsOf_get hp).2)
          have x1 := hFq.keep x0' (by simp)
          rw [x0] at x1
          simp at x1
          obtain ⟨e1, e2⟩ := x1
          subst e1 e2
          obtain ⟨_, _, e3, hIr, _⟩ := owns_In o2' (wrV p.d.raw) (fun j hj => rawCells_get _ j hj)
          cases e3
          obtain ⟨_, _, e3, hIs, _⟩ := owns_In o1' (strV p.d.sec) (fun j hj => strs_get _ _ j (by omega))
          cases e3
          have hDk : ∀ wy, (fun wx : World => Fr [] wo wx ∧ wx.cell? ⟨g, q * 2, none⟩ = some (.pointer (some ⟨p.D, 0, none⟩)) ∧ wx.cell? ⟨g, q * 2 + 1, none⟩ = some (.pointer (some ⟨p.X, 0, none⟩)) ∧ wx.cell? ⟨p.X, 0, none⟩ = some (.slice sa p.d.sec.length sc) ∧ wx.cell? ⟨p.X, 1, none⟩ = some (.slice ra p.d.raw.length rc) ∧ wx.cell? ⟨p.X, 4, none⟩ = some (.bool p.d.dead)) wy → Dk wy F0 p.D p.d := fun wy h => hD0.keep h.1 (by simp)
          have hIk : ∀ wy, (fun wx : World => Fr [] wo wx ∧ wx.cell? ⟨g, q * 2, none⟩ = some (.pointer (some ⟨p.D, 0, none⟩)) ∧ wx.cell? ⟨g, q * 2 + 1, none⟩ = some (.pointer (some ⟨p.X, 0, none⟩)) ∧ wx.cell? ⟨p.X, 0, none⟩ = some (.slice sa p.d.sec.length sc) ∧ wx.cell? ⟨p.X, 1, none⟩ = some (.slice ra p.d.raw.length rc) ∧ wx.cell? ⟨p.X, 4, none⟩ = some (.bool p.d.dead)) wy → In wy 2 ra p.d.raw.length rc (wrV p.d.raw) := fun wy h => hIr.fr0 h.1
          have hIk2 : ∀ wy, (fun wx : World => Fr [] wo wx ∧ wx.cell? ⟨g, q * 2, none⟩ = some (.pointer (some ⟨p.D, 0, none⟩)) ∧ wx.cell? ⟨g, q * 2 + 1, none⟩ = some (.pointer (some ⟨p.X, 0, none⟩)) ∧ wx.cell? ⟨p.X, 0, none⟩ = some (.slice sa p.d.sec.length sc) ∧ wx.cell? ⟨p.X, 1, none⟩ = some (.slice ra p.d.raw.length rc) ∧ wx.cell? ⟨p.X, 4, none⟩ = some (.bool p.d.dead)) wy → In wy 1 sa p.d.sec.length sc (strV p.d.sec) := fun wy h => hIs.fr0 h.1
          have hn' : p.d.raw.length * 24 ≤ 140737488355328 := by omega
          have HST := hid hst
          have HDK := hid hDk
          have HIK := hid (And.intro hIk hIk2)
          have HS0 := hid hS0
          have HW := hid hwp
          clear hst hDk hIk hIk2 hS0 x0 x0' o1 o2 o1' o2' hIr hIs hD0 hwr hwp hp v1 v2 r0 r1 hFq
          go_wp2_with fail
          go_region_held3 (fun wx : World => Fr [] wo wx ∧ wx.cell? ⟨g, q * 2, none⟩ = some (.pointer (some ⟨p.D, 0, none⟩)) ∧ wx.cell? ⟨g, q * 2 + 1, none⟩ = some (.pointer (some ⟨p.X, 0, none⟩)) ∧ wx.cell? ⟨p.X, 0, none⟩ = some (.slice sa p.d.sec.length sc) ∧ wx.cell? ⟨p.X, 1, none⟩ = some (.slice ra p.d.raw.length rc) ∧ wx.cell? ⟨p.X, 4, none⟩ = some (.bool p.d.dead)) ((first | exact HNow.out | exact HS0.out | assumption))
            (first
              | (go_at_call 31; refine (disk_dead _ F0 p.D p.d (HDK.out _ (by assumption))).mono ?_; rintro e w3 ⟨rfl, rfl⟩)
              | (go_at_call 36; refine (disk_raw _ F0 p.D p.d (HDK.out _ (by assumption)) hn').mono ?_; rintro e w4 ⟨a4, rfl, hF4, hI4, _⟩; have HNow := hid (HST.out _ _ (by assumption) hF4); have HI4 := hid hI4; clear hF4 hI4)
              | (go_at_call 38; refine (sameRaw_self _ a4 ra p.d.raw.length rc p.d.raw HI4.out (HIK.out.1 _ (by assumption))).mono ?_; rintro e w5 ⟨rfl, hF5⟩; have HNow := hid (HST.out _ _ (by assumption) hF5); clear hF5)
              | (go_at_call 35; refine (disk_sectors _ F0 p.D p.d (HDK.out _ (by assumption)) HW.out).mono ?_; rintro e w6 ⟨v6, rfl, hF6, hv⟩; obtain ⟨g6, c6, rfl, _, hI6⟩ := newStrs_in hv; have HNow := hid (HST.out _ _ (by assumption) hF6); have HI6 := hid hI6; clear hF6 hI6 hv)
              | (go_at_call 37; refine (same_self _ (some ⟨g6, 0, none⟩) sa c6 sc p.d.sec HI6.out (HIK.out.2 _ (by assumption))).mono ?_; rintro e w7 ⟨rfl, hF7⟩; have HNow := hid (HST.out _ _ (by assumption) hF7); clear hF7))
          go_wp2_with fail
          go_roundw
          case rel => exact ⟨q + 1, by omega, by go_num, HNow.out.1⟩
          case measure => simp [intOf]; omega
        · go_wp2_with fail
          go_ret
          exact ⟨rfl, HP.out.st.fr.trans hFq⟩

end Go.Proofs.Ytkkahkgjedgjnaa
