/-
  'played' of layer 11: a script's calls, over a queue, the document's, and their clones.
-/
import Derived.Test.YthdcpenhfccagaaQAns2
import Derived.Test.YthdcpenhfccagaaQEnds
import Derived.Test.YthdcpenhfccagaaPlace11
namespace Go.Proofs.Ythdcpenhfccagaa
open Go.RowKit
set_option linter.unusedVariables false
set_option linter.unusedSimpArgs false

structure PQ where
  Q : Nat
  X : Nat
  q : QS

def thingsOf : List PQ → List Thing
  | [] => []
  | p :: r => QkT p.Q p.q :: XqT p.X p.q :: thingsOf r
def pairCells : List PQ → List Value
  | [] => []
  | p :: r => .pointer (some ⟨p.Q, 0, none⟩) :: .pointer (some ⟨p.X, 0, none⟩) :: pairCells r

theorem thingsOf_get {ps : List PQ} {k : Nat} {p : PQ} (h : ps[k]? = some p) : (thingsOf ps)[2 * k]? = some (QkT p.Q p.q) ∧ (thingsOf ps)[2 * k + 1]? = some (XqT p.X p.q) := by
  induction ps generalizing k with
  | nil => simp at h
  | cons q r ih =>
    match k with
    | 0 => simp at h; subst h; exact ⟨rfl, rfl⟩
    | k + 1 => exact ih (by simpa using h)
theorem thingsOf_set (ps : List PQ) (k : Nat) (p : PQ) : ((thingsOf ps).set (2 * k) (QkT p.Q p.q)).set (2 * k + 1) (XqT p.X p.q) = thingsOf (ps.set k p) := by
  induction ps generalizing k with
  | nil => rfl
  | cons q r ih =>
    match k with
    | 0 => rfl
    | k + 1 => exact congrArg (fun l => QkT q.Q q.q :: XqT q.X q.q :: l) (ih k)
theorem thingsOf_snoc (ps : List PQ) (p : PQ) : thingsOf ps ++ [QkT p.Q p.q] ++ [XqT p.X p.q] = thingsOf (ps ++ [p]) := by
  induction ps with
  | nil => rfl
  | cons q r ih => exact congrArg (fun l => QkT q.Q q.q :: XqT q.X q.q :: l) ih
theorem pairCells_get {ps : List PQ} {k : Nat} {p : PQ} (h : ps[k]? = some p) : (pairCells ps)[k * 2]? = some (.pointer (some ⟨p.Q, 0, none⟩)) ∧ (pairCells ps)[k * 2 + 1]? = some (.pointer (some ⟨p.X, 0, none⟩)) := by
  induction ps generalizing k with
  | nil => simp at h
  | cons q r ih =>
    match k with
    | 0 => simp at h; subst h; exact ⟨rfl, rfl⟩
    | k + 1 =>
      have := ih (k := k) (by simpa using h)
      rw [show (k + 1) * 2 = k * 2 + 1 + 1 by omega]
      exact this
theorem pairCells_snoc (ps : List PQ) (p : PQ) : pairCells ps ++ [.pointer (some ⟨p.Q, 0, none⟩), .pointer (some ⟨p.X, 0, none⟩)] = pairCells (ps ++ [p]) := by
  induction ps with
  | nil => rfl
  | cons q r ih => exact congrArg (fun l => Value.pointer (some ⟨q.Q, 0, none⟩) :: .pointer (some ⟨q.X, 0, none⟩) :: l) ih
theorem pairCells_set (ps : List PQ) (k : Nat) (p q : PQ) (h : ps[k]? = some p) (hD : q.Q = p.Q) (hX : q.X = p.X) : pairCells (ps.set k q) = pairCells ps := by
  induction ps generalizing k with
  | nil => rfl
  | cons a r ih =>
    match k with
    | 0 => simp at h; subst h; simp [pairCells, hD, hX]
    | k + 1 => exact congrArg (fun l => Value.pointer (some ⟨a.Q, 0, none⟩) :: .pointer (some ⟨a.X, 0, none⟩) :: l) (ih k (by simpa using h))

theorem info_pair11 : (Try.prog.info? 63).map (fun i => (i.zero, i.size, i.bytes)) = some (some (.agg #[.pointer none, .pointer none]), 2, 16) := by kernel_rfl

/-- What played's loop keeps. -/
structure PInv (w0 wr : World) (v : Value) (ps : List PQ) : Prop where
  st : St (.of w0) wr (RowT 63 2 v ps.length (pairCells ps) :: thingsOf ps)
  ok : ∀ p, p ∈ ps → p.q.wf
  l1 : 1 ≤ ps.length
  l2 : ps.length ≤ 8

/-- One pair by itself. -/
theorem PInv.one {w0 wr : World} {v : Value} {j : Nat} {ps : List PQ} {p : PQ} (h : PInv w0 wr v ps) (hj : ps[j]? = some p) :
    ∃ V : Base, St V wr [QkT p.Q p.q, XqT p.X p.q] ∧ ∀ (w' : World) (d' : QS), St V w' [QkT p.Q d', XqT p.X d'] → d'.wf → PInv w0 w' v (ps.set j ⟨p.Q, p.X, d'⟩) := by
  obtain ⟨h1, h2⟩ := thingsOf_get hj
  obtain ⟨V, _, hV, hb⟩ := h.st.two (i := 2 * j + 1) (j := 2 * j + 1 + 1) (by simpa using h1) (by simpa using h2) (by omega)
  refine ⟨V, hV, fun w' d' h' hwf => ⟨?_, fun q hq => ?_, by simpa using h.l1, by simpa using h.l2⟩⟩
  · have := hb w' _ _ h'
    simp only [List.set_cons_succ] at this
    rw [show 2 * j + 1 = 2 * j + 1 from rfl] at this
    rw [thingsOf_set ps j ⟨p.Q, p.X, d'⟩] at this
    rw [pairCells_set ps j p ⟨p.Q, p.X, d'⟩ hj rfl rfl]
    simpa using this
  · rcases List.mem_or_eq_of_mem_set hq with h5 | h5
    · exact h.ok q h5
    · subst h5; exact hwf

set_option maxHeartbeats 6400000 in
set_option maxRecDepth 100000 in
theorem played11 {w0 w : World} {Q X : Nat} {q : QS} (H : St (.of w0) w [QkT Q q, XqT X q]) (hw : q.wf) (s : Option Addr) (ns cs : Nat) (l : Nat → Op11) (hO : Ops11 w0 s ns cs l) :
    Calls Try.prog 28 #[.agg #[.pointer (some ⟨Q, 0, none⟩), .pointer (some ⟨X, 0, none⟩)], .slice s ns cs] w fun e w' => e = .returned (.bool true) ∧ Fr [] w0 w' := by
  have hms := hO.2.1
  have hls := hO.1
  have HO := hid hO
  obtain ⟨i0, hi, hz0, hz1, hz2⟩ := info_parts info_pair11
  have HI := hid (And.intro hi (And.intro hz0 (And.intro hz1 hz2)))
  clear hO hi hz0 hz1 hz2
  go_enter Try.func28, Try.ntmps28
  go_wp2_with fail
  have H1 : St (.of w0) ((w.alloc (.cells #[.pointer (some ⟨Q, 0, none⟩), .pointer (some ⟨X, 0, none⟩)] 63)).alloc (.cells #[.pointer (some ⟨Q, 0, none⟩), .pointer (some ⟨X, 0, none⟩)] 63)) ([QkT Q q, XqT X q] ++ [RowT 63 2 (.slice (some ⟨w.heap.size + 1, 0, none⟩) 1 1) 1 (pairCells [⟨Q, X, q⟩])]) :=
    (H.alloc_ (.cells #[.pointer (some ⟨Q, 0, none⟩), .pointer (some ⟨X, 0, none⟩)] 63)).new ((Fr.refl _ _).alloc _) inferInstance (F := [w.heap.size + 1]) ⟨rfl, by simp [pairCells], .inr ⟨w.heap.size + 1, 1, _, rfl, Nat.zero_le _, blk_alloc_at _ _ _ (by simp), Nat.le_refl _, by decide, rfl, rfl⟩⟩ (by simp)
  have hP : PInv w0 ((w.alloc (.cells #[.pointer (some ⟨Q, 0, none⟩), .pointer (some ⟨X, 0, none⟩)] 63)).alloc (.cells #[.pointer (some ⟨Q, 0, none⟩), .pointer (some ⟨X, 0, none⟩)] 63)) (.slice (some ⟨w.heap.size + 1, 0, none⟩) 1 1) [⟨Q, X, q⟩] :=
    ⟨H1.pick [2, 0, 1] (by decide) rfl (by intro k i hk; match k with | 0 => cases hk; rfl | 1 => cases hk; rfl | 2 => cases hk; rfl | k + 3 => simp at hk), by intro p hp; simp at hp; subst hp; exact hw, by simp, by simp⟩
  have HP := hid hP
  clear H H1 hP hw
  go_loopw [5, 6] (fun v i wr => ∃ (k : Nat) (ps : List PQ), k ≤ ns ∧ i = .int .i64 k ∧ (∃ g cap, v = .slice (some ⟨g, 0, none⟩) ps.length cap) ∧ PInv w0 wr v ps) (fun _ i _ => ns - (intOf i).toNat)
  case atStart => exact ⟨0, _, Nat.zero_le _, rfl, ⟨_, _, rfl⟩, HP.out⟩
  case round =>
    obtain ⟨k, ps, hk, rfl, ⟨g, cap, rfl⟩, hinv⟩ := hrel
    have HV := hid hinv
    have hl1 := hinv.l1
    have hl2 := hinv.l2
    clear HP hinv
    by_cases hlt : k < ns
    · obtain ⟨bb, ob, rfl⟩ := HO.out.2.2.2.2.1 (by omega)
      have HC := hid (fun (wx : World) (hx : Fr [] w0 wx) => HO.out.2.2.2.2.2 bb ob rfl k hlt wx hx)
      have hon := (HO.out.2.2.2.1 k hlt).1
      generalize l k = o at HC hon
      obtain ⟨d0, d1, d2, d3, d4, d5, d6, d7⟩ := HC.out _ HV.out.st.fr
      have hpl := place11 o.on ps.length wr hon.1 hon.2 (by omega) (by omega)
      obtain ⟨j, hj⟩ : ∃ j : Nat, o.on % (ps.length : Int) = j := ⟨(o.on % (ps.length : Int)).toNat, by have := Int.emod_nonneg o.on (show (ps.length : Int) ≠ 0 by omega); omega⟩
      have hjl : j < ps.length := by have := Int.emod_lt_of_pos o.on (show 0 < (ps.length : Int) by omega); omega
      rw [hj] at hpl
      have HPL := hid hpl
      obtain ⟨p, hp⟩ : ∃ p, ps[j]? = some p := ⟨_, List.getElem?_eq_getElem hjl⟩
      obtain ⟨u1, u2⟩ := pairCells_get hp
      have r0 := (ownsRow_cell (HV.out.st.row 0 rfl) _ u1).1
      have r1 := (ownsRow_cell (HV.out.st.row 0 rfl) _ u2).1
      have HJ := hid hp
      clear hpl hj hp u1 u2 hon
      go_wp2_with fail
      refine HPL.out.mono ?_
      rintro e w1 ⟨rfl, rfl⟩
      go_wp2_with fail
      obtain ⟨V, hV, hback⟩ := HV.out.one HJ.out
      have hVB : St V (wr.alloc (.cells #[.pointer (some ⟨p.Q, 0, none⟩), .pointer (some ⟨p.X, 0, none⟩)] 63)) [QkT p.Q p.q, XqT p.X p.q, BlkT wr.heap.size (.cells #[.pointer (some ⟨p.Q, 0, none⟩), .pointer (some ⟨p.X, 0, none⟩)] 63)] := hV.alloc _
      obtain ⟨V2, _, hV2, hb2⟩ := hVB.two (i := 0) (j := 1) rfl rfl (by decide)
      have hwp := HV.out.ok p (List.mem_of_getElem? HJ.out)
      have hFB : Fr [] w0 (wr.alloc (.cells #[.pointer (some ⟨p.Q, 0, none⟩), .pointer (some ⟨p.X, 0, none⟩)] 63)) := HV.out.st.fr.alloc _
      have hz := HC.out _ hFB
      have y0 := cell_blk (i := 0) (hVB.blk 2 rfl) rfl
      have y1 := cell_blk (i := 1) (hVB.blk 2 rfl) rfl
      have HA := hid (answers11 hV2.drew hwp o)
      have HB := hid (And.intro hback hb2)
      have HZ := hid hz
      clear hV hVB hV2 hback hb2 hwp hFB d0 d1 d2 d3 d4 d5 d6 d7 hz
      generalize wr.alloc (.cells #[.pointer (some ⟨p.Q, 0, none⟩), .pointer (some ⟨p.X, 0, none⟩)] 63) = wB at HZ y0 y1 HA HB ⊢
      go_region_held3 (fun wx : World => wx.cell? ⟨wr.heap.size, 0, none⟩ = some (.pointer (some ⟨p.Q, 0, none⟩)) ∧ wx.cell? ⟨wr.heap.size, 1, none⟩ = some (.pointer (some ⟨p.X, 0, none⟩)) ∧ wx.cell? ⟨bb, ob + k * 8, none⟩ = some (.int .i64 o.on) ∧ wx.cell? ⟨bb, ob + k * 8 + 1, none⟩ = some (.int .i64 o.kind) ∧ wx.cell? ⟨bb, ob + k * 8 + 2, none⟩ = some (.int .i64 o.job) ∧ wx.cell? ⟨bb, ob + k * 8 + 3, none⟩ = some (.int .i64 o.badge) ∧ wx.cell? ⟨bb, ob + k * 8 + 4, none⟩ = some (.int .i64 o.node) ∧ wx.cell? ⟨bb, ob + k * 8 + 5, none⟩ = some (.int .i64 o.life) ∧ wx.cell? ⟨bb, ob + k * 8 + 6, none⟩ = some (.int .i64 o.code) ∧ wx.cell? ⟨bb, ob + k * 8 + 7, none⟩ = some (.int .u64 o.bits)) ((first | exact hNow | exact ⟨y0, y1, HZ.out⟩))
        (first | (go_at_call 43; refine HA.out.mono ?_; rintro e w4 ⟨rfl, d', h4, hwf4⟩; have H3 := HB.out.2 w4 _ _ h4; have HP4 := HB.out.1 w4 d' (H3.take 2) hwf4; have hu := HC.out _ HP4.st.fr; have x0 := cell_blk (i := 0) (H3.blk 2 rfl) rfl; have x1 := cell_blk (i := 1) (H3.blk 2 rfl) rfl; have hNow := And.intro x0 (And.intro x1 hu); have HP4 := hid (And.intro HP4 hwf4); clear H3 h4 hwf4))
      obtain ⟨_, u1, _⟩ := hu
      clear hNow HZ y0 y1 r0 r1 HA
      have hset : (ps.set j ⟨p.Q, p.X, d'⟩)[j]? = some ⟨p.Q, p.X, d'⟩ := by rw [List.getElem?_set_self hjl]
      have hlen : (ps.set j ⟨p.Q, p.X, d'⟩).length = ps.length := List.length_set
      have HS := hid (And.intro hset hlen)
      clear hset hlen
      by_cases hc : o.kind = 9 ∧ ps.length < 8
      · obtain ⟨hc7, hc8⟩ := hc
        have hc9 : (ps.length : Int) < 8 := by omega
        have e9 : (o.kind == 9) = true := by rw [beq_iff_eq]; exact hc7
        clear hc7
        have hq5 : (RowT 63 2 (.slice (some ⟨g, 0, none⟩) ps.length cap) (ps.set j ⟨p.Q, p.X, d'⟩).length (pairCells (ps.set j ⟨p.Q, p.X, d'⟩)) :: thingsOf (ps.set j ⟨p.Q, p.X, d'⟩))[2 * j + 1]? = some (QkT p.Q d') := by simpa using (thingsOf_get HS.out.1).1
        have HQ5 := hid hq5
        clear hq5
        go_wp2_with fail
        refine (st_qclone HP4.out.1.st (2 * j + 1) HQ5.out HP4.out.2.n).mono ?_
        rintro e w5 ⟨Cc, rfl, hF5, F5, hD5, hb5⟩
        have H5 : St (.of w0) w5 ((RowT 63 2 (.slice (some ⟨g, 0, none⟩) ps.length cap) (ps.set j ⟨p.Q, p.X, d'⟩).length (pairCells (ps.set j ⟨p.Q, p.X, d'⟩)) :: thingsOf (ps.set j ⟨p.Q, p.X, d'⟩)) ++ [QkT Cc d']) := HP4.out.1.st.new (A := Qk1 Cc d') hF5 inferInstance hD5 hb5
        have x2 := hF5.cell0 x1
        have hX5 : (RowT 63 2 (.slice (some ⟨g, 0, none⟩) ps.length cap) (ps.set j ⟨p.Q, p.X, d'⟩).length (pairCells (ps.set j ⟨p.Q, p.X, d'⟩)) :: thingsOf (ps.set j ⟨p.Q, p.X, d'⟩) ++ [QkT Cc d'])[2 * j + 1 + 1]? = some (XqT p.X d') := by
          have h := (thingsOf_get HS.out.1).2
          have hl := lt_of_get h
          simp only [List.cons_append, List.getElem?_cons_succ]
          rw [List.getElem?_append_left hl]; exact h
        have H5 := hid (And.intro H5 hX5)
        clear hF5 hD5 hb5 x0 x1 hX5
        go_wp2_with fail
        refine (st_xcopy H5.out.1 (2 * j + 1 + 1) H5.out.2).mono ?_
        rintro e w6 ⟨Y, rfl, H6⟩
        have hR6 := H6.alloc_ (.cells #[.pointer (some ⟨Cc, 0, none⟩), .pointer (some ⟨Y, 0, none⟩)] 63)
        obtain ⟨ho6, hb6⟩ := hR6.append 0 rfl
        rw [HS.out.2] at ho6
        have H6 := hid (And.intro ho6 hb6)
        clear hR6 ho6 hb6
        go_wp2_with (at_builtin; refine wpList_append_blk rfl (.tmp 54) (.tmp 60) 80 rfl 63 i0 (.agg #[.pointer none, .pointer none]) 2 16 Try.underlying80 HI.out.1 HI.out.2.1 HI.out.2.2.1 HI.out.2.2.2 rfl (by decide) (.slice (some ⟨g, 0, none⟩) ps.length cap) ps.length _ rfl H6.out.1 ⟨w6.heap.size, 0, none⟩ 1 1 [.pointer (some ⟨Cc, 0, none⟩), .pointer (some ⟨Y, 0, none⟩)] rfl rfl ?qb ?qc ?qd ?qe ?_)
        case qb => exact news_alloc w6 [.pointer (some ⟨Cc, 0, none⟩), .pointer (some ⟨Y, 0, none⟩)] _
        case qc => intro u hu; simp at hu; rcases hu with rfl | rfl <;> rfl
        case qd => unfold maxLen; omega
        case qe => omega
        intro v7 w7 ho7 hF7 hb7 hn7
        obtain ⟨g7, c7, rfl, _⟩ := ownsRow_shape ho7 (by omega)
        have H7 := H6.out.2 _ _ _ _ ho7 hF7 (by simpa using hb7)
        have H7 := hid H7
        clear ho7 hF7 hb7 hn7
        go_wp2_with fail
        go_roundw
        case rel =>
          have h1 : (ps.set j ⟨p.Q, p.X, d'⟩ ++ [PQ.mk Cc Y d']).length = ps.length + 1 := by simp
          refine ⟨k + 1, ps.set j ⟨p.Q, p.X, d'⟩ ++ [PQ.mk Cc Y d'], by omega, by go_num, ⟨g7, c7, by rw [h1]⟩, ⟨?_, fun q hq => ?_, by omega, by omega⟩⟩
          · have h2 := H7.out
            simp only [List.cons_append, List.set_cons_zero] at h2
            rw [h1, ← pairCells_snoc, ← thingsOf_snoc]
            simpa using h2
          · rcases List.mem_append.1 hq with h5 | h5
            · exact HP4.out.1.ok q h5
            · simp at h5; subst h5; exact HP4.out.2
        case measure => simp [intOf]; omega
      · have hfin : ∃ ps' : List PQ, ps'.length = ps.length ∧ PInv w0 w4 (.slice (some ⟨g, 0, none⟩) ps.length cap) ps' := ⟨_, HS.out.2, HP4.out.1⟩
        obtain ⟨ps', hl', hP'⟩ := hfin
        have HFin := hid (And.intro hl' hP')
        clear hl' hP' x0 x1
        by_cases h7 : o.kind = 9
        · have h8 : ¬ (ps.length : Int) < 8 := by omega
          have e9 : (o.kind == 9) = true := by rw [beq_iff_eq]; exact h7
          clear hc h7
          go_wp2_with fail
          go_roundw
          case rel => exact ⟨k + 1, ps', by omega, by go_num, ⟨g, cap, by rw [HFin.out.1]⟩, HFin.out.2⟩
          case measure => simp [intOf]; omega
        · have h8 : (o.kind == 9) = false := by rw [beq_eq_false_iff_ne]; exact h7
          clear hc h7
          go_wp2_with fail
          go_roundw
          case rel => exact ⟨k + 1, ps', by omega, by go_num, ⟨g, cap, by rw [HFin.out.1]⟩, HFin.out.2⟩
          case measure => simp [intOf]; omega
    · have HP := HV
      clear HV
      obtain ⟨wo, rfl⟩ : ∃ wo : World, wo = wr := ⟨_, rfl⟩
      go_wp2_with fail
      go_loopw [10] (fun i wx => ∃ (q : Nat), q ≤ ps.length ∧ i = .int .i64 q ∧ Fr [] wo wx) (fun i _ => ps.length - (intOf i).toNat)
      case atStart => exact ⟨0, Nat.zero_le _, rfl, Fr.refl _ _⟩
      case round =>
        obtain ⟨j, hj, rfl, hFq⟩ := hrel
        by_cases hlt2 : j < ps.length
        · obtain ⟨p, hp⟩ : ∃ p, ps[j]? = some p := ⟨_, List.getElem?_eq_getElem hlt2⟩
          obtain ⟨t1, t2⟩ := thingsOf_get hp
          have t1' : (RowT 63 2 (.slice (some ⟨g, 0, none⟩) ps.length cap) ps.length (pairCells ps) :: thingsOf ps)[2 * j + 1]? = some (QkT p.Q p.q) := by simpa using t1
          have t2' : (RowT 63 2 (.slice (some ⟨g, 0, none⟩) ps.length cap) ps.length (pairCells ps) :: thingsOf ps)[2 * j + 1 + 1]? = some (XqT p.X p.q) := by simpa using t2
          obtain ⟨a, c, hX⟩ := HP.out.st.xq _ t2'
          have hn := (HP.out.ok p (List.mem_of_getElem? hp)).n
          obtain ⟨v1, v2⟩ := pairCells_get hp
          have r0 := (ownsRow_cell (HP.out.st.row 0 rfl) _ v1).1
          have r1 := (ownsRow_cell (HP.out.st.row 0 rfl) _ v2).1
          have HS := hid (fun (wx : World) (h : Fr [] wo wx) => (And.intro h (And.intro (h.cell0 r0) (And.intro (h.cell0 r1) (h.cell0 hX.c1))) : Fr [] wo wx ∧ wx.cell? ⟨g, j * 2, none⟩ = some (.pointer (some ⟨p.Q, 0, none⟩)) ∧ wx.cell? ⟨g, j * 2 + 1, none⟩ = some (.pointer (some ⟨p.X, 0, none⟩)) ∧ wx.cell? ⟨p.X, 1, none⟩ = some (.slice a p.q.rows.length c)))
          have HX := hid hX
          have HT := hid (And.intro t1' t2')
          have hS0 := HS.out _ hFq.drew
          have hS1 := HS.out _ hFq
          obtain ⟨_, s1, s2, s3⟩ := hS1
          clear hX hp t1 t2 t1' t2' v1 v2 r0 r1
          go_wp2_with fail
          clear s1 s2 s3
          go_region_held3 (fun wx : World => Fr [] wo wx ∧ wx.cell? ⟨g, j * 2, none⟩ = some (.pointer (some ⟨p.Q, 0, none⟩)) ∧ wx.cell? ⟨g, j * 2 + 1, none⟩ = some (.pointer (some ⟨p.X, 0, none⟩)) ∧ wx.cell? ⟨p.X, 1, none⟩ = some (.slice a p.q.rows.length c)) ((first | exact hNow | exact hS0))
            (first
              | (go_at_call 19; refine (st_rows (HP.out.st.same hS0.1) _ HT.out.1 hn).mono ?_; rintro e w2 ⟨a4, rfl, hF, hW, hb⟩; have hNow := HS.out _ (hS0.1.trans hF); have HI := hid (And.intro (hW.toIn (Nat.le_refl _) (by unfold maxLen; omega)) (HX.out.inn.fr0 hNow.1)); clear hF hW hb)
              | (go_at_call 22; refine (qsame_self _ _ _ _ _ _ _ rfl HI.out.1 HI.out.2).mono ?_; rintro e w3 ⟨rfl, hF⟩; have hNow := HS.out _ (hNow.1.trans hF); clear hF)
              | (go_at_call 15; refine (st_head (HP.out.st.same hNow.1) _ HT.out.1 hn).mono ?_; rintro e w4 ⟨rfl, hF⟩; have hNow := HS.out _ (hNow.1.trans hF); clear hF)
              | (go_at_call 45; refine (x_head _ p.X p.q a c (HX.out.fr0 hNow.1) hn).mono ?_; rintro e w5 ⟨rfl, rfl⟩))
          go_wp2_with fail
          go_roundw
          case rel => exact ⟨j + 1, by omega, by go_num, hNow.1⟩
          case measure => simp [intOf]; omega
        · have HF := hid (HP.out.st.fr.trans hFq)
          go_wp2_with fail
          go_ret
          exact ⟨rfl, HF.out⟩

end Go.Proofs.Ythdcpenhfccagaa
