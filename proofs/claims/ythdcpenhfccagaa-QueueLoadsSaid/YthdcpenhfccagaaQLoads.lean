/-
  The walk of QueueLoads.
-/
import Derived.Test.YthdcpenhfccagaaQDoes
namespace Go.Proofs.Ythdcpenhfccagaa
open Go.RowKit
set_option linter.unusedVariables false
set_option linter.unusedSimpArgs false

theorem qload_badn (w : World) (n : Int) (h : n < 1 ∨ 8 < n) (a : Option Addr) (m cap : Nat) :
    Calls Try.prog 23 #[.int .i64 n, .slice a m cap] w fun e w' => e = .returned (.tuple #[.pointer none, .int .i64 1]) ∧ w = w' := by
  have HN := hid (queue_new_bad w n h)
  clear h
  go_enter Try.func23, Try.ntmps23
  go_wp2_with fail
  refine (HN.out).mono ?_
  rintro e w101 ⟨rfl, rfl⟩
  go_wp2_with fail
  exact bodyPost_ret (v := .tuple #[.pointer none, .int .i64 1]) (by simp [results, Try.results23, go_sem]) rfl ⟨rfl, rfl⟩
theorem xload_badn (w : World) (n : Int) (h : n < 1 ∨ 8 < n) (a : Option Addr) (m cap : Nat) :
    Calls Try.prog 31 #[.int .i64 n, .slice a m cap] w fun e w' => e = .returned (.tuple #[.pointer none, .int .i64 1]) ∧ w = w' := by
  have HN := hid (xnew_bad w n h)
  clear h
  go_enter Try.func31, Try.ntmps31
  go_wp2_with fail
  refine (HN.out).mono ?_
  rintro e w102 ⟨rfl, rfl⟩
  go_wp2_with fail
  go_ret2
  exact ⟨rfl, rfl⟩

/-- The rows that are handed in, with one more behind them. -/
def m7 : QR := ⟨-7, 0, 0, 0, 0, 0, 0, 0⟩
def OwnT (g c : Nat) (l : List QR) : Thing := RowT 37 8 (.slice (some ⟨g, 0, none⟩) (l.length + 1) c) (l.length + 1) (qL.cells (l ++ [m7]))
theorem own_in {w : World} {g c : Nat} {l : List QR} (h : w.ownsRow 0 37 8 (.slice (some ⟨g, 0, none⟩) (l.length + 1) c) (l.length + 1) (qL.cells (l ++ [m7]))) :
    In w 8 (some ⟨g, 0, none⟩) l.length c (qL.at_ l) ∧ w.cell? ⟨g, l.length * 8, none⟩ = some (.int .i64 (-7)) ∧ l.length + 1 ≤ c ∧ c ≤ maxLen := by
  have hI := ownsRow_in h (qL.at_ (l ++ [m7])) (fun j hj => qL.get _ j (by rw [List.length_append]; exact hj))
  have hle := hI.le
  have hmx := hI.mx
  refine ⟨⟨by omega, hmx, fun _ => ⟨g, 0, rfl⟩, fun b off e j hj => ?_⟩, ?_, hle, hmx⟩
  · rw [hI.cell b off e j (by omega)]
    have hjs : j / 8 < l.length := Nat.div_lt_of_lt_mul (by omega)
    unfold Lay.at_
    rw [qL.nth_snoc, if_neg (show ¬ j / qL.sz = l.length by show ¬ j / 8 = l.length; omega)]
  · have h1 := hI.cell g 0 rfl (l.length * 8) (by omega)
    rw [Nat.zero_add] at h1
    rw [h1]
    have h2 := qL.at_add (l ++ [m7]) l.length 0 (by decide)
    have h3 : l.length * qL.sz + 0 = l.length * 8 := rfl
    rw [h3] at h2
    rw [h2, qL.nth_snoc, if_pos rfl]
    rfl

section
variable {W : Base} {w : World} {R : List Thing}
/-- An owned row becomes one that is written into. -/
theorem St.toWr (H : St W w R) (i : Nat) {g c : Nat} {l : List QR} (hi : R[i]? = some (OwnT g c l)) : St W w (R.set i (WrT 37 8 (some ⟨g, 0, none⟩) l.length)) := by
  obtain ⟨F, ⟨rfl, h1⟩, h2, h3⟩ := H.at i hi
  have h4 := own_in h1
  refine h3 w _ (Wr1 37 8 (some ⟨g, 0, none⟩) l.length) inferInstance ⟨by simp [Value.ownBlock], ?_⟩ (Fr.refl _ _) (fun x hx => .inl hx)
  have h5 := ownsRow_W h1 (qL.at_ (l ++ [m7])) (fun j hj => qL.get _ j (by rw [List.length_append]; exact hj))
  rcases h5 with ⟨h, _⟩ | ⟨g', cur, h, hh, hs, hc⟩
  · cases h
  · exact ⟨_, .inr ⟨g', cur, h, hh, by omega, fun j hj => hc j (by omega)⟩⟩
end

set_option maxHeartbeats 6400000 in
set_option maxRecDepth 100000 in
theorem qloads_any (w : World) (n : Int) (a : Option Addr) (m cap : Nat) (r : List QR) (hm : r.length = m) (ha : In w 8 a m cap (qL.at_ r)) (hb : m * 64 ≤ 140737488351232) (s : Option Addr) (ns cs : Nat) (l : Nat → Op11) (hO : Ops11 w s ns cs l) :
    Calls Try.prog 10 #[.int .i64 n, .slice a m cap, .slice s ns cs] w fun e w' => e = .returned (.bool true) ∧ Fr [] w w' := by
  subst hm
  have HA := hid (fun (wx : World) (hx : Fr [] w wx) => ha.fr0 hx)
  have HO := hid hO
  have hmx := ha.max
  have H0 := hid (St.refl w)
  obtain ⟨i0, hi0, hz0, hz1, hz2⟩ := info_parts info_qrow
  have HI := hid (And.intro hi0 (And.intro hz0 (And.intro hz1 hz2)))
  clear ha hO hi0 hz0 hz1 hz2
  go_enter Try.func10, Try.ntmps10
  go_wp2_with (at_builtin; refine wpList_copied rfl (.tmp 13) (.tmp 14) 42 rfl 37 i0 (.agg #[.int .i64 0, .int .i64 0, .int .i64 0, .int .i64 0, .int .i64 0, .int .i64 0, .int .i64 0, .int .u64 0]) 8 64 Try.underlying42 HI.out.1 HI.out.2.1 HI.out.2.2.1 HI.out.2.2.2 rfl (by decide) w.heap.size rfl (blk_alloc_at _ _ _ rfl) a r.length cap (qL.at_ r) rfl ?qa (fun j _ => qL.at_one _ j) (by omega) ?_)
  case qa => exact HA.out _ ((Fr.refl [] w).alloc _)
  intro g1 cg1 w1 ho hF1 hg
  rw [show (List.range (r.length * 8)).map (qL.at_ r) = qL.cells r from qL.range r] at ho
  have hF : Fr [] w w1 := ((Fr.refl [] w).alloc (.cells #[] 37)).step hF1 (by intro x hx; simp at hx; subst hx; exact .inr (Nat.le_refl _))
  have hg' : w.heap.size ≤ g1 := by rcases hg with h | h <;> first | omega | (simp at h; omega)
  have H1 := hid (And.intro ho (And.intro hF hg'))
  clear ho hF hF1 hg hg'
  go_wp2_with (at_builtin; refine wpList_append_blk rfl (.tmp 15) (.tmp 17) 42 rfl 37 i0 (.agg #[.int .i64 0, .int .i64 0, .int .i64 0, .int .i64 0, .int .i64 0, .int .i64 0, .int .i64 0, .int .u64 0]) 8 64 Try.underlying42 HI.out.1 HI.out.2.1 HI.out.2.2.1 HI.out.2.2.2 rfl (by decide) (.slice (some ⟨g1, 0, none⟩) r.length cg1) r.length _ rfl (ownsRow_keep (S := []) H1.out.1 ((Fr.refl [] _).alloc _) (by simp)) ⟨w1.heap.size, 0, none⟩ 1 1 (QR.f m7) rfl rfl ?qb ?qc ?qd ?qe ?_)
  case qb => exact news_alloc w1 (QR.f m7) _
  case qc => exact qL.one _
  case qd => unfold maxLen; omega
  case qe => omega
  intro v w2 ho hF hb2 hn
  obtain ⟨g, c, rfl, _⟩ := ownsRow_shape ho (by omega)
  have hs : qL.cells r ++ QR.f m7 = qL.cells (r ++ [m7]) := qL.snoc _ _
  rw [hs] at ho
  have hFw : Fr [] w w2 := (H1.out.2.1.alloc (.cells (QR.f m7).toArray 37)).step hF (by intro x hx; simp [Value.ownBlock] at hx; subst hx; exact .inr H1.out.2.2)
  have hg2 : w.heap.size ≤ g := by
    rcases hb2 g (by simp [Value.ownBlock]) with h | h
    · simp [Value.ownBlock] at h; have := H1.out.2.2; omega
    · have := H1.out.2.1.size; first | omega | (simp at h; omega)
  obtain ⟨_, _, hcl, hcm⟩ := own_in ho
  unfold maxLen at hcm
  have H : St (.of w) w2 [OwnT g c r] := H0.out.new (A := Row1 37 8 (.slice (some ⟨g, 0, none⟩) (r.length + 1) c) (r.length + 1) (qL.cells (r ++ [m7]))) hFw inferInstance ⟨rfl, ho⟩ (by simp [Value.ownBlock]; exact hg2)
  clear ho hF hb2 hn hs hFw hg2 H1 H0
  by_cases hn : n < 1 ∨ 8 < n
  · have HN := hid (fun w a m cap => qload_badn w n hn a m cap)
    have HM := hid (fun w a m cap => xload_badn w n hn a m cap)
    clear hn
    have HH := hid H
    clear H
    go_wp2_with fail
    refine (HN.out _ _ _ _).mono ?_
    rintro e w103 ⟨rfl, rfl⟩
    go_wp2_with fail
    refine (HM.out _ _ _ _).mono ?_
    rintro e w104 ⟨rfl, rfl⟩
    go_wp2_with fail
    have H := HH.out
    clear HH
    have HOwn := own_in (H.row 0 rfl)
    refine (st_qsame H HOwn.1 (HA.out _ H.fr) rfl).mono ?_
    clear H
    rintro e w105 ⟨rfl, H⟩
    try simp only [List.nil_append, List.cons_append, List.set_cons_zero, List.set_cons_succ] at H
    have hcell := (own_in (H.row 0 rfl)).2.1
    have hgl := World.block_lt_of_cell? _ _ hcell
    simp only at hgl
    have HH := hid (H.toWr 0 rfl)
    clear H HOwn
    go_wp2_with fail
    clear hcell hgl
    go_loopw [12] (fun i wr => ∃ k : Nat, k ≤ r.length ∧ i = .int .i64 k ∧ St (.of w) wr [WrT 37 8 (some ⟨g, 0, none⟩) r.length]) (fun i _ => r.length - (intOf i).toNat)
    case atStart => exact ⟨0, Nat.zero_le _, rfl, HH.out⟩
    case round =>
      clear HH
      obtain ⟨k, hk, rfl, H⟩ := hrel
      obtain ⟨V, hV⟩ := H.wr 0 rfl
      by_cases hkl : k < r.length
      · have d0 := hV.cell (k * 8) (by omega)
        have d1 := hV.cell (k * 8 + 1) (by omega)
        have d2 := hV.cell (k * 8 + 2) (by omega)
        have d3 := hV.cell (k * 8 + 3) (by omega)
        have d4 := hV.cell (k * 8 + 4) (by omega)
        have d5 := hV.cell (k * 8 + 5) (by omega)
        have d6 := hV.cell (k * 8 + 6) (by omega)
        have d7 := hV.cell (k * 8 + 7) (by omega)
        have f0 := hV.free (k * 8)
        have f1 := hV.free (k * 8 + 1)
        have f2 := hV.free (k * 8 + 2)
        have f3 := hV.free (k * 8 + 3)
        have f4 := hV.free (k * 8 + 4)
        have f5 := hV.free (k * 8 + 5)
        have f6 := hV.free (k * 8 + 6)
        have f7 := hV.free (k * 8 + 7)
        rw [Nat.zero_add] at d0 d1 d2 d3 d4 d5 d6 d7 f0 f1 f2 f3 f4 f5 f6 f7
        have HH := hid H
        clear hV H
        go_wp2_with fail
        go_roundw
        case rel => exact ⟨k + 1, by omega, by go_num, (((((((HH.out.setWr 0 rfl _ _).setWr 0 rfl _ _).setWr 0 rfl _ _).setWr 0 rfl _ _).setWr 0 rfl _ _).setWr 0 rfl _ _).setWr 0 rfl _ _).setWr 0 rfl _ _⟩
        case measure => simp [intOf]; omega
      · clear hV
        go_wp2_with fail
        refine (fixed11 _).mono ?_
        rintro e w106 ⟨rfl, hF2⟩
        go_wp2_with fail
        go_ret
        exact ⟨rfl, H.fr.trans hF2⟩
  have hn1 : 1 ≤ n := by omega
  have hn8 : n ≤ 8 := by omega
  clear hn
  by_cases hwf : (⟨n, r⟩ : QS).wf
  · have HWf := hid hwf
    clear hwf
    have HH := hid H
    clear H
    go_wp2_with fail
    refine (st_qload HH.out n hn1 hn8 _ _ c r rfl (own_in (HH.out.row 0 rfl)).1 HWf.out).mono ?_
    clear HH
    rintro e w3 ⟨Q, rfl, H⟩
    try simp only [List.nil_append, List.cons_append, List.set_cons_zero, List.set_cons_succ] at H
    go_wp2_with fail
    refine (st_xload H n hn1 hn8 a _ cap r rfl (HA.out _ H.fr) HWf.out).mono ?_
    clear H
    rintro e w4 ⟨X, rfl, H⟩
    try simp only [List.nil_append, List.cons_append, List.set_cons_zero, List.set_cons_succ] at H
    go_wp2_with fail
    have HOwn := own_in (H.row 0 rfl)
    refine (st_qsame H HOwn.1 (HA.out _ H.fr) rfl).mono ?_
    clear H
    rintro e w107 ⟨rfl, H⟩
    try simp only [List.nil_append, List.cons_append, List.set_cons_zero, List.set_cons_succ] at H
    have hcell := (own_in (H.row 0 rfl)).2.1
    have hgl := World.block_lt_of_cell? _ _ hcell
    simp only at hgl
    have HH := hid (H.toWr 0 rfl)
    clear H HOwn
    go_wp2_with fail
    clear hcell hgl
    go_loopw [12] (fun i wr => ∃ k : Nat, k ≤ r.length ∧ i = .int .i64 k ∧ St (.of w) wr [WrT 37 8 (some ⟨g, 0, none⟩) r.length, QkT Q ⟨n, r⟩, XqT X ⟨n, r⟩]) (fun i _ => r.length - (intOf i).toNat)
    case atStart => exact ⟨0, Nat.zero_le _, rfl, HH.out⟩
    case round =>
      clear HH
      obtain ⟨k, hk, rfl, H⟩ := hrel
      obtain ⟨V, hV⟩ := H.wr 0 rfl
      by_cases hkl : k < r.length
      · have d0 := hV.cell (k * 8) (by omega)
        have d1 := hV.cell (k * 8 + 1) (by omega)
        have d2 := hV.cell (k * 8 + 2) (by omega)
        have d3 := hV.cell (k * 8 + 3) (by omega)
        have d4 := hV.cell (k * 8 + 4) (by omega)
        have d5 := hV.cell (k * 8 + 5) (by omega)
        have d6 := hV.cell (k * 8 + 6) (by omega)
        have d7 := hV.cell (k * 8 + 7) (by omega)
        have f0 := hV.free (k * 8)
        have f1 := hV.free (k * 8 + 1)
        have f2 := hV.free (k * 8 + 2)
        have f3 := hV.free (k * 8 + 3)
        have f4 := hV.free (k * 8 + 4)
        have f5 := hV.free (k * 8 + 5)
        have f6 := hV.free (k * 8 + 6)
        have f7 := hV.free (k * 8 + 7)
        rw [Nat.zero_add] at d0 d1 d2 d3 d4 d5 d6 d7 f0 f1 f2 f3 f4 f5 f6 f7
        have HH := hid H
        clear hV H
        go_wp2_with fail
        go_roundw
        case rel => exact ⟨k + 1, by omega, by go_num, (((((((HH.out.setWr 0 rfl _ _).setWr 0 rfl _ _).setWr 0 rfl _ _).setWr 0 rfl _ _).setWr 0 rfl _ _).setWr 0 rfl _ _).setWr 0 rfl _ _).setWr 0 rfl _ _⟩
        case measure => simp [intOf]; omega
      · clear hV
        go_wp2_with fail
        refine (played11 (H.pick [1, 2] (R' := [QkT Q ⟨n, r⟩, XqT X ⟨n, r⟩]) (by decide) rfl (by intro k i hk; match k with | 0 => cases hk; rfl | 1 => cases hk; rfl | k + 2 => simp at hk)) HWf.out s ns cs l HO.out).mono ?_
        rintro e w3 ⟨rfl, hF⟩
        have HF := hid hF
        clear H hF
        go_wp2_with fail
        refine (fixed11 _).mono ?_
        rintro e w108 ⟨rfl, hF2⟩
        go_wp2_with fail
        go_ret
        exact ⟨rfl, HF.out.trans hF2⟩
  · have HWf := hid hwf
    clear hwf
    have HH := hid H
    clear H
    go_wp2_with fail
    refine (st_qload_bad HH.out n hn1 hn8 _ _ c r rfl (own_in (HH.out.row 0 rfl)).1 HWf.out).mono ?_
    clear HH
    rintro e w3 ⟨rfl, H⟩
    go_wp2_with fail
    refine (st_xload_bad H n hn1 hn8 a _ cap r rfl (HA.out _ H.fr) HWf.out).mono ?_
    clear H
    rintro e w4 ⟨rfl, H⟩
    go_wp2_with fail
    have HOwn := own_in (H.row 0 rfl)
    refine (st_qsame H HOwn.1 (HA.out _ H.fr) rfl).mono ?_
    clear H
    rintro e w109 ⟨rfl, H⟩
    try simp only [List.nil_append, List.cons_append, List.set_cons_zero, List.set_cons_succ] at H
    have hcell := (own_in (H.row 0 rfl)).2.1
    have hgl := World.block_lt_of_cell? _ _ hcell
    simp only at hgl
    have HH := hid (H.toWr 0 rfl)
    clear H HOwn
    go_wp2_with fail
    clear hcell hgl
    go_loopw [12] (fun i wr => ∃ k : Nat, k ≤ r.length ∧ i = .int .i64 k ∧ St (.of w) wr [WrT 37 8 (some ⟨g, 0, none⟩) r.length]) (fun i _ => r.length - (intOf i).toNat)
    case atStart => exact ⟨0, Nat.zero_le _, rfl, HH.out⟩
    case round =>
      clear HH
      obtain ⟨k, hk, rfl, H⟩ := hrel
      obtain ⟨V, hV⟩ := H.wr 0 rfl
      by_cases hkl : k < r.length
      · have d0 := hV.cell (k * 8) (by omega)
        have d1 := hV.cell (k * 8 + 1) (by omega)
        have d2 := hV.cell (k * 8 + 2) (by omega)
        have d3 := hV.cell (k * 8 + 3) (by omega)
        have d4 := hV.cell (k * 8 + 4) (by omega)
        have d5 := hV.cell (k * 8 + 5) (by omega)
        have d6 := hV.cell (k * 8 + 6) (by omega)
        have d7 := hV.cell (k * 8 + 7) (by omega)
        have f0 := hV.free (k * 8)
        have f1 := hV.free (k * 8 + 1)
        have f2 := hV.free (k * 8 + 2)
        have f3 := hV.free (k * 8 + 3)
        have f4 := hV.free (k * 8 + 4)
        have f5 := hV.free (k * 8 + 5)
        have f6 := hV.free (k * 8 + 6)
        have f7 := hV.free (k * 8 + 7)
        rw [Nat.zero_add] at d0 d1 d2 d3 d4 d5 d6 d7 f0 f1 f2 f3 f4 f5 f6 f7
        have HH := hid H
        clear hV H
        go_wp2_with fail
        go_roundw
        case rel => exact ⟨k + 1, by omega, by go_num, (((((((HH.out.setWr 0 rfl _ _).setWr 0 rfl _ _).setWr 0 rfl _ _).setWr 0 rfl _ _).setWr 0 rfl _ _).setWr 0 rfl _ _).setWr 0 rfl _ _).setWr 0 rfl _ _⟩
        case measure => simp [intOf]; omega
      · clear hV
        go_wp2_with fail
        refine (fixed11 _).mono ?_
        rintro e w110 ⟨rfl, hF2⟩
        go_wp2_with fail
        go_ret
        exact ⟨rfl, H.fr.trans hF2⟩

theorem qloads_walk (w : World) (n : Int) (n1 : -9223372036854775808 ≤ n) (n2 : n ≤ 9223372036854775807) (a : Option Addr) (m cap : Nat) (V : Nat → Value) (hA : SlIn w 8 64 a m cap V) (hp0 : ∀ i, i < m → I64 (V (i * 8))) (hp1 : ∀ i, i < m → I64 (V (i * 8 + 1))) (hp2 : ∀ i, i < m → I64 (V (i * 8 + 2))) (hp3 : ∀ i, i < m → I64 (V (i * 8 + 3)))
    (hp4 : ∀ i, i < m → I64 (V (i * 8 + 4))) (hp5 : ∀ i, i < m → I64 (V (i * 8 + 5))) (hp6 : ∀ i, i < m → I64 (V (i * 8 + 6))) (hp7 : ∀ i, i < m → U64 (V (i * 8 + 7))) (s : Option Addr) (ns cs : Nat) (U : Nat → Value) (hT : SlIn w 8 64 s ns cs U) (hq0 : ∀ i, i < ns → I64 (U (i * 8))) (hq1 : ∀ i, i < ns → I64 (U (i * 8 + 1))) (hq2 : ∀ i, i < ns → I64 (U (i * 8 + 2))) (hq3 : ∀ i, i < ns → I64 (U (i * 8 + 3)))
    (hq4 : ∀ i, i < ns → I64 (U (i * 8 + 4))) (hq5 : ∀ i, i < ns → I64 (U (i * 8 + 5))) (hq6 : ∀ i, i < ns → I64 (U (i * 8 + 6))) (hq7 : ∀ i, i < ns → U64 (U (i * 8 + 7))) :
    Calls Try.prog 10 #[.int .i64 n, .slice a m cap, .slice s ns cs] w fun e w' => e = .returned (.bool true) ∧ Fr [] w w' := by
  obtain ⟨l, hO⟩ := ops11_of hT hq0 hq1 hq2 hq3 hq4 hq5 hq6 hq7
  obtain ⟨r, hr, hI⟩ := rows_of hA hp0 hp1 hp2 hp3 hp4 hp5 hp6 hp7
  have h1 := hA.rch
  have h2 := hA.le
  exact qloads_any w n a m cap r hr hI (by omega) s ns cs l hO

end Go.Proofs.Ythdcpenhfccagaa
