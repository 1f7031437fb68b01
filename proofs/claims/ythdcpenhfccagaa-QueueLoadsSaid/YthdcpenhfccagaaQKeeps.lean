/-
  The walk of QueueKeeps.
-/
import Derived.Test.YthdcpenhfccagaaQR1
import Derived.Test.YthdcpenhfccagaaQ9
namespace Go.Proofs.Ythdcpenhfccagaa
open Go.RowKit
set_option linter.unusedVariables false
set_option linter.unusedSimpArgs false

/-- Rows, as they came in. -/
theorem rows_of {w : World} {a : Option Addr} {n cap : Nat} {U : Nat → Value} (hT : SlIn w 8 64 a n cap U) (hq0 : ∀ i, i < n → I64 (U (i * 8))) (hq1 : ∀ i, i < n → I64 (U (i * 8 + 1))) (hq2 : ∀ i, i < n → I64 (U (i * 8 + 2))) (hq3 : ∀ i, i < n → I64 (U (i * 8 + 3)))
    (hq4 : ∀ i, i < n → I64 (U (i * 8 + 4))) (hq5 : ∀ i, i < n → I64 (U (i * 8 + 5))) (hq6 : ∀ i, i < n → I64 (U (i * 8 + 6))) (hq7 : ∀ i, i < n → U64 (U (i * 8 + 7))) : ∃ l : List QR, l.length = n ∧ In w 8 a n cap (qL.at_ l) := by
  have ci : ∀ v, I64 v → v = .int .i64 (intOf v) := fun v ⟨n, h, h1, h2⟩ => by subst h; rfl
  have cu : ∀ v, U64 v → v = .int .u64 (intOf v) := fun v ⟨n, h, h1, h2⟩ => by subst h; rfl
  refine ⟨(List.range n).map fun k => ⟨intOf (U (k * 8)), intOf (U (k * 8 + 1)), intOf (U (k * 8 + 2)), intOf (U (k * 8 + 3)), intOf (U (k * 8 + 4)), intOf (U (k * 8 + 5)), intOf (U (k * 8 + 6)), intOf (U (k * 8 + 7))⟩, by simp, in_lay qL hT _ fun i hi q hq => ?_⟩
  show U (i * 8 + q) = _
  have hq : q < 8 := hq
  match q, hq with
  | 0, _ => exact ci _ (hq0 i hi)
  | 1, _ => exact ci _ (hq1 i hi)
  | 2, _ => exact ci _ (hq2 i hi)
  | 3, _ => exact ci _ (hq3 i hi)
  | 4, _ => exact ci _ (hq4 i hi)
  | 5, _ => exact ci _ (hq5 i hi)
  | 6, _ => exact ci _ (hq6 i hi)
  | 7, _ => exact cu _ (hq7 i hi)

section
variable {W : Base} {w : World} {R : List Thing}

/-- Load, over what stands. -/
theorem st_qload (H : St W w R) (n : Int) (hn1 : 1 ≤ n) (hn8 : n ≤ 8) (a : Option Addr) (m cap : Nat) (l : List QR) (hm : l.length = m) (ha : In w 8 a m cap (qL.at_ l)) (hw : (⟨n, l⟩ : QS).wf) :
    Calls Try.prog 23 #[.int .i64 n, .slice a m cap] w fun e w' => ∃ Q, e = .returned (.tuple #[.pointer (some ⟨Q, 0, none⟩), .int .i64 0]) ∧ St W w' (R ++ [QkT Q ⟨n, l⟩]) :=
  (qload_any w n hn1 hn8 a m cap l hm ha).mono fun e w' h => by
    rcases h with ⟨_, Q, rfl, H2⟩ | ⟨h, _⟩
    · exact ⟨Q, rfl, st_of_one H H2⟩
    · exact absurd hw h
theorem st_qload_bad (H : St W w R) (n : Int) (hn1 : 1 ≤ n) (hn8 : n ≤ 8) (a : Option Addr) (m cap : Nat) (l : List QR) (hm : l.length = m) (ha : In w 8 a m cap (qL.at_ l)) (hw : ¬ (⟨n, l⟩ : QS).wf) :
    Calls Try.prog 23 #[.int .i64 n, .slice a m cap] w fun e w' => e = .returned (.tuple #[.pointer none, .int .i64 114]) ∧ St W w' R :=
  (qload_any w n hn1 hn8 a m cap l hm ha).mono fun e w' h => by
    rcases h with ⟨h, _⟩ | ⟨_, rfl, hF⟩
    · exact absurd h hw
    · exact ⟨rfl, H.same hF⟩
theorem st_rowsMay (H : St W w R) (att : Int) (h1 : 1 ≤ att) (h2 : att ≤ 8) (a : Option Addr) (n cap : Nat) (l : List QR) (hn : l.length = n) (ha : In w 8 a n cap (qL.at_ l)) (z : Bool) (hz : z = true ↔ (⟨att, l⟩ : QS).wf) :
    Calls Try.prog 24 #[.int .i64 att, .slice a n cap] w fun e w' => e = .returned (.bool z) ∧ St W w' R :=
  (rowsMay_any w att a n cap l hn ha).mono fun e w' ⟨y, he, hy, hF⟩ => by
    rw [rm_wf h1 h2] at hy
    have : y = z := by rw [Bool.eq_iff_iff, hy, hz]
    exact ⟨by rw [he, this], H.same hF⟩

/-- Rows, to be written into. -/
theorem st_rowsWr (H : St W w R) (i : Nat) {Q : Nat} {q : QS} (hi : R[i]? = some (QkT Q q)) (hl : q.rows.length ≤ 8) :
    Calls Try.prog 19 #[.pointer (some ⟨Q, 0, none⟩)] w fun e w' => ∃ a, e = .returned (.slice a q.rows.length q.rows.length) ∧ St W w' (R ++ [WrT 37 8 a q.rows.length]) := by
  refine (st_rows H i hi hl).mono ?_
  rintro e w' ⟨a, rfl, hF, hW, hb⟩
  refine ⟨a, rfl, H.new hF (A := Wr1 37 8 a q.rows.length) inferInstance ⟨rfl, _, hW⟩ fun x hx => ?_⟩
  rcases hW with ⟨rfl, _⟩ | ⟨g, cur, rfl, hh, _⟩
  · simp at hx
  · simp at hx; subst hx; exact hb _ 0 rfl
end

set_option maxHeartbeats 3200000 in
set_option maxRecDepth 100000 in
theorem qkeeps_any (w : World) (a : Option Addr) (n cap : Nat) (l : List QR) (hn : l.length = n) (ha : In w 8 a n cap (qL.at_ l)) :
    Calls Try.prog 6 #[.slice a n cap] w fun e w' => e = .returned (.bool true) ∧ Fr [] w w' := by
  have hms := ha.max
  have H := St.refl w
  have HA := hid ha
  by_cases hw : (⟨8, l⟩ : QS).wf
  case neg =>
    have HW := hid hw
    have HN := hid hn
    clear hn hw ha
    go_enter Try.func6, Try.ntmps6
    go_wp2_with fail
    refine (st_qload_bad H 8 (by omega) (by omega) a n cap l HN.out HA.out HW.out).mono ?_
    clear H
    rintro e w101 ⟨rfl, H⟩
    try simp only [List.nil_append, List.cons_append, List.set_cons_zero, List.set_cons_succ] at H
    go_wp2_with fail
    refine (st_rowsMay H 8 (by omega) (by omega) a n cap l HN.out (HA.out.fr0 H.fr) false ⟨(fun h => by cases h), fun h => absurd h HW.out⟩).mono ?_
    clear H
    rintro e w102 ⟨rfl, H⟩
    try simp only [List.nil_append, List.cons_append, List.set_cons_zero, List.set_cons_succ] at H
    go_wp2_with fail
    refine (st_fixed11 H).mono ?_
    clear H
    rintro e w103 ⟨rfl, H⟩
    try simp only [List.nil_append, List.cons_append, List.set_cons_zero, List.set_cons_succ] at H
    go_wp2_with fail
    go_ret
    exact ⟨rfl, H.fr⟩
  have hl8 : l.length ≤ 8 := hw.n
  subst hn
  have HW := hid hw
  clear ha hw
  go_enter Try.func6, Try.ntmps6
  go_wp2_with fail
  refine (st_qload H 8 (by omega) (by omega) a _ cap l rfl HA.out HW.out).mono ?_
  clear H
  rintro e w104 ⟨Q, rfl, H⟩
  try simp only [List.nil_append, List.cons_append, List.set_cons_zero, List.set_cons_succ] at H
  go_wp2_with fail
  refine (st_rowsWr H 0 rfl hl8).mono ?_
  clear H
  rintro e w105 ⟨c, rfl, H⟩
  try simp only [List.nil_append, List.cons_append, List.set_cons_zero, List.set_cons_succ] at H
  go_wp2_with fail
  refine (st_rowsT H 0 rfl hl8).mono ?_
  clear H
  rintro e w106 ⟨b, rfl, H⟩
  try simp only [List.nil_append, List.cons_append, List.set_cons_zero, List.set_cons_succ] at H
  go_wp2_with fail
  have HH := hid H
  clear H
  go_loopw [7] (fun i wr => ∃ k : Nat, k ≤ l.length ∧ i = .int .i64 k ∧ St (.of w) wr [QkT Q ⟨8, l⟩, WrT 37 8 c l.length, RwT b l]) (fun i _ => l.length - (intOf i).toNat)
  case atStart => exact ⟨0, Nat.zero_le _, rfl, HH.out⟩
  case round =>
    clear HH
    obtain ⟨k, hk, rfl, H⟩ := hrel
    obtain ⟨V, hV⟩ := H.wr 1 rfl
    by_cases hkl : k < l.length
    · obtain ⟨g, rfl⟩ := hV.sm (by omega)
      have d0 := hV.cell (k * 8) (by omega)
      have d1 := hV.cell (k * 8 + 1) (by omega)
      have d2 := hV.cell (k * 8 + 2) (by omega)
      have d3 := hV.cell (k * 8 + 3) (by omega)
      have d4 := hV.cell (k * 8 + 4) (by omega)
      have d5 := hV.cell (k * 8 + 5) (by omega)
      have d6 := hV.cell (k * 8 + 6) (by omega)
      have d7 := hV.cell (k * 8 + 7) (by omega)
      have f0 := hV.free (k * 8)
      have f1 := hV.free (k * 8 + 1)
      have f2 := hV.free (k * 8 + 2)
      have f3 := hV.free (k * 8 + 3)
      have f4 := hV.free (k * 8 + 4)
      have f5 := hV.free (k * 8 + 5)
      have f6 := hV.free (k * 8 + 6)
      have f7 := hV.free (k * 8 + 7)
      rw [Nat.zero_add] at d0 d1 d2 d3 d4 d5 d6 d7 f0 f1 f2 f3 f4 f5 f6 f7
      have HH := hid H
      clear hV H
      go_wp2_with fail
      go_roundw
      case rel => exact ⟨k + 1, by omega, by go_num, (((((((HH.out.setWr 1 rfl _ _).setWr 1 rfl _ _).setWr 1 rfl _ _).setWr 1 rfl _ _).setWr 1 rfl _ _).setWr 1 rfl _ _).setWr 1 rfl _ _).setWr 1 rfl _ _⟩
      case measure => simp [intOf]; omega
    · obtain rfl : k = l.length := by omega
      obtain ⟨i0, hi0, hz0, hz1, hz2⟩ := info_parts info_qrow
      have HI := hid (And.intro hi0 (And.intro hz0 (And.intro hz1 hz2)))
      have HV := hid (hV.toIn (Nat.le_refl _) (by unfold maxLen; omega))
      have HH := hid H
      clear hi0 hz0 hz1 hz2 hV H
      go_wp2_with (at_builtin; refine wpList_append_full rfl (.tmp 49) (.tmp 51) 42 rfl 37 i0 (.agg #[.int .i64 0, .int .i64 0, .int .i64 0, .int .i64 0, .int .i64 0, .int .i64 0, .int .i64 0, .int .u64 0]) 8 64 Try.underlying42 HI.out.1 HI.out.2.1 HI.out.2.2.1 HI.out.2.2.2 rfl (by decide) c l.length V rfl ?qa ⟨wr.heap.size, 0, none⟩ 1 1 (QR.f ⟨-99, 0, 0, 0, 0, 0, 0, 0⟩) rfl (by decide) rfl ?qb ?qc ?qd ?qe ?_)
      case qa => exact HV.out.fr0 ((Fr.refl [] wr).alloc _)
      case qb => exact news_alloc wr (QR.f ⟨-99, 0, 0, 0, 0, 0, 0, 0⟩) _
      case qc => exact qL.one _
      case qd => unfold maxLen; omega
      case qe => omega
      intro g6 ca6 w6 hF6
      have H := (HH.out.alloc_ _).same hF6
      clear hF6 HH
      go_wp2_with fail
      refine (st_qsame H (H.rw_ 2 rfl) (HA.out.fr0 H.fr) rfl).mono ?_
      clear H
      rintro e w107 ⟨rfl, H⟩
      try simp only [List.nil_append, List.cons_append, List.set_cons_zero, List.set_cons_succ] at H
      go_wp2_with fail
      refine (st_rowsT H 0 rfl hl8).mono ?_
      clear H
      rintro e w108 ⟨b2, rfl, H⟩
      try simp only [List.nil_append, List.cons_append, List.set_cons_zero, List.set_cons_succ] at H
      go_wp2_with fail
      refine (st_qsame H (H.rw_ 3 rfl) (HA.out.fr0 H.fr) rfl).mono ?_
      clear H
      rintro e w109 ⟨rfl, H⟩
      try simp only [List.nil_append, List.cons_append, List.set_cons_zero, List.set_cons_succ] at H
      go_wp2_with fail
      refine (st_fixed11 H).mono ?_
      clear H
      rintro e w110 ⟨rfl, H⟩
      try simp only [List.nil_append, List.cons_append, List.set_cons_zero, List.set_cons_succ] at H
      go_wp2_with fail
      go_ret
      exact ⟨rfl, H.fr⟩

theorem qkeeps_walk (w : World) (s : Option Addr) (ns cs : Nat) (U : Nat → Value) (hT : SlIn w 8 64 s ns cs U) (hq0 : ∀ i, i < ns → I64 (U (i * 8))) (hq1 : ∀ i, i < ns → I64 (U (i * 8 + 1))) (hq2 : ∀ i, i < ns → I64 (U (i * 8 + 2))) (hq3 : ∀ i, i < ns → I64 (U (i * 8 + 3)))
    (hq4 : ∀ i, i < ns → I64 (U (i * 8 + 4))) (hq5 : ∀ i, i < ns → I64 (U (i * 8 + 5))) (hq6 : ∀ i, i < ns → I64 (U (i * 8 + 6))) (hq7 : ∀ i, i < ns → U64 (U (i * 8 + 7))) :
    Calls Try.prog 6 #[.slice s ns cs] w fun e w' => e = .returned (.bool true) ∧ Fr [] w w' := by
  obtain ⟨l, hn, ha⟩ := rows_of hT hq0 hq1 hq2 hq3 hq4 hq5 hq6 hq7
  exact qkeeps_any w s ns cs l hn ha

end Go.Proofs.Ythdcpenhfccagaa
