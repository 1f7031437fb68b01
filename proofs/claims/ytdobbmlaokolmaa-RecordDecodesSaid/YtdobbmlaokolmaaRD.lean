/-
  gafferlaw08: fixed.
-/
import Derived.Test.YtdobbmlaokolmaaRC
namespace Go.Proofs.Ytdobbmlaokolmaa
open Go.RowKit
set_option linter.unusedVariables false
set_option linter.unusedSimpArgs false

/-- A row of changes of a block of the walk's own. -/
theorem in_new {w : World} {g : Nat} {l : List (CV × TS)} (h : w.heap[g]? = some (.cells (cL.cells l).toArray 27 (0, 0))) (hl : l.length ≤ maxLen) : In w 10 (some ⟨g, 0, none⟩) l.length l.length (cL.at_ l) := by
  refine WRow.toIn (e := 27) (.inr ⟨g, _, rfl, h, ?_, fun j hj => ?_⟩) (Nat.le_refl _) hl
  · have := cL.cells_len l
    rw [List.size_toArray, this]; exact Nat.le_refl _
  · rw [List.getElem?_toArray]; exact cL.get l j hj

theorem nil_texts (w : World) : In w 1 none 0 0 (sL.at_ []) := WRow.toIn (e := 9) (.inl ⟨rfl, rfl⟩) (Nat.le_refl _) (Nat.zero_le _)

section
variable {W : Base} {w : World} {R : List Thing}
theorem St.cr (H : St W w R) (i : Nat) {a : Option Addr} {l : List (CV × TS)} (hi : R[i]? = some (CrT a l)) : In w 10 a l.length l.length (cL.at_ l) ∧ ∃ F, (a.map (·.block)).toList = F := by
  obtain ⟨F, ⟨h1, h2, h3⟩, _⟩ := H.get i hi
  exact ⟨h2.toIn (Nat.le_refl _) h3, _, rfl⟩
/-- What Decode tells is a row of changes. -/
theorem St.chIn {a : Option Addr} {l : List (CV × TS)} (H : St W w (R ++ (CrT a l :: txs l))) (hb : ∀ x, x ∈ l → 0 ≤ x.1.bits ∧ x.1.bits < 18446744073709551616) : ChIn w a l.length l.length l := by
  refine ⟨(H.cr (R.length + 0) (by rw [get_behind]; rfl)).1, rfl, fun x hx => ⟨?_, hb x hx⟩⟩
  obtain ⟨k, hk, rfl⟩ := List.getElem_of_mem hx
  exact H.tx (R.length + (k + 1)) (by rw [get_behind, List.getElem?_cons_succ]; simp [txs, hk])
end

theorem fx_dec {w w1 : World} (H1 : St (.of w) w1 []) : Calls Try.prog 18 #[.string ⟨#[1, 1, 172, 2]⟩] w1 fun e w2 => ∃ (g : Nat) (t : TS), e = .returned (.tuple #[.slice (some ⟨g, 0, none⟩) 1 1, .int .i64 0]) ∧ Fr [] w w2 ∧ In w2 1 t.a 0 t.c (sL.at_ []) ∧
    w2.cell? ⟨g, 0, none⟩ = some (.int .i64 1) ∧ w2.cell? ⟨g, 1, none⟩ = some (.int .i64 300) ∧ w2.cell? ⟨g, 2, none⟩ = some (.int .i64 0) ∧ w2.cell? ⟨g, 3, none⟩ = some (.int .i64 0) ∧ w2.cell? ⟨g, 4, none⟩ = some (.int .i64 0) ∧ w2.cell? ⟨g, 5, none⟩ = some (.int .i64 0) ∧ w2.cell? ⟨g, 6, none⟩ = some (.int .i64 0) ∧ w2.cell? ⟨g, 7, none⟩ = some (.int .u64 0) ∧ w2.cell? ⟨g, 8, none⟩ = some (.string ⟨#[]⟩) ∧ w2.cell? ⟨g, 9, none⟩ = some (.slice t.a 0 t.c) := by
  have hD := st_decode H1 ⟨#[1, 1, 172, 2]⟩ (by decide)
  rw [fx_decode] at hD
  refine hD.mono ?_
  rintro e w2 ⟨a, l, hl, rfl, H2⟩
  obtain ⟨c, t, rfl⟩ : ∃ c t, l = [(c, t)] := by
    rcases l with _ | ⟨⟨c, t⟩, _ | ⟨y, l⟩⟩
    · simp at hl
    · exact ⟨c, t, rfl⟩
    · simp at hl
  simp only [List.map_cons, List.map_nil, List.cons.injEq, and_true] at hl
  subst hl
  have hci := H2.chIn (by intro x hx; simp only [List.mem_singleton] at hx; subst hx; exact ⟨by show (0 : Int) ≤ 0; decide, by show (0 : Int) < 18446744073709551616; decide⟩)
  have hr := hci.row
  obtain ⟨F, ⟨_, hW, _⟩, _⟩ := H2.get 0 (A := Cr1 a [(fxR, t)]) rfl
  obtain ⟨g, rfl⟩ := hW.sm (Nat.zero_lt_succ 0)
  obtain ⟨c0, c1, c2, c3, c4, c5, c6, c7, c8, c9⟩ := ch_cells hr 0 (Nat.zero_lt_succ 0) (fxR, t) rfl
  exact ⟨g, t, rfl, H2.fr, (hci.one _ (List.mem_singleton.2 rfl)).1, c0, c1, c2, c3, c4, c5, c6, c7, c8, c9⟩

set_option maxHeartbeats 4000000 in
set_option maxRecDepth 100000 in
theorem fixed_walk (w : World) : Calls Try.prog 14 #[] w fun e w' => e = .returned (.bool true) ∧ Fr [] w w' := by
  have hbk := blk_alloc_at w (.cells (cL.cells [(fxG, ⟨none, 0⟩), (fxX, ⟨none, 0⟩)]).toArray 27) _ rfl
  have hE := encode_walk (w.alloc (.cells (cL.cells [(fxG, ⟨none, 0⟩), (fxX, ⟨none, 0⟩)]).toArray 27)) (some ⟨w.heap.size, 0, none⟩) 2 2 [(fxG, ⟨none, 0⟩), (fxX, ⟨none, 0⟩)]
    ⟨in_new hbk (by unfold maxLen; decide), rfl, fun x hx => by
      simp only [List.mem_cons, List.not_mem_nil, or_false] at hx
      rcases hx with rfl | rfl <;> exact ⟨nil_texts _, by decide, by decide⟩⟩
  rw [show ([(fxG, (⟨none, 0⟩ : TS)), (fxX, ⟨none, 0⟩)].map (·.1)) = [fxG, fxX] from rfl, fx_encode] at hE
  have hE := hid hE
  clear hbk
  go_enter Try.func14, Try.ntmps14
  go_wp2_with (first
    | (go_at_call 15; refine hE.out.mono ?_; rintro e w1 ⟨rfl, hF⟩; have H1 := (St.refl w).same (((Fr.refl [] w).alloc _).trans hF); have H1 := hid H1)
    | (go_at_call 18; refine (fx_dec H1.out).mono ?_; rintro e w2 ⟨g, t, rfl, hF2, hT, c0, c1, c2, c3, c4, c5, c6, c7, c8, c9⟩; have hC := hid (check_walk w2 fxR t hT); rw [fxR_check] at hC; have hF2 := hid hF2; clear hT)
    | (go_at_call 11; refine hC.out.mono ?_; rintro e w3 ⟨rfl, hF3⟩))
  go_ret
  exact ⟨rfl, hF2.out.trans hF3⟩
end Go.Proofs.Ytdobbmlaokolmaa
