/-
  Merged, in build order: Ap9.
-/
import Derived.Test.YtkiccbjngokpjaaM29
import Derived.Test.YtkiccbjngokpjaaM23
import Derived.Test.YtkiccbjngokpjaaM26
/-
  the pair of top: does.
-/
namespace Go.Proofs.Ytkiccbjngokpjaa
open Go.RowKit
set_option linter.unusedVariables false
set_option linter.unusedSimpArgs false

abbrev wdO (kind n : Int) : Obj := .cells #[.int .i64 kind, .int .i64 n] 52
def Pm.dup (x : Pm) (k : Nat) : Pm := match x.bag[k]? with
  | none => x
  | some p => x.send p.2
theorem Pm.dup_none {x : Pm} {k : Nat} (h : x.bag[k]? = none) : x.dup k = x := by unfold Pm.dup; rw [h]
theorem Pm.dup_some {x : Pm} {k : Nat} {p : Int × Pq} (h : x.bag[k]? = some p) : x.dup k = x.send p.2 := by unfold Pm.dup; rw [h]
theorem Pm.dlv_none {x : Pm} {k : Nat} (h : x.bag[k]? = none) : x.dlv k = x := by unfold Pm.dlv; rw [h]
theorem Pm.dlv_some {x : Pm} {k : Nat} {p : Int × Pq} (h : x.bag[k]? = some p) : x.dlv k = (x.drop k).comes p.2 := by unfold Pm.dlv; rw [h]
theorem pkD_num (m n : Int) (p : Pq) : ({ pkD (m, p) with num := n } : Dg) = pkD (n, p) := by
  unfold pkD
  rcases hb : p.isBack with _ | _ <;> rfl
section
variable {W : Base} {w : World}
theorem pa_drop {X C T N : Nat} {x : Pm} {k : Nat} (H : St W w ((paL X C T N x).set 0 (NtT N ((x.bag.map pkD).eraseIdx k) x.sent))) : St W w (paL X C T N (x.drop k)) := by
  have h2 : St W w [NtT N ((x.bag.map pkD).eraseIdx k) x.sent, BlkT X (prO C T N x.used x.acted.length x.answered.length), BlkT C (clC x.c), TbT T x.t.dk] := H
  rw [eraseIdx_map_pk] at h2
  exact h2
theorem st_ptick {X C T N : Nat} {x : Pm} (H : St W w (paL X C T N x)) (hb : x.c.timer ≤ 16) :
    Calls Try.prog 14 #[ptr C] w fun e w' => e = .returned (.tuple #[]) ∧ St W w' (paL X C T N x.tick) := by
  refine (st_tick H 2 rfl ((x.c.timer - 1 : Nat) : Int) ?_).mono ?_
  · rw [IntWalk.wrap64_in _ (by omega)]
    omega
  · rintro e w' ⟨rfl, h⟩
    exact ⟨rfl, h⟩
theorem tmod2 (n : Int) : (Int.tmod n 2 == 0) = !(decide (n % 2 ≠ 0)) := by
  have h : (Int.tmod n 2 = 0) ↔ (n % 2 = 0) := by
    rw [← Int.dvd_iff_tmod_eq_zero, ← Int.dvd_iff_emod_eq_zero]
  by_cases h1 : n % 2 = 0
  · rw [h.2 h1, h1]; rfl
  · have h2 : ¬ Int.tmod n 2 = 0 := fun e => h1 (h.1 e)
    rw [beq_eq_false_iff_ne.2 h2]
    simp [h1]
set_option maxHeartbeats 6400000 in
set_option maxRecDepth 100000 in
theorem st_pdoes1 {X C T N : Nat} {x : Pm} (H : St W w (paL X C T N x)) {B : Nat} (hx : x.ok) (hnu : x.nums B) (hB : B < 1099511627776) (hbl : x.bag.length ≤ 536870912) (n : Int) :
    Calls Try.prog 13 #[ptr X, .agg #[.int .i64 1, .int .i64 n]] w fun e w' => ∃ T', e = .returned (.tuple #[]) ∧ St W w' (paL X C T' N (x.asks (decide (n % 2 ≠ 0)))) := by
  have hOdd := hid (tmod2 n)
  have hLa := hid (show x.c.last < 1099511627776 from Nat.lt_of_le_of_lt hnu.la hB)
  clear hB
  have hbX := H.blk 1 rfl
  have hpl := hid (fun m hm => place_of n m hm)
  have H2 := H.alloc (wdO 1 n)
  have HLn := hid (show ∀ wx, Fr [] (w.alloc (wdO 1 n)) wx → Calls Try.prog 17 #[ptr N] wx fun e w' => e = .returned (.int .i64 x.bag.length) ∧ wx = w' from fun wx hF => by
    have h := st_nlen (H2.same hF) 0 rfl
    rw [List.length_map] at h
    exact h)
  have HS := hid (show ∀ wx, Fr [] (w.alloc (wdO 1 n)) wx → wx.cell? ⟨X, 2, none⟩ = some (ptr N) ∧ wx.cell? ⟨w.heap.size, 1, none⟩ = some (.int .i64 n) from fun wx hF => ⟨cell_blk (i := 2) ((H2.same hF).blk 1 rfl) rfl, cell_blk (i := 1) ((H2.same hF).blk 4 rfl) rfl⟩)
  have H2 := hid H2
  have HBL := hid hbl
  have HX := hid hx
  have HNu := hid hnu
  have x0 := cell_blk (i := 0) hbX rfl
  have x2 := cell_blk (i := 2) hbX rfl
  have hg := lt_of_block hbX
  clear H hbX hx hbl hnu
  by_cases he : x.bag.length = 0
  · have hp0 : x.place n = 0 := by unfold Pm.place; rw [if_pos he]
    have b0 : (x.bag.length : Int) = 0 := by omega
    rw [b0] at HLn
    have HP := hid hp0
    clear he hp0 b0
    go_enter Try.func13, Try.ntmps13
    go_wp2_with fail
    refine (HLn.out _ (Fr.refl _ _)).mono ?_
    rintro e w1 ⟨rfl, rfl⟩
    have HKI := hid (show ((x.place n : Nat) : Int) = 0 from by rw [HP.out]; rfl)
    go_wp2_with fail
    refine (st_pasks ((H2.out.same ((Fr.refl _ _))).take 4) n (decide (n % 2 ≠ 0)) hOdd.out hLa.out).mono ?_
    rintro e w9 ⟨rfl, H9⟩
    have H9 := hid H9
    go_wp2_with fail
    go_end0
    exact ⟨_, rfl, H9.out⟩
  · have b0 : (0 : Int) < x.bag.length := by omega
    have hp0 : x.place n = (n % (x.bag.length : Int)).toNat := by unfold Pm.place; rw [if_neg he]
    obtain ⟨m, hm⟩ : ∃ m : Int, (x.bag.length : Int) = m := ⟨_, rfl⟩
    rw [hm] at HLn b0 hp0
    have hnz : (m == 0) = false := by rw [beq_eq_false_iff_ne]; omega
    have hnz2 : ¬ m = 0 := by omega
    obtain ⟨q1, q2, q3, q4⟩ := hpl.out m (by omega)
    have hmm := hid (show m ≤ 1073741824 from by have := HBL.out; omega)
    rw [← hp0] at q3 q4
    clear hp0 he hm
    by_cases hs : n.tmod m < 0
    · have e4 := hid (q4 hs)
      have hw := hid (show wrap64 (n.tmod m + m) = ((x.place n : Nat) : Int) from by rw [IntWalk.wrap64_in _ (by have := hmm.out; omega)]; exact q4 hs)
      clear q1 q2 q3 q4
      go_enter Try.func13, Try.ntmps13
      go_wp2_with fail
      refine (HLn.out _ (Fr.refl _ _)).mono ?_
      rintro e w1 ⟨rfl, rfl⟩
      go_wp2_with fail
      refine wp_region_U (S := fun wx : World => wx.cell? ⟨X, 2, none⟩ = some (ptr N) ∧ wx.cell? ⟨w.heap.size, 1, none⟩ = some (.int .i64 n)) 8 (by kernel_rfl) (HS.out _ ((Fr.refl _ _).drew)) (fun hHeld => ?_)
      refine takeU (i := 0) (d := 13) (v := ?_) rfl rfl (by kernel_rfl) (by kernel_rfl) (by kernel_rfl) (by kernel_rfl) (by kernel_rfl) (fun _ _ _ h => h) (Or.inl ⟨by rfl, ?_⟩) hHeld ?_
      rotate_left
      · intro wq hSw; (try dsimp only at hSw); go_simp; all_goals (with_reducible rfl)
      simp only [Act.put, List.setIfInBounds_toArray, List.set_cons_zero, List.set_cons_succ]
      refine takeU (i := 1) (d := 14) (v := ?_) rfl rfl (by kernel_rfl) (by kernel_rfl) (by kernel_rfl) (by kernel_rfl) (by kernel_rfl) (fun _ _ _ h => h) (Or.inl ⟨by rfl, ?_⟩) hHeld ?_
      rotate_left
      · intro wq hSw; (try dsimp only at hSw); go_simp; all_goals (with_reducible rfl)
      simp only [Act.put, List.setIfInBounds_toArray, List.set_cons_zero, List.set_cons_succ]
      refine takeU (i := 2) (d := 15) (v := ?_) rfl rfl (by kernel_rfl) (by kernel_rfl) (by kernel_rfl) (by kernel_rfl) (by kernel_rfl) (fun _ _ _ h => h) (Or.inl ⟨by rfl, ?_⟩) hHeld ?_
      rotate_left
      · intro wq hSw; (try dsimp only at hSw); go_simp; all_goals (with_reducible rfl)
      simp only [Act.put, List.setIfInBounds_toArray, List.set_cons_zero, List.set_cons_succ]
      refine takeU (i := 3) (d := 16) (v := ?_) rfl rfl (by kernel_rfl) (by kernel_rfl) (by kernel_rfl) (by kernel_rfl) (by kernel_rfl) (fun _ _ _ h => h) (Or.inl ⟨by rfl, ?_⟩) hHeld ?_
      rotate_left
      · intro wq hSw; (try dsimp only at hSw); go_simp; all_goals (with_reducible rfl)
      simp only [Act.put, List.setIfInBounds_toArray, List.set_cons_zero, List.set_cons_succ]
      refine takeU (i := 4) (d := 17) (v := ?_) rfl rfl (by kernel_rfl) (by kernel_rfl) (by kernel_rfl) (by kernel_rfl) (by kernel_rfl) (fun _ _ _ h => h) (Or.inl ⟨by rfl, ?_⟩) hHeld ?_
      rotate_left
      · intro wq hSw; (try dsimp only at hSw); go_simp; all_goals (with_reducible rfl)
      simp only [Act.put, List.setIfInBounds_toArray, List.set_cons_zero, List.set_cons_succ]
      refine takeU (i := 5) (d := 18) (v := ?_) rfl rfl (by kernel_rfl) (by kernel_rfl) (by kernel_rfl) (by kernel_rfl) (by kernel_rfl) (fun _ _ _ h => h) (Or.inl ⟨by rfl, ?_⟩) hHeld ?_
      rotate_left
      · intro wq hSw; (try dsimp only at hSw); go_simp; all_goals (with_reducible rfl)
      simp only [Act.put, List.setIfInBounds_toArray, List.set_cons_zero, List.set_cons_succ]
      refine wpAnyU_ready (rs := [6]) (by kernel_rfl) (by simp) ?_
      refine AllReadyU.cons rfl (fun K1 hK => ?_) AllReadyU.nil
      go_simp
      go_at_call 17
      refine (HLn.out _ ((Fr.refl _ _).drew)).mono ?_
      rintro e w9 ⟨rfl, rfl⟩
      go_simp
      refine hK.out _ _ (fun _ => hHeld) (fun _ => ?_)
      clear hK K1
      refine takeU (i := 7) (d := 20) (v := ?_) rfl rfl (by kernel_rfl) (by kernel_rfl) (by kernel_rfl) (by kernel_rfl) (by kernel_rfl) (fun _ _ _ h => h) (Or.inl ⟨by rfl, ?_⟩) hHeld ?_
      rotate_left
      · intro wq hSw; (try dsimp only at hSw); go_simp; all_goals (with_reducible rfl)
      simp only [Act.put, List.setIfInBounds_toArray, List.set_cons_zero, List.set_cons_succ]
      refine wpAnyU_ready (rs := [8]) (by kernel_rfl) (by simp) ?_
      refine AllReadyU.cons rfl (fun K1 hK => ?_) AllReadyU.nil
      go_simp
      refine hK.out _ _ (fun h => absurd rfl h) (fun _ => ?_)
      clear hK K1 hHeld
      refine wpAnyU_done (by kernel_rfl) ?_ _
      go_wp2_with fail
      refine (HLn.out _ ((Fr.refl _ _).drew)).mono ?_
      rintro e w1 ⟨rfl, rfl⟩
      have HKI := hid hw.out.symm
      go_wp2_with fail
      refine (st_pasks ((H2.out.same ((Fr.refl _ _).drew)).take 4) n (decide (n % 2 ≠ 0)) hOdd.out hLa.out).mono ?_
      rintro e w9 ⟨rfl, H9⟩
      have H9 := hid H9
      go_wp2_with fail
      go_end0
      exact ⟨_, rfl, H9.out⟩
    · have e3 := hid (q3 (by omega))
      have hs2 : ¬ n.tmod m < 0 := hs
      clear q1 q2 q3 q4 hs
      go_enter Try.func13, Try.ntmps13
      go_wp2_with fail
      refine (HLn.out _ (Fr.refl _ _)).mono ?_
      rintro e w1 ⟨rfl, rfl⟩
      go_wp2_with fail
      refine wp_region_U (S := fun wx : World => wx.cell? ⟨X, 2, none⟩ = some (ptr N) ∧ wx.cell? ⟨w.heap.size, 1, none⟩ = some (.int .i64 n)) 8 (by kernel_rfl) (HS.out _ ((Fr.refl _ _).drew)) (fun hHeld => ?_)
      refine takeU (i := 0) (d := 13) (v := ?_) rfl rfl (by kernel_rfl) (by kernel_rfl) (by kernel_rfl) (by kernel_rfl) (by kernel_rfl) (fun _ _ _ h => h) (Or.inl ⟨by rfl, ?_⟩) hHeld ?_
      rotate_left
      · intro wq hSw; (try dsimp only at hSw); go_simp; all_goals (with_reducible rfl)
      simp only [Act.put, List.setIfInBounds_toArray, List.set_cons_zero, List.set_cons_succ]
      refine takeU (i := 1) (d := 14) (v := ?_) rfl rfl (by kernel_rfl) (by kernel_rfl) (by kernel_rfl) (by kernel_rfl) (by kernel_rfl) (fun _ _ _ h => h) (Or.inl ⟨by rfl, ?_⟩) hHeld ?_
      rotate_left
      · intro wq hSw; (try dsimp only at hSw); go_simp; all_goals (with_reducible rfl)
      simp only [Act.put, List.setIfInBounds_toArray, List.set_cons_zero, List.set_cons_succ]
      refine takeU (i := 2) (d := 15) (v := ?_) rfl rfl (by kernel_rfl) (by kernel_rfl) (by kernel_rfl) (by kernel_rfl) (by kernel_rfl) (fun _ _ _ h => h) (Or.inl ⟨by rfl, ?_⟩) hHeld ?_
      rotate_left
      · intro wq hSw; (try dsimp only at hSw); go_simp; all_goals (with_reducible rfl)
      simp only [Act.put, List.setIfInBounds_toArray, List.set_cons_zero, List.set_cons_succ]
      refine takeU (i := 3) (d := 16) (v := ?_) rfl rfl (by kernel_rfl) (by kernel_rfl) (by kernel_rfl) (by kernel_rfl) (by kernel_rfl) (fun _ _ _ h => h) (Or.inl ⟨by rfl, ?_⟩) hHeld ?_
      rotate_left
      · intro wq hSw; (try dsimp only at hSw); go_simp; all_goals (with_reducible rfl)
      simp only [Act.put, List.setIfInBounds_toArray, List.set_cons_zero, List.set_cons_succ]
      refine takeU (i := 4) (d := 17) (v := ?_) rfl rfl (by kernel_rfl) (by kernel_rfl) (by kernel_rfl) (by kernel_rfl) (by kernel_rfl) (fun _ _ _ h => h) (Or.inl ⟨by rfl, ?_⟩) hHeld ?_
      rotate_left
      · intro wq hSw; (try dsimp only at hSw); go_simp; all_goals (with_reducible rfl)
      simp only [Act.put, List.setIfInBounds_toArray, List.set_cons_zero, List.set_cons_succ]
      refine takeU (i := 5) (d := 18) (v := ?_) rfl rfl (by kernel_rfl) (by kernel_rfl) (by kernel_rfl) (by kernel_rfl) (by kernel_rfl) (fun _ _ _ h => h) (Or.inl ⟨by rfl, ?_⟩) hHeld ?_
      rotate_left
      · intro wq hSw; (try dsimp only at hSw); go_simp; all_goals (with_reducible rfl)
      simp only [Act.put, List.setIfInBounds_toArray, List.set_cons_zero, List.set_cons_succ]
      refine wpAnyU_ready (rs := [6]) (by kernel_rfl) (by simp) ?_
      refine AllReadyU.cons rfl (fun K1 hK => ?_) AllReadyU.nil
      go_simp
      go_at_call 17
      refine (HLn.out _ ((Fr.refl _ _).drew)).mono ?_
      rintro e w9 ⟨rfl, rfl⟩
      go_simp
      refine hK.out _ _ (fun _ => hHeld) (fun _ => ?_)
      clear hK K1
      refine takeU (i := 7) (d := 20) (v := ?_) rfl rfl (by kernel_rfl) (by kernel_rfl) (by kernel_rfl) (by kernel_rfl) (by kernel_rfl) (fun _ _ _ h => h) (Or.inl ⟨by rfl, ?_⟩) hHeld ?_
      rotate_left
      · intro wq hSw; (try dsimp only at hSw); go_simp; all_goals (with_reducible rfl)
      simp only [Act.put, List.setIfInBounds_toArray, List.set_cons_zero, List.set_cons_succ]
      refine wpAnyU_ready (rs := [8]) (by kernel_rfl) (by simp) ?_
      refine AllReadyU.cons rfl (fun K1 hK => ?_) AllReadyU.nil
      go_simp
      refine hK.out _ _ (fun h => absurd rfl h) (fun _ => ?_)
      clear hK K1 hHeld
      refine wpAnyU_done (by kernel_rfl) ?_ _
      have HKI := hid e3.out.symm
      go_wp2_with fail
      refine (st_pasks ((H2.out.same ((Fr.refl _ _).drew)).take 4) n (decide (n % 2 ≠ 0)) hOdd.out hLa.out).mono ?_
      rintro e w9 ⟨rfl, H9⟩
      have H9 := hid H9
      go_wp2_with fail
      go_end0
      exact ⟨_, rfl, H9.out⟩
set_option maxHeartbeats 6400000 in
set_option maxRecDepth 100000 in
theorem st_pdoes2 {X C T N : Nat} {x : Pm} (H : St W w (paL X C T N x)) {B : Nat} (hx : x.ok) (hnu : x.nums B) (hB : B < 1099511627776) (hbl : x.bag.length ≤ 536870912) (n : Int) :
    Calls Try.prog 13 #[ptr X, .agg #[.int .i64 2, .int .i64 n]] w fun e w' => ∃ T', e = .returned (.tuple #[]) ∧ St W w' (paL X C T' N x.tick.says) := by
  have hTm := hid (show x.c.timer ≤ 16 from Nat.le_trans hx.tm hx.r16)
  have HF := hid (show x.tick.c.u.pq.fits from hx.tick.pq.fits (hnu.tick.pq hx.tick) (Nat.le_of_lt hB))
  have HB3 := hid (show x.tick.bag.length ≤ 1073741824 from Nat.le_trans hbl (by decide))
  clear hB
  have hbX := H.blk 1 rfl
  have hpl := hid (fun m hm => place_of n m hm)
  have H2 := H.alloc (wdO 2 n)
  have HLn := hid (show ∀ wx, Fr [] (w.alloc (wdO 2 n)) wx → Calls Try.prog 17 #[ptr N] wx fun e w' => e = .returned (.int .i64 x.bag.length) ∧ wx = w' from fun wx hF => by
    have h := st_nlen (H2.same hF) 0 rfl
    rw [List.length_map] at h
    exact h)
  have HS := hid (show ∀ wx, Fr [] (w.alloc (wdO 2 n)) wx → wx.cell? ⟨X, 2, none⟩ = some (ptr N) ∧ wx.cell? ⟨w.heap.size, 1, none⟩ = some (.int .i64 n) from fun wx hF => ⟨cell_blk (i := 2) ((H2.same hF).blk 1 rfl) rfl, cell_blk (i := 1) ((H2.same hF).blk 4 rfl) rfl⟩)
  have H2 := hid H2
  have HBL := hid hbl
  have HX := hid hx
  have HNu := hid hnu
  have x0 := cell_blk (i := 0) hbX rfl
  have x2 := cell_blk (i := 2) hbX rfl
  have hg := lt_of_block hbX
  clear H hbX hx hbl hnu
  by_cases he : x.bag.length = 0
  · have hp0 : x.place n = 0 := by unfold Pm.place; rw [if_pos he]
    have b0 : (x.bag.length : Int) = 0 := by omega
    rw [b0] at HLn
    have HP := hid hp0
    clear he hp0 b0
    go_enter Try.func13, Try.ntmps13
    go_wp2_with fail
    refine (HLn.out _ (Fr.refl _ _)).mono ?_
    rintro e w1 ⟨rfl, rfl⟩
    have HKI := hid (show ((x.place n : Nat) : Int) = 0 from by rw [HP.out]; rfl)
    go_wp2_with fail
    refine (st_ptick ((H2.out.same ((Fr.refl _ _))).take 4) hTm.out).mono ?_
    rintro e w9 ⟨rfl, H9⟩
    have H9 := hid H9
    go_wp2_with fail
    refine (st_psays H9.out HB3.out HF.out).mono ?_
    rintro e w10 ⟨rfl, H10⟩
    have H10 := hid H10
    go_wp2_with fail
    go_end0
    exact ⟨_, rfl, H10.out⟩
  · have b0 : (0 : Int) < x.bag.length := by omega
    have hp0 : x.place n = (n % (x.bag.length : Int)).toNat := by unfold Pm.place; rw [if_neg he]
    obtain ⟨m, hm⟩ : ∃ m : Int, (x.bag.length : Int) = m := ⟨_, rfl⟩
    rw [hm] at HLn b0 hp0
    have hnz : (m == 0) = false := by rw [beq_eq_false_iff_ne]; omega
    have hnz2 : ¬ m = 0 := by omega
    obtain ⟨q1, q2, q3, q4⟩ := hpl.out m (by omega)
    have hmm := hid (show m ≤ 1073741824 from by have := HBL.out; omega)
    rw [← hp0] at q3 q4
    clear hp0 he hm
    by_cases hs : n.tmod m < 0
    · have e4 := hid (q4 hs)
      have hw := hid (show wrap64 (n.tmod m + m) = ((x.place n : Nat) : Int) from by rw [IntWalk.wrap64_in _ (by have := hmm.out; omega)]; exact q4 hs)
      clear q1 q2 q3 q4
      go_enter Try.func13, Try.ntmps13
      go_wp2_with fail
      refine (HLn.out _ (Fr.refl _ _)).mono ?_
      rintro e w1 ⟨rfl, rfl⟩
      go_wp2_with fail
      refine wp_region_U (S := fun wx : World => wx.cell? ⟨X, 2, none⟩ = some (ptr N) ∧ wx.cell? ⟨w.heap.size, 1, none⟩ = some (.int .i64 n)) 8 (by kernel_rfl) (HS.out _ ((Fr.refl _ _).drew)) (fun hHeld => ?_)
      refine takeU (i := 0) (d := 13) (v := ?_) rfl rfl (by kernel_rfl) (by kernel_rfl) (by kernel_rfl) (by kernel_rfl) (by kernel_rfl) (fun _ _ _ h => h) (Or.inl ⟨by rfl, ?_⟩) hHeld ?_
      rotate_left
      · intro wq hSw; (try dsimp only at hSw); go_simp; all_goals (with_reducible rfl)
      simp only [Act.put, List.setIfInBounds_toArray, List.set_cons_zero, List.set_cons_succ]
      refine takeU (i := 1) (d := 14) (v := ?_) rfl rfl (by kernel_rfl) (by kernel_rfl) (by kernel_rfl) (by kernel_rfl) (by kernel_rfl) (fun _ _ _ h => h) (Or.inl ⟨by rfl, ?_⟩) hHeld ?_
      rotate_left
      · intro wq hSw; (try dsimp only at hSw); go_simp; all_goals (with_reducible rfl)
      simp only [Act.put, List.setIfInBounds_toArray, List.set_cons_zero, List.set_cons_succ]
      refine takeU (i := 2) (d := 15) (v := ?_) rfl rfl (by kernel_rfl) (by kernel_rfl) (by kernel_rfl) (by kernel_rfl) (by kernel_rfl) (fun _ _ _ h => h) (Or.inl ⟨by rfl, ?_⟩) hHeld ?_
      rotate_left
      · intro wq hSw; (try dsimp only at hSw); go_simp; all_goals (with_reducible rfl)
      simp only [Act.put, List.setIfInBounds_toArray, List.set_cons_zero, List.set_cons_succ]
      refine takeU (i := 3) (d := 16) (v := ?_) rfl rfl (by kernel_rfl) (by kernel_rfl) (by kernel_rfl) (by kernel_rfl) (by kernel_rfl) (fun _ _ _ h => h) (Or.inl ⟨by rfl, ?_⟩) hHeld ?_
      rotate_left
      · intro wq hSw; (try dsimp only at hSw); go_simp; all_goals (with_reducible rfl)
      simp only [Act.put, List.setIfInBounds_toArray, List.set_cons_zero, List.set_cons_succ]
      refine takeU (i := 4) (d := 17) (v := ?_) rfl rfl (by kernel_rfl) (by kernel_rfl) (by kernel_rfl) (by kernel_rfl) (by kernel_rfl) (fun _ _ _ h => h) (Or.inl ⟨by rfl, ?_⟩) hHeld ?_
      rotate_left
      · intro wq hSw; (try dsimp only at hSw); go_simp; all_goals (with_reducible rfl)
      simp only [Act.put, List.setIfInBounds_toArray, List.set_cons_zero, List.set_cons_succ]
      refine takeU (i := 5) (d := 18) (v := ?_) rfl rfl (by kernel_rfl) (by kernel_rfl) (by kernel_rfl) (by kernel_rfl) (by kernel_rfl) (fun _ _ _ h => h) (Or.inl ⟨by rfl, ?_⟩) hHeld ?_
      rotate_left
      · intro wq hSw; (try dsimp only at hSw); go_simp; all_goals (with_reducible rfl)
      simp only [Act.put, List.setIfInBounds_toArray, List.set_cons_zero, List.set_cons_succ]
      refine wpAnyU_ready (rs := [6]) (by kernel_rfl) (by simp) ?_
      refine AllReadyU.cons rfl (fun K1 hK => ?_) AllReadyU.nil
      go_simp
      go_at_call 17
      refine (HLn.out _ ((Fr.refl _ _).drew)).mono ?_
      rintro e w9 ⟨rfl, rfl⟩
      go_simp
      refine hK.out _ _ (fun _ => hHeld) (fun _ => ?_)
      clear hK K1
      refine takeU (i := 7) (d := 20) (v := ?_) rfl rfl (by kernel_rfl) (by kernel_rfl) (by kernel_rfl) (by kernel_rfl) (by kernel_rfl) (fun _ _ _ h => h) (Or.inl ⟨by rfl, ?_⟩) hHeld ?_
      rotate_left
      · intro wq hSw; (try dsimp only at hSw); go_simp; all_goals (with_reducible rfl)
      simp only [Act.put, List.setIfInBounds_toArray, List.set_cons_zero, List.set_cons_succ]
      refine wpAnyU_ready (rs := [8]) (by kernel_rfl) (by simp) ?_
      refine AllReadyU.cons rfl (fun K1 hK => ?_) AllReadyU.nil
      go_simp
      refine hK.out _ _ (fun h => absurd rfl h) (fun _ => ?_)
      clear hK K1 hHeld
      refine wpAnyU_done (by kernel_rfl) ?_ _
      go_wp2_with fail
      refine (HLn.out _ ((Fr.refl _ _).drew)).mono ?_
      rintro e w1 ⟨rfl, rfl⟩
      have HKI := hid hw.out.symm
      go_wp2_with fail
      refine (st_ptick ((H2.out.same ((Fr.refl _ _).drew)).take 4) hTm.out).mono ?_
      rintro e w9 ⟨rfl, H9⟩
      have H9 := hid H9
      go_wp2_with fail
      refine (st_psays H9.out HB3.out HF.out).mono ?_
      rintro e w10 ⟨rfl, H10⟩
      have H10 := hid H10
      go_wp2_with fail
      go_end0
      exact ⟨_, rfl, H10.out⟩
    · have e3 := hid (q3 (by omega))
      have hs2 : ¬ n.tmod m < 0 := hs
      clear q1 q2 q3 q4 hs
      go_enter Try.func13, Try.ntmps13
      go_wp2_with fail
      refine (HLn.out _ (Fr.refl _ _)).mono ?_
      rintro e w1 ⟨rfl, rfl⟩
      go_wp2_with fail
      refine wp_region_U (S := fun wx : World => wx.cell? ⟨X, 2, none⟩ = some (ptr N) ∧ wx.cell? ⟨w.heap.size, 1, none⟩ = some (.int .i64 n)) 8 (by kernel_rfl) (HS.out _ ((Fr.refl _ _).drew)) (fun hHeld => ?_)
      refine takeU (i := 0) (d := 13) (v := ?_) rfl rfl (by kernel_rfl) (by kernel_rfl) (by kernel_rfl) (by kernel_rfl) (by kernel_rfl) (fun _ _ _ h => h) (Or.inl ⟨by rfl, ?_⟩) hHeld ?_
      rotate_left
      · intro wq hSw; (try dsimp only at hSw); go_simp; all_goals (with_reducible rfl)
      simp only [Act.put, List.setIfInBounds_toArray, List.set_cons_zero, List.set_cons_succ]
      refine takeU (i := 1) (d := 14) (v := ?_) rfl rfl (by kernel_rfl) (by kernel_rfl) (by kernel_rfl) (by kernel_rfl) (by kernel_rfl) (fun _ _ _ h => h) (Or.inl ⟨by rfl, ?_⟩) hHeld ?_
      rotate_left
      · intro wq hSw; (try dsimp only at hSw); go_simp; all_goals (with_reducible rfl)
      simp only [Act.put, List.setIfInBounds_toArray, List.set_cons_zero, List.set_cons_succ]
      refine takeU (i := 2) (d := 15) (v := ?_) rfl rfl (by kernel_rfl) (by kernel_rfl) (by kernel_rfl) (by kernel_rfl) (by kernel_rfl) (fun _ _ _ h => h) (Or.inl ⟨by rfl, ?_⟩) hHeld ?_
      rotate_left
      · intro wq hSw; (try dsimp only at hSw); go_simp; all_goals (with_reducible rfl)
      simp only [Act.put, List.setIfInBounds_toArray, List.set_cons_zero, List.set_cons_succ]
      refine takeU (i := 3) (d := 16) (v := ?_) rfl rfl (by kernel_rfl) (by kernel_rfl) (by kernel_rfl) (by kernel_rfl) (by kernel_rfl) (fun _ _ _ h => h) (Or.inl ⟨by rfl, ?_⟩) hHeld ?_
      rotate_left
      · intro wq hSw; (try dsimp only at hSw); go_simp; all_goals (with_reducible rfl)
      simp only [Act.put, List.setIfInBounds_toArray, List.set_cons_zero, List.set_cons_succ]
      refine takeU (i := 4) (d := 17) (v := ?_) rfl rfl (by kernel_rfl) (by kernel_rfl) (by kernel_rfl) (by kernel_rfl) (by kernel_rfl) (fun _ _ _ h => h) (Or.inl ⟨by rfl, ?_⟩) hHeld ?_
      rotate_left
      · intro wq hSw; (try dsimp only at hSw); go_simp; all_goals (with_reducible rfl)
      simp only [Act.put, List.setIfInBounds_toArray, List.set_cons_zero, List.set_cons_succ]
      refine takeU (i := 5) (d := 18) (v := ?_) rfl rfl (by kernel_rfl) (by kernel_rfl) (by kernel_rfl) (by kernel_rfl) (by kernel_rfl) (fun _ _ _ h => h) (Or.inl ⟨by rfl, ?_⟩) hHeld ?_
      rotate_left
      · intro wq hSw; (try dsimp only at hSw); go_simp; all_goals (with_reducible rfl)
      simp only [Act.put, List.setIfInBounds_toArray, List.set_cons_zero, List.set_cons_succ]
      refine wpAnyU_ready (rs := [6]) (by kernel_rfl) (by simp) ?_
      refine AllReadyU.cons rfl (fun K1 hK => ?_) AllReadyU.nil
      go_simp
      go_at_call 17
      refine (HLn.out _ ((Fr.refl _ _).drew)).mono ?_
      rintro e w9 ⟨rfl, rfl⟩
      go_simp
      refine hK.out _ _ (fun _ => hHeld) (fun _ => ?_)
      clear hK K1
      refine takeU (i := 7) (d := 20) (v := ?_) rfl rfl (by kernel_rfl) (by kernel_rfl) (by kernel_rfl) (by kernel_rfl) (by kernel_rfl) (fun _ _ _ h => h) (Or.inl ⟨by rfl, ?_⟩) hHeld ?_
      rotate_left
      · intro wq hSw; (try dsimp only at hSw); go_simp; all_goals (with_reducible rfl)
      simp only [Act.put, List.setIfInBounds_toArray, List.set_cons_zero, List.set_cons_succ]
      refine wpAnyU_ready (rs := [8]) (by kernel_rfl) (by simp) ?_
      refine AllReadyU.cons rfl (fun K1 hK => ?_) AllReadyU.nil
      go_simp
      refine hK.out _ _ (fun h => absurd rfl h) (fun _ => ?_)
      clear hK K1 hHeld
      refine wpAnyU_done (by kernel_rfl) ?_ _
      have HKI := hid e3.out.symm
      go_wp2_with fail
      refine (st_ptick ((H2.out.same ((Fr.refl _ _).drew)).take 4) hTm.out).mono ?_
      rintro e w9 ⟨rfl, H9⟩
      have H9 := hid H9
      go_wp2_with fail
      refine (st_psays H9.out HB3.out HF.out).mono ?_
      rintro e w10 ⟨rfl, H10⟩
      have H10 := hid H10
      go_wp2_with fail
      go_end0
      exact ⟨_, rfl, H10.out⟩
set_option maxHeartbeats 6400000 in
set_option maxRecDepth 100000 in
theorem st_pdoes4 {X C T N : Nat} {x : Pm} (H : St W w (paL X C T N x)) {B : Nat} (hx : x.ok) (hnu : x.nums B) (hbl : x.bag.length ≤ 536870912) (n : Int) :
    Calls Try.prog 13 #[ptr X, .agg #[.int .i64 4, .int .i64 n]] w fun e w' => ∃ T', e = .returned (.tuple #[]) ∧ St W w' (paL X C T' N (x.drop (x.place n))) := by
  have hbX := H.blk 1 rfl
  have hpl := hid (fun m hm => place_of n m hm)
  have H2 := H.alloc (wdO 4 n)
  have HLn := hid (show ∀ wx, Fr [] (w.alloc (wdO 4 n)) wx → Calls Try.prog 17 #[ptr N] wx fun e w' => e = .returned (.int .i64 x.bag.length) ∧ wx = w' from fun wx hF => by
    have h := st_nlen (H2.same hF) 0 rfl
    rw [List.length_map] at h
    exact h)
  have HS := hid (show ∀ wx, Fr [] (w.alloc (wdO 4 n)) wx → wx.cell? ⟨X, 2, none⟩ = some (ptr N) ∧ wx.cell? ⟨w.heap.size, 1, none⟩ = some (.int .i64 n) from fun wx hF => ⟨cell_blk (i := 2) ((H2.same hF).blk 1 rfl) rfl, cell_blk (i := 1) ((H2.same hF).blk 4 rfl) rfl⟩)
  have H2 := hid H2
  have HBL := hid hbl
  have HX := hid hx
  have HNu := hid hnu
  have x0 := cell_blk (i := 0) hbX rfl
  have x2 := cell_blk (i := 2) hbX rfl
  have hg := lt_of_block hbX
  clear H hbX hx hbl hnu
  by_cases he : x.bag.length = 0
  · have hp0 : x.place n = 0 := by unfold Pm.place; rw [if_pos he]
    have b0 : (x.bag.length : Int) = 0 := by omega
    rw [b0] at HLn
    have HP := hid hp0
    clear he hp0 b0
    go_enter Try.func13, Try.ntmps13
    go_wp2_with fail
    refine (HLn.out _ (Fr.refl _ _)).mono ?_
    rintro e w1 ⟨rfl, rfl⟩
    have HKI := hid (show ((x.place n : Nat) : Int) = 0 from by rw [HP.out]; rfl)
    have hdr := hid (show ∀ wx, Fr [] (w.alloc (wdO 4 n)) wx → _ from fun wx hF => st_ndrop ((H2.out.same hF).take 4) 0 rfl (x.place n) (by have := HBL.out; rw [List.length_map]; omega))
    rw [HKI.out] at hdr
    go_wp2_with fail
    refine (hdr.out _ ((Fr.refl _ _))).mono ?_
    rintro e w9 ⟨z, rfl, H9⟩
    have H9 := hid (pa_drop H9)
    go_wp2_with fail
    go_end0
    exact ⟨_, rfl, H9.out⟩
  · have b0 : (0 : Int) < x.bag.length := by omega
    have hp0 : x.place n = (n % (x.bag.length : Int)).toNat := by unfold Pm.place; rw [if_neg he]
    obtain ⟨m, hm⟩ : ∃ m : Int, (x.bag.length : Int) = m := ⟨_, rfl⟩
    rw [hm] at HLn b0 hp0
    have hnz : (m == 0) = false := by rw [beq_eq_false_iff_ne]; omega
    have hnz2 : ¬ m = 0 := by omega
    obtain ⟨q1, q2, q3, q4⟩ := hpl.out m (by omega)
    have hmm := hid (show m ≤ 1073741824 from by have := HBL.out; omega)
    rw [← hp0] at q3 q4
    clear hp0 he hm
    by_cases hs : n.tmod m < 0
    · have e4 := hid (q4 hs)
      have hw := hid (show wrap64 (n.tmod m + m) = ((x.place n : Nat) : Int) from by rw [IntWalk.wrap64_in _ (by have := hmm.out; omega)]; exact q4 hs)
      clear q1 q2 q3 q4
      go_enter Try.func13, Try.ntmps13
      go_wp2_with fail
      refine (HLn.out _ (Fr.refl _ _)).mono ?_
      rintro e w1 ⟨rfl, rfl⟩
      go_wp2_with fail
      refine wp_region_U (S := fun wx : World => wx.cell? ⟨X, 2, none⟩ = some (ptr N) ∧ wx.cell? ⟨w.heap.size, 1, none⟩ = some (.int .i64 n)) 8 (by kernel_rfl) (HS.out _ ((Fr.refl _ _).drew)) (fun hHeld => ?_)
      refine takeU (i := 0) (d := 13) (v := ?_) rfl rfl (by kernel_rfl) (by kernel_rfl) (by kernel_rfl) (by kernel_rfl) (by kernel_rfl) (fun _ _ _ h => h) (Or.inl ⟨by rfl, ?_⟩) hHeld ?_
      rotate_left
      · intro wq hSw; (try dsimp only at hSw); go_simp; all_goals (with_reducible rfl)
      simp only [Act.put, List.setIfInBounds_toArray, List.set_cons_zero, List.set_cons_succ]
      refine takeU (i := 1) (d := 14) (v := ?_) rfl rfl (by kernel_rfl) (by kernel_rfl) (by kernel_rfl) (by kernel_rfl) (by kernel_rfl) (fun _ _ _ h => h) (Or.inl ⟨by rfl, ?_⟩) hHeld ?_
      rotate_left
      · intro wq hSw; (try dsimp only at hSw); go_simp; all_goals (with_reducible rfl)
      simp only [Act.put, List.setIfInBounds_toArray, List.set_cons_zero, List.set_cons_succ]
      refine takeU (i := 2) (d := 15) (v := ?_) rfl rfl (by kernel_rfl) (by kernel_rfl) (by kernel_rfl) (by kernel_rfl) (by kernel_rfl) (fun _ _ _ h => h) (Or.inl ⟨by rfl, ?_⟩) hHeld ?_
      rotate_left
      · intro wq hSw; (try dsimp only at hSw); go_simp; all_goals (with_reducible rfl)
      simp only [Act.put, List.setIfInBounds_toArray, List.set_cons_zero, List.set_cons_succ]
      refine takeU (i := 3) (d := 16) (v := ?_) rfl rfl (by kernel_rfl) (by kernel_rfl) (by kernel_rfl) (by kernel_rfl) (by kernel_rfl) (fun _ _ _ h => h) (Or.inl ⟨by rfl, ?_⟩) hHeld ?_
      rotate_left
      · intro wq hSw; (try dsimp only at hSw); go_simp; all_goals (with_reducible rfl)
      simp only [Act.put, List.setIfInBounds_toArray, List.set_cons_zero, List.set_cons_succ]
      refine takeU (i := 4) (d := 17) (v := ?_) rfl rfl (by kernel_rfl) (by kernel_rfl) (by kernel_rfl) (by kernel_rfl) (by kernel_rfl) (fun _ _ _ h => h) (Or.inl ⟨by rfl, ?_⟩) hHeld ?_
      rotate_left
      · intro wq hSw; (try dsimp only at hSw); go_simp; all_goals (with_reducible rfl)
      simp only [Act.put, List.setIfInBounds_toArray, List.set_cons_zero, List.set_cons_succ]
      refine takeU (i := 5) (d := 18) (v := ?_) rfl rfl (by kernel_rfl) (by kernel_rfl) (by kernel_rfl) (by kernel_rfl) (by kernel_rfl) (fun _ _ _ h => h) (Or.inl ⟨by rfl, ?_⟩) hHeld ?_
      rotate_left
      · intro wq hSw; (try dsimp only at hSw); go_simp; all_goals (with_reducible rfl)
      simp only [Act.put, List.setIfInBounds_toArray, List.set_cons_zero, List.set_cons_succ]
      refine wpAnyU_ready (rs := [6]) (by kernel_rfl) (by simp) ?_
      refine AllReadyU.cons rfl (fun K1 hK => ?_) AllReadyU.nil
      go_simp
      go_at_call 17
      refine (HLn.out _ ((Fr.refl _ _).drew)).mono ?_
      rintro e w9 ⟨rfl, rfl⟩
      go_simp
      refine hK.out _ _ (fun _ => hHeld) (fun _ => ?_)
      clear hK K1
      refine takeU (i := 7) (d := 20) (v := ?_) rfl rfl (by kernel_rfl) (by kernel_rfl) (by kernel_rfl) (by kernel_rfl) (by kernel_rfl) (fun _ _ _ h => h) (Or.inl ⟨by rfl, ?_⟩) hHeld ?_
      rotate_left
      · intro wq hSw; (try dsimp only at hSw); go_simp; all_goals (with_reducible rfl)
      simp only [Act.put, List.setIfInBounds_toArray, List.set_cons_zero, List.set_cons_succ]
      refine wpAnyU_ready (rs := [8]) (by kernel_rfl) (by simp) ?_
      refine AllReadyU.cons rfl (fun K1 hK => ?_) AllReadyU.nil
      go_simp
      refine hK.out _ _ (fun h => absurd rfl h) (fun _ => ?_)
      clear hK K1 hHeld
      refine wpAnyU_done (by kernel_rfl) ?_ _
      go_wp2_with fail
      refine (HLn.out _ ((Fr.refl _ _).drew)).mono ?_
      rintro e w1 ⟨rfl, rfl⟩
      have HKI := hid hw.out.symm
      have hdr := hid (show ∀ wx, Fr [] (w.alloc (wdO 4 n)) wx → _ from fun wx hF => st_ndrop ((H2.out.same hF).take 4) 0 rfl (x.place n) (by have := HBL.out; rw [List.length_map]; omega))
      rw [HKI.out] at hdr
      go_wp2_with fail
      refine (hdr.out _ ((Fr.refl _ _).drew)).mono ?_
      rintro e w9 ⟨z, rfl, H9⟩
      have H9 := hid (pa_drop H9)
      go_wp2_with fail
      go_end0
      exact ⟨_, rfl, H9.out⟩
    · have e3 := hid (q3 (by omega))
      have hs2 : ¬ n.tmod m < 0 := hs
      clear q1 q2 q3 q4 hs
      go_enter Try.func13, Try.ntmps13
      go_wp2_with fail
      refine (HLn.out _ (Fr.refl _ _)).mono ?_
      rintro e w1 ⟨rfl, rfl⟩
      go_wp2_with fail
      refine wp_region_U (S := fun wx : World => wx.cell? ⟨X, 2, none⟩ = some (ptr N) ∧ wx.cell? ⟨w.heap.size, 1, none⟩ = some (.int .i64 n)) 8 (by kernel_rfl) (HS.out _ ((Fr.refl _ _).drew)) (fun hHeld => ?_)
      refine takeU (i := 0) (d := 13) (v := ?_) rfl rfl (by kernel_rfl) (by kernel_rfl) (by kernel_rfl) (by kernel_rfl) (by kernel_rfl) (fun _ _ _ h => h) (Or.inl ⟨by rfl, ?_⟩) hHeld ?_
      rotate_left
      · intro wq hSw; (try dsimp only at hSw); go_simp; all_goals (with_reducible rfl)
      simp only [Act.put, List.setIfInBounds_toArray, List.set_cons_zero, List.set_cons_succ]
      refine takeU (i := 1) (d := 14) (v := ?_) rfl rfl (by kernel_rfl) (by kernel_rfl) (by kernel_rfl) (by kernel_rfl) (by kernel_rfl) (fun _ _ _ h => h) (Or.inl ⟨by rfl, ?_⟩) hHeld ?_
      rotate_left
      · intro wq hSw; (try dsimp only at hSw); go_simp; all_goals (with_reducible rfl)
      simp only [Act.put, List.setIfInBounds_toArray, List.set_cons_zero, List.set_cons_succ]
      refine takeU (i := 2) (d := 15) (v := ?_) rfl rfl (by kernel_rfl) (by kernel_rfl) (by kernel_rfl) (by kernel_rfl) (by kernel_rfl) (fun _ _ _ h => h) (Or.inl ⟨by rfl, ?_⟩) hHeld ?_
      rotate_left
      · intro wq hSw; (try dsimp only at hSw); go_simp; all_goals (with_reducible rfl)
      simp only [Act.put, List.setIfInBounds_toArray, List.set_cons_zero, List.set_cons_succ]
      refine takeU (i := 3) (d := 16) (v := ?_) rfl rfl (by kernel_rfl) (by kernel_rfl) (by kernel_rfl) (by kernel_rfl) (by kernel_rfl) (fun _ _ _ h => h) (Or.inl ⟨by rfl, ?_⟩) hHeld ?_
      rotate_left
      · intro wq hSw; (try dsimp only at hSw); go_simp; all_goals (with_reducible rfl)
      simp only [Act.put, List.setIfInBounds_toArray, List.set_cons_zero, List.set_cons_succ]
      refine takeU (i := 4) (d := 17) (v := ?_) rfl rfl (by kernel_rfl) (by kernel_rfl) (by kernel_rfl) (by kernel_rfl) (by kernel_rfl) (fun _ _ _ h => h) (Or.inl ⟨by rfl, ?_⟩) hHeld ?_
      rotate_left
      · intro wq hSw; (try dsimp only at hSw); go_simp; all_goals (with_reducible rfl)
      simp only [Act.put, List.setIfInBounds_toArray, List.set_cons_zero, List.set_cons_succ]
      refine takeU (i := 5) (d := 18) (v := ?_) rfl rfl (by kernel_rfl) (by kernel_rfl) (by kernel_rfl) (by kernel_rfl) (by kernel_rfl) (fun _ _ _ h => h) (Or.inl ⟨by rfl, ?_⟩) hHeld ?_
      rotate_left
      · intro wq hSw; (try dsimp only at hSw); go_simp; all_goals (with_reducible rfl)
      simp only [Act.put, List.setIfInBounds_toArray, List.set_cons_zero, List.set_cons_succ]
      refine wpAnyU_ready (rs := [6]) (by kernel_rfl) (by simp) ?_
      refine AllReadyU.cons rfl (fun K1 hK => ?_) AllReadyU.nil
      go_simp
      go_at_call 17
      refine (HLn.out _ ((Fr.refl _ _).drew)).mono ?_
      rintro e w9 ⟨rfl, rfl⟩
      go_simp
      refine hK.out _ _ (fun _ => hHeld) (fun _ => ?_)
      clear hK K1
      refine takeU (i := 7) (d := 20) (v := ?_) rfl rfl (by kernel_rfl) (by kernel_rfl) (by kernel_rfl) (by kernel_rfl) (by kernel_rfl) (fun _ _ _ h => h) (Or.inl ⟨by rfl, ?_⟩) hHeld ?_
      rotate_left
      · intro wq hSw; (try dsimp only at hSw); go_simp; all_goals (with_reducible rfl)
      simp only [Act.put, List.setIfInBounds_toArray, List.set_cons_zero, List.set_cons_succ]
      refine wpAnyU_ready (rs := [8]) (by kernel_rfl) (by simp) ?_
      refine AllReadyU.cons rfl (fun K1 hK => ?_) AllReadyU.nil
      go_simp
      refine hK.out _ _ (fun h => absurd rfl h) (fun _ => ?_)
      clear hK K1 hHeld
      refine wpAnyU_done (by kernel_rfl) ?_ _
      have HKI := hid e3.out.symm
      have hdr := hid (show ∀ wx, Fr [] (w.alloc (wdO 4 n)) wx → _ from fun wx hF => st_ndrop ((H2.out.same hF).take 4) 0 rfl (x.place n) (by have := HBL.out; rw [List.length_map]; omega))
      rw [HKI.out] at hdr
      go_wp2_with fail
      refine (hdr.out _ ((Fr.refl _ _).drew)).mono ?_
      rintro e w9 ⟨z, rfl, H9⟩
      have H9 := hid (pa_drop H9)
      go_wp2_with fail
      go_end0
      exact ⟨_, rfl, H9.out⟩
set_option maxHeartbeats 6400000 in
set_option maxRecDepth 100000 in
theorem st_pdoes5 {X C T N : Nat} {x : Pm} (H : St W w (paL X C T N x)) {B : Nat} (hx : x.ok) (hnu : x.nums B) (hbl : x.bag.length ≤ 536870912) (n : Int) :
    Calls Try.prog 13 #[ptr X, .agg #[.int .i64 5, .int .i64 n]] w fun e w' => ∃ T', e = .returned (.tuple #[]) ∧ St W w' (paL X C T' N (x.dup (x.place n))) := by
  have hbX := H.blk 1 rfl
  have hpl := hid (fun m hm => place_of n m hm)
  have H2 := H.alloc (wdO 5 n)
  have HLn := hid (show ∀ wx, Fr [] (w.alloc (wdO 5 n)) wx → Calls Try.prog 17 #[ptr N] wx fun e w' => e = .returned (.int .i64 x.bag.length) ∧ wx = w' from fun wx hF => by
    have h := st_nlen (H2.same hF) 0 rfl
    rw [List.length_map] at h
    exact h)
  have HS := hid (show ∀ wx, Fr [] (w.alloc (wdO 5 n)) wx → wx.cell? ⟨X, 2, none⟩ = some (ptr N) ∧ wx.cell? ⟨w.heap.size, 1, none⟩ = some (.int .i64 n) from fun wx hF => ⟨cell_blk (i := 2) ((H2.same hF).blk 1 rfl) rfl, cell_blk (i := 1) ((H2.same hF).blk 4 rfl) rfl⟩)
  have H2 := hid H2
  have HBL := hid hbl
  have HX := hid hx
  have HNu := hid hnu
  have x0 := cell_blk (i := 0) hbX rfl
  have x2 := cell_blk (i := 2) hbX rfl
  have hg := lt_of_block hbX
  clear H hbX hx hbl hnu
  by_cases he : x.bag.length = 0
  · have hp0 : x.place n = 0 := by unfold Pm.place; rw [if_pos he]
    have b0 : (x.bag.length : Int) = 0 := by omega
    rw [b0] at HLn
    have HP := hid hp0
    clear he hp0 b0
    go_enter Try.func13, Try.ntmps13
    go_wp2_with fail
    refine (HLn.out _ (Fr.refl _ _)).mono ?_
    rintro e w1 ⟨rfl, rfl⟩
    have HKI := hid (show ((x.place n : Nat) : Int) = 0 from by rw [HP.out]; rfl)
    rcases hb : x.bag[x.place n]? with _ | p
    · have hdr := hid (show ∀ wx, Fr [] (w.alloc (wdO 5 n)) wx → _ from fun wx hF => st_ndup_no ((H2.out.same hF).take 4) 0 rfl (x.place n) (by rw [List.length_map]; exact List.getElem?_eq_none_iff.1 hb))
      rw [HKI.out] at hdr
      have HE := hid (Pm.dup_none hb)
      clear hb
      go_wp2_with fail
      refine (hdr.out _ ((Fr.refl _ _))).mono ?_
      rintro e w9 ⟨rfl, H9⟩
      have H9 := hid H9
      go_wp2_with fail
      go_end0
      rw [HE.out]
      exact ⟨_, rfl, H9.out⟩
    · have hdr := hid (show ∀ wx, Fr [] (w.alloc (wdO 5 n)) wx → _ from fun wx hF => st_ndup ((H2.out.same hF).take 4) 0 rfl (x.place n) (pkD p) (by rw [List.getElem?_map, hb]; rfl) (by have := HBL.out; rw [List.length_map]; omega))
      rw [HKI.out] at hdr
      have HE := hid (Pm.dup_some hb)
      clear hb
      go_wp2_with fail
      refine (hdr.out _ ((Fr.refl _ _))).mono ?_
      rintro e w9 ⟨rfl, H9⟩
      have H9 := hid (show St W w9 (paL X C T N (x.send p.2)) from by
        have h : St W w9 [NtT N (x.bag.map pkD ++ [{ pkD p with num := nextN x.sent }]) (nextN x.sent), BlkT X (prO C T N x.used x.acted.length x.answered.length), BlkT C (clC x.c), TbT T x.t.dk] := H9
        rw [show ({ pkD p with num := nextN x.sent } : Dg) = pkD (nextN x.sent, p.2) from pkD_num p.1 _ p.2, ← nt_send] at h
        exact h)
      go_wp2_with fail
      go_end0
      rw [HE.out]
      exact ⟨_, rfl, H9.out⟩
  · have b0 : (0 : Int) < x.bag.length := by omega
    have hp0 : x.place n = (n % (x.bag.length : Int)).toNat := by unfold Pm.place; rw [if_neg he]
    obtain ⟨m, hm⟩ : ∃ m : Int, (x.bag.length : Int) = m := ⟨_, rfl⟩
    rw [hm] at HLn b0 hp0
    have hnz : (m == 0) = false := by rw [beq_eq_false_iff_ne]; omega
    have hnz2 : ¬ m = 0 := by omega
    obtain ⟨q1, q2, q3, q4⟩ := hpl.out m (by omega)
    have hmm := hid (show m ≤ 1073741824 from by have := HBL.out; omega)
    rw [← hp0] at q3 q4
    clear hp0 he hm
    by_cases hs : n.tmod m < 0
    · have e4 := hid (q4 hs)
      have hw := hid (show wrap64 (n.tmod m + m) = ((x.place n : Nat) : Int) from by rw [IntWalk.wrap64_in _ (by have := hmm.out; omega)]; exact q4 hs)
      clear q1 q2 q3 q4
      go_enter Try.func13, Try.ntmps13
      go_wp2_with fail
      refine (HLn.out _ (Fr.refl _ _)).mono ?_
      rintro e w1 ⟨rfl, rfl⟩
      go_wp2_with fail
      refine wp_region_U (S := fun wx : World => wx.cell? ⟨X, 2, none⟩ = some (ptr N) ∧ wx.cell? ⟨w.heap.size, 1, none⟩ = some (.int .i64 n)) 8 (by kernel_rfl) (HS.out _ ((Fr.refl _ _).drew)) (fun hHeld => ?_)
      refine takeU (i := 0) (d := 13) (v := ?_) rfl rfl (by kernel_rfl) (by kernel_rfl) (by kernel_rfl) (by kernel_rfl) (by kernel_rfl) (fun _ _ _ h => h) (Or.inl ⟨by rfl, ?_⟩) hHeld ?_
      rotate_left
      · intro wq hSw; (try dsimp only at hSw); go_simp; all_goals (with_reducible rfl)
      simp only [Act.put, List.setIfInBounds_toArray, List.set_cons_zero, List.set_cons_succ]
      refine takeU (i := 1) (d := 14) (v := ?_) rfl rfl (by kernel_rfl) (by kernel_rfl) (by kernel_rfl) (by kernel_rfl) (by kernel_rfl) (fun _ _ _ h => h) (Or.inl ⟨by rfl, ?_⟩) hHeld ?_
      rotate_left
      · intro wq hSw; (try dsimp only at hSw); go_simp; all_goals (with_reducible rfl)
      simp only [Act.put, List.setIfInBounds_toArray, List.set_cons_zero, List.set_cons_succ]
      refine takeU (i := 2) (d := 15) (v := ?_) rfl rfl (by kernel_rfl) (by kernel_rfl) (by kernel_rfl) (by kernel_rfl) (by kernel_rfl) (fun _ _ _ h => h) (Or.inl ⟨by rfl, ?_⟩) hHeld ?_
      rotate_left
      · intro wq hSw; (try dsimp only at hSw); go_simp; all_goals (with_reducible rfl)
      simp only [Act.put, List.setIfInBounds_toArray, List.set_cons_zero, List.set_cons_succ]
      refine takeU (i := 3) (d := 16) (v := ?_) rfl rfl (by kernel_rfl) (by kernel_rfl) (by kernel_rfl) (by kernel_rfl) (by kernel_rfl) (fun _ _ _ h => h) (Or.inl ⟨by rfl, ?_⟩) hHeld ?_
      rotate_left
      · intro wq hSw; (try dsimp only at hSw); go_simp; all_goals (with_reducible rfl)
      simp only [Act.put, List.setIfInBounds_toArray, List.set_cons_zero, List.set_cons_succ]
      refine takeU (i := 4) (d := 17) (v := ?_) rfl rfl (by kernel_rfl) (by kernel_rfl) (by kernel_rfl) (by kernel_rfl) (by kernel_rfl) (fun _ _ _ h => h) (Or.inl ⟨by rfl, ?_⟩) hHeld ?_
      rotate_left
      · intro wq hSw; (try dsimp only at hSw); go_simp; all_goals (with_reducible rfl)
      simp only [Act.put, List.setIfInBounds_toArray, List.set_cons_zero, List.set_cons_succ]
      refine takeU (i := 5) (d := 18) (v := ?_) rfl rfl (by kernel_rfl) (by kernel_rfl) (by kernel_rfl) (by kernel_rfl) (by kernel_rfl) (fun _ _ _ h => h) (Or.inl ⟨by rfl, ?_⟩) hHeld ?_
      rotate_left
      · intro wq hSw; (try dsimp only at hSw); go_simp; all_goals (with_reducible rfl)
      simp only [Act.put, List.setIfInBounds_toArray, List.set_cons_zero, List.set_cons_succ]
      refine wpAnyU_ready (rs := [6]) (by kernel_rfl) (by simp) ?_
      refine AllReadyU.cons rfl (fun K1 hK => ?_) AllReadyU.nil
      go_simp
      go_at_call 17
      refine (HLn.out _ ((Fr.refl _ _).drew)).mono ?_
      rintro e w9 ⟨rfl, rfl⟩
      go_simp
      refine hK.out _ _ (fun _ => hHeld) (fun _ => ?_)
      clear hK K1
      refine takeU (i := 7) (d := 20) (v := ?_) rfl rfl (by kernel_rfl) (by kernel_rfl) (by kernel_rfl) (by kernel_rfl) (by kernel_rfl) (fun _ _ _ h => h) (Or.inl ⟨by rfl, ?_⟩) hHeld ?_
      rotate_left
      · intro wq hSw; (try dsimp only at hSw); go_simp; all_goals (with_reducible rfl)
      simp only [Act.put, List.setIfInBounds_toArray, List.set_cons_zero, List.set_cons_succ]
      refine wpAnyU_ready (rs := [8]) (by kernel_rfl) (by simp) ?_
      refine AllReadyU.cons rfl (fun K1 hK => ?_) AllReadyU.nil
      go_simp
      refine hK.out _ _ (fun h => absurd rfl h) (fun _ => ?_)
      clear hK K1 hHeld
      refine wpAnyU_done (by kernel_rfl) ?_ _
      go_wp2_with fail
      refine (HLn.out _ ((Fr.refl _ _).drew)).mono ?_
      rintro e w1 ⟨rfl, rfl⟩
      have HKI := hid hw.out.symm
      rcases hb : x.bag[x.place n]? with _ | p
      · have hdr := hid (show ∀ wx, Fr [] (w.alloc (wdO 5 n)) wx → _ from fun wx hF => st_ndup_no ((H2.out.same hF).take 4) 0 rfl (x.place n) (by rw [List.length_map]; exact List.getElem?_eq_none_iff.1 hb))
        rw [HKI.out] at hdr
        have HE := hid (Pm.dup_none hb)
        clear hb
        go_wp2_with fail
        refine (hdr.out _ ((Fr.refl _ _).drew)).mono ?_
        rintro e w9 ⟨rfl, H9⟩
        have H9 := hid H9
        go_wp2_with fail
        go_end0
        rw [HE.out]
        exact ⟨_, rfl, H9.out⟩
      · have hdr := hid (show ∀ wx, Fr [] (w.alloc (wdO 5 n)) wx → _ from fun wx hF => st_ndup ((H2.out.same hF).take 4) 0 rfl (x.place n) (pkD p) (by rw [List.getElem?_map, hb]; rfl) (by have := HBL.out; rw [List.length_map]; omega))
        rw [HKI.out] at hdr
        have HE := hid (Pm.dup_some hb)
        clear hb
        go_wp2_with fail
        refine (hdr.out _ ((Fr.refl _ _).drew)).mono ?_
        rintro e w9 ⟨rfl, H9⟩
        have H9 := hid (show St W w9 (paL X C T N (x.send p.2)) from by
          have h : St W w9 [NtT N (x.bag.map pkD ++ [{ pkD p with num := nextN x.sent }]) (nextN x.sent), BlkT X (prO C T N x.used x.acted.length x.answered.length), BlkT C (clC x.c), TbT T x.t.dk] := H9
          rw [show ({ pkD p with num := nextN x.sent } : Dg) = pkD (nextN x.sent, p.2) from pkD_num p.1 _ p.2, ← nt_send] at h
          exact h)
        go_wp2_with fail
        go_end0
        rw [HE.out]
        exact ⟨_, rfl, H9.out⟩
    · have e3 := hid (q3 (by omega))
      have hs2 : ¬ n.tmod m < 0 := hs
      clear q1 q2 q3 q4 hs
      go_enter Try.func13, Try.ntmps13
      go_wp2_with fail
      refine (HLn.out _ (Fr.refl _ _)).mono ?_
      rintro e w1 ⟨rfl, rfl⟩
      go_wp2_with fail
      refine wp_region_U (S := fun wx : World => wx.cell? ⟨X, 2, none⟩ = some (ptr N) ∧ wx.cell? ⟨w.heap.size, 1, none⟩ = some (.int .i64 n)) 8 (by kernel_rfl) (HS.out _ ((Fr.refl _ _).drew)) (fun hHeld => ?_)
      refine takeU (i := 0) (d := 13) (v := ?_) rfl rfl (by kernel_rfl) (by kernel_rfl) (by kernel_rfl) (by kernel_rfl) (by kernel_rfl) (fun _ _ _ h => h) (Or.inl ⟨by rfl, ?_⟩) hHeld ?_
      rotate_left
      · intro wq hSw; (try dsimp only at hSw); go_simp; all_goals (with_reducible rfl)
      simp only [Act.put, List.setIfInBounds_toArray, List.set_cons_zero, List.set_cons_succ]
      refine takeU (i := 1) (d := 14) (v := ?_) rfl rfl (by kernel_rfl) (by kernel_rfl) (by kernel_rfl) (by kernel_rfl) (by kernel_rfl) (fun _ _ _ h => h) (Or.inl ⟨by rfl, ?_⟩) hHeld ?_
      rotate_left
      · intro wq hSw; (try dsimp only at hSw); go_simp; all_goals (with_reducible rfl)
      simp only [Act.put, List.setIfInBounds_toArray, List.set_cons_zero, List.set_cons_succ]
      refine takeU (i := 2) (d := 15) (v := ?_) rfl rfl (by kernel_rfl) (by kernel_rfl) (by kernel_rfl) (by kernel_rfl) (by kernel_rfl) (fun _ _ _ h => h) (Or.inl ⟨by rfl, ?_⟩) hHeld ?_
      rotate_left
      · intro wq hSw; (try dsimp only at hSw); go_simp; all_goals (with_reducible rfl)
      simp only [Act.put, List.setIfInBounds_toArray, List.set_cons_zero, List.set_cons_succ]
      refine takeU (i := 3) (d := 16) (v := ?_) rfl rfl (by kernel_rfl) (by kernel_rfl) (by kernel_rfl) (by kernel_rfl) (by kernel_rfl) (fun _ _ _ h => h) (Or.inl ⟨by rfl, ?_⟩) hHeld ?_
      rotate_left
      · intro wq hSw; (try dsimp only at hSw); go_simp; all_goals (with_reducible rfl)
      simp only [Act.put, List.setIfInBounds_toArray, List.set_cons_zero, List.set_cons_succ]
      refine takeU (i := 4) (d := 17) (v := ?_) rfl rfl (by kernel_rfl) (by kernel_rfl) (by kernel_rfl) (by kernel_rfl) (by kernel_rfl) (fun _ _ _ h => h) (Or.inl ⟨by rfl, ?_⟩) hHeld ?_
      rotate_left
      · intro wq hSw; (try dsimp only at hSw); go_simp; all_goals (with_reducible rfl)
      simp only [Act.put, List.setIfInBounds_toArray, List.set_cons_zero, List.set_cons_succ]
      refine takeU (i := 5) (d := 18) (v := ?_) rfl rfl (by kernel_rfl) (by kernel_rfl) (by kernel_rfl) (by kernel_rfl) (by kernel_rfl) (fun _ _ _ h => h) (Or.inl ⟨by rfl, ?_⟩) hHeld ?_
      rotate_left
      · intro wq hSw; (try dsimp only at hSw); go_simp; all_goals (with_reducible rfl)
      simp only [Act.put, List.setIfInBounds_toArray, List.set_cons_zero, List.set_cons_succ]
      refine wpAnyU_ready (rs := [6]) (by kernel_rfl) (by simp) ?_
      refine AllReadyU.cons rfl (fun K1 hK => ?_) AllReadyU.nil
      go_simp
      go_at_call 17
      refine (HLn.out _ ((Fr.refl _ _).drew)).mono ?_
      rintro e w9 ⟨rfl, rfl⟩
      go_simp
      refine hK.out _ _ (fun _ => hHeld) (fun _ => ?_)
      clear hK K1
      refine takeU (i := 7) (d := 20) (v := ?_) rfl rfl (by kernel_rfl) (by kernel_rfl) (by kernel_rfl) (by kernel_rfl) (by kernel_rfl) (fun _ _ _ h => h) (Or.inl ⟨by rfl, ?_⟩) hHeld ?_
      rotate_left
      · intro wq hSw; (try dsimp only at hSw); go_simp; all_goals (with_reducible rfl)
      simp only [Act.put, List.setIfInBounds_toArray, List.set_cons_zero, List.set_cons_succ]
      refine wpAnyU_ready (rs := [8]) (by kernel_rfl) (by simp) ?_
      refine AllReadyU.cons rfl (fun K1 hK => ?_) AllReadyU.nil
      go_simp
      refine hK.out _ _ (fun h => absurd rfl h) (fun _ => ?_)
      clear hK K1 hHeld
      refine wpAnyU_done (by kernel_rfl) ?_ _
      have HKI := hid e3.out.symm
      rcases hb : x.bag[x.place n]? with _ | p
      · have hdr := hid (show ∀ wx, Fr [] (w.alloc (wdO 5 n)) wx → _ from fun wx hF => st_ndup_no ((H2.out.same hF).take 4) 0 rfl (x.place n) (by rw [List.length_map]; exact List.getElem?_eq_none_iff.1 hb))
        rw [HKI.out] at hdr
        have HE := hid (Pm.dup_none hb)
        clear hb
        go_wp2_with fail
        refine (hdr.out _ ((Fr.refl _ _).drew)).mono ?_
        rintro e w9 ⟨rfl, H9⟩
        have H9 := hid H9
        go_wp2_with fail
        go_end0
        rw [HE.out]
        exact ⟨_, rfl, H9.out⟩
      · have hdr := hid (show ∀ wx, Fr [] (w.alloc (wdO 5 n)) wx → _ from fun wx hF => st_ndup ((H2.out.same hF).take 4) 0 rfl (x.place n) (pkD p) (by rw [List.getElem?_map, hb]; rfl) (by have := HBL.out; rw [List.length_map]; omega))
        rw [HKI.out] at hdr
        have HE := hid (Pm.dup_some hb)
        clear hb
        go_wp2_with fail
        refine (hdr.out _ ((Fr.refl _ _).drew)).mono ?_
        rintro e w9 ⟨rfl, H9⟩
        have H9 := hid (show St W w9 (paL X C T N (x.send p.2)) from by
          have h : St W w9 [NtT N (x.bag.map pkD ++ [{ pkD p with num := nextN x.sent }]) (nextN x.sent), BlkT X (prO C T N x.used x.acted.length x.answered.length), BlkT C (clC x.c), TbT T x.t.dk] := H9
          rw [show ({ pkD p with num := nextN x.sent } : Dg) = pkD (nextN x.sent, p.2) from pkD_num p.1 _ p.2, ← nt_send] at h
          exact h)
        go_wp2_with fail
        go_end0
        rw [HE.out]
        exact ⟨_, rfl, H9.out⟩
set_option maxHeartbeats 6400000 in
set_option maxRecDepth 100000 in
theorem st_pdoes3 {X C T N : Nat} {x : Pm} (H : St W w (paL X C T N x)) {B : Nat} (hx : x.ok) (hnu : x.nums B) (hB : B < 1099511627776) (hbl : x.bag.length ≤ 536870912) (hac : x.acted.length < 1073741824) (n : Int) :
    Calls Try.prog 13 #[ptr X, .agg #[.int .i64 3, .int .i64 n]] w fun e w' => ∃ T', e = .returned (.tuple #[]) ∧ St W w' (paL X C T' N (x.dlv (x.place n))) := by
  have HBB := hid hB
  have HAc := hid hac
  clear hB hac
  have hbX := H.blk 1 rfl
  have hpl := hid (fun m hm => place_of n m hm)
  have H2 := H.alloc (wdO 3 n)
  have HLn := hid (show ∀ wx, Fr [] (w.alloc (wdO 3 n)) wx → Calls Try.prog 17 #[ptr N] wx fun e w' => e = .returned (.int .i64 x.bag.length) ∧ wx = w' from fun wx hF => by
    have h := st_nlen (H2.same hF) 0 rfl
    rw [List.length_map] at h
    exact h)
  have HS := hid (show ∀ wx, Fr [] (w.alloc (wdO 3 n)) wx → wx.cell? ⟨X, 2, none⟩ = some (ptr N) ∧ wx.cell? ⟨w.heap.size, 1, none⟩ = some (.int .i64 n) from fun wx hF => ⟨cell_blk (i := 2) ((H2.same hF).blk 1 rfl) rfl, cell_blk (i := 1) ((H2.same hF).blk 4 rfl) rfl⟩)
  have H2 := hid H2
  have HBL := hid hbl
  have HX := hid hx
  have HNu := hid hnu
  have x0 := cell_blk (i := 0) hbX rfl
  have x2 := cell_blk (i := 2) hbX rfl
  have hg := lt_of_block hbX
  clear H hbX hx hbl hnu
  by_cases he : x.bag.length = 0
  · have hp0 : x.place n = 0 := by unfold Pm.place; rw [if_pos he]
    have b0 : (x.bag.length : Int) = 0 := by omega
    rw [b0] at HLn
    have HP := hid hp0
    clear he hp0 b0
    go_enter Try.func13, Try.ntmps13
    go_wp2_with fail
    refine (HLn.out _ (Fr.refl _ _)).mono ?_
    rintro e w1 ⟨rfl, rfl⟩
    have HKI := hid (show ((x.place n : Nat) : Int) = 0 from by rw [HP.out]; rfl)
    rcases hb : x.bag[x.place n]? with _ | p
    · have hdr := hid (show ∀ wx, Fr [] (w.alloc (wdO 3 n)) wx → _ from fun wx hF => st_ntake_no ((H2.out.same hF).take 4) 0 rfl (x.place n) (by rw [List.length_map]; exact List.getElem?_eq_none_iff.1 hb))
      rw [HKI.out] at hdr
      have HE := hid (Pm.dlv_none hb)
      clear hb
      go_wp2_with fail
      refine (hdr.out _ ((Fr.refl _ _))).mono ?_
      rintro e w9 ⟨rfl, H9⟩
      have H9 := hid (H9.alloc_ (dgO dg0))
      go_wp2_with fail
      go_end0
      rw [HE.out]
      exact ⟨_, rfl, H9.out⟩
    · have hdr := hid (show ∀ wx, Fr [] (w.alloc (wdO 3 n)) wx → _ from fun wx hF => st_ntake ((H2.out.same hF).take 4) 0 rfl (x.place n) (pkD p) (by rw [List.getElem?_map, hb]; rfl) (by have := HBL.out; rw [List.length_map]; omega))
      rw [HKI.out] at hdr
      have hok := hid (HX.out.drop (x.place n))
      have hnd := hid (HNu.out.drop (x.place n))
      have hpk := hid (HX.out.bg p (List.mem_of_getElem? hb))
      have hpn := hid (HNu.out.bg p (List.mem_of_getElem? hb))
      have HE := hid (Pm.dlv_some hb)
      clear hb
      go_wp2_with fail
      refine (hdr.out _ ((Fr.refl _ _))).mono ?_
      rintro e w9 ⟨rfl, H9⟩
      have H9 := hid ((pa_drop H9).alloc_ (dgO (pkD p)))
      go_wp2_with fail
      refine (st_pcomes H9.out hok.out hnd.out HBB.out (by have := HBL.out; have h := List.length_eraseIdx_le x.bag (x.place n); show (x.bag.eraseIdx _).length ≤ _; omega) HAc.out p.1 p.2 hpk.out hpn.out).mono ?_
      rintro e w10 ⟨rfl, H10⟩
      have H10 := hid H10
      go_wp2_with fail
      go_end0
      rw [HE.out]
      exact ⟨_, rfl, H10.out⟩
  · have b0 : (0 : Int) < x.bag.length := by omega
    have hp0 : x.place n = (n % (x.bag.length : Int)).toNat := by unfold Pm.place; rw [if_neg he]
    obtain ⟨m, hm⟩ : ∃ m : Int, (x.bag.length : Int) = m := ⟨_, rfl⟩
    rw [hm] at HLn b0 hp0
    have hnz : (m == 0) = false := by rw [beq_eq_false_iff_ne]; omega
    have hnz2 : ¬ m = 0 := by omega
    obtain ⟨q1, q2, q3, q4⟩ := hpl.out m (by omega)
    have hmm := hid (show m ≤ 1073741824 from by have := HBL.out; omega)
    rw [← hp0] at q3 q4
    clear hp0 he hm
    by_cases hs : n.tmod m < 0
    · have e4 := hid (q4 hs)
      have hw := hid (show wrap64 (n.tmod m + m) = ((x.place n : Nat) : Int) from by rw [IntWalk.wrap64_in _ (by have := hmm.out; omega)]; exact q4 hs)
      clear q1 q2 q3 q4
      go_enter Try.func13, Try.ntmps13
      go_wp2_with fail
      refine (HLn.out _ (Fr.refl _ _)).mono ?_
      rintro e w1 ⟨rfl, rfl⟩
      go_wp2_with fail
      refine wp_region_U (S := fun wx : World => wx.cell? ⟨X, 2, none⟩ = some (ptr N) ∧ wx.cell? ⟨w.heap.size, 1, none⟩ = some (.int .i64 n)) 8 (by kernel_rfl) (HS.out _ ((Fr.refl _ _).drew)) (fun hHeld => ?_)
      refine takeU (i := 0) (d := 13) (v := ?_) rfl rfl (by kernel_rfl) (by kernel_rfl) (by kernel_rfl) (by kernel_rfl) (by kernel_rfl) (fun _ _ _ h => h) (Or.inl ⟨by rfl, ?_⟩) hHeld ?_
      rotate_left
      · intro wq hSw; (try dsimp only at hSw); go_simp; all_goals (with_reducible rfl)
      simp only [Act.put, List.setIfInBounds_toArray, List.set_cons_zero, List.set_cons_succ]
      refine takeU (i := 1) (d := 14) (v := ?_) rfl rfl (by kernel_rfl) (by kernel_rfl) (by kernel_rfl) (by kernel_rfl) (by kernel_rfl) (fun _ _ _ h => h) (Or.inl ⟨by rfl, ?_⟩) hHeld ?_
      rotate_left
      · intro wq hSw; (try dsimp only at hSw); go_simp; all_goals (with_reducible rfl)
      simp only [Act.put, List.setIfInBounds_toArray, List.set_cons_zero, List.set_cons_succ]
      refine takeU (i := 2) (d := 15) (v := ?_) rfl rfl (by kernel_rfl) (by kernel_rfl) (by kernel_rfl) (by kernel_rfl) (by kernel_rfl) (fun _ _ _ h => h) (Or.inl ⟨by rfl, ?_⟩) hHeld ?_
      rotate_left
      · intro wq hSw; (try dsimp only at hSw); go_simp; all_goals (with_reducible rfl)
      simp only [Act.put, List.setIfInBounds_toArray, List.set_cons_zero, List.set_cons_succ]
      refine takeU (i := 3) (d := 16) (v := ?_) rfl rfl (by kernel_rfl) (by kernel_rfl) (by kernel_rfl) (by kernel_rfl) (by kernel_rfl) (fun _ _ _ h => h) (Or.inl ⟨by rfl, ?_⟩) hHeld ?_
      rotate_left
      · intro wq hSw; (try dsimp only at hSw); go_simp; all_goals (with_reducible rfl)
      simp only [Act.put, List.setIfInBounds_toArray, List.set_cons_zero, List.set_cons_succ]
      refine takeU (i := 4) (d := 17) (v := ?_) rfl rfl (by kernel_rfl) (by kernel_rfl) (by kernel_rfl) (by kernel_rfl) (by kernel_rfl) (fun _ _ _ h => h) (Or.inl ⟨by rfl, ?_⟩) hHeld ?_
      rotate_left
      · intro wq hSw; (try dsimp only at hSw); go_simp; all_goals (with_reducible rfl)
      simp only [Act.put, List.setIfInBounds_toArray, List.set_cons_zero, List.set_cons_succ]
      refine takeU (i := 5) (d := 18) (v := ?_) rfl rfl (by kernel_rfl) (by kernel_rfl) (by kernel_rfl) (by kernel_rfl) (by kernel_rfl) (fun _ _ _ h => h) (Or.inl ⟨by rfl, ?_⟩) hHeld ?_
      rotate_left
      · intro wq hSw; (try dsimp only at hSw); go_simp; all_goals (with_reducible rfl)
      simp only [Act.put, List.setIfInBounds_toArray, List.set_cons_zero, List.set_cons_succ]
      refine wpAnyU_ready (rs := [6]) (by kernel_rfl) (by simp) ?_
      refine AllReadyU.cons rfl (fun K1 hK => ?_) AllReadyU.nil
      go_simp
      go_at_call 17
      refine (HLn.out _ ((Fr.refl _ _).drew)).mono ?_
      rintro e w9 ⟨rfl, rfl⟩
      go_simp
      refine hK.out _ _ (fun _ => hHeld) (fun _ => ?_)
      clear hK K1
      refine takeU (i := 7) (d := 20) (v := ?_) rfl rfl (by kernel_rfl) (by kernel_rfl) (by kernel_rfl) (by kernel_rfl) (by kernel_rfl) (fun _ _ _ h => h) (Or.inl ⟨by rfl, ?_⟩) hHeld ?_
      rotate_left
      · intro wq hSw; (try dsimp only at hSw); go_simp; all_goals (with_reducible rfl)
      simp only [Act.put, List.setIfInBounds_toArray, List.set_cons_zero, List.set_cons_succ]
      refine wpAnyU_ready (rs := [8]) (by kernel_rfl) (by simp) ?_
      refine AllReadyU.cons rfl (fun K1 hK => ?_) AllReadyU.nil
      go_simp
      refine hK.out _ _ (fun h => absurd rfl h) (fun _ => ?_)
      clear hK K1 hHeld
      refine wpAnyU_done (by kernel_rfl) ?_ _
      go_wp2_with fail
      refine (HLn.out _ ((Fr.refl _ _).drew)).mono ?_
      rintro e w1 ⟨rfl, rfl⟩
      have HKI := hid hw.out.symm
      rcases hb : x.bag[x.place n]? with _ | p
      · have hdr := hid (show ∀ wx, Fr [] (w.alloc (wdO 3 n)) wx → _ from fun wx hF => st_ntake_no ((H2.out.same hF).take 4) 0 rfl (x.place n) (by rw [List.length_map]; exact List.getElem?_eq_none_iff.1 hb))
        rw [HKI.out] at hdr
        have HE := hid (Pm.dlv_none hb)
        clear hb
        go_wp2_with fail
        refine (hdr.out _ ((Fr.refl _ _).drew)).mono ?_
        rintro e w9 ⟨rfl, H9⟩
        have H9 := hid (H9.alloc_ (dgO dg0))
        go_wp2_with fail
        go_end0
        rw [HE.out]
        exact ⟨_, rfl, H9.out⟩
      · have hdr := hid (show ∀ wx, Fr [] (w.alloc (wdO 3 n)) wx → _ from fun wx hF => st_ntake ((H2.out.same hF).take 4) 0 rfl (x.place n) (pkD p) (by rw [List.getElem?_map, hb]; rfl) (by have := HBL.out; rw [List.length_map]; omega))
        rw [HKI.out] at hdr
        have hok := hid (HX.out.drop (x.place n))
        have hnd := hid (HNu.out.drop (x.place n))
        have hpk := hid (HX.out.bg p (List.mem_of_getElem? hb))
        have hpn := hid (HNu.out.bg p (List.mem_of_getElem? hb))
        have HE := hid (Pm.dlv_some hb)
        clear hb
        go_wp2_with fail
        refine (hdr.out _ ((Fr.refl _ _).drew)).mono ?_
        rintro e w9 ⟨rfl, H9⟩
        have H9 := hid ((pa_drop H9).alloc_ (dgO (pkD p)))
        go_wp2_with fail
        refine (st_pcomes H9.out hok.out hnd.out HBB.out (by have := HBL.out; have h := List.length_eraseIdx_le x.bag (x.place n); show (x.bag.eraseIdx _).length ≤ _; omega) HAc.out p.1 p.2 hpk.out hpn.out).mono ?_
        rintro e w10 ⟨rfl, H10⟩
        have H10 := hid H10
        go_wp2_with fail
        go_end0
        rw [HE.out]
        exact ⟨_, rfl, H10.out⟩
    · have e3 := hid (q3 (by omega))
      have hs2 : ¬ n.tmod m < 0 := hs
      clear q1 q2 q3 q4 hs
      go_enter Try.func13, Try.ntmps13
      go_wp2_with fail
      refine (HLn.out _ (Fr.refl _ _)).mono ?_
      rintro e w1 ⟨rfl, rfl⟩
      go_wp2_with fail
      refine wp_region_U (S := fun wx : World => wx.cell? ⟨X, 2, none⟩ = some (ptr N) ∧ wx.cell? ⟨w.heap.size, 1, none⟩ = some (.int .i64 n)) 8 (by kernel_rfl) (HS.out _ ((Fr.refl _ _).drew)) (fun hHeld => ?_)
      refine takeU (i := 0) (d := 13) (v := ?_) rfl rfl (by kernel_rfl) (by kernel_rfl) (by kernel_rfl) (by kernel_rfl) (by kernel_rfl) (fun _ _ _ h => h) (Or.inl ⟨by rfl, ?_⟩) hHeld ?_
      rotate_left
      · intro wq hSw; (try dsimp only at hSw); go_simp; all_goals (with_reducible rfl)
      simp only [Act.put, List.setIfInBounds_toArray, List.set_cons_zero, List.set_cons_succ]
      refine takeU (i := 1) (d := 14) (v := ?_) rfl rfl (by kernel_rfl) (by kernel_rfl) (by kernel_rfl) (by kernel_rfl) (by kernel_rfl) (fun _ _ _ h => h) (Or.inl ⟨by rfl, ?_⟩) hHeld ?_
      rotate_left
      · intro wq hSw; (try dsimp only at hSw); go_simp; all_goals (with_reducible rfl)
      simp only [Act.put, List.setIfInBounds_toArray, List.set_cons_zero, List.set_cons_succ]
      refine takeU (i := 2) (d := 15) (v := ?_) rfl rfl (by kernel_rfl) (by kernel_rfl) (by kernel_rfl) (by kernel_rfl) (by kernel_rfl) (fun _ _ _ h => h) (Or.inl ⟨by rfl, ?_⟩) hHeld ?_
      rotate_left
      · intro wq hSw; (try dsimp only at hSw); go_simp; all_goals (with_reducible rfl)
      simp only [Act.put, List.setIfInBounds_toArray, List.set_cons_zero, List.set_cons_succ]
      refine takeU (i := 3) (d := 16) (v := ?_) rfl rfl (by kernel_rfl) (by kernel_rfl) (by kernel_rfl) (by kernel_rfl) (by kernel_rfl) (fun _ _ _ h => h) (Or.inl ⟨by rfl, ?_⟩) hHeld ?_
      rotate_left
      · intro wq hSw; (try dsimp only at hSw); go_simp; all_goals (with_reducible rfl)
      simp only [Act.put, List.setIfInBounds_toArray, List.set_cons_zero, List.set_cons_succ]
      refine takeU (i := 4) (d := 17) (v := ?_) rfl rfl (by kernel_rfl) (by kernel_rfl) (by kernel_rfl) (by kernel_rfl) (by kernel_rfl) (fun _ _ _ h => h) (Or.inl ⟨by rfl, ?_⟩) hHeld ?_
      rotate_left
      · intro wq hSw; (try dsimp only at hSw); go_simp; all_goals (with_reducible rfl)
      simp only [Act.put, List.setIfInBounds_toArray, List.set_cons_zero, List.set_cons_succ]
      refine takeU (i := 5) (d := 18) (v := ?_) rfl rfl (by kernel_rfl) (by kernel_rfl) (by kernel_rfl) (by kernel_rfl) (by kernel_rfl) (fun _ _ _ h => h) (Or.inl ⟨by rfl, ?_⟩) hHeld ?_
      rotate_left
      · intro wq hSw; (try dsimp only at hSw); go_simp; all_goals (with_reducible rfl)
      simp only [Act.put, List.setIfInBounds_toArray, List.set_cons_zero, List.set_cons_succ]
      refine wpAnyU_ready (rs := [6]) (by kernel_rfl) (by simp) ?_
      refine AllReadyU.cons rfl (fun K1 hK => ?_) AllReadyU.nil
      go_simp
      go_at_call 17
      refine (HLn.out _ ((Fr.refl _ _).drew)).mono ?_
      rintro e w9 ⟨rfl, rfl⟩
      go_simp
      refine hK.out _ _ (fun _ => hHeld) (fun _ => ?_)
      clear hK K1
      refine takeU (i := 7) (d := 20) (v := ?_) rfl rfl (by kernel_rfl) (by kernel_rfl) (by kernel_rfl) (by kernel_rfl) (by kernel_rfl) (fun _ _ _ h => h) (Or.inl ⟨by rfl, ?_⟩) hHeld ?_
      rotate_left
      · intro wq hSw; (try dsimp only at hSw); go_simp; all_goals (with_reducible rfl)
      simp only [Act.put, List.setIfInBounds_toArray, List.set_cons_zero, List.set_cons_succ]
      refine wpAnyU_ready (rs := [8]) (by kernel_rfl) (by simp) ?_
      refine AllReadyU.cons rfl (fun K1 hK => ?_) AllReadyU.nil
      go_simp
      refine hK.out _ _ (fun h => absurd rfl h) (fun _ => ?_)
      clear hK K1 hHeld
      refine wpAnyU_done (by kernel_rfl) ?_ _
      have HKI := hid e3.out.symm
      rcases hb : x.bag[x.place n]? with _ | p
      · have hdr := hid (show ∀ wx, Fr [] (w.alloc (wdO 3 n)) wx → _ from fun wx hF => st_ntake_no ((H2.out.same hF).take 4) 0 rfl (x.place n) (by rw [List.length_map]; exact List.getElem?_eq_none_iff.1 hb))
        rw [HKI.out] at hdr
        have HE := hid (Pm.dlv_none hb)
        clear hb
        go_wp2_with fail
        refine (hdr.out _ ((Fr.refl _ _).drew)).mono ?_
        rintro e w9 ⟨rfl, H9⟩
        have H9 := hid (H9.alloc_ (dgO dg0))
        go_wp2_with fail
        go_end0
        rw [HE.out]
        exact ⟨_, rfl, H9.out⟩
      · have hdr := hid (show ∀ wx, Fr [] (w.alloc (wdO 3 n)) wx → _ from fun wx hF => st_ntake ((H2.out.same hF).take 4) 0 rfl (x.place n) (pkD p) (by rw [List.getElem?_map, hb]; rfl) (by have := HBL.out; rw [List.length_map]; omega))
        rw [HKI.out] at hdr
        have hok := hid (HX.out.drop (x.place n))
        have hnd := hid (HNu.out.drop (x.place n))
        have hpk := hid (HX.out.bg p (List.mem_of_getElem? hb))
        have hpn := hid (HNu.out.bg p (List.mem_of_getElem? hb))
        have HE := hid (Pm.dlv_some hb)
        clear hb
        go_wp2_with fail
        refine (hdr.out _ ((Fr.refl _ _).drew)).mono ?_
        rintro e w9 ⟨rfl, H9⟩
        have H9 := hid ((pa_drop H9).alloc_ (dgO (pkD p)))
        go_wp2_with fail
        refine (st_pcomes H9.out hok.out hnd.out HBB.out (by have := HBL.out; have h := List.length_eraseIdx_le x.bag (x.place n); show (x.bag.eraseIdx _).length ≤ _; omega) HAc.out p.1 p.2 hpk.out hpn.out).mono ?_
        rintro e w10 ⟨rfl, H10⟩
        have H10 := hid H10
        go_wp2_with fail
        go_end0
        rw [HE.out]
        exact ⟨_, rfl, H10.out⟩
set_option maxHeartbeats 6400000 in
set_option maxRecDepth 100000 in
theorem st_pdoes6 {X C T N : Nat} {x : Pm} (H : St W w (paL X C T N x)) {B : Nat} (hx : x.ok) (hnu : x.nums B) (hbl : x.bag.length ≤ 536870912) (n : Int) :
    Calls Try.prog 13 #[ptr X, .agg #[.int .i64 6, .int .i64 n]] w fun e w' => ∃ T', e = .returned (.tuple #[]) ∧ St W w' (paL X C T' N x.forget) := by
  have hbX := H.blk 1 rfl
  have hpl := hid (fun m hm => place_of n m hm)
  have H2 := H.alloc (wdO 6 n)
  have HLn := hid (show ∀ wx, Fr [] (w.alloc (wdO 6 n)) wx → Calls Try.prog 17 #[ptr N] wx fun e w' => e = .returned (.int .i64 x.bag.length) ∧ wx = w' from fun wx hF => by
    have h := st_nlen (H2.same hF) 0 rfl
    rw [List.length_map] at h
    exact h)
  have HS := hid (show ∀ wx, Fr [] (w.alloc (wdO 6 n)) wx → wx.cell? ⟨X, 2, none⟩ = some (ptr N) ∧ wx.cell? ⟨w.heap.size, 1, none⟩ = some (.int .i64 n) from fun wx hF => ⟨cell_blk (i := 2) ((H2.same hF).blk 1 rfl) rfl, cell_blk (i := 1) ((H2.same hF).blk 4 rfl) rfl⟩)
  have H2 := hid H2
  have HBL := hid hbl
  have HX := hid hx
  have HNu := hid hnu
  have x0 := cell_blk (i := 0) hbX rfl
  have x2 := cell_blk (i := 2) hbX rfl
  have hg := lt_of_block hbX
  clear H hbX hx hbl hnu
  by_cases he : x.bag.length = 0
  · have hp0 : x.place n = 0 := by unfold Pm.place; rw [if_pos he]
    have b0 : (x.bag.length : Int) = 0 := by omega
    rw [b0] at HLn
    have HP := hid hp0
    clear he hp0 b0
    go_enter Try.func13, Try.ntmps13
    go_wp2_with fail
    refine (HLn.out _ (Fr.refl _ _)).mono ?_
    rintro e w1 ⟨rfl, rfl⟩
    have HKI := hid (show ((x.place n : Nat) : Int) = 0 from by rw [HP.out]; rfl)
    go_wp2_with fail
    refine (st_tnew ((H2.out.same ((Fr.refl _ _))).take 4)).mono ?_
    rintro e w9 ⟨T', rfl, H9⟩
    have b9 := H9.blk 1 rfl
    have z1 := cell_blk (i := 1) b9 rfl
    have f1 := free_blk (i := 1) b9
    have z6 := cell_blk (i := 6) b9 rfl
    have f6 := free_blk (i := 6) b9
    have H10 := hid (show St W ((w9.setCell ⟨X, 1, none⟩ (ptr T')).setCell ⟨X, 6, none⟩ (.bool false)) (paL X C T' N x.forget) from by
      have h1 := H9.setBlk 1 rfl 1 (ptr T')
      have h2 := h1.setBlk 1 rfl 6 (.bool false)
      have h3 : St W ((w9.setCell ⟨X, 1, none⟩ (ptr T')).setCell ⟨X, 6, none⟩ (.bool false)) ([] ++ [NtT N (x.bag.map pkD) x.sent, BlkT X (prO C T' N x.used x.acted.length x.answered.length), BlkT C (clC x.c), TbT T x.t.dk, TbT T' ⟨0, 0, 0, ⟨#[]⟩⟩]) := h2
      exact h3.pickEnd [0, 1, 2, 4] (by decide) (by intro q hq; simp at hq ⊢; omega))
    clear b9 H9
    go_wp2_with fail
    go_end0
    exact ⟨_, rfl, H10.out⟩
  · have b0 : (0 : Int) < x.bag.length := by omega
    have hp0 : x.place n = (n % (x.bag.length : Int)).toNat := by unfold Pm.place; rw [if_neg he]
    obtain ⟨m, hm⟩ : ∃ m : Int, (x.bag.length : Int) = m := ⟨_, rfl⟩
    rw [hm] at HLn b0 hp0
    have hnz : (m == 0) = false := by rw [beq_eq_false_iff_ne]; omega
    have hnz2 : ¬ m = 0 := by omega
    obtain ⟨q1, q2, q3, q4⟩ := hpl.out m (by omega)
    have hmm := hid (show m ≤ 1073741824 from by have := HBL.out; omega)
    rw [← hp0] at q3 q4
    clear hp0 he hm
    by_cases hs : n.tmod m < 0
    · have e4 := hid (q4 hs)
      have hw := hid (show wrap64 (n.tmod m + m) = ((x.place n : Nat) : Int) from by rw [IntWalk.wrap64_in _ (by have := hmm.out; omega)]; exact q4 hs)
      clear q1 q2 q3 q4
      go_enter Try.func13, Try.ntmps13
      go_wp2_with fail
      refine (HLn.out _ (Fr.refl _ _)).mono ?_
      rintro e w1 ⟨rfl, rfl⟩
      go_wp2_with fail
      refine wp_region_U (S := fun wx : World => wx.cell? ⟨X, 2, none⟩ = some (ptr N) ∧ wx.cell? ⟨w.heap.size, 1, none⟩ = some (.int .i64 n)) 8 (by kernel_rfl) (HS.out _ ((Fr.refl _ _).drew)) (fun hHeld => ?_)
      refine takeU (i := 0) (d := 13) (v := ?_) rfl rfl (by kernel_rfl) (by kernel_rfl) (by kernel_rfl) (by kernel_rfl) (by kernel_rfl) (fun _ _ _ h => h) (Or.inl ⟨by rfl, ?_⟩) hHeld ?_
      rotate_left
      · intro wq hSw; (try dsimp only at hSw); go_simp; all_goals (with_reducible rfl)
      simp only [Act.put, List.setIfInBounds_toArray, List.set_cons_zero, List.set_cons_succ]
      refine takeU (i := 1) (d := 14) (v := ?_) rfl rfl (by kernel_rfl) (by kernel_rfl) (by kernel_rfl) (by kernel_rfl) (by kernel_rfl) (fun _ _ _ h => h) (Or.inl ⟨by rfl, ?_⟩) hHeld ?_
      rotate_left
      · intro wq hSw; (try dsimp only at hSw); go_simp; all_goals (with_reducible rfl)
      simp only [Act.put, List.setIfInBounds_toArray, List.set_cons_zero, List.set_cons_succ]
      refine takeU (i := 2) (d := 15) (v := ?_) rfl rfl (by kernel_rfl) (by kernel_rfl) (by kernel_rfl) (by kernel_rfl) (by kernel_rfl) (fun _ _ _ h => h) (Or.inl ⟨by rfl, ?_⟩) hHeld ?_
      rotate_left
      · intro wq hSw; (try dsimp only at hSw); go_simp; all_goals (with_reducible rfl)
      simp only [Act.put, List.setIfInBounds_toArray, List.set_cons_zero, List.set_cons_succ]
      refine takeU (i := 3) (d := 16) (v := ?_) rfl rfl (by kernel_rfl) (by kernel_rfl) (by kernel_rfl) (by kernel_rfl) (by kernel_rfl) (fun _ _ _ h => h) (Or.inl ⟨by rfl, ?_⟩) hHeld ?_
      rotate_left
      · intro wq hSw; (try dsimp only at hSw); go_simp; all_goals (with_reducible rfl)
      simp only [Act.put, List.setIfInBounds_toArray, List.set_cons_zero, List.set_cons_succ]
      refine takeU (i := 4) (d := 17) (v := ?_) rfl rfl (by kernel_rfl) (by kernel_rfl) (by kernel_rfl) (by kernel_rfl) (by kernel_rfl) (fun _ _ _ h => h) (Or.inl ⟨by rfl, ?_⟩) hHeld ?_
      rotate_left
      · intro wq hSw; (try dsimp only at hSw); go_simp; all_goals (with_reducible rfl)
      simp only [Act.put, List.setIfInBounds_toArray, List.set_cons_zero, List.set_cons_succ]
      refine takeU (i := 5) (d := 18) (v := ?_) rfl rfl (by kernel_rfl) (by kernel_rfl) (by kernel_rfl) (by kernel_rfl) (by kernel_rfl) (fun _ _ _ h => h) (Or.inl ⟨by rfl, ?_⟩) hHeld ?_
      rotate_left
      · intro wq hSw; (try dsimp only at hSw); go_simp; all_goals (with_reducible rfl)
      simp only [Act.put, List.setIfInBounds_toArray, List.set_cons_zero, List.set_cons_succ]
      refine wpAnyU_ready (rs := [6]) (by kernel_rfl) (by simp) ?_
      refine AllReadyU.cons rfl (fun K1 hK => ?_) AllReadyU.nil
      go_simp
      go_at_call 17
      refine (HLn.out _ ((Fr.refl _ _).drew)).mono ?_
      rintro e w9 ⟨rfl, rfl⟩
      go_simp
      refine hK.out _ _ (fun _ => hHeld) (fun _ => ?_)
      clear hK K1
      refine takeU (i := 7) (d := 20) (v := ?_) rfl rfl (by kernel_rfl) (by kernel_rfl) (by kernel_rfl) (by kernel_rfl) (by kernel_rfl) (fun _ _ _ h => h) (Or.inl ⟨by rfl, ?_⟩) hHeld ?_
      rotate_left
      · intro wq hSw; (try dsimp only at hSw); go_simp; all_goals (with_reducible rfl)
      simp only [Act.put, List.setIfInBounds_toArray, List.set_cons_zero, List.set_cons_succ]
      refine wpAnyU_ready (rs := [8]) (by kernel_rfl) (by simp) ?_
      refine AllReadyU.cons rfl (fun K1 hK => ?_) AllReadyU.nil
      go_simp
      refine hK.out _ _ (fun h => absurd rfl h) (fun _ => ?_)
      clear hK K1 hHeld
      refine wpAnyU_done (by kernel_rfl) ?_ _
      go_wp2_with fail
      refine (HLn.out _ ((Fr.refl _ _).drew)).mono ?_
      rintro e w1 ⟨rfl, rfl⟩
      have HKI := hid hw.out.symm
      go_wp2_with fail
      refine (st_tnew ((H2.out.same ((Fr.refl _ _).drew)).take 4)).mono ?_
      rintro e w9 ⟨T', rfl, H9⟩
      have b9 := H9.blk 1 rfl
      have z1 := cell_blk (i := 1) b9 rfl
      have f1 := free_blk (i := 1) b9
      have z6 := cell_blk (i := 6) b9 rfl
      have f6 := free_blk (i := 6) b9
      have H10 := hid (show St W ((w9.setCell ⟨X, 1, none⟩ (ptr T')).setCell ⟨X, 6, none⟩ (.bool false)) (paL X C T' N x.forget) from by
        have h1 := H9.setBlk 1 rfl 1 (ptr T')
        have h2 := h1.setBlk 1 rfl 6 (.bool false)
        have h3 : St W ((w9.setCell ⟨X, 1, none⟩ (ptr T')).setCell ⟨X, 6, none⟩ (.bool false)) ([] ++ [NtT N (x.bag.map pkD) x.sent, BlkT X (prO C T' N x.used x.acted.length x.answered.length), BlkT C (clC x.c), TbT T x.t.dk, TbT T' ⟨0, 0, 0, ⟨#[]⟩⟩]) := h2
        exact h3.pickEnd [0, 1, 2, 4] (by decide) (by intro q hq; simp at hq ⊢; omega))
      clear b9 H9
      go_wp2_with fail
      go_end0
      exact ⟨_, rfl, H10.out⟩
    · have e3 := hid (q3 (by omega))
      have hs2 : ¬ n.tmod m < 0 := hs
      clear q1 q2 q3 q4 hs
      go_enter Try.func13, Try.ntmps13
      go_wp2_with fail
      refine (HLn.out _ (Fr.refl _ _)).mono ?_
      rintro e w1 ⟨rfl, rfl⟩
      go_wp2_with fail
      refine wp_region_U (S := fun wx : World => wx.cell? ⟨X, 2, none⟩ = some (ptr N) ∧ wx.cell? ⟨w.heap.size, 1, none⟩ = some (.int .i64 n)) 8 (by kernel_rfl) (HS.out _ ((Fr.refl _ _).drew)) (fun hHeld => ?_)
      refine takeU (i := 0) (d := 13) (v := ?_) rfl rfl (by kernel_rfl) (by kernel_rfl) (by kernel_rfl) (by kernel_rfl) (by kernel_rfl) (fun _ _ _ h => h) (Or.inl ⟨by rfl, ?_⟩) hHeld ?_
      rotate_left
      · intro wq hSw; (try dsimp only at hSw); go_simp; all_goals (with_reducible rfl)
      simp only [Act.put, List.setIfInBounds_toArray, List.set_cons_zero, List.set_cons_succ]
      refine takeU (i := 1) (d := 14) (v := ?_) rfl rfl (by kernel_rfl) (by kernel_rfl) (by kernel_rfl) (by kernel_rfl) (by kernel_rfl) (fun _ _ _ h => h) (Or.inl ⟨by rfl, ?_⟩) hHeld ?_
      rotate_left
      · intro wq hSw; (try dsimp only at hSw); go_simp; all_goals (with_reducible rfl)
      simp only [Act.put, List.setIfInBounds_toArray, List.set_cons_zero, List.set_cons_succ]
      refine takeU (i := 2) (d := 15) (v := ?_) rfl rfl (by kernel_rfl) (by kernel_rfl) (by kernel_rfl) (by kernel_rfl) (by kernel_rfl) (fun _ _ _ h => h) (Or.inl ⟨by rfl, ?_⟩) hHeld ?_
      rotate_left
      · intro wq hSw; (try dsimp only at hSw); go_simp; all_goals (with_reducible rfl)
      simp only [Act.put, List.setIfInBounds_toArray, List.set_cons_zero, List.set_cons_succ]
      refine takeU (i := 3) (d := 16) (v := ?_) rfl rfl (by kernel_rfl) (by kernel_rfl) (by kernel_rfl) (by kernel_rfl) (by kernel_rfl) (fun _ _ _ h => h) (Or.inl ⟨by rfl, ?_⟩) hHeld ?_
      rotate_left
      · intro wq hSw; (try dsimp only at hSw); go_simp; all_goals (with_reducible rfl)
      simp only [Act.put, List.setIfInBounds_toArray, List.set_cons_zero, List.set_cons_succ]
      refine takeU (i := 4) (d := 17) (v := ?_) rfl rfl (by kernel_rfl) (by kernel_rfl) (by kernel_rfl) (by kernel_rfl) (by kernel_rfl) (fun _ _ _ h => h) (Or.inl ⟨by rfl, ?_⟩) hHeld ?_
      rotate_left
      · intro wq hSw; (try dsimp only at hSw); go_simp; all_goals (with_reducible rfl)
      simp only [Act.put, List.setIfInBounds_toArray, List.set_cons_zero, List.set_cons_succ]
      refine takeU (i := 5) (d := 18) (v := ?_) rfl rfl (by kernel_rfl) (by kernel_rfl) (by kernel_rfl) (by kernel_rfl) (by kernel_rfl) (fun _ _ _ h => h) (Or.inl ⟨by rfl, ?_⟩) hHeld ?_
      rotate_left
      · intro wq hSw; (try dsimp only at hSw); go_simp; all_goals (with_reducible rfl)
      simp only [Act.put, List.setIfInBounds_toArray, List.set_cons_zero, List.set_cons_succ]
      refine wpAnyU_ready (rs := [6]) (by kernel_rfl) (by simp) ?_
      refine AllReadyU.cons rfl (fun K1 hK => ?_) AllReadyU.nil
      go_simp
      go_at_call 17
      refine (HLn.out _ ((Fr.refl _ _).drew)).mono ?_
      rintro e w9 ⟨rfl, rfl⟩
      go_simp
      refine hK.out _ _ (fun _ => hHeld) (fun _ => ?_)
      clear hK K1
      refine takeU (i := 7) (d := 20) (v := ?_) rfl rfl (by kernel_rfl) (by kernel_rfl) (by kernel_rfl) (by kernel_rfl) (by kernel_rfl) (fun _ _ _ h => h) (Or.inl ⟨by rfl, ?_⟩) hHeld ?_
      rotate_left
      · intro wq hSw; (try dsimp only at hSw); go_simp; all_goals (with_reducible rfl)
      simp only [Act.put, List.setIfInBounds_toArray, List.set_cons_zero, List.set_cons_succ]
      refine wpAnyU_ready (rs := [8]) (by kernel_rfl) (by simp) ?_
      refine AllReadyU.cons rfl (fun K1 hK => ?_) AllReadyU.nil
      go_simp
      refine hK.out _ _ (fun h => absurd rfl h) (fun _ => ?_)
      clear hK K1 hHeld
      refine wpAnyU_done (by kernel_rfl) ?_ _
      have HKI := hid e3.out.symm
      go_wp2_with fail
      refine (st_tnew ((H2.out.same ((Fr.refl _ _).drew)).take 4)).mono ?_
      rintro e w9 ⟨T', rfl, H9⟩
      have b9 := H9.blk 1 rfl
      have z1 := cell_blk (i := 1) b9 rfl
      have f1 := free_blk (i := 1) b9
      have z6 := cell_blk (i := 6) b9 rfl
      have f6 := free_blk (i := 6) b9
      have H10 := hid (show St W ((w9.setCell ⟨X, 1, none⟩ (ptr T')).setCell ⟨X, 6, none⟩ (.bool false)) (paL X C T' N x.forget) from by
        have h1 := H9.setBlk 1 rfl 1 (ptr T')
        have h2 := h1.setBlk 1 rfl 6 (.bool false)
        have h3 : St W ((w9.setCell ⟨X, 1, none⟩ (ptr T')).setCell ⟨X, 6, none⟩ (.bool false)) ([] ++ [NtT N (x.bag.map pkD) x.sent, BlkT X (prO C T' N x.used x.acted.length x.answered.length), BlkT C (clC x.c), TbT T x.t.dk, TbT T' ⟨0, 0, 0, ⟨#[]⟩⟩]) := h2
        exact h3.pickEnd [0, 1, 2, 4] (by decide) (by intro q hq; simp at hq ⊢; omega))
      clear b9 H9
      go_wp2_with fail
      go_end0
      exact ⟨_, rfl, H10.out⟩
set_option maxHeartbeats 6400000 in
set_option maxRecDepth 100000 in
theorem st_pdoes0 {X C T N : Nat} {x : Pm} (H : St W w (paL X C T N x)) {B : Nat} (hx : x.ok) (hnu : x.nums B) (hbl : x.bag.length ≤ 536870912) (n : Int) (kind : Int) (k1 : (kind == 1) = false) (k2 : (kind == 2) = false) (k3 : (kind == 3) = false) (k4 : (kind == 4) = false) (k5 : (kind == 5) = false) (k6 : (kind == 6) = false) :
    Calls Try.prog 13 #[ptr X, .agg #[.int .i64 kind, .int .i64 n]] w fun e w' => ∃ T', e = .returned (.tuple #[]) ∧ St W w' (paL X C T' N x) := by
  have hbX := H.blk 1 rfl
  have hpl := hid (fun m hm => place_of n m hm)
  have H2 := H.alloc (wdO kind n)
  have HLn := hid (show ∀ wx, Fr [] (w.alloc (wdO kind n)) wx → Calls Try.prog 17 #[ptr N] wx fun e w' => e = .returned (.int .i64 x.bag.length) ∧ wx = w' from fun wx hF => by
    have h := st_nlen (H2.same hF) 0 rfl
    rw [List.length_map] at h
    exact h)
  have HS := hid (show ∀ wx, Fr [] (w.alloc (wdO kind n)) wx → wx.cell? ⟨X, 2, none⟩ = some (ptr N) ∧ wx.cell? ⟨w.heap.size, 1, none⟩ = some (.int .i64 n) from fun wx hF => ⟨cell_blk (i := 2) ((H2.same hF).blk 1 rfl) rfl, cell_blk (i := 1) ((H2.same hF).blk 4 rfl) rfl⟩)
  have H2 := hid H2
  have HBL := hid hbl
  have HX := hid hx
  have HNu := hid hnu
  have x0 := cell_blk (i := 0) hbX rfl
  have x2 := cell_blk (i := 2) hbX rfl
  have hg := lt_of_block hbX
  clear H hbX hx hbl hnu
  by_cases he : x.bag.length = 0
  · have hp0 : x.place n = 0 := by unfold Pm.place; rw [if_pos he]
    have b0 : (x.bag.length : Int) = 0 := by omega
    rw [b0] at HLn
    have HP := hid hp0
    clear he hp0 b0
    go_enter Try.func13, Try.ntmps13
    go_wp2_with fail
    refine (HLn.out _ (Fr.refl _ _)).mono ?_
    rintro e w1 ⟨rfl, rfl⟩
    have HKI := hid (show ((x.place n : Nat) : Int) = 0 from by rw [HP.out]; rfl)
    have H9 := hid ((H2.out.same ((Fr.refl _ _))).take 4)
    go_wp2_with fail
    go_end0
    exact ⟨_, rfl, H9.out⟩
  · have b0 : (0 : Int) < x.bag.length := by omega
    have hp0 : x.place n = (n % (x.bag.length : Int)).toNat := by unfold Pm.place; rw [if_neg he]
    obtain ⟨m, hm⟩ : ∃ m : Int, (x.bag.length : Int) = m := ⟨_, rfl⟩
    rw [hm] at HLn b0 hp0
    have hnz : (m == 0) = false := by rw [beq_eq_false_iff_ne]; omega
    have hnz2 : ¬ m = 0 := by omega
    obtain ⟨q1, q2, q3, q4⟩ := hpl.out m (by omega)
    have hmm := hid (show m ≤ 1073741824 from by have := HBL.out; omega)
    rw [← hp0] at q3 q4
    clear hp0 he hm
    by_cases hs : n.tmod m < 0
    · have e4 := hid (q4 hs)
      have hw := hid (show wrap64 (n.tmod m + m) = ((x.place n : Nat) : Int) from by rw [IntWalk.wrap64_in _ (by have := hmm.out; omega)]; exact q4 hs)
      clear q1 q2 q3 q4
      go_enter Try.func13, Try.ntmps13
      go_wp2_with fail
      refine (HLn.out _ (Fr.refl _ _)).mono ?_
      rintro e w1 ⟨rfl, rfl⟩
      go_wp2_with fail
      refine wp_region_U (S := fun wx : World => wx.cell? ⟨X, 2, none⟩ = some (ptr N) ∧ wx.cell? ⟨w.heap.size, 1, none⟩ = some (.int .i64 n)) 8 (by kernel_rfl) (HS.out _ ((Fr.refl _ _).drew)) (fun hHeld => ?_)
      refine takeU (i := 0) (d := 13) (v := ?_) rfl rfl (by kernel_rfl) (by kernel_rfl) (by kernel_rfl) (by kernel_rfl) (by kernel_rfl) (fun _ _ _ h => h) (Or.inl ⟨by rfl, ?_⟩) hHeld ?_
      rotate_left
      · intro wq hSw; (try dsimp only at hSw); go_simp; all_goals (with_reducible rfl)
      simp only [Act.put, List.setIfInBounds_toArray, List.set_cons_zero, List.set_cons_succ]
      refine takeU (i := 1) (d := 14) (v := ?_) rfl rfl (by kernel_rfl) (by kernel_rfl) (by kernel_rfl) (by kernel_rfl) (by kernel_rfl) (fun _ _ _ h => h) (Or.inl ⟨by rfl, ?_⟩) hHeld ?_
      rotate_left
      · intro wq hSw; (try dsimp only at hSw); go_simp; all_goals (with_reducible rfl)
      simp only [Act.put, List.setIfInBounds_toArray, List.set_cons_zero, List.set_cons_succ]
      refine takeU (i := 2) (d := 15) (v := ?_) rfl rfl (by kernel_rfl) (by kernel_rfl) (by kernel_rfl) (by kernel_rfl) (by kernel_rfl) (fun _ _ _ h => h) (Or.inl ⟨by rfl, ?_⟩) hHeld ?_
      rotate_left
      · intro wq hSw; (try dsimp only at hSw); go_simp; all_goals (with_reducible rfl)
      simp only [Act.put, List.setIfInBounds_toArray, List.set_cons_zero, List.set_cons_succ]
      refine takeU (i := 3) (d := 16) (v := ?_) rfl rfl (by kernel_rfl) (by kernel_rfl) (by kernel_rfl) (by kernel_rfl) (by kernel_rfl) (fun _ _ _ h => h) (Or.inl ⟨by rfl, ?_⟩) hHeld ?_
      rotate_left
      · intro wq hSw; (try dsimp only at hSw); go_simp; all_goals (with_reducible rfl)
      simp only [Act.put, List.setIfInBounds_toArray, List.set_cons_zero, List.set_cons_succ]
      refine takeU (i := 4) (d := 17) (v := ?_) rfl rfl (by kernel_rfl) (by kernel_rfl) (by kernel_rfl) (by kernel_rfl) (by kernel_rfl) (fun _ _ _ h => h) (Or.inl ⟨by rfl, ?_⟩) hHeld ?_
      rotate_left
      · intro wq hSw; (try dsimp only at hSw); go_simp; all_goals (with_reducible rfl)
      simp only [Act.put, List.setIfInBounds_toArray, List.set_cons_zero, List.set_cons_succ]
      refine takeU (i := 5) (d := 18) (v := ?_) rfl rfl (by kernel_rfl) (by kernel_rfl) (by kernel_rfl) (by kernel_rfl) (by kernel_rfl) (fun _ _ _ h => h) (Or.inl ⟨by rfl, ?_⟩) hHeld ?_
      rotate_left
      · intro wq hSw; (try dsimp only at hSw); go_simp; all_goals (with_reducible rfl)
      simp only [Act.put, List.setIfInBounds_toArray, List.set_cons_zero, List.set_cons_succ]
      refine wpAnyU_ready (rs := [6]) (by kernel_rfl) (by simp) ?_
      refine AllReadyU.cons rfl (fun K1 hK => ?_) AllReadyU.nil
      go_simp
      go_at_call 17
      refine (HLn.out _ ((Fr.refl _ _).drew)).mono ?_
      rintro e w9 ⟨rfl, rfl⟩
      go_simp
      refine hK.out _ _ (fun _ => hHeld) (fun _ => ?_)
      clear hK K1
      refine takeU (i := 7) (d := 20) (v := ?_) rfl rfl (by kernel_rfl) (by kernel_rfl) (by kernel_rfl) (by kernel_rfl) (by kernel_rfl) (fun _ _ _ h => h) (Or.inl ⟨by rfl, ?_⟩) hHeld ?_
      rotate_left
      · intro wq hSw; (try dsimp only at hSw); go_simp; all_goals (with_reducible rfl)
      simp only [Act.put, List.setIfInBounds_toArray, List.set_cons_zero, List.set_cons_succ]
      refine wpAnyU_ready (rs := [8]) (by kernel_rfl) (by simp) ?_
      refine AllReadyU.cons rfl (fun K1 hK => ?_) AllReadyU.nil
      go_simp
      refine hK.out _ _ (fun h => absurd rfl h) (fun _ => ?_)
      clear hK K1 hHeld
      refine wpAnyU_done (by kernel_rfl) ?_ _
      go_wp2_with fail
      refine (HLn.out _ ((Fr.refl _ _).drew)).mono ?_
      rintro e w1 ⟨rfl, rfl⟩
      have HKI := hid hw.out.symm
      have H9 := hid ((H2.out.same ((Fr.refl _ _).drew)).take 4)
      go_wp2_with fail
      go_end0
      exact ⟨_, rfl, H9.out⟩
    · have e3 := hid (q3 (by omega))
      have hs2 : ¬ n.tmod m < 0 := hs
      clear q1 q2 q3 q4 hs
      go_enter Try.func13, Try.ntmps13
      go_wp2_with fail
      refine (HLn.out _ (Fr.refl _ _)).mono ?_
      rintro e w1 ⟨rfl, rfl⟩
      go_wp2_with fail
      refine wp_region_U (S := fun wx : World => wx.cell? ⟨X, 2, none⟩ = some (ptr N) ∧ wx.cell? ⟨w.heap.size, 1, none⟩ = some (.int .i64 n)) 8 (by kernel_rfl) (HS.out _ ((Fr.refl _ _).drew)) (fun hHeld => ?_)
      refine takeU (i := 0) (d := 13) (v := ?_) rfl rfl (by kernel_rfl) (by kernel_rfl) (by kernel_rfl) (by kernel_rfl) (by kernel_rfl) (fun _ _ _ h => h) (Or.inl ⟨by rfl, ?_⟩) hHeld ?_
      rotate_left
      · intro wq hSw; (try dsimp only at hSw); go_simp; all_goals (with_reducible rfl)
      simp only [Act.put, List.setIfInBounds_toArray, List.set_cons_zero, List.set_cons_succ]
      refine takeU (i := 1) (d := 14) (v := ?_) rfl rfl (by kernel_rfl) (by kernel_rfl) (by kernel_rfl) (by kernel_rfl) (by kernel_rfl) (fun _ _ _ h => h) (Or.inl ⟨by rfl, ?_⟩) hHeld ?_
      rotate_left
      · intro wq hSw; (try dsimp only at hSw); go_simp; all_goals (with_reducible rfl)
      simp only [Act.put, List.setIfInBounds_toArray, List.set_cons_zero, List.set_cons_succ]
      refine takeU (i := 2) (d := 15) (v := ?_) rfl rfl (by kernel_rfl) (by kernel_rfl) (by kernel_rfl) (by kernel_rfl) (by kernel_rfl) (fun _ _ _ h => h) (Or.inl ⟨by rfl, ?_⟩) hHeld ?_
      rotate_left
      · intro wq hSw; (try dsimp only at hSw); go_simp; all_goals (with_reducible rfl)
      simp only [Act.put, List.setIfInBounds_toArray, List.set_cons_zero, List.set_cons_succ]
      refine takeU (i := 3) (d := 16) (v := ?_) rfl rfl (by kernel_rfl) (by kernel_rfl) (by kernel_rfl) (by kernel_rfl) (by kernel_rfl) (fun _ _ _ h => h) (Or.inl ⟨by rfl, ?_⟩) hHeld ?_
      rotate_left
      · intro wq hSw; (try dsimp only at hSw); go_simp; all_goals (with_reducible rfl)
      simp only [Act.put, List.setIfInBounds_toArray, List.set_cons_zero, List.set_cons_succ]
      refine takeU (i := 4) (d := 17) (v := ?_) rfl rfl (by kernel_rfl) (by kernel_rfl) (by kernel_rfl) (by kernel_rfl) (by kernel_rfl) (fun _ _ _ h => h) (Or.inl ⟨by rfl, ?_⟩) hHeld ?_
      rotate_left
      · intro wq hSw; (try dsimp only at hSw); go_simp; all_goals (with_reducible rfl)
      simp only [Act.put, List.setIfInBounds_toArray, List.set_cons_zero, List.set_cons_succ]
      refine takeU (i := 5) (d := 18) (v := ?_) rfl rfl (by kernel_rfl) (by kernel_rfl) (by kernel_rfl) (by kernel_rfl) (by kernel_rfl) (fun _ _ _ h => h) (Or.inl ⟨by rfl, ?_⟩) hHeld ?_
      rotate_left
      · intro wq hSw; (try dsimp only at hSw); go_simp; all_goals (with_reducible rfl)
      simp only [Act.put, List.setIfInBounds_toArray, List.set_cons_zero, List.set_cons_succ]
      refine wpAnyU_ready (rs := [6]) (by kernel_rfl) (by simp) ?_
      refine AllReadyU.cons rfl (fun K1 hK => ?_) AllReadyU.nil
      go_simp
      go_at_call 17
      refine (HLn.out _ ((Fr.refl _ _).drew)).mono ?_
      rintro e w9 ⟨rfl, rfl⟩
      go_simp
      refine hK.out _ _ (fun _ => hHeld) (fun _ => ?_)
      clear hK K1
      refine takeU (i := 7) (d := 20) (v := ?_) rfl rfl (by kernel_rfl) (by kernel_rfl) (by kernel_rfl) (by kernel_rfl) (by kernel_rfl) (fun _ _ _ h => h) (Or.inl ⟨by rfl, ?_⟩) hHeld ?_
      rotate_left
      · intro wq hSw; (try dsimp only at hSw); go_simp; all_goals (with_reducible rfl)
      simp only [Act.put, List.setIfInBounds_toArray, List.set_cons_zero, List.set_cons_succ]
      refine wpAnyU_ready (rs := [8]) (by kernel_rfl) (by simp) ?_
      refine AllReadyU.cons rfl (fun K1 hK => ?_) AllReadyU.nil
      go_simp
      refine hK.out _ _ (fun h => absurd rfl h) (fun _ => ?_)
      clear hK K1 hHeld
      refine wpAnyU_done (by kernel_rfl) ?_ _
      have HKI := hid e3.out.symm
      have H9 := hid ((H2.out.same ((Fr.refl _ _).drew)).take 4)
      go_wp2_with fail
      go_end0
      exact ⟨_, rfl, H9.out⟩

theorem st_pdoes {X C T N : Nat} {x : Pm} (H : St W w (paL X C T N x)) {B : Nat} (hx : x.ok) (hnu : x.nums B) (hB : B < 1099511627776) (hbl : x.bag.length ≤ 536870912) (hac : x.acted.length < 1073741824) (kind n : Int) :
    Calls Try.prog 13 #[ptr X, .agg #[.int .i64 kind, .int .i64 n]] w fun e w' => ∃ T', e = .returned (.tuple #[]) ∧ St W w' (paL X C T' N (x.does kind n)) := by
  unfold Pm.does
  by_cases h1 : kind = 1
  · rw [if_pos h1]; subst h1; exact st_pdoes1 H hx hnu hB hbl n
  · rw [if_neg h1]
    by_cases h2 : kind = 2
    · rw [if_pos h2]; subst h2; exact st_pdoes2 H hx hnu hB hbl n
    · rw [if_neg h2]
      by_cases h3 : kind = 3
      · rw [if_pos h3]; subst h3; exact st_pdoes3 H hx hnu hB hbl hac n
      · rw [if_neg h3]
        by_cases h4 : kind = 4
        · rw [if_pos h4]; subst h4; exact st_pdoes4 H hx hnu hbl n
        · rw [if_neg h4]
          by_cases h5 : kind = 5
          · rw [if_pos h5]; subst h5; exact st_pdoes5 H hx hnu hbl n
          · rw [if_neg h5]
            by_cases h6 : kind = 6
            · rw [if_pos h6]; subst h6; exact st_pdoes6 H hx hnu hbl n
            · rw [if_neg h6]; exact st_pdoes0 H hx hnu hbl n kind (by simpa using h1) (by simpa using h2) (by simpa using h3) (by simpa using h4) (by simpa using h5) (by simpa using h6)
end

end Go.Proofs.Ytkiccbjngokpjaa
