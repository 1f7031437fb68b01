/-
  Merged, in build order: At4 At6.
-/
import Derived.Test.YtkiccbjngokpjaaGreatM27
import Derived.Test.YtkiccbjngokpjaaGreatM23
/-
  the artefacts of top: does.
-/
namespace Go.Proofs.YtkiccbjngokpjaaGreat
open Go.RowKit
set_option linter.unusedVariables false
set_option linter.unusedSimpArgs false

def Am.dup (x : Am) (k : Nat) : Am := match x.bag[k]? with
  | none => x
  | some p => x.send p.2
theorem Am.dup_none {x : Am} {k : Nat} (h : x.bag[k]? = none) : x.dup k = x := by unfold Am.dup; rw [h]
theorem Am.dup_some {x : Am} {k : Nat} {p : Int × Pz} (h : x.bag[k]? = some p) : x.dup k = x.send p.2 := by unfold Am.dup; rw [h]
theorem Am.dlv_none {x : Am} {k : Nat} (h : x.bag[k]? = none) : x.dlv k = x := by unfold Am.dlv; rw [h]
theorem Am.dlv_some {x : Am} {k : Nat} {p : Int × Pz} (h : x.bag[k]? = some p) : x.dlv k = (x.drop k).comes p.2 := by unfold Am.dlv; rw [h]
theorem pkA_num (m n : Int) (p : Pz) : ({ pkA (m, p) with num := n } : Dg) = pkA (n, p) := by cases p <;> rfl
section
variable {W : Base} {w : World} {T : List Thing}
theorem am_drop {X S K N nn : Nat} {x : Am} {pv : Value} {k : Nat} (H : St W w ((amL X S K N x pv nn ++ T).set 3 (NtT N ((x.bag.map pkA).eraseIdx k) x.sent))) : St W w (amL X S K N (x.drop k) pv nn ++ T) := by
  have h2 : St W w ([BlkT X (amO S K N x pv), SnT S x.s, KnT K x.k nn, NtT N ((x.bag.map pkA).eraseIdx k) x.sent, RowT 9 1 pv x.s.texts.length (txC x.s.texts)] ++ T) := H
  rw [eraseIdx_map_pk] at h2
  exact h2
set_option maxHeartbeats 6400000 in
set_option maxRecDepth 100000 in
theorem st_adoes1 {X S K N nn : Nat} {x : Am} {pv : Value} (H : St W w (amL X S K N x pv nn ++ T)) (hx : x.ok) (hbl : x.bag.length ≤ 536870912) (n : Int) (t : ByteArray) :
    Calls Tryz.prog 6 #[ptr X, .agg #[.int .i64 1, .int .i64 n, .string t]] w fun e w' => ∃ pv', e = .returned (.tuple #[]) ∧ St W w' (amL X S K N (x.puts t) pv' nn ++ T) := by
  have hbX := H.blk 0 rfl
  have hpl := hid (fun m hm => place_of n m hm)
  have H2 := H.alloc (fwO 1 n t)
  have hpd : (amL X S K N x pv nn ++ T ++ [BlkT w.heap.size (fwO 1 n t)])[5 + T.length]? = some (BlkT w.heap.size (fwO 1 n t)) := get_end5 _ _ _ _ _ _ _
  have HLn := hid (show ∀ wx, Fr [] (w.alloc (fwO 1 n t)) wx → Calls Tryz.prog 23 #[ptr N] wx fun e w' => e = .returned (.int .i64 x.bag.length) ∧ wx = w' from fun wx hF => by
    have h := st_nlen (H2.same hF) 3 rfl
    rw [List.length_map] at h
    exact h)
  have HS := hid (show ∀ wx, Fr [] (w.alloc (fwO 1 n t)) wx → wx.cell? ⟨X, 3, none⟩ = some (ptr N) ∧ wx.cell? ⟨w.heap.size, 1, none⟩ = some (.int .i64 n) from fun wx hF => ⟨cell_blk (i := 3) ((H2.same hF).blk 0 rfl) rfl, cell_blk (i := 1) ((H2.same hF).blk _ hpd) rfl⟩)
  have HH := hid (show ∀ wx, Fr [] (w.alloc (fwO 1 n t)) wx → St W wx (amL X S K N x pv nn ++ T) from fun wx hF => (H2.same hF).drop)
  have HBL := hid hbl
  have HX := hid hx
  have x0 := cell_blk (i := 0) hbX rfl
  have x1 := cell_blk (i := 1) hbX rfl
  have x3 := cell_blk (i := 3) hbX rfl
  have hg := lt_of_block hbX
  clear H H2 hbX hx hbl hpd
  by_cases he : x.bag.length = 0
  · have hp0 : x.place n = 0 := by unfold Am.place; rw [if_pos he]
    have b0 : (x.bag.length : Int) = 0 := by omega
    rw [b0] at HLn
    have HP := hid hp0
    clear he hp0 b0
    go_enter Tryz.func6, Tryz.ntmps6
    go_wp2_with fail
    refine (HLn.out _ (Fr.refl _ _)).mono ?_
    rintro e w1 ⟨rfl, rfl⟩
    have HKI := hid (show ((x.place n : Nat) : Int) = 0 from by rw [HP.out]; rfl)
    go_wp2_with fail
    refine (st_aputs (HH.out _ ((Fr.refl _ _))) HX.out.d4 t).mono ?_
    rintro e w9 ⟨pv9, rfl, H9⟩
    have H9 := hid H9
    go_wp2_with fail
    go_end0
    exact ⟨_, rfl, H9.out⟩
  · have b0 : (0 : Int) < x.bag.length := by omega
    have hp0 : x.place n = (n % (x.bag.length : Int)).toNat := by unfold Am.place; rw [if_neg he]
    obtain ⟨m, hm⟩ : ∃ m : Int, (x.bag.length : Int) = m := ⟨_, rfl⟩
    rw [hm] at HLn b0 hp0
    have hnz : (m == 0) = false := by rw [beq_eq_false_iff_ne]; omega
    have hnz2 : ¬ m = 0 := by omega
    obtain ⟨q1, q2, q3, q4⟩ := hpl.out m (by omega)
    have hmm := hid (show m ≤ 1073741824 from by have := HBL.out; omega)
    rw [← hp0] at q3 q4
    clear hp0 he hm
    by_cases hs : n.tmod m < 0
    · have e4 := hid (q4 hs)
      have hw := hid (show wrap64 (n.tmod m + m) = ((x.place n : Nat) : Int) from by rw [IntWalk.wrap64_in _ (by have := hmm.out; omega)]; exact q4 hs)
      clear q1 q2 q3 q4
      go_enter Tryz.func6, Tryz.ntmps6
      go_wp2_with fail
      refine (HLn.out _ (Fr.refl _ _)).mono ?_
      rintro e w1 ⟨rfl, rfl⟩
      go_wp2_with fail
      refine wp_region_U (S := fun wx : World => wx.cell? ⟨X, 3, none⟩ = some (ptr N) ∧ wx.cell? ⟨w.heap.size, 1, none⟩ = some (.int .i64 n)) 8 (by kernel_rfl) (HS.out _ ((Fr.refl _ _).drew)) (fun hHeld => ?_)
      refine takeU (i := 0) (d := 13) (v := ?_) rfl rfl (by kernel_rfl) (by kernel_rfl) (by kernel_rfl) (by kernel_rfl) (by kernel_rfl) (fun _ _ _ h => h) (Or.inl ⟨by rfl, ?_⟩) hHeld ?_
      rotate_left
      · intro wq hSw; (try dsimp only at hSw); go_simp; all_goals (with_reducible rfl)
      simp only [Act.put, List.setIfInBounds_toArray, List.set_cons_zero, List.set_cons_succ]
      refine takeU (i := 1) (d := 14) (v := ?_) rfl rfl (by kernel_rfl) (by kernel_rfl) (by kernel_rfl) (by kernel_rfl) (by kernel_rfl) (fun _ _ _ h => h) (Or.inl ⟨by rfl, ?_⟩) hHeld ?_
      rotate_left
      · intro wq hSw; (try dsimp only at hSw); go_simp; all_goals (with_reducible rfl)
      simp only [Act.put, List.setIfInBounds_toArray, List.set_cons_zero, List.set_cons_succ]
      refine takeU (i := 2) (d := 15) (v := ?_) rfl rfl (by kernel_rfl) (by kernel_rfl) (by kernel_rfl) (by kernel_rfl) (by kernel_rfl) (fun _ _ _ h => h) (Or.inl ⟨by rfl, ?_⟩) hHeld ?_
      rotate_left
      · intro wq hSw; (try dsimp only at hSw); go_simp; all_goals (with_reducible rfl)
      simp only [Act.put, List.setIfInBounds_toArray, List.set_cons_zero, List.set_cons_succ]
      refine takeU (i := 3) (d := 16) (v := ?_) rfl rfl (by kernel_rfl) (by kernel_rfl) (by kernel_rfl) (by kernel_rfl) (by kernel_rfl) (fun _ _ _ h => h) (Or.inl ⟨by rfl, ?_⟩) hHeld ?_
      rotate_left
      · intro wq hSw; (try dsimp only at hSw); go_simp; all_goals (with_reducible rfl)
      simp only [Act.put, List.setIfInBounds_toArray, List.set_cons_zero, List.set_cons_succ]
      refine takeU (i := 4) (d := 17) (v := ?_) rfl rfl (by kernel_rfl) (by kernel_rfl) (by kernel_rfl) (by kernel_rfl) (by kernel_rfl) (fun _ _ _ h => h) (Or.inl ⟨by rfl, ?_⟩) hHeld ?_
      rotate_left
      · intro wq hSw; (try dsimp only at hSw); go_simp; all_goals (with_reducible rfl)
      simp only [Act.put, List.setIfInBounds_toArray, List.set_cons_zero, List.set_cons_succ]
      refine takeU (i := 5) (d := 18) (v := ?_) rfl rfl (by kernel_rfl) (by kernel_rfl) (by kernel_rfl) (by kernel_rfl) (by kernel_rfl) (fun _ _ _ h => h) (Or.inl ⟨by rfl, ?_⟩) hHeld ?_
      rotate_left
      · intro wq hSw; (try dsimp only at hSw); go_simp; all_goals (with_reducible rfl)
      simp only [Act.put, List.setIfInBounds_toArray, List.set_cons_zero, List.set_cons_succ]
      refine wpAnyU_ready (rs := [6]) (by kernel_rfl) (by simp) ?_
      refine AllReadyU.cons rfl (fun K1 hK => ?_) AllReadyU.nil
      go_simp
      go_at_call 23
      refine (HLn.out _ ((Fr.refl _ _).drew)).mono ?_
      rintro e w9 ⟨rfl, rfl⟩
      go_simp
      refine hK.out _ _ (fun _ => hHeld) (fun _ => ?_)
      clear hK K1
      refine takeU (i := 7) (d := 20) (v := ?_) rfl rfl (by kernel_rfl) (by kernel_rfl) (by kernel_rfl) (by kernel_rfl) (by kernel_rfl) (fun _ _ _ h => h) (Or.inl ⟨by rfl, ?_⟩) hHeld ?_
      rotate_left
      · intro wq hSw; (try dsimp only at hSw); go_simp; all_goals (with_reducible rfl)
      simp only [Act.put, List.setIfInBounds_toArray, List.set_cons_zero, List.set_cons_succ]
      refine wpAnyU_ready (rs := [8]) (by kernel_rfl) (by simp) ?_
      refine AllReadyU.cons rfl (fun K1 hK => ?_) AllReadyU.nil
      go_simp
      refine hK.out _ _ (fun h => absurd rfl h) (fun _ => ?_)
      clear hK K1 hHeld
      refine wpAnyU_done (by kernel_rfl) ?_ _
      go_wp2_with fail
      refine (HLn.out _ ((Fr.refl _ _).drew)).mono ?_
      rintro e w1 ⟨rfl, rfl⟩
      have HKI := hid hw.out.symm
      go_wp2_with fail
      refine (st_aputs (HH.out _ ((Fr.refl _ _).drew)) HX.out.d4 t).mono ?_
      rintro e w9 ⟨pv9, rfl, H9⟩
      have H9 := hid H9
      go_wp2_with fail
      go_end0
      exact ⟨_, rfl, H9.out⟩
    · have e3 := hid (q3 (by omega))
      have hs2 : ¬ n.tmod m < 0 := hs
      clear q1 q2 q3 q4 hs
      go_enter Tryz.func6, Tryz.ntmps6
      go_wp2_with fail
      refine (HLn.out _ (Fr.refl _ _)).mono ?_
      rintro e w1 ⟨rfl, rfl⟩
      go_wp2_with fail
      refine wp_region_U (S := fun wx : World => wx.cell? ⟨X, 3, none⟩ = some (ptr N) ∧ wx.cell? ⟨w.heap.size, 1, none⟩ = some (.int .i64 n)) 8 (by kernel_rfl) (HS.out _ ((Fr.refl _ _).drew)) (fun hHeld => ?_)
      refine takeU (i := 0) (d := 13) (v := ?_) rfl rfl (by kernel_rfl) (by kernel_rfl) (by kernel_rfl) (by kernel_rfl) (by kernel_rfl) (fun _ _ _ h => h) (Or.inl ⟨by rfl, ?_⟩) hHeld ?_
      rotate_left
      · intro wq hSw; (try dsimp only at hSw); go_simp; all_goals (with_reducible rfl)
      simp only [Act.put, List.setIfInBounds_toArray, List.set_cons_zero, List.set_cons_succ]
      refine takeU (i := 1) (d := 14) (v := ?_) rfl rfl (by kernel_rfl) (by kernel_rfl) (by kernel_rfl) (by kernel_rfl) (by kernel_rfl) (fun _ _ _ h => h) (Or.inl ⟨by rfl, ?_⟩) hHeld ?_
      rotate_left
      · intro wq hSw; (try dsimp only at hSw); go_simp; all_goals (with_reducible rfl)
      simp only [Act.put, List.setIfInBounds_toArray, List.set_cons_zero, List.set_cons_succ]
      refine takeU (i := 2) (d := 15) (v := ?_) rfl rfl (by kernel_rfl) (by kernel_rfl) (by kernel_rfl) (by kernel_rfl) (by kernel_rfl) (fun _ _ _ h => h) (Or.inl ⟨by rfl, ?_⟩) hHeld ?_
      rotate_left
      · intro wq hSw; (try dsimp only at hSw); go_simp; all_goals (with_reducible rfl)
      simp only [Act.put, List.setIfInBounds_toArray, List.set_cons_zero, List.set_cons_succ]
      refine takeU (i := 3) (d := 16) (v := ?_) rfl rfl (by kernel_rfl) (by kernel_rfl) (by kernel_rfl) (by kernel_rfl) (by kernel_rfl) (fun _ _ _ h => h) (Or.inl ⟨by rfl, ?_⟩) hHeld ?_
      rotate_left
      · intro wq hSw; (try dsimp only at hSw); go_simp; all_goals (with_reducible rfl)
      simp only [Act.put, List.setIfInBounds_toArray, List.set_cons_zero, List.set_cons_succ]
      refine takeU (i := 4) (d := 17) (v := ?_) rfl rfl (by kernel_rfl) (by kernel_rfl) (by kernel_rfl) (by kernel_rfl) (by kernel_rfl) (fun _ _ _ h => h) (Or.inl ⟨by rfl, ?_⟩) hHeld ?_
      rotate_left
      · intro wq hSw; (try dsimp only at hSw); go_simp; all_goals (with_reducible rfl)
      simp only [Act.put, List.setIfInBounds_toArray, List.set_cons_zero, List.set_cons_succ]
      refine takeU (i := 5) (d := 18) (v := ?_) rfl rfl (by kernel_rfl) (by kernel_rfl) (by kernel_rfl) (by kernel_rfl) (by kernel_rfl) (fun _ _ _ h => h) (Or.inl ⟨by rfl, ?_⟩) hHeld ?_
      rotate_left
      · intro wq hSw; (try dsimp only at hSw); go_simp; all_goals (with_reducible rfl)
      simp only [Act.put, List.setIfInBounds_toArray, List.set_cons_zero, List.set_cons_succ]
      refine wpAnyU_ready (rs := [6]) (by kernel_rfl) (by simp) ?_
      refine AllReadyU.cons rfl (fun K1 hK => ?_) AllReadyU.nil
      go_simp
      go_at_call 23
      refine (HLn.out _ ((Fr.refl _ _).drew)).mono ?_
      rintro e w9 ⟨rfl, rfl⟩
      go_simp
      refine hK.out _ _ (fun _ => hHeld) (fun _ => ?_)
      clear hK K1
      refine takeU (i := 7) (d := 20) (v := ?_) rfl rfl (by kernel_rfl) (by kernel_rfl) (by kernel_rfl) (by kernel_rfl) (by kernel_rfl) (fun _ _ _ h => h) (Or.inl ⟨by rfl, ?_⟩) hHeld ?_
      rotate_left
      · intro wq hSw; (try dsimp only at hSw); go_simp; all_goals (with_reducible rfl)
      simp only [Act.put, List.setIfInBounds_toArray, List.set_cons_zero, List.set_cons_succ]
      refine wpAnyU_ready (rs := [8]) (by kernel_rfl) (by simp) ?_
      refine AllReadyU.cons rfl (fun K1 hK => ?_) AllReadyU.nil
      go_simp
      refine hK.out _ _ (fun h => absurd rfl h) (fun _ => ?_)
      clear hK K1 hHeld
      refine wpAnyU_done (by kernel_rfl) ?_ _
      have HKI := hid e3.out.symm
      go_wp2_with fail
      refine (st_aputs (HH.out _ ((Fr.refl _ _).drew)) HX.out.d4 t).mono ?_
      rintro e w9 ⟨pv9, rfl, H9⟩
      have H9 := hid H9
      go_wp2_with fail
      go_end0
      exact ⟨_, rfl, H9.out⟩
set_option maxHeartbeats 6400000 in
set_option maxRecDepth 100000 in
theorem st_adoes2 {X S K N nn : Nat} {x : Am} {pv : Value} (H : St W w (amL X S K N x pv nn ++ T)) (hx : x.ok) (hbd : x.badge ≤ 16777216) (hbl : x.bag.length ≤ 536870912) (n : Int) (t : ByteArray) :
    Calls Tryz.prog 6 #[ptr X, .agg #[.int .i64 2, .int .i64 n, .string t]] w fun e w' => e = .returned (.tuple #[]) ∧ St W w' (amL X S K N (x.tick.says) pv nn ++ T) := by
  have HBd := hid hbd
  clear hbd
  have hbX := H.blk 0 rfl
  have hpl := hid (fun m hm => place_of n m hm)
  have H2 := H.alloc (fwO 2 n t)
  have hpd : (amL X S K N x pv nn ++ T ++ [BlkT w.heap.size (fwO 2 n t)])[5 + T.length]? = some (BlkT w.heap.size (fwO 2 n t)) := get_end5 _ _ _ _ _ _ _
  have HLn := hid (show ∀ wx, Fr [] (w.alloc (fwO 2 n t)) wx → Calls Tryz.prog 23 #[ptr N] wx fun e w' => e = .returned (.int .i64 x.bag.length) ∧ wx = w' from fun wx hF => by
    have h := st_nlen (H2.same hF) 3 rfl
    rw [List.length_map] at h
    exact h)
  have HS := hid (show ∀ wx, Fr [] (w.alloc (fwO 2 n t)) wx → wx.cell? ⟨X, 3, none⟩ = some (ptr N) ∧ wx.cell? ⟨w.heap.size, 1, none⟩ = some (.int .i64 n) from fun wx hF => ⟨cell_blk (i := 3) ((H2.same hF).blk 0 rfl) rfl, cell_blk (i := 1) ((H2.same hF).blk _ hpd) rfl⟩)
  have HH := hid (show ∀ wx, Fr [] (w.alloc (fwO 2 n t)) wx → St W wx (amL X S K N x pv nn ++ T) from fun wx hF => (H2.same hF).drop)
  have HBL := hid hbl
  have HX := hid hx
  have x0 := cell_blk (i := 0) hbX rfl
  have x1 := cell_blk (i := 1) hbX rfl
  have x3 := cell_blk (i := 3) hbX rfl
  have hg := lt_of_block hbX
  clear H H2 hbX hx hbl hpd
  by_cases he : x.bag.length = 0
  · have hp0 : x.place n = 0 := by unfold Am.place; rw [if_pos he]
    have b0 : (x.bag.length : Int) = 0 := by omega
    rw [b0] at HLn
    have HP := hid hp0
    clear he hp0 b0
    go_enter Tryz.func6, Tryz.ntmps6
    go_wp2_with fail
    refine (HLn.out _ (Fr.refl _ _)).mono ?_
    rintro e w1 ⟨rfl, rfl⟩
    have HKI := hid (show ((x.place n : Nat) : Int) = 0 from by rw [HP.out]; rfl)
    go_wp2_with fail
    refine (st_stick (HH.out _ ((Fr.refl _ _))) 1 rfl (by have := HX.out.tm; have := HX.out.r16; omega)).mono ?_
    rintro e w9 ⟨rfl, H9⟩
    have H9 : St W w9 (amL X S K N x.tick pv nn ++ T) := H9
    have H9 := hid H9
    go_wp2_with fail
    refine (st_asays H9.out HX.out.tick (Nat.le_trans HBd.out (by decide)) HBL.out).mono ?_
    rintro e w10 ⟨rfl, H10⟩
    have H10 := hid H10
    go_wp2_with fail
    go_end0
    exact ⟨rfl, H10.out⟩
  · have b0 : (0 : Int) < x.bag.length := by omega
    have hp0 : x.place n = (n % (x.bag.length : Int)).toNat := by unfold Am.place; rw [if_neg he]
    obtain ⟨m, hm⟩ : ∃ m : Int, (x.bag.length : Int) = m := ⟨_, rfl⟩
    rw [hm] at HLn b0 hp0
    have hnz : (m == 0) = false := by rw [beq_eq_false_iff_ne]; omega
    have hnz2 : ¬ m = 0 := by omega
    obtain ⟨q1, q2, q3, q4⟩ := hpl.out m (by omega)
    have hmm := hid (show m ≤ 1073741824 from by have := HBL.out; omega)
    rw [← hp0] at q3 q4
    clear hp0 he hm
    by_cases hs : n.tmod m < 0
    · have e4 := hid (q4 hs)
      have hw := hid (show wrap64 (n.tmod m + m) = ((x.place n : Nat) : Int) from by rw [IntWalk.wrap64_in _ (by have := hmm.out; omega)]; exact q4 hs)
      clear q1 q2 q3 q4
      go_enter Tryz.func6, Tryz.ntmps6
      go_wp2_with fail
      refine (HLn.out _ (Fr.refl _ _)).mono ?_
      rintro e w1 ⟨rfl, rfl⟩
      go_wp2_with fail
      refine wp_region_U (S := fun wx : World => wx.cell? ⟨X, 3, none⟩ = some (ptr N) ∧ wx.cell? ⟨w.heap.size, 1, none⟩ = some (.int .i64 n)) 8 (by kernel_rfl) (HS.out _ ((Fr.refl _ _).drew)) (fun hHeld => ?_)
      refine takeU (i := 0) (d := 13) (v := ?_) rfl rfl (by kernel_rfl) (by kernel_rfl) (by kernel_rfl) (by kernel_rfl) (by kernel_rfl) (fun _ _ _ h => h) (Or.inl ⟨by rfl, ?_⟩) hHeld ?_
      rotate_left
      · intro wq hSw; (try dsimp only at hSw); go_simp; all_goals (with_reducible rfl)
      simp only [Act.put, List.setIfInBounds_toArray, List.set_cons_zero, List.set_cons_succ]
      refine takeU (i := 1) (d := 14) (v := ?_) rfl rfl (by kernel_rfl) (by kernel_rfl) (by kernel_rfl) (by kernel_rfl) (by kernel_rfl) (fun _ _ _ h => h) (Or.inl ⟨by rfl, ?_⟩) hHeld ?_
      rotate_left
      · intro wq hSw; (try dsimp only at hSw); go_simp; all_goals (with_reducible rfl)
      simp only [Act.put, List.setIfInBounds_toArray, List.set_cons_zero, List.set_cons_succ]
      refine takeU (i := 2) (d := 15) (v := ?_) rfl rfl (by kernel_rfl) (by kernel_rfl) (by kernel_rfl) (by kernel_rfl) (by kernel_rfl) (fun _ _ _ h => h) (Or.inl ⟨by rfl, ?_⟩) hHeld ?_
      rotate_left
      · intro wq hSw; (try dsimp only at hSw); go_simp; all_goals (with_reducible rfl)
      simp only [Act.put, List.setIfInBounds_toArray, List.set_cons_zero, List.set_cons_succ]
      refine takeU (i := 3) (d := 16) (v := ?_) rfl rfl (by kernel_rfl) (by kernel_rfl) (by kernel_rfl) (by kernel_rfl) (by kernel_rfl) (fun _ _ _ h => h) (Or.inl ⟨by rfl, ?_⟩) hHeld ?_
      rotate_left
      · intro wq hSw; (try dsimp only at hSw); go_simp; all_goals (with_reducible rfl)
      simp only [Act.put, List.setIfInBounds_toArray, List.set_cons_zero, List.set_cons_succ]
      refine takeU (i := 4) (d := 17) (v := ?_) rfl rfl (by kernel_rfl) (by kernel_rfl) (by kernel_rfl) (by kernel_rfl) (by kernel_rfl) (fun _ _ _ h => h) (Or.inl ⟨by rfl, ?_⟩) hHeld ?_
      rotate_left
      · intro wq hSw; (try dsimp only at hSw); go_simp; all_goals (with_reducible rfl)
      simp only [Act.put, List.setIfInBounds_toArray, List.set_cons_zero, List.set_cons_succ]
      refine takeU (i := 5) (d := 18) (v := ?_) rfl rfl (by kernel_rfl) (by kernel_rfl) (by kernel_rfl) (by kernel_rfl) (by kernel_rfl) (fun _ _ _ h => h) (Or.inl ⟨by rfl, ?_⟩) hHeld ?_
      rotate_left
      · intro wq hSw; (try dsimp only at hSw); go_simp; all_goals (with_reducible rfl)
      simp only [Act.put, List.setIfInBounds_toArray, List.set_cons_zero, List.set_cons_succ]
      refine wpAnyU_ready (rs := [6]) (by kernel_rfl) (by simp) ?_
      refine AllReadyU.cons rfl (fun K1 hK => ?_) AllReadyU.nil
      go_simp
      go_at_call 23
      refine (HLn.out _ ((Fr.refl _ _).drew)).mono ?_
      rintro e w9 ⟨rfl, rfl⟩
      go_simp
      refine hK.out _ _ (fun _ => hHeld) (fun _ => ?_)
      clear hK K1
      refine takeU (i := 7) (d := 20) (v := ?_) rfl rfl (by kernel_rfl) (by kernel_rfl) (by kernel_rfl) (by kernel_rfl) (by kernel_rfl) (fun _ _ _ h => h) (Or.inl ⟨by rfl, ?_⟩) hHeld ?_
      rotate_left
      · intro wq hSw; (try dsimp only at hSw); go_simp; all_goals (with_reducible rfl)
      simp only [Act.put, List.setIfInBounds_toArray, List.set_cons_zero, List.set_cons_succ]
      refine wpAnyU_ready (rs := [8]) (by kernel_rfl) (by simp) ?_
      refine AllReadyU.cons rfl (fun K1 hK => ?_) AllReadyU.nil
      go_simp
      refine hK.out _ _ (fun h => absurd rfl h) (fun _ => ?_)
      clear hK K1 hHeld
      refine wpAnyU_done (by kernel_rfl) ?_ _
      go_wp2_with fail
      refine (HLn.out _ ((Fr.refl _ _).drew)).mono ?_
      rintro e w1 ⟨rfl, rfl⟩
      have HKI := hid hw.out.symm
      go_wp2_with fail
      refine (st_stick (HH.out _ ((Fr.refl _ _).drew)) 1 rfl (by have := HX.out.tm; have := HX.out.r16; omega)).mono ?_
      rintro e w9 ⟨rfl, H9⟩
      have H9 : St W w9 (amL X S K N x.tick pv nn ++ T) := H9
      have H9 := hid H9
      go_wp2_with fail
      refine (st_asays H9.out HX.out.tick (Nat.le_trans HBd.out (by decide)) HBL.out).mono ?_
      rintro e w10 ⟨rfl, H10⟩
      have H10 := hid H10
      go_wp2_with fail
      go_end0
      exact ⟨rfl, H10.out⟩
    · have e3 := hid (q3 (by omega))
      have hs2 : ¬ n.tmod m < 0 := hs
      clear q1 q2 q3 q4 hs
      go_enter Tryz.func6, Tryz.ntmps6
      go_wp2_with fail
      refine (HLn.out _ (Fr.refl _ _)).mono ?_
      rintro e w1 ⟨rfl, rfl⟩
      go_wp2_with fail
      refine wp_region_U (S := fun wx : World => wx.cell? ⟨X, 3, none⟩ = some (ptr N) ∧ wx.cell? ⟨w.heap.size, 1, none⟩ = some (.int .i64 n)) 8 (by kernel_rfl) (HS.out _ ((Fr.refl _ _).drew)) (fun hHeld => ?_)
      refine takeU (i := 0) (d := 13) (v := ?_) rfl rfl (by kernel_rfl) (by kernel_rfl) (by kernel_rfl) (by kernel_rfl) (by kernel_rfl) (fun _ _ _ h => h) (Or.inl ⟨by rfl, ?_⟩) hHeld ?_
      rotate_left
      · intro wq hSw; (try dsimp only at hSw); go_simp; all_goals (with_reducible rfl)
      simp only [Act.put, List.setIfInBounds_toArray, List.set_cons_zero, List.set_cons_succ]
      refine takeU (i := 1) (d := 14) (v := ?_) rfl rfl (by kernel_rfl) (by kernel_rfl) (by kernel_rfl) (by kernel_rfl) (by kernel_rfl) (fun _ _ _ h => h) (Or.inl ⟨by rfl, ?_⟩) hHeld ?_
      rotate_left
      · intro wq hSw; (try dsimp only at hSw); go_simp; all_goals (with_reducible rfl)
      simp only [Act.put, List.setIfInBounds_toArray, List.set_cons_zero, List.set_cons_succ]
      refine takeU (i := 2) (d := 15) (v := ?_) rfl rfl (by kernel_rfl) (by kernel_rfl) (by kernel_rfl) (by kernel_rfl) (by kernel_rfl) (fun _ _ _ h => h) (Or.inl ⟨by rfl, ?_⟩) hHeld ?_
      rotate_left
      · intro wq hSw; (try dsimp only at hSw); go_simp; all_goals (with_reducible rfl)
      simp only [Act.put, List.setIfInBounds_toArray, List.set_cons_zero, List.set_cons_succ]
      refine takeU (i := 3) (d := 16) (v := ?_) rfl rfl (by kernel_rfl) (by kernel_rfl) (by kernel_rfl) (by kernel_rfl) (by kernel_rfl) (fun _ _ _ h => h) (Or.inl ⟨by rfl, ?_⟩) hHeld ?_
      rotate_left
      · intro wq hSw; (try dsimp only at hSw); go_simp; all_goals (with_reducible rfl)
      simp only [Act.put, List.setIfInBounds_toArray, List.set_cons_zero, List.set_cons_succ]
      refine takeU (i := 4) (d := 17) (v := ?_) rfl rfl (by kernel_rfl) (by kernel_rfl) (by kernel_rfl) (by kernel_rfl) (by kernel_rfl) (fun _ _ _ h => h) (Or.inl ⟨by rfl, ?_⟩) hHeld ?_
      rotate_left
      · intro wq hSw; (try dsimp only at hSw); go_simp; all_goals (with_reducible rfl)
      simp only [Act.put, List.setIfInBounds_toArray, List.set_cons_zero, List.set_cons_succ]
      refine takeU (i := 5) (d := 18) (v := ?_) rfl rfl (by kernel_rfl) (by kernel_rfl) (by kernel_rfl) (by kernel_rfl) (by kernel_rfl) (fun _ _ _ h => h) (Or.inl ⟨by rfl, ?_⟩) hHeld ?_
      rotate_left
      · intro wq hSw; (try dsimp only at hSw); go_simp; all_goals (with_reducible rfl)
      simp only [Act.put, List.setIfInBounds_toArray, List.set_cons_zero, List.set_cons_succ]
      refine wpAnyU_ready (rs := [6]) (by kernel_rfl) (by simp) ?_
      refine AllReadyU.cons rfl (fun K1 hK => ?_) AllReadyU.nil
      go_simp
      go_at_call 23
      refine (HLn.out _ ((Fr.refl _ _).drew)).mono ?_
      rintro e w9 ⟨rfl, rfl⟩
      go_simp
      refine hK.out _ _ (fun _ => hHeld) (fun _ => ?_)
      clear hK K1
      refine takeU (i := 7) (d := 20) (v := ?_) rfl rfl (by kernel_rfl) (by kernel_rfl) (by kernel_rfl) (by kernel_rfl) (by kernel_rfl) (fun _ _ _ h => h) (Or.inl ⟨by rfl, ?_⟩) hHeld ?_
      rotate_left
      · intro wq hSw; (try dsimp only at hSw); go_simp; all_goals (with_reducible rfl)
      simp only [Act.put, List.setIfInBounds_toArray, List.set_cons_zero, List.set_cons_succ]
      refine wpAnyU_ready (rs := [8]) (by kernel_rfl) (by simp) ?_
      refine AllReadyU.cons rfl (fun K1 hK => ?_) AllReadyU.nil
      go_simp
      refine hK.out _ _ (fun h => absurd rfl h) (fun _ => ?_)
      clear hK K1 hHeld
      refine wpAnyU_done (by kernel_rfl) ?_ _
      have HKI := hid e3.out.symm
      go_wp2_with fail
      refine (st_stick (HH.out _ ((Fr.refl _ _).drew)) 1 rfl (by have := HX.out.tm; have := HX.out.r16; omega)).mono ?_
      rintro e w9 ⟨rfl, H9⟩
      have H9 : St W w9 (amL X S K N x.tick pv nn ++ T) := H9
      have H9 := hid H9
      go_wp2_with fail
      refine (st_asays H9.out HX.out.tick (Nat.le_trans HBd.out (by decide)) HBL.out).mono ?_
      rintro e w10 ⟨rfl, H10⟩
      have H10 := hid H10
      go_wp2_with fail
      go_end0
      exact ⟨rfl, H10.out⟩
set_option maxHeartbeats 6400000 in
set_option maxRecDepth 100000 in
theorem st_adoes4 {X S K N nn : Nat} {x : Am} {pv : Value} (H : St W w (amL X S K N x pv nn ++ T)) (hx : x.ok) (hbl : x.bag.length ≤ 536870912) (n : Int) (t : ByteArray) :
    Calls Tryz.prog 6 #[ptr X, .agg #[.int .i64 4, .int .i64 n, .string t]] w fun e w' => e = .returned (.tuple #[]) ∧ St W w' (amL X S K N (x.drop (x.place n)) pv nn ++ T) := by
  have hbX := H.blk 0 rfl
  have hpl := hid (fun m hm => place_of n m hm)
  have H2 := H.alloc (fwO 4 n t)
  have hpd : (amL X S K N x pv nn ++ T ++ [BlkT w.heap.size (fwO 4 n t)])[5 + T.length]? = some (BlkT w.heap.size (fwO 4 n t)) := get_end5 _ _ _ _ _ _ _
  have HLn := hid (show ∀ wx, Fr [] (w.alloc (fwO 4 n t)) wx → Calls Tryz.prog 23 #[ptr N] wx fun e w' => e = .returned (.int .i64 x.bag.length) ∧ wx = w' from fun wx hF => by
    have h := st_nlen (H2.same hF) 3 rfl
    rw [List.length_map] at h
    exact h)
  have HS := hid (show ∀ wx, Fr [] (w.alloc (fwO 4 n t)) wx → wx.cell? ⟨X, 3, none⟩ = some (ptr N) ∧ wx.cell? ⟨w.heap.size, 1, none⟩ = some (.int .i64 n) from fun wx hF => ⟨cell_blk (i := 3) ((H2.same hF).blk 0 rfl) rfl, cell_blk (i := 1) ((H2.same hF).blk _ hpd) rfl⟩)
  have HH := hid (show ∀ wx, Fr [] (w.alloc (fwO 4 n t)) wx → St W wx (amL X S K N x pv nn ++ T) from fun wx hF => (H2.same hF).drop)
  have HBL := hid hbl
  have HX := hid hx
  have x0 := cell_blk (i := 0) hbX rfl
  have x1 := cell_blk (i := 1) hbX rfl
  have x3 := cell_blk (i := 3) hbX rfl
  have hg := lt_of_block hbX
  clear H H2 hbX hx hbl hpd
  by_cases he : x.bag.length = 0
  · have hp0 : x.place n = 0 := by unfold Am.place; rw [if_pos he]
    have b0 : (x.bag.length : Int) = 0 := by omega
    rw [b0] at HLn
    have HP := hid hp0
    clear he hp0 b0
    go_enter Tryz.func6, Tryz.ntmps6
    go_wp2_with fail
    refine (HLn.out _ (Fr.refl _ _)).mono ?_
    rintro e w1 ⟨rfl, rfl⟩
    have HKI := hid (show ((x.place n : Nat) : Int) = 0 from by rw [HP.out]; rfl)
    have hdr := hid (show ∀ wx, Fr [] (w.alloc (fwO 4 n t)) wx → _ from fun wx hF => st_ndrop (HH.out _ hF) 3 rfl (x.place n) (by have := HBL.out; rw [List.length_map]; omega))
    rw [HKI.out] at hdr
    go_wp2_with fail
    refine (hdr.out _ ((Fr.refl _ _))).mono ?_
    rintro e w9 ⟨z, rfl, H9⟩
    have H9 := hid (am_drop H9)
    go_wp2_with fail
    go_end0
    exact ⟨rfl, H9.out⟩
  · have b0 : (0 : Int) < x.bag.length := by omega
    have hp0 : x.place n = (n % (x.bag.length : Int)).toNat := by unfold Am.place; rw [if_neg he]
    obtain ⟨m, hm⟩ : ∃ m : Int, (x.bag.length : Int) = m := ⟨_, rfl⟩
    rw [hm] at HLn b0 hp0
    have hnz : (m == 0) = false := by rw [beq_eq_false_iff_ne]; omega
    have hnz2 : ¬ m = 0 := by omega
    obtain ⟨q1, q2, q3, q4⟩ := hpl.out m (by omega)
    have hmm := hid (show m ≤ 1073741824 from by have := HBL.out; omega)
    rw [← hp0] at q3 q4
    clear hp0 he hm
    by_cases hs : n.tmod m < 0
    · have e4 := hid (q4 hs)
      have hw := hid (show wrap64 (n.tmod m + m) = ((x.place n : Nat) : Int) from by rw [IntWalk.wrap64_in _ (by have := hmm.out; omega)]; exact q4 hs)
      clear q1 q2 q3 q4
      go_enter Tryz.func6, Tryz.ntmps6
      go_wp2_with fail
      refine (HLn.out _ (Fr.refl _ _)).mono ?_
      rintro e w1 ⟨rfl, rfl⟩
      go_wp2_with fail
      refine wp_region_U (S := fun wx : World => wx.cell? ⟨X, 3, none⟩ = some (ptr N) ∧ wx.cell? ⟨w.heap.size, 1, none⟩ = some (.int .i64 n)) 8 (by kernel_rfl) (HS.out _ ((Fr.refl _ _).drew)) (fun hHeld => ?_)
      refine takeU (i := 0) (d := 13) (v := ?_) rfl rfl (by kernel_rfl) (by kernel_rfl) (by kernel_rfl) (by kernel_rfl) (by kernel_rfl) (fun _ _ _ h => h) (Or.inl ⟨by rfl, ?_⟩) hHeld ?_
      rotate_left
      · intro wq hSw; (try dsimp only at hSw); go_simp; all_goals (with_reducible rfl)
      simp only [Act.put, List.setIfInBounds_toArray, List.set_cons_zero, List.set_cons_succ]
      refine takeU (i := 1) (d := 14) (v := ?_) rfl rfl (by kernel_rfl) (by kernel_rfl) (by kernel_rfl) (by kernel_rfl) (by kernel_rfl) (fun _ _ _ h => h) (Or.inl ⟨by rfl, ?_⟩) hHeld ?_
      rotate_left
      · intro wq hSw; (try dsimp only at hSw); go_simp; all_goals (with_reducible rfl)
      simp only [Act.put, List.setIfInBounds_toArray, List.set_cons_zero, List.set_cons_succ]
      refine takeU (i := 2) (d := 15) (v := ?_) rfl rfl (by kernel_rfl) (by kernel_rfl) (by kernel_rfl) (by kernel_rfl) (by kernel_rfl) (fun _ _ _ h => h) (Or.inl ⟨by rfl, ?_⟩) hHeld ?_
      rotate_left
      · intro wq hSw; (try dsimp only at hSw); go_simp; all_goals (with_reducible rfl)
      simp only [Act.put, List.setIfInBounds_toArray, List.set_cons_zero, List.set_cons_succ]
      refine takeU (i := 3) (d := 16) (v := ?_) rfl rfl (by kernel_rfl) (by kernel_rfl) (by kernel_rfl) (by kernel_rfl) (by kernel_rfl) (fun _ _ _ h => h) (Or.inl ⟨by rfl, ?_⟩) hHeld ?_
      rotate_left
      · intro wq hSw; (try dsimp only at hSw); go_simp; all_goals (with_reducible rfl)
      simp only [Act.put, List.setIfInBounds_toArray, List.set_cons_zero, List.set_cons_succ]
      refine takeU (i := 4) (d := 17) (v := ?_) rfl rfl (by kernel_rfl) (by kernel_rfl) (by kernel_rfl) (by kernel_rfl) (by kernel_rfl) (fun _ _ _ h => h) (Or.inl ⟨by rfl, ?_⟩) hHeld ?_
      rotate_left
      · intro wq hSw; (try dsimp only at hSw); go_simp; all_goals (with_reducible rfl)
      simp only [Act.put, List.setIfInBounds_toArray, List.set_cons_zero, List.set_cons_succ]
      refine takeU (i := 5) (d := 18) (v := ?_) rfl rfl (by kernel_rfl) (by kernel_rfl) (by kernel_rfl) (by kernel_rfl) (by kernel_rfl) (fun _ _ _ h => h) (Or.inl ⟨by rfl, ?_⟩) hHeld ?_
      rotate_left
      · intro wq hSw; (try dsimp only at hSw); go_simp; all_goals (with_reducible rfl)
      simp only [Act.put, List.setIfInBounds_toArray, List.set_cons_zero, List.set_cons_succ]
      refine wpAnyU_ready (rs := [6]) (by kernel_rfl) (by simp) ?_
      refine AllReadyU.cons rfl (fun K1 hK => ?_) AllReadyU.nil
      go_simp
      go_at_call 23
      refine (HLn.out _ ((Fr.refl _ _).drew)).mono ?_
      rintro e w9 ⟨rfl, rfl⟩
      go_simp
      refine hK.out _ _ (fun _ => hHeld) (fun _ => ?_)
      clear hK K1
      refine takeU (i := 7) (d := 20) (v := ?_) rfl rfl (by kernel_rfl) (by kernel_rfl) (by kernel_rfl) (by kernel_rfl) (by kernel_rfl) (fun _ _ _ h => h) (Or.inl ⟨by rfl, ?_⟩) hHeld ?_
      rotate_left
      · intro wq hSw; (try dsimp only at hSw); go_simp; all_goals (with_reducible rfl)
      simp only [Act.put, List.setIfInBounds_toArray, List.set_cons_zero, List.set_cons_succ]
      refine wpAnyU_ready (rs := [8]) (by kernel_rfl) (by simp) ?_
      refine AllReadyU.cons rfl (fun K1 hK => ?_) AllReadyU.nil
      go_simp
      refine hK.out _ _ (fun h => absurd rfl h) (fun _ => ?_)
      clear hK K1 hHeld
      refine wpAnyU_done (by kernel_rfl) ?_ _
      go_wp2_with fail
      refine (HLn.out _ ((Fr.refl _ _).drew)).mono ?_
      rintro e w1 ⟨rfl, rfl⟩
      have HKI := hid hw.out.symm
      have hdr := hid (show ∀ wx, Fr [] (w.alloc (fwO 4 n t)) wx → _ from fun wx hF => st_ndrop (HH.out _ hF) 3 rfl (x.place n) (by have := HBL.out; rw [List.length_map]; omega))
      rw [HKI.out] at hdr
      go_wp2_with fail
      refine (hdr.out _ ((Fr.refl _ _).drew)).mono ?_
      rintro e w9 ⟨z, rfl, H9⟩
      have H9 := hid (am_drop H9)
      go_wp2_with fail
      go_end0
      exact ⟨rfl, H9.out⟩
    · have e3 := hid (q3 (by omega))
      have hs2 : ¬ n.tmod m < 0 := hs
      clear q1 q2 q3 q4 hs
      go_enter Tryz.func6, Tryz.ntmps6
      go_wp2_with fail
      refine (HLn.out _ (Fr.refl _ _)).mono ?_
      rintro e w1 ⟨rfl, rfl⟩
      go_wp2_with fail
      refine wp_region_U (S := fun wx : World => wx.cell? ⟨X, 3, none⟩ = some (ptr N) ∧ wx.cell? ⟨w.heap.size, 1, none⟩ = some (.int .i64 n)) 8 (by kernel_rfl) (HS.out _ ((Fr.refl _ _).drew)) (fun hHeld => ?_)
      refine takeU (i := 0) (d := 13) (v := ?_) rfl rfl (by kernel_rfl) (by kernel_rfl) (by kernel_rfl) (by kernel_rfl) (by kernel_rfl) (fun _ _ _ h => h) (Or.inl ⟨by rfl, ?_⟩) hHeld ?_
      rotate_left
      · intro wq hSw; (try dsimp only at hSw); go_simp; all_goals (with_reducible rfl)
      simp only [Act.put, List.setIfInBounds_toArray, List.set_cons_zero, List.set_cons_succ]
      refine takeU (i := 1) (d := 14) (v := ?_) rfl rfl (by kernel_rfl) (by kernel_rfl) (by kernel_rfl) (by kernel_rfl) (by kernel_rfl) (fun _ _ _ h => h) (Or.inl ⟨by rfl, ?_⟩) hHeld ?_
      rotate_left
      · intro wq hSw; (try dsimp only at hSw); go_simp; all_goals (with_reducible rfl)
      simp only [Act.put, List.setIfInBounds_toArray, List.set_cons_zero, List.set_cons_succ]
      refine takeU (i := 2) (d := 15) (v := ?_) rfl rfl (by kernel_rfl) (by kernel_rfl) (by kernel_rfl) (by kernel_rfl) (by kernel_rfl) (fun _ _ _ h => h) (Or.inl ⟨by rfl, ?_⟩) hHeld ?_
      rotate_left
      · intro wq hSw; (try dsimp only at hSw); go_simp; all_goals (with_reducible rfl)
      simp only [Act.put, List.setIfInBounds_toArray, List.set_cons_zero, List.set_cons_succ]
      refine takeU (i := 3) (d := 16) (v := ?_) rfl rfl (by kernel_rfl) (by kernel_rfl) (by kernel_rfl) (by kernel_rfl) (by kernel_rfl) (fun _ _ _ h => h) (Or.inl ⟨by rfl, ?_⟩) hHeld ?_
      rotate_left
      · intro wq hSw; (try dsimp only at hSw); go_simp; all_goals (with_reducible rfl)
      simp only [Act.put, List.setIfInBounds_toArray, List.set_cons_zero, List.set_cons_succ]
      refine takeU (i := 4) (d := 17) (v := ?_) rfl rfl (by kernel_rfl) (by kernel_rfl) (by kernel_rfl) (by kernel_rfl) (by kernel_rfl) (fun _ _ _ h => h) (Or.inl ⟨by rfl, ?_⟩) hHeld ?_
      rotate_left
      · intro wq hSw; (try dsimp only at hSw); go_simp; all_goals (with_reducible rfl)
      simp only [Act.put, List.setIfInBounds_toArray, List.set_cons_zero, List.set_cons_succ]
      refine takeU (i := 5) (d := 18) (v := ?_) rfl rfl (by kernel_rfl) (by kernel_rfl) (by kernel_rfl) (by kernel_rfl) (by kernel_rfl) (fun _ _ _ h => h) (Or.inl ⟨by rfl, ?_⟩) hHeld ?_
      rotate_left
      · intro wq hSw; (try dsimp only at hSw); go_simp; all_goals (with_reducible rfl)
      simp only [Act.put, List.setIfInBounds_toArray, List.set_cons_zero, List.set_cons_succ]
      refine wpAnyU_ready (rs := [6]) (by kernel_rfl) (by simp) ?_
      refine AllReadyU.cons rfl (fun K1 hK => ?_) AllReadyU.nil
      go_simp
      go_at_call 23
      refine (HLn.out _ ((Fr.refl _ _).drew)).mono ?_
      rintro e w9 ⟨rfl, rfl⟩
      go_simp
      refine hK.out _ _ (fun _ => hHeld) (fun _ => ?_)
      clear hK K1
      refine takeU (i := 7) (d := 20) (v := ?_) rfl rfl (by kernel_rfl) (by kernel_rfl) (by kernel_rfl) (by kernel_rfl) (by kernel_rfl) (fun _ _ _ h => h) (Or.inl ⟨by rfl, ?_⟩) hHeld ?_
      rotate_left
      · intro wq hSw; (try dsimp only at hSw); go_simp; all_goals (with_reducible rfl)
      simp only [Act.put, List.setIfInBounds_toArray, List.set_cons_zero, List.set_cons_succ]
      refine wpAnyU_ready (rs := [8]) (by kernel_rfl) (by simp) ?_
      refine AllReadyU.cons rfl (fun K1 hK => ?_) AllReadyU.nil
      go_simp
      refine hK.out _ _ (fun h => absurd rfl h) (fun _ => ?_)
      clear hK K1 hHeld
      refine wpAnyU_done (by kernel_rfl) ?_ _
      have HKI := hid e3.out.symm
      have hdr := hid (show ∀ wx, Fr [] (w.alloc (fwO 4 n t)) wx → _ from fun wx hF => st_ndrop (HH.out _ hF) 3 rfl (x.place n) (by have := HBL.out; rw [List.length_map]; omega))
      rw [HKI.out] at hdr
      go_wp2_with fail
      refine (hdr.out _ ((Fr.refl _ _).drew)).mono ?_
      rintro e w9 ⟨z, rfl, H9⟩
      have H9 := hid (am_drop H9)
      go_wp2_with fail
      go_end0
      exact ⟨rfl, H9.out⟩
set_option maxHeartbeats 6400000 in
set_option maxRecDepth 100000 in
theorem st_adoes5 {X S K N nn : Nat} {x : Am} {pv : Value} (H : St W w (amL X S K N x pv nn ++ T)) (hx : x.ok) (hbl : x.bag.length ≤ 536870912) (n : Int) (t : ByteArray) :
    Calls Tryz.prog 6 #[ptr X, .agg #[.int .i64 5, .int .i64 n, .string t]] w fun e w' => e = .returned (.tuple #[]) ∧ St W w' (amL X S K N (x.dup (x.place n)) pv nn ++ T) := by
  have hbX := H.blk 0 rfl
  have hpl := hid (fun m hm => place_of n m hm)
  have H2 := H.alloc (fwO 5 n t)
  have hpd : (amL X S K N x pv nn ++ T ++ [BlkT w.heap.size (fwO 5 n t)])[5 + T.length]? = some (BlkT w.heap.size (fwO 5 n t)) := get_end5 _ _ _ _ _ _ _
  have HLn := hid (show ∀ wx, Fr [] (w.alloc (fwO 5 n t)) wx → Calls Tryz.prog 23 #[ptr N] wx fun e w' => e = .returned (.int .i64 x.bag.length) ∧ wx = w' from fun wx hF => by
    have h := st_nlen (H2.same hF) 3 rfl
    rw [List.length_map] at h
    exact h)
  have HS := hid (show ∀ wx, Fr [] (w.alloc (fwO 5 n t)) wx → wx.cell? ⟨X, 3, none⟩ = some (ptr N) ∧ wx.cell? ⟨w.heap.size, 1, none⟩ = some (.int .i64 n) from fun wx hF => ⟨cell_blk (i := 3) ((H2.same hF).blk 0 rfl) rfl, cell_blk (i := 1) ((H2.same hF).blk _ hpd) rfl⟩)
  have HH := hid (show ∀ wx, Fr [] (w.alloc (fwO 5 n t)) wx → St W wx (amL X S K N x pv nn ++ T) from fun wx hF => (H2.same hF).drop)
  have HBL := hid hbl
  have HX := hid hx
  have x0 := cell_blk (i := 0) hbX rfl
  have x1 := cell_blk (i := 1) hbX rfl
  have x3 := cell_blk (i := 3) hbX rfl
  have hg := lt_of_block hbX
  clear H H2 hbX hx hbl hpd
  by_cases he : x.bag.length = 0
  · have hp0 : x.place n = 0 := by unfold Am.place; rw [if_pos he]
    have b0 : (x.bag.length : Int) = 0 := by omega
    rw [b0] at HLn
    have HP := hid hp0
    clear he hp0 b0
    go_enter Tryz.func6, Tryz.ntmps6
    go_wp2_with fail
    refine (HLn.out _ (Fr.refl _ _)).mono ?_
    rintro e w1 ⟨rfl, rfl⟩
    have HKI := hid (show ((x.place n : Nat) : Int) = 0 from by rw [HP.out]; rfl)
    rcases hb : x.bag[x.place n]? with _ | p
    · have hdr := hid (show ∀ wx, Fr [] (w.alloc (fwO 5 n t)) wx → _ from fun wx hF => st_ndup_no (HH.out _ hF) 3 rfl (x.place n) (by rw [List.length_map]; exact List.getElem?_eq_none_iff.1 hb))
      rw [HKI.out] at hdr
      have HE := hid (Am.dup_none hb)
      clear hb
      go_wp2_with fail
      refine (hdr.out _ ((Fr.refl _ _))).mono ?_
      rintro e w9 ⟨rfl, H9⟩
      have H9 := hid H9
      go_wp2_with fail
      go_end0
      rw [HE.out]
      exact ⟨rfl, H9.out⟩
    · have hdr := hid (show ∀ wx, Fr [] (w.alloc (fwO 5 n t)) wx → _ from fun wx hF => st_ndup (HH.out _ hF) 3 rfl (x.place n) (pkA p) (by rw [List.getElem?_map, hb]; rfl) (by have := HBL.out; rw [List.length_map]; omega))
      rw [HKI.out] at hdr
      have HE := hid (Am.dup_some hb)
      clear hb
      go_wp2_with fail
      refine (hdr.out _ ((Fr.refl _ _))).mono ?_
      rintro e w9 ⟨rfl, H9⟩
      have H9 := hid (am_send (p := p.2) (pkA_num p.1 _ p.2) H9)
      go_wp2_with fail
      go_end0
      rw [HE.out]
      exact ⟨rfl, H9.out⟩
  · have b0 : (0 : Int) < x.bag.length := by omega
    have hp0 : x.place n = (n % (x.bag.length : Int)).toNat := by unfold Am.place; rw [if_neg he]
    obtain ⟨m, hm⟩ : ∃ m : Int, (x.bag.length : Int) = m := ⟨_, rfl⟩
    rw [hm] at HLn b0 hp0
    have hnz : (m == 0) = false := by rw [beq_eq_false_iff_ne]; omega
    have hnz2 : ¬ m = 0 := by omega
    obtain ⟨q1, q2, q3, q4⟩ := hpl.out m (by omega)
    have hmm := hid (show m ≤ 1073741824 from by have := HBL.out; omega)
    rw [← hp0] at q3 q4
    clear hp0 he hm
    by_cases hs : n.tmod m < 0
    · have e4 := hid (q4 hs)
      have hw := hid (show wrap64 (n.tmod m + m) = ((x.place n : Nat) : Int) from by rw [IntWalk.wrap64_in _ (by have := hmm.out; omega)]; exact q4 hs)
      clear q1 q2 q3 q4
      go_enter Tryz.func6, Tryz.ntmps6
      go_wp2_with fail
      refine (HLn.out _ (Fr.refl _ _)).mono ?_
      rintro e w1 ⟨rfl, rfl⟩
      go_wp2_with fail
      refine wp_region_U (S := fun wx : World => wx.cell? ⟨X, 3, none⟩ = some (ptr N) ∧ wx.cell? ⟨w.heap.size, 1, none⟩ = some (.int .i64 n)) 8 (by kernel_rfl) (HS.out _ ((Fr.refl _ _).drew)) (fun hHeld => ?_)
      refine takeU (i := 0) (d := 13) (v := ?_) rfl rfl (by kernel_rfl) (by kernel_rfl) (by kernel_rfl) (by kernel_rfl) (by kernel_rfl) (fun _ _ _ h => h) (Or.inl ⟨by rfl, ?_⟩) hHeld ?_
      rotate_left
      · intro wq hSw; (try dsimp only at hSw); go_simp; all_goals (with_reducible rfl)
      simp only [Act.put, List.setIfInBounds_toArray, List.set_cons_zero, List.set_cons_succ]
      refine takeU (i := 1) (d := 14) (v := ?_) rfl rfl (by kernel_rfl) (by kernel_rfl) (by kernel_rfl) (by kernel_rfl) (by kernel_rfl) (fun _ _ _ h => h) (Or.inl ⟨by rfl, ?_⟩) hHeld ?_
      rotate_left
      · intro wq hSw; (try dsimp only at hSw); go_simp; all_goals (with_reducible rfl)
      simp only [Act.put, List.setIfInBounds_toArray, List.set_cons_zero, List.set_cons_succ]
      refine takeU (i := 2) (d := 15) (v := ?_) rfl rfl (by kernel_rfl) (by kernel_rfl) (by kernel_rfl) (by kernel_rfl) (by kernel_rfl) (fun _ _ _ h => h) (Or.inl ⟨by rfl, ?_⟩) hHeld ?_
      rotate_left
      · intro wq hSw; (try dsimp only at hSw); go_simp; all_goals (with_reducible rfl)
      simp only [Act.put, List.setIfInBounds_toArray, List.set_cons_zero, List.set_cons_succ]
      refine takeU (i := 3) (d := 16) (v := ?_) rfl rfl (by kernel_rfl) (by kernel_rfl) (by kernel_rfl) (by kernel_rfl) (by kernel_rfl) (fun _ _ _ h => h) (Or.inl ⟨by rfl, ?_⟩) hHeld ?_
      rotate_left
      · intro wq hSw; (try dsimp only at hSw); go_simp; all_goals (with_reducible rfl)
      simp only [Act.put, List.setIfInBounds_toArray, List.set_cons_zero, List.set_cons_succ]
      refine takeU (i := 4) (d := 17) (v := ?_) rfl rfl (by kernel_rfl) (by kernel_rfl) (by kernel_rfl) (by kernel_rfl) (by kernel_rfl) (fun _ _ _ h => h) (Or.inl ⟨by rfl, ?_⟩) hHeld ?_
      rotate_left
      · intro wq hSw; (try dsimp only at hSw); go_simp; all_goals (with_reducible rfl)
      simp only [Act.put, List.setIfInBounds_toArray, List.set_cons_zero, List.set_cons_succ]
      refine takeU (i := 5) (d := 18) (v := ?_) rfl rfl (by kernel_rfl) (by kernel_rfl) (by kernel_rfl) (by kernel_rfl) (by kernel_rfl) (fun _ _ _ h => h) (Or.inl ⟨by rfl, ?_⟩) hHeld ?_
      rotate_left
      · intro wq hSw; (try dsimp only at hSw); go_simp; all_goals (with_reducible rfl)
      simp only [Act.put, List.setIfInBounds_toArray, List.set_cons_zero, List.set_cons_succ]
      refine wpAnyU_ready (rs := [6]) (by kernel_rfl) (by simp) ?_
      refine AllReadyU.cons rfl (fun K1 hK => ?_) AllReadyU.nil
      go_simp
      go_at_call 23
      refine (HLn.out _ ((Fr.refl _ _).drew)).mono ?_
      rintro e w9 ⟨rfl, rfl⟩
      go_simp
      refine hK.out _ _ (fun _ => hHeld) (fun _ => ?_)
      clear hK K1
      refine takeU (i := 7) (d := 20) (v := ?_) rfl rfl (by kernel_rfl) (by kernel_rfl) (by kernel_rfl) (by kernel_rfl) (by kernel_rfl) (fun _ _ _ h => h) (Or.inl ⟨by rfl, ?_⟩) hHeld ?_
      rotate_left
      · intro wq hSw; (try dsimp only at hSw); go_simp; all_goals (with_reducible rfl)
      simp only [Act.put, List.setIfInBounds_toArray, List.set_cons_zero, List.set_cons_succ]
      refine wpAnyU_ready (rs := [8]) (by kernel_rfl) (by simp) ?_
      refine AllReadyU.cons rfl (fun K1 hK => ?_) AllReadyU.nil
      go_simp
      refine hK.out _ _ (fun h => absurd rfl h) (fun _ => ?_)
      clear hK K1 hHeld
      refine wpAnyU_done (by kernel_rfl) ?_ _
      go_wp2_with fail
      refine (HLn.out _ ((Fr.refl _ _).drew)).mono ?_
      rintro e w1 ⟨rfl, rfl⟩
      have HKI := hid hw.out.symm
      rcases hb : x.bag[x.place n]? with _ | p
      · have hdr := hid (show ∀ wx, Fr [] (w.alloc (fwO 5 n t)) wx → _ from fun wx hF => st_ndup_no (HH.out _ hF) 3 rfl (x.place n) (by rw [List.length_map]; exact List.getElem?_eq_none_iff.1 hb))
        rw [HKI.out] at hdr
        have HE := hid (Am.dup_none hb)
        clear hb
        go_wp2_with fail
        refine (hdr.out _ ((Fr.refl _ _).drew)).mono ?_
        rintro e w9 ⟨rfl, H9⟩
        have H9 := hid H9
        go_wp2_with fail
        go_end0
        rw [HE.out]
        exact ⟨rfl, H9.out⟩
      · have hdr := hid (show ∀ wx, Fr [] (w.alloc (fwO 5 n t)) wx → _ from fun wx hF => st_ndup (HH.out _ hF) 3 rfl (x.place n) (pkA p) (by rw [List.getElem?_map, hb]; rfl) (by have := HBL.out; rw [List.length_map]; omega))
        rw [HKI.out] at hdr
        have HE := hid (Am.dup_some hb)
        clear hb
        go_wp2_with fail
        refine (hdr.out _ ((Fr.refl _ _).drew)).mono ?_
        rintro e w9 ⟨rfl, H9⟩
        have H9 := hid (am_send (p := p.2) (pkA_num p.1 _ p.2) H9)
        go_wp2_with fail
        go_end0
        rw [HE.out]
        exact ⟨rfl, H9.out⟩
    · have e3 := hid (q3 (by omega))
      have hs2 : ¬ n.tmod m < 0 := hs
      clear q1 q2 q3 q4 hs
      go_enter Tryz.func6, Tryz.ntmps6
      go_wp2_with fail
      refine (HLn.out _ (Fr.refl _ _)).mono ?_
      rintro e w1 ⟨rfl, rfl⟩
      go_wp2_with fail
      refine wp_region_U (S := fun wx : World => wx.cell? ⟨X, 3, none⟩ = some (ptr N) ∧ wx.cell? ⟨w.heap.size, 1, none⟩ = some (.int .i64 n)) 8 (by kernel_rfl) (HS.out _ ((Fr.refl _ _).drew)) (fun hHeld => ?_)
      refine takeU (i := 0) (d := 13) (v := ?_) rfl rfl (by kernel_rfl) (by kernel_rfl) (by kernel_rfl) (by kernel_rfl) (by kernel_rfl) (fun _ _ _ h => h) (Or.inl ⟨by rfl, ?_⟩) hHeld ?_
      rotate_left
      · intro wq hSw; (try dsimp only at hSw); go_simp; all_goals (with_reducible rfl)
      simp only [Act.put, List.setIfInBounds_toArray, List.set_cons_zero, List.set_cons_succ]
      refine takeU (i := 1) (d := 14) (v := ?_) rfl rfl (by kernel_rfl) (by kernel_rfl) (by kernel_rfl) (by kernel_rfl) (by kernel_rfl) (fun _ _ _ h => h) (Or.inl ⟨by rfl, ?_⟩) hHeld ?_
      rotate_left
      · intro wq hSw; (try dsimp only at hSw); go_simp; all_goals (with_reducible rfl)
      simp only [Act.put, List.setIfInBounds_toArray, List.set_cons_zero, List.set_cons_succ]
      refine takeU (i := 2) (d := 15) (v := ?_) rfl rfl (by kernel_rfl) (by kernel_rfl) (by kernel_rfl) (by kernel_rfl) (by kernel_rfl) (fun _ _ _ h => h) (Or.inl ⟨by rfl, ?_⟩) hHeld ?_
      rotate_left
      · intro wq hSw; (try dsimp only at hSw); go_simp; all_goals (with_reducible rfl)
      simp only [Act.put, List.setIfInBounds_toArray, List.set_cons_zero, List.set_cons_succ]
      refine takeU (i := 3) (d := 16) (v := ?_) rfl rfl (by kernel_rfl) (by kernel_rfl) (by kernel_rfl) (by kernel_rfl) (by kernel_rfl) (fun _ _ _ h => h) (Or.inl ⟨by rfl, ?_⟩) hHeld ?_
      rotate_left
      · intro wq hSw; (try dsimp only at hSw); go_simp; all_goals (with_reducible rfl)
      simp only [Act.put, List.setIfInBounds_toArray, List.set_cons_zero, List.set_cons_succ]
      refine takeU (i := 4) (d := 17) (v := ?_) rfl rfl (by kernel_rfl) (by kernel_rfl) (by kernel_rfl) (by kernel_rfl) (by kernel_rfl) (fun _ _ _ h => h) (Or.inl ⟨by rfl, ?_⟩) hHeld ?_
      rotate_left
      · intro wq hSw; (try dsimp only at hSw); go_simp; all_goals (with_reducible rfl)
      simp only [Act.put, List.setIfInBounds_toArray, List.set_cons_zero, List.set_cons_succ]
      refine takeU (i := 5) (d := 18) (v := ?_) rfl rfl (by kernel_rfl) (by kernel_rfl) (by kernel_rfl) (by kernel_rfl) (by kernel_rfl) (fun _ _ _ h => h) (Or.inl ⟨by rfl, ?_⟩) hHeld ?_
      rotate_left
      · intro wq hSw; (try dsimp only at hSw); go_simp; all_goals (with_reducible rfl)
      simp only [Act.put, List.setIfInBounds_toArray, List.set_cons_zero, List.set_cons_succ]
      refine wpAnyU_ready (rs := [6]) (by kernel_rfl) (by simp) ?_
      refine AllReadyU.cons rfl (fun K1 hK => ?_) AllReadyU.nil
      go_simp
      go_at_call 23
      refine (HLn.out _ ((Fr.refl _ _).drew)).mono ?_
      rintro e w9 ⟨rfl, rfl⟩
      go_simp
      refine hK.out _ _ (fun _ => hHeld) (fun _ => ?_)
      clear hK K1
      refine takeU (i := 7) (d := 20) (v := ?_) rfl rfl (by kernel_rfl) (by kernel_rfl) (by kernel_rfl) (by kernel_rfl) (by kernel_rfl) (fun _ _ _ h => h) (Or.inl ⟨by rfl, ?_⟩) hHeld ?_
      rotate_left
      · intro wq hSw; (try dsimp only at hSw); go_simp; all_goals (with_reducible rfl)
      simp only [Act.put, List.setIfInBounds_toArray, List.set_cons_zero, List.set_cons_succ]
      refine wpAnyU_ready (rs := [8]) (by kernel_rfl) (by simp) ?_
      refine AllReadyU.cons rfl (fun K1 hK => ?_) AllReadyU.nil
      go_simp
      refine hK.out _ _ (fun h => absurd rfl h) (fun _ => ?_)
      clear hK K1 hHeld
      refine wpAnyU_done (by kernel_rfl) ?_ _
      have HKI := hid e3.out.symm
      rcases hb : x.bag[x.place n]? with _ | p
      · have hdr := hid (show ∀ wx, Fr [] (w.alloc (fwO 5 n t)) wx → _ from fun wx hF => st_ndup_no (HH.out _ hF) 3 rfl (x.place n) (by rw [List.length_map]; exact List.getElem?_eq_none_iff.1 hb))
        rw [HKI.out] at hdr
        have HE := hid (Am.dup_none hb)
        clear hb
        go_wp2_with fail
        refine (hdr.out _ ((Fr.refl _ _).drew)).mono ?_
        rintro e w9 ⟨rfl, H9⟩
        have H9 := hid H9
        go_wp2_with fail
        go_end0
        rw [HE.out]
        exact ⟨rfl, H9.out⟩
      · have hdr := hid (show ∀ wx, Fr [] (w.alloc (fwO 5 n t)) wx → _ from fun wx hF => st_ndup (HH.out _ hF) 3 rfl (x.place n) (pkA p) (by rw [List.getElem?_map, hb]; rfl) (by have := HBL.out; rw [List.length_map]; omega))
        rw [HKI.out] at hdr
        have HE := hid (Am.dup_some hb)
        clear hb
        go_wp2_with fail
        refine (hdr.out _ ((Fr.refl _ _).drew)).mono ?_
        rintro e w9 ⟨rfl, H9⟩
        have H9 := hid (am_send (p := p.2) (pkA_num p.1 _ p.2) H9)
        go_wp2_with fail
        go_end0
        rw [HE.out]
        exact ⟨rfl, H9.out⟩
set_option maxHeartbeats 6400000 in
set_option maxRecDepth 100000 in
theorem st_adoes3 {X S K N nn : Nat} {x : Am} {pv : Value} (H : St W w (amL X S K N x pv nn ++ T)) (hx : x.ok) (hbd : x.badge ≤ 16777216) (hph : nn ≤ x.k.phi) (hbl : x.bag.length ≤ 536870912) (n : Int) (t : ByteArray) :
    Calls Tryz.prog 6 #[ptr X, .agg #[.int .i64 3, .int .i64 n, .string t]] w fun e w' => ∃ nn', Hid (nn' ≤ (x.dlv (x.place n)).k.phi) ∧ e = .returned (.tuple #[]) ∧ St W w' (amL X S K N (x.dlv (x.place n)) pv nn' ++ T) := by
  have HBd := hid hbd
  have HPh := hid hph
  clear hbd hph
  have hbX := H.blk 0 rfl
  have hpl := hid (fun m hm => place_of n m hm)
  have H2 := H.alloc (fwO 3 n t)
  have hpd : (amL X S K N x pv nn ++ T ++ [BlkT w.heap.size (fwO 3 n t)])[5 + T.length]? = some (BlkT w.heap.size (fwO 3 n t)) := get_end5 _ _ _ _ _ _ _
  have HLn := hid (show ∀ wx, Fr [] (w.alloc (fwO 3 n t)) wx → Calls Tryz.prog 23 #[ptr N] wx fun e w' => e = .returned (.int .i64 x.bag.length) ∧ wx = w' from fun wx hF => by
    have h := st_nlen (H2.same hF) 3 rfl
    rw [List.length_map] at h
    exact h)
  have HS := hid (show ∀ wx, Fr [] (w.alloc (fwO 3 n t)) wx → wx.cell? ⟨X, 3, none⟩ = some (ptr N) ∧ wx.cell? ⟨w.heap.size, 1, none⟩ = some (.int .i64 n) from fun wx hF => ⟨cell_blk (i := 3) ((H2.same hF).blk 0 rfl) rfl, cell_blk (i := 1) ((H2.same hF).blk _ hpd) rfl⟩)
  have HH := hid (show ∀ wx, Fr [] (w.alloc (fwO 3 n t)) wx → St W wx (amL X S K N x pv nn ++ T) from fun wx hF => (H2.same hF).drop)
  have HBL := hid hbl
  have HX := hid hx
  have x0 := cell_blk (i := 0) hbX rfl
  have x1 := cell_blk (i := 1) hbX rfl
  have x3 := cell_blk (i := 3) hbX rfl
  have hg := lt_of_block hbX
  clear H H2 hbX hx hbl hpd
  by_cases he : x.bag.length = 0
  · have hp0 : x.place n = 0 := by unfold Am.place; rw [if_pos he]
    have b0 : (x.bag.length : Int) = 0 := by omega
    rw [b0] at HLn
    have HP := hid hp0
    clear he hp0 b0
    go_enter Tryz.func6, Tryz.ntmps6
    go_wp2_with fail
    refine (HLn.out _ (Fr.refl _ _)).mono ?_
    rintro e w1 ⟨rfl, rfl⟩
    have HKI := hid (show ((x.place n : Nat) : Int) = 0 from by rw [HP.out]; rfl)
    rcases hb : x.bag[x.place n]? with _ | p
    · have hdr := hid (show ∀ wx, Fr [] (w.alloc (fwO 3 n t)) wx → _ from fun wx hF => st_ntake_no (HH.out _ hF) 3 rfl (x.place n) (by rw [List.length_map]; exact List.getElem?_eq_none_iff.1 hb))
      rw [HKI.out] at hdr
      have HE := hid (Am.dlv_none hb)
      clear hb
      go_wp2_with fail
      refine (hdr.out _ ((Fr.refl _ _))).mono ?_
      rintro e w9 ⟨rfl, H9⟩
      have H9 := hid (H9.alloc_ (dgO dg0))
      go_wp2_with fail
      go_end0
      rw [HE.out]
      exact ⟨nn, HPh, rfl, H9.out⟩
    · have hdr := hid (show ∀ wx, Fr [] (w.alloc (fwO 3 n t)) wx → _ from fun wx hF => st_ntake (HH.out _ hF) 3 rfl (x.place n) (pkA p) (by rw [List.getElem?_map, hb]; rfl) (by have := HBL.out; rw [List.length_map]; omega))
      rw [HKI.out] at hdr
      have hok := hid (HX.out.drop (x.place n))
      have hpk := hid (HX.out.bg p (List.mem_of_getElem? hb))
      have HE := hid (Am.dlv_some hb)
      clear hb
      go_wp2_with fail
      refine (hdr.out _ ((Fr.refl _ _))).mono ?_
      rintro e w9 ⟨rfl, H9⟩
      have H9 := hid ((am_drop H9).alloc_ (dgO (pkA p)))
      go_wp2_with fail
      refine (st_acomes H9.out hok.out HBd.out (by have := HBL.out; have h := List.length_eraseIdx_le x.bag (x.place n); show (x.bag.eraseIdx _).length ≤ _; omega) HPh.out p hpk.out).mono ?_
      rintro e w10 ⟨nn9, hph9, rfl, H10⟩
      have H10 := hid H10
      go_wp2_with fail
      go_end0
      rw [HE.out]
      exact ⟨_, hph9, rfl, H10.out⟩
  · have b0 : (0 : Int) < x.bag.length := by omega
    have hp0 : x.place n = (n % (x.bag.length : Int)).toNat := by unfold Am.place; rw [if_neg he]
    obtain ⟨m, hm⟩ : ∃ m : Int, (x.bag.length : Int) = m := ⟨_, rfl⟩
    rw [hm] at HLn b0 hp0
    have hnz : (m == 0) = false := by rw [beq_eq_false_iff_ne]; omega
    have hnz2 : ¬ m = 0 := by omega
    obtain ⟨q1, q2, q3, q4⟩ := hpl.out m (by omega)
    have hmm := hid (show m ≤ 1073741824 from by have := HBL.out; omega)
    rw [← hp0] at q3 q4
    clear hp0 he hm
    by_cases hs : n.tmod m < 0
    · have e4 := hid (q4 hs)
      have hw := hid (show wrap64 (n.tmod m + m) = ((x.place n : Nat) : Int) from by rw [IntWalk.wrap64_in _ (by have := hmm.out; omega)]; exact q4 hs)
      clear q1 q2 q3 q4
      go_enter Tryz.func6, Tryz.ntmps6
      go_wp2_with fail
      refine (HLn.out _ (Fr.refl _ _)).mono ?_
      rintro e w1 ⟨rfl, rfl⟩
      go_wp2_with fail
      refine wp_region_U (S := fun wx : World => wx.cell? ⟨X, 3, none⟩ = some (ptr N) ∧ wx.cell? ⟨w.heap.size, 1, none⟩ = some (.int .i64 n)) 8 (by kernel_rfl) (HS.out _ ((Fr.refl _ _).drew)) (fun hHeld => ?_)
      refine takeU (i := 0) (d := 13) (v := ?_) rfl rfl (by kernel_rfl) (by kernel_rfl) (by kernel_rfl) (by kernel_rfl) (by kernel_rfl) (fun _ _ _ h => h) (Or.inl ⟨by rfl, ?_⟩) hHeld ?_
      rotate_left
      · intro wq hSw; (try dsimp only at hSw); go_simp; all_goals (with_reducible rfl)
      simp only [Act.put, List.setIfInBounds_toArray, List.set_cons_zero, List.set_cons_succ]
      refine takeU (i := 1) (d := 14) (v := ?_) rfl rfl (by kernel_rfl) (by kernel_rfl) (by kernel_rfl) (by kernel_rfl) (by kernel_rfl) (fun _ _ _ h => h) (Or.inl ⟨by rfl, ?_⟩) hHeld ?_
      rotate_left
      · intro wq hSw; (try dsimp only at hSw); go_simp; all_goals (with_reducible rfl)
      simp only [Act.put, List.setIfInBounds_toArray, List.set_cons_zero, List.set_cons_succ]
      refine takeU (i := 2) (d := 15) (v := ?_) rfl rfl (by kernel_rfl) (by kernel_rfl) (by kernel_rfl) (by kernel_rfl) (by kernel_rfl) (fun _ _ _ h => h) (Or.inl ⟨by rfl, ?_⟩) hHeld ?_
      rotate_left
      · intro wq hSw; (try dsimp only at hSw); go_simp; all_goals (with_reducible rfl)
      simp only [Act.put, List.setIfInBounds_toArray, List.set_cons_zero, List.set_cons_succ]
      refine takeU (i := 3) (d := 16) (v := ?_) rfl rfl (by kernel_rfl) (by kernel_rfl) (by kernel_rfl) (by kernel_rfl) (by kernel_rfl) (fun _ _ _ h => h) (Or.inl ⟨by rfl, ?_⟩) hHeld ?_
      rotate_left
      · intro wq hSw; (try dsimp only at hSw); go_simp; all_goals (with_reducible rfl)
      simp only [Act.put, List.setIfInBounds_toArray, List.set_cons_zero, List.set_cons_succ]
      refine takeU (i := 4) (d := 17) (v := ?_) rfl rfl (by kernel_rfl) (by kernel_rfl) (by kernel_rfl) (by kernel_rfl) (by kernel_rfl) (fun _ _ _ h => h) (Or.inl ⟨by rfl, ?_⟩) hHeld ?_
      rotate_left
      · intro wq hSw; (try dsimp only at hSw); go_simp; all_goals (with_reducible rfl)
      simp only [Act.put, List.setIfInBounds_toArray, List.set_cons_zero, List.set_cons_succ]
      refine takeU (i := 5) (d := 18) (v := ?_) rfl rfl (by kernel_rfl) (by kernel_rfl) (by kernel_rfl) (by kernel_rfl) (by kernel_rfl) (fun _ _ _ h => h) (Or.inl ⟨by rfl, ?_⟩) hHeld ?_
      rotate_left
      · intro wq hSw; (try dsimp only at hSw); go_simp; all_goals (with_reducible rfl)
      simp only [Act.put, List.setIfInBounds_toArray, List.set_cons_zero, List.set_cons_succ]
      refine wpAnyU_ready (rs := [6]) (by kernel_rfl) (by simp) ?_
      refine AllReadyU.cons rfl (fun K1 hK => ?_) AllReadyU.nil
      go_simp
      go_at_call 23
      refine (HLn.out _ ((Fr.refl _ _).drew)).mono ?_
      rintro e w9 ⟨rfl, rfl⟩
      go_simp
      refine hK.out _ _ (fun _ => hHeld) (fun _ => ?_)
      clear hK K1
      refine takeU (i := 7) (d := 20) (v := ?_) rfl rfl (by kernel_rfl) (by kernel_rfl) (by kernel_rfl) (by kernel_rfl) (by kernel_rfl) (fun _ _ _ h => h) (Or.inl ⟨by rfl, ?_⟩) hHeld ?_
      rotate_left
      · intro wq hSw; (try dsimp only at hSw); go_simp; all_goals (with_reducible rfl)
      simp only [Act.put, List.setIfInBounds_toArray, List.set_cons_zero, List.set_cons_succ]
      refine wpAnyU_ready (rs := [8]) (by kernel_rfl) (by simp) ?_
      refine AllReadyU.cons rfl (fun K1 hK => ?_) AllReadyU.nil
      go_simp
      refine hK.out _ _ (fun h => absurd rfl h) (fun _ => ?_)
      clear hK K1 hHeld
      refine wpAnyU_done (by kernel_rfl) ?_ _
      go_wp2_with fail
      refine (HLn.out _ ((Fr.refl _ _).drew)).mono ?_
      rintro e w1 ⟨rfl, rfl⟩
      have HKI := hid hw.out.symm
      rcases hb : x.bag[x.place n]? with _ | p
      · have hdr := hid (show ∀ wx, Fr [] (w.alloc (fwO 3 n t)) wx → _ from fun wx hF => st_ntake_no (HH.out _ hF) 3 rfl (x.place n) (by rw [List.length_map]; exact List.getElem?_eq_none_iff.1 hb))
        rw [HKI.out] at hdr
        have HE := hid (Am.dlv_none hb)
        clear hb
        go_wp2_with fail
        refine (hdr.out _ ((Fr.refl _ _).drew)).mono ?_
        rintro e w9 ⟨rfl, H9⟩
        have H9 := hid (H9.alloc_ (dgO dg0))
        go_wp2_with fail
        go_end0
        rw [HE.out]
        exact ⟨nn, HPh, rfl, H9.out⟩
      · have hdr := hid (show ∀ wx, Fr [] (w.alloc (fwO 3 n t)) wx → _ from fun wx hF => st_ntake (HH.out _ hF) 3 rfl (x.place n) (pkA p) (by rw [List.getElem?_map, hb]; rfl) (by have := HBL.out; rw [List.length_map]; omega))
        rw [HKI.out] at hdr
        have hok := hid (HX.out.drop (x.place n))
        have hpk := hid (HX.out.bg p (List.mem_of_getElem? hb))
        have HE := hid (Am.dlv_some hb)
        clear hb
        go_wp2_with fail
        refine (hdr.out _ ((Fr.refl _ _).drew)).mono ?_
        rintro e w9 ⟨rfl, H9⟩
        have H9 := hid ((am_drop H9).alloc_ (dgO (pkA p)))
        go_wp2_with fail
        refine (st_acomes H9.out hok.out HBd.out (by have := HBL.out; have h := List.length_eraseIdx_le x.bag (x.place n); show (x.bag.eraseIdx _).length ≤ _; omega) HPh.out p hpk.out).mono ?_
        rintro e w10 ⟨nn9, hph9, rfl, H10⟩
        have H10 := hid H10
        go_wp2_with fail
        go_end0
        rw [HE.out]
        exact ⟨_, hph9, rfl, H10.out⟩
    · have e3 := hid (q3 (by omega))
      have hs2 : ¬ n.tmod m < 0 := hs
      clear q1 q2 q3 q4 hs
      go_enter Tryz.func6, Tryz.ntmps6
      go_wp2_with fail
      refine (HLn.out _ (Fr.refl _ _)).mono ?_
      rintro e w1 ⟨rfl, rfl⟩
      go_wp2_with fail
      refine wp_region_U (S := fun wx : World => wx.cell? ⟨X, 3, none⟩ = some (ptr N) ∧ wx.cell? ⟨w.heap.size, 1, none⟩ = some (.int .i64 n)) 8 (by kernel_rfl) (HS.out _ ((Fr.refl _ _).drew)) (fun hHeld => ?_)
      refine takeU (i := 0) (d := 13) (v := ?_) rfl rfl (by kernel_rfl) (by kernel_rfl) (by kernel_rfl) (by kernel_rfl) (by kernel_rfl) (fun _ _ _ h => h) (Or.inl ⟨by rfl, ?_⟩) hHeld ?_
      rotate_left
      · intro wq hSw; (try dsimp only at hSw); go_simp; all_goals (with_reducible rfl)
      simp only [Act.put, List.setIfInBounds_toArray, List.set_cons_zero, List.set_cons_succ]
      refine takeU (i := 1) (d := 14) (v := ?_) rfl rfl (by kernel_rfl) (by kernel_rfl) (by kernel_rfl) (by kernel_rfl) (by kernel_rfl) (fun _ _ _ h => h) (Or.inl ⟨by rfl, ?_⟩) hHeld ?_
      rotate_left
      · intro wq hSw; (try dsimp only at hSw); go_simp; all_goals (with_reducible rfl)
      simp only [Act.put, List.setIfInBounds_toArray, List.set_cons_zero, List.set_cons_succ]
      refine takeU (i := 2) (d := 15) (v := ?_) rfl rfl (by kernel_rfl) (by kernel_rfl) (by kernel_rfl) (by kernel_rfl) (by kernel_rfl) (fun _ _ _ h => h) (Or.inl ⟨by rfl, ?_⟩) hHeld ?_
      rotate_left
      · intro wq hSw; (try dsimp only at hSw); go_simp; all_goals (with_reducible rfl)
      simp only [Act.put, List.setIfInBounds_toArray, List.set_cons_zero, List.set_cons_succ]
      refine takeU (i := 3) (d := 16) (v := ?_) rfl rfl (by kernel_rfl) (by kernel_rfl) (by kernel_rfl) (by kernel_rfl) (by kernel_rfl) (fun _ _ _ h => h) (Or.inl ⟨by rfl, ?_⟩) hHeld ?_
      rotate_left
      · intro wq hSw; (try dsimp only at hSw); go_simp; all_goals (with_reducible rfl)
      simp only [Act.put, List.setIfInBounds_toArray, List.set_cons_zero, List.set_cons_succ]
      refine takeU (i := 4) (d := 17) (v := ?_) rfl rfl (by kernel_rfl) (by kernel_rfl) (by kernel_rfl) (by kernel_rfl) (by kernel_rfl) (fun _ _ _ h => h) (Or.inl ⟨by rfl, ?_⟩) hHeld ?_
      rotate_left
      · intro wq hSw; (try dsimp only at hSw); go_simp; all_goals (with_reducible rfl)
      simp only [Act.put, List.setIfInBounds_toArray, List.set_cons_zero, List.set_cons_succ]
      refine takeU (i := 5) (d := 18) (v := ?_) rfl rfl (by kernel_rfl) (by kernel_rfl) (by kernel_rfl) (by kernel_rfl) (by kernel_rfl) (fun _ _ _ h => h) (Or.inl ⟨by rfl, ?_⟩) hHeld ?_
      rotate_left
      · intro wq hSw; (try dsimp only at hSw); go_simp; all_goals (with_reducible rfl)
      simp only [Act.put, List.setIfInBounds_toArray, List.set_cons_zero, List.set_cons_succ]
      refine wpAnyU_ready (rs := [6]) (by kernel_rfl) (by simp) ?_
      refine AllReadyU.cons rfl (fun K1 hK => ?_) AllReadyU.nil
      go_simp
      go_at_call 23
      refine (HLn.out _ ((Fr.refl _ _).drew)).mono ?_
      rintro e w9 ⟨rfl, rfl⟩
      go_simp
      refine hK.out _ _ (fun _ => hHeld) (fun _ => ?_)
      clear hK K1
      refine takeU (i := 7) (d := 20) (v := ?_) rfl rfl (by kernel_rfl) (by kernel_rfl) (by kernel_rfl) (by kernel_rfl) (by kernel_rfl) (fun _ _ _ h => h) (Or.inl ⟨by rfl, ?_⟩) hHeld ?_
      rotate_left
      · intro wq hSw; (try dsimp only at hSw); go_simp; all_goals (with_reducible rfl)
      simp only [Act.put, List.setIfInBounds_toArray, List.set_cons_zero, List.set_cons_succ]
      refine wpAnyU_ready (rs := [8]) (by kernel_rfl) (by simp) ?_
      refine AllReadyU.cons rfl (fun K1 hK => ?_) AllReadyU.nil
      go_simp
      refine hK.out _ _ (fun h => absurd rfl h) (fun _ => ?_)
      clear hK K1 hHeld
      refine wpAnyU_done (by kernel_rfl) ?_ _
      have HKI := hid e3.out.symm
      rcases hb : x.bag[x.place n]? with _ | p
      · have hdr := hid (show ∀ wx, Fr [] (w.alloc (fwO 3 n t)) wx → _ from fun wx hF => st_ntake_no (HH.out _ hF) 3 rfl (x.place n) (by rw [List.length_map]; exact List.getElem?_eq_none_iff.1 hb))
        rw [HKI.out] at hdr
        have HE := hid (Am.dlv_none hb)
        clear hb
        go_wp2_with fail
        refine (hdr.out _ ((Fr.refl _ _).drew)).mono ?_
        rintro e w9 ⟨rfl, H9⟩
        have H9 := hid (H9.alloc_ (dgO dg0))
        go_wp2_with fail
        go_end0
        rw [HE.out]
        exact ⟨nn, HPh, rfl, H9.out⟩
      · have hdr := hid (show ∀ wx, Fr [] (w.alloc (fwO 3 n t)) wx → _ from fun wx hF => st_ntake (HH.out _ hF) 3 rfl (x.place n) (pkA p) (by rw [List.getElem?_map, hb]; rfl) (by have := HBL.out; rw [List.length_map]; omega))
        rw [HKI.out] at hdr
        have hok := hid (HX.out.drop (x.place n))
        have hpk := hid (HX.out.bg p (List.mem_of_getElem? hb))
        have HE := hid (Am.dlv_some hb)
        clear hb
        go_wp2_with fail
        refine (hdr.out _ ((Fr.refl _ _).drew)).mono ?_
        rintro e w9 ⟨rfl, H9⟩
        have H9 := hid ((am_drop H9).alloc_ (dgO (pkA p)))
        go_wp2_with fail
        refine (st_acomes H9.out hok.out HBd.out (by have := HBL.out; have h := List.length_eraseIdx_le x.bag (x.place n); show (x.bag.eraseIdx _).length ≤ _; omega) HPh.out p hpk.out).mono ?_
        rintro e w10 ⟨nn9, hph9, rfl, H10⟩
        have H10 := hid H10
        go_wp2_with fail
        go_end0
        rw [HE.out]
        exact ⟨_, hph9, rfl, H10.out⟩
set_option maxHeartbeats 6400000 in
set_option maxRecDepth 100000 in
theorem st_adoes6 {X S K N nn : Nat} {x : Am} {pv : Value} (H : St W w (amL X S K N x pv nn ++ T)) (hx : x.ok) (hbd : x.badge ≤ 16777216) (hbl : x.bag.length ≤ 536870912) (n : Int) (t : ByteArray) :
    Calls Tryz.prog 6 #[ptr X, .agg #[.int .i64 6, .int .i64 n, .string t]] w fun e w' => ∃ S' pv', e = .returned (.tuple #[]) ∧ St W w' (amL X S' K N x.begins pv' nn ++ (T ++ [RowT 9 1 pv x.s.texts.length (txC x.s.texts)])) := by
  have HBd := hid hbd
  clear hbd
  have hbX := H.blk 0 rfl
  have hpl := hid (fun m hm => place_of n m hm)
  have H2 := H.alloc (fwO 6 n t)
  have hpd : (amL X S K N x pv nn ++ T ++ [BlkT w.heap.size (fwO 6 n t)])[5 + T.length]? = some (BlkT w.heap.size (fwO 6 n t)) := get_end5 _ _ _ _ _ _ _
  have HLn := hid (show ∀ wx, Fr [] (w.alloc (fwO 6 n t)) wx → Calls Tryz.prog 23 #[ptr N] wx fun e w' => e = .returned (.int .i64 x.bag.length) ∧ wx = w' from fun wx hF => by
    have h := st_nlen (H2.same hF) 3 rfl
    rw [List.length_map] at h
    exact h)
  have HS := hid (show ∀ wx, Fr [] (w.alloc (fwO 6 n t)) wx → wx.cell? ⟨X, 3, none⟩ = some (ptr N) ∧ wx.cell? ⟨w.heap.size, 1, none⟩ = some (.int .i64 n) from fun wx hF => ⟨cell_blk (i := 3) ((H2.same hF).blk 0 rfl) rfl, cell_blk (i := 1) ((H2.same hF).blk _ hpd) rfl⟩)
  have HH := hid (show ∀ wx, Fr [] (w.alloc (fwO 6 n t)) wx → St W wx (amL X S K N x pv nn ++ T) from fun wx hF => (H2.same hF).drop)
  have HBL := hid hbl
  have HX := hid hx
  have x0 := cell_blk (i := 0) hbX rfl
  have x1 := cell_blk (i := 1) hbX rfl
  have x3 := cell_blk (i := 3) hbX rfl
  have hg := lt_of_block hbX
  clear H H2 hbX hx hbl hpd
  by_cases he : x.bag.length = 0
  · have hp0 : x.place n = 0 := by unfold Am.place; rw [if_pos he]
    have b0 : (x.bag.length : Int) = 0 := by omega
    rw [b0] at HLn
    have HP := hid hp0
    clear he hp0 b0
    go_enter Tryz.func6, Tryz.ntmps6
    go_wp2_with fail
    refine (HLn.out _ (Fr.refl _ _)).mono ?_
    rintro e w1 ⟨rfl, rfl⟩
    have HKI := hid (show ((x.place n : Nat) : Int) = 0 from by rw [HP.out]; rfl)
    have HA := hid (show ∀ wx, Fr [] (w.alloc (fwO 6 n t)) wx → St W wx (abL X K N { x with s := .new x.s.win x.s.res, olds := x.olds ++ [x.nt], nt := [] } (ptr S) ((x.badge : Nat) : Int) pv nn ++ (T ++ [RowT 9 1 pv x.s.texts.length (txC x.s.texts)])) from fun wx hF => by
      have h := HH.out _ hF
      have h2 : St W wx ([BlkT X (amO S K N x pv), KnT K x.k nn, NtT N (x.bag.map pkA) x.sent] ++ (T ++ [RowT 9 1 pv x.s.texts.length (txC x.s.texts)]) ++ [SnT S x.s]) := h.perm (by
        refine List.Perm.cons _ ?_
        show (SnT S x.s :: ([KnT K x.k nn, NtT N (x.bag.map pkA) x.sent] ++ (RowT 9 1 pv x.s.texts.length (txC x.s.texts) :: T))).Perm ([KnT K x.k nn, NtT N (x.bag.map pkA) x.sent] ++ (T ++ [RowT 9 1 pv x.s.texts.length (txC x.s.texts)]) ++ [SnT S x.s])
        refine (List.Perm.cons _ (List.Perm.append_left _ ?_)).trans (List.perm_append_singleton _ _).symm
        exact (List.perm_append_singleton _ _).symm)
      exact h2.drop)
    go_wp2_with fail
    refine (st_abegins (HA.out _ ((Fr.refl _ _))) rfl ⟨HX.out.w1, HX.out.w8⟩ ⟨HX.out.r1, HX.out.r16⟩ (by unfold Am.badge; simp) (Nat.le_trans HBd.out (by decide))).mono ?_
    rintro e w9 ⟨S', pv', rfl, H9⟩
    have H9 := hid H9
    go_wp2_with fail
    go_end0
    exact ⟨_, _, rfl, H9.out⟩
  · have b0 : (0 : Int) < x.bag.length := by omega
    have hp0 : x.place n = (n % (x.bag.length : Int)).toNat := by unfold Am.place; rw [if_neg he]
    obtain ⟨m, hm⟩ : ∃ m : Int, (x.bag.length : Int) = m := ⟨_, rfl⟩
    rw [hm] at HLn b0 hp0
    have hnz : (m == 0) = false := by rw [beq_eq_false_iff_ne]; omega
    have hnz2 : ¬ m = 0 := by omega
    obtain ⟨q1, q2, q3, q4⟩ := hpl.out m (by omega)
    have hmm := hid (show m ≤ 1073741824 from by have := HBL.out; omega)
    rw [← hp0] at q3 q4
    clear hp0 he hm
    by_cases hs : n.tmod m < 0
    · have e4 := hid (q4 hs)
      have hw := hid (show wrap64 (n.tmod m + m) = ((x.place n : Nat) : Int) from by rw [IntWalk.wrap64_in _ (by have := hmm.out; omega)]; exact q4 hs)
      clear q1 q2 q3 q4
      go_enter Tryz.func6, Tryz.ntmps6
      go_wp2_with fail
      refine (HLn.out _ (Fr.refl _ _)).mono ?_
      rintro e w1 ⟨rfl, rfl⟩
      go_wp2_with fail
      refine wp_region_U (S := fun wx : World => wx.cell? ⟨X, 3, none⟩ = some (ptr N) ∧ wx.cell? ⟨w.heap.size, 1, none⟩ = some (.int .i64 n)) 8 (by kernel_rfl) (HS.out _ ((Fr.refl _ _).drew)) (fun hHeld => ?_)
      refine takeU (i := 0) (d := 13) (v := ?_) rfl rfl (by kernel_rfl) (by kernel_rfl) (by kernel_rfl) (by kernel_rfl) (by kernel_rfl) (fun _ _ _ h => h) (Or.inl ⟨by rfl, ?_⟩) hHeld ?_
      rotate_left
      · intro wq hSw; (try dsimp only at hSw); go_simp; all_goals (with_reducible rfl)
      simp only [Act.put, List.setIfInBounds_toArray, List.set_cons_zero, List.set_cons_succ]
      refine takeU (i := 1) (d := 14) (v := ?_) rfl rfl (by kernel_rfl) (by kernel_rfl) (by kernel_rfl) (by kernel_rfl) (by kernel_rfl) (fun _ _ _ h => h) (Or.inl ⟨by rfl, ?_⟩) hHeld ?_
      rotate_left
      · intro wq hSw; (try dsimp only at hSw); go_simp; all_goals (with_reducible rfl)
      simp only [Act.put, List.setIfInBounds_toArray, List.set_cons_zero, List.set_cons_succ]
      refine takeU (i := 2) (d := 15) (v := ?_) rfl rfl (by kernel_rfl) (by kernel_rfl) (by kernel_rfl) (by kernel_rfl) (by kernel_rfl) (fun _ _ _ h => h) (Or.inl ⟨by rfl, ?_⟩) hHeld ?_
      rotate_left
      · intro wq hSw; (try dsimp only at hSw); go_simp; all_goals (with_reducible rfl)
      simp only [Act.put, List.setIfInBounds_toArray, List.set_cons_zero, List.set_cons_succ]
      refine takeU (i := 3) (d := 16) (v := ?_) rfl rfl (by kernel_rfl) (by kernel_rfl) (by kernel_rfl) (by kernel_rfl) (by kernel_rfl) (fun _ _ _ h => h) (Or.inl ⟨by rfl, ?_⟩) hHeld ?_
      rotate_left
      · intro wq hSw; (try dsimp only at hSw); go_simp; all_goals (with_reducible rfl)
      simp only [Act.put, List.setIfInBounds_toArray, List.set_cons_zero, List.set_cons_succ]
      refine takeU (i := 4) (d := 17) (v := ?_) rfl rfl (by kernel_rfl) (by kernel_rfl) (by kernel_rfl) (by kernel_rfl) (by kernel_rfl) (fun _ _ _ h => h) (Or.inl ⟨by rfl, ?_⟩) hHeld ?_
      rotate_left
      · intro wq hSw; (try dsimp only at hSw); go_simp; all_goals (with_reducible rfl)
      simp only [Act.put, List.setIfInBounds_toArray, List.set_cons_zero, List.set_cons_succ]
      refine takeU (i := 5) (d := 18) (v := ?_) rfl rfl (by kernel_rfl) (by kernel_rfl) (by kernel_rfl) (by kernel_rfl) (by kernel_rfl) (fun _ _ _ h => h) (Or.inl ⟨by rfl, ?_⟩) hHeld ?_
      rotate_left
      · intro wq hSw; (try dsimp only at hSw); go_simp; all_goals (with_reducible rfl)
      simp only [Act.put, List.setIfInBounds_toArray, List.set_cons_zero, List.set_cons_succ]
      refine wpAnyU_ready (rs := [6]) (by kernel_rfl) (by simp) ?_
      refine AllReadyU.cons rfl (fun K1 hK => ?_) AllReadyU.nil
      go_simp
      go_at_call 23
      refine (HLn.out _ ((Fr.refl _ _).drew)).mono ?_
      rintro e w9 ⟨rfl, rfl⟩
      go_simp
      refine hK.out _ _ (fun _ => hHeld) (fun _ => ?_)
      clear hK K1
      refine takeU (i := 7) (d := 20) (v := ?_) rfl rfl (by kernel_rfl) (by kernel_rfl) (by kernel_rfl) (by kernel_rfl) (by kernel_rfl) (fun _ _ _ h => h) (Or.inl ⟨by rfl, ?_⟩) hHeld ?_
      rotate_left
      · intro wq hSw; (try dsimp only at hSw); go_simp; all_goals (with_reducible rfl)
      simp only [Act.put, List.setIfInBounds_toArray, List.set_cons_zero, List.set_cons_succ]
      refine wpAnyU_ready (rs := [8]) (by kernel_rfl) (by simp) ?_
      refine AllReadyU.cons rfl (fun K1 hK => ?_) AllReadyU.nil
      go_simp
      refine hK.out _ _ (fun h => absurd rfl h) (fun _ => ?_)
      clear hK K1 hHeld
      refine wpAnyU_done (by kernel_rfl) ?_ _
      go_wp2_with fail
      refine (HLn.out _ ((Fr.refl _ _).drew)).mono ?_
      rintro e w1 ⟨rfl, rfl⟩
      have HKI := hid hw.out.symm
      have HA := hid (show ∀ wx, Fr [] (w.alloc (fwO 6 n t)) wx → St W wx (abL X K N { x with s := .new x.s.win x.s.res, olds := x.olds ++ [x.nt], nt := [] } (ptr S) ((x.badge : Nat) : Int) pv nn ++ (T ++ [RowT 9 1 pv x.s.texts.length (txC x.s.texts)])) from fun wx hF => by
        have h := HH.out _ hF
        have h2 : St W wx ([BlkT X (amO S K N x pv), KnT K x.k nn, NtT N (x.bag.map pkA) x.sent] ++ (T ++ [RowT 9 1 pv x.s.texts.length (txC x.s.texts)]) ++ [SnT S x.s]) := h.perm (by
          refine List.Perm.cons _ ?_
          show (SnT S x.s :: ([KnT K x.k nn, NtT N (x.bag.map pkA) x.sent] ++ (RowT 9 1 pv x.s.texts.length (txC x.s.texts) :: T))).Perm ([KnT K x.k nn, NtT N (x.bag.map pkA) x.sent] ++ (T ++ [RowT 9 1 pv x.s.texts.length (txC x.s.texts)]) ++ [SnT S x.s])
          refine (List.Perm.cons _ (List.Perm.append_left _ ?_)).trans (List.perm_append_singleton _ _).symm
          exact (List.perm_append_singleton _ _).symm)
        exact h2.drop)
      go_wp2_with fail
      refine (st_abegins (HA.out _ ((Fr.refl _ _).drew)) rfl ⟨HX.out.w1, HX.out.w8⟩ ⟨HX.out.r1, HX.out.r16⟩ (by unfold Am.badge; simp) (Nat.le_trans HBd.out (by decide))).mono ?_
      rintro e w9 ⟨S', pv', rfl, H9⟩
      have H9 := hid H9
      go_wp2_with fail
      go_end0
      exact ⟨_, _, rfl, H9.out⟩
    · have e3 := hid (q3 (by omega))
      have hs2 : ¬ n.tmod m < 0 := hs
      clear q1 q2 q3 q4 hs
      go_enter Tryz.func6, Tryz.ntmps6
      go_wp2_with fail
      refine (HLn.out _ (Fr.refl _ _)).mono ?_
      rintro e w1 ⟨rfl, rfl⟩
      go_wp2_with fail
      refine wp_region_U (S := fun wx : World => wx.cell? ⟨X, 3, none⟩ = some (ptr N) ∧ wx.cell? ⟨w.heap.size, 1, none⟩ = some (.int .i64 n)) 8 (by kernel_rfl) (HS.out _ ((Fr.refl _ _).drew)) (fun hHeld => ?_)
      refine takeU (i := 0) (d := 13) (v := ?_) rfl rfl (by kernel_rfl) (by kernel_rfl) (by kernel_rfl) (by kernel_rfl) (by kernel_rfl) (fun _ _ _ h => h) (Or.inl ⟨by rfl, ?_⟩) hHeld ?_
      rotate_left
      · intro wq hSw; (try dsimp only at hSw); go_simp; all_goals (with_reducible rfl)
      simp only [Act.put, List.setIfInBounds_toArray, List.set_cons_zero, List.set_cons_succ]
      refine takeU (i := 1) (d := 14) (v := ?_) rfl rfl (by kernel_rfl) (by kernel_rfl) (by kernel_rfl) (by kernel_rfl) (by kernel_rfl) (fun _ _ _ h => h) (Or.inl ⟨by rfl, ?_⟩) hHeld ?_
      rotate_left
      · intro wq hSw; (try dsimp only at hSw); go_simp; all_goals (with_reducible rfl)
      simp only [Act.put, List.setIfInBounds_toArray, List.set_cons_zero, List.set_cons_succ]
      refine takeU (i := 2) (d := 15) (v := ?_) rfl rfl (by kernel_rfl) (by kernel_rfl) (by kernel_rfl) (by kernel_rfl) (by kernel_rfl) (fun _ _ _ h => h) (Or.inl ⟨by rfl, ?_⟩) hHeld ?_
      rotate_left
      · intro wq hSw; (try dsimp only at hSw); go_simp; all_goals (with_reducible rfl)
      simp only [Act.put, List.setIfInBounds_toArray, List.set_cons_zero, List.set_cons_succ]
      refine takeU (i := 3) (d := 16) (v := ?_) rfl rfl (by kernel_rfl) (by kernel_rfl) (by kernel_rfl) (by kernel_rfl) (by kernel_rfl) (fun _ _ _ h => h) (Or.inl ⟨by rfl, ?_⟩) hHeld ?_
      rotate_left
      · intro wq hSw; (try dsimp only at hSw); go_simp; all_goals (with_reducible rfl)
      simp only [Act.put, List.setIfInBounds_toArray, List.set_cons_zero, List.set_cons_succ]
      refine takeU (i := 4) (d := 17) (v := ?_) rfl rfl (by kernel_rfl) (by kernel_rfl) (by kernel_rfl) (by kernel_rfl) (by kernel_rfl) (fun _ _ _ h => h) (Or.inl ⟨by rfl, ?_⟩) hHeld ?_
      rotate_left
      · intro wq hSw; (try dsimp only at hSw); go_simp; all_goals (with_reducible rfl)
      simp only [Act.put, List.setIfInBounds_toArray, List.set_cons_zero, List.set_cons_succ]
      refine takeU (i := 5) (d := 18) (v := ?_) rfl rfl (by kernel_rfl) (by kernel_rfl) (by kernel_rfl) (by kernel_rfl) (by kernel_rfl) (fun _ _ _ h => h) (Or.inl ⟨by rfl, ?_⟩) hHeld ?_
      rotate_left
      · intro wq hSw; (try dsimp only at hSw); go_simp; all_goals (with_reducible rfl)
      simp only [Act.put, List.setIfInBounds_toArray, List.set_cons_zero, List.set_cons_succ]
      refine wpAnyU_ready (rs := [6]) (by kernel_rfl) (by simp) ?_
      refine AllReadyU.cons rfl (fun K1 hK => ?_) AllReadyU.nil
      go_simp
      go_at_call 23
      refine (HLn.out _ ((Fr.refl _ _).drew)).mono ?_
      rintro e w9 ⟨rfl, rfl⟩
      go_simp
      refine hK.out _ _ (fun _ => hHeld) (fun _ => ?_)
      clear hK K1
      refine takeU (i := 7) (d := 20) (v := ?_) rfl rfl (by kernel_rfl) (by kernel_rfl) (by kernel_rfl) (by kernel_rfl) (by kernel_rfl) (fun _ _ _ h => h) (Or.inl ⟨by rfl, ?_⟩) hHeld ?_
      rotate_left
      · intro wq hSw; (try dsimp only at hSw); go_simp; all_goals (with_reducible rfl)
      simp only [Act.put, List.setIfInBounds_toArray, List.set_cons_zero, List.set_cons_succ]
      refine wpAnyU_ready (rs := [8]) (by kernel_rfl) (by simp) ?_
      refine AllReadyU.cons rfl (fun K1 hK => ?_) AllReadyU.nil
      go_simp
      refine hK.out _ _ (fun h => absurd rfl h) (fun _ => ?_)
      clear hK K1 hHeld
      refine wpAnyU_done (by kernel_rfl) ?_ _
      have HKI := hid e3.out.symm
      have HA := hid (show ∀ wx, Fr [] (w.alloc (fwO 6 n t)) wx → St W wx (abL X K N { x with s := .new x.s.win x.s.res, olds := x.olds ++ [x.nt], nt := [] } (ptr S) ((x.badge : Nat) : Int) pv nn ++ (T ++ [RowT 9 1 pv x.s.texts.length (txC x.s.texts)])) from fun wx hF => by
        have h := HH.out _ hF
        have h2 : St W wx ([BlkT X (amO S K N x pv), KnT K x.k nn, NtT N (x.bag.map pkA) x.sent] ++ (T ++ [RowT 9 1 pv x.s.texts.length (txC x.s.texts)]) ++ [SnT S x.s]) := h.perm (by
          refine List.Perm.cons _ ?_
          show (SnT S x.s :: ([KnT K x.k nn, NtT N (x.bag.map pkA) x.sent] ++ (RowT 9 1 pv x.s.texts.length (txC x.s.texts) :: T))).Perm ([KnT K x.k nn, NtT N (x.bag.map pkA) x.sent] ++ (T ++ [RowT 9 1 pv x.s.texts.length (txC x.s.texts)]) ++ [SnT S x.s])
          refine (List.Perm.cons _ (List.Perm.append_left _ ?_)).trans (List.perm_append_singleton _ _).symm
          exact (List.perm_append_singleton _ _).symm)
        exact h2.drop)
      go_wp2_with fail
      refine (st_abegins (HA.out _ ((Fr.refl _ _).drew)) rfl ⟨HX.out.w1, HX.out.w8⟩ ⟨HX.out.r1, HX.out.r16⟩ (by unfold Am.badge; simp) (Nat.le_trans HBd.out (by decide))).mono ?_
      rintro e w9 ⟨S', pv', rfl, H9⟩
      have H9 := hid H9
      go_wp2_with fail
      go_end0
      exact ⟨_, _, rfl, H9.out⟩
set_option maxHeartbeats 6400000 in
set_option maxRecDepth 100000 in
theorem st_adoes0 {X S K N nn : Nat} {x : Am} {pv : Value} (H : St W w (amL X S K N x pv nn ++ T)) (hx : x.ok) (hbl : x.bag.length ≤ 536870912) (n : Int) (t : ByteArray) (kind : Int) (k1 : (kind == 1) = false) (k2 : (kind == 2) = false) (k3 : (kind == 3) = false) (k4 : (kind == 4) = false) (k5 : (kind == 5) = false) (k6 : (kind == 6) = false) :
    Calls Tryz.prog 6 #[ptr X, .agg #[.int .i64 kind, .int .i64 n, .string t]] w fun e w' => e = .returned (.tuple #[]) ∧ St W w' (amL X S K N x pv nn ++ T) := by
  have hbX := H.blk 0 rfl
  have hpl := hid (fun m hm => place_of n m hm)
  have H2 := H.alloc (fwO kind n t)
  have hpd : (amL X S K N x pv nn ++ T ++ [BlkT w.heap.size (fwO kind n t)])[5 + T.length]? = some (BlkT w.heap.size (fwO kind n t)) := get_end5 _ _ _ _ _ _ _
  have HLn := hid (show ∀ wx, Fr [] (w.alloc (fwO kind n t)) wx → Calls Tryz.prog 23 #[ptr N] wx fun e w' => e = .returned (.int .i64 x.bag.length) ∧ wx = w' from fun wx hF => by
    have h := st_nlen (H2.same hF) 3 rfl
    rw [List.length_map] at h
    exact h)
  have HS := hid (show ∀ wx, Fr [] (w.alloc (fwO kind n t)) wx → wx.cell? ⟨X, 3, none⟩ = some (ptr N) ∧ wx.cell? ⟨w.heap.size, 1, none⟩ = some (.int .i64 n) from fun wx hF => ⟨cell_blk (i := 3) ((H2.same hF).blk 0 rfl) rfl, cell_blk (i := 1) ((H2.same hF).blk _ hpd) rfl⟩)
  have HH := hid (show ∀ wx, Fr [] (w.alloc (fwO kind n t)) wx → St W wx (amL X S K N x pv nn ++ T) from fun wx hF => (H2.same hF).drop)
  have HBL := hid hbl
  have HX := hid hx
  have x0 := cell_blk (i := 0) hbX rfl
  have x1 := cell_blk (i := 1) hbX rfl
  have x3 := cell_blk (i := 3) hbX rfl
  have hg := lt_of_block hbX
  clear H H2 hbX hx hbl hpd
  by_cases he : x.bag.length = 0
  · have hp0 : x.place n = 0 := by unfold Am.place; rw [if_pos he]
    have b0 : (x.bag.length : Int) = 0 := by omega
    rw [b0] at HLn
    have HP := hid hp0
    clear he hp0 b0
    go_enter Tryz.func6, Tryz.ntmps6
    go_wp2_with fail
    refine (HLn.out _ (Fr.refl _ _)).mono ?_
    rintro e w1 ⟨rfl, rfl⟩
    have HKI := hid (show ((x.place n : Nat) : Int) = 0 from by rw [HP.out]; rfl)
    have H9 := hid (HH.out _ ((Fr.refl _ _)))
    go_wp2_with fail
    go_end0
    exact ⟨rfl, H9.out⟩
  · have b0 : (0 : Int) < x.bag.length := by omega
    have hp0 : x.place n = (n % (x.bag.length : Int)).toNat := by unfold Am.place; rw [if_neg he]
    obtain ⟨m, hm⟩ : ∃ m : Int, (x.bag.length : Int) = m := ⟨_, rfl⟩
    rw [hm] at HLn b0 hp0
    have hnz : (m == 0) = false := by rw [beq_eq_false_iff_ne]; omega
    have hnz2 : ¬ m = 0 := by omega
    obtain ⟨q1, q2, q3, q4⟩ := hpl.out m (by omega)
    have hmm := hid (show m ≤ 1073741824 from by have := HBL.out; omega)
    rw [← hp0] at q3 q4
    clear hp0 he hm
    by_cases hs : n.tmod m < 0
    · have e4 := hid (q4 hs)
      have hw := hid (show wrap64 (n.tmod m + m) = ((x.place n : Nat) : Int) from by rw [IntWalk.wrap64_in _ (by have := hmm.out; omega)]; exact q4 hs)
      clear q1 q2 q3 q4
      go_enter Tryz.func6, Tryz.ntmps6
      go_wp2_with fail
      refine (HLn.out _ (Fr.refl _ _)).mono ?_
      rintro e w1 ⟨rfl, rfl⟩
      go_wp2_with fail
      refine wp_region_U (S := fun wx : World => wx.cell? ⟨X, 3, none⟩ = some (ptr N) ∧ wx.cell? ⟨w.heap.size, 1, none⟩ = some (.int .i64 n)) 8 (by kernel_rfl) (HS.out _ ((Fr.refl _ _).drew)) (fun hHeld => ?_)
      refine takeU (i := 0) (d := 13) (v := ?_) rfl rfl (by kernel_rfl) (by kernel_rfl) (by kernel_rfl) (by kernel_rfl) (by kernel_rfl) (fun _ _ _ h => h) (Or.inl ⟨by rfl, ?_⟩) hHeld ?_
      rotate_left
      · intro wq hSw; (try dsimp only at hSw); go_simp; all_goals (with_reducible rfl)
      simp only [Act.put, List.setIfInBounds_toArray, List.set_cons_zero, List.set_cons_succ]
      refine takeU (i := 1) (d := 14) (v := ?_) rfl rfl (by kernel_rfl) (by kernel_rfl) (by kernel_rfl) (by kernel_rfl) (by kernel_rfl) (fun _ _ _ h => h) (Or.inl ⟨by rfl, ?_⟩) hHeld ?_
      rotate_left
      · intro wq hSw; (try dsimp only at hSw); go_simp; all_goals (with_reducible rfl)
      simp only [Act.put, List.setIfInBounds_toArray, List.set_cons_zero, List.set_cons_succ]
      refine takeU (i := 2) (d := 15) (v := ?_) rfl rfl (by kernel_rfl) (by kernel_rfl) (by kernel_rfl) (by kernel_rfl) (by kernel_rfl) (fun _ _ _ h => h) (Or.inl ⟨by rfl, ?_⟩) hHeld ?_
      rotate_left
      · intro wq hSw; (try dsimp only at hSw); go_simp; all_goals (with_reducible rfl)
      simp only [Act.put, List.setIfInBounds_toArray, List.set_cons_zero, List.set_cons_succ]
      refine takeU (i := 3) (d := 16) (v := ?_) rfl rfl (by kernel_rfl) (by kernel_rfl) (by kernel_rfl) (by kernel_rfl) (by kernel_rfl) (fun _ _ _ h => h) (Or.inl ⟨by rfl, ?_⟩) hHeld ?_
      rotate_left
      · intro wq hSw; (try dsimp only at hSw); go_simp; all_goals (with_reducible rfl)
      simp only [Act.put, List.setIfInBounds_toArray, List.set_cons_zero, List.set_cons_succ]
      refine takeU (i := 4) (d := 17) (v := ?_) rfl rfl (by kernel_rfl) (by kernel_rfl) (by kernel_rfl) (by kernel_rfl) (by kernel_rfl) (fun _ _ _ h => h) (Or.inl ⟨by rfl, ?_⟩) hHeld ?_
      rotate_left
      · intro wq hSw; (try dsimp only at hSw); go_simp; all_goals (with_reducible rfl)
      simp only [Act.put, List.setIfInBounds_toArray, List.set_cons_zero, List.set_cons_succ]
      refine takeU (i := 5) (d := 18) (v := ?_) rfl rfl (by kernel_rfl) (by kernel_rfl) (by kernel_rfl) (by kernel_rfl) (by kernel_rfl) (fun _ _ _ h => h) (Or.inl ⟨by rfl, ?_⟩) hHeld ?_
      rotate_left
      · intro wq hSw; (try dsimp only at hSw); go_simp; all_goals (with_reducible rfl)
      simp only [Act.put, List.setIfInBounds_toArray, List.set_cons_zero, List.set_cons_succ]
      refine wpAnyU_ready (rs := [6]) (by kernel_rfl) (by simp) ?_
      refine AllReadyU.cons rfl (fun K1 hK => ?_) AllReadyU.nil
      go_simp
      go_at_call 23
      refine (HLn.out _ ((Fr.refl _ _).drew)).mono ?_
      rintro e w9 ⟨rfl, rfl⟩
      go_simp
      refine hK.out _ _ (fun _ => hHeld) (fun _ => ?_)
      clear hK K1
      refine takeU (i := 7) (d := 20) (v := ?_) rfl rfl (by kernel_rfl) (by kernel_rfl) (by kernel_rfl) (by kernel_rfl) (by kernel_rfl) (fun _ _ _ h => h) (Or.inl ⟨by rfl, ?_⟩) hHeld ?_
      rotate_left
      · intro wq hSw; (try dsimp only at hSw); go_simp; all_goals (with_reducible rfl)
      simp only [Act.put, List.setIfInBounds_toArray, List.set_cons_zero, List.set_cons_succ]
      refine wpAnyU_ready (rs := [8]) (by kernel_rfl) (by simp) ?_
      refine AllReadyU.cons rfl (fun K1 hK => ?_) AllReadyU.nil
      go_simp
      refine hK.out _ _ (fun h => absurd rfl h) (fun _ => ?_)
      clear hK K1 hHeld
      refine wpAnyU_done (by kernel_rfl) ?_ _
      go_wp2_with fail
      refine (HLn.out _ ((Fr.refl _ _).drew)).mono ?_
      rintro e w1 ⟨rfl, rfl⟩
      have HKI := hid hw.out.symm
      have H9 := hid (HH.out _ ((Fr.refl _ _).drew))
      go_wp2_with fail
      go_end0
      exact ⟨rfl, H9.out⟩
    · have e3 := hid (q3 (by omega))
      have hs2 : ¬ n.tmod m < 0 := hs
      clear q1 q2 q3 q4 hs
      go_enter Tryz.func6, Tryz.ntmps6
      go_wp2_with fail
      refine (HLn.out _ (Fr.refl _ _)).mono ?_
      rintro e w1 ⟨rfl, rfl⟩
      go_wp2_with fail
      refine wp_region_U (S := fun wx : World => wx.cell? ⟨X, 3, none⟩ = some (ptr N) ∧ wx.cell? ⟨w.heap.size, 1, none⟩ = some (.int .i64 n)) 8 (by kernel_rfl) (HS.out _ ((Fr.refl _ _).drew)) (fun hHeld => ?_)
      refine takeU (i := 0) (d := 13) (v := ?_) rfl rfl (by kernel_rfl) (by kernel_rfl) (by kernel_rfl) (by kernel_rfl) (by kernel_rfl) (fun _ _ _ h => h) (Or.inl ⟨by rfl, ?_⟩) hHeld ?_
      rotate_left
      · intro wq hSw; (try dsimp only at hSw); go_simp; all_goals (with_reducible rfl)
      simp only [Act.put, List.setIfInBounds_toArray, List.set_cons_zero, List.set_cons_succ]
      refine takeU (i := 1) (d := 14) (v := ?_) rfl rfl (by kernel_rfl) (by kernel_rfl) (by kernel_rfl) (by kernel_rfl) (by kernel_rfl) (fun _ _ _ h => h) (Or.inl ⟨by rfl, ?_⟩) hHeld ?_
      rotate_left
      · intro wq hSw; (try dsimp only at hSw); go_simp; all_goals (with_reducible rfl)
      simp only [Act.put, List.setIfInBounds_toArray, List.set_cons_zero, List.set_cons_succ]
      refine takeU (i := 2) (d := 15) (v := ?_) rfl rfl (by kernel_rfl) (by kernel_rfl) (by kernel_rfl) (by kernel_rfl) (by kernel_rfl) (fun _ _ _ h => h) (Or.inl ⟨by rfl, ?_⟩) hHeld ?_
      rotate_left
      · intro wq hSw; (try dsimp only at hSw); go_simp; all_goals (with_reducible rfl)
      simp only [Act.put, List.setIfInBounds_toArray, List.set_cons_zero, List.set_cons_succ]
      refine takeU (i := 3) (d := 16) (v := ?_) rfl rfl (by kernel_rfl) (by kernel_rfl) (by kernel_rfl) (by kernel_rfl) (by kernel_rfl) (fun _ _ _ h => h) (Or.inl ⟨by rfl, ?_⟩) hHeld ?_
      rotate_left
      · intro wq hSw; (try dsimp only at hSw); go_simp; all_goals (with_reducible rfl)
      simp only [Act.put, List.setIfInBounds_toArray, List.set_cons_zero, List.set_cons_succ]
      refine takeU (i := 4) (d := 17) (v := ?_) rfl rfl (by kernel_rfl) (by kernel_rfl) (by kernel_rfl) (by kernel_rfl) (by kernel_rfl) (fun _ _ _ h => h) (Or.inl ⟨by rfl, ?_⟩) hHeld ?_
      rotate_left
      · intro wq hSw; (try dsimp only at hSw); go_simp; all_goals (with_reducible rfl)
      simp only [Act.put, List.setIfInBounds_toArray, List.set_cons_zero, List.set_cons_succ]
      refine takeU (i := 5) (d := 18) (v := ?_) rfl rfl (by kernel_rfl) (by kernel_rfl) (by kernel_rfl) (by kernel_rfl) (by kernel_rfl) (fun _ _ _ h => h) (Or.inl ⟨by rfl, ?_⟩) hHeld ?_
      rotate_left
      · intro wq hSw; (try dsimp only at hSw); go_simp; all_goals (with_reducible rfl)
      simp only [Act.put, List.setIfInBounds_toArray, List.set_cons_zero, List.set_cons_succ]
      refine wpAnyU_ready (rs := [6]) (by kernel_rfl) (by simp) ?_
      refine AllReadyU.cons rfl (fun K1 hK => ?_) AllReadyU.nil
      go_simp
      go_at_call 23
      refine (HLn.out _ ((Fr.refl _ _).drew)).mono ?_
      rintro e w9 ⟨rfl, rfl⟩
      go_simp
      refine hK.out _ _ (fun _ => hHeld) (fun _ => ?_)
      clear hK K1
      refine takeU (i := 7) (d := 20) (v := ?_) rfl rfl (by kernel_rfl) (by kernel_rfl) (by kernel_rfl) (by kernel_rfl) (by kernel_rfl) (fun _ _ _ h => h) (Or.inl ⟨by rfl, ?_⟩) hHeld ?_
      rotate_left
      · intro wq hSw; (try dsimp only at hSw); go_simp; all_goals (with_reducible rfl)
      simp only [Act.put, List.setIfInBounds_toArray, List.set_cons_zero, List.set_cons_succ]
      refine wpAnyU_ready (rs := [8]) (by kernel_rfl) (by simp) ?_
      refine AllReadyU.cons rfl (fun K1 hK => ?_) AllReadyU.nil
      go_simp
      refine hK.out _ _ (fun h => absurd rfl h) (fun _ => ?_)
      clear hK K1 hHeld
      refine wpAnyU_done (by kernel_rfl) ?_ _
      have HKI := hid e3.out.symm
      have H9 := hid (HH.out _ ((Fr.refl _ _).drew))
      go_wp2_with fail
      go_end0
      exact ⟨rfl, H9.out⟩
theorem st_adoes {X S K N nn : Nat} {x : Am} {pv : Value} (H : St W w (amL X S K N x pv nn ++ T)) (hx : x.ok) (hbd : x.badge ≤ 16777216) (hbl : x.bag.length ≤ 536870912) (hph : nn ≤ x.k.phi) (kind n : Int) (t : ByteArray) :
    Calls Tryz.prog 6 #[ptr X, .agg #[.int .i64 kind, .int .i64 n, .string t]] w fun e w' => ∃ S' pv' nn', e = .returned (.tuple #[]) ∧ Hid (nn' ≤ (x.doesT kind n t).k.phi) ∧ St W w' (amL X S' K N (x.doesT kind n t) pv' nn' ++ (if kind = 6 then T ++ [RowT 9 1 pv x.s.texts.length (txC x.s.texts)] else T)) := by
  by_cases h6 : kind = 6
  · rw [if_pos h6]
    subst h6
    refine (st_adoes6 H hx hbd hbl n t).mono ?_
    rintro e w' ⟨S', pv', rfl, h⟩
    exact ⟨S', pv', nn, rfl, hid hph, h⟩
  · rw [if_neg h6]
    unfold Am.doesT
    by_cases h1 : kind = 1
    · rw [if_pos h1]; subst h1
      refine (st_adoes1 H hx hbl n t).mono ?_
      rintro e w' ⟨pv', rfl, h⟩
      refine ⟨S, pv', nn, rfl, hid ?_, h⟩
      split <;> exact hph
    · rw [if_neg h1]
      by_cases h2 : kind = 2
      · rw [if_pos h2]; subst h2
        refine (st_adoes2 H hx hbd hbl n t).mono ?_
        rintro e w' ⟨rfl, h⟩
        refine ⟨S, pv, nn, rfl, hid ?_, h⟩
        rw [Am.says_k]; exact hph
      · rw [if_neg h2]
        by_cases h3 : kind = 3
        · rw [if_pos h3]; subst h3
          refine (st_adoes3 H hx hbd hph hbl n t).mono ?_
          rintro e w' ⟨nn', hph', rfl, h⟩
          exact ⟨S, pv, nn', rfl, hph', h⟩
        · rw [if_neg h3]
          by_cases h4 : kind = 4
          · rw [if_pos h4]; subst h4
            refine (st_adoes4 H hx hbl n t).mono ?_
            rintro e w' ⟨rfl, h⟩
            exact ⟨S, pv, nn, rfl, hid hph, h⟩
          · rw [if_neg h4]
            by_cases h5 : kind = 5
            · rw [if_pos h5]; subst h5
              refine (st_adoes5 H hx hbl n t).mono ?_
              rintro e w' ⟨rfl, h⟩
              refine ⟨S, pv, nn, rfl, hid ?_, h⟩
              rcases x.bag[x.place n]? with _ | p
              · exact hph
              · exact hph
            · rw [if_neg h5, if_neg h6]
              refine (st_adoes0 H hx hbl n t kind (by simpa using h1) (by simpa using h2) (by simpa using h3) (by simpa using h4) (by simpa using h5) (by simpa using h6)).mono ?_
              rintro e w' ⟨rfl, h⟩
              exact ⟨S, pv, nn, rfl, hid hph, h⟩
end

end Go.Proofs.YtkiccbjngokpjaaGreat

/-
  the artefacts of top: round.
-/
namespace Go.Proofs.YtkiccbjngokpjaaGreat
open Go.RowKit
set_option linter.unusedVariables false
set_option linter.unusedSimpArgs false

theorem Am.dlvs_succ (n : Nat) (x : Am) : Am.dlvs (n + 1) x = (Am.dlvs n x).dlv 0 := by
  induction n generalizing x with
  | zero => rfl
  | succ n ih => exact ih (x.dlv 0)
/-- What a number of deliveries has under way. -/
theorem Am.ok.dlvs_len {x : Am} (h : x.ok) (n : Nat) (hn : n ≤ x.bag.length) : (Am.dlvs n x).bag.length ≤ x.bag.length ∧ x.bag.length ≤ (Am.dlvs n x).bag.length + n ∧ (Am.dlvs n x).olds = x.olds := by
  have hi := h.dlvs_is n hn
  refine ⟨?_, ?_, hi.2.2.2.2.2.2.2.2.2.2.2.2⟩
  · have := hi.2.2.2.2.2.2.2.2.2.2.2.1
    omega
  · clear hi
    induction n generalizing x with
    | zero => exact Nat.le_add_right _ _
    | succ n ih =>
      rcases hb : x.bag with _ | ⟨p, r⟩
      · rw [hb] at hn; simp at hn
      have hz : x.dlv 0 = ({ x with bag := r } : Am).comes p.2 := Am.dlv_cons hb
      have hl : r.length ≤ (x.dlv 0).bag.length := by
        rw [hz]
        rcases Am.comes_bag { x with bag := r } p.2 with e | ⟨_, _, e, _⟩ <;> rw [e] <;> simp
      have hr : n ≤ r.length := by rw [hb] at hn; simpa using hn
      have := ih (h.dlv 0) (by omega)
      show (p :: r).length ≤ (Am.dlvs n (x.dlv 0)).bag.length + (n + 1)
      simp only [List.length_cons]
      omega

section
variable {W : Base} {w : World} {T : List Thing}
set_option maxHeartbeats 6400000 in
set_option maxRecDepth 100000 in
theorem st_around {X S K N nn : Nat} {x : Am} {pv : Value} (H : St W w (amL X S K N x pv nn ++ T)) (hx : x.ok) (hbd : x.badge ≤ 16777216) (hbl : x.bag.length ≤ 268435456) (hph : nn ≤ x.k.phi) :
    Calls Tryz.prog 10 #[ptr X] w fun e w' => ∃ nn', Hid (nn' ≤ x.round.k.phi) ∧ e = .returned (.tuple #[]) ∧ St W w' (amL X S K N x.round pv nn' ++ T) := by
  have hbX := H.blk 0 rfl
  have x0 := cell_blk (i := 0) hbX rfl
  have HT := hid (st_stick H 1 rfl (by have := hx.tm; have := hx.r16; omega))
  have hsz := hid (show x.tick.says.bag.length ≤ 268435464 from by
    rw [Am.says_len]
    have h1 := x.tick.s.items_len
    have h2 : x.tick.s.win ≤ 8 := hx.w8
    have h3 : x.tick.bag.length = x.bag.length := rfl
    omega)
  have HX := hid hx
  have HBL := hid hbl
  have HBd := hid hbd
  have HPh := hid hph
  clear H hbX hx hbl hbd hph
  go_enter Tryz.func10, Tryz.ntmps10
  go_wp2_with fail
  refine HT.out.mono ?_
  rintro e w1 ⟨rfl, H1⟩
  have H1 : St W w1 (amL X S K N x.tick pv nn ++ T) := H1
  have HY := hid (st_asays H1 HX.out.tick (Nat.le_trans HBd.out (by decide)) (by have h := HBL.out; show x.bag.length ≤ _; omega))
  clear HT x0 H1
  go_wp2_with fail
  refine HY.out.mono ?_
  rintro e w2 ⟨rfl, H2⟩
  have hok := hid HX.out.tick.says
  have HRd := hid (show x.round = Am.dlvs x.tick.says.bag.length x.tick.says from rfl)
  have hb2 := H2.blk 0 rfl
  have x3 := cell_blk (i := 3) hb2 rfl
  have hyb : x.tick.says.badge ≤ 16777216 := by rw [Am.says_badge]; exact HBd.out
  have hyp : nn ≤ x.tick.says.k.phi := by rw [Am.says_k]; exact HPh.out
  obtain ⟨y, hy⟩ : ∃ y, x.tick.says = y := ⟨_, rfl⟩
  rw [hy] at H2 hok HRd hsz hyb hyp
  have HLn := st_nlen H2 3 rfl
  rw [List.length_map] at HLn
  have HLn := hid HLn
  have H2 := hid H2
  have HYb := hid hyb
  have HYp := hid hyp
  clear hy HY hb2 hyb hyp
  obtain ⟨n, hn⟩ : ∃ n, y.bag.length = n := ⟨_, rfl⟩
  rw [hn] at HLn HRd hsz
  have HN := hid hn
  clear hn
  go_wp2_with fail
  refine HLn.out.mono ?_
  rintro e w3 ⟨rfl, rfl⟩
  clear x3 HLn
  go_wp2_with fail
  go_loopw [3] (fun iv wr => ∃ (q nn' : Nat), q ≤ n ∧ iv = .int .i64 q ∧ Hid (nn' ≤ (Am.dlvs q y).k.phi) ∧ Hid (St W wr (amL X S K N (Am.dlvs q y) pv nn' ++ T))) (fun iv _ => n - (intOf iv).toNat)
  case atStart => exact ⟨0, nn, Nat.zero_le _, rfl, HYp, H2⟩
  case round =>
    obtain ⟨q, nn', hq, rfl, HP9, HQ⟩ := hrel
    by_cases hlt : q < n
    · obtain ⟨z, hz⟩ : ∃ z, Am.dlvs q y = z := ⟨_, rfl⟩
      have hzok : z.ok := by rw [← hz]; exact hok.out.dlvs q
      have hln := hok.out.dlvs_len q (by rw [HN.out]; exact hq)
      rw [hz, HN.out] at hln
      rcases hbz : z.bag with _ | ⟨p, r⟩
      · rw [hbz] at hln; simp at hln; omega
      rw [hz] at HQ HP9
      have hb0 : z.bag[0]? = some p := by rw [hbz]; rfl
      have hnext := hid (show Am.dlvs (q + 1) y = (z.drop 0).comes p.2 from by rw [Am.dlvs_succ, hz]; exact Am.dlv_some hb0)
      have HTk := hid (st_ntake HQ.out 3 rfl 0 (pkA p) (by rw [List.getElem?_map, hb0]; rfl) (by rw [List.length_map]; have := hsz.out; omega))
      have x3 := cell_blk (i := 3) (HQ.out.blk 0 rfl) rfl
      have hdok := hid (hzok.drop 0)
      have hpk := hid (hzok.bg p (List.mem_of_getElem? hb0))
      have hdl := hid (And.intro (show (z.drop 0).bag.length ≤ 536870912 from by
        have h := List.length_eraseIdx_le z.bag 0
        have := hsz.out
        show (z.bag.eraseIdx 0).length ≤ _
        omega) (show (z.drop 0).badge ≤ 16777216 from by
        have h := HYb.out
        unfold Am.badge at h
        show z.olds.length + 1 ≤ _
        rw [hln.2.2]
        exact h))
      have HL := hid (And.intro hlt hq)
      have hlt2 : (q : Int) < n := by omega
      have hn9 : (n : Int) ≤ 268435464 := by have := hsz.out; omega
      clear hz hzok hln hbz hb0 hlt hq HQ
      go_wp2_with fail
      refine HTk.out.mono ?_
      rintro e w5 ⟨rfl, H5⟩
      have H5 := hid ((am_drop H5).alloc_ (dgO (pkA p)))
      clear x3 HTk
      go_wp2_with fail
      refine (st_acomes H5.out hdok.out hdl.out.2 hdl.out.1 HP9.out p hpk.out).mono ?_
      rintro e w6 ⟨nn6, hph6, rfl, H6⟩
      rw [← hnext.out] at H6 hph6
      have H6 := hid H6
      go_wp2_with fail
      have hq1 : (q : Int) + 1 = ((q + 1 : Nat) : Int) := by omega
      refine ⟨⟨q + 1, nn6, by have := HL.out.1; omega, by rw [hq1], hph6, H6⟩, ?_⟩
      show n - ((q : Int) + 1).toNat < n - (q : Int).toNat
      have := HL.out.1
      omega
    · obtain rfl : q = n := by omega
      clear hlt hq
      go_wp2_with fail
      go_end0
      rw [HRd.out]
      exact ⟨_, HP9, rfl, HQ.out⟩
end

end Go.Proofs.YtkiccbjngokpjaaGreat
