/-
  Merged, in build order: Ts5 Ts6 Ar0.
-/
import Derived.Test.YtkiccbjngokpjaaGreatM22
import Derived.Test.YtkiccbjngokpjaaGreatM17
/-
  the streams of top: does (a log), the net's kinds.
-/
namespace Go.Proofs.YtkiccbjngokpjaaGreat
open Go.RowKit
set_option linter.unusedVariables false
set_option linter.unusedSimpArgs false

theorem eraseIdx_map_pk {α β : Type} (f : α → β) : ∀ (l : List α) (k : Nat), (l.map f).eraseIdx k = (l.eraseIdx k).map f
  | [], k => rfl
  | a :: l, 0 => rfl
  | a :: l, k + 1 => by simp [eraseIdx_map_pk f l k]
def Sm.dup (x : Sm) (k : Nat) : Sm := match x.bag[k]? with
  | none => x
  | some p => x.send p.2
theorem Sm.dup_none {x : Sm} {k : Nat} (h : x.bag[k]? = none) : x.dup k = x := by unfold Sm.dup; rw [h]
theorem Sm.dup_some {x : Sm} {k : Nat} {p : Int × Pkt} (h : x.bag[k]? = some p) : x.dup k = x.send p.2 := by unfold Sm.dup; rw [h]
theorem Sm.dlv_none {x : Sm} {k : Nat} (h : x.bag[k]? = none) : x.dlv k = x := by unfold Sm.dlv; rw [h]
theorem Sm.dlv_some {x : Sm} {k : Nat} {p : Int × Pkt} (h : x.bag[k]? = some p) : x.dlv k = (x.drop k).comes p.2 := by unfold Sm.dlv; rw [h]
section
variable {W : Base} {w : World}
theorem sm_drop {X S P K N : Nat} {x : Sm} {pv sv : Value} {k : Nat} (H : St W w ((smL X S P K N x pv sv).set 3 (NtT N ((x.bag.map pkDg).eraseIdx k) x.sent))) : St W w (smL X S P K N (x.drop k) pv sv) := by
  have h2 : St W w [BlkT X (smO S P K N x pv sv), SnT S x.s, WnT P x.w, NtT N ((x.bag.map pkDg).eraseIdx k) x.sent, RowT 9 1 pv x.s.texts.length (txC x.s.texts), RowT 9 1 sv x.stored.length (txC x.stored)] := H
  rw [eraseIdx_map_pk] at h2
  exact h2
set_option maxHeartbeats 6400000 in
set_option maxRecDepth 100000 in
theorem st_does4 {X S P K N : Nat} {x : Sm} {pv sv : Value} (H : St W w (smL X S P K N x pv sv)) (hx : x.ok) (hbl : x.bag.length ≤ 536870912) (n : Int) (t : ByteArray) :
    Calls Tryz.prog 6 #[ptr X, .agg #[.int .i64 4, .int .i64 n, .string t]] w fun e w' => ∃ pv' sv', e = .returned (.tuple #[]) ∧ St W w' (smL X S P K N (x.drop (x.place n)) pv' sv') := by
  have hbX := H.blk 0 rfl
  have hpl := hid (fun m hm => place_of n m hm)
  have H2 := H.alloc (fwO 4 n t)
  have HLn := hid (show ∀ wx, Fr [] (w.alloc (fwO 4 n t)) wx → Calls Tryz.prog 23 #[ptr N] wx fun e w' => e = .returned (.int .i64 x.bag.length) ∧ wx = w' from fun wx hF => by
    have h := st_nlen (H2.same hF) 3 rfl
    rw [List.length_map] at h
    exact h)
  have HS := hid (show ∀ wx, Fr [] (w.alloc (fwO 4 n t)) wx → wx.cell? ⟨X, 3, none⟩ = some (ptr N) ∧ wx.cell? ⟨w.heap.size, 1, none⟩ = some (.int .i64 n) from fun wx hF => ⟨cell_blk (i := 3) ((H2.same hF).blk 0 rfl) rfl, cell_blk (i := 1) ((H2.same hF).blk 6 rfl) rfl⟩)
  have H2 := hid H2
  have HBL := hid hbl
  have HX := hid hx
  have x0 := cell_blk (i := 0) hbX rfl
  have x1 := cell_blk (i := 1) hbX rfl
  have x3 := cell_blk (i := 3) hbX rfl
  have hg := lt_of_block hbX
  clear H hbX hx hbl
  by_cases he : x.bag.length = 0
  · have hp0 : x.place n = 0 := by unfold Sm.place; rw [if_pos he]
    have b0 : (x.bag.length : Int) = 0 := by omega
    rw [b0] at HLn
    have HP := hid hp0
    clear he hp0 b0
    go_enter Tryz.func6, Tryz.ntmps6
    go_wp2_with fail
    refine (HLn.out _ (Fr.refl _ _)).mono ?_
    rintro e w1 ⟨rfl, rfl⟩
    have HKI := hid (show ((x.place n : Nat) : Int) = 0 from by rw [HP.out]; rfl)
    have hdr := hid (show ∀ wx, Fr [] (w.alloc (fwO 4 n t)) wx → _ from fun wx hF => st_ndrop ((H2.out.same hF).take 6) 3 rfl (x.place n) (by have := HBL.out; rw [List.length_map]; omega))
    rw [HKI.out] at hdr
    go_wp2_with fail
    refine (hdr.out _ ((Fr.refl _ _))).mono ?_
    rintro e w9 ⟨z, rfl, H9⟩
    have H9 := hid (sm_drop H9)
    go_wp2_with fail
    go_end0
    exact ⟨_, _, rfl, H9.out⟩
  · have b0 : (0 : Int) < x.bag.length := by omega
    have hp0 : x.place n = (n % (x.bag.length : Int)).toNat := by unfold Sm.place; rw [if_neg he]
    obtain ⟨m, hm⟩ : ∃ m : Int, (x.bag.length : Int) = m := ⟨_, rfl⟩
    rw [hm] at HLn b0 hp0
    have hnz : (m == 0) = false := by rw [beq_eq_false_iff_ne]; omega
    have hnz2 : ¬ m = 0 := by omega
    obtain ⟨q1, q2, q3, q4⟩ := hpl.out m (by omega)
    have hmm := hid (show m ≤ 1073741824 from by have := HBL.out; omega)
    rw [← hp0] at q3 q4
    clear hp0 he hm
    by_cases hs : n.tmod m < 0
    · have e4 := hid (q4 hs)
      have hw := hid (show wrap64 (n.tmod m + m) = ((x.place n : Nat) : Int) from by rw [IntWalk.wrap64_in _ (by have := hmm.out; omega)]; exact q4 hs)
      clear q1 q2 q3 q4
      go_enter Tryz.func6, Tryz.ntmps6
      go_wp2_with fail
      refine (HLn.out _ (Fr.refl _ _)).mono ?_
      rintro e w1 ⟨rfl, rfl⟩
      go_wp2_with fail
      refine wp_region_U (S := fun wx : World => wx.cell? ⟨X, 3, none⟩ = some (ptr N) ∧ wx.cell? ⟨w.heap.size, 1, none⟩ = some (.int .i64 n)) 8 (by kernel_rfl) (HS.out _ ((Fr.refl _ _).drew)) (fun hHeld => ?_)
      refine takeU (i := 0) (d := 13) (v := ?_) rfl rfl (by kernel_rfl) (by kernel_rfl) (by kernel_rfl) (by kernel_rfl) (by kernel_rfl) (fun _ _ _ h => h) (Or.inl ⟨by rfl, ?_⟩) hHeld ?_
      rotate_left
      · intro wq hSw; (try dsimp only at hSw); go_simp; all_goals (with_reducible rfl)
      simp only [Act.put, List.setIfInBounds_toArray, List.set_cons_zero, List.set_cons_succ]
      refine takeU (i := 1) (d := 14) (v := ?_) rfl rfl (by kernel_rfl) (by kernel_rfl) (by kernel_rfl) (by kernel_rfl) (by kernel_rfl) (fun _ _ _ h => h) (Or.inl ⟨by rfl, ?_⟩) hHeld ?_
      rotate_left
      · intro wq hSw; (try dsimp only at hSw); go_simp; all_goals (with_reducible rfl)
      simp only [Act.put, List.setIfInBounds_toArray, List.set_cons_zero, List.set_cons_succ]
      refine takeU (i := 2) (d := 15) (v := ?_) rfl rfl (by kernel_rfl) (by kernel_rfl) (by kernel_rfl) (by kernel_rfl) (by kernel_rfl) (fun _ _ _ h => h) (Or.inl ⟨by rfl, ?_⟩) hHeld ?_
      rotate_left
      · intro wq hSw; (try dsimp only at hSw); go_simp; all_goals (with_reducible rfl)
      simp only [Act.put, List.setIfInBounds_toArray, List.set_cons_zero, List.set_cons_succ]
      refine takeU (i := 3) (d := 16) (v := ?_) rfl rfl (by kernel_rfl) (by kernel_rfl) (by kernel_rfl) (by kernel_rfl) (by kernel_rfl) (fun _ _ _ h => h) (Or.inl ⟨by rfl, ?_⟩) hHeld ?_
      rotate_left
      · intro wq hSw; (try dsimp only at hSw); go_simp; all_goals (with_reducible rfl)
      simp only [Act.put, List.setIfInBounds_toArray, List.set_cons_zero, List.set_cons_succ]
      refine takeU (i := 4) (d := 17) (v := ?_) rfl rfl (by kernel_rfl) (by kernel_rfl) (by kernel_rfl) (by kernel_rfl) (by kernel_rfl) (fun _ _ _ h => h) (Or.inl ⟨by rfl, ?_⟩) hHeld ?_
      rotate_left
      · intro wq hSw; (try dsimp only at hSw); go_simp; all_goals (with_reducible rfl)
      simp only [Act.put, List.setIfInBounds_toArray, List.set_cons_zero, List.set_cons_succ]
      refine takeU (i := 5) (d := 18) (v := ?_) rfl rfl (by kernel_rfl) (by kernel_rfl) (by kernel_rfl) (by kernel_rfl) (by kernel_rfl) (fun _ _ _ h => h) (Or.inl ⟨by rfl, ?_⟩) hHeld ?_
      rotate_left
      · intro wq hSw; (try dsimp only at hSw); go_simp; all_goals (with_reducible rfl)
      simp only [Act.put, List.setIfInBounds_toArray, List.set_cons_zero, List.set_cons_succ]
      refine wpAnyU_ready (rs := [6]) (by kernel_rfl) (by simp) ?_
      refine AllReadyU.cons rfl (fun K1 hK => ?_) AllReadyU.nil
      go_simp
      go_at_call 23
      refine (HLn.out _ ((Fr.refl _ _).drew)).mono ?_
      rintro e w9 ⟨rfl, rfl⟩
      go_simp
      refine hK.out _ _ (fun _ => hHeld) (fun _ => ?_)
      clear hK K1
      refine takeU (i := 7) (d := 20) (v := ?_) rfl rfl (by kernel_rfl) (by kernel_rfl) (by kernel_rfl) (by kernel_rfl) (by kernel_rfl) (fun _ _ _ h => h) (Or.inl ⟨by rfl, ?_⟩) hHeld ?_
      rotate_left
      · intro wq hSw; (try dsimp only at hSw); go_simp; all_goals (with_reducible rfl)
      simp only [Act.put, List.setIfInBounds_toArray, List.set_cons_zero, List.set_cons_succ]
      refine wpAnyU_ready (rs := [8]) (by kernel_rfl) (by simp) ?_
      refine AllReadyU.cons rfl (fun K1 hK => ?_) AllReadyU.nil
      go_simp
      refine hK.out _ _ (fun h => absurd rfl h) (fun _ => ?_)
      clear hK K1 hHeld
      refine wpAnyU_done (by kernel_rfl) ?_ _
      go_wp2_with fail
      refine (HLn.out _ ((Fr.refl _ _).drew)).mono ?_
      rintro e w1 ⟨rfl, rfl⟩
      have HKI := hid hw.out.symm
      have hdr := hid (show ∀ wx, Fr [] (w.alloc (fwO 4 n t)) wx → _ from fun wx hF => st_ndrop ((H2.out.same hF).take 6) 3 rfl (x.place n) (by have := HBL.out; rw [List.length_map]; omega))
      rw [HKI.out] at hdr
      go_wp2_with fail
      refine (hdr.out _ ((Fr.refl _ _).drew)).mono ?_
      rintro e w9 ⟨z, rfl, H9⟩
      have H9 := hid (sm_drop H9)
      go_wp2_with fail
      go_end0
      exact ⟨_, _, rfl, H9.out⟩
    · have e3 := hid (q3 (by omega))
      have hs2 : ¬ n.tmod m < 0 := hs
      clear q1 q2 q3 q4 hs
      go_enter Tryz.func6, Tryz.ntmps6
      go_wp2_with fail
      refine (HLn.out _ (Fr.refl _ _)).mono ?_
      rintro e w1 ⟨rfl, rfl⟩
      go_wp2_with fail
      refine wp_region_U (S := fun wx : World => wx.cell? ⟨X, 3, none⟩ = some (ptr N) ∧ wx.cell? ⟨w.heap.size, 1, none⟩ = some (.int .i64 n)) 8 (by kernel_rfl) (HS.out _ ((Fr.refl _ _).drew)) (fun hHeld => ?_)
      refine takeU (i := 0) (d := 13) (v := ?_) rfl rfl (by kernel_rfl) (by kernel_rfl) (by kernel_rfl) (by kernel_rfl) (by kernel_rfl) (fun _ _ _ h => h) (Or.inl ⟨by rfl, ?_⟩) hHeld ?_
      rotate_left
      · intro wq hSw; (try dsimp only at hSw); go_simp; all_goals (with_reducible rfl)
      simp only [Act.put, List.setIfInBounds_toArray, List.set_cons_zero, List.set_cons_succ]
      refine takeU (i := 1) (d := 14) (v := ?_) rfl rfl (by kernel_rfl) (by kernel_rfl) (by kernel_rfl) (by kernel_rfl) (by kernel_rfl) (fun _ _ _ h => h) (Or.inl ⟨by rfl, ?_⟩) hHeld ?_
      rotate_left
      · intro wq hSw; (try dsimp only at hSw); go_simp; all_goals (with_reducible rfl)
      simp only [Act.put, List.setIfInBounds_toArray, List.set_cons_zero, List.set_cons_succ]
      refine takeU (i := 2) (d := 15) (v := ?_) rfl rfl (by kernel_rfl) (by kernel_rfl) (by kernel_rfl) (by kernel_rfl) (by kernel_rfl) (fun _ _ _ h => h) (Or.inl ⟨by rfl, ?_⟩) hHeld ?_
      rotate_left
      · intro wq hSw; (try dsimp only at hSw); go_simp; all_goals (with_reducible rfl)
      simp only [Act.put, List.setIfInBounds_toArray, List.set_cons_zero, List.set_cons_succ]
      refine takeU (i := 3) (d := 16) (v := ?_) rfl rfl (by kernel_rfl) (by kernel_rfl) (by kernel_rfl) (by kernel_rfl) (by kernel_rfl) (fun _ _ _ h => h) (Or.inl ⟨by rfl, ?_⟩) hHeld ?_
      rotate_left
      · intro wq hSw; (try dsimp only at hSw); go_simp; all_goals (with_reducible rfl)
      simp only [Act.put, List.setIfInBounds_toArray, List.set_cons_zero, List.set_cons_succ]
      refine takeU (i := 4) (d := 17) (v := ?_) rfl rfl (by kernel_rfl) (by kernel_rfl) (by kernel_rfl) (by kernel_rfl) (by kernel_rfl) (fun _ _ _ h => h) (Or.inl ⟨by rfl, ?_⟩) hHeld ?_
      rotate_left
      · intro wq hSw; (try dsimp only at hSw); go_simp; all_goals (with_reducible rfl)
      simp only [Act.put, List.setIfInBounds_toArray, List.set_cons_zero, List.set_cons_succ]
      refine takeU (i := 5) (d := 18) (v := ?_) rfl rfl (by kernel_rfl) (by kernel_rfl) (by kernel_rfl) (by kernel_rfl) (by kernel_rfl) (fun _ _ _ h => h) (Or.inl ⟨by rfl, ?_⟩) hHeld ?_
      rotate_left
      · intro wq hSw; (try dsimp only at hSw); go_simp; all_goals (with_reducible rfl)
      simp only [Act.put, List.setIfInBounds_toArray, List.set_cons_zero, List.set_cons_succ]
      refine wpAnyU_ready (rs := [6]) (by kernel_rfl) (by simp) ?_
      refine AllReadyU.cons rfl (fun K1 hK => ?_) AllReadyU.nil
      go_simp
      go_at_call 23
      refine (HLn.out _ ((Fr.refl _ _).drew)).mono ?_
      rintro e w9 ⟨rfl, rfl⟩
      go_simp
      refine hK.out _ _ (fun _ => hHeld) (fun _ => ?_)
      clear hK K1
      refine takeU (i := 7) (d := 20) (v := ?_) rfl rfl (by kernel_rfl) (by kernel_rfl) (by kernel_rfl) (by kernel_rfl) (by kernel_rfl) (fun _ _ _ h => h) (Or.inl ⟨by rfl, ?_⟩) hHeld ?_
      rotate_left
      · intro wq hSw; (try dsimp only at hSw); go_simp; all_goals (with_reducible rfl)
      simp only [Act.put, List.setIfInBounds_toArray, List.set_cons_zero, List.set_cons_succ]
      refine wpAnyU_ready (rs := [8]) (by kernel_rfl) (by simp) ?_
      refine AllReadyU.cons rfl (fun K1 hK => ?_) AllReadyU.nil
      go_simp
      refine hK.out _ _ (fun h => absurd rfl h) (fun _ => ?_)
      clear hK K1 hHeld
      refine wpAnyU_done (by kernel_rfl) ?_ _
      have HKI := hid e3.out.symm
      have hdr := hid (show ∀ wx, Fr [] (w.alloc (fwO 4 n t)) wx → _ from fun wx hF => st_ndrop ((H2.out.same hF).take 6) 3 rfl (x.place n) (by have := HBL.out; rw [List.length_map]; omega))
      rw [HKI.out] at hdr
      go_wp2_with fail
      refine (hdr.out _ ((Fr.refl _ _).drew)).mono ?_
      rintro e w9 ⟨z, rfl, H9⟩
      have H9 := hid (sm_drop H9)
      go_wp2_with fail
      go_end0
      exact ⟨_, _, rfl, H9.out⟩
set_option maxHeartbeats 6400000 in
set_option maxRecDepth 100000 in
theorem st_does5 {X S P K N : Nat} {x : Sm} {pv sv : Value} (H : St W w (smL X S P K N x pv sv)) (hx : x.ok) (hbl : x.bag.length ≤ 536870912) (n : Int) (t : ByteArray) :
    Calls Tryz.prog 6 #[ptr X, .agg #[.int .i64 5, .int .i64 n, .string t]] w fun e w' => ∃ pv' sv', e = .returned (.tuple #[]) ∧ St W w' (smL X S P K N (x.dup (x.place n)) pv' sv') := by
  have hbX := H.blk 0 rfl
  have hpl := hid (fun m hm => place_of n m hm)
  have H2 := H.alloc (fwO 5 n t)
  have HLn := hid (show ∀ wx, Fr [] (w.alloc (fwO 5 n t)) wx → Calls Tryz.prog 23 #[ptr N] wx fun e w' => e = .returned (.int .i64 x.bag.length) ∧ wx = w' from fun wx hF => by
    have h := st_nlen (H2.same hF) 3 rfl
    rw [List.length_map] at h
    exact h)
  have HS := hid (show ∀ wx, Fr [] (w.alloc (fwO 5 n t)) wx → wx.cell? ⟨X, 3, none⟩ = some (ptr N) ∧ wx.cell? ⟨w.heap.size, 1, none⟩ = some (.int .i64 n) from fun wx hF => ⟨cell_blk (i := 3) ((H2.same hF).blk 0 rfl) rfl, cell_blk (i := 1) ((H2.same hF).blk 6 rfl) rfl⟩)
  have H2 := hid H2
  have HBL := hid hbl
  have HX := hid hx
  have x0 := cell_blk (i := 0) hbX rfl
  have x1 := cell_blk (i := 1) hbX rfl
  have x3 := cell_blk (i := 3) hbX rfl
  have hg := lt_of_block hbX
  clear H hbX hx hbl
  by_cases he : x.bag.length = 0
  · have hp0 : x.place n = 0 := by unfold Sm.place; rw [if_pos he]
    have b0 : (x.bag.length : Int) = 0 := by omega
    rw [b0] at HLn
    have HP := hid hp0
    clear he hp0 b0
    go_enter Tryz.func6, Tryz.ntmps6
    go_wp2_with fail
    refine (HLn.out _ (Fr.refl _ _)).mono ?_
    rintro e w1 ⟨rfl, rfl⟩
    have HKI := hid (show ((x.place n : Nat) : Int) = 0 from by rw [HP.out]; rfl)
    rcases hb : x.bag[x.place n]? with _ | p
    · have hdr := hid (show ∀ wx, Fr [] (w.alloc (fwO 5 n t)) wx → _ from fun wx hF => st_ndup_no ((H2.out.same hF).take 6) 3 rfl (x.place n) (by rw [List.length_map]; exact List.getElem?_eq_none_iff.1 hb))
      rw [HKI.out] at hdr
      have HE := hid (Sm.dup_none hb)
      clear hb
      go_wp2_with fail
      refine (hdr.out _ ((Fr.refl _ _))).mono ?_
      rintro e w9 ⟨rfl, H9⟩
      have H9 := hid H9
      go_wp2_with fail
      go_end0
      rw [HE.out]
      exact ⟨_, _, rfl, H9.out⟩
    · have hdr := hid (show ∀ wx, Fr [] (w.alloc (fwO 5 n t)) wx → _ from fun wx hF => st_ndup ((H2.out.same hF).take 6) 3 rfl (x.place n) (pkDg p) (by rw [List.getElem?_map, hb]; rfl) (by have := HBL.out; rw [List.length_map]; omega))
      rw [HKI.out] at hdr
      have HE := hid (Sm.dup_some hb)
      clear hb
      go_wp2_with fail
      refine (hdr.out _ ((Fr.refl _ _))).mono ?_
      rintro e w9 ⟨rfl, H9⟩
      have H9 := hid (sm_send (x := x) (p := p.2) (by obtain ⟨num, q⟩ := p; cases q <;> rfl) H9)
      go_wp2_with fail
      go_end0
      rw [HE.out]
      exact ⟨_, _, rfl, H9.out⟩
  · have b0 : (0 : Int) < x.bag.length := by omega
    have hp0 : x.place n = (n % (x.bag.length : Int)).toNat := by unfold Sm.place; rw [if_neg he]
    obtain ⟨m, hm⟩ : ∃ m : Int, (x.bag.length : Int) = m := ⟨_, rfl⟩
    rw [hm] at HLn b0 hp0
    have hnz : (m == 0) = false := by rw [beq_eq_false_iff_ne]; omega
    have hnz2 : ¬ m = 0 := by omega
    obtain ⟨q1, q2, q3, q4⟩ := hpl.out m (by omega)
    have hmm := hid (show m ≤ 1073741824 from by have := HBL.out; omega)
    rw [← hp0] at q3 q4
    clear hp0 he hm
    by_cases hs : n.tmod m < 0
    · have e4 := hid (q4 hs)
      have hw := hid (show wrap64 (n.tmod m + m) = ((x.place n : Nat) : Int) from by rw [IntWalk.wrap64_in _ (by have := hmm.out; omega)]; exact q4 hs)
      clear q1 q2 q3 q4
      go_enter Tryz.func6, Tryz.ntmps6
      go_wp2_with fail
      refine (HLn.out _ (Fr.refl _ _)).mono ?_
      rintro e w1 ⟨rfl, rfl⟩
      go_wp2_with fail
      refine wp_region_U (S := fun wx : World => wx.cell? ⟨X, 3, none⟩ = some (ptr N) ∧ wx.cell? ⟨w.heap.size, 1, none⟩ = some (.int .i64 n)) 8 (by kernel_rfl) (HS.out _ ((Fr.refl _ _).drew)) (fun hHeld => ?_)
      refine takeU (i := 0) (d := 13) (v := ?_) rfl rfl (by kernel_rfl) (by kernel_rfl) (by kernel_rfl) (by kernel_rfl) (by kernel_rfl) (fun _ _ _ h => h) (Or.inl ⟨by rfl, ?_⟩) hHeld ?_
      rotate_left
      · intro wq hSw; (try dsimp only at hSw); go_simp; all_goals (with_reducible rfl)
      simp only [Act.put, List.setIfInBounds_toArray, List.set_cons_zero, List.set_cons_succ]
      refine takeU (i := 1) (d := 14) (v := ?_) rfl rfl (by kernel_rfl) (by kernel_rfl) (by kernel_rfl) (by kernel_rfl) (by kernel_rfl) (fun _ _ _ h => h) (Or.inl ⟨by rfl, ?_⟩) hHeld ?_
      rotate_left
      · intro wq hSw; (try dsimp only at hSw); go_simp; all_goals (with_reducible rfl)
      simp only [Act.put, List.setIfInBounds_toArray, List.set_cons_zero, List.set_cons_succ]
      refine takeU (i := 2) (d := 15) (v := ?_) rfl rfl (by kernel_rfl) (by kernel_rfl) (by kernel_rfl) (by kernel_rfl) (by kernel_rfl) (fun _ _ _ h => h) (Or.inl ⟨by rfl, ?_⟩) hHeld ?_
      rotate_left
      · intro wq hSw; (try dsimp only at hSw); go_simp; all_goals (with_reducible rfl)
      simp only [Act.put, List.setIfInBounds_toArray, List.set_cons_zero, List.set_cons_succ]
      refine takeU (i := 3) (d := 16) (v := ?_) rfl rfl (by kernel_rfl) (by kernel_rfl) (by kernel_rfl) (by kernel_rfl) (by kernel_rfl) (fun _ _ _ h => h) (Or.inl ⟨by rfl, ?_⟩) hHeld ?_
      rotate_left
      · intro wq hSw; (try dsimp only at hSw); go_simp; all_goals (with_reducible rfl)
      simp only [Act.put, List.setIfInBounds_toArray, List.set_cons_zero, List.set_cons_succ]
      refine takeU (i := 4) (d := 17) (v := ?_) rfl rfl (by kernel_rfl) (by kernel_rfl) (by kernel_rfl) (by kernel_rfl) (by kernel_rfl) (fun _ _ _ h => h) (Or.inl ⟨by rfl, ?_⟩) hHeld ?_
      rotate_left
      · intro wq hSw; (try dsimp only at hSw); go_simp; all_goals (with_reducible rfl)
      simp only [Act.put, List.setIfInBounds_toArray, List.set_cons_zero, List.set_cons_succ]
      refine takeU (i := 5) (d := 18) (v := ?_) rfl rfl (by kernel_rfl) (by kernel_rfl) (by kernel_rfl) (by kernel_rfl) (by kernel_rfl) (fun _ _ _ h => h) (Or.inl ⟨by rfl, ?_⟩) hHeld ?_
      rotate_left
      · intro wq hSw; (try dsimp only at hSw); go_simp; all_goals (with_reducible rfl)
      simp only [Act.put, List.setIfInBounds_toArray, List.set_cons_zero, List.set_cons_succ]
      refine wpAnyU_ready (rs := [6]) (by kernel_rfl) (by simp) ?_
      refine AllReadyU.cons rfl (fun K1 hK => ?_) AllReadyU.nil
      go_simp
      go_at_call 23
      refine (HLn.out _ ((Fr.refl _ _).drew)).mono ?_
      rintro e w9 ⟨rfl, rfl⟩
      go_simp
      refine hK.out _ _ (fun _ => hHeld) (fun _ => ?_)
      clear hK K1
      refine takeU (i := 7) (d := 20) (v := ?_) rfl rfl (by kernel_rfl) (by kernel_rfl) (by kernel_rfl) (by kernel_rfl) (by kernel_rfl) (fun _ _ _ h => h) (Or.inl ⟨by rfl, ?_⟩) hHeld ?_
      rotate_left
      · intro wq hSw; (try dsimp only at hSw); go_simp; all_goals (with_reducible rfl)
      simp only [Act.put, List.setIfInBounds_toArray, List.set_cons_zero, List.set_cons_succ]
      refine wpAnyU_ready (rs := [8]) (by kernel_rfl) (by simp) ?_
      refine AllReadyU.cons rfl (fun K1 hK => ?_) AllReadyU.nil
      go_simp
      refine hK.out _ _ (fun h => absurd rfl h) (fun _ => ?_)
      clear hK K1 hHeld
      refine wpAnyU_done (by kernel_rfl) ?_ _
      go_wp2_with fail
      refine (HLn.out _ ((Fr.refl _ _).drew)).mono ?_
      rintro e w1 ⟨rfl, rfl⟩
      have HKI := hid hw.out.symm
      rcases hb : x.bag[x.place n]? with _ | p
      · have hdr := hid (show ∀ wx, Fr [] (w.alloc (fwO 5 n t)) wx → _ from fun wx hF => st_ndup_no ((H2.out.same hF).take 6) 3 rfl (x.place n) (by rw [List.length_map]; exact List.getElem?_eq_none_iff.1 hb))
        rw [HKI.out] at hdr
        have HE := hid (Sm.dup_none hb)
        clear hb
        go_wp2_with fail
        refine (hdr.out _ ((Fr.refl _ _).drew)).mono ?_
        rintro e w9 ⟨rfl, H9⟩
        have H9 := hid H9
        go_wp2_with fail
        go_end0
        rw [HE.out]
        exact ⟨_, _, rfl, H9.out⟩
      · have hdr := hid (show ∀ wx, Fr [] (w.alloc (fwO 5 n t)) wx → _ from fun wx hF => st_ndup ((H2.out.same hF).take 6) 3 rfl (x.place n) (pkDg p) (by rw [List.getElem?_map, hb]; rfl) (by have := HBL.out; rw [List.length_map]; omega))
        rw [HKI.out] at hdr
        have HE := hid (Sm.dup_some hb)
        clear hb
        go_wp2_with fail
        refine (hdr.out _ ((Fr.refl _ _).drew)).mono ?_
        rintro e w9 ⟨rfl, H9⟩
        have H9 := hid (sm_send (x := x) (p := p.2) (by obtain ⟨num, q⟩ := p; cases q <;> rfl) H9)
        go_wp2_with fail
        go_end0
        rw [HE.out]
        exact ⟨_, _, rfl, H9.out⟩
    · have e3 := hid (q3 (by omega))
      have hs2 : ¬ n.tmod m < 0 := hs
      clear q1 q2 q3 q4 hs
      go_enter Tryz.func6, Tryz.ntmps6
      go_wp2_with fail
      refine (HLn.out _ (Fr.refl _ _)).mono ?_
      rintro e w1 ⟨rfl, rfl⟩
      go_wp2_with fail
      refine wp_region_U (S := fun wx : World => wx.cell? ⟨X, 3, none⟩ = some (ptr N) ∧ wx.cell? ⟨w.heap.size, 1, none⟩ = some (.int .i64 n)) 8 (by kernel_rfl) (HS.out _ ((Fr.refl _ _).drew)) (fun hHeld => ?_)
      refine takeU (i := 0) (d := 13) (v := ?_) rfl rfl (by kernel_rfl) (by kernel_rfl) (by kernel_rfl) (by kernel_rfl) (by kernel_rfl) (fun _ _ _ h => h) (Or.inl ⟨by rfl, ?_⟩) hHeld ?_
      rotate_left
      · intro wq hSw; (try dsimp only at hSw); go_simp; all_goals (with_reducible rfl)
      simp only [Act.put, List.setIfInBounds_toArray, List.set_cons_zero, List.set_cons_succ]
      refine takeU (i := 1) (d := 14) (v := ?_) rfl rfl (by kernel_rfl) (by kernel_rfl) (by kernel_rfl) (by kernel_rfl) (by kernel_rfl) (fun _ _ _ h => h) (Or.inl ⟨by rfl, ?_⟩) hHeld ?_
      rotate_left
      · intro wq hSw; (try dsimp only at hSw); go_simp; all_goals (with_reducible rfl)
      simp only [Act.put, List.setIfInBounds_toArray, List.set_cons_zero, List.set_cons_succ]
      refine takeU (i := 2) (d := 15) (v := ?_) rfl rfl (by kernel_rfl) (by kernel_rfl) (by kernel_rfl) (by kernel_rfl) (by kernel_rfl) (fun _ _ _ h => h) (Or.inl ⟨by rfl, ?_⟩) hHeld ?_
      rotate_left
      · intro wq hSw; (try dsimp only at hSw); go_simp; all_goals (with_reducible rfl)
      simp only [Act.put, List.setIfInBounds_toArray, List.set_cons_zero, List.set_cons_succ]
      refine takeU (i := 3) (d := 16) (v := ?_) rfl rfl (by kernel_rfl) (by kernel_rfl) (by kernel_rfl) (by kernel_rfl) (by kernel_rfl) (fun _ _ _ h => h) (Or.inl ⟨by rfl, ?_⟩) hHeld ?_
      rotate_left
      · intro wq hSw; (try dsimp only at hSw); go_simp; all_goals (with_reducible rfl)
      simp only [Act.put, List.setIfInBounds_toArray, List.set_cons_zero, List.set_cons_succ]
      refine takeU (i := 4) (d := 17) (v := ?_) rfl rfl (by kernel_rfl) (by kernel_rfl) (by kernel_rfl) (by kernel_rfl) (by kernel_rfl) (fun _ _ _ h => h) (Or.inl ⟨by rfl, ?_⟩) hHeld ?_
      rotate_left
      · intro wq hSw; (try dsimp only at hSw); go_simp; all_goals (with_reducible rfl)
      simp only [Act.put, List.setIfInBounds_toArray, List.set_cons_zero, List.set_cons_succ]
      refine takeU (i := 5) (d := 18) (v := ?_) rfl rfl (by kernel_rfl) (by kernel_rfl) (by kernel_rfl) (by kernel_rfl) (by kernel_rfl) (fun _ _ _ h => h) (Or.inl ⟨by rfl, ?_⟩) hHeld ?_
      rotate_left
      · intro wq hSw; (try dsimp only at hSw); go_simp; all_goals (with_reducible rfl)
      simp only [Act.put, List.setIfInBounds_toArray, List.set_cons_zero, List.set_cons_succ]
      refine wpAnyU_ready (rs := [6]) (by kernel_rfl) (by simp) ?_
      refine AllReadyU.cons rfl (fun K1 hK => ?_) AllReadyU.nil
      go_simp
      go_at_call 23
      refine (HLn.out _ ((Fr.refl _ _).drew)).mono ?_
      rintro e w9 ⟨rfl, rfl⟩
      go_simp
      refine hK.out _ _ (fun _ => hHeld) (fun _ => ?_)
      clear hK K1
      refine takeU (i := 7) (d := 20) (v := ?_) rfl rfl (by kernel_rfl) (by kernel_rfl) (by kernel_rfl) (by kernel_rfl) (by kernel_rfl) (fun _ _ _ h => h) (Or.inl ⟨by rfl, ?_⟩) hHeld ?_
      rotate_left
      · intro wq hSw; (try dsimp only at hSw); go_simp; all_goals (with_reducible rfl)
      simp only [Act.put, List.setIfInBounds_toArray, List.set_cons_zero, List.set_cons_succ]
      refine wpAnyU_ready (rs := [8]) (by kernel_rfl) (by simp) ?_
      refine AllReadyU.cons rfl (fun K1 hK => ?_) AllReadyU.nil
      go_simp
      refine hK.out _ _ (fun h => absurd rfl h) (fun _ => ?_)
      clear hK K1 hHeld
      refine wpAnyU_done (by kernel_rfl) ?_ _
      have HKI := hid e3.out.symm
      rcases hb : x.bag[x.place n]? with _ | p
      · have hdr := hid (show ∀ wx, Fr [] (w.alloc (fwO 5 n t)) wx → _ from fun wx hF => st_ndup_no ((H2.out.same hF).take 6) 3 rfl (x.place n) (by rw [List.length_map]; exact List.getElem?_eq_none_iff.1 hb))
        rw [HKI.out] at hdr
        have HE := hid (Sm.dup_none hb)
        clear hb
        go_wp2_with fail
        refine (hdr.out _ ((Fr.refl _ _).drew)).mono ?_
        rintro e w9 ⟨rfl, H9⟩
        have H9 := hid H9
        go_wp2_with fail
        go_end0
        rw [HE.out]
        exact ⟨_, _, rfl, H9.out⟩
      · have hdr := hid (show ∀ wx, Fr [] (w.alloc (fwO 5 n t)) wx → _ from fun wx hF => st_ndup ((H2.out.same hF).take 6) 3 rfl (x.place n) (pkDg p) (by rw [List.getElem?_map, hb]; rfl) (by have := HBL.out; rw [List.length_map]; omega))
        rw [HKI.out] at hdr
        have HE := hid (Sm.dup_some hb)
        clear hb
        go_wp2_with fail
        refine (hdr.out _ ((Fr.refl _ _).drew)).mono ?_
        rintro e w9 ⟨rfl, H9⟩
        have H9 := hid (sm_send (x := x) (p := p.2) (by obtain ⟨num, q⟩ := p; cases q <;> rfl) H9)
        go_wp2_with fail
        go_end0
        rw [HE.out]
        exact ⟨_, _, rfl, H9.out⟩
set_option maxHeartbeats 6400000 in
set_option maxRecDepth 100000 in
theorem st_does3 {X S P K N : Nat} {x : Sm} {pv sv : Value} (H : St W w (smL X S P K N x pv sv)) (hx : x.ok) (hbl : x.bag.length ≤ 536870912) (n : Int) (t : ByteArray) :
    Calls Tryz.prog 6 #[ptr X, .agg #[.int .i64 3, .int .i64 n, .string t]] w fun e w' => ∃ pv' sv', e = .returned (.tuple #[]) ∧ St W w' (smL X S P K N (x.dlv (x.place n)) pv' sv') := by
  have hbX := H.blk 0 rfl
  have hpl := hid (fun m hm => place_of n m hm)
  have H2 := H.alloc (fwO 3 n t)
  have HLn := hid (show ∀ wx, Fr [] (w.alloc (fwO 3 n t)) wx → Calls Tryz.prog 23 #[ptr N] wx fun e w' => e = .returned (.int .i64 x.bag.length) ∧ wx = w' from fun wx hF => by
    have h := st_nlen (H2.same hF) 3 rfl
    rw [List.length_map] at h
    exact h)
  have HS := hid (show ∀ wx, Fr [] (w.alloc (fwO 3 n t)) wx → wx.cell? ⟨X, 3, none⟩ = some (ptr N) ∧ wx.cell? ⟨w.heap.size, 1, none⟩ = some (.int .i64 n) from fun wx hF => ⟨cell_blk (i := 3) ((H2.same hF).blk 0 rfl) rfl, cell_blk (i := 1) ((H2.same hF).blk 6 rfl) rfl⟩)
  have H2 := hid H2
  have HBL := hid hbl
  have HX := hid hx
  have x0 := cell_blk (i := 0) hbX rfl
  have x1 := cell_blk (i := 1) hbX rfl
  have x3 := cell_blk (i := 3) hbX rfl
  have hg := lt_of_block hbX
  clear H hbX hx hbl
  by_cases he : x.bag.length = 0
  · have hp0 : x.place n = 0 := by unfold Sm.place; rw [if_pos he]
    have b0 : (x.bag.length : Int) = 0 := by omega
    rw [b0] at HLn
    have HP := hid hp0
    clear he hp0 b0
    go_enter Tryz.func6, Tryz.ntmps6
    go_wp2_with fail
    refine (HLn.out _ (Fr.refl _ _)).mono ?_
    rintro e w1 ⟨rfl, rfl⟩
    have HKI := hid (show ((x.place n : Nat) : Int) = 0 from by rw [HP.out]; rfl)
    rcases hb : x.bag[x.place n]? with _ | p
    · have hdr := hid (show ∀ wx, Fr [] (w.alloc (fwO 3 n t)) wx → _ from fun wx hF => st_ntake_no ((H2.out.same hF).take 6) 3 rfl (x.place n) (by rw [List.length_map]; exact List.getElem?_eq_none_iff.1 hb))
      rw [HKI.out] at hdr
      have HE := hid (Sm.dlv_none hb)
      clear hb
      go_wp2_with fail
      refine (hdr.out _ ((Fr.refl _ _))).mono ?_
      rintro e w9 ⟨rfl, H9⟩
      have H9 := hid (H9.alloc_ (dgO dg0))
      go_wp2_with fail
      go_end0
      rw [HE.out]
      exact ⟨_, _, rfl, H9.out⟩
    · have hdr := hid (show ∀ wx, Fr [] (w.alloc (fwO 3 n t)) wx → _ from fun wx hF => st_ntake ((H2.out.same hF).take 6) 3 rfl (x.place n) (pkDg p) (by rw [List.getElem?_map, hb]; rfl) (by have := HBL.out; rw [List.length_map]; omega))
      rw [HKI.out] at hdr
      have hok := hid (HX.out.drop (x.place n))
      have hpk := hid (HX.out.bg p (List.mem_of_getElem? hb))
      have HE := hid (Sm.dlv_some hb)
      clear hb
      go_wp2_with fail
      refine (hdr.out _ ((Fr.refl _ _))).mono ?_
      rintro e w9 ⟨rfl, H9⟩
      have H9 := hid ((sm_drop H9).alloc_ (dgO (pkDg p)))
      go_wp2_with fail
      refine (st_comes H9.out hok.out (by have := HBL.out; have h := List.length_eraseIdx_le x.bag (x.place n); exact Nat.le_trans h this) p hpk.out).mono ?_
      rintro e w10 ⟨sv9, rfl, H10⟩
      have H10 := hid H10
      go_wp2_with fail
      go_end0
      rw [HE.out]
      exact ⟨_, _, rfl, H10.out⟩
  · have b0 : (0 : Int) < x.bag.length := by omega
    have hp0 : x.place n = (n % (x.bag.length : Int)).toNat := by unfold Sm.place; rw [if_neg he]
    obtain ⟨m, hm⟩ : ∃ m : Int, (x.bag.length : Int) = m := ⟨_, rfl⟩
    rw [hm] at HLn b0 hp0
    have hnz : (m == 0) = false := by rw [beq_eq_false_iff_ne]; omega
    have hnz2 : ¬ m = 0 := by omega
    obtain ⟨q1, q2, q3, q4⟩ := hpl.out m (by omega)
    have hmm := hid (show m ≤ 1073741824 from by have := HBL.out; omega)
    rw [← hp0] at q3 q4
    clear hp0 he hm
    by_cases hs : n.tmod m < 0
    · have e4 := hid (q4 hs)
      have hw := hid (show wrap64 (n.tmod m + m) = ((x.place n : Nat) : Int) from by rw [IntWalk.wrap64_in _ (by have := hmm.out; omega)]; exact q4 hs)
      clear q1 q2 q3 q4
      go_enter Tryz.func6, Tryz.ntmps6
      go_wp2_with fail
      refine (HLn.out _ (Fr.refl _ _)).mono ?_
      rintro e w1 ⟨rfl, rfl⟩
      go_wp2_with fail
      refine wp_region_U (S := fun wx : World => wx.cell? ⟨X, 3, none⟩ = some (ptr N) ∧ wx.cell? ⟨w.heap.size, 1, none⟩ = some (.int .i64 n)) 8 (by kernel_rfl) (HS.out _ ((Fr.refl _ _).drew)) (fun hHeld => ?_)
      refine takeU (i := 0) (d := 13) (v := ?_) rfl rfl (by kernel_rfl) (by kernel_rfl) (by kernel_rfl) (by kernel_rfl) (by kernel_rfl) (fun _ _ _ h => h) (Or.inl ⟨by rfl, ?_⟩) hHeld ?_
      rotate_left
      · intro wq hSw; (try dsimp only at hSw); go_simp; all_goals (with_reducible rfl)
      simp only [Act.put, List.setIfInBounds_toArray, List.set_cons_zero, List.set_cons_succ]
      refine takeU (i := 1) (d := 14) (v := ?_) rfl rfl (by kernel_rfl) (by kernel_rfl) (by kernel_rfl) (by kernel_rfl) (by kernel_rfl) (fun _ _ _ h => h) (Or.inl ⟨by rfl, ?_⟩) hHeld ?_
      rotate_left
      · intro wq hSw; (try dsimp only at hSw); go_simp; all_goals (with_reducible rfl)
      simp only [Act.put, List.setIfInBounds_toArray, List.set_cons_zero, List.set_cons_succ]
      refine takeU (i := 2) (d := 15) (v := ?_) rfl rfl (by kernel_rfl) (by kernel_rfl) (by kernel_rfl) (by kernel_rfl) (by kernel_rfl) (fun _ _ _ h => h) (Or.inl ⟨by rfl, ?_⟩) hHeld ?_
      rotate_left
      · intro wq hSw; (try dsimp only at hSw); go_simp; all_goals (with_reducible rfl)
      simp only [Act.put, List.setIfInBounds_toArray, List.set_cons_zero, List.set_cons_succ]
      refine takeU (i := 3) (d := 16) (v := ?_) rfl rfl (by kernel_rfl) (by kernel_rfl) (by kernel_rfl) (by kernel_rfl) (by kernel_rfl) (fun _ _ _ h => h) (Or.inl ⟨by rfl, ?_⟩) hHeld ?_
      rotate_left
      · intro wq hSw; (try dsimp only at hSw); go_simp; all_goals (with_reducible rfl)
      simp only [Act.put, List.setIfInBounds_toArray, List.set_cons_zero, List.set_cons_succ]
      refine takeU (i := 4) (d := 17) (v := ?_) rfl rfl (by kernel_rfl) (by kernel_rfl) (by kernel_rfl) (by kernel_rfl) (by kernel_rfl) (fun _ _ _ h => h) (Or.inl ⟨by rfl, ?_⟩) hHeld ?_
      rotate_left
      · intro wq hSw; (try dsimp only at hSw); go_simp; all_goals (with_reducible rfl)
      simp only [Act.put, List.setIfInBounds_toArray, List.set_cons_zero, List.set_cons_succ]
      refine takeU (i := 5) (d := 18) (v := ?_) rfl rfl (by kernel_rfl) (by kernel_rfl) (by kernel_rfl) (by kernel_rfl) (by kernel_rfl) (fun _ _ _ h => h) (Or.inl ⟨by rfl, ?_⟩) hHeld ?_
      rotate_left
      · intro wq hSw; (try dsimp only at hSw); go_simp; all_goals (with_reducible rfl)
      simp only [Act.put, List.setIfInBounds_toArray, List.set_cons_zero, List.set_cons_succ]
      refine wpAnyU_ready (rs := [6]) (by kernel_rfl) (by simp) ?_
      refine AllReadyU.cons rfl (fun K1 hK => ?_) AllReadyU.nil
      go_simp
      go_at_call 23
      refine (HLn.out _ ((Fr.refl _ _).drew)).mono ?_
      rintro e w9 ⟨rfl, rfl⟩
      go_simp
      refine hK.out _ _ (fun _ => hHeld) (fun _ => ?_)
      clear hK K1
      refine takeU (i := 7) (d := 20) (v := ?_) rfl rfl (by kernel_rfl) (by kernel_rfl) (by kernel_rfl) (by kernel_rfl) (by kernel_rfl) (fun _ _ _ h => h) (Or.inl ⟨by rfl, ?_⟩) hHeld ?_
      rotate_left
      · intro wq hSw; (try dsimp only at hSw); go_simp; all_goals (with_reducible rfl)
      simp only [Act.put, List.setIfInBounds_toArray, List.set_cons_zero, List.set_cons_succ]
      refine wpAnyU_ready (rs := [8]) (by kernel_rfl) (by simp) ?_
      refine AllReadyU.cons rfl (fun K1 hK => ?_) AllReadyU.nil
      go_simp
      refine hK.out _ _ (fun h => absurd rfl h) (fun _ => ?_)
      clear hK K1 hHeld
      refine wpAnyU_done (by kernel_rfl) ?_ _
      go_wp2_with fail
      refine (HLn.out _ ((Fr.refl _ _).drew)).mono ?_
      rintro e w1 ⟨rfl, rfl⟩
      have HKI := hid hw.out.symm
      rcases hb : x.bag[x.place n]? with _ | p
      · have hdr := hid (show ∀ wx, Fr [] (w.alloc (fwO 3 n t)) wx → _ from fun wx hF => st_ntake_no ((H2.out.same hF).take 6) 3 rfl (x.place n) (by rw [List.length_map]; exact List.getElem?_eq_none_iff.1 hb))
        rw [HKI.out] at hdr
        have HE := hid (Sm.dlv_none hb)
        clear hb
        go_wp2_with fail
        refine (hdr.out _ ((Fr.refl _ _).drew)).mono ?_
        rintro e w9 ⟨rfl, H9⟩
        have H9 := hid (H9.alloc_ (dgO dg0))
        go_wp2_with fail
        go_end0
        rw [HE.out]
        exact ⟨_, _, rfl, H9.out⟩
      · have hdr := hid (show ∀ wx, Fr [] (w.alloc (fwO 3 n t)) wx → _ from fun wx hF => st_ntake ((H2.out.same hF).take 6) 3 rfl (x.place n) (pkDg p) (by rw [List.getElem?_map, hb]; rfl) (by have := HBL.out; rw [List.length_map]; omega))
        rw [HKI.out] at hdr
        have hok := hid (HX.out.drop (x.place n))
        have hpk := hid (HX.out.bg p (List.mem_of_getElem? hb))
        have HE := hid (Sm.dlv_some hb)
        clear hb
        go_wp2_with fail
        refine (hdr.out _ ((Fr.refl _ _).drew)).mono ?_
        rintro e w9 ⟨rfl, H9⟩
        have H9 := hid ((sm_drop H9).alloc_ (dgO (pkDg p)))
        go_wp2_with fail
        refine (st_comes H9.out hok.out (by have := HBL.out; have h := List.length_eraseIdx_le x.bag (x.place n); exact Nat.le_trans h this) p hpk.out).mono ?_
        rintro e w10 ⟨sv9, rfl, H10⟩
        have H10 := hid H10
        go_wp2_with fail
        go_end0
        rw [HE.out]
        exact ⟨_, _, rfl, H10.out⟩
    · have e3 := hid (q3 (by omega))
      have hs2 : ¬ n.tmod m < 0 := hs
      clear q1 q2 q3 q4 hs
      go_enter Tryz.func6, Tryz.ntmps6
      go_wp2_with fail
      refine (HLn.out _ (Fr.refl _ _)).mono ?_
      rintro e w1 ⟨rfl, rfl⟩
      go_wp2_with fail
      refine wp_region_U (S := fun wx : World => wx.cell? ⟨X, 3, none⟩ = some (ptr N) ∧ wx.cell? ⟨w.heap.size, 1, none⟩ = some (.int .i64 n)) 8 (by kernel_rfl) (HS.out _ ((Fr.refl _ _).drew)) (fun hHeld => ?_)
      refine takeU (i := 0) (d := 13) (v := ?_) rfl rfl (by kernel_rfl) (by kernel_rfl) (by kernel_rfl) (by kernel_rfl) (by kernel_rfl) (fun _ _ _ h => h) (Or.inl ⟨by rfl, ?_⟩) hHeld ?_
      rotate_left
      · intro wq hSw; (try dsimp only at hSw); go_simp; all_goals (with_reducible rfl)
      simp only [Act.put, List.setIfInBounds_toArray, List.set_cons_zero, List.set_cons_succ]
      refine takeU (i := 1) (d := 14) (v := ?_) rfl rfl (by kernel_rfl) (by kernel_rfl) (by kernel_rfl) (by kernel_rfl) (by kernel_rfl) (fun _ _ _ h => h) (Or.inl ⟨by rfl, ?_⟩) hHeld ?_
      rotate_left
      · intro wq hSw; (try dsimp only at hSw); go_simp; all_goals (with_reducible rfl)
      simp only [Act.put, List.setIfInBounds_toArray, List.set_cons_zero, List.set_cons_succ]
      refine takeU (i := 2) (d := 15) (v := ?_) rfl rfl (by kernel_rfl) (by kernel_rfl) (by kernel_rfl) (by kernel_rfl) (by kernel_rfl) (fun _ _ _ h => h) (Or.inl ⟨by rfl, ?_⟩) hHeld ?_
      rotate_left
      · intro wq hSw; (try dsimp only at hSw); go_simp; all_goals (with_reducible rfl)
      simp only [Act.put, List.setIfInBounds_toArray, List.set_cons_zero, List.set_cons_succ]
      refine takeU (i := 3) (d := 16) (v := ?_) rfl rfl (by kernel_rfl) (by kernel_rfl) (by kernel_rfl) (by kernel_rfl) (by kernel_rfl) (fun _ _ _ h => h) (Or.inl ⟨by rfl, ?_⟩) hHeld ?_
      rotate_left
      · intro wq hSw; (try dsimp only at hSw); go_simp; all_goals (with_reducible rfl)
      simp only [Act.put, List.setIfInBounds_toArray, List.set_cons_zero, List.set_cons_succ]
      refine takeU (i := 4) (d := 17) (v := ?_) rfl rfl (by kernel_rfl) (by kernel_rfl) (by kernel_rfl) (by kernel_rfl) (by kernel_rfl) (fun _ _ _ h => h) (Or.inl ⟨by rfl, ?_⟩) hHeld ?_
      rotate_left
      · intro wq hSw; (try dsimp only at hSw); go_simp; all_goals (with_reducible rfl)
      simp only [Act.put, List.setIfInBounds_toArray, List.set_cons_zero, List.set_cons_succ]
      refine takeU (i := 5) (d := 18) (v := ?_) rfl rfl (by kernel_rfl) (by kernel_rfl) (by kernel_rfl) (by kernel_rfl) (by kernel_rfl) (fun _ _ _ h => h) (Or.inl ⟨by rfl, ?_⟩) hHeld ?_
      rotate_left
      · intro wq hSw; (try dsimp only at hSw); go_simp; all_goals (with_reducible rfl)
      simp only [Act.put, List.setIfInBounds_toArray, List.set_cons_zero, List.set_cons_succ]
      refine wpAnyU_ready (rs := [6]) (by kernel_rfl) (by simp) ?_
      refine AllReadyU.cons rfl (fun K1 hK => ?_) AllReadyU.nil
      go_simp
      go_at_call 23
      refine (HLn.out _ ((Fr.refl _ _).drew)).mono ?_
      rintro e w9 ⟨rfl, rfl⟩
      go_simp
      refine hK.out _ _ (fun _ => hHeld) (fun _ => ?_)
      clear hK K1
      refine takeU (i := 7) (d := 20) (v := ?_) rfl rfl (by kernel_rfl) (by kernel_rfl) (by kernel_rfl) (by kernel_rfl) (by kernel_rfl) (fun _ _ _ h => h) (Or.inl ⟨by rfl, ?_⟩) hHeld ?_
      rotate_left
      · intro wq hSw; (try dsimp only at hSw); go_simp; all_goals (with_reducible rfl)
      simp only [Act.put, List.setIfInBounds_toArray, List.set_cons_zero, List.set_cons_succ]
      refine wpAnyU_ready (rs := [8]) (by kernel_rfl) (by simp) ?_
      refine AllReadyU.cons rfl (fun K1 hK => ?_) AllReadyU.nil
      go_simp
      refine hK.out _ _ (fun h => absurd rfl h) (fun _ => ?_)
      clear hK K1 hHeld
      refine wpAnyU_done (by kernel_rfl) ?_ _
      have HKI := hid e3.out.symm
      rcases hb : x.bag[x.place n]? with _ | p
      · have hdr := hid (show ∀ wx, Fr [] (w.alloc (fwO 3 n t)) wx → _ from fun wx hF => st_ntake_no ((H2.out.same hF).take 6) 3 rfl (x.place n) (by rw [List.length_map]; exact List.getElem?_eq_none_iff.1 hb))
        rw [HKI.out] at hdr
        have HE := hid (Sm.dlv_none hb)
        clear hb
        go_wp2_with fail
        refine (hdr.out _ ((Fr.refl _ _).drew)).mono ?_
        rintro e w9 ⟨rfl, H9⟩
        have H9 := hid (H9.alloc_ (dgO dg0))
        go_wp2_with fail
        go_end0
        rw [HE.out]
        exact ⟨_, _, rfl, H9.out⟩
      · have hdr := hid (show ∀ wx, Fr [] (w.alloc (fwO 3 n t)) wx → _ from fun wx hF => st_ntake ((H2.out.same hF).take 6) 3 rfl (x.place n) (pkDg p) (by rw [List.getElem?_map, hb]; rfl) (by have := HBL.out; rw [List.length_map]; omega))
        rw [HKI.out] at hdr
        have hok := hid (HX.out.drop (x.place n))
        have hpk := hid (HX.out.bg p (List.mem_of_getElem? hb))
        have HE := hid (Sm.dlv_some hb)
        clear hb
        go_wp2_with fail
        refine (hdr.out _ ((Fr.refl _ _).drew)).mono ?_
        rintro e w9 ⟨rfl, H9⟩
        have H9 := hid ((sm_drop H9).alloc_ (dgO (pkDg p)))
        go_wp2_with fail
        refine (st_comes H9.out hok.out (by have := HBL.out; have h := List.length_eraseIdx_le x.bag (x.place n); exact Nat.le_trans h this) p hpk.out).mono ?_
        rintro e w10 ⟨sv9, rfl, H10⟩
        have H10 := hid H10
        go_wp2_with fail
        go_end0
        rw [HE.out]
        exact ⟨_, _, rfl, H10.out⟩

end

end Go.Proofs.YtkiccbjngokpjaaGreat

/-
  the streams of top: does (a log), whole; round.
-/
namespace Go.Proofs.YtkiccbjngokpjaaGreat
open Go.RowKit
set_option linter.unusedVariables false
set_option linter.unusedSimpArgs false

section
variable {W : Base} {w : World}
set_option maxHeartbeats 6400000 in
set_option maxRecDepth 100000 in
theorem st_does6 {X S P K N : Nat} {x : Sm} {pv sv : Value} (H : St W w (smL X S P K N x pv sv)) (hx : x.ok) (hbl : x.bag.length ≤ 536870912) (n : Int) (t : ByteArray) :
    Calls Tryz.prog 6 #[ptr X, .agg #[.int .i64 6, .int .i64 n, .string t]] w fun e w' => ∃ pv' sv', e = .returned (.tuple #[]) ∧ St W w' (smL X S P K N x pv' sv') := by
  have hbX := H.blk 0 rfl
  have hpl := hid (fun m hm => place_of n m hm)
  have H2 := H.alloc (fwO 6 n t)
  have HLn := hid (show ∀ wx, Fr [] (w.alloc (fwO 6 n t)) wx → Calls Tryz.prog 23 #[ptr N] wx fun e w' => e = .returned (.int .i64 x.bag.length) ∧ wx = w' from fun wx hF => by
    have h := st_nlen (H2.same hF) 3 rfl
    rw [List.length_map] at h
    exact h)
  have HS := hid (show ∀ wx, Fr [] (w.alloc (fwO 6 n t)) wx → wx.cell? ⟨X, 3, none⟩ = some (ptr N) ∧ wx.cell? ⟨w.heap.size, 1, none⟩ = some (.int .i64 n) from fun wx hF => ⟨cell_blk (i := 3) ((H2.same hF).blk 0 rfl) rfl, cell_blk (i := 1) ((H2.same hF).blk 6 rfl) rfl⟩)
  have H2 := hid H2
  have HBL := hid hbl
  have HX := hid hx
  have x0 := cell_blk (i := 0) hbX rfl
  have x1 := cell_blk (i := 1) hbX rfl
  have x3 := cell_blk (i := 3) hbX rfl
  have hg := lt_of_block hbX
  clear H hbX hx hbl
  by_cases he : x.bag.length = 0
  · have hp0 : x.place n = 0 := by unfold Sm.place; rw [if_pos he]
    have b0 : (x.bag.length : Int) = 0 := by omega
    rw [b0] at HLn
    have HP := hid hp0
    clear he hp0 b0
    go_enter Tryz.func6, Tryz.ntmps6
    go_wp2_with fail
    refine (HLn.out _ (Fr.refl _ _)).mono ?_
    rintro e w1 ⟨rfl, rfl⟩
    have HKI := hid (show ((x.place n : Nat) : Int) = 0 from by rw [HP.out]; rfl)
    have H9 := hid ((H2.out.same ((Fr.refl _ _))).take 6)
    go_wp2_with fail
    go_end0
    exact ⟨_, _, rfl, H9.out⟩
  · have b0 : (0 : Int) < x.bag.length := by omega
    have hp0 : x.place n = (n % (x.bag.length : Int)).toNat := by unfold Sm.place; rw [if_neg he]
    obtain ⟨m, hm⟩ : ∃ m : Int, (x.bag.length : Int) = m := ⟨_, rfl⟩
    rw [hm] at HLn b0 hp0
    have hnz : (m == 0) = false := by rw [beq_eq_false_iff_ne]; omega
    have hnz2 : ¬ m = 0 := by omega
    obtain ⟨q1, q2, q3, q4⟩ := hpl.out m (by omega)
    have hmm := hid (show m ≤ 1073741824 from by have := HBL.out; omega)
    rw [← hp0] at q3 q4
    clear hp0 he hm
    by_cases hs : n.tmod m < 0
    · have e4 := hid (q4 hs)
      have hw := hid (show wrap64 (n.tmod m + m) = ((x.place n : Nat) : Int) from by rw [IntWalk.wrap64_in _ (by have := hmm.out; omega)]; exact q4 hs)
      clear q1 q2 q3 q4
      go_enter Tryz.func6, Tryz.ntmps6
      go_wp2_with fail
      refine (HLn.out _ (Fr.refl _ _)).mono ?_
      rintro e w1 ⟨rfl, rfl⟩
      go_wp2_with fail
      refine wp_region_U (S := fun wx : World => wx.cell? ⟨X, 3, none⟩ = some (ptr N) ∧ wx.cell? ⟨w.heap.size, 1, none⟩ = some (.int .i64 n)) 8 (by kernel_rfl) (HS.out _ ((Fr.refl _ _).drew)) (fun hHeld => ?_)
      refine takeU (i := 0) (d := 13) (v := ?_) rfl rfl (by kernel_rfl) (by kernel_rfl) (by kernel_rfl) (by kernel_rfl) (by kernel_rfl) (fun _ _ _ h => h) (Or.inl ⟨by rfl, ?_⟩) hHeld ?_
      rotate_left
      · intro wq hSw; (try dsimp only at hSw); go_simp; all_goals (with_reducible rfl)
      simp only [Act.put, List.setIfInBounds_toArray, List.set_cons_zero, List.set_cons_succ]
      refine takeU (i := 1) (d := 14) (v := ?_) rfl rfl (by kernel_rfl) (by kernel_rfl) (by kernel_rfl) (by kernel_rfl) (by kernel_rfl) (fun _ _ _ h => h) (Or.inl ⟨by rfl, ?_⟩) hHeld ?_
      rotate_left
      · intro wq hSw; (try dsimp only at hSw); go_simp; all_goals (with_reducible rfl)
      simp only [Act.put, List.setIfInBounds_toArray, List.set_cons_zero, List.set_cons_succ]
      refine takeU (i := 2) (d := 15) (v := ?_) rfl rfl (by kernel_rfl) (by kernel_rfl) (by kernel_rfl) (by kernel_rfl) (by kernel_rfl) (fun _ _ _ h => h) (Or.inl ⟨by rfl, ?_⟩) hHeld ?_
      rotate_left
      · intro wq hSw; (try dsimp only at hSw); go_simp; all_goals (with_reducible rfl)
      simp only [Act.put, List.setIfInBounds_toArray, List.set_cons_zero, List.set_cons_succ]
      refine takeU (i := 3) (d := 16) (v := ?_) rfl rfl (by kernel_rfl) (by kernel_rfl) (by kernel_rfl) (by kernel_rfl) (by kernel_rfl) (fun _ _ _ h => h) (Or.inl ⟨by rfl, ?_⟩) hHeld ?_
      rotate_left
      · intro wq hSw; (try dsimp only at hSw); go_simp; all_goals (with_reducible rfl)
      simp only [Act.put, List.setIfInBounds_toArray, List.set_cons_zero, List.set_cons_succ]
      refine takeU (i := 4) (d := 17) (v := ?_) rfl rfl (by kernel_rfl) (by kernel_rfl) (by kernel_rfl) (by kernel_rfl) (by kernel_rfl) (fun _ _ _ h => h) (Or.inl ⟨by rfl, ?_⟩) hHeld ?_
      rotate_left
      · intro wq hSw; (try dsimp only at hSw); go_simp; all_goals (with_reducible rfl)
      simp only [Act.put, List.setIfInBounds_toArray, List.set_cons_zero, List.set_cons_succ]
      refine takeU (i := 5) (d := 18) (v := ?_) rfl rfl (by kernel_rfl) (by kernel_rfl) (by kernel_rfl) (by kernel_rfl) (by kernel_rfl) (fun _ _ _ h => h) (Or.inl ⟨by rfl, ?_⟩) hHeld ?_
      rotate_left
      · intro wq hSw; (try dsimp only at hSw); go_simp; all_goals (with_reducible rfl)
      simp only [Act.put, List.setIfInBounds_toArray, List.set_cons_zero, List.set_cons_succ]
      refine wpAnyU_ready (rs := [6]) (by kernel_rfl) (by simp) ?_
      refine AllReadyU.cons rfl (fun K1 hK => ?_) AllReadyU.nil
      go_simp
      go_at_call 23
      refine (HLn.out _ ((Fr.refl _ _).drew)).mono ?_
      rintro e w9 ⟨rfl, rfl⟩
      go_simp
      refine hK.out _ _ (fun _ => hHeld) (fun _ => ?_)
      clear hK K1
      refine takeU (i := 7) (d := 20) (v := ?_) rfl rfl (by kernel_rfl) (by kernel_rfl) (by kernel_rfl) (by kernel_rfl) (by kernel_rfl) (fun _ _ _ h => h) (Or.inl ⟨by rfl, ?_⟩) hHeld ?_
      rotate_left
      · intro wq hSw; (try dsimp only at hSw); go_simp; all_goals (with_reducible rfl)
      simp only [Act.put, List.setIfInBounds_toArray, List.set_cons_zero, List.set_cons_succ]
      refine wpAnyU_ready (rs := [8]) (by kernel_rfl) (by simp) ?_
      refine AllReadyU.cons rfl (fun K1 hK => ?_) AllReadyU.nil
      go_simp
      refine hK.out _ _ (fun h => absurd rfl h) (fun _ => ?_)
      clear hK K1 hHeld
      refine wpAnyU_done (by kernel_rfl) ?_ _
      go_wp2_with fail
      refine (HLn.out _ ((Fr.refl _ _).drew)).mono ?_
      rintro e w1 ⟨rfl, rfl⟩
      have HKI := hid hw.out.symm
      have H9 := hid ((H2.out.same ((Fr.refl _ _).drew)).take 6)
      go_wp2_with fail
      go_end0
      exact ⟨_, _, rfl, H9.out⟩
    · have e3 := hid (q3 (by omega))
      have hs2 : ¬ n.tmod m < 0 := hs
      clear q1 q2 q3 q4 hs
      go_enter Tryz.func6, Tryz.ntmps6
      go_wp2_with fail
      refine (HLn.out _ (Fr.refl _ _)).mono ?_
      rintro e w1 ⟨rfl, rfl⟩
      go_wp2_with fail
      refine wp_region_U (S := fun wx : World => wx.cell? ⟨X, 3, none⟩ = some (ptr N) ∧ wx.cell? ⟨w.heap.size, 1, none⟩ = some (.int .i64 n)) 8 (by kernel_rfl) (HS.out _ ((Fr.refl _ _).drew)) (fun hHeld => ?_)
      refine takeU (i := 0) (d := 13) (v := ?_) rfl rfl (by kernel_rfl) (by kernel_rfl) (by kernel_rfl) (by kernel_rfl) (by kernel_rfl) (fun _ _ _ h => h) (Or.inl ⟨by rfl, ?_⟩) hHeld ?_
      rotate_left
      · intro wq hSw; (try dsimp only at hSw); go_simp; all_goals (with_reducible rfl)
      simp only [Act.put, List.setIfInBounds_toArray, List.set_cons_zero, List.set_cons_succ]
      refine takeU (i := 1) (d := 14) (v := ?_) rfl rfl (by kernel_rfl) (by kernel_rfl) (by kernel_rfl) (by kernel_rfl) (by kernel_rfl) (fun _ _ _ h => h) (Or.inl ⟨by rfl, ?_⟩) hHeld ?_
      rotate_left
      · intro wq hSw; (try dsimp only at hSw); go_simp; all_goals (with_reducible rfl)
      simp only [Act.put, List.setIfInBounds_toArray, List.set_cons_zero, List.set_cons_succ]
      refine takeU (i := 2) (d := 15) (v := ?_) rfl rfl (by kernel_rfl) (by kernel_rfl) (by kernel_rfl) (by kernel_rfl) (by kernel_rfl) (fun _ _ _ h => h) (Or.inl ⟨by rfl, ?_⟩) hHeld ?_
      rotate_left
      · intro wq hSw; (try dsimp only at hSw); go_simp; all_goals (with_reducible rfl)
      simp only [Act.put, List.setIfInBounds_toArray, List.set_cons_zero, List.set_cons_succ]
      refine takeU (i := 3) (d := 16) (v := ?_) rfl rfl (by kernel_rfl) (by kernel_rfl) (by kernel_rfl) (by kernel_rfl) (by kernel_rfl) (fun _ _ _ h => h) (Or.inl ⟨by rfl, ?_⟩) hHeld ?_
      rotate_left
      · intro wq hSw; (try dsimp only at hSw); go_simp; all_goals (with_reducible rfl)
      simp only [Act.put, List.setIfInBounds_toArray, List.set_cons_zero, List.set_cons_succ]
      refine takeU (i := 4) (d := 17) (v := ?_) rfl rfl (by kernel_rfl) (by kernel_rfl) (by kernel_rfl) (by kernel_rfl) (by kernel_rfl) (fun _ _ _ h => h) (Or.inl ⟨by rfl, ?_⟩) hHeld ?_
      rotate_left
      · intro wq hSw; (try dsimp only at hSw); go_simp; all_goals (with_reducible rfl)
      simp only [Act.put, List.setIfInBounds_toArray, List.set_cons_zero, List.set_cons_succ]
      refine takeU (i := 5) (d := 18) (v := ?_) rfl rfl (by kernel_rfl) (by kernel_rfl) (by kernel_rfl) (by kernel_rfl) (by kernel_rfl) (fun _ _ _ h => h) (Or.inl ⟨by rfl, ?_⟩) hHeld ?_
      rotate_left
      · intro wq hSw; (try dsimp only at hSw); go_simp; all_goals (with_reducible rfl)
      simp only [Act.put, List.setIfInBounds_toArray, List.set_cons_zero, List.set_cons_succ]
      refine wpAnyU_ready (rs := [6]) (by kernel_rfl) (by simp) ?_
      refine AllReadyU.cons rfl (fun K1 hK => ?_) AllReadyU.nil
      go_simp
      go_at_call 23
      refine (HLn.out _ ((Fr.refl _ _).drew)).mono ?_
      rintro e w9 ⟨rfl, rfl⟩
      go_simp
      refine hK.out _ _ (fun _ => hHeld) (fun _ => ?_)
      clear hK K1
      refine takeU (i := 7) (d := 20) (v := ?_) rfl rfl (by kernel_rfl) (by kernel_rfl) (by kernel_rfl) (by kernel_rfl) (by kernel_rfl) (fun _ _ _ h => h) (Or.inl ⟨by rfl, ?_⟩) hHeld ?_
      rotate_left
      · intro wq hSw; (try dsimp only at hSw); go_simp; all_goals (with_reducible rfl)
      simp only [Act.put, List.setIfInBounds_toArray, List.set_cons_zero, List.set_cons_succ]
      refine wpAnyU_ready (rs := [8]) (by kernel_rfl) (by simp) ?_
      refine AllReadyU.cons rfl (fun K1 hK => ?_) AllReadyU.nil
      go_simp
      refine hK.out _ _ (fun h => absurd rfl h) (fun _ => ?_)
      clear hK K1 hHeld
      refine wpAnyU_done (by kernel_rfl) ?_ _
      have HKI := hid e3.out.symm
      have H9 := hid ((H2.out.same ((Fr.refl _ _).drew)).take 6)
      go_wp2_with fail
      go_end0
      exact ⟨_, _, rfl, H9.out⟩
set_option maxHeartbeats 6400000 in
set_option maxRecDepth 100000 in
theorem st_does0 {X S P K N : Nat} {x : Sm} {pv sv : Value} (H : St W w (smL X S P K N x pv sv)) (hx : x.ok) (hbl : x.bag.length ≤ 536870912) (n : Int) (t : ByteArray) (kind : Int) (k1 : (kind == 1) = false) (k2 : (kind == 2) = false) (k3 : (kind == 3) = false) (k4 : (kind == 4) = false) (k5 : (kind == 5) = false) (k6 : (kind == 6) = false) :
    Calls Tryz.prog 6 #[ptr X, .agg #[.int .i64 kind, .int .i64 n, .string t]] w fun e w' => ∃ pv' sv', e = .returned (.tuple #[]) ∧ St W w' (smL X S P K N x pv' sv') := by
  have hbX := H.blk 0 rfl
  have hpl := hid (fun m hm => place_of n m hm)
  have H2 := H.alloc (fwO kind n t)
  have HLn := hid (show ∀ wx, Fr [] (w.alloc (fwO kind n t)) wx → Calls Tryz.prog 23 #[ptr N] wx fun e w' => e = .returned (.int .i64 x.bag.length) ∧ wx = w' from fun wx hF => by
    have h := st_nlen (H2.same hF) 3 rfl
    rw [List.length_map] at h
    exact h)
  have HS := hid (show ∀ wx, Fr [] (w.alloc (fwO kind n t)) wx → wx.cell? ⟨X, 3, none⟩ = some (ptr N) ∧ wx.cell? ⟨w.heap.size, 1, none⟩ = some (.int .i64 n) from fun wx hF => ⟨cell_blk (i := 3) ((H2.same hF).blk 0 rfl) rfl, cell_blk (i := 1) ((H2.same hF).blk 6 rfl) rfl⟩)
  have H2 := hid H2
  have HBL := hid hbl
  have HX := hid hx
  have x0 := cell_blk (i := 0) hbX rfl
  have x1 := cell_blk (i := 1) hbX rfl
  have x3 := cell_blk (i := 3) hbX rfl
  have hg := lt_of_block hbX
  clear H hbX hx hbl
  by_cases he : x.bag.length = 0
  · have hp0 : x.place n = 0 := by unfold Sm.place; rw [if_pos he]
    have b0 : (x.bag.length : Int) = 0 := by omega
    rw [b0] at HLn
    have HP := hid hp0
    clear he hp0 b0
    go_enter Tryz.func6, Tryz.ntmps6
    go_wp2_with fail
    refine (HLn.out _ (Fr.refl _ _)).mono ?_
    rintro e w1 ⟨rfl, rfl⟩
    have HKI := hid (show ((x.place n : Nat) : Int) = 0 from by rw [HP.out]; rfl)
    have H9 := hid ((H2.out.same ((Fr.refl _ _))).take 6)
    go_wp2_with fail
    go_end0
    exact ⟨_, _, rfl, H9.out⟩
  · have b0 : (0 : Int) < x.bag.length := by omega
    have hp0 : x.place n = (n % (x.bag.length : Int)).toNat := by unfold Sm.place; rw [if_neg he]
    obtain ⟨m, hm⟩ : ∃ m : Int, (x.bag.length : Int) = m := ⟨_, rfl⟩
    rw [hm] at HLn b0 hp0
    have hnz : (m == 0) = false := by rw [beq_eq_false_iff_ne]; omega
    have hnz2 : ¬ m = 0 := by omega
    obtain ⟨q1, q2, q3, q4⟩ := hpl.out m (by omega)
    have hmm := hid (show m ≤ 1073741824 from by have := HBL.out; omega)
    rw [← hp0] at q3 q4
    clear hp0 he hm
    by_cases hs : n.tmod m < 0
    · have e4 := hid (q4 hs)
      have hw := hid (show wrap64 (n.tmod m + m) = ((x.place n : Nat) : Int) from by rw [IntWalk.wrap64_in _ (by have := hmm.out; omega)]; exact q4 hs)
      clear q1 q2 q3 q4
      go_enter Tryz.func6, Tryz.ntmps6
      go_wp2_with fail
      refine (HLn.out _ (Fr.refl _ _)).mono ?_
      rintro e w1 ⟨rfl, rfl⟩
      go_wp2_with fail
      refine wp_region_U (S := fun wx : World => wx.cell? ⟨X, 3, none⟩ = some (ptr N) ∧ wx.cell? ⟨w.heap.size, 1, none⟩ = some (.int .i64 n)) 8 (by kernel_rfl) (HS.out _ ((Fr.refl _ _).drew)) (fun hHeld => ?_)
      refine takeU (i := 0) (d := 13) (v := ?_) rfl rfl (by kernel_rfl) (by kernel_rfl) (by kernel_rfl) (by kernel_rfl) (by kernel_rfl) (fun _ _ _ h => h) (Or.inl ⟨by rfl, ?_⟩) hHeld ?_
      rotate_left
      · intro wq hSw; (try dsimp only at hSw); go_simp; all_goals (with_reducible rfl)
      simp only [Act.put, List.setIfInBounds_toArray, List.set_cons_zero, List.set_cons_succ]
      refine takeU (i := 1) (d := 14) (v := ?_) rfl rfl (by kernel_rfl) (by kernel_rfl) (by kernel_rfl) (by kernel_rfl) (by kernel_rfl) (fun _ _ _ h => h) (Or.inl ⟨by rfl, ?_⟩) hHeld ?_
      rotate_left
      · intro wq hSw; (try dsimp only at hSw); go_simp; all_goals (with_reducible rfl)
      simp only [Act.put, List.setIfInBounds_toArray, List.set_cons_zero, List.set_cons_succ]
      refine takeU (i := 2) (d := 15) (v := ?_) rfl rfl (by kernel_rfl) (by kernel_rfl) (by kernel_rfl) (by kernel_rfl) (by kernel_rfl) (fun _ _ _ h => h) (Or.inl ⟨by rfl, ?_⟩) hHeld ?_
      rotate_left
      · intro wq hSw; (try dsimp only at hSw); go_simp; all_goals (with_reducible rfl)
      simp only [Act.put, List.setIfInBounds_toArray, List.set_cons_zero, List.set_cons_succ]
      refine takeU (i := 3) (d := 16) (v := ?_) rfl rfl (by kernel_rfl) (by kernel_rfl) (by kernel_rfl) (by kernel_rfl) (by kernel_rfl) (fun _ _ _ h => h) (Or.inl ⟨by rfl, ?_⟩) hHeld ?_
      rotate_left
      · intro wq hSw; (try dsimp only at hSw); go_simp; all_goals (with_reducible rfl)
      simp only [Act.put, List.setIfInBounds_toArray, List.set_cons_zero, List.set_cons_succ]
      refine takeU (i := 4) (d := 17) (v := ?_) rfl rfl (by kernel_rfl) (by kernel_rfl) (by kernel_rfl) (by kernel_rfl) (by kernel_rfl) (fun _ _ _ h => h) (Or.inl ⟨by rfl, ?_⟩) hHeld ?_
      rotate_left
      · intro wq hSw; (try dsimp only at hSw); go_simp; all_goals (with_reducible rfl)
      simp only [Act.put, List.setIfInBounds_toArray, List.set_cons_zero, List.set_cons_succ]
      refine takeU (i := 5) (d := 18) (v := ?_) rfl rfl (by kernel_rfl) (by kernel_rfl) (by kernel_rfl) (by kernel_rfl) (by kernel_rfl) (fun _ _ _ h => h) (Or.inl ⟨by rfl, ?_⟩) hHeld ?_
      rotate_left
      · intro wq hSw; (try dsimp only at hSw); go_simp; all_goals (with_reducible rfl)
      simp only [Act.put, List.setIfInBounds_toArray, List.set_cons_zero, List.set_cons_succ]
      refine wpAnyU_ready (rs := [6]) (by kernel_rfl) (by simp) ?_
      refine AllReadyU.cons rfl (fun K1 hK => ?_) AllReadyU.nil
      go_simp
      go_at_call 23
      refine (HLn.out _ ((Fr.refl _ _).drew)).mono ?_
      rintro e w9 ⟨rfl, rfl⟩
      go_simp
      refine hK.out _ _ (fun _ => hHeld) (fun _ => ?_)
      clear hK K1
      refine takeU (i := 7) (d := 20) (v := ?_) rfl rfl (by kernel_rfl) (by kernel_rfl) (by kernel_rfl) (by kernel_rfl) (by kernel_rfl) (fun _ _ _ h => h) (Or.inl ⟨by rfl, ?_⟩) hHeld ?_
      rotate_left
      · intro wq hSw; (try dsimp only at hSw); go_simp; all_goals (with_reducible rfl)
      simp only [Act.put, List.setIfInBounds_toArray, List.set_cons_zero, List.set_cons_succ]
      refine wpAnyU_ready (rs := [8]) (by kernel_rfl) (by simp) ?_
      refine AllReadyU.cons rfl (fun K1 hK => ?_) AllReadyU.nil
      go_simp
      refine hK.out _ _ (fun h => absurd rfl h) (fun _ => ?_)
      clear hK K1 hHeld
      refine wpAnyU_done (by kernel_rfl) ?_ _
      go_wp2_with fail
      refine (HLn.out _ ((Fr.refl _ _).drew)).mono ?_
      rintro e w1 ⟨rfl, rfl⟩
      have HKI := hid hw.out.symm
      have H9 := hid ((H2.out.same ((Fr.refl _ _).drew)).take 6)
      go_wp2_with fail
      go_end0
      exact ⟨_, _, rfl, H9.out⟩
    · have e3 := hid (q3 (by omega))
      have hs2 : ¬ n.tmod m < 0 := hs
      clear q1 q2 q3 q4 hs
      go_enter Tryz.func6, Tryz.ntmps6
      go_wp2_with fail
      refine (HLn.out _ (Fr.refl _ _)).mono ?_
      rintro e w1 ⟨rfl, rfl⟩
      go_wp2_with fail
      refine wp_region_U (S := fun wx : World => wx.cell? ⟨X, 3, none⟩ = some (ptr N) ∧ wx.cell? ⟨w.heap.size, 1, none⟩ = some (.int .i64 n)) 8 (by kernel_rfl) (HS.out _ ((Fr.refl _ _).drew)) (fun hHeld => ?_)
      refine takeU (i := 0) (d := 13) (v := ?_) rfl rfl (by kernel_rfl) (by kernel_rfl) (by kernel_rfl) (by kernel_rfl) (by kernel_rfl) (fun _ _ _ h => h) (Or.inl ⟨by rfl, ?_⟩) hHeld ?_
      rotate_left
      · intro wq hSw; (try dsimp only at hSw); go_simp; all_goals (with_reducible rfl)
      simp only [Act.put, List.setIfInBounds_toArray, List.set_cons_zero, List.set_cons_succ]
      refine takeU (i := 1) (d := 14) (v := ?_) rfl rfl (by kernel_rfl) (by kernel_rfl) (by kernel_rfl) (by kernel_rfl) (by kernel_rfl) (fun _ _ _ h => h) (Or.inl ⟨by rfl, ?_⟩) hHeld ?_
      rotate_left
      · intro wq hSw; (try dsimp only at hSw); go_simp; all_goals (with_reducible rfl)
      simp only [Act.put, List.setIfInBounds_toArray, List.set_cons_zero, List.set_cons_succ]
      refine takeU (i := 2) (d := 15) (v := ?_) rfl rfl (by kernel_rfl) (by kernel_rfl) (by kernel_rfl) (by kernel_rfl) (by kernel_rfl) (fun _ _ _ h => h) (Or.inl ⟨by rfl, ?_⟩) hHeld ?_
      rotate_left
      · intro wq hSw; (try dsimp only at hSw); go_simp; all_goals (with_reducible rfl)
      simp only [Act.put, List.setIfInBounds_toArray, List.set_cons_zero, List.set_cons_succ]
      refine takeU (i := 3) (d := 16) (v := ?_) rfl rfl (by kernel_rfl) (by kernel_rfl) (by kernel_rfl) (by kernel_rfl) (by kernel_rfl) (fun _ _ _ h => h) (Or.inl ⟨by rfl, ?_⟩) hHeld ?_
      rotate_left
      · intro wq hSw; (try dsimp only at hSw); go_simp; all_goals (with_reducible rfl)
      simp only [Act.put, List.setIfInBounds_toArray, List.set_cons_zero, List.set_cons_succ]
      refine takeU (i := 4) (d := 17) (v := ?_) rfl rfl (by kernel_rfl) (by kernel_rfl) (by kernel_rfl) (by kernel_rfl) (by kernel_rfl) (fun _ _ _ h => h) (Or.inl ⟨by rfl, ?_⟩) hHeld ?_
      rotate_left
      · intro wq hSw; (try dsimp only at hSw); go_simp; all_goals (with_reducible rfl)
      simp only [Act.put, List.setIfInBounds_toArray, List.set_cons_zero, List.set_cons_succ]
      refine takeU (i := 5) (d := 18) (v := ?_) rfl rfl (by kernel_rfl) (by kernel_rfl) (by kernel_rfl) (by kernel_rfl) (by kernel_rfl) (fun _ _ _ h => h) (Or.inl ⟨by rfl, ?_⟩) hHeld ?_
      rotate_left
      · intro wq hSw; (try dsimp only at hSw); go_simp; all_goals (with_reducible rfl)
      simp only [Act.put, List.setIfInBounds_toArray, List.set_cons_zero, List.set_cons_succ]
      refine wpAnyU_ready (rs := [6]) (by kernel_rfl) (by simp) ?_
      refine AllReadyU.cons rfl (fun K1 hK => ?_) AllReadyU.nil
      go_simp
      go_at_call 23
      refine (HLn.out _ ((Fr.refl _ _).drew)).mono ?_
      rintro e w9 ⟨rfl, rfl⟩
      go_simp
      refine hK.out _ _ (fun _ => hHeld) (fun _ => ?_)
      clear hK K1
      refine takeU (i := 7) (d := 20) (v := ?_) rfl rfl (by kernel_rfl) (by kernel_rfl) (by kernel_rfl) (by kernel_rfl) (by kernel_rfl) (fun _ _ _ h => h) (Or.inl ⟨by rfl, ?_⟩) hHeld ?_
      rotate_left
      · intro wq hSw; (try dsimp only at hSw); go_simp; all_goals (with_reducible rfl)
      simp only [Act.put, List.setIfInBounds_toArray, List.set_cons_zero, List.set_cons_succ]
      refine wpAnyU_ready (rs := [8]) (by kernel_rfl) (by simp) ?_
      refine AllReadyU.cons rfl (fun K1 hK => ?_) AllReadyU.nil
      go_simp
      refine hK.out _ _ (fun h => absurd rfl h) (fun _ => ?_)
      clear hK K1 hHeld
      refine wpAnyU_done (by kernel_rfl) ?_ _
      have HKI := hid e3.out.symm
      have H9 := hid ((H2.out.same ((Fr.refl _ _).drew)).take 6)
      go_wp2_with fail
      go_end0
      exact ⟨_, _, rfl, H9.out⟩

theorem st_does {X S P K N : Nat} {x : Sm} {pv sv : Value} (H : St W w (smL X S P K N x pv sv)) (hx : x.ok) (hbl : x.bag.length ≤ 536870912) (kind n : Int) (t : ByteArray) :
    Calls Tryz.prog 6 #[ptr X, .agg #[.int .i64 kind, .int .i64 n, .string t]] w fun e w' => ∃ pv' sv', e = .returned (.tuple #[]) ∧ St W w' (smL X S P K N (x.does kind n t) pv' sv') := by
  unfold Sm.does
  by_cases h1 : kind = 1
  · rw [if_pos h1]; subst h1; exact st_does1 H hx hbl n t
  · rw [if_neg h1]
    by_cases h2 : kind = 2
    · rw [if_pos h2]; subst h2; exact st_does2 H hx hbl n t
    · rw [if_neg h2]
      by_cases h3 : kind = 3
      · rw [if_pos h3]; subst h3; exact st_does3 H hx hbl n t
      · rw [if_neg h3]
        by_cases h4 : kind = 4
        · rw [if_pos h4]; subst h4; exact st_does4 H hx hbl n t
        · rw [if_neg h4]
          by_cases h5 : kind = 5
          · rw [if_pos h5]; subst h5; exact st_does5 H hx hbl n t
          · rw [if_neg h5]
            by_cases h6 : kind = 6
            · subst h6; exact st_does6 H hx hbl n t
            · exact st_does0 H hx hbl n t kind (by simpa using h1) (by simpa using h2) (by simpa using h3) (by simpa using h4) (by simpa using h5) (by simpa using h6)

/-- What a number of deliveries has under way. -/
theorem Sm.ok.dlvs_len {x : Sm} (h : x.ok) (n : Nat) (hn : n ≤ x.bag.length) : (Sm.dlvs n x).bag.length ≤ x.bag.length ∧ x.bag.length ≤ (Sm.dlvs n x).bag.length + n := by
  refine ⟨?_, ?_⟩
  · have := (h.dlvs_is n hn).2.2.2.2.2.2.2.2.2.2.2
    omega
  · have := (h.dlvs_is n hn).2.2.2.2.2.2.2.1
    clear this
    induction n generalizing x with
    | zero => exact Nat.le_add_right _ _
    | succ n ih =>
      rcases hb : x.bag with _ | ⟨p, r⟩
      · rw [hb] at hn; simp at hn
      have hz : x.dlv 0 = ({ x with bag := r } : Sm).comes p.2 := Sm.dlv_cons hb
      have hl : r.length ≤ (x.dlv 0).bag.length := by
        rw [hz]
        rcases Sm.comes_bag { x with bag := r } p.2 with e | ⟨_, _, e, _⟩ <;> rw [e] <;> simp
      have hr : n ≤ r.length := by rw [hb] at hn; simpa using hn
      have := ih (h.dlv 0) (by omega)
      show (p :: r).length ≤ (Sm.dlvs n (x.dlv 0)).bag.length + (n + 1)
      simp only [List.length_cons]
      omega
theorem Sm.dlvs_succ (n : Nat) (x : Sm) : Sm.dlvs (n + 1) x = (Sm.dlvs n x).dlv 0 := by
  induction n generalizing x with
  | zero => rfl
  | succ n ih => exact ih (x.dlv 0)

set_option maxHeartbeats 6400000 in
set_option maxRecDepth 100000 in
theorem st_round {X S P K N : Nat} {x : Sm} {pv sv : Value} (H : St W w (smL X S P K N x pv sv)) (hx : x.ok) (hbl : x.bag.length ≤ 268435456) :
    Calls Tryz.prog 10 #[ptr X] w fun e w' => ∃ sv', e = .returned (.tuple #[]) ∧ St W w' (smL X S P K N x.round pv sv') := by
  have hbX := H.blk 0 rfl
  have x0 := cell_blk (i := 0) hbX rfl
  have HT := hid (st_stick H 1 rfl (by have := hx.tm; have := hx.r16; omega))
  have hsz := hid (show x.tick.says.bag.length ≤ 268435464 from by
    rw [Sm.says_len]
    have h1 := x.tick.s.items_len
    have h2 : x.tick.s.win ≤ 8 := hx.w8
    have h3 : x.tick.bag.length = x.bag.length := rfl
    omega)
  have HX := hid hx
  have HBL := hid hbl
  clear H hbX hx hbl
  go_enter Tryz.func10, Tryz.ntmps10
  go_wp2_with fail
  refine HT.out.mono ?_
  rintro e w1 ⟨rfl, H1⟩
  have H1 : St W w1 (smL X S P K N x.tick pv sv) := H1
  have HY := hid (st_says H1 HX.out.tick (by have h := HBL.out; show x.bag.length ≤ _; omega))
  clear HT x0 H1
  go_wp2_with fail
  refine HY.out.mono ?_
  rintro e w2 ⟨rfl, H2⟩
  have hok := hid HX.out.tick.says
  have HRd := hid (show x.round = Sm.dlvs x.tick.says.bag.length x.tick.says from rfl)
  have hb2 := H2.blk 0 rfl
  have x3 := cell_blk (i := 3) hb2 rfl
  obtain ⟨y, hy⟩ : ∃ y, x.tick.says = y := ⟨_, rfl⟩
  rw [hy] at H2 hok HRd hsz
  have HLn := st_nlen H2 3 rfl
  rw [List.length_map] at HLn
  have HLn := hid HLn
  have H2 := hid H2
  clear hy HY hb2
  obtain ⟨n, hn⟩ : ∃ n, y.bag.length = n := ⟨_, rfl⟩
  rw [hn] at HLn HRd hsz
  have HN := hid hn
  clear hn
  go_wp2_with fail
  refine HLn.out.mono ?_
  rintro e w3 ⟨rfl, rfl⟩
  clear x3 HLn
  go_wp2_with fail
  go_loopw [3] (fun iv wr => ∃ (q : Nat) (sv' : Value), q ≤ n ∧ iv = .int .i64 q ∧ Hid (St W wr (smL X S P K N (Sm.dlvs q y) pv sv'))) (fun iv _ => n - (intOf iv).toNat)
  case atStart => exact ⟨0, _, Nat.zero_le _, rfl, H2⟩
  case round =>
    obtain ⟨q, sv', hq, rfl, HQ⟩ := hrel
    by_cases hlt : q < n
    · obtain ⟨z, hz⟩ : ∃ z, Sm.dlvs q y = z := ⟨_, rfl⟩
      have hzok : z.ok := by rw [← hz]; exact hok.out.dlvs q
      have hln := hok.out.dlvs_len q (by rw [HN.out]; exact hq)
      rw [hz, HN.out] at hln
      rcases hbz : z.bag with _ | ⟨p, r⟩
      · rw [hbz] at hln; simp at hln; omega
      rw [hz] at HQ
      have hb0 : z.bag[0]? = some p := by rw [hbz]; rfl
      have hnext := hid (show Sm.dlvs (q + 1) y = (z.drop 0).comes p.2 from by rw [Sm.dlvs_succ, hz]; exact Sm.dlv_some hb0)
      have HTk := hid (st_ntake HQ.out 3 rfl 0 (pkDg p) (by rw [List.getElem?_map, hb0]; rfl) (by rw [List.length_map]; have := hsz.out; omega))
      have x3 := cell_blk (i := 3) (HQ.out.blk 0 rfl) rfl
      have hdok := hid (hzok.drop 0)
      have hpk := hid (hzok.bg p (List.mem_of_getElem? hb0))
      have hdl := hid (show (z.drop 0).bag.length ≤ 536870912 from by
        have h := List.length_eraseIdx_le z.bag 0
        have := hsz.out
        show (z.bag.eraseIdx 0).length ≤ _
        omega)
      have HL := hid (And.intro hlt hq)
      have hlt2 : (q : Int) < n := by omega
      have hn9 : (n : Int) ≤ 268435464 := by have := hsz.out; omega
      clear hz hzok hln hbz hb0 hlt hq HQ
      go_wp2_with fail
      refine HTk.out.mono ?_
      rintro e w5 ⟨rfl, H5⟩
      have H5 := hid ((sm_drop H5).alloc_ (dgO (pkDg p)))
      clear x3 HTk
      go_wp2_with fail
      refine (st_comes H5.out hdok.out hdl.out p hpk.out).mono ?_
      rintro e w6 ⟨sv6, rfl, H6⟩
      rw [← hnext.out] at H6
      have H6 := hid H6
      go_wp2_with fail
      have hq1 : (q : Int) + 1 = ((q + 1 : Nat) : Int) := by omega
      refine ⟨⟨q + 1, sv6, by have := HL.out.1; omega, by rw [hq1], H6⟩, ?_⟩
      show n - ((q : Int) + 1).toNat < n - (q : Int).toNat
      have := HL.out.1
      omega
    · obtain rfl : q = n := by omega
      clear hlt hq
      go_wp2_with fail
      go_end0
      rw [HRd.out]
      exact ⟨_, rfl, HQ.out⟩
end

end Go.Proofs.YtkiccbjngokpjaaGreat

/-
  An artefact over a net, plainly: writers one behind the other, a sink, the net between; and that in calm the last one's is there. Of no program.
-/
namespace Go.Proofs.YtkiccbjngokpjaaGreat
set_option linter.unusedVariables false
set_option linter.unusedSimpArgs false

/-- A sink, of one job: the badge, and the pieces. -/
structure Kn where
  held : Option (Nat × List ByteArray)
def Kn.count (k : Kn) (b : Nat) : Nat := match k.held with
  | none => 0
  | some p => if p.1 = b then 1 + p.2.length else 0
def Kn.low (k : Kn) (b : Nat) : Bool := match k.held with
  | none => false
  | some p => decide (b < p.1)
def Kn.add (k : Kn) (b i : Nat) (t : ByteArray) : Kn := if i = 0 then ⟨some (b, [])⟩ else match k.held with
  | none => k
  | some p => ⟨some (b, p.2 ++ [t])⟩
def Kn.takes (k : Kn) (b i : Nat) : Bool := !k.low b && decide (i = k.count b)
def Kn.put (k : Kn) (b i : Nat) (t : ByteArray) : Kn := if k.takes b i then k.add b i t else k

inductive Pz where
  | put (b i : Nat) (t : ByteArray)
  | took (b c : Nat)
  | refused (b : Nat)
def Pz.isBack : Pz → Bool
  | .put _ _ _ => false
  | _ => true

structure Am where
  s : Sn
  k : Kn
  bag : List (Int × Pz)
  sent : Int
  olds : List (List ByteArray)
  nt : List ByteArray
def Am.badge (x : Am) : Nat := x.olds.length + 1
def Am.allOf (x : Am) (b : Nat) : List ByteArray := if b = x.olds.length + 1 then x.s.texts else x.olds.getD (b - 1) []
def Am.next (x : Am) : Nat := x.k.count x.badge
def Sn.claim (win res : Nat) : Sn := (Sn.new win res).put ⟨#[]⟩
def Am.new (win res : Nat) : Am := ⟨.claim win res, ⟨none⟩, [], 0, [], []⟩
def Am.send (x : Am) (p : Pz) : Am := { x with bag := x.bag ++ [(nextN x.sent, p)], sent := nextN x.sent }
def Am.sendAll (x : Am) : List (Nat × ByteArray) → Am
  | [] => x
  | p :: l => (x.send (.put x.badge p.1 p.2)).sendAll l
def Am.says (x : Am) : Am := { x with s := x.s.due }.sendAll x.s.items
def Am.tick (x : Am) : Am := { x with s := x.s.tick }
def Am.comes (x : Am) : Pz → Am
  | .took b c => if b = x.badge then { x with s := x.s.ack c } else x
  | .refused b => x
  | .put b i t => if x.k.low b then x.send (.refused b) else { x with k := x.k.put b i t }.send (.took b ((x.k.put b i t).count b))
theorem Am.comes_took (x : Am) (b c : Nat) : x.comes (.took b c) = if b = x.badge then { x with s := x.s.ack c } else x := rfl
theorem Am.comes_put_ (x : Am) (b i : Nat) (t : ByteArray) : x.comes (.put b i t) = if x.k.low b then x.send (.refused b) else { x with k := x.k.put b i t }.send (.took b ((x.k.put b i t).count b)) := rfl
def Am.drop (x : Am) (k : Nat) : Am := { x with bag := x.bag.eraseIdx k }
def Am.place (x : Am) (n : Int) : Nat := if x.bag.length = 0 then 0 else (n % (x.bag.length : Int)).toNat
def Am.dlv (x : Am) (k : Nat) : Am := match x.bag[k]? with
  | none => x
  | some p => (x.drop k).comes p.2
def Am.canPut (x : Am) (t : ByteArray) : Bool := !(x.s.texts.length == 17) && !(decide (0 < x.s.texts.length) && decide (t = ⟨#[]⟩)) && x.s.canPut t
def Am.begins (x : Am) : Am := { x with s := .claim x.s.win x.s.res, olds := x.olds ++ [x.nt], nt := [] }
def Am.doesT (x : Am) (kind n : Int) (t : ByteArray) : Am :=
  if kind = 1 then (if x.canPut t then { x with s := x.s.put t } else x)
  else if kind = 2 then x.tick.says
  else if kind = 3 then x.dlv (x.place n)
  else if kind = 4 then x.drop (x.place n)
  else if kind = 5 then (match x.bag[x.place n]? with | none => x | some p => x.send p.2)
  else if kind = 6 then x.begins
  else x
/-- What was noted of the last writer is what it has put (or nothing of it was said). -/
def Am.rcOk (x : Am) : Prop := x.nt = x.s.texts ∨ x.s.said = 0
def Am.noted (x : Am) : Am := { x with nt := x.s.texts }
def Am.does (x : Am) (kind n : Int) (t : ByteArray) : Am := (x.doesT kind n t).noted
def Am.dlvs : Nat → Am → Am
  | 0, x => x
  | n + 1, x => Am.dlvs n (x.dlv 0)
def Am.round (x : Am) : Am := Am.dlvs x.tick.says.bag.length x.tick.says
def Am.rounds : Nat → Am → Am
  | 0, x => x
  | n + 1, x => Am.rounds n x.round

/-! ### What always holds -/
def TxOk (l : List ByteArray) : Prop := l.length ≤ 17 ∧ (∀ t ∈ l, t.size ≤ 32) ∧ ∀ t, l[0]? = some t → t = ⟨#[]⟩
structure PzPut (badge said : Nat) (all : Nat → List ByteArray) (b i : Nat) (t : ByteArray) : Prop where
  b1 : 1 ≤ b
  b2 : b ≤ badge
  tx : (all b)[i]? = some t
  sd : b = badge → i < said
def PzOk (badge said next : Nat) (all : Nat → List ByteArray) : Pz → Prop
  | .put b i t => PzPut badge said all b i t
  | .took b c => 1 ≤ b ∧ b ≤ badge ∧ c ≤ 17 ∧ (b = badge → c ≤ next)
  | .refused b => 1 ≤ b ∧ b ≤ badge
structure Am.ok (x : Am) : Prop where
  w1 : 1 ≤ x.s.win
  w8 : x.s.win ≤ 8
  r1 : 1 ≤ x.s.res
  r16 : x.s.res ≤ 16
  d1 : x.s.done ≤ x.next
  d2 : x.next ≤ x.s.said
  d3 : x.s.said ≤ x.s.texts.length
  t0 : x.s.texts[0]? = some ⟨#[]⟩
  tm : x.s.timer ≤ x.s.res
  tx : ∀ b, TxOk (x.allOf b)
  kn : ∀ B ps, x.k.held = some (B, ps) → 1 ≤ B ∧ B ≤ x.badge ∧ (x.allOf B).take (ps.length + 1) = ⟨#[]⟩ :: ps
  bg : ∀ p ∈ x.bag, PzOk x.badge x.s.said x.next x.allOf p.2
  rt : TxOk x.nt

theorem txOk_nil : TxOk [] := ⟨by simp, by simp, by simp⟩
theorem Am.ok.cur {x : Am} (h : x.ok) : TxOk x.s.texts := by
  have := h.tx (x.olds.length + 1)
  unfold Am.allOf at this
  rwa [if_pos rfl] at this
theorem Am.allOf_cur (x : Am) : x.allOf x.badge = x.s.texts := by
  unfold Am.allOf Am.badge
  rw [if_pos rfl]
theorem Am.ok.d4 {x : Am} (h : x.ok) : x.s.texts.length ≤ 17 := h.cur.1
theorem txOk_claim : TxOk [⟨#[]⟩] := ⟨by simp, by intro t ht; simp at ht; subst ht; decide, by intro t ht; simp at ht; exact ht.symm⟩

theorem Am.new_ok {win res : Nat} (h1 : 1 ≤ win) (h2 : win ≤ 8) (h3 : 1 ≤ res) (h4 : res ≤ 16) : (Am.new win res).ok := by
  refine ⟨h1, h2, h3, h4, by simp [Am.new, Am.next, Kn.count, Sn.claim, Sn.new, Sn.put], by simp [Am.new, Am.next, Kn.count], by simp [Am.new, Sn.claim, Sn.new, Sn.put], by simp [Am.new, Sn.claim, Sn.new, Sn.put], by simp [Am.new, Sn.claim, Sn.new, Sn.put], fun b => ?_, by simp [Am.new], by simp [Am.new], txOk_nil⟩
  unfold Am.allOf
  split
  · exact txOk_claim
  · have : (Am.new win res).olds.getD (b - 1) [] = [] := by simp [Am.new]
    rw [this]
    exact txOk_nil

theorem PzOk.mono {bd s n s' n' : Nat} {al al' : Nat → List ByteArray} {p : Pz} (h : PzOk bd s n al p) (h1 : s ≤ s') (h2 : n ≤ n') (h3 : ∀ (b i : Nat) (t : ByteArray), 1 ≤ b → b ≤ bd → (al b)[i]? = some t → (al' b)[i]? = some t) : PzOk bd s' n' al' p := by
  cases p with
  | put b i t => exact ⟨h.b1, h.b2, h3 _ _ _ h.b1 h.b2 h.tx, fun e => Nat.lt_of_lt_of_le (h.sd e) h1⟩
  | took b c => exact ⟨h.1, h.2.1, h.2.2.1, fun e => Nat.le_trans (h.2.2.2 e) h2⟩
  | refused b => exact h

theorem Am.ok.put {x : Am} (h : x.ok) {t : ByteArray} (ht : x.canPut t = true) : Am.ok { x with s := x.s.put t, nt := x.s.texts ++ [t] } := by
  simp only [Am.canPut, Bool.and_eq_true, Bool.not_eq_true', Sn.canPut, decide_eq_true_eq, beq_eq_false_iff_ne, Bool.and_eq_false_iff, decide_eq_false_iff_not] at ht
  obtain ⟨⟨h17, hne⟩, h32, _⟩ := ht
  have hpos : 0 < x.s.texts.length := by
    rcases Nat.eq_zero_or_pos x.s.texts.length with h0 | h0
    · have := h.t0
      rw [List.eq_nil_of_length_eq_zero h0] at this
      cases this
    · exact h0
  have h4 := h.d4
  have hcur : TxOk (x.s.texts ++ [t]) := by
    refine ⟨by simp; omega, fun u hu => ?_, fun u hu => ?_⟩
    · rcases List.mem_append.1 hu with hu | hu
      · exact h.cur.2.1 u hu
      · simp at hu; subst hu; exact h32
    · rw [List.getElem?_append_left hpos] at hu
      exact h.cur.2.2 u hu
  have hal : ∀ b, Am.allOf { x with s := x.s.put t, nt := x.s.texts ++ [t] } b = if b = x.olds.length + 1 then x.s.texts ++ [t] else x.allOf b := fun b => by
    unfold Am.allOf
    split
    · rename_i e; simp only [if_pos e]; rfl
    · rename_i e; simp only [if_neg e]
  have hget : ∀ (b i : Nat) (u : ByteArray), (x.allOf b)[i]? = some u → (Am.allOf { x with s := x.s.put t, nt := x.s.texts ++ [t] } b)[i]? = some u := fun b i u hu => by
    rw [hal]
    split
    · rename_i e
      rw [e] at hu
      have e2 : x.allOf (x.olds.length + 1) = x.s.texts := x.allOf_cur
      rw [e2] at hu
      rw [List.getElem?_append_left (List.getElem?_eq_some_iff.1 hu).1]
      exact hu
    · exact hu
  refine ⟨h.w1, h.w8, h.r1, h.r16, h.d1, h.d2, ?_, ?_, h.tm, fun b => ?_, fun B ps hB => ?_, fun p hp => (h.bg p hp).mono (Nat.le_refl _) (Nat.le_refl _) (fun b i u _ _ hu => hget b i u hu), hcur⟩
  · have := h.d3
    show x.s.said ≤ (x.s.texts ++ [t]).length
    simp; omega
  · show (x.s.texts ++ [t])[0]? = _
    rw [List.getElem?_append_left hpos]
    exact h.t0
  · rw [hal]
    split
    · exact hcur
    · exact h.tx b
  · obtain ⟨k1, k2, k3⟩ := h.kn B ps hB
    refine ⟨k1, k2, ?_⟩
    rw [hal]
    split
    · rename_i e
      rw [e] at k3
      have e2 : x.allOf (x.olds.length + 1) = x.s.texts := x.allOf_cur
      rw [e2] at k3
      have hl : ps.length + 1 ≤ x.s.texts.length := by
        have := congrArg List.length k3
        rw [List.length_take, List.length_cons] at this
        omega
      rw [List.take_append_of_le_length hl]
      exact k3
    · exact k3

theorem Am.ok.tick {x : Am} (h : x.ok) : x.tick.ok :=
  ⟨h.w1, h.w8, h.r1, h.r16, h.d1, h.d2, h.d3, h.t0, Nat.le_trans (Nat.sub_le _ _) h.tm, h.tx, h.kn, h.bg, h.rt⟩
theorem Am.ok.noted {x : Am} (h : x.ok) : x.noted.ok :=
  ⟨h.w1, h.w8, h.r1, h.r16, h.d1, h.d2, h.d3, h.t0, h.tm, h.tx, h.kn, h.bg, h.cur⟩

theorem Am.sendAll_is (x : Am) (l : List (Nat × ByteArray)) : (x.sendAll l).s = x.s ∧ (x.sendAll l).k = x.k ∧ (x.sendAll l).olds = x.olds ∧ (x.sendAll l).nt = x.nt ∧ (∀ p ∈ x.bag, p ∈ (x.sendAll l).bag) ∧ (∀ p ∈ (x.sendAll l).bag, p ∈ x.bag ∨ ∃ q ∈ l, p.2 = .put x.badge q.1 q.2) ∧ (∀ q ∈ l, ∃ n, (n, Pz.put x.badge q.1 q.2) ∈ (x.sendAll l).bag) ∧ (x.sendAll l).bag.length = x.bag.length + l.length := by
  induction l generalizing x with
  | nil => exact ⟨rfl, rfl, rfl, rfl, fun p h => h, fun p h => .inl h, fun q h => (by cases h), rfl⟩
  | cons q l ih =>
    obtain ⟨h1, h2, h3, h3', h4, h5, h6, h7⟩ := ih (x.send (.put x.badge q.1 q.2))
    have hbd : (x.send (.put x.badge q.1 q.2)).badge = x.badge := rfl
    rw [hbd] at h5 h6
    refine ⟨h1, h2, h3, h3', fun p hp => h4 p (by simp [Am.send, hp]), fun p hp => ?_, fun r hr => ?_, ?_⟩
    · rcases h5 p hp with h | ⟨r, hr, he⟩
      · simp only [Am.send, List.mem_append, List.mem_singleton] at h
        rcases h with h | rfl
        · exact .inl h
        · exact .inr ⟨q, by simp, rfl⟩
      · exact .inr ⟨r, by simp [hr], he⟩
    · rcases List.mem_cons.1 hr with rfl | hr
      · exact ⟨_, h4 _ (by simp [Am.send]; exact .inr rfl)⟩
      · exact h6 r hr
    · show ((x.send (.put x.badge q.1 q.2)).sendAll l).bag.length = _
      rw [h7]
      simp [Am.send]
      omega
theorem Am.says_s (x : Am) : x.says.s = x.s.due := (Am.sendAll_is _ _).1
theorem Am.says_k (x : Am) : x.says.k = x.k := (Am.sendAll_is _ _).2.1
theorem Am.says_olds (x : Am) : x.says.olds = x.olds := (Am.sendAll_is _ _).2.2.1
theorem Am.says_nt (x : Am) : x.says.nt = x.nt := (Am.sendAll_is _ _).2.2.2.1
theorem Am.says_len (x : Am) : x.says.bag.length = x.bag.length + x.s.items.length := (Am.sendAll_is _ _).2.2.2.2.2.2.2
theorem Am.says_badge (x : Am) : x.says.badge = x.badge := by unfold Am.badge; rw [Am.says_olds]
theorem Am.says_allOf (x : Am) : x.says.allOf = x.allOf := by
  funext b
  unfold Am.allOf
  rw [Am.says_olds, Am.says_s, (Sn.due_texts x.s).1]
theorem Am.says_next (x : Am) : x.says.next = x.next := by unfold Am.next; rw [Am.says_k, Am.says_badge]

theorem Am.ok.says {x : Am} (h : x.ok) : x.says.ok := by
  obtain ⟨t1, t2, t3, t4⟩ := Sn.due_texts x.s
  obtain ⟨s1, s2, s3⟩ := Sn.due_said h.d3
  obtain ⟨_, _, _, _, _, h5, _, _⟩ := Am.sendAll_is { x with s := x.s.due } x.s.items
  refine ⟨?_, ?_, ?_, ?_, ?_, ?_, ?_, ?_, ?_, ?_, ?_, ?_, ?_⟩ <;> simp only [Am.says_s, Am.says_k, Am.says_nt, Am.says_badge, Am.says_allOf, Am.says_next, t1, t2, t3, t4]
  · exact h.w1
  · exact h.w8
  · exact h.r1
  · exact h.r16
  · exact h.d1
  · exact Nat.le_trans h.d2 s1
  · exact s2
  · exact h.t0
  · exact Sn.due_timer h.tm
  · exact h.tx
  · exact h.kn
  · intro p hp
    rcases h5 p hp with hp | ⟨q, hq, he⟩
    · exact (h.bg p hp).mono s1 (Nat.le_refl _) (fun _ _ _ _ _ h => h)
    · rw [he]
      obtain ⟨k1, k2⟩ := s3 q hq
      refine ⟨by show 1 ≤ x.olds.length + 1; omega, Nat.le_refl _, ?_, fun _ => k1⟩
      show (x.allOf x.badge)[q.1]? = some q.2
      rw [Am.allOf_cur]
      exact k2
  · exact h.rt

theorem Am.ok.bagTo {x : Am} (h : x.ok) (l : List (Int × Pz)) (hl : ∀ p ∈ l, p ∈ x.bag) : Am.ok { x with bag := l } :=
  ⟨h.w1, h.w8, h.r1, h.r16, h.d1, h.d2, h.d3, h.t0, h.tm, h.tx, h.kn, fun p hp => h.bg p (hl p hp), h.rt⟩
theorem Am.ok.drop {x : Am} (h : x.ok) (k : Nat) : (x.drop k).ok := h.bagTo _ (fun p hp => List.mem_of_mem_eraseIdx hp)
theorem Am.ok.send {x : Am} (h : x.ok) {p : Pz} (hp : PzOk x.badge x.s.said x.next x.allOf p) : (x.send p).ok :=
  ⟨h.w1, h.w8, h.r1, h.r16, h.d1, h.d2, h.d3, h.t0, h.tm, h.tx, h.kn, fun q hq => by
    simp only [Am.send, List.mem_append, List.mem_singleton] at hq
    rcases hq with hq | rfl
    · exact h.bg q hq
    · exact hp, h.rt⟩

/-- What the sink has of a piece that came. -/
theorem Am.ok.kput {x : Am} (h : x.ok) {b i : Nat} {t : ByteArray} (hp : PzPut x.badge x.s.said x.allOf b i t) (hlow : x.k.low b = false) :
    (∀ B ps, (x.k.put b i t).held = some (B, ps) → 1 ≤ B ∧ B ≤ x.badge ∧ (x.allOf B).take (ps.length + 1) = ⟨#[]⟩ :: ps) ∧ x.next ≤ (x.k.put b i t).count x.badge ∧ (x.k.put b i t).count x.badge ≤ x.s.said ∧ (x.k.put b i t).count b ≤ 17 ∧ (i ≤ x.k.count b → i + 1 ≤ (x.k.put b i t).count b) := by
  obtain ⟨hb1, hb2, htx, hsd⟩ := hp
  have hT := h.tx b
  have hil := (List.getElem?_eq_some_iff.1 htx).1
  have hd2 := h.d2
  have hcnt : ∀ B ps, x.k.held = some (B, ps) → ps.length + 1 ≤ (x.allOf B).length := fun B ps e => by
    have := congrArg List.length (h.kn B ps e).2.2
    rw [List.length_take, List.length_cons] at this
    omega
  have hc17 : x.k.count b ≤ 17 := by
    unfold Kn.count
    rcases hk : x.k.held with _ | ⟨B, ps⟩
    · exact Nat.zero_le _
    · simp only
      split
      · have := hcnt B ps hk
        have := (h.tx B).1
        omega
      · exact Nat.zero_le _
  unfold Kn.put
  by_cases hq : x.k.takes b i = true
  · rw [if_pos hq]
    simp only [Kn.takes, hlow, Bool.not_false, Bool.true_and, decide_eq_true_eq] at hq
    unfold Kn.add
    by_cases hi : i = 0
    · rw [if_pos hi]
      subst hi
      have ht0 : t = ⟨#[]⟩ := hT.2.2 t htx
      have h0 : (Kn.mk (some (b, []))).count b = 1 := by simp [Kn.count]
      refine ⟨fun B ps e => ?_, ?_, ?_, by omega, fun _ => by omega⟩
      · simp only [Option.some.injEq, Prod.mk.injEq] at e
        obtain ⟨rfl, rfl⟩ := e
        refine ⟨hb1, hb2, ?_⟩
        rw [List.length_nil, Nat.zero_add, List.take_one, List.head?_eq_getElem?, htx, ht0]
        rfl
      · by_cases e : b = x.badge
        · rw [← e, h0]
          unfold Am.next
          rw [← e, ← hq]
          exact Nat.zero_le _
        · have : x.next = 0 := by
            unfold Am.next Kn.count
            rcases hk : x.k.held with _ | ⟨B, ps⟩
            · rfl
            · simp only
              split
              · rename_i e2
                simp only [Kn.low, hk, decide_eq_false_iff_not] at hlow
                omega
              · rfl
          rw [this]
          exact Nat.zero_le _
      · by_cases e : b = x.badge
        · rw [← e, h0]
          have := hsd e
          omega
        · have : (Kn.mk (some (b, []))).count x.badge = 0 := by simp [Kn.count, e]
          rw [this]
          exact Nat.zero_le _
    · rw [if_neg hi]
      rcases hk : x.k.held with _ | ⟨B, ps⟩
      · exfalso
        simp only [Kn.count, hk] at hq
        exact hi hq
      · simp only [Kn.count, hk] at hq
        have hB : B = b := by
          by_cases e : B = b
          · exact e
          · rw [if_neg e] at hq; exact absurd hq hi
        subst hB
        rw [if_pos rfl] at hq
        simp only
        have hlen : (Kn.mk (some (B, ps ++ [t]))).count B = 1 + (ps.length + 1) := by simp [Kn.count]
        refine ⟨fun B' ps' e => ?_, ?_, ?_, ?_, fun _ => by omega⟩
        · simp only [Option.some.injEq, Prod.mk.injEq] at e
          obtain ⟨rfl, rfl⟩ := e
          refine ⟨hb1, hb2, ?_⟩
          have k3 := (h.kn B ps hk).2.2
          have e2 : i = ps.length + 1 := by omega
          rw [List.length_append, List.length_singleton, List.take_add_one, k3, ← e2, htx]
          rfl
        · by_cases e : B = x.badge
          · rw [← e, hlen]
            unfold Am.next Kn.count
            rw [hk]
            simp only [e, if_true]
            omega
          · have : x.next = 0 := by
              unfold Am.next Kn.count
              rw [hk]
              simp only [e, if_false]
            rw [this]
            exact Nat.zero_le _
        · by_cases e : B = x.badge
          · rw [← e, hlen]
            have := hsd e
            omega
          · have : (Kn.mk (some (B, ps ++ [t]))).count x.badge = 0 := by simp [Kn.count, e]
            rw [this]
            exact Nat.zero_le _
        · rw [hlen]
          have := hT.1
          omega
  · rw [if_neg hq]
    refine ⟨h.kn, Nat.le_refl _, hd2, hc17, fun hle => ?_⟩
    simp only [Kn.takes, hlow, Bool.not_false, Bool.true_and, decide_eq_true_eq] at hq
    omega

theorem Am.ok.comes {x : Am} (h : x.ok) {p : Pz} (hp : PzOk x.badge x.s.said x.next x.allOf p) : (x.comes p).ok := by
  cases p with
  | refused b => exact h
  | took b c =>
    show Am.ok (if b = x.badge then { x with s := x.s.ack c } else x)
    by_cases hb : b = x.badge
    · rw [if_pos hb]
      have hc : c ≤ x.next := hp.2.2.2 hb
      unfold Sn.ack
      by_cases ha : x.s.ackOk c
      · rw [if_pos ha]
        refine ⟨h.w1, h.w8, h.r1, h.r16, hc, h.d2, h.d3, h.t0, ?_, h.tx, h.kn, h.bg, h.rt⟩
        show (if c = x.s.texts.length then 0 else x.s.timer) ≤ x.s.res
        split
        · omega
        · exact h.tm
      · rw [if_neg ha]
        exact h
    · rw [if_neg hb]
      exact h
  | put b i t =>
    have hq : PzPut x.badge x.s.said x.allOf b i t := hp
    rw [Am.comes_put_]
    by_cases hl : x.k.low b = true
    · rw [if_pos hl]
      exact h.send ⟨hq.b1, hq.b2⟩
    · rw [if_neg hl]
      have hl' : x.k.low b = false := by simpa using hl
      obtain ⟨k1, k2, k3, k4, k5⟩ := h.kput hq hl'
      have h1 : Am.ok { x with k := x.k.put b i t } :=
        ⟨h.w1, h.w8, h.r1, h.r16, Nat.le_trans h.d1 k2, k3, h.d3, h.t0, h.tm, h.tx, k1, fun p hp => (h.bg p hp).mono (Nat.le_refl _) k2 (fun _ _ _ _ _ h => h), h.rt⟩
      exact h1.send ⟨hq.b1, hq.b2, k4, fun e => by (have e2 : b = x.badge := e); rw [e2]; exact Nat.le_refl _⟩

theorem Am.ok.dlv {x : Am} (h : x.ok) (k : Nat) : (x.dlv k).ok := by
  unfold Am.dlv
  rcases hb : x.bag[k]? with _ | p
  · exact h
  · exact (h.drop k).comes (h.bg p (List.mem_of_getElem? hb))
theorem Am.ok.put' {x : Am} (h : x.ok) {t : ByteArray} (ht : x.canPut t = true) : Am.ok { x with s := x.s.put t } := by
  have h1 := h.put ht
  exact ⟨h1.w1, h1.w8, h1.r1, h1.r16, h1.d1, h1.d2, h1.d3, h1.t0, h1.tm, h1.tx, h1.kn, h1.bg, h.rt⟩
theorem Am.ok.begins {x : Am} (h : x.ok) (hr : x.rcOk) : x.begins.ok := by
  have hbd : x.begins.badge = x.badge + 1 := by simp [Am.badge, Am.begins]
  have hal : ∀ b, 1 ≤ b → b ≤ x.badge → (b = x.badge → x.s.said ≠ 0) → x.begins.allOf b = x.allOf b := fun b h1 h2 h3 => by
    unfold Am.allOf
    have e1 : ¬ b = x.begins.olds.length + 1 := by
      have : x.begins.olds.length = x.olds.length + 1 := by simp [Am.begins]
      unfold Am.badge at h2
      omega
    rw [if_neg e1]
    show (x.olds ++ [x.nt]).getD (b - 1) [] = _
    rw [List.getD_eq_getElem?_getD]
    by_cases e2 : b = x.olds.length + 1
    · rw [if_pos e2, e2, Nat.add_sub_cancel, List.getElem?_append_right (Nat.le_refl _), Nat.sub_self]
      have := h3 e2
      exact hr.resolve_right this
    · rw [if_neg e2, List.getElem?_append_left (by unfold Am.badge at h2; omega), ← List.getD_eq_getElem?_getD]
  have hnx : x.begins.next = 0 := by
    unfold Am.next Kn.count
    show (match x.k.held with | none => 0 | some p => if p.1 = x.begins.badge then 1 + p.2.length else 0) = 0
    rcases hk : x.k.held with _ | ⟨B, ps⟩
    · rfl
    · have := (h.kn B ps hk).2.1
      simp only
      rw [if_neg (by omega)]
  have hsaid : ∀ B ps, x.k.held = some (B, ps) → B = x.badge → x.s.said ≠ 0 := fun B ps hk e => by
    have h2 := h.d2
    unfold Am.next Kn.count at h2
    rw [hk] at h2
    simp only [if_pos e] at h2
    omega
  refine ⟨h.w1, h.w8, h.r1, h.r16, by rw [hnx]; exact Nat.le_refl _, by rw [hnx]; exact Nat.zero_le _, Nat.zero_le _, by simp [Am.begins, Sn.claim, Sn.put, Sn.new], Nat.zero_le _, fun b => ?_, fun B ps hk => ?_, fun p hp => ?_, txOk_nil⟩
  · unfold Am.allOf
    split
    · exact txOk_claim
    · show TxOk ((x.olds ++ [x.nt]).getD (b - 1) [])
      rw [List.getD_eq_getElem?_getD]
      rcases Nat.lt_or_ge (b - 1) x.olds.length with h1 | h1
      · rw [List.getElem?_append_left h1, ← List.getD_eq_getElem?_getD]
        have := h.tx (b - 1 + 1)
        unfold Am.allOf at this
        rw [if_neg (by omega), Nat.add_sub_cancel] at this
        exact this
      · rw [List.getElem?_append_right h1]
        rcases h2 : b - 1 - x.olds.length with _ | m
        · exact h.rt
        · exact txOk_nil
  · obtain ⟨k1, k2, k3⟩ := h.kn B ps hk
    refine ⟨k1, by rw [hbd]; omega, ?_⟩
    rw [hal B k1 k2 (hsaid B ps hk)]
    exact k3
  · rw [hbd, hnx]
    have hp2 := h.bg p hp
    cases hq : p.2 with
    | put b i t =>
      rw [hq] at hp2
      refine ⟨hp2.b1, by have := hp2.b2; omega, ?_, fun e => by have := hp2.b2; omega⟩
      rw [hal b hp2.b1 hp2.b2 (fun e => by have := hp2.sd e; omega)]
      exact hp2.tx
    | took b c =>
      rw [hq] at hp2
      exact ⟨hp2.1, by have := hp2.2.1; omega, hp2.2.2.1, fun e => by have := hp2.2.1; omega⟩
    | refused b =>
      rw [hq] at hp2
      exact ⟨hp2.1, by have := hp2.2; omega⟩
theorem Am.ok.doesT {x : Am} (h : x.ok) (hr : x.rcOk) (kind n : Int) (t : ByteArray) : (x.doesT kind n t).ok := by
  unfold Am.doesT
  split
  · split
    · rename_i h1; exact h.put' h1
    · exact h
  · split
    · exact h.tick.says
    · split
      · exact h.dlv _
      · split
        · exact h.drop _
        · split
          · rcases hb : x.bag[x.place n]? with _ | p
            · exact h
            · exact h.send (h.bg p (List.mem_of_getElem? hb))
          · split
            · exact h.begins hr
            · exact h
theorem Am.ok.does {x : Am} (h : x.ok) (hr : x.rcOk) (kind n : Int) (t : ByteArray) : (x.does kind n t).ok := (h.doesT hr kind n t).noted
theorem Am.does_rc (x : Am) (kind n : Int) (t : ByteArray) : (x.does kind n t).rcOk := .inl rfl
theorem Am.ok.dlvs {x : Am} (h : x.ok) (n : Nat) : (Am.dlvs n x).ok := by
  induction n generalizing x with
  | zero => exact h
  | succ n ih => exact ih (h.dlv 0)
theorem Am.ok.round {x : Am} (h : x.ok) : x.round.ok := h.tick.says.dlvs _

/-! ### In calm -/
/-- What a delivery leaves. -/
theorem Am.comes_is (x : Am) (p : Pz) : (x.comes p).s.texts = x.s.texts ∧ (x.comes p).s.win = x.s.win ∧ (x.comes p).s.res = x.s.res ∧ (x.comes p).s.said = x.s.said ∧ x.s.done ≤ (x.comes p).s.done ∧ ((x.comes p).s.timer = x.s.timer ∨ x.s.done < (x.comes p).s.done) ∧ (x.comes p).olds = x.olds := by
  cases p with
  | took b c =>
    rw [Am.comes_took]
    by_cases hb : b = x.badge
    · rw [if_pos hb]
      obtain ⟨a1, a2, a3, a4, a5, a6⟩ := Sn.ack_is x.s c
      exact ⟨a1, a2, a3, a4, a5, a6, rfl⟩
    · rw [if_neg hb]
      exact ⟨rfl, rfl, rfl, rfl, Nat.le_refl _, .inl rfl, rfl⟩
  | refused b => exact ⟨rfl, rfl, rfl, rfl, Nat.le_refl _, .inl rfl, rfl⟩
  | put b i t =>
    rw [Am.comes_put_]
    split
    · exact ⟨rfl, rfl, rfl, rfl, Nat.le_refl _, .inl rfl, rfl⟩
    · exact ⟨rfl, rfl, rfl, rfl, Nat.le_refl _, .inl rfl, rfl⟩
theorem Am.comes_badge (x : Am) (p : Pz) : (x.comes p).badge = x.badge := by unfold Am.badge; rw [(Am.comes_is x p).2.2.2.2.2.2]
theorem Am.comes_bag (x : Am) (p : Pz) : (x.comes p).bag = x.bag ∨ ∃ n q, (x.comes p).bag = x.bag ++ [(n, q)] ∧ q.isBack = true := by
  cases p with
  | took b c =>
    rw [Am.comes_took]
    by_cases hb : b = x.badge
    · rw [if_pos hb]; exact .inl rfl
    · rw [if_neg hb]; exact .inl rfl
  | refused b => exact .inl rfl
  | put b i t =>
    rw [Am.comes_put_]
    split
    · exact .inr ⟨_, _, rfl, rfl⟩
    · exact .inr ⟨_, _, rfl, rfl⟩
theorem Am.ok.comes_next {x : Am} (h : x.ok) {p : Pz} (hp : PzOk x.badge x.s.said x.next x.allOf p) : x.next ≤ (x.comes p).next := by
  unfold Am.next
  rw [Am.comes_badge]
  cases p with
  | took b c =>
    rw [Am.comes_took]
    by_cases hb : b = x.badge
    · rw [if_pos hb]; exact Nat.le_refl _
    · rw [if_neg hb]; exact Nat.le_refl _
  | refused b => exact Nat.le_refl _
  | put b i t =>
    rw [Am.comes_put_]
    rcases hl : x.k.low b with _ | _
    · rw [if_neg (by simp)]
      exact (h.kput hp hl).2.1
    · rw [if_pos rfl]
      exact Nat.le_refl _
/-- A piece of the last writer's, that comes in order. -/
theorem Am.ok.comes_put {x : Am} (h : x.ok) {i : Nat} {t : ByteArray} (hp : PzOk x.badge x.s.said x.next x.allOf (.put x.badge i t)) (hi : i ≤ x.next) : ∃ n c, (x.comes (.put x.badge i t)).bag = x.bag ++ [(n, Pz.took x.badge c)] ∧ i + 1 ≤ c ∧ c ≤ (x.comes (.put x.badge i t)).next := by
  have hl : x.k.low x.badge = false := by
    unfold Kn.low
    rcases hk : x.k.held with _ | ⟨B, ps⟩
    · rfl
    · have := (h.kn B ps hk).2.1
      simp only [decide_eq_false_iff_not]
      omega
  obtain ⟨k1, k2, k3, k4, k5⟩ := h.kput hp hl
  have hc := k5 hi
  have e : x.comes (.put x.badge i t) = { x with k := x.k.put x.badge i t }.send (.took x.badge ((x.k.put x.badge i t).count x.badge)) := by
    rw [Am.comes_put_, hl]
    rfl
  rw [e]
  exact ⟨_, _, rfl, hc, Nat.le_refl _⟩

theorem Am.dlv_cons {x : Am} {p : Int × Pz} {r : List (Int × Pz)} (hb : x.bag = p :: r) : x.dlv 0 = ({ x with bag := r } : Am).comes p.2 := by
  unfold Am.dlv Am.drop
  rw [hb]
  rfl

/-- What n deliveries leave. -/
theorem Am.ok.dlvs_is {x : Am} (h : x.ok) (n : Nat) (hn : n ≤ x.bag.length) :
    let y := Am.dlvs n x
    y.s.texts = x.s.texts ∧ y.s.win = x.s.win ∧ y.s.res = x.s.res ∧ y.s.said = x.s.said ∧ x.s.done ≤ y.s.done ∧ (y.s.timer = x.s.timer ∨ x.s.done < y.s.done) ∧ x.next ≤ y.next ∧
    (∀ p ∈ x.bag.drop n, p ∈ y.bag) ∧ (∀ c k, (k, Pz.took x.badge c) ∈ x.bag.take n → c ≤ y.s.done) ∧ (∀ i t k, (k, Pz.put x.badge i t) ∈ x.bag.take n → i ≤ x.next → ∃ k' c, (k', Pz.took x.badge c) ∈ y.bag ∧ i + 1 ≤ c) ∧
    (∀ p ∈ y.bag, p ∈ x.bag.drop n ∨ p.2.isBack = true) ∧ y.bag.length + (x.bag.take n).countP (fun p => p.2.isBack) ≤ x.bag.length ∧ y.olds = x.olds := by
  induction n generalizing x with
  | zero => exact ⟨rfl, rfl, rfl, rfl, Nat.le_refl _, .inl rfl, Nat.le_refl _, fun p hp => (by simpa [Am.dlvs] using hp), fun c k hk => (by simp at hk), fun i t k hk => (by simp at hk), fun p hp => .inl (by simpa [Am.dlvs] using hp), by simp [Am.dlvs], rfl⟩
  | succ n ih =>
    rcases hb : x.bag with _ | ⟨p, r⟩
    · rw [hb] at hn; simp at hn
    have hz : x.dlv 0 = ({ x with bag := r } : Am).comes p.2 := Am.dlv_cons hb
    have hr : Am.ok { x with bag := r } := h.bagTo r (fun q hq => by rw [hb]; simp [hq])
    have hp : PzOk x.badge x.s.said x.next x.allOf p.2 := h.bg p (by rw [hb]; simp)
    obtain ⟨a1, a2, a3, a4, a5, a6, a8⟩ := Am.comes_is { x with bag := r } p.2
    have a7 := hr.comes_next (p := p.2) hp
    have hbag := Am.comes_bag { x with bag := r } p.2
    have hok := h.dlv 0
    rw [hz] at hok
    have hlen : n ≤ r.length := by rw [hb] at hn; simpa using hn
    have hlen2 : n ≤ (({ x with bag := r } : Am).comes p.2).bag.length := by
      rcases hbag with e | ⟨_, _, e, _⟩ <;> rw [e]
      · exact hlen
      · simp; omega
    have hbd : (({ x with bag := r } : Am).comes p.2).badge = x.badge := Am.comes_badge _ _
    obtain ⟨b1, b2, b3, b4, b5, b6, b7, b8, b9, b10, b11, b12, b13⟩ := ih hok hlen2
    rw [hbd] at b9 b10
    have htake : (({ x with bag := r } : Am).comes p.2).bag.take n = r.take n := by
      rcases hbag with e | ⟨_, _, e, _⟩ <;> rw [e]
      exact List.take_append_of_le_length hlen
    have hdrop : ∀ q ∈ r.drop n, q ∈ (({ x with bag := r } : Am).comes p.2).bag.drop n := fun q hq => by
      rcases hbag with e | ⟨_, _, e, _⟩ <;> rw [e]
      · exact hq
      · rw [List.drop_append_of_le_length hlen]; simp [hq]
    have hdef : Am.dlvs (n + 1) x = Am.dlvs n (({ x with bag := r } : Am).comes p.2) := by rw [← hz]; rfl
    rw [hdef]
    simp only [List.drop_succ_cons, List.take_succ_cons]
    refine ⟨b1.trans a1, b2.trans a2, b3.trans a3, b4.trans a4, Nat.le_trans a5 b5, ?_, Nat.le_trans a7 b7, fun q hq => b8 q (hdrop q hq), fun c k hk => ?_, fun i t k hk hi => ?_, fun q hq => ?_, ?_, b13.trans a8⟩
    · rcases b6 with e | e
      · rcases a6 with e2 | e2
        · exact .inl (e.trans e2)
        · exact .inr (Nat.lt_of_lt_of_le e2 b5)
      · exact .inr (Nat.lt_of_le_of_lt a5 e)
    · rcases List.mem_cons.1 hk with e | hk
      · subst e
        have hc : c ≤ x.next := hp.2.2.2 rfl
        have h1 := h.d2
        refine Nat.le_trans ?_ b5
        have e2 : (({ x with bag := r } : Am).comes (.took x.badge c)).s = x.s.ack c := by
          rw [Am.comes_took]
          exact (congrArg Am.s (if_pos (show x.badge = ({ x with bag := r } : Am).badge from rfl)))
        rw [e2]
        unfold Sn.ack
        by_cases ha : x.s.ackOk c
        · rw [if_pos ha]; exact Nat.le_refl _
        · rw [if_neg ha]
          simp only [Sn.ackOk, Bool.and_eq_true, decide_eq_true_eq] at ha
          omega
      · exact b9 c k (by rw [htake]; exact hk)
    · rcases List.mem_cons.1 hk with e | hk
      · subst e
        obtain ⟨m, c, e, hc, _⟩ := hr.comes_put (i := i) (t := t) hp hi
        refine ⟨m, c, b8 _ ?_, hc⟩
        show (m, Pz.took x.badge c) ∈ List.drop n (({ x with bag := r } : Am).comes (.put x.badge i t)).bag
        have e' : (({ x with bag := r } : Am).comes (.put x.badge i t)).bag = r ++ [(m, Pz.took x.badge c)] := e
        rw [e', List.drop_append_of_le_length hlen]; simp
      · exact b10 i t k (by rw [htake]; exact hk) (Nat.le_trans hi a7)
    · rcases b11 q hq with hq | hq
      · rcases hbag with e | ⟨m, c, e, hc⟩ <;> rw [e] at hq
        · exact .inl hq
        · rw [List.drop_append_of_le_length hlen] at hq
          rcases List.mem_append.1 hq with hq | hq
          · exact .inl hq
          · simp at hq; subst hq; exact .inr hc
      · exact .inr hq
    · rw [htake] at b12
      rw [List.countP_cons, List.length_cons]
      have key : (({ x with bag := r } : Am).comes p.2).bag.length + (if p.2.isBack = true then 1 else 0) ≤ r.length + 1 := by
        cases p.2 with
        | took b c =>
          rw [Am.comes_took]
          split
          · exact Nat.le_refl _
          · exact Nat.le_refl _
        | refused b => exact Nat.le_refl _
        | put b i t =>
          have e1 : (Pz.put b i t).isBack = false := rfl
          rw [e1]
          rcases Am.comes_bag { x with bag := r } (.put b i t) with e | ⟨_, _, e, _⟩ <;> rw [e] <;> simp
      omega

/-- What a round leaves. -/
theorem Am.ok.round_is {x : Am} (h : x.ok) :
    let y := x.round
    y.s.texts = x.s.texts ∧ y.s.win = x.s.win ∧ y.s.res = x.s.res ∧ x.s.done ≤ y.s.done ∧ (x.s.done < x.s.texts.length → x.s.timer ≤ 1 → ∃ k c, (k, Pz.took x.badge c) ∈ y.bag ∧ x.s.done + 1 ≤ c) ∧
    (∀ k c, (k, Pz.took x.badge c) ∈ x.bag → c ≤ y.s.done) ∧ (2 ≤ x.s.timer → y.s.timer = x.s.timer - 1 ∨ x.s.done < y.s.done) ∧
    (∀ p ∈ y.bag, p.2.isBack = true) ∧ y.bag.length ≤ x.bag.length + 8 ∧ ((∀ p ∈ x.bag, p.2.isBack = true) → y.bag.length ≤ 8) ∧ y.olds = x.olds := by
  have hy := h.tick.says
  obtain ⟨b1, b2, b3, b4, b5, b6, b7, b8, b9, b10, b11, b12, b13⟩ := hy.dlvs_is x.tick.says.bag.length (Nat.le_refl _)
  obtain ⟨t1, t2, t3, t4⟩ := Sn.due_texts x.tick.s
  have hS : x.tick.says.s = x.tick.s.due := Am.says_s _
  have hI := x.tick.s.items_len
  have hw := h.w8
  have hlen := Am.says_len x.tick
  obtain ⟨_, _, _, _, q4, q5, q6, _⟩ := Am.sendAll_is { x.tick with s := x.tick.s.due } x.tick.s.items
  have hI8 : x.tick.s.items.length ≤ 8 := Nat.le_trans hI hw
  rw [hS] at b1 b2 b3 b5 b6
  rw [List.take_length] at b9 b10 b12
  have hbS : x.tick.says.badge = x.badge := Am.says_badge x.tick
  have hoS : x.tick.says.olds = x.olds := Am.says_olds x.tick
  rw [hbS] at b9 b10
  refine ⟨b1.trans t1, b2.trans t3, b3.trans t4, by rw [t2] at b5; exact b5, fun hd ht => ?_, fun k c hk => b9 c k (q4 _ hk), fun ht => ?_, fun p hp => ?_, ?_, fun ha => ?_, b13.trans hoS⟩
  · have h0 : x.tick.s.timer = 0 := by show x.s.timer - 1 = 0; omega
    have h1 := h.w1
    have hhi : x.s.done < x.tick.s.hi := by
      show x.s.done < min x.s.texts.length (x.s.done + x.s.win)
      omega
    have hmem : (x.s.done, x.s.texts.getD x.s.done ⟨#[]⟩) ∈ x.tick.s.items := by
      unfold Sn.items Sn.itemsTo
      refine List.mem_map.2 ⟨0, List.mem_filter.2 ⟨?_, ?_⟩, rfl⟩
      · rw [List.mem_range]
        show 0 < x.tick.s.hi - x.s.done
        omega
      · simp [Sn.isDue, h0]
    obtain ⟨n, hn⟩ := q6 _ hmem
    obtain ⟨k', c, hk, hc⟩ := b10 _ _ _ hn (by rw [Am.says_next]; exact h.d1)
    exact ⟨k', c, hk, hc⟩
  · have h0 : x.tick.s.timer = x.s.timer - 1 := rfl
    have hdt : x.tick.s.due.timer = x.s.timer - 1 := by
      unfold Sn.due
      split
      · exact h0
      · show (if x.tick.s.timer = 0 then _ else x.tick.s.timer) = _
        rw [if_neg (by rw [h0]; omega), h0]
    rcases b6 with e | e
    · exact .inl (e.trans hdt)
    · rw [t2] at e
      exact .inr e
  · rcases b11 p hp with hp | hp
    · rw [List.drop_length] at hp; cases hp
    · exact hp
  · have hl : x.tick.bag.length = x.bag.length := rfl
    show (Am.dlvs _ _).bag.length ≤ _
    omega
  · have hl : x.tick.bag.length = x.bag.length := rfl
    have hcount : x.bag.length ≤ x.tick.says.bag.countP (fun p => p.2.isBack) := by
      have : ∀ (z : Am) (l : List (Nat × ByteArray)), (z.sendAll l).bag.countP (fun p => p.2.isBack) = z.bag.countP (fun p => p.2.isBack) := by
        intro z l
        induction l generalizing z with
        | nil => rfl
        | cons q l ih =>
          show ((z.send (.put z.badge q.1 q.2)).sendAll l).bag.countP _ = _
          rw [ih]
          show List.countP _ (z.bag ++ [_]) = _
          rw [List.countP_append]
          simp [Pz.isBack]
      show x.bag.length ≤ List.countP _ (Am.sendAll _ _).bag
      rw [this]
      show x.bag.length ≤ List.countP _ x.bag
      rw [List.countP_eq_length.2 ha]
      exact Nat.le_refl _
    show (Am.dlvs _ _).bag.length ≤ _
    omega

theorem Am.rounds_add (a b : Nat) (x : Am) : Am.rounds (a + b) x = Am.rounds b (Am.rounds a x) := by
  induction a generalizing x with
  | zero => simp [Am.rounds]
  | succ a ih => rw [Nat.succ_add]; exact ih _
theorem Am.ok.round_badge {x : Am} (h : x.ok) : x.round.badge = x.badge := by
  have := h.round_is.2.2.2.2.2.2.2.2.2.2
  unfold Am.badge
  rw [this]
theorem Am.ok.rounds {x : Am} (h : x.ok) (n : Nat) : (Am.rounds n x).ok ∧ (Am.rounds n x).s.texts = x.s.texts ∧ (Am.rounds n x).s.res = x.s.res ∧ x.s.done ≤ (Am.rounds n x).s.done ∧ (Am.rounds n x).badge = x.badge := by
  induction n generalizing x with
  | zero => exact ⟨h, rfl, rfl, Nat.le_refl _, rfl⟩
  | succ n ih =>
    obtain ⟨a1, a2, a3, a4, _⟩ := h.round_is
    obtain ⟨b1, b2, b3, b4, b5⟩ := ih h.round
    exact ⟨b1, b2.trans a1, b3.trans a3, Nat.le_trans a4 b4, b5.trans h.round_badge⟩

/-- Within so many rounds one more is acked. -/
theorem Am.ok.rises {x : Am} (h : x.ok) (hd : x.s.done < x.s.texts.length) : ∀ (T : Nat), x.s.timer ≤ T → x.s.done < (Am.rounds (T + 2) x).s.done := by
  intro T
  induction T generalizing x with
  | zero =>
    intro ht
    obtain ⟨a1, a2, a3, a4, a5, _⟩ := h.round_is
    obtain ⟨k, c, hk, hc⟩ := a5 hd (by omega)
    obtain ⟨_, _, _, _, _, b6, _⟩ := h.round.round_is
    rw [h.round_badge] at b6
    have h3 := b6 k c hk
    have e : Am.rounds (0 + 2) x = x.round.round := rfl
    rw [e]
    omega
  | succ T ih =>
    intro ht
    obtain ⟨a1, a2, a3, a4, a5, a6, a7, _⟩ := h.round_is
    rcases Nat.lt_or_ge x.s.timer 2 with h2 | h2
    · obtain ⟨k, c, hk, hc⟩ := a5 hd (by omega)
      obtain ⟨_, _, _, _, _, b6, _⟩ := h.round.round_is
      rw [h.round_badge] at b6
      have h3 := b6 k c hk
      have h4 := (h.round.round.rounds (T + 1)).2.2.2.1
      show x.s.done < (Am.rounds (T + 1) x.round.round).s.done
      omega
    · rcases Nat.lt_or_ge x.s.done x.round.s.done with h3 | h3
      · have h4 := (h.round.rounds (T + 2)).2.2.2.1
        show x.s.done < (Am.rounds (T + 2) x.round).s.done
        omega
      · have h5 : x.round.s.done = x.s.done := by omega
        rcases a7 h2 with e | e
        · have h6 := ih h.round (by rw [h5, a1]; exact hd) (by rw [e]; omega)
          rw [h5] at h6
          exact h6
        · omega

theorem Am.ok.calm {x : Am} (h : x.ok) (m : Nat) : m ≤ (Am.rounds (m * (x.s.res + 2)) x).s.done ∨ (Am.rounds (m * (x.s.res + 2)) x).s.done = x.s.texts.length := by
  induction m with
  | zero => exact .inl (Nat.zero_le _)
  | succ m ih =>
    obtain ⟨b1, b2, b3, b4, _⟩ := h.rounds (m * (x.s.res + 2))
    rw [Nat.succ_mul, Am.rounds_add]
    generalize hz : Am.rounds (m * (x.s.res + 2)) x = z at *
    obtain ⟨c1, c2, c3, c4, _⟩ := b1.rounds (x.s.res + 2)
    have hle : (Am.rounds (x.s.res + 2) z).s.done ≤ x.s.texts.length := by
      have := c1.d1; have := c1.d2; have := c1.d3
      rw [c2, b2] at this
      omega
    rcases Nat.lt_or_ge z.s.done z.s.texts.length with hlt | hge
    · have := b1.rises hlt (x.s.res) (by rw [← b3]; exact b1.tm)
      rw [b2] at hlt
      rcases ih with ih | ih
      · exact .inl (by omega)
      · omega
    · rw [b2] at hge
      exact .inr (by omega)

/-- In calm all of it is there, and acked. -/
theorem Am.ok.ends {x : Am} (h : x.ok) : let y := Am.rounds ((x.s.texts.length + 1) * (x.s.res + 2)) x
    y.s.texts = x.s.texts ∧ y.s.done = x.s.texts.length ∧ ∃ ps, y.k.held = some (x.badge, ps) ∧ x.s.texts = ⟨#[]⟩ :: ps := by
  obtain ⟨b1, b2, b3, b4, b5⟩ := h.rounds ((x.s.texts.length + 1) * (x.s.res + 2))
  have hle : (Am.rounds ((x.s.texts.length + 1) * (x.s.res + 2)) x).s.done ≤ x.s.texts.length := by
    have := b1.d1; have := b1.d2; have := b1.d3
    rw [b2] at this
    omega
  have hd : (Am.rounds ((x.s.texts.length + 1) * (x.s.res + 2)) x).s.done = x.s.texts.length := by
    rcases h.calm (x.s.texts.length + 1) with e | e
    · omega
    · exact e
  have hpos : 0 < x.s.texts.length := (List.getElem?_eq_some_iff.1 h.t0).1
  generalize hy : Am.rounds ((x.s.texts.length + 1) * (x.s.res + 2)) x = y at *
  refine ⟨b2, hd, ?_⟩
  have h1 := b1.d1; have h2 := b1.d2; have h3 := b1.d3
  rw [b2] at h3
  have hn : y.next = x.s.texts.length := by omega
  unfold Am.next Kn.count at hn
  rcases hk : y.k.held with _ | ⟨B, ps⟩
  · rw [hk] at hn
    simp only at hn
    omega
  · rw [hk] at hn
    simp only at hn
    by_cases e : B = y.badge
    · rw [if_pos e] at hn
      refine ⟨ps, by rw [e, b5], ?_⟩
      have k3 := (b1.kn B ps hk).2.2
      rw [e, Am.allOf_cur, b2, List.take_of_length_le (by omega)] at k3
      exact k3
    · rw [if_neg e] at hn
      omega

/-- How much is under way. -/
def Am.few (B : Nat) (x : Am) : Prop := x.bag.length ≤ B ∨ (x.bag.length ≤ B + 8 ∧ ∀ p ∈ x.bag, p.2.isBack = true)
theorem Am.ok.few_round {x : Am} (h : x.ok) {B : Nat} (hf : x.few B) : x.round.few B := by
  obtain ⟨_, _, _, _, _, _, _, a8, a9, a10, _⟩ := h.round_is
  rcases hf with hf | ⟨hf, ha⟩
  · exact .inr ⟨by omega, a8⟩
  · have := a10 ha
    exact .inr ⟨by omega, a8⟩
theorem Am.ok.few_says {x : Am} (h : x.ok) {B : Nat} (hf : x.few B) : x.tick.says.bag.length ≤ B + 16 := by
  rw [Am.says_len]
  have h1 := x.tick.s.items_len
  have h2 : x.tick.s.win ≤ 8 := h.w8
  have h3 : x.tick.bag.length = x.bag.length := rfl
  rcases hf with hf | ⟨hf, _⟩ <;> omega
theorem Am.doesT_len {x : Am} (h : x.ok) (kind n : Int) (t : ByteArray) : (x.doesT kind n t).bag.length ≤ x.bag.length + 8 ∧ (x.doesT kind n t).olds.length ≤ x.olds.length + 1 := by
  have hc : ∀ (z : Am) (p : Pz), (z.comes p).bag.length ≤ z.bag.length + 1 := fun z p => by
    rcases Am.comes_bag z p with e | ⟨_, _, e, _⟩ <;> rw [e] <;> simp
  have hd : ∀ k, (x.drop k).bag.length ≤ x.bag.length := fun k => by
    show (x.bag.eraseIdx k).length ≤ _
    rw [List.length_eraseIdx]
    split <;> omega
  unfold Am.doesT
  split
  · split
    · exact ⟨Nat.le_add_right _ _, Nat.le_succ _⟩
    · exact ⟨Nat.le_add_right _ _, Nat.le_succ _⟩
  · split
    · refine ⟨?_, by rw [Am.says_olds]; exact Nat.le_succ _⟩
      rw [Am.says_len]
      have h1 := x.tick.s.items_len
      have h2 : x.tick.s.win ≤ 8 := h.w8
      have h3 : x.tick.bag.length = x.bag.length := rfl
      omega
    · split
      · unfold Am.dlv
        rcases hb : x.bag[x.place n]? with _ | p
        · exact ⟨Nat.le_add_right _ _, Nat.le_succ _⟩
        · have h1 := hc (x.drop (x.place n)) p.2
          have h2 := hd (x.place n)
          have h3 := (Am.comes_is (x.drop (x.place n)) p.2).2.2.2.2.2.2
          simp only
          refine ⟨by omega, ?_⟩
          rw [h3]
          exact Nat.le_succ _
      · split
        · have := hd (x.place n)
          exact ⟨by omega, Nat.le_succ _⟩
        · split
          · rcases hb : x.bag[x.place n]? with _ | p
            · exact ⟨Nat.le_add_right _ _, Nat.le_succ _⟩
            · exact ⟨by simp [Am.send], Nat.le_succ _⟩
          · split
            · exact ⟨Nat.le_add_right _ _, by simp [Am.begins]⟩
            · exact ⟨Nat.le_add_right _ _, Nat.le_succ _⟩

end Go.Proofs.YtkiccbjngokpjaaGreat
