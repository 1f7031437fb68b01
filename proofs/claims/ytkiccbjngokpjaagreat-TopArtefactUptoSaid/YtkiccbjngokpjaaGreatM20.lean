/-
  Merged, in build order: Nt.
-/
import Derived.Test.YtkiccbjngokpjaaGreatM19
import Derived.Test.YtkiccbjngokpjaaGreatM14
/-
  net: the bag as a thing; New, Len, At, Send, Take, Drop, Dup.
-/
namespace Go.Proofs.YtkiccbjngokpjaaGreat
open Go.RowKit
set_option linter.unusedVariables false
set_option linter.unusedSimpArgs false

/-! ### A block whose cells name a row of its own -/
abbrev ob1 (S : Nat) (mk : Value → Obj) (e : TypeId) (sz n : Nat) (xs : List Value) (v : Value) : List Thing1 := [Blk1 S (mk v), Row1 e sz v n xs]
abbrev obL (S : Nat) (mk : Value → Obj) (e : TypeId) (sz n : Nat) (xs : List Value) (v : Value) : List Thing := [BlkT S (mk v), RowT e sz v n xs]
theorem ob1_loc (S : Nat) (mk : Value → Obj) (e : TypeId) (sz n : Nat) (xs : List Value) (v : Value) : ∀ A, A ∈ ob1 S mk e sz n xs v → Loc1 A := by
  intro A hA
  simp only [ob1, List.mem_cons, List.not_mem_nil, or_false] at hA
  rcases hA with rfl | rfl
  · exact inferInstance
  · exact inferInstance
def Ob1 (S : Nat) (mk : Value → Obj) (e : TypeId) (sz n : Nat) (xs : List Value) : Thing1 := fun w F => ∃ v : Value, Pack1 (ob1 S mk e sz n xs v) w F
def ObT (S : Nat) (mk : Value → Obj) (e : TypeId) (sz n : Nat) (xs : List Value) : Thing := own (Ob1 S mk e sz n xs)
instance (S : Nat) (mk : Value → Obj) (e : TypeId) (sz n : Nat) (xs : List Value) : Loc1 (Ob1 S mk e sz n xs) where
  keep := fun ⟨v, h2⟩ hF hd => ⟨v, h2.keep hF hd⟩
  lt := fun ⟨v, h2⟩ x hx => h2.lt x hx

section
variable {W : Base} {w : World} {R : List Thing} {S : Nat} {mk : Value → Obj} {e : TypeId} {sz n : Nat} {xs : List Value}
theorem St.ob (H : St W w R) (i : Nat) (hi : R[i]? = some (ObT S mk e sz n xs)) : ∃ v : Value, St W w (R.set i NilT ++ obL S mk e sz n xs v) := by
  obtain ⟨F, ⟨v, h2⟩, h3⟩ := H.unpackG i hi
  exact ⟨v, h3 _ h2⟩
theorem St.obBack {i : Nat} {v : Value} (hil : i < R.length) (H : St W w (R.set i NilT ++ obL S mk e sz n xs v)) : St W w (R.set i (ObT S mk e sz n xs)) := by
  have H2 : St W w (R.set i NilT ++ (ob1 S mk e sz n xs v).map own) := H
  have h := H2.packG i (List.getElem?_set_self hil) (ob1_loc _ _ _ _ _ _ _) (B := Ob1 S mk e sz n xs) (fun F hP => ⟨v, hP⟩)
  rwa [List.set_set] at h
theorem St.obEnd {v : Value} (H : St W w (R ++ obL S mk e sz n xs v)) : St W w (R ++ [ObT S mk e sz n xs]) := by
  have H2 : St W w (R ++ (ob1 S mk e sz n xs v).map own) := H
  exact H2.packEnd (ob1_loc _ _ _ _ _ _ _) (B := Ob1 S mk e sz n xs) (fun F hP => ⟨v, hP⟩)
theorem row_slice {w : World} {B : Nat} {v : Value} (h : w.ownsRow B e sz v n xs) : ∃ a c, v = .slice a n c ∧ n ≤ c ∧ c ≤ maxLen := by
  rcases ownsRow_one h with ⟨h1, h2, _⟩ | ⟨g, cap, h1, h2, h3⟩
  · exact ⟨none, 0, by rw [h1, h2], by omega, by unfold maxLen; omega⟩
  · exact ⟨_, cap, h1, h2, h3⟩
end

/-! ### A net -/
abbrev ntO (sent : Int) (v : Value) : Obj := .cells #[v, .int .i64 sent] 94
abbrev NtT (N : Nat) (b : List Dg) (sent : Int) : Thing := ObT N (ntO sent) 72 6 b.length (dgL.cells b)
abbrev ntL (N : Nat) (b : List Dg) (sent : Int) (v : Value) : List Thing := obL N (ntO sent) 72 6 b.length (dgL.cells b) v
theorem info_ad : (Tryz.prog.info? 69).map (fun i => (i.zero, i.size, i.bytes)) = some (some (adV 0 0), 2, 16) := by kernel_rfl

section
variable {W : Base} {w : World} {R : List Thing}
theorem st_nnew (H : St W w R) : Calls Tryz.prog 14 #[] w fun e w' => ∃ N, e = .returned (ptr N) ∧ St W w' (R ++ [NtT N [] 0]) := by
  have HE := hid (show St W (w.alloc (ntO 0 (.slice none 0 0))) (R ++ [NtT w.heap.size [] 0]) from by
    have h := (H.alloc (ntO 0 (.slice none 0 0))).nilRow 72 6
    rw [List.append_assoc] at h
    exact St.obEnd (v := .slice none 0 0) h)
  clear H
  go_enter Tryz.func14, Tryz.ntmps14
  go_wp2_with fail
  go_ret
  exact ⟨_, rfl, HE.out⟩
theorem st_nlen (H : St W w R) (i : Nat) {N : Nat} {b : List Dg} {s : Int} (hi : R[i]? = some (NtT N b s)) :
    Calls Tryz.prog 23 #[ptr N] w fun e w' => e = .returned (.int .i64 b.length) ∧ w = w' := by
  obtain ⟨v, H2⟩ := H.ob i hi
  have hb := H2.blk _ (get_behind _ _ 0)
  obtain ⟨a, c, rfl, _, _⟩ := row_slice (H2.row _ (get_behind _ _ 1))
  have x0 := cell_blk (i := 0) hb rfl
  clear H H2 hb hi
  go_enter Tryz.func23, Tryz.ntmps23
  go_wp2
  go_ret
  exact ⟨rfl, rfl⟩

set_option maxHeartbeats 1600000 in
theorem st_nat (H : St W w R) (i : Nat) {N : Nat} {b : List Dg} {s : Int} (hi : R[i]? = some (NtT N b s)) (k : Nat) (d : Dg) (hk : b[k]? = some d) :
    Calls Tryz.prog 43 #[ptr N, .int .i64 k] w fun e w' => e = .returned (.tuple #[dgV d, .int .i64 0]) ∧ Fr [] w w' := by
  obtain ⟨v, H2⟩ := H.ob i hi
  have hb := H2.blk _ (get_behind _ _ 0)
  have hr := H2.row _ (get_behind _ _ 1)
  have hkl := (List.getElem?_eq_some_iff.1 hk).1
  obtain ⟨g, cap, rfl, hc1, hc2⟩ := ownsRow_shape hr (by omega)
  have x0 := cell_blk (i := 0) hb rfl
  have hc : ∀ q u, d.f[q]? = some u → w.cell? ⟨g, k * 6 + q, none⟩ = some u := fun q u hu => by
    have hq : q < 6 := (List.getElem?_eq_some_iff.1 hu).1
    refine (ownsRow_cell hr (k * 6 + q) ?_).1
    have h1 := dgL.get b (k * 6 + q) (by show k * 6 + q < b.length * 6; omega)
    rw [h1]
    have h2 := dgL.at_add b k q hq
    have e6 : dgL.sz = 6 := rfl
    rw [e6] at h2
    rw [h2]
    have h3 : dgL.nth b k = d := by unfold Lay.nth; rw [List.getD_eq_getElem?_getD, hk]; rfl
    rw [h3]
    show some (d.f.getD q undef) = some u
    rw [List.getD_eq_getElem?_getD, hu]
    rfl
  have c0 : w.cell? ⟨g, k * 6, none⟩ = some (.int .i64 d.num) := hc 0 _ rfl
  have c1 := hc 1 _ rfl
  have c2 := hc 2 _ rfl
  have c3 := hc 3 _ rfl
  have c4 := hc 4 _ rfl
  have c5 := hc 5 _ rfl
  have g1 : ¬ (k : Int) < 0 := by omega
  have g2 : (k : Int) < b.length := by omega
  have g3 : ¬ (b.length : Int) ≤ k := by omega
  have hg1 := World.block_lt_of_cell? _ _ c0
  have hg2 := lt_of_block hb
  clear H H2 hb hi hc hr hc1 hc2 hkl hk
  go_enter Tryz.func43, Tryz.ntmps43
  go_wp2_with fail
  refine bodyPost_ret (v := .tuple #[dgV d, .int .i64 0]) ?_ rfl ⟨rfl, (Fr.refl _ _).alloc _⟩
  simp [results, Tryz.results43, go_sem]

set_option maxHeartbeats 1600000 in
theorem st_nat_no (H : St W w R) (i : Nat) {N : Nat} {b : List Dg} {s : Int} (hi : R[i]? = some (NtT N b s)) (k : Nat) (hk : b.length ≤ k) :
    Calls Tryz.prog 43 #[ptr N, .int .i64 k] w fun e w' => e = .returned (.tuple #[dgZ, .int .i64 30]) ∧ Fr [] w w' := by
  obtain ⟨v, H2⟩ := H.ob i hi
  have hb := H2.blk _ (get_behind _ _ 0)
  obtain ⟨a, c, rfl, _, _⟩ := row_slice (H2.row _ (get_behind _ _ 1))
  have x0 := cell_blk (i := 0) hb rfl
  have g1 : ¬ (k : Int) < 0 := by omega
  have g3 : (b.length : Int) ≤ k := by omega
  have hg2 := lt_of_block hb
  clear H H2 hb hi hk
  go_enter Tryz.func43, Tryz.ntmps43
  go_wp2_with fail
  refine bodyPost_ret (v := .tuple #[dgZ, .int .i64 30]) ?_ rfl ⟨rfl, (Fr.refl _ _).alloc _⟩
  simp [results, Tryz.results43, go_sem]
  rfl

abbrev ads (n l : Int) : Obj := .cells #[.int .i64 n, .int .i64 l] 69
set_option maxHeartbeats 3200000 in
set_option maxRecDepth 1000000 in
theorem st_nsend (H : St W w R) (i : Nat) {N : Nat} {b : List Dg} {s : Int} (hi : R[i]? = some (NtT N b s)) (fn fl tn tl : Int) (data : ByteArray) (hbl : b.length ≤ 1073741824) :
    Calls Tryz.prog 21 #[ptr N, adV fn fl, adV tn tl, .string data] w fun e w' => e = .returned (.int .i64 (nextN s)) ∧ St W w' (R.set i (NtT N (b ++ [⟨nextN s, fn, fl, tn, tl, data⟩]) (nextN s))) := by
  obtain ⟨v, H2⟩ := H.ob i hi
  have hil := hid (lt_of_get hi)
  have hb := H2.blk _ (get_behind _ _ 0)
  obtain ⟨a, c, rfl, _, _⟩ := row_slice (H2.row _ (get_behind _ _ 1))
  obtain ⟨s1, hs1⟩ : ∃ s1, nextN s = s1 := ⟨_, rfl⟩
  have hw1 : wrap64 (s + 1) = s1 := by rw [← hs1]; exact (IntWalk.i64_left _).symm
  have x1 := cell_blk (i := 1) hb rfl
  have f1 := free_blk (i := 1) hb
  have hg2 := lt_of_block hb
  have H4 := hid (show St W (((w.setCell ⟨N, 1, none⟩ (.int .i64 s1)).alloc (ads fn fl)).alloc (ads tn tl)) (R.set i NilT ++ [BlkT N (ntO s1 (.slice a b.length c)), RowT 72 6 (.slice a b.length c) b.length (dgL.cells b), BlkT w.heap.size (ads fn fl), BlkT (w.heap.size + 1) (ads tn tl)]) from by
    have h := H2.setBlk _ (get_behind _ _ 0) 1 (.int .i64 s1)
    rw [set_bh] at h
    have h := (h.allocAt (ads fn fl) w.heap.size (by simp)).allocAt (ads tn tl) (w.heap.size + 1) (by simp)
    simp only [List.append_assoc] at h
    exact h)
  have HS := hid (show ∀ (wx : World) (T : List Thing), St W wx ((R.set i NilT ++ [BlkT N (ntO s1 (.slice a b.length c)), RowT 72 6 (.slice a b.length c) b.length (dgL.cells b), BlkT w.heap.size (ads fn fl), BlkT (w.heap.size + 1) (ads tn tl)]) ++ T) → wx.cell? ⟨N, 0, none⟩ = some (.slice a b.length c) ∧ wx.cell? ⟨N, 1, none⟩ = some (.int .i64 s1) ∧ (wx.cell? ⟨w.heap.size, 0, none⟩ = some (.int .i64 fn) ∧ wx.cell? ⟨w.heap.size, 1, none⟩ = some (.int .i64 fl)) ∧ wx.cell? ⟨w.heap.size + 1, 0, none⟩ = some (.int .i64 tn) ∧ wx.cell? ⟨w.heap.size + 1, 1, none⟩ = some (.int .i64 tl) from fun wx T h => by
    rw [List.append_assoc] at h
    have b0 := h.blk _ (get_behind _ _ 0)
    have b2 := h.blk _ (get_behind _ _ 2)
    have b3 := h.blk _ (get_behind _ _ 3)
    exact ⟨cell_blk (i := 0) b0 rfl, cell_blk (i := 1) b0 rfl, ⟨cell_blk (i := 0) b2 rfl, cell_blk (i := 1) b2 rfl⟩, cell_blk (i := 0) b3 rfl, cell_blk (i := 1) b3 rfl⟩)
  obtain ⟨i0, hi0, hz0, hz1, hz2⟩ := info_parts info_dg
  have HI := hid (And.intro hi0 (And.intro hz0 (And.intro hz1 hz2)))
  have HB := hid (show b.length + 1 ≤ maxLen ∧ (b.length + 1) * 56 ≤ 140737488355328 from by unfold maxLen; omega)
  rw [hs1]
  have HZ := hid hs1
  have HW := hid hw1
  clear H H2 hb hi hbl hi0 hz0 hz1 hz2 hs1 hw1
  go_enter Tryz.func21, Tryz.ntmps21
  go_wp2_with fail
  rw [HW.out]
  generalize ((w.setCell ⟨N, 1, none⟩ (.int .i64 s1)).alloc (ads fn fl)).alloc (ads tn tl) = w4 at H4 ⊢
  go_upto_region 2 with (fail)
  refine wp_region_U (S := fun wx : World => wx.cell? ⟨N, 0, none⟩ = some (.slice a b.length c) ∧ wx.cell? ⟨N, 1, none⟩ = some (.int .i64 s1) ∧ (wx.cell? ⟨w.heap.size, 0, none⟩ = some (.int .i64 fn) ∧ wx.cell? ⟨w.heap.size, 1, none⟩ = some (.int .i64 fl)) ∧ wx.cell? ⟨w.heap.size + 1, 0, none⟩ = some (.int .i64 tn) ∧ wx.cell? ⟨w.heap.size + 1, 1, none⟩ = some (.int .i64 tl)) 17 (by kernel_rfl) (HS.out _ [] (by rw [List.append_nil]; exact H4.out.drew)) (fun hHeld => ?_)
  refine takeU (i := 0) (d := 16) (v := ?_) rfl rfl (by kernel_rfl) (by kernel_rfl) (by kernel_rfl) (by kernel_rfl) (by kernel_rfl) (fun _ _ _ h => h) (Or.inl ⟨by rfl, ?_⟩) hHeld ?_
  rotate_left
  · intro wq hSw; (try dsimp only at hSw); go_simp; all_goals (with_reducible rfl)
  simp only [Act.put, List.setIfInBounds_toArray, List.set_cons_zero, List.set_cons_succ]
  refine takeU (i := 1) (d := 17) (v := ?_) rfl rfl (by kernel_rfl) (by kernel_rfl) (by kernel_rfl) (by kernel_rfl) (by kernel_rfl) (fun _ _ _ h => h) (Or.inl ⟨by rfl, ?_⟩) hHeld ?_
  rotate_left
  · intro wq hSw; (try dsimp only at hSw); go_simp; all_goals (with_reducible rfl)
  simp only [Act.put, List.setIfInBounds_toArray, List.set_cons_zero, List.set_cons_succ]
  refine takeU (i := 2) (d := 18) (v := ?_) rfl rfl (by kernel_rfl) (by kernel_rfl) (by kernel_rfl) (by kernel_rfl) (by kernel_rfl) (fun _ _ _ h => h) (Or.inl ⟨by rfl, ?_⟩) hHeld ?_
  rotate_left
  · intro wq hSw; (try dsimp only at hSw); go_simp; all_goals (with_reducible rfl)
  simp only [Act.put, List.setIfInBounds_toArray, List.set_cons_zero, List.set_cons_succ]
  refine takeU (i := 3) (d := 19) (v := ?_) rfl rfl (by kernel_rfl) (by kernel_rfl) (by kernel_rfl) (by kernel_rfl) (by kernel_rfl) (fun _ _ _ h => h) (Or.inl ⟨by rfl, ?_⟩) hHeld ?_
  rotate_left
  · intro wq hSw; (try dsimp only at hSw); go_simp; all_goals (with_reducible rfl)
  simp only [Act.put, List.setIfInBounds_toArray, List.set_cons_zero, List.set_cons_succ]
  refine takeU (i := 4) (d := 20) (v := ?_) rfl rfl (by kernel_rfl) (by kernel_rfl) (by kernel_rfl) (by kernel_rfl) (by kernel_rfl) (fun _ _ _ h => h) (Or.inl ⟨by rfl, ?_⟩) hHeld ?_
  rotate_left
  · intro wq hSw; (try dsimp only at hSw); go_simp; all_goals (with_reducible rfl)
  simp only [Act.put, List.setIfInBounds_toArray, List.set_cons_zero, List.set_cons_succ]
  refine takeU (i := 5) (d := 21) (v := ?_) rfl rfl (by kernel_rfl) (by kernel_rfl) (by kernel_rfl) (by kernel_rfl) (by kernel_rfl) (fun _ _ _ h => h) (Or.inl ⟨by rfl, ?_⟩) hHeld ?_
  rotate_left
  · intro wq hSw; (try dsimp only at hSw); go_simp; all_goals (with_reducible rfl)
  simp only [Act.put, List.setIfInBounds_toArray, List.set_cons_zero, List.set_cons_succ]
  refine takeU (i := 6) (d := 22) (v := ?_) rfl rfl (by kernel_rfl) (by kernel_rfl) (by kernel_rfl) (by kernel_rfl) (by kernel_rfl) (fun _ _ _ h => h) (Or.inl ⟨by rfl, ?_⟩) hHeld ?_
  rotate_left
  · intro wq hSw; (try dsimp only at hSw); go_simp; all_goals (with_reducible rfl)
  simp only [Act.put, List.setIfInBounds_toArray, List.set_cons_zero, List.set_cons_succ]
  refine takeU (i := 7) (d := 23) (v := ?_) rfl rfl (by kernel_rfl) (by kernel_rfl) (by kernel_rfl) (by kernel_rfl) (by kernel_rfl) (fun _ _ _ h => h) (Or.inl ⟨by rfl, ?_⟩) hHeld ?_
  rotate_left
  · intro wq hSw; (try dsimp only at hSw); go_simp; all_goals (with_reducible rfl)
  simp only [Act.put, List.setIfInBounds_toArray, List.set_cons_zero, List.set_cons_succ]
  refine takeU (i := 8) (d := 24) (v := ?_) rfl rfl (by kernel_rfl) (by kernel_rfl) (by kernel_rfl) (by kernel_rfl) (by kernel_rfl) (fun _ _ _ h => h) (Or.inl ⟨by rfl, ?_⟩) hHeld ?_
  rotate_left
  · intro wq hSw; (try dsimp only at hSw); go_simp; all_goals (with_reducible rfl)
  simp only [Act.put, List.setIfInBounds_toArray, List.set_cons_zero, List.set_cons_succ]
  refine takeU (i := 9) (d := 25) (v := ?_) rfl rfl (by kernel_rfl) (by kernel_rfl) (by kernel_rfl) (by kernel_rfl) (by kernel_rfl) (fun _ _ _ h => h) (Or.inl ⟨by rfl, ?_⟩) hHeld ?_
  rotate_left
  · intro wq hSw; (try dsimp only at hSw); go_simp; all_goals (with_reducible rfl)
  simp only [Act.put, List.setIfInBounds_toArray, List.set_cons_zero, List.set_cons_succ]
  refine takeU (i := 10) (d := 26) (v := ?_) rfl rfl (by kernel_rfl) (by kernel_rfl) (by kernel_rfl) (by kernel_rfl) (by kernel_rfl) (fun _ _ _ h => h) (Or.inl ⟨by rfl, ?_⟩) hHeld ?_
  rotate_left
  · intro wq hSw; (try dsimp only at hSw); go_simp; all_goals (with_reducible rfl)
  simp only [Act.put, List.setIfInBounds_toArray, List.set_cons_zero, List.set_cons_succ]
  refine takeU (i := 11) (d := 27) (v := ?_) rfl rfl (by kernel_rfl) (by kernel_rfl) (by kernel_rfl) (by kernel_rfl) (by kernel_rfl) (fun _ _ _ h => h) (Or.inl ⟨by rfl, ?_⟩) hHeld ?_
  rotate_left
  · intro wq hSw; (try dsimp only at hSw); go_simp; all_goals (with_reducible rfl)
  simp only [Act.put, List.setIfInBounds_toArray, List.set_cons_zero, List.set_cons_succ]
  refine takeU (i := 12) (d := 28) (v := ?_) rfl rfl (by kernel_rfl) (by kernel_rfl) (by kernel_rfl) (by kernel_rfl) (by kernel_rfl) (fun _ _ _ h => h) (Or.inl ⟨by rfl, ?_⟩) hHeld ?_
  rotate_left
  · intro wq hSw; (try dsimp only at hSw); go_simp; all_goals (with_reducible rfl)
  simp only [Act.put, List.setIfInBounds_toArray, List.set_cons_zero, List.set_cons_succ]
  refine wpAnyU_ready (rs := [13]) (by kernel_rfl) (by simp) ?_
  refine AllReadyU.cons rfl (fun K hK => ?_) AllReadyU.nil
  go_simp
  have H5 := hid (show St W ((w4.alloc (.cells #[.int .i64 s1, .int .i64 fn, .int .i64 fl, .int .i64 tn, .int .i64 tl, .string data] 72)).drew) ((R.set i NilT ++ [BlkT N (ntO s1 (.slice a b.length c)), RowT 72 6 (.slice a b.length c) b.length (dgL.cells b), BlkT w.heap.size (ads fn fl), BlkT (w.heap.size + 1) (ads tn tl)]) ++ [BlkT w4.heap.size (.cells #[.int .i64 s1, .int .i64 fn, .int .i64 fl, .int .i64 tn, .int .i64 tl, .string data] 72)]) from (H4.out.alloc (.cells #[.int .i64 s1, .int .i64 fn, .int .i64 fl, .int .i64 tn, .int .i64 tl, .string data] 72)).same ((Fr.refl _ _).drew))
  refine hK.out _ _ (fun _ => HS.out _ _ H5.out) (fun hHeld => ?_)
  clear hK K
  refine wpAnyU_ready (rs := [14]) (by kernel_rfl) (by simp) ?_
  refine AllReadyU.cons rfl (fun K hK => ?_) AllReadyU.nil
  refine stepAdded H5.out ((R.set i NilT).length + 1) rfl (.tmp 20) (.tmp 29) 92 rfl 72 i0 dgZ 6 56 Tryz.underlying92 HI.out.1 HI.out.2.1 HI.out.2.2.1 HI.out.2.2.2 rfl (by decide) (.slice a b.length c) b.length (dgL.cells b) (by rw [List.append_assoc, get_behind]; rfl) rfl (some ⟨w4.heap.size, 0, none⟩) 1 1 (fun q => (Dg.f ⟨s1, fn, fl, tn, tl, data⟩).getD q undef) rfl (H5.out.blkIn ((R.set i NilT ++ [BlkT N (ntO s1 (.slice a b.length c)), RowT 72 6 (.slice a b.length c) b.length (dgL.cells b), BlkT w.heap.size (ads fn fl), BlkT (w.heap.size + 1) (ads tn tl)]).length + 0) 6 1 rfl (by decide) (by rw [get_behind]; rfl)) (fun j hj => by (obtain rfl | rfl | rfl | rfl | rfl | rfl : j = 0 ∨ j = 1 ∨ j = 2 ∨ j = 3 ∨ j = 4 ∨ j = 5 := by omega) <;> rfl) HB.out.1 HB.out.2 ?_
  intro a5 c5 w5 H6
  rw [List.append_assoc, set_bh, show (List.range (1 * 6)).map (fun q => (Dg.f ⟨s1, fn, fl, tn, tl, data⟩).getD q undef) = dgL.f ⟨s1, fn, fl, tn, tl, data⟩ from rfl, dgL.snoc] at H6
  have b5 := H6.blk _ (get_behind _ _ 0)
  have y0 := cell_blk (i := 0) b5 rfl
  have k0 := free_blk (i := 0) b5
  have y1 := cell_blk (i := 1) b5 rfl
  have H7 := hid (show St W (w5.setCell ⟨N, 0, none⟩ (.slice a5 (b.length + 1) c5)) (R.set i (NtT N (b ++ [⟨s1, fn, fl, tn, tl, data⟩]) s1)) from by
    have h := H6.setBlk _ (get_behind _ _ 0) 0 (.slice a5 (b.length + 1) c5)
    rw [set_bh] at h
    have h2 : St W (w5.setCell ⟨N, 0, none⟩ (.slice a5 (b.length + 1) c5)) ((R.set i NilT ++ obL N (ntO s1) 72 6 (b.length + 1) (dgL.cells (b ++ [⟨s1, fn, fl, tn, tl, data⟩])) (.slice a5 (b.length + 1) c5)) ++ [BlkT w.heap.size (ads fn fl), BlkT (w.heap.size + 1) (ads tn tl), BlkT w4.heap.size (.cells #[.int .i64 s1, .int .i64 fn, .int .i64 fl, .int .i64 tn, .int .i64 tl, .string data] 72)]) := by
      rw [List.append_assoc]; exact h
    have h3 := St.obBack hil.out h2.drop
    have e : (b ++ [(⟨s1, fn, fl, tn, tl, data⟩ : Dg)]).length = b.length + 1 := by simp
    show St W _ (R.set i (ObT N (ntO s1) 72 6 (b ++ [_]).length _))
    rw [e]
    exact h3)
  refine hK.out _ _ (fun _ => ?_) (fun hHeld => ?_)
  · have b2 := H6.blk _ (get_behind _ _ 2)
    have b3 := H6.blk _ (get_behind _ _ 3)
    exact ⟨y0, cell_blk (i := 1) b5 rfl, ⟨cell_blk (i := 0) b2 rfl, cell_blk (i := 1) b2 rfl⟩, cell_blk (i := 0) b3 rfl, cell_blk (i := 1) b3 rfl⟩
  clear hK K b5 H6 H5
  have hHeld := hHeld (by decide)
  refine takeU (i := 15) (d := 31) (v := ?_) rfl rfl (by kernel_rfl) (by kernel_rfl) (by kernel_rfl) (by kernel_rfl) (by kernel_rfl) (fun _ _ _ h => h) (Or.inl ⟨by rfl, ?_⟩) hHeld ?_
  rotate_left
  · intro wq hSw; (try dsimp only at hSw); go_simp; all_goals (with_reducible rfl)
  simp only [Act.put, List.setIfInBounds_toArray, List.set_cons_zero, List.set_cons_succ]
  refine takeU (i := 16) (d := 32) (v := ?_) rfl rfl (by kernel_rfl) (by kernel_rfl) (by kernel_rfl) (by kernel_rfl) (by kernel_rfl) (fun _ _ _ h => h) (Or.inl ⟨by rfl, ?_⟩) hHeld ?_
  rotate_left
  · intro wq hSw; (try dsimp only at hSw); go_simp; all_goals (with_reducible rfl)
  simp only [Act.put, List.setIfInBounds_toArray, List.set_cons_zero, List.set_cons_succ]
  refine wpAnyU_ready (rs := [17]) (by kernel_rfl) (by simp) ?_
  refine AllReadyU.cons rfl (fun K hK => ?_) AllReadyU.nil
  go_simp
  refine hK.out _ _ (fun h => absurd rfl h) (fun _ => ?_)
  clear hK K
  refine wpAnyU_done (by kernel_rfl) ?_ _
  clear hHeld y0 k0
  go_wp2_with fail
  go_ret
  exact ⟨rfl, H7.out⟩

abbrev dgO (d : Dg) : Obj := .cells d.f.toArray 72
theorem dg_cells {wx : World} {b : Nat} {d : Dg} (h : wx.heap[b]? = some (dgO d)) : wx.cell? ⟨b, 0, none⟩ = some (.int .i64 d.num) ∧ wx.cell? ⟨b, 1, none⟩ = some (.int .i64 d.fn) ∧ wx.cell? ⟨b, 2, none⟩ = some (.int .i64 d.fl) ∧ wx.cell? ⟨b, 3, none⟩ = some (.int .i64 d.tn) ∧ wx.cell? ⟨b, 4, none⟩ = some (.int .i64 d.tl) ∧ wx.cell? ⟨b, 5, none⟩ = some (.string d.data) :=
  ⟨cell_blk h rfl, cell_blk h rfl, cell_blk h rfl, cell_blk h rfl, cell_blk h rfl, cell_blk h rfl⟩
abbrev dg0 : Dg := ⟨0, 0, 0, 0, 0, ⟨#[]⟩⟩
theorem St.blk6 {T rest : List Thing} {b : Nat} {d0 : Dg} (d : Dg) (H : St W w (T ++ (BlkT b (dgO d0) :: rest))) :
    St W ((((((w.setCell ⟨b, 0, none⟩ (.int .i64 d.num)).setCell ⟨b, 1, none⟩ (.int .i64 d.fn)).setCell ⟨b, 2, none⟩ (.int .i64 d.fl)).setCell ⟨b, 3, none⟩ (.int .i64 d.tn)).setCell ⟨b, 4, none⟩ (.int .i64 d.tl)).setCell ⟨b, 5, none⟩ (.string d.data)) (T ++ (BlkT b (dgO d) :: rest)) := by
  have h := H.setBlk _ (get_behind _ _ 0) 0 (.int .i64 d.num)
  rw [set_bh] at h
  have h := h.setBlk _ (get_behind _ _ 0) 1 (.int .i64 d.fn)
  rw [set_bh] at h
  have h := h.setBlk _ (get_behind _ _ 0) 2 (.int .i64 d.fl)
  rw [set_bh] at h
  have h := h.setBlk _ (get_behind _ _ 0) 3 (.int .i64 d.tn)
  rw [set_bh] at h
  have h := h.setBlk _ (get_behind _ _ 0) 4 (.int .i64 d.tl)
  rw [set_bh] at h
  have h := h.setBlk _ (get_behind _ _ 0) 5 (.string d.data)
  rw [set_bh] at h
  exact h

set_option maxHeartbeats 1600000 in
theorem st_ntake (H : St W w R) (i : Nat) {N : Nat} {b : List Dg} {s : Int} (hi : R[i]? = some (NtT N b s)) (k : Nat) (d : Dg) (hk : b[k]? = some d) (hbl : b.length ≤ 1073741824) :
    Calls Tryz.prog 27 #[ptr N, .int .i64 k] w fun e w' => e = .returned (.tuple #[dgV d, .int .i64 0]) ∧ St W w' (R.set i (NtT N (b.eraseIdx k) s)) := by
  have hkl := (List.getElem?_eq_some_iff.1 hk).1
  have hA := hid (fun o => st_nat (H.alloc_ o) i hi k d hk)
  have hil := hid (lt_of_get hi)
  obtain ⟨v, H2⟩ := H.ob i hi
  have HK := hid (And.intro hkl hbl)
  have H1 := hid (H2.alloc (dgO dg0))
  have hb := H2.blk _ (get_behind _ _ 0)
  have hg2 := lt_of_block hb
  clear H hi hk hkl hbl hb H2
  go_enter Tryz.func27, Tryz.ntmps27
  go_wp2_with fail
  refine (hA.out _).mono ?_
  rintro e w1 ⟨rfl, hF⟩
  have hb1 := (H1.out.same hF).blk _ (by rw [List.append_assoc]; exact get_behind _ _ 0)
  have H3 := (H1.out.same hF).alloc (dgO d)
  simp only [List.append_assoc, List.cons_append, List.nil_append] at H3
  have H3 := hid H3
  clear H1 hA hg2 hF
  generalize w.heap.size = p1 at H3 ⊢
  obtain ⟨a, c, rfl, hc1, hc2⟩ := row_slice (H3.out.row _ (get_behind _ _ 1))
  have x0 := cell_blk (i := 0) hb1 rfl
  have hg1 := lt_of_block hb1
  have HD := hid (st_delete H3.out _ b _ (get_behind _ _ 1) k HK.out.1)
  have h1 : wrap64 ((k : Int) + 1) = (k : Int) + 1 := IntWalk.wrap64_in _ (by have := HK.out; omega)
  have H1w := hid h1
  clear h1
  clear hb1 hc1 hc2
  go_wp2_with fail
  rw [H1w.out]
  refine HD.out.mono ?_
  rintro e w3 ⟨a3, c3, rfl, H5⟩
  rw [set_bh] at H5
  clear x0 hg1 HD
  generalize w1.heap.size = p2 at H5 ⊢
  have hb := H5.blk _ (get_behind _ _ 0)
  have f0 := free_blk (i := 0) hb
  have x0 := cell_blk (i := 0) hb rfl
  have H6 := H5.setBlk _ (get_behind _ _ 0) 0 (.slice a3 (b.length - 1 : Nat) c3)
  rw [set_bh] at H6
  have hd := H6.blk _ (get_behind _ _ 3)
  have hz := H6.blk _ (get_behind _ _ 2)
  have HE := hid (show b.length - 1 = (b.eraseIdx k).length from by
    have := HK.out.1
    rw [List.length_eraseIdx, if_pos this])
  obtain ⟨y0, y1, y2, y3, y4, y5⟩ := dg_cells hd
  obtain ⟨z0, z1, z2, z3, z4, z5⟩ := dg_cells (d := dg0) hz
  have k0 := free_blk (i := 0) hz
  have k1 := free_blk (i := 1) hz
  have k2 := free_blk (i := 2) hz
  have k3 := free_blk (i := 3) hz
  have k4 := free_blk (i := 4) hz
  have k5 := free_blk (i := 5) hz
  have H7 := hid (show St W _ (((R.set i NilT ++ [BlkT N (ntO s (.slice a3 (b.length - 1 : Nat) c3)), RowT 72 6 (.slice a3 (b.length - 1 : Nat) c3) (b.length - 1) (dgL.cells (b.eraseIdx k))]) ++ (BlkT p1 (dgO d) :: [BlkT p2 (dgO d)]))) from St.blk6 (d0 := dg0) d (by rw [List.append_assoc]; exact H6))
  clear hb hd hz H5 H6
  go_wp2_with fail
  have HZ := H7.out
  clear H7 x0 f0 y0 y1 y2 y3 y4 y5 z0 z1 z2 z3 z4 z5 k0 k1 k2 k3 k4 k5
  generalize ((((((w3.setCell ⟨N, 0, none⟩ _).setCell ⟨p1, 0, none⟩ _).setCell ⟨p1, 1, none⟩ _).setCell ⟨p1, 2, none⟩ _).setCell ⟨p1, 3, none⟩ _).setCell ⟨p1, 4, none⟩ _).setCell ⟨p1, 5, none⟩ _ = wz at HZ ⊢
  have hr := HZ.blk _ (by rw [List.append_assoc]; exact get_behind _ _ 2)
  obtain ⟨r0, r1, r2, r3, r4, r5⟩ := dg_cells hr
  have HX := HZ.drop
  rw [HE.out] at HX
  have HX := St.obBack hil.out HX
  refine bodyPost_ret (v := .tuple #[dgV d, .int .i64 0]) ?_ rfl ⟨rfl, HX⟩
  simp [results, Tryz.results27, go_sem, r0, r1, r2, r3, r4, r5]

set_option maxHeartbeats 1600000 in
theorem st_ntake_no (H : St W w R) (i : Nat) {N : Nat} {b : List Dg} {s : Int} (hi : R[i]? = some (NtT N b s)) (k : Nat) (hk : b.length ≤ k) :
    Calls Tryz.prog 27 #[ptr N, .int .i64 k] w fun e w' => e = .returned (.tuple #[dgZ, .int .i64 30]) ∧ St W w' R := by
  have hA := hid (fun o => st_nat_no (H.alloc_ o) i hi k hk)
  have H1 := hid (H.alloc (dgO dg0))
  clear H hi hk
  go_enter Tryz.func27, Tryz.ntmps27
  go_wp2_with fail
  refine (hA.out _).mono ?_
  rintro e w1 ⟨rfl, hF⟩
  have H3 := (H1.out.same hF).alloc (dgO dg0)
  rw [List.append_assoc] at H3
  generalize w.heap.size = p1 at H3 ⊢
  clear H1 hA hF
  go_upto_region 2 with (fail)
  rw [show (ByteArray.empty : ByteArray) = ⟨#[]⟩ from rfl]
  generalize hw2 : w1.alloc (dgO dg0) = w2 at H3
  have hw2' : w1.alloc (.cells #[.int .i64 0, .int .i64 0, .int .i64 0, .int .i64 0, .int .i64 0, .string ⟨#[]⟩] 72) = w2 := hw2
  rw [hw2']
  generalize w1.heap.size = p2 at H3 ⊢
  clear hw2 hw2'
  have hz := H3.blk _ (get_behind _ _ 0)
  have hd := H3.blk _ (get_behind _ _ 1)
  obtain ⟨y0, y1, y2, y3, y4, y5⟩ := dg_cells (d := dg0) hd
  obtain ⟨z0, z1, z2, z3, z4, z5⟩ := dg_cells (d := dg0) hz
  have k0 := free_blk (i := 0) hz
  have k1 := free_blk (i := 1) hz
  have k2 := free_blk (i := 2) hz
  have k3 := free_blk (i := 3) hz
  have k4 := free_blk (i := 4) hz
  have k5 := free_blk (i := 5) hz
  have H7 := hid (St.blk6 (d0 := dg0) dg0 H3)
  clear hz hd H3
  go_wp2_with fail
  have HZ := H7.out
  clear H7 y0 y1 y2 y3 y4 y5 z0 z1 z2 z3 z4 z5 k0 k1 k2 k3 k4 k5
  generalize (((((w2.setCell ⟨p1, 0, none⟩ _).setCell ⟨p1, 1, none⟩ _).setCell ⟨p1, 2, none⟩ _).setCell ⟨p1, 3, none⟩ _).setCell ⟨p1, 4, none⟩ _).setCell ⟨p1, 5, none⟩ _ = wz at HZ ⊢
  have hr := HZ.blk _ (get_behind _ _ 0)
  obtain ⟨r0, r1, r2, r3, r4, r5⟩ := dg_cells (d := dg0) hr
  refine bodyPost_ret (v := .tuple #[dgZ, .int .i64 30]) ?_ rfl ⟨rfl, HZ.drop⟩
  simp [results, Tryz.results27, go_sem, r0, r1, r2, r3, r4, r5]
  rfl

set_option maxHeartbeats 1600000 in
theorem st_ndrop (H : St W w R) (i : Nat) {N : Nat} {b : List Dg} {s : Int} (hi : R[i]? = some (NtT N b s)) (k : Nat) (hbl : b.length ≤ 1073741824) :
    Calls Tryz.prog 29 #[ptr N, .int .i64 k] w fun e w' => ∃ z, e = .returned (.int .i64 z) ∧ St W w' (R.set i (NtT N (b.eraseIdx k) s)) := by
  rcases hk : b[k]? with _ | d
  · have hk2 : b.length ≤ k := List.getElem?_eq_none_iff.1 hk
    have e : b.eraseIdx k = b := List.eraseIdx_of_length_le hk2
    rw [e]
    have HA := hid (st_ntake_no H i hi k hk2)
    have HS := hid (show ∀ wx, St W wx R → St W wx (R.set i (NtT N b s)) from fun wx h => h.set_self hi)
    clear H hi hk hk2 e
    go_enter Tryz.func29, Tryz.ntmps29
    go_wp2_with fail
    refine HA.out.mono ?_
    rintro e w1 ⟨rfl, H1⟩
    have H2 := hid (H1.alloc_ (dgO dg0))
    clear H1
    go_wp2_with fail
    go_ret
    exact ⟨_, rfl, HS.out _ H2.out⟩
  · have HA := hid (st_ntake H i hi k d hk hbl)
    clear H hi hk hbl
    go_enter Tryz.func29, Tryz.ntmps29
    go_wp2_with fail
    refine HA.out.mono ?_
    rintro e w1 ⟨rfl, H1⟩
    have H2 := hid (H1.alloc_ (dgO d))
    clear H1
    go_wp2_with fail
    go_ret
    exact ⟨_, rfl, H2.out⟩

set_option maxHeartbeats 1600000 in
theorem st_ndup (H : St W w R) (i : Nat) {N : Nat} {b : List Dg} {s : Int} (hi : R[i]? = some (NtT N b s)) (k : Nat) (d : Dg) (hk : b[k]? = some d) (hbl : b.length ≤ 1073741824) :
    Calls Tryz.prog 30 #[ptr N, .int .i64 k] w fun e w' => e = .returned (.tuple #[.int .i64 (nextN s), .int .i64 0]) ∧ St W w' (R.set i (NtT N (b ++ [{ d with num := nextN s }]) (nextN s))) := by
  have HA := hid (st_nat H i hi k d hk)
  have HS := hid (fun wx (h : St W wx R) => st_nsend h i hi d.fn d.fl d.tn d.tl d.data hbl)
  have H0 := hid H
  clear H hi hk hbl
  go_enter Tryz.func30, Tryz.ntmps30
  go_wp2_with fail
  refine HA.out.mono ?_
  rintro e w1 ⟨rfl, hF⟩
  have H2 := hid ((H0.out.same hF).alloc_ (dgO d))
  clear hF H0
  go_wp2_with fail
  refine (HS.out _ H2.out).mono ?_
  rintro e w2 ⟨rfl, H3⟩
  have H3 := hid H3
  go_wp2_with fail
  go_ret2
  exact ⟨rfl, H3.out⟩

set_option maxHeartbeats 1600000 in
theorem st_ndup_no (H : St W w R) (i : Nat) {N : Nat} {b : List Dg} {s : Int} (hi : R[i]? = some (NtT N b s)) (k : Nat) (hk : b.length ≤ k) :
    Calls Tryz.prog 30 #[ptr N, .int .i64 k] w fun e w' => e = .returned (.tuple #[.int .i64 0, .int .i64 30]) ∧ St W w' R := by
  have HA := hid (st_nat_no H i hi k hk)
  have H0 := hid H
  clear H hi hk
  go_enter Tryz.func30, Tryz.ntmps30
  go_wp2_with fail
  refine HA.out.mono ?_
  rintro e w1 ⟨rfl, hF⟩
  have H2 := hid ((H0.out.same hF).alloc_ (dgO dg0))
  clear hF H0
  go_wp2_with fail
  go_ret2
  exact ⟨rfl, H2.out⟩
end

end Go.Proofs.YtkiccbjngokpjaaGreat
