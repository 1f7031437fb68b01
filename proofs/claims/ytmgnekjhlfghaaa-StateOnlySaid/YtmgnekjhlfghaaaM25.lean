/-
  Merged, in build order: Ld0 Ld1 QL Ld2.
-/
import Derived.Test.YtmgnekjhlfghaaaM24
import Derived.Test.YtmgnekjhlfghaaaM14
import Derived.Test.YtmgnekjhlfghaaaM19
import Derived.Test.YtmgnekjhlfghaaaM9
/-
  state: Load: what is read, plain; End; row's numbers.
-/
namespace Go.Proofs.Ytmgnekjhlfghaaa
open Go.RowKit
set_option linter.unusedVariables false
set_option linter.unusedSimpArgs false

/-! ### What a reader that may have given up tells, and where it stands then -/
def RS.nG (s : RS) (m : Nat) : Nat := s.got 0 (rdMost s.b s.at_ m 21)
def RS.nF (s : RS) (m : Nat) : RS := s.face (rdMost s.b s.at_ m 21)
def RS.tG (s : RS) (m : Int) : ByteArray := s.got ⟨#[]⟩ (rdText s.b s.at_ m)
def RS.tF (s : RS) (m : Int) : RS := s.face (rdText s.b s.at_ m)
def RS.lG (s : RS) (m : Int) : Nat := s.got 0 (rdMost s.b s.at_ (max 0 m) 23)
def RS.lF (s : RS) (m : Int) : RS := s.face (rdMost s.b s.at_ (max 0 m) 23)
def RS.bG (s : RS) : Nat := s.got 0 (rdBits s.b s.at_)
def RS.bF (s : RS) : RS := s.face (rdBits s.b s.at_)
theorem face_wf {α : Type} {s : RS} {X : Except Int (α × Nat)} (hw : s.wf) (h : ∀ x p, X = .ok (x, p) → p ≤ s.b.size) : (s.face X).wf ∧ (s.face X).b = s.b := by
  unfold RS.face
  split
  · split
    · next n p => exact ⟨⟨h _ _ rfl, hw.mx⟩, rfl⟩
    · exact ⟨⟨hw.le, hw.mx⟩, rfl⟩
  · exact ⟨hw, rfl⟩
theorem RS.nF_wf {s : RS} (hw : s.wf) (m : Nat) : (s.nF m).wf := (face_wf hw fun x p h => (rdMost_p h).2).1
theorem RS.nF_b {s : RS} (m : Nat) : (s.nF m).b = s.b := by unfold RS.nF RS.face; split <;> (try split) <;> rfl
theorem RS.lF_wf {s : RS} (hw : s.wf) (m : Int) : (s.lF m).wf := (face_wf hw fun x p h => (rdMost_p h).2).1
theorem RS.tF_wf {s : RS} (hw : s.wf) (m : Int) : (s.tF m).wf := (face_wf hw fun x p h => rdText_p h).1
theorem RS.bF_wf {s : RS} (hw : s.wf) : (s.bF).wf := (face_wf hw fun x p h => rdBits_p h).1
theorem RS.nG_le (s : RS) (m : Nat) : s.nG m ≤ m := by
  unfold RS.nG RS.got
  split
  · split
    · next n p h => have := rdMost_le h; omega
    · exact Nat.zero_le _
  · exact Nat.zero_le _
theorem RS.lG_le (s : RS) {m : Int} (hm : 0 ≤ m) : (s.lG m : Int) ≤ m := by
  unfold RS.lG RS.got
  split
  · split
    · next n p h => have := rdMost_le h; omega
    · exact hm
  · exact hm
theorem RS.bG_lt (s : RS) : s.bG < 18446744073709551616 := by
  unfold RS.bG RS.got
  split
  · split
    · next n p h => exact (rdBits_iff.1 h).2
    · decide
  · decide
theorem RS.tG_le (s : RS) (hw : s.wf) {m : Int} (hm : 0 ≤ m) : ((s.tG m).size : Int) ≤ m := by
  unfold RS.tG RS.got
  split
  · split
    · next n p h => have h1 := hw.mx; exact ((rdText_iff hm (by omega)).1 h).2
    · exact hm
  · exact hm
def RS.end_ (s : RS) : Int × Int := if s.e = 0 ∧ s.at_ < s.b.size then (24, s.at_) else s.fault
/-- A row, read. -/
def RS.row (s : RS) (job : Int) : QR := ⟨job, s.nG 4, (s.nF 4).nG 8, ((s.nF 4).nF 8).nG 1099511627776, (((s.nF 4).nF 8).nF 1099511627776).nG 9, ((((s.nF 4).nF 8).nF 1099511627776).nF 9).nG 1099511627776, (((((s.nF 4).nF 8).nF 1099511627776).nF 9).nF 1099511627776).nG 7, ((((((s.nF 4).nF 8).nF 1099511627776).nF 9).nF 1099511627776).nF 7).bG⟩
def RS.rowF (s : RS) : RS := ((((((s.nF 4).nF 8).nF 1099511627776).nF 9).nF 1099511627776).nF 7).bF
theorem RS.rowF_wf {s : RS} (hw : s.wf) : s.rowF.wf := RS.bF_wf (RS.nF_wf (RS.nF_wf (RS.nF_wf (RS.nF_wf (RS.nF_wf (RS.nF_wf hw _) _) _) _) _) _)

section
variable {W : Base} {w : World} {R : List Thing}
set_option maxHeartbeats 1600000 in
theorem st_end (H : St W w R) (i : Nat) {r : Nat} {s : RS} (hi : R[i]? = some (RdT r s)) :
    Calls Try.prog 47 #[.pointer (some ⟨r, 0, none⟩)] w fun e w' => e = .returned (.tuple #[.int .i64 s.end_.1, .int .i64 s.end_.2]) ∧ St W w' R := by
  obtain ⟨c0, c1, c2, f, hl⟩ := H.rd i hi
  have HH := hid (fun m => H.drewN m)
  have hF := hid (fun m => st_fault (H.drewN m) i hi)
  clear H hi f
  unfold RS.end_
  by_cases h : s.e = 0
  · by_cases h2 : s.at_ < s.b.size
    · rw [if_pos ⟨h, h2⟩]
      rw [h] at c2
      have h3 : (s.at_ : Int) < s.b.size := by omega
      have h4 : decide ((s.at_ : Int) < s.b.size) = true := decide_eq_true h3
      clear h
      go_enter Try.func47, Try.ntmps47
      go_wp2_with fail
      go_quiet (fail)
      go_wp2_with fail
      go_quiet (fail)
      go_wp2_with fail
      go_ret2
      exact ⟨rfl, (HH.out _).drewN _⟩
    · rw [if_neg (fun h => h2 h.2)]
      rw [h] at c2
      have h3 : ¬ (s.at_ : Int) < s.b.size := by omega
      have h4 : decide ((s.at_ : Int) < s.b.size) = false := decide_eq_false h3
      generalize s.fault = z at hF ⊢
      clear h
      go_enter Try.func47, Try.ntmps47
      go_wp2_with fail
      go_quiet (fail)
      go_wp2_with (go_at_call 81; refine (hF.out _).mono ?_; rintro e w1 ⟨rfl, H1⟩)
      go_ret2
      exact ⟨rfl, H1⟩
  · rw [if_neg (fun h2 => h h2.1)]
    have e1 : (s.e == 0) = false := by rw [beq_eq_false_iff_ne]; exact h
    generalize s.fault = z at hF ⊢
    generalize s.e = y at c2 e1 h
    go_enter Try.func47, Try.ntmps47
    go_wp2_with fail
    go_quiet (fail)
    go_wp2_with (go_at_call 81; refine (hF.out _).mono ?_; rintro e w1 ⟨rfl, H1⟩)
    go_ret2
    exact ⟨rfl, H1⟩

theorem st_row1 (H : St W w R) (i : Nat) {r : Nat} {s : RS} (hi : R[i]? = some (RdT r s)) (hw : s.wf) {j bx : Nat} (hj : R[j]? = some (BlkT bx (.cells #[.pointer (some ⟨r, 0, none⟩)] 99))) (m : Nat) (hm : m ≤ 1099511627776) :
    Calls Try.prog 72 #[.int .u64 m, .pointer (some ⟨bx, 0, none⟩)] w fun e w' => e = .returned (.int .i64 (s.nG m : Nat)) ∧ St W w' (R.set i (RdT r (s.nF m))) := by
  have p0 : w.cell? ⟨bx, 0, none⟩ = some (.pointer (some ⟨r, 0, none⟩)) := cell_blk (H.blk j hj) rfl
  have hN := hid (show Calls Try.prog 43 #[.pointer (some ⟨r, 0, none⟩), .int .u64 m] w fun e w' => e = .returned (.int .u64 (s.nG m : Nat)) ∧ St W w' (R.set i (RdT r (s.nF m))) from st_Num H i hi hw (by omega))
  have hg := s.nG_le m
  generalize s.nG m = g at hN hg ⊢
  have hw1 : IntKind.i64.wrap (g : Int) = g := IntWalk.i64_in _ (by omega)
  clear H hi hj
  go_enter Try.func72, Try.ntmps72
  go_wp2_with (go_at_call 43; refine hN.out.mono ?_; rintro e w1 ⟨rfl, H1⟩; have H1 := hid H1)
  go_ret
  exact ⟨rfl, H1.out⟩
theorem enter_row1 (args : Array Value) (w : World) : (callFunc 72 args).run Try.prog w = .ok (.enter 72 args) w := run_enter Try.func72 (by kernel_rfl) rfl args w
end
end Go.Proofs.Ytmgnekjhlfghaaa

/-
  state: row.
-/
namespace Go.Proofs.Ytmgnekjhlfghaaa
open Go.RowKit
set_option linter.unusedVariables false
set_option linter.unusedSimpArgs false

section
variable {W : Base} {w : World} {R : List Thing}
abbrev rxO (r : Nat) : Obj := .cells #[.pointer (some ⟨r, 0, none⟩)] 99
abbrev rzO : Obj := .cells #[.int .i64 0, .int .i64 0, .int .i64 0, .int .i64 0, .int .i64 0, .int .i64 0, .int .i64 0, .int .u64 0] 54
theorem St.blk8 {T rest : List Thing} {b : Nat} {u0 u1 u2 u3 u4 u5 u6 u7 : Value} {t : TypeId} (v0 v1 v2 v3 v4 v5 v6 v7 : Value) (H : St W w (T ++ (BlkT b (.cells #[u0, u1, u2, u3, u4, u5, u6, u7] t) :: rest))) :
    St W ((((((((w.setCell ⟨b, 0, none⟩ v0).setCell ⟨b, 1, none⟩ v1).setCell ⟨b, 2, none⟩ v2).setCell ⟨b, 3, none⟩ v3).setCell ⟨b, 4, none⟩ v4).setCell ⟨b, 5, none⟩ v5).setCell ⟨b, 6, none⟩ v6).setCell ⟨b, 7, none⟩ v7) (T ++ (BlkT b (.cells #[v0, v1, v2, v3, v4, v5, v6, v7] t) :: rest)) := by
  have e : ∀ A B : Thing, (T ++ (A :: rest)).set T.length B = T ++ (B :: rest) := fun A B => by simp
  have g : ∀ A : Thing, (T ++ (A :: rest))[T.length]? = some A := fun A => by simp
  have h1 := H.setBlk T.length (g _) 0 v0
  simp only [e, List.setIfInBounds_toArray, List.set_cons_zero, List.set_cons_succ] at h1
  have h2 := h1.setBlk T.length (g _) 1 v1
  simp only [e, List.setIfInBounds_toArray, List.set_cons_zero, List.set_cons_succ] at h2
  have h3 := h2.setBlk T.length (g _) 2 v2
  simp only [e, List.setIfInBounds_toArray, List.set_cons_zero, List.set_cons_succ] at h3
  have h4 := h3.setBlk T.length (g _) 3 v3
  simp only [e, List.setIfInBounds_toArray, List.set_cons_zero, List.set_cons_succ] at h4
  have h5 := h4.setBlk T.length (g _) 4 v4
  simp only [e, List.setIfInBounds_toArray, List.set_cons_zero, List.set_cons_succ] at h5
  have h6 := h5.setBlk T.length (g _) 5 v5
  simp only [e, List.setIfInBounds_toArray, List.set_cons_zero, List.set_cons_succ] at h6
  have h7 := h6.setBlk T.length (g _) 6 v6
  simp only [e, List.setIfInBounds_toArray, List.set_cons_zero, List.set_cons_succ] at h7
  have h8 := h7.setBlk T.length (g _) 7 v7
  simp only [e, List.setIfInBounds_toArray, List.set_cons_zero, List.set_cons_succ] at h8
  exact h8
set_option maxHeartbeats 4000000 in
set_option maxRecDepth 100000 in
theorem st_srow (H : St W w R) (i : Nat) {r : Nat} {s : RS} (hi : R[i]? = some (RdT r s)) (hw : s.wf) (job : Int) :
    Calls Try.prog 44 #[.pointer (some ⟨r, 0, none⟩), .int .i64 job] w fun e w' => e = .returned (.agg (QR.f (s.row job)).toArray) ∧ St W w' (R.set i (RdT r s.rowF)) := by
  have hmf : ∀ (fn : Fn) (first cap : Array Value) (w : World), (Instr.makeFunc fn first cap).run Try.prog w = .ok (.func fn first cap) w := fun _ _ _ _ => rfl
  have hil := lt_of_get hi
  have hent := enter_row1
  have HC := hid (show ∀ (wx : World) (T : List Thing) (s' : RS), s'.wf → St W wx (R.set i (RdT r s') ++ (BlkT w.heap.size (rxO r) :: T)) → ∀ m : Nat, m ≤ 1099511627776 →
      Calls Try.prog 72 #[.int .u64 m, .pointer (some ⟨w.heap.size, 0, none⟩)] wx fun e w' => e = .returned (.int .i64 (s'.nG m : Nat)) ∧ St W w' (R.set i (RdT r (s'.nF m)) ++ (BlkT w.heap.size (rxO r) :: T)) from fun wx T s' hs' H' m hm => by
    have h := st_row1 H' i (r := r) (s := s') (by rw [List.getElem?_append_left (by simpa using hil), List.getElem?_set_self hil]) hs' (j := (R.set i (RdT r s')).length + 0) (bx := w.heap.size) (by rw [get_behind]; rfl) m hm
    rwa [List.set_append_left _ _ (by simpa using hil), List.set_set] at h)
  have HX := hid (show St W ((w.alloc (rxO r)).alloc rzO) (R.set i (RdT r s) ++ (BlkT w.heap.size (rxO r) :: [BlkT (w.heap.size + 1) rzO])) by
    have h := (H.alloc (rxO r)).allocAt rzO (w.heap.size + 1) (by simp)
    rw [List.append_assoc] at h
    rw [things_set_self hi]
    exact h)
  have HW := hid hw
  have HI := hid hi
  clear H hi hw
  go_enter Try.func44, Try.ntmps44
  go_wp2_with fail
  refine (HC.out _ _ _ HW.out HX.out 4 (by decide)).mono ?_
  rintro e w1 ⟨rfl, H1⟩
  have hw1 := RS.nF_wf HW.out 4
  have HA := hid (HC.out _ _ _ hw1 H1 8 (by decide))
  clear H1 HX
  go_wp2_with fail
  refine HA.out.mono ?_
  rintro e w2 ⟨rfl, H2⟩
  have hw2 := RS.nF_wf hw1 8
  have HB := hid (HC.out _ _ _ hw2 H2 1099511627776 (by decide))
  clear H2 HA
  go_wp2_with fail
  refine HB.out.mono ?_
  rintro e w3 ⟨rfl, H3⟩
  have hw3 := RS.nF_wf hw2 1099511627776
  obtain ⟨s3, hs3⟩ : ∃ s3, ((s.nF 4).nF 8).nF 1099511627776 = s3 := ⟨_, rfl⟩
  rw [hs3] at H3 hw3
  obtain ⟨g1, hg1⟩ : ∃ g1, s.nG 4 = g1 := ⟨_, rfl⟩
  obtain ⟨g2, hg2⟩ : ∃ g2, (s.nF 4).nG 8 = g2 := ⟨_, rfl⟩
  obtain ⟨g3, hg3⟩ : ∃ g3, ((s.nF 4).nF 8).nG 1099511627776 = g3 := ⟨_, rfl⟩
  rw [hg1, hg2, hg3]
  have H4 := H3.alloc (Obj.cells #[.int .i64 job, .int .i64 (g1 : Nat), .int .i64 (g2 : Nat), .int .i64 (g3 : Nat), .int .i64 0, .int .i64 0, .int .i64 0, .int .u64 0] 54)
  rw [List.append_assoc] at H4
  have HD := hid (HC.out _ _ _ hw3 H4 9 (by decide))
  have HGG := hid (And.intro hs3 (And.intro hg1 (And.intro hg2 hg3)))
  clear H3 H4 HB hw1 hw2 hs3 hg1 hg2 hg3
  go_wp2_with fail
  generalize w3.heap.size = xb at HD ⊢
  refine HD.out.mono ?_
  rintro e w5 ⟨rfl, H5⟩
  have hw5 := RS.nF_wf hw3 9
  have HE := hid (HC.out _ _ _ hw5 H5 1099511627776 (by decide))
  clear H5 HD
  go_wp2_with fail
  refine HE.out.mono ?_
  rintro e w6 ⟨rfl, H6⟩
  have hw6 := RS.nF_wf hw5 1099511627776
  obtain ⟨s5, hs5⟩ : ∃ s5, (s3.nF 9).nF 1099511627776 = s5 := ⟨_, rfl⟩
  rw [hs5] at H6 hw6
  obtain ⟨g4, hg4⟩ : ∃ g4, s3.nG 9 = g4 := ⟨_, rfl⟩
  obtain ⟨g5, hg5⟩ : ∃ g5, (s3.nF 9).nG 1099511627776 = g5 := ⟨_, rfl⟩
  rw [hg4, hg5]
  have hbx := H6.blk ((R.set i (RdT r s5)).length + 2) (by rw [get_behind]; rfl)
  have x4 := cell_blk (i := 4) hbx rfl
  have x5 := cell_blk (i := 5) hbx rfl
  have f4 := free_blk (i := 4) hbx
  have f5 := free_blk (i := 5) hbx
  have H7a := H6.setBlk ((R.set i (RdT r s5)).length + 2) (by rw [get_behind]; rfl) 4 (.int .i64 (g4 : Nat))
  rw [List.set_append_right _ _ (by omega), Nat.add_sub_cancel_left] at H7a
  have H7 := H7a.setBlk ((R.set i (RdT r s5)).length + 2) (by rw [get_behind]; rfl) 5 (.int .i64 (g5 : Nat))
  rw [List.set_append_right _ _ (by omega), Nat.add_sub_cancel_left] at H7
  have H7 := hid (show St W _ (R.set i (RdT r s5) ++ (BlkT w.heap.size (rxO r) :: [BlkT (w.heap.size + 1) rzO, BlkT xb (.cells #[.int .i64 job, .int .i64 (g1 : Nat), .int .i64 (g2 : Nat), .int .i64 (g3 : Nat), .int .i64 (g4 : Nat), .int .i64 (g5 : Nat), .int .i64 0, .int .u64 0] 54)])) from H7)
  have HGH := hid (And.intro hs5 (And.intro hg4 hg5))
  clear H6 H7a hbx HE hw3 hw5 hs5 hg4 hg5
  go_wp2_with fail
  have p0 := cell_blk (i := 0) (H7.out.blk ((R.set i (RdT r s5)).length + 0) (by rw [get_behind]; rfl)) rfl
  have HCC := hid (HC.out _ _ _ hw6 H7.out.drew 7 (by decide))
  have hw7 := hid (RS.nF_wf hw6 7)
  clear x4 x5 f4 f5
  refine wp_region_held_drew (S := fun wx : World => wx.cell? ⟨w.heap.size, 0, none⟩ = some (.pointer (some ⟨r, 0, none⟩))) (by kernel_rfl) p0 (fun hHeld => ?_)
  refine takeD (i := 0) (d := 22) (v := ?_) rfl rfl (by kernel_rfl) (by kernel_rfl) (by kernel_rfl) (fun _ _ _ h => h) (Or.inl ⟨by rfl, ?_⟩) hHeld ?_
  rotate_left
  · intro wq hSw; (try dsimp only at hSw); go_simp; all_goals (with_reducible rfl)
  simp only [Act.put, List.setIfInBounds_toArray, List.set_cons_zero, List.set_cons_succ]
  refine takeD (i := 2) (d := 24) (v := ?_) rfl rfl (by kernel_rfl) (by kernel_rfl) (by kernel_rfl) (fun _ _ _ h => h) (Or.inl ⟨by rfl, ?_⟩) hHeld ?_
  rotate_left
  · intro wq hSw; (try dsimp only at hSw); go_simp; all_goals (with_reducible rfl)
  simp only [Act.put, List.setIfInBounds_toArray, List.set_cons_zero, List.set_cons_succ]
  refine wpAnyH_ready (rs := [1]) (by kernel_rfl) (by simp) ?_
  refine AllReadyH.cons rfl (fun K hK => ?_) AllReadyH.nil
  go_simp
  go_at_call 72
  refine HCC.out.mono ?_
  rintro e w8 ⟨rfl, H8⟩
  have n8 : w8.cell? ⟨w.heap.size, 0, none⟩ = some (.pointer (some ⟨r, 0, none⟩)) := cell_blk (i := 0) (H8.blk ((R.set i (RdT r (s5.nF 7))).length + 0) (by rw [get_behind]; rfl)) rfl
  have H8 := hid H8
  refine hK.out _ _ n8 (fun hHeld => ?_)
  clear hK K p0
  refine wpAnyH_ready (rs := [3]) (by kernel_rfl) (by simp) ?_
  refine AllReadyH.cons rfl (fun K hK => ?_) AllReadyH.nil
  go_simp
  go_at_call 73
  refine (show Calls Try.prog 73 #[.pointer (some ⟨r, 0, none⟩)] w8 fun e w' => e = .returned (.int .u64 ((s5.nF 7).bG : Nat)) ∧ St W w' ((R.set i (RdT r (s5.nF 7)) ++ (BlkT w.heap.size (rxO r) :: [BlkT (w.heap.size + 1) rzO, BlkT xb (.cells #[.int .i64 job, .int .i64 (g1 : Nat), .int .i64 (g2 : Nat), .int .i64 (g3 : Nat), .int .i64 (g4 : Nat), .int .i64 (g5 : Nat), .int .i64 0, .int .u64 0] 54)])).set i (RdT r (s5.nF 7).bF)) from st_Bits H8.out i (r := r) (s := s5.nF 7) (by rw [List.getElem?_append_left (by simpa using hil), List.getElem?_set_self hil]) hw7.out).mono ?_
  rintro e w9 ⟨rfl, H9⟩
  rw [List.set_append_left _ _ (by simpa using hil), List.set_set] at H9
  obtain ⟨g6, hg6⟩ : ∃ g6, s5.nG 7 = g6 := ⟨_, rfl⟩
  obtain ⟨g7, hg7⟩ : ∃ g7, (s5.nF 7).bG = g7 := ⟨_, rfl⟩
  rw [hg6, hg7]
  have n9 : w9.cell? ⟨w.heap.size, 0, none⟩ = some (.pointer (some ⟨r, 0, none⟩)) := cell_blk (i := 0) (H9.blk ((R.set i (RdT r (s5.nF 7).bF)).length + 0) (by rw [get_behind]; rfl)) rfl
  have bX := H9.blk ((R.set i (RdT r (s5.nF 7).bF)).length + 2) (by rw [get_behind]; rfl)
  have q6 : w9.cell? ⟨xb, 6, none⟩ = some (.int .i64 0) := cell_blk (i := 6) bX rfl
  have q7 : w9.cell? ⟨xb, 7, none⟩ = some (.int .u64 0) := cell_blk (i := 7) bX rfl
  have j6 := free_blk (i := 6) bX
  have j7 := free_blk (i := 7) bX
  have H10a := H9.setBlk ((R.set i (RdT r (s5.nF 7).bF)).length + 2) (by rw [get_behind]; rfl) 6 (.int .i64 (g6 : Nat))
  rw [List.set_append_right _ _ (by omega), Nat.add_sub_cancel_left] at H10a
  have H10 := H10a.setBlk ((R.set i (RdT r (s5.nF 7).bF)).length + 2) (by rw [get_behind]; rfl) 7 (.int .u64 (g7 : Nat))
  rw [List.set_append_right _ _ (by omega), Nat.add_sub_cancel_left] at H10
  have H10 := hid (show St W _ (R.set i (RdT r (s5.nF 7).bF) ++ (BlkT w.heap.size (rxO r) :: [BlkT (w.heap.size + 1) rzO, BlkT xb (.cells #[.int .i64 job, .int .i64 (g1 : Nat), .int .i64 (g2 : Nat), .int .i64 (g3 : Nat), .int .i64 (g4 : Nat), .int .i64 (g5 : Nat), .int .i64 (g6 : Nat), .int .u64 (g7 : Nat)] 54)])) from H10)
  have HG7 := hid (And.intro hg6 hg7)
  clear H9 H10a bX hg6 hg7
  refine hK.out _ _ n9 (fun hHeld => ?_)
  clear hK K n8
  refine takeD (i := 4) (d := 26) (v := ?_) rfl rfl (by kernel_rfl) (by kernel_rfl) (by kernel_rfl) (fun _ _ _ h => h) (Or.inl ⟨by rfl, ?_⟩) hHeld ?_
  rotate_left
  · intro wq hSw; (try dsimp only at hSw); go_simp; all_goals (with_reducible rfl)
  simp only [Act.put, List.setIfInBounds_toArray, List.set_cons_zero, List.set_cons_succ]
  refine takeD (i := 5) (d := 27) (v := ?_) rfl rfl (by kernel_rfl) (by kernel_rfl) (by kernel_rfl) (fun _ _ _ h => h) (Or.inl ⟨by rfl, ?_⟩) hHeld ?_
  rotate_left
  · intro wq hSw; (try dsimp only at hSw); go_simp; all_goals (with_reducible rfl)
  simp only [Act.put, List.setIfInBounds_toArray, List.set_cons_zero, List.set_cons_succ]
  refine wpAnyH_ready (rs := [6]) (by kernel_rfl) (by simp) ?_
  refine AllReadyH.cons rfl (fun K hK => ?_) AllReadyH.nil
  go_simp
  have n10 := cell_blk (i := 0) (v := .pointer (some ⟨r, 0, none⟩)) (H10.out.blk ((R.set i (RdT r (s5.nF 7).bF)).length + 0) (by rw [get_behind]; rfl)) rfl
  refine hK.out _ _ n10 (fun _ => ?_)
  clear hK K n9 n10 hHeld q6 q7 j6 j7
  refine wpAnyH_done (by kernel_rfl) ?_ _
  generalize (w9.setCell ⟨xb, 6, none⟩ (.int .i64 (g6 : Nat))).setCell ⟨xb, 7, none⟩ (.int .u64 (g7 : Nat)) = w10 at H10 ⊢
  have hres : s.row job = ⟨job, g1, g2, g3, g4, g5, g6, g7⟩ ∧ s.rowF = (s5.nF 7).bF := by
    obtain ⟨a1, a2, a3, a4⟩ := HGG.out
    obtain ⟨a5, a6, a7⟩ := HGH.out
    obtain ⟨a8, a9⟩ := HG7.out
    subst a1 a5
    refine ⟨?_, rfl⟩
    unfold RS.row
    rw [a2, a3, a4, a6, a7, a8, a9]
  have HRES := hid hres
  clear hres HGG HGH HG7 HCC hw6 H7 H8 hw7
  go_upto_region 5 with (fail)
  go_cut [4] from 3 (fun s4 wx => s4 = .pointer (some ⟨w.heap.size + 1, 0, none⟩) ∧ wx.heap[w.heap.size + 1]? = some (.cells #[.int .i64 job, .int .i64 (g1 : Nat), .int .i64 (g2 : Nat), .int .i64 (g3 : Nat), .int .i64 (g4 : Nat), .int .i64 (g5 : Nat), .int .i64 (g6 : Nat), .int .u64 (g7 : Nat)] 54 (0, 0)) ∧ St W wx (R.set i (RdT r (s5.nF 7).bF)))
  case first =>
    have bX2 := H10.out.blk ((R.set i (RdT r (s5.nF 7).bF)).length + 2) (by rw [get_behind]; rfl)
    have bZ := H10.out.blk ((R.set i (RdT r (s5.nF 7).bF)).length + 1) (by rw [get_behind]; rfl)
    have xx0 := cell_blk (i := 0) bX2 rfl
    have xx1 := cell_blk (i := 1) bX2 rfl
    have xx2 := cell_blk (i := 2) bX2 rfl
    have xx3 := cell_blk (i := 3) bX2 rfl
    have xx4 := cell_blk (i := 4) bX2 rfl
    have xx5 := cell_blk (i := 5) bX2 rfl
    have xx6 := cell_blk (i := 6) bX2 rfl
    have xx7 := cell_blk (i := 7) bX2 rfl
    have zz0 : w10.cell? ⟨w.heap.size + 1, 0, none⟩ = some (.int .i64 0) := cell_blk bZ rfl
    have yy0 : w10.frozen? ⟨w.heap.size + 1, 0, none⟩ = false := free_blk bZ
    have zz1 : w10.cell? ⟨w.heap.size + 1, 1, none⟩ = some (.int .i64 0) := cell_blk bZ rfl
    have yy1 : w10.frozen? ⟨w.heap.size + 1, 1, none⟩ = false := free_blk bZ
    have zz2 : w10.cell? ⟨w.heap.size + 1, 2, none⟩ = some (.int .i64 0) := cell_blk bZ rfl
    have yy2 : w10.frozen? ⟨w.heap.size + 1, 2, none⟩ = false := free_blk bZ
    have zz3 : w10.cell? ⟨w.heap.size + 1, 3, none⟩ = some (.int .i64 0) := cell_blk bZ rfl
    have yy3 : w10.frozen? ⟨w.heap.size + 1, 3, none⟩ = false := free_blk bZ
    have zz4 : w10.cell? ⟨w.heap.size + 1, 4, none⟩ = some (.int .i64 0) := cell_blk bZ rfl
    have yy4 : w10.frozen? ⟨w.heap.size + 1, 4, none⟩ = false := free_blk bZ
    have zz5 : w10.cell? ⟨w.heap.size + 1, 5, none⟩ = some (.int .i64 0) := cell_blk bZ rfl
    have yy5 : w10.frozen? ⟨w.heap.size + 1, 5, none⟩ = false := free_blk bZ
    have zz6 : w10.cell? ⟨w.heap.size + 1, 6, none⟩ = some (.int .i64 0) := cell_blk bZ rfl
    have yy6 : w10.frozen? ⟨w.heap.size + 1, 6, none⟩ = false := free_blk bZ
    have zz7 : w10.cell? ⟨w.heap.size + 1, 7, none⟩ = some (.int .u64 0) := cell_blk bZ rfl
    have yy7 : w10.frozen? ⟨w.heap.size + 1, 7, none⟩ = false := free_blk bZ
    have hlz := lt_of_block bZ
    clear bX2 bZ
    go_wp2_with fail
    go_meet
    have H11 := St.blk8 (T := R.set i (RdT r (s5.nF 7).bF) ++ [BlkT w.heap.size (rxO r)]) (rest := [BlkT xb (.cells #[.int .i64 job, .int .i64 (g1 : Nat), .int .i64 (g2 : Nat), .int .i64 (g3 : Nat), .int .i64 (g4 : Nat), .int .i64 (g5 : Nat), .int .i64 (g6 : Nat), .int .u64 (g7 : Nat)] 54)]) (.int .i64 job) (.int .i64 (g1 : Nat)) (.int .i64 (g2 : Nat)) (.int .i64 (g3 : Nat)) (.int .i64 (g4 : Nat)) (.int .i64 (g5 : Nat)) (.int .i64 (g6 : Nat)) (.int .u64 (g7 : Nat)) (by
      rw [List.append_assoc]; exact H10.out)
    have hb := H11.blk ((R.set i (RdT r (s5.nF 7).bF) ++ [BlkT w.heap.size (rxO r)]).length + 0) (by rw [get_behind]; rfl)
    have hd := H11.drop.drop
    clear H11
    exact ⟨rfl, hb, hd⟩
  case rest =>
    obtain ⟨rfl, hb, hd⟩ := hcut
    have x0 := cell_blk (i := 0) hb rfl
    have x1 := cell_blk (i := 1) hb rfl
    have x2 := cell_blk (i := 2) hb rfl
    have x3 := cell_blk (i := 3) hb rfl
    have x4 := cell_blk (i := 4) hb rfl
    have x5 := cell_blk (i := 5) hb rfl
    have x6 := cell_blk (i := 6) hb rfl
    have x7 := cell_blk (i := 7) hb rfl
    have HD := hid hd
    clear hb hd
    go_wp2_with fail
    (try simp only [Exit.inBlock, Exit.then])
    refine bodyPost_ret (v := .agg #[.int .i64 job, .int .i64 (g1 : Nat), .int .i64 (g2 : Nat), .int .i64 (g3 : Nat), .int .i64 (g4 : Nat), .int .i64 (g5 : Nat), .int .i64 (g6 : Nat), .int .u64 (g7 : Nat)]) (by simp [results, Try.results44, go_sem, x0, x1, x2, x3, x4, x5, x6, x7]) rfl ?_
    exact ⟨by rw [HRES.out.1]; rfl, by rw [HRES.out.2]; exact HD.out⟩
end
end Go.Proofs.Ytmgnekjhlfghaaa

/-
  queue: Load, for other layers' dumps.
-/
namespace Go.Proofs.Ytmgnekjhlfghaaa
open Go.RowKit
set_option linter.unusedVariables false
set_option linter.unusedSimpArgs false

theorem row_at {q : QS} {k : Nat} (hk : k < q.rows.length) {j : Int} (hj : j = k + 1) : q.row j = (qL.nth q.rows k, true) := by
  unfold QS.row
  rw [if_neg (by omega), show (j - 1).toNat = k by omega]
theorem row_no {q : QS} {j : Int} (hj : j < 1 ∨ (q.rows.length : Int) < j) : q.row j = (.zero, false) := by unfold QS.row; rw [if_pos hj]
section
variable {W : Base} {w : World} {R : List Thing}

theorem st_findIs (H : St W w R) (i : Nat) {Q : Nat} {q : QS} (hi : R[i]? = some (QkT Q q)) (hl : q.rows.length ≤ 8) {b : Int} {x : QR} {z : Bool} (hj : q.find b = (x, z)) :
    Calls Try.prog 39 #[.pointer (some ⟨Q, 0, none⟩), .int .i64 b] w fun e w' => e = .returned (.tuple #[.agg #[.int .i64 x.job, .int .i64 x.st, .int .i64 x.at_, .int .i64 x.ba, .int .i64 x.node, .int .i64 x.life, .int .i64 x.code, .int .u64 x.bits], .bool z]) ∧ St W w' R := by
  refine (st_find H i hi hl b).mono ?_
  rintro e w' ⟨x', z', h, rfl, hF⟩
  rw [hj] at h
  obtain ⟨rfl, rfl⟩ := (Prod.mk.injEq _ _ _ _).mp h
  exact ⟨rfl, H.same hF⟩
end
theorem find_snd (q : QS) (b : Int) : (q.find b).2 = true ↔ ∃ i, i < q.rows.length ∧ 0 < b ∧ (qL.nth q.rows i).ba = b := by
  unfold QS.find
  rcases fIdx_cases (QR.pFind b) q.rows with ⟨k, hk, hp, _, he⟩ | ⟨ha, he⟩
  · rw [he, row_at hk rfl]
    simp only [QR.pFind, Bool.and_eq_true, beq_iff_eq, decide_eq_true_eq] at hp
    exact ⟨fun _ => ⟨k, hk, hp.2, hp.1⟩, fun _ => rfl⟩
  · rw [he, row_no (by omega)]
    refine ⟨(fun h => by cases h), fun ⟨i, hi, h0, h1⟩ => ?_⟩
    have h2 := ha i hi
    simp [QR.pFind, h1, h0] at h2

/-- One row more is as it may be. -/
theorem wf_snoc {q : QS} (hw : q.wf) (hl : q.rows.length < 8) (x : QR) : ({ q with rows := q.rows ++ [x] } : QS).wf ↔ (q.find x.ba).2 = false ∧ x.may q.att (q.rows.length + 1) = true := by
  constructor
  · intro h
    have hx : qL.nth (q.rows ++ [x]) q.rows.length = x := by rw [qL.nth_snoc, if_pos rfl]
    constructor
    · rw [← Bool.not_eq_true, find_snd]
      rintro ⟨i, hi, h0, h1⟩
      have h2 := h.ba i q.rows.length hi (by simp)
      simp only [hx] at h2
      rw [qL.nth_snoc, if_neg (by omega)] at h2
      exact h2 h0 h1
    · have h3 := h.ok q.rows.length (by simp)
      simp only [hx] at h3
      exact h3
  · rintro ⟨h1, h2⟩
    have h3 : ¬ (q.find x.ba).2 = true := by rw [h1]; simp
    rw [find_snd] at h3
    refine ⟨hw.a1, hw.a2, by simp; omega, fun k hk => ?_, fun i j hij hj h0 => ?_⟩
    · simp only [List.length_append, List.length_cons, List.length_nil] at hk
      show (qL.nth (q.rows ++ [x]) k).may q.att (k + 1) = true
      rw [qL.nth_snoc]
      split
      · rename_i he; rw [he]; exact h2
      · exact hw.ok k (by omega)
    · simp only [List.length_append, List.length_cons, List.length_nil] at hj
      revert h0
      show 0 < (qL.nth (q.rows ++ [x]) j).ba → (qL.nth (q.rows ++ [x]) i).ba ≠ (qL.nth (q.rows ++ [x]) j).ba
      rw [qL.nth_snoc, qL.nth_snoc, if_neg (show ¬ i = q.rows.length by omega)]
      split
      · exact fun h0 he => h3 ⟨i, by omega, h0, he⟩
      · exact fun h0 => hw.ba i j hij (by omega) h0

theorem wf_take {n : Int} {l : List QR} (hw : (⟨n, l⟩ : QS).wf) (k : Nat) : (⟨n, l.take k⟩ : QS).wf := by
  have hn : ∀ i, i < (l.take k).length → qL.nth (l.take k) i = qL.nth l i := fun i hi => by
    simp only [List.length_take] at hi
    have h1 := qL.nth_get (l := l.take k) (k := i) (by simp only [List.length_take]; omega)
    have h2 := qL.nth_get (l := l) (k := i) (by omega)
    rw [List.getElem?_take, if_pos (by omega), h2] at h1
    exact (Option.some.inj h1).symm
  have h8 := hw.n
  refine ⟨hw.a1, hw.a2, by show (l.take k).length ≤ 8; simp only [List.length_take]; have : l.length ≤ 8 := h8; omega, fun i hi => ?_, fun i j hij hj h0 => ?_⟩
  · show (qL.nth (l.take k) i).may n (i + 1) = true
    rw [hn i hi]
    exact hw.ok i (by have : i < (l.take k).length := hi; simp only [List.length_take] at this; show i < l.length; omega)
  · have hj' : j < (l.take k).length := hj
    revert h0
    show 0 < (qL.nth (l.take k) j).ba → (qL.nth (l.take k) i).ba ≠ (qL.nth (l.take k) j).ba
    rw [hn i (by omega), hn j hj']
    exact fun h0 => hw.ba i j hij (by simp only [List.length_take] at hj'; show j < l.length; omega) h0

theorem st_of_one {W : Base} {w w' : World} {R : List Thing} (H : St W w R) {Q : Nat} {q : QS} (h : St (.of w) w' [QkT Q q]) : St W w' (R ++ [QkT Q q]) := by
  obtain ⟨F, h1, h2⟩ := h.get 0 rfl
  exact H.new h.fr inferInstance h1 (fun x hx => (h2 x hx).elim (fun h => by cases h) id)

set_option maxHeartbeats 3200000 in
set_option maxRecDepth 100000 in
theorem qload_any (w : World) (n : Int) (hn1 : 1 ≤ n) (hn8 : n ≤ 8) (a : Option Addr) (m cap : Nat) (l : List QR) (hm : l.length = m) (ha : In w 8 a m cap (qL.at_ l)) :
    Calls Try.prog 48 #[.int .i64 n, .slice a m cap] w fun e w' => (⟨n, l⟩ : QS).wf ∧ (∃ Q, e = .returned (.tuple #[.pointer (some ⟨Q, 0, none⟩), .int .i64 0]) ∧ St (.of w) w' [QkT Q ⟨n, l⟩]) ∨ ¬ (⟨n, l⟩ : QS).wf ∧ e = .returned (.tuple #[.pointer none, .int .i64 114]) ∧ Fr [] w w' := by
  subst hm
  have hmx := ha.max
  have H := St.refl w
  by_cases hl : 8 < l.length
  · have HW := hid (show ¬ (⟨n, l⟩ : QS).wf from fun h => by have h1 : l.length ≤ 8 := h.n; omega)
    clear ha
    go_enter Try.func48, Try.ntmps48
    go_wp2_with fail
    refine (st_qnew H n hn1 hn8).mono ?_
    clear H
    rintro e w101 ⟨Q, rfl, H⟩
    try simp only [List.nil_append, List.cons_append, List.set_cons_zero, List.set_cons_succ] at H
    go_wp2_with fail
    exact bodyPost_ret (v := .tuple #[.pointer none, .int .i64 114]) (by simp [results, Try.results48, go_sem]) rfl (.inr ⟨HW.out, rfl, H.fr⟩)
  have hl8 : l.length ≤ 8 := by omega
  have HA := hid ha
  clear ha hl
  go_enter Try.func48, Try.ntmps48
  go_wp2_with fail
  refine (st_qnew H n hn1 hn8).mono ?_
  clear H
  rintro e w102 ⟨Q, rfl, H⟩
  try simp only [List.nil_append, List.cons_append, List.set_cons_zero, List.set_cons_succ] at H
  go_wp2_with fail
  have HH := hid H
  clear H
  go_loopw [25] (fun i wr => ∃ k : Nat, k ≤ l.length ∧ i = .int .i64 k ∧ St (.of w) wr [QkT Q ⟨n, l.take k⟩] ∧ (⟨n, l.take k⟩ : QS).wf) (fun i _ => l.length - (intOf i).toNat)
  case atStart => exact ⟨0, Nat.zero_le _, rfl, by simpa using HH.out, by simpa using qnew_wf hn1 hn8⟩
  case round =>
    clear HH
    obtain ⟨k, hk, rfl, H, hw⟩ := hrel
    have HW := hid hw
    clear hw
    by_cases hkl : k < l.length
    · obtain ⟨ba, oa, rfl⟩ := HA.out.sm (by omega)
      obtain ⟨y0, y1, y2, y3, y4, y5, y6, y7⟩ := qrow_cells (HA.out.fr0 H.fr) k hkl
      have hbl := World.block_lt_of_cell? _ _ y0
      simp only at hbl
      have hlt : (⟨n, l.take k⟩ : QS).rows.length = k := by show (l.take k).length = k; simp; omega
      have hsn := wf_snoc HW.out (by omega) (qL.nth l k)
      have htk : l.take k ++ [qL.nth l k] = l.take (k + 1) := by rw [List.take_add_one, qL.nth_get hkl]; rfl
      simp only [hlt] at hsn
      have HS := hid hsn
      have HT := hid htk
      have HN := hid (qL.nth_get hkl)
      clear hsn htk
      generalize qL.nth l k = x at y0 y1 y2 y3 y4 y5 y6 y7 HS HT HN
      obtain ⟨f, z, hf⟩ : ∃ f z, (⟨n, l.take k⟩ : QS).find x.ba = (f, z) := ⟨_, _, rfl⟩
      have HF := hid hf
      clear hf
      go_wp2_with fail
      refine (st_findIs (H.alloc (.cells #[.int .i64 x.job, .int .i64 x.st, .int .i64 x.at_, .int .i64 x.ba, .int .i64 x.node, .int .i64 x.life, .int .i64 x.code, .int .u64 x.bits] 54)) 0 rfl HW.out.n HF.out).mono ?_
      clear H y0 y1 y2 y3 y4 y5 y6 y7
      rintro e w8 ⟨rfl, H⟩
      try simp only [List.nil_append, List.cons_append, List.set_cons_zero, List.set_cons_succ] at H
      have hnw : ¬ (z = false ∧ x.may n (k + 1) = true) → ¬ (⟨n, l⟩ : QS).wf := fun h hw => h (by
        have h1 := wf_take hw (k + 1)
        rw [← HT.out] at h1
        have h2 := HS.out.1 h1
        rw [HF.out] at h2
        exact h2)
      have HNW := hid hnw
      clear hnw
      cases z
      case true =>
        have HF2 := hid H.fr
        clear H
        go_wp2_with fail
        exact bodyPost_ret (v := .tuple #[.pointer none, .int .i64 114]) (by simp [results, Try.results48, go_sem]) rfl (.inr ⟨HNW.out (fun h => by cases h.1), rfl, HF2.out.alloc _⟩)
      case false =>
        have kb := H.blk 1 rfl
        have k0 := cell_blk (i := 0) kb rfl
        have k1 := cell_blk (i := 1) kb rfl
        have k2 := cell_blk (i := 2) kb rfl
        have k3 := cell_blk (i := 3) kb rfl
        have k4 := cell_blk (i := 4) kb rfl
        have k5 := cell_blk (i := 5) kb rfl
        have k6 := cell_blk (i := 6) kb rfl
        have k7 := cell_blk (i := 7) kb rfl
        have hkl2 := lt_of_block kb
        have hQ := H.qk 0 rfl
        have hHH := hid H
        obtain ⟨qa, qc, hq1, _, _⟩ := hQ
        have q0 := cell_blk (i := 0) hq1 rfl
        have hMay := fun (wx : World) (hx : wx.cell? ⟨Q, 0, none⟩ = some (.int .i64 n)) => may_any wx Q n hx x.job x.st x.at_ x.ba x.node x.life x.code x.bits (k + 1)
        have HMay := hid (And.intro hMay q0)
        clear hMay kb hq1 q0
        go_wp2_with fail
        refine (HMay.out.1 _ (((Fr.refl _ _).alloc _).cell0 HMay.out.2)).mono ?_
        rintro e w9 ⟨rfl, hF9⟩
        cases hz : QR.may n x (k + 1)
        case false =>
          have HF2 := hid hF9
          have HF3 := hid hHH.out.fr
          have HZ := hid hz
          clear hF9 hz H k0 k1 k2 k3 k4 k5 k6 k7
          go_wp2_with fail
          exact bodyPost_ret (v := .tuple #[.pointer none, .int .i64 114]) (by simp [results, Try.results48, go_sem]) rfl (.inr ⟨HNW.out (fun h => by have := HZ.out; rw [h.2] at this; cases this), rfl, (HF3.out.alloc _).trans HF2.out⟩)
        case true =>
          have HZT := hid hz
          clear hz k0 k1 k2 k3 k4 k5 k6 k7
          replace H := ((H.alloc_ (.cells #[.int .i64 f.job, .int .i64 f.st, .int .i64 f.at_, .int .i64 f.ba, .int .i64 f.node, .int .i64 f.life, .int .i64 f.code, .int .u64 f.bits] 54)).same hF9)
          clear hF9
          have kb := H.blk 1 rfl
          have k0 := cell_blk (i := 0) kb rfl
          have k1 := cell_blk (i := 1) kb rfl
          have k2 := cell_blk (i := 2) kb rfl
          have k3 := cell_blk (i := 3) kb rfl
          have k4 := cell_blk (i := 4) kb rfl
          have k5 := cell_blk (i := 5) kb rfl
          have k6 := cell_blk (i := 6) kb rfl
          have k7 := cell_blk (i := 7) kb rfl
          have hkl3 := lt_of_block kb
          obtain ⟨F, ⟨rv, rfl, g1, g2⟩, _, hback⟩ := H.at 0 rfl
          obtain ⟨qa2, qc2, rfl, _, _, _⟩ := own_slice g2
          have c1 := cell_blk (i := 1) g1 rfl
          have f1 : w9.frozen? ⟨Q, 1, none⟩ = false := free_blk g1
          obtain ⟨i0, hi0, hz0, hz1, hz2⟩ := info_parts info_qrow
          have HI := hid (And.intro hi0 (And.intro hz0 (And.intro hz1 hz2)))
          have hQo := ownsRow_ne g2 g1 (by decide)
          have HG := hid (And.intro g1 (And.intro g2 (And.intro hback hQo)))
          have hQl := lt_of_block g1
          clear g1 g2 hback H hi0 hz0 hz1 hz2 hQo kb
          simp only [hlt] at c1 HG
          go_wp2_with fail
          go_region_law (refine step_append_blk rfl (.tmp 50) (.tmp 52) 79 rfl 54 i0 (.agg #[.int .i64 0, .int .i64 0, .int .i64 0, .int .i64 0, .int .i64 0, .int .i64 0, .int .i64 0, .int .u64 0]) 8 64 Try.underlying79 HI.out.1 HI.out.2.1 HI.out.2.2.1 HI.out.2.2.2 rfl (by decide) (.slice qa2 k qc2) k _ rfl (ownsRow_keep (S := []) HG.out.2.1 (((Fr.refl [] w9).drew).alloc _) (by simp)) ⟨w9.heap.size, 0, none⟩ 1 1 (QR.f x) rfl rfl (news_alloc w9.drew (QR.f x) _) (qL.one x) (by unfold maxLen; omega) (by omega) ?_; intro v w10 ho hF hb hn; obtain ⟨g, c', rfl, _⟩ := ownsRow_shape ho (by omega); have hX := hF.keep (blk_alloc_lt (.cells #[.int .i64 x.job, .int .i64 x.st, .int .i64 x.at_, .int .i64 x.ba, .int .i64 x.node, .int .i64 x.life, .int .i64 x.code, .int .u64 x.bits] 54) (w := w9.drew) HG.out.1) HG.out.2.2.2; have e1 := cell_blk (i := 1) hX rfl; have j1 := free_blk (i := 1) hX; have HZZ := hid (And.intro hX (And.intro ho (And.intro hF hb))); have hl10 := lt_of_block hX; clear hX ho hF hb hn)
          all_goals go_wp2_with fail
          all_goals
            obtain ⟨z1, z2, z3, z4⟩ := HZZ.out
            obtain ⟨y1, y2, hback, y4⟩ := HG.out
            have hFw : Fr (Q :: (Value.slice qa2 k qc2).ownBlock.toList) w9 w10 := (((Fr.refl _ w9).drew).alloc (.cells #[.int .i64 x.job, .int .i64 x.st, .int .i64 x.at_, .int .i64 x.ba, .int .i64 x.node, .int .i64 x.life, .int .i64 x.code, .int .u64 x.bits] 54)).step z3 (fun x hx => .inl (List.mem_cons_of_mem _ hx))
            have hbb : ∀ x, x ∈ (Value.slice (some ⟨g, 0, none⟩) (k + 1) c').ownBlock.toList → x ∈ (Value.slice qa2 k qc2).ownBlock.toList ∨ w9.heap.size ≤ x := fun x hx => by
              rcases z4 x (by simpa using hx) with h | h
              · exact .inl (by simpa using h)
              · right
                have hsz : w9.drew.heap.size = w9.heap.size := rfl
                first | omega | (simp at h; omega)
            have hgQ : g ≠ Q := fun h => by
              rcases hbb g (by simp [Value.ownBlock]) with h1 | h1
              · rw [h] at h1; exact y4 h1
              · omega
            have hlen : (l.take (k + 1)).length = k + 1 := by simp; omega
            have hcs : qL.cells (l.take k) ++ QR.f x = qL.cells (l.take (k + 1)) := by rw [← HT.out]; exact qL.snoc _ _
            have hfin := hback (w10.setCell ⟨Q, 1, none⟩ (.slice (some ⟨g, 0, none⟩) (k + 1) c')) (Q :: (Value.slice (some ⟨g, 0, none⟩) (k + 1) c').ownBlock.toList) (Qk1 Q ⟨n, l.take (k + 1)⟩) inferInstance ⟨.slice (some ⟨g, 0, none⟩) (k + 1) c', rfl, by rw [blk_setCell_at _ z1]; simp, by
              show World.ownsRow _ 0 _ 8 _ (l.take (k + 1)).length (qL.cells (l.take (k + 1)))
              rw [hlen, ← hcs]
              exact ownsRow_keep (S := [Q]) z2 ((Fr.refl _ _).setCell (.inl (by simp)) _) (fun x hx => by simp [Value.ownBlock] at hx; subst hx; simpa using hgQ)⟩ (hFw.setCell (.inl (by simp)) _) (fun x hx => by
                simp only [List.mem_cons] at hx ⊢
                rcases hx with rfl | hx
                · exact .inl (.inl rfl)
                · exact (hbb x hx).imp .inr id)
            have hw2 : (⟨n, l.take (k + 1)⟩ : QS).wf := by rw [← HT.out]; exact HS.out.2 ⟨by rw [HF.out], HZT.out⟩
            exact ⟨⟨k + 1, by omega, by go_num, hfin.take 1, hw2⟩, by simp [intOf]; omega⟩
    · obtain rfl : k = l.length := by omega
      have hw := HW.out
      rw [List.take_length] at H hw
      have HW2 := hid hw
      clear hw
      go_wp2_with fail
      exact bodyPost_ret (v := .tuple #[.pointer (some ⟨Q, 0, none⟩), .int .i64 0]) (by simp [results, Try.results48, go_sem]) rfl (.inl ⟨HW2.out, Q, rfl, H⟩)

end Go.Proofs.Ytmgnekjhlfghaaa

/-
  state: Load: what it makes of bytes: plain.
-/
namespace Go.Proofs.Ytmgnekjhlfghaaa
open Go.RowKit
set_option linter.unusedVariables false
set_option linter.unusedSimpArgs false

/-- Texts, read one behind the other. -/
def txF (s : RS) : Nat → RS
  | 0 => s
  | k + 1 => (txF s k).tF 32
def tx (s : RS) : Nat → List ByteArray
  | 0 => []
  | k + 1 => tx s k ++ [(txF s k).tG 32]
theorem tx_len (s : RS) : ∀ k, (tx s k).length = k
  | 0 => rfl
  | k + 1 => by rw [tx, List.length_append, tx_len]; rfl
theorem txF_wf {s : RS} (hw : s.wf) : ∀ k, (txF s k).wf
  | 0 => hw
  | k + 1 => RS.tF_wf (txF_wf hw k) 32
structure JS where
  s : RS
  rows : List QR
  ps : List ByteArray
  ls : List (List ByteArray)
/-- One job more. -/
def JS.next (j : JS) (res : Int) (k : Nat) : Option JS :=
  let x := j.s.row ((k : Int) + 1)
  let s1 := j.s.rowF
  let p := s1.tG 1024
  let s2 := s1.tF 1024
  let n := s2.lG 32
  let s3 := s2.lF 32
  if res < x.ba ∨ p.size = 0 ∨ (x.at_ = 0 ∧ 0 < n) then none else some ⟨txF s3 n, j.rows ++ [x], j.ps ++ [p], j.ls ++ [tx s3 n]⟩
/-- So many jobs. -/
def jb (res : Int) (s : RS) : Nat → Option JS
  | 0 => some ⟨s, [], [], []⟩
  | k + 1 => (jb res s k).bind fun j => j.next res k
theorem jb_none {res : Int} {s : RS} {k : Nat} (h : jb res s k = none) : ∀ m, k ≤ m → jb res s m = none := by
  intro m hm
  induction m with
  | zero => have : k = 0 := by omega
            subst this; exact h
  | succ m ih =>
    by_cases hk : k = m + 1
    · subst hk; exact h
    · rw [jb, ih (by omega)]; rfl
/-- What Load makes of bytes. -/
noncomputable def loadS (n : Int) (b : ByteArray) : Option SV :=
  let s0 : RS := ⟨b, 0, 0⟩
  let res := s0.nG 1099511627776
  let s1 := s0.nF 1099511627776
  let m := s1.nG 8
  (jb res (s1.nF 8) m).bind fun j => if j.s.end_.1 ≠ 0 then none else open Classical in if (⟨n, j.rows⟩ : QS).wf then some ⟨⟨n, j.rows⟩, res, j.ps, j.ls⟩ else none
/-- What a job's row is within. -/
structure JS.ok (j : JS) (k : Nat) : Prop where
  wf : j.s.wf
  rows : j.rows.length = k
  ps : j.ps.length = k
  ls : j.ls.length = k
theorem JS.next_ok {j u : JS} {res : Int} {k : Nat} (hj : j.ok k) (h : j.next res k = some u) : u.ok (k + 1) := by
  unfold JS.next at h
  dsimp only at h
  split at h
  · cases h
  · cases h
    exact ⟨txF_wf (RS.lF_wf (RS.tF_wf (RS.rowF_wf hj.wf) _) _) _, by simp [hj.rows], by simp [hj.ps], by simp [hj.ls]⟩
end Go.Proofs.Ytmgnekjhlfghaaa
