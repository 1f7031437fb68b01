/-
  Merged, in build order: Wt.
-/
import Derived.Carry
import Derived.Test.YtkiccbjngokpjaaGreatM20
import Derived.Test.YtkiccbjngokpjaaGreatM17
import Derived.Test.YtkiccbjngokpjaaGreatM14
/-
  stitch: a window as a thing; New, Take, Next.
-/
namespace Go.Proofs.YtkiccbjngokpjaaGreat
open Go.RowKit
set_option linter.unusedVariables false
set_option linter.unusedSimpArgs false

abbrev wnO (w : Wn) (m : Nat) : Obj := .cells #[.int .i64 w.win, .int .i64 w.next, .map (some m)] 91
abbrev wn1 (P : Nat) (w : Wn) (m : Nat) : List Thing1 := [Blk1 P (wnO w m), Mp1 Tryz.prog 3 m Value.string w.held]
abbrev wnL (P : Nat) (w : Wn) (m : Nat) : List Thing := [BlkT P (wnO w m), MpT Tryz.prog 3 m Value.string w.held]
theorem wn1_loc (P : Nat) (w : Wn) (m : Nat) : ∀ A, A ∈ wn1 P w m → Loc1 A := by
  intro A hA
  simp only [wn1, List.mem_cons, List.not_mem_nil, or_false] at hA
  rcases hA with rfl | rfl
  · exact inferInstance
  · exact inferInstance
def Wn1 (P : Nat) (w : Wn) : Thing1 := fun wx F => ∃ m : Nat, Pack1 (wn1 P w m) wx F
def WnT (P : Nat) (w : Wn) : Thing := own (Wn1 P w)
instance (P : Nat) (w : Wn) : Loc1 (Wn1 P w) where
  keep := fun ⟨v, h2⟩ hF hd => ⟨v, h2.keep hF hd⟩
  lt := fun ⟨v, h2⟩ x hx => h2.lt x hx
theorem zero_str (w : World) : (zeroValue 9).run Tryz.prog w = .ok (.string ⟨#[]⟩) w := by kernel_rfl
theorem lit_wf {k : Int} (h : -9223372036854775808 ≤ k ∧ k ≤ 9223372036854775807) : (Lit.int .i64 k).wf = true := by
  have e1 : IntKind.i64.min = -9223372036854775808 := by decide
  have e2 : IntKind.i64.max = 9223372036854775807 := by decide
  show (decide (IntKind.i64.min ≤ k) && decide (k ≤ IntKind.i64.max)) = true
  rw [e1, e2]
  simp [h.1, h.2]
def sliceLen : Value → Nat
  | .slice _ n _ => n
  | _ => 0

section
variable {W : Base} {w : World} {R : List Thing}
theorem St.wn (H : St W w R) (i : Nat) {P : Nat} {x : Wn} (hi : R[i]? = some (WnT P x)) : ∃ m : Nat, St W w (R.set i NilT ++ wnL P x m) := by
  obtain ⟨F, ⟨v, h2⟩, h3⟩ := H.unpackG i hi
  exact ⟨v, h3 _ h2⟩
theorem St.wnBack {i P : Nat} {x : Wn} {m : Nat} (hil : i < R.length) (H : St W w (R.set i NilT ++ wnL P x m)) : St W w (R.set i (WnT P x)) := by
  have H2 : St W w (R.set i NilT ++ (wn1 P x m).map own) := H
  have h := H2.packG i (List.getElem?_set_self hil) (wn1_loc _ _ _) (B := Wn1 P x) (fun F hP => ⟨m, hP⟩)
  rwa [List.set_set] at h
theorem St.wnEnd {P : Nat} {x : Wn} {m : Nat} (H : St W w (R ++ wnL P x m)) : St W w (R ++ [WnT P x]) := by
  have H2 : St W w (R ++ (wn1 P x m).map own) := H
  exact H2.packEnd (wn1_loc _ _ _) (B := Wn1 P x) (fun F hP => ⟨m, hP⟩)
theorem St.wnMid {i P : Nat} {x : Wn} {m : Nat} {T : Thing} (hil : i < R.length) (H : St W w (R.set i NilT ++ (wnL P x m ++ [T]))) : St W w (R.set i (WnT P x) ++ [T]) := by
  have h1 : St W w ((R.set i NilT ++ [T]) ++ (wn1 P x m).map own) := H.perm (by
    rw [List.append_assoc]
    exact List.Perm.append_left _ List.perm_append_comm)
  have hil2 : i < (R.set i NilT).length := by rw [List.length_set]; exact hil
  have h2 := h1.packG i (by rw [List.getElem?_append_left hil2]; exact List.getElem?_set_self hil) (wn1_loc _ _ _) (B := Wn1 P x) (fun F hP => ⟨m, hP⟩)
  rw [List.set_append_left _ _ hil2, List.set_set] at h2
  exact h2

theorem st_wnew (H : St W w R) (win : Nat) (h1 : 1 ≤ win ∧ win ≤ 8) :
    Calls Tryz.prog 13 #[.int .i64 win, .int .i64 0] w fun e w' => ∃ P, e = .returned (.tuple #[ptr P, .int .i64 0]) ∧ St W w' (R ++ [WnT P (.new win)]) := by
  have HE := hid (show St W ((w.alloc (.map #[] 0)).alloc (wnO (.new win) w.heap.size)) (R ++ [WnT (w.heap.size + 1) (.new win)]) from by
    have h := (H.newMap Tryz.prog 3 Value.string).allocAt (wnO (.new win) w.heap.size) (w.heap.size + 1) (by simp)
    rw [List.append_assoc] at h
    refine St.wnEnd (m := w.heap.size) (h.perm ?_)
    exact List.Perm.append_left _ (List.Perm.swap _ _ _))
  clear H
  have g1 : ¬ (win : Int) < 1 := by omega
  have g2 : ¬ (8 : Int) < win := by omega
  clear h1
  have hmm := @run_makeMap Tryz.prog
  go_enter Tryz.func13, Tryz.ntmps13
  go_wp2_with fail
  go_ret2
  exact ⟨_, rfl, HE.out⟩
theorem st_wnext (H : St W w R) (i : Nat) {P : Nat} {x : Wn} (hi : R[i]? = some (WnT P x)) :
    Calls Tryz.prog 48 #[ptr P] w fun e w' => e = .returned (.int .i64 x.next) ∧ w = w' := by
  obtain ⟨m, H2⟩ := H.wn i hi
  have hb := H2.blk _ (get_behind _ _ 0)
  have x1 := cell_blk (i := 1) hb rfl
  clear H H2 hb hi
  go_enter Tryz.func48, Tryz.ntmps48
  go_wp2
  go_ret
  exact ⟨rfl, rfl⟩

def WtTo (W : Base) (R : List Thing) (i P : Nat) (x : Wn) (l : List ByteArray) (e : Ending) (w' : World) : Prop :=
  ∃ (v : Value) (z : Int), e = .returned (.tuple #[v, .int .i64 z]) ∧ Hid (l ≠ [] → z = 0) ∧ St W w' (R.set i (WnT P x) ++ [RowT 9 1 v l.length (txC l)])
set_option maxHeartbeats 3200000 in
theorem st_wtake_no (H : St W w R) (i : Nat) {P : Nat} {x : Wn} (hi : R[i]? = some (WnT P x)) (ix : Nat) (t : ByteArray) (hf : x.fits ix t = false) (hx : ix ≤ 1099511627776) (hn : x.next ≤ 32) :
    Calls Tryz.prog 16 #[ptr P, .int .i64 ix, .string t] w (WtTo W R i P x []) := by
  have HE := hid (show ∀ wx, Fr [] w wx → St W wx (R.set i (WnT P x) ++ [RowT 9 1 (.slice none 0 0) 0 (txC [])]) from fun wx hF => by
    rw [things_set_self hi]
    exact (H.same hF).nilRow 9 1)
  obtain ⟨m, H2⟩ := H.wn i hi
  have hb := H2.blk _ (get_behind _ _ 0)
  have x0 := cell_blk (i := 0) hb rfl
  have x1 := cell_blk (i := 1) hb rfl
  have hf' := hid hf
  have HK := hid (show ∀ wx, Fr [] w wx → wx.cell? ⟨P, 0, none⟩ = some (.int .i64 x.win) ∧ wx.cell? ⟨P, 1, none⟩ = some (.int .i64 x.next) from fun wx hF => ⟨cell_blk (i := 0) (hF.keep hb (by simp)) rfl, cell_blk (i := 1) (hF.keep hb (by simp)) rfl⟩)
  clear H H2 hb hi hf
  by_cases g1 : (32 : Int) < t.size
  · go_enter Tryz.func16, Tryz.ntmps16
    go_wp2_with fail
    go_ret2
    exact ⟨_, _, rfl, fun h => absurd rfl h, HE.out _ (Fr.refl _ _)⟩
  · have HG := hid (show ix < x.next ∨ x.win ≤ ix - x.next ∨ 32 ≤ ix from by
      have := hf'.out
      simp only [Wn.fits, Bool.and_eq_false_iff, decide_eq_false_iff_not] at this
      omega)
    by_cases k1 : ix < x.next
    · have b1 : decide (ix < x.next) = true := by simp; omega
      clear k1 hx hn
      go_enter Tryz.func16, Tryz.ntmps16
      go_wp2_with fail
      refine wp_region_calm (S := fun wx : World => Fr [] w wx) (by kernel_rfl) (by kernel_rfl) ((Fr.refl _ _).drew) ?_
      repeat (first | (refine calmRow_free (v := ?_) rfl ?_ ?_; rotate_left; (focus (intro wx hSx; (try dsimp only at hSx); have hcx := HK.out wx hSx; go_simp; (first | with_reducible rfl | exact ⟨rfl, hSx⟩ | fail))); (try simp only [Act.put, List.setIfInBounds_toArray, List.set_cons_zero, List.set_cons_succ])) | (refine calmRow_skip ?_ ?_; (focus (go_simp; (try (intro hx; cases hx)); done)); (try simp only [Act.put, List.setIfInBounds_toArray, List.set_cons_zero, List.set_cons_succ])) | (refine calmRow_take (v := ?_) ?_ ?_ ?_; rotate_left; (focus (go_simp; done)); (focus (intro wx hSx; (try dsimp only at hSx); have hcx := HK.out wx hSx; go_simp; (first | with_reducible rfl | exact ⟨rfl, hSx⟩ | fail))); (try simp only [Act.put, List.setIfInBounds_toArray, List.set_cons_zero, List.set_cons_succ])))
      refine calmRow_nil ?_
      intro wn hFx
      try dsimp only at hFx
      go_wp2_with fail
      go_ret2
      exact ⟨_, _, rfl, fun h => absurd rfl h, HE.out _ hFx⟩
    · have b1 : decide (ix < x.next) = false := by simp; omega
      obtain ⟨dx, hdx⟩ : ∃ dx, ix - x.next = dx := ⟨_, rfl⟩
      have hw : IntKind.i64.wrap ((ix : Int) - x.next) = (dx : Int) := by rw [IntWalk.i64_in _ (by omega)]; omega
      rw [hdx] at HG
      by_cases k2 : x.win ≤ dx
      · have b2 : decide (x.win ≤ dx) = true := by simp; omega
        clear k1 k2 hx hn hdx
        go_enter Tryz.func16, Tryz.ntmps16
        go_wp2_with fail
        refine wp_region_calm (S := fun wx : World => Fr [] w wx) (by kernel_rfl) (by kernel_rfl) ((Fr.refl _ _).drew) ?_
        repeat (first | (refine calmRow_free (v := ?_) rfl ?_ ?_; rotate_left; (focus (intro wx hSx; (try dsimp only at hSx); have hcx := HK.out wx hSx; go_simp; (first | with_reducible rfl | exact ⟨rfl, hSx⟩ | fail))); (try simp only [Act.put, List.setIfInBounds_toArray, List.set_cons_zero, List.set_cons_succ])) | (refine calmRow_skip ?_ ?_; (focus (go_simp; (try (intro hx; cases hx)); done)); (try simp only [Act.put, List.setIfInBounds_toArray, List.set_cons_zero, List.set_cons_succ])) | (refine calmRow_take (v := ?_) ?_ ?_ ?_; rotate_left; (focus (go_simp; done)); (focus (intro wx hSx; (try dsimp only at hSx); have hcx := HK.out wx hSx; go_simp; (first | with_reducible rfl | exact ⟨rfl, hSx⟩ | fail))); (try simp only [Act.put, List.setIfInBounds_toArray, List.set_cons_zero, List.set_cons_succ])))
        refine calmRow_nil ?_
        intro wn hFx
        try dsimp only at hFx
        go_wp2_with fail
        go_ret2
        exact ⟨_, _, rfl, fun h => absurd rfl h, HE.out _ hFx⟩
      · have b2 : decide (x.win ≤ dx) = false := by simp; omega
        have b4 : (32 : Int) ≤ ix := by have := HG.out; omega
        have b3 : decide (32 ≤ ix) = true := by simp; omega
        clear k1 k2 hx hn hdx
        go_enter Tryz.func16, Tryz.ntmps16
        go_wp2_with fail
        refine wp_region_calm (S := fun wx : World => Fr [] w wx) (by kernel_rfl) (by kernel_rfl) ((Fr.refl _ _).drew) ?_
        repeat (first | (refine calmRow_free (v := ?_) rfl ?_ ?_; rotate_left; (focus (intro wx hSx; (try dsimp only at hSx); have hcx := HK.out wx hSx; go_simp; (first | with_reducible rfl | exact ⟨rfl, hSx⟩ | fail))); (try simp only [Act.put, List.setIfInBounds_toArray, List.set_cons_zero, List.set_cons_succ])) | (refine calmRow_skip ?_ ?_; (focus (go_simp; (try (intro hx; cases hx)); done)); (try simp only [Act.put, List.setIfInBounds_toArray, List.set_cons_zero, List.set_cons_succ])) | (refine calmRow_take (v := ?_) ?_ ?_ ?_; rotate_left; (focus (go_simp; done)); (focus (intro wx hSx; (try dsimp only at hSx); have hcx := HK.out wx hSx; go_simp; (first | with_reducible rfl | exact ⟨rfl, hSx⟩ | fail))); (try simp only [Act.put, List.setIfInBounds_toArray, List.set_cons_zero, List.set_cons_succ])))
        refine calmRow_nil ?_
        intro wn hFx
        try dsimp only at hFx
        go_wp2_with fail
        go_ret2
        exact ⟨_, _, rfl, fun h => absurd rfl h, HE.out _ hFx⟩

theorem Wn.drain_none {y : Wn} (h : mget y.held y.next = none) (n : Nat) : Wn.drain n y = (y, []) := by
  cases n with
  | zero => rfl
  | succ n => unfold Wn.drain; rw [h]
theorem Wn.drain_some {y : Wn} {s : ByteArray} (h : mget y.held y.next = some s) (n : Nat) : Wn.drain (n + 1) y = ((Wn.drain n y.pop).1, s :: (Wn.drain n y.pop).2) := by
  rw [Wn.drain, h]
theorem Wn.pop_len {y : Wn} {s : ByteArray} (hn : (y.held.map (·.1)).Nodup) (h : mget y.held y.next = some s) : y.held.length = y.pop.held.length + 1 := by
  have := mdel_length (y.next : Int) y.held hn
  rw [h] at this
  exact this.symm
theorem Wn.take_fits {x : Wn} {ix : Nat} {t : ByteArray} (h : x.fits ix t = true) : x.take ix t = Wn.drain (x.keep ix t).held.length (x.keep ix t) := by
  unfold Wn.take
  rw [if_pos h]
structure WtI (x1 y : Wn) (ls : List ByteArray) : Prop where
  n1 : y.next + y.held.length ≤ 80
  n2 : ls.length + y.held.length = x1.held.length
  dr : Wn.drain x1.held.length x1 = ((Wn.drain y.held.length y).1, ls ++ (Wn.drain y.held.length y).2)
set_option maxHeartbeats 8000000 in
set_option maxRecDepth 1000000 in
theorem st_wtake (H : St W w R) (i : Nat) {P : Nat} {x : Wn} (hi : R[i]? = some (WnT P x)) (ix : Nat) (t : ByteArray) (hf : x.fits ix t = true) (hn : x.next ≤ 32) (hh : x.held.length ≤ 40) :
    Calls Tryz.prog 16 #[ptr P, .int .i64 ix, .string t] w (WtTo W R i P (x.take ix t).1 (x.take ix t).2) := by
  have HX := hid (Wn.take_fits hf)
  have hil := hid (lt_of_get hi)
  obtain ⟨m, H2⟩ := H.wn i hi
  have hb := H2.blk _ (get_behind _ _ 0)
  simp only [Wn.fits, Bool.and_eq_true, decide_eq_true_eq] at hf
  obtain ⟨g1, ⟨g2, g3⟩, g4⟩ := hf
  have HK := hid (show ∀ wx, Fr [] w wx → wx.cell? ⟨P, 0, none⟩ = some (.int .i64 x.win) ∧ wx.cell? ⟨P, 1, none⟩ = some (.int .i64 x.next) from fun wx hF => ⟨cell_blk (i := 0) (hF.keep hb (by simp)) rfl, cell_blk (i := 1) (hF.keep hb (by simp)) rfl⟩)
  have k1 : ¬ (32 : Int) < t.size := by omega
  have b1 : decide (ix < x.next) = false := by simp; omega
  obtain ⟨dx, hdx⟩ : ∃ dx, ix - x.next = dx := ⟨_, rfl⟩
  have hw : IntKind.i64.wrap ((ix : Int) - x.next) = (dx : Int) := by rw [IntWalk.i64_in _ (by omega)]; omega
  have b2 : decide (x.win ≤ dx) = false := by simp; omega
  have b3 : decide (32 ≤ ix) = false := by simp; omega
  have b4 : ¬ (32 : Int) ≤ ix := by omega
  have hwf : (Lit.int .i64 (ix : Int)).wf = true := lit_wf (by omega)
  have HW := hid (And.intro hwf (And.intro hn hh))
  have H2 := hid H2
  clear H hi hb g1 g2 g3 g4 hdx hwf hn hh
  go_enter Tryz.func16, Tryz.ntmps16
  go_wp2_with fail
  refine wp_region_calm (S := fun wx : World => Fr [] w wx) (by kernel_rfl) (by kernel_rfl) ((Fr.refl _ _).drew) ?_
  repeat (first | (refine calmRow_free (v := ?_) rfl ?_ ?_; rotate_left; (focus (intro wx hSx; (try dsimp only at hSx); have hcx := HK.out wx hSx; go_simp; (first | with_reducible rfl | exact ⟨rfl, hSx⟩ | fail))); (try simp only [Act.put, List.setIfInBounds_toArray, List.set_cons_zero, List.set_cons_succ])) | (refine calmRow_skip ?_ ?_; (focus (go_simp; (try (intro hx; cases hx)); done)); (try simp only [Act.put, List.setIfInBounds_toArray, List.set_cons_zero, List.set_cons_succ])) | (refine calmRow_take (v := ?_) ?_ ?_ ?_; rotate_left; (focus (go_simp; done)); (focus (intro wx hSx; (try dsimp only at hSx); have hcx := HK.out wx hSx; go_simp; (first | with_reducible rfl | exact ⟨rfl, hSx⟩ | fail))); (try simp only [Act.put, List.setIfInBounds_toArray, List.set_cons_zero, List.set_cons_succ])))
  refine calmRow_nil ?_
  intro wn hFx
  try dsimp only at hFx
  clear b1 b2 b3 hw HK
  have H5 := H2.out.same hFx
  have hb := H5.blk _ (get_behind _ _ 0)
  have x2 := cell_blk (i := 2) hb rfl
  have hlk := mp_look H5 _ (get_behind _ _ 1) 89 9 Tryz.underlying3 Tryz.underlying89 (zero_str wn) ix HW.out.1 (mget x.held ix) rfl
  rcases hg : mget x.held ix with _ | s
  · rw [hg] at hlk
    obtain ⟨w6, hput, H6⟩ := mp_put H5 _ (get_behind _ _ 1) 89 9 Tryz.underlying3 Tryz.underlying89 (by have := HW.out.2.2; unfold maxLen; omega) ix HW.out.1 t
    rw [set_bh] at H6
    have hkp : x.keep ix t = { x with held := mput x.held ix t } := by unfold Wn.keep; rw [hg]
    have H6 := hid (show St W w6 (R.set i NilT ++ wnL P (x.keep ix t) m) from by rw [hkp]; exact H6)
    have HN := hid (show (x.keep ix t).next + (x.keep ix t).held.length ≤ 80 from by
      rw [hkp]
      have := HW.out.2
      have h2 := mput_length_le (es := x.held) (ix : Int) t
      show x.next + (mput x.held ix t).length ≤ 80
      omega)
    clear H5 hb hg hkp
    dsimp only [Option.map, Option.getD, Option.isSome] at hlk
    go_wp2_with fail
    obtain ⟨x1, hx1⟩ : ∃ x1, x.keep ix t = x1 := ⟨_, rfl⟩
    rw [hx1] at H6 HN HX
    have HZ := hid (show WtI x1 x1 [] from ⟨HN.out, by simp, by simp⟩)
    clear x2 hlk k1 b4 hx1
    have H7 := hid (show St W w6 (R.set i NilT ++ (wnL P x1 m ++ [RowT 9 1 (.slice none 0 0) ([] : List ByteArray).length (txC [])])) from by
      have h := H6.out.nilRow 9 1
      rw [List.append_assoc] at h
      exact h)
    clear H6
    have hj : ∃ n0, x1.held.length = n0 := ⟨_, rfl⟩
    go_wp2_with fail
    go_loopw [10] (fun lx wr => ∃ (y : Wn) (ls : List ByteArray), Hid (St W wr (R.set i NilT ++ (wnL P y m ++ [RowT 9 1 lx ls.length (txC ls)]))) ∧ Hid (WtI x1 y ls)) (fun lx _ => x1.held.length - sliceLen lx)
    case atStart => exact ⟨x1, [], H7, HZ⟩
    case round =>
      obtain ⟨y, ls, HJ, HI⟩ := hrel
      obtain ⟨a, c, rfl, _, _⟩ := row_slice (HJ.out.row _ (get_behind _ _ 2))
      have hwfy : (Lit.int .i64 (y.next : Int)).wf = true := lit_wf (by have := HI.out.n1; omega)
      have hby := HJ.out.blk _ (get_behind _ _ 0)
      have HKy := hid (show ∀ wx, Fr [] wr wx → wx.cell? ⟨P, 1, none⟩ = some (.int .i64 y.next) ∧ wx.cell? ⟨P, 2, none⟩ = some (.map (some m)) ∧ (Instr.lookup 89 (.map (some m)) (.int .i64 y.next) true).run Tryz.prog wx = .ok (.tuple #[((mget y.held y.next).map Value.string).getD (.string ⟨#[]⟩), .bool (mget y.held y.next).isSome]) wx from fun wx hF =>
        ⟨cell_blk (i := 1) (hF.keep hby (by simp)) rfl, cell_blk (i := 2) (hF.keep hby (by simp)) rfl, mp_look (HJ.out.same hF) _ (get_behind _ _ 1) 89 9 Tryz.underlying3 Tryz.underlying89 (zero_str wx) y.next hwfy _ rfl⟩)
      have HY := hid (And.intro hwfy (mp_nodup HJ.out _ (get_behind _ _ 1)))
      clear hwfy hby
      rcases hg : mget y.held y.next with _ | s2
      · rw [hg] at HKy
        dsimp only [Option.map, Option.getD, Option.isSome] at HKy
        have HT := hid (show (x.take ix t).1 = y ∧ (x.take ix t).2 = ls from by
          rw [HX.out, HI.out.dr, Wn.drain_none hg]
          simp)
        clear hg
        go_wp2_with fail
        refine wp_region_calm (S := fun wx : World => Fr [] wr wx) (by kernel_rfl) (by kernel_rfl) ((Fr.refl _ _).drew) ?_
        repeat (first | (refine calmRow_free (v := ?_) rfl ?_ ?_; rotate_left; (focus (intro wx hSx; (try dsimp only at hSx); have hcx := HKy.out wx hSx; go_simp; (first | with_reducible rfl | exact ⟨rfl, hSx⟩ | fail))); (try simp only [Act.put, List.setIfInBounds_toArray, List.set_cons_zero, List.set_cons_succ])) | (refine calmRow_skip ?_ ?_; (focus (go_simp; (try (intro hx; cases hx)); done)); (try simp only [Act.put, List.setIfInBounds_toArray, List.set_cons_zero, List.set_cons_succ])) | (refine calmRow_take (v := ?_) ?_ ?_ ?_; rotate_left; (focus (go_simp; done)); (focus (intro wx hSx; (try dsimp only at hSx); have hcx := HKy.out wx hSx; go_simp; (first | with_reducible rfl | exact ⟨rfl, hSx⟩ | fail))); (try simp only [Act.put, List.setIfInBounds_toArray, List.set_cons_zero, List.set_cons_succ])))
        refine calmRow_nil ?_
        intro wm hFx
        try dsimp only at hFx
        go_wp2_with fail
        go_ret2
        rw [HT.out.1, HT.out.2]
        exact ⟨_, _, rfl, fun _ => rfl, St.wnMid hil.out (HJ.out.same hFx)⟩
      · rw [hg] at HKy
        dsimp only [Option.map, Option.getD, Option.isSome] at HKy
        have hpl := Wn.pop_len HY.out.2 hg
        have HI2 := hid (show WtI x1 y.pop (ls ++ [s2]) from by
          refine ⟨?_, ?_, ?_⟩
          · have := HI.out.n1
            show y.next + 1 + y.pop.held.length ≤ 80
            omega
          · have := HI.out.n2
            rw [List.length_append, List.length_singleton]
            omega
          · rw [HI.out.dr, hpl, Wn.drain_some hg]
            simp)
        have HL := hid (show ls.length + 1 ≤ x1.held.length ∧ ls.length + 1 ≤ 80 ∧ (y.next : Int) ≤ 80 from by
          have := HI.out.n2; have := HI.out.n1; have h8 := HN.out
          refine ⟨by omega, by omega, by omega⟩)
        clear hg hpl
        go_wp2_with fail
        refine wp_region_calm (S := fun wx : World => Fr [] wr wx) (by kernel_rfl) (by kernel_rfl) ((Fr.refl _ _).drew) ?_
        repeat (first | (refine calmRow_free (v := ?_) rfl ?_ ?_; rotate_left; (focus (intro wx hSx; (try dsimp only at hSx); have hcx := HKy.out wx hSx; go_simp; (first | with_reducible rfl | exact ⟨rfl, hSx⟩ | fail))); (try simp only [Act.put, List.setIfInBounds_toArray, List.set_cons_zero, List.set_cons_succ])) | (refine calmRow_skip ?_ ?_; (focus (go_simp; (try (intro hx; cases hx)); done)); (try simp only [Act.put, List.setIfInBounds_toArray, List.set_cons_zero, List.set_cons_succ])) | (refine calmRow_take (v := ?_) ?_ ?_ ?_; rotate_left; (focus (go_simp; done)); (focus (intro wx hSx; (try dsimp only at hSx); have hcx := HKy.out wx hSx; go_simp; (first | with_reducible rfl | exact ⟨rfl, hSx⟩ | fail))); (try simp only [Act.put, List.setIfInBounds_toArray, List.set_cons_zero, List.set_cons_succ])))
        refine calmRow_nil ?_
        intro wm hFx
        try dsimp only at hFx
        go_wp2_with fail
        have HJ2 := HJ.out.same hFx
        have HSw := hid (show ∀ wx, Fr [] wm wx → wx.cell? ⟨P, 1, none⟩ = some (.int .i64 y.next) ∧ wx.cell? ⟨P, 2, none⟩ = some (.map (some m)) from fun wx hF => ⟨(HKy.out wx (hFx.trans hF)).1, (HKy.out wx (hFx.trans hF)).2.1⟩)
        obtain ⟨w7, hdel, H8⟩ := mp_del (HJ2.same ((Fr.refl _ _).drew)) _ (get_behind _ _ 1) 89 9 Tryz.underlying3 Tryz.underlying89 0 y.next HY.out.1
        rw [set_bh] at H8
        have hdel := hid hdel
        have H8 := hid H8
        clear HKy HJ HJ2
        refine wp_region_U (S := fun wx : World => wx.cell? ⟨P, 1, none⟩ = some (.int .i64 y.next) ∧ wx.cell? ⟨P, 2, none⟩ = some (.map (some m))) 8 (by kernel_rfl) (HSw.out _ ((Fr.refl _ _).drew)) (fun hHeld => ?_)
        refine takeU (i := 0) (d := 73) (v := ?_) rfl rfl (by kernel_rfl) (by kernel_rfl) (by kernel_rfl) (by kernel_rfl) (by kernel_rfl) (fun _ _ _ h => h) (Or.inl ⟨by rfl, ?_⟩) hHeld ?_
        rotate_left
        · intro wq hSw; (try dsimp only at hSw); go_simp; all_goals (with_reducible rfl)
        simp only [Act.put, List.setIfInBounds_toArray, List.set_cons_zero, List.set_cons_succ]
        refine takeU (i := 1) (d := 74) (v := ?_) rfl rfl (by kernel_rfl) (by kernel_rfl) (by kernel_rfl) (by kernel_rfl) (by kernel_rfl) (fun _ _ _ h => h) (Or.inl ⟨by rfl, ?_⟩) hHeld ?_
        rotate_left
        · intro wq hSw; (try dsimp only at hSw); go_simp; all_goals (with_reducible rfl)
        simp only [Act.put, List.setIfInBounds_toArray, List.set_cons_zero, List.set_cons_succ]
        refine takeU (i := 2) (d := 75) (v := ?_) rfl rfl (by kernel_rfl) (by kernel_rfl) (by kernel_rfl) (by kernel_rfl) (by kernel_rfl) (fun _ _ _ h => h) (Or.inl ⟨by rfl, ?_⟩) hHeld ?_
        rotate_left
        · intro wq hSw; (try dsimp only at hSw); go_simp; all_goals (with_reducible rfl)
        simp only [Act.put, List.setIfInBounds_toArray, List.set_cons_zero, List.set_cons_succ]
        refine takeU (i := 3) (d := 76) (v := ?_) rfl rfl (by kernel_rfl) (by kernel_rfl) (by kernel_rfl) (by kernel_rfl) (by kernel_rfl) (fun _ _ _ h => h) (Or.inl ⟨by rfl, ?_⟩) hHeld ?_
        rotate_left
        · intro wq hSw; (try dsimp only at hSw); go_simp; all_goals (with_reducible rfl)
        simp only [Act.put, List.setIfInBounds_toArray, List.set_cons_zero, List.set_cons_succ]
        refine takeU (i := 4) (d := 77) (v := ?_) rfl rfl (by kernel_rfl) (by kernel_rfl) (by kernel_rfl) (by kernel_rfl) (by kernel_rfl) (fun _ _ _ h => h) (Or.inl ⟨by rfl, ?_⟩) hHeld ?_
        rotate_left
        · intro wq hSw; (try dsimp only at hSw); go_simp; all_goals (with_reducible rfl)
        simp only [Act.put, List.setIfInBounds_toArray, List.set_cons_zero, List.set_cons_succ]
        refine takeU (i := 5) (d := 78) (v := ?_) rfl rfl (by kernel_rfl) (by kernel_rfl) (by kernel_rfl) (by kernel_rfl) (by kernel_rfl) (fun _ _ _ h => h) (Or.inl ⟨by rfl, ?_⟩) hHeld ?_
        rotate_left
        · intro wq hSw; (try dsimp only at hSw); go_simp; all_goals (with_reducible rfl)
        simp only [Act.put, List.setIfInBounds_toArray, List.set_cons_zero, List.set_cons_succ]
        refine takeU (i := 6) (d := 79) (v := ?_) rfl rfl (by kernel_rfl) (by kernel_rfl) (by kernel_rfl) (by kernel_rfl) (by kernel_rfl) (fun _ _ _ h => h) (Or.inl ⟨by rfl, ?_⟩) hHeld ?_
        rotate_left
        · intro wq hSw; (try dsimp only at hSw); go_simp; all_goals (with_reducible rfl)
        simp only [Act.put, List.setIfInBounds_toArray, List.set_cons_zero, List.set_cons_succ]
        refine takeU (i := 7) (d := 80) (v := ?_) rfl rfl (by kernel_rfl) (by kernel_rfl) (by kernel_rfl) (by kernel_rfl) (by kernel_rfl) (fun _ _ _ h => h) (Or.inl ⟨by rfl, ?_⟩) hHeld ?_
        rotate_left
        · intro wq hSw; (try dsimp only at hSw); go_simp; all_goals (with_reducible rfl)
        simp only [Act.put, List.setIfInBounds_toArray, List.set_cons_zero, List.set_cons_succ]
        refine wpAnyU_ready (rs := [8]) (by kernel_rfl) (by simp) ?_
        refine AllReadyU.cons rfl (fun K hK => ?_) AllReadyU.nil
        have hd2 := hdel.out
        go_simp
        refine hK.out _ _ (fun h => absurd rfl h) (fun _ => ?_)
        clear hK K hd2
        refine wpAnyU_done (by kernel_rfl) ?_ _
        clear hHeld hdel
        have H9 := hid (H8.out.alloc (.cells #[.string s2] 9))
        have b8 := H8.out.blk _ (get_behind _ _ 0)
        obtain ⟨i0, hi0, hz0, hz1, hz2⟩ := info_parts info_tx
        have HI0 := hid (And.intro hi0 (And.intro hz0 (And.intro hz1 hz2)))
        clear hi0 hz0 hz1 hz2 b8
        go_wp2_with (at_builtin; refine wpAdded H9.out ((R.set i NilT).length + 2) rfl (.tmp 81) (.tmp 83) 32 rfl 9 i0 (.string ByteArray.empty) 1 16 Tryz.underlying32 HI0.out.1 HI0.out.2.1 HI0.out.2.2.1 HI0.out.2.2.2 rfl (by decide) (.slice a ls.length c) ls.length (txC ls) (by rw [List.append_assoc, get_behind]; rfl) rfl (some ⟨w7.heap.size, 0, none⟩) 1 1 (fun q => ([.string s2] : List Value).getD q undef) rfl (H9.out.blkIn ((R.set i NilT).length + 3) 1 1 rfl (by decide) (by rw [List.append_assoc, get_behind]; rfl)) (fun j hj => by (obtain rfl : j = 0 := by omega); rfl) (by have := HL.out; unfold maxLen; omega) (by have := HL.out; omega) ?_)
        intro a5 c5 w5 H10
        rw [txC_snoc] at H10
        have b5 := H10.blk _ (get_behind _ _ 0)
        have y1 := cell_blk (i := 1) b5 rfl
        have f1 := free_blk (i := 1) b5
        have H11 := H10.setBlk _ (get_behind _ _ 0) 1 (.int .i64 ((y.next + 1 : Nat) : Int))
        rw [set_bh] at H11
        have H12 := hid (show St W (w5.setCell ⟨P, 1, none⟩ (.int .i64 ((y.next + 1 : Nat) : Int))) (R.set i NilT ++ (wnL P y.pop m ++ [RowT 9 1 (.slice a5 (ls.length + 1) c5) (ls ++ [s2]).length (txC (ls ++ [s2]))])) from by
          have e : (ls ++ [s2]).length = ls.length + 1 := by simp
          rw [e]
          have h : St W (w5.setCell ⟨P, 1, none⟩ (.int .i64 ((y.next + 1 : Nat) : Int))) (R.set i NilT ++ (([BlkT P (wnO y.pop m), MpT Tryz.prog 3 m Value.string y.pop.held, RowT 9 1 (.slice a5 (ls.length + 1) c5) (ls.length + 1) (txC (ls ++ [s2]))] : List Thing) ++ [BlkT w7.heap.size (.cells #[.string s2] 9)])) := H11
          rw [← List.append_assoc] at h
          exact h.drop)
        have hnx : wrap64 ((y.next : Int) + 1) = ((y.next + 1 : Nat) : Int) := by
          have := HL.out.2.2
          rw [IntWalk.wrap64_in _ (by omega)]; rfl
        clear H8 H9 H10 H11 b5
        go_wp2_with fail
        refine ⟨⟨y.pop, ls ++ [s2], H12, HI2⟩, ?_⟩
        show x1.held.length - (ls.length + 1) < x1.held.length - ls.length
        have := HL.out
        omega
  · rw [hg] at hlk
    have hkp : x.keep ix t = x := by unfold Wn.keep; rw [hg]
    have H6 := hid (show St W wn (R.set i NilT ++ wnL P (x.keep ix t) m) from by rw [hkp]; exact H5)
    have HN := hid (show (x.keep ix t).next + (x.keep ix t).held.length ≤ 80 from by
      rw [hkp]
      have := HW.out.2
      omega)
    clear H5 hb hg hkp
    dsimp only [Option.map, Option.getD, Option.isSome] at hlk
    go_wp2_with fail
    obtain ⟨x1, hx1⟩ : ∃ x1, x.keep ix t = x1 := ⟨_, rfl⟩
    rw [hx1] at H6 HN HX
    have HZ := hid (show WtI x1 x1 [] from ⟨HN.out, by simp, by simp⟩)
    clear x2 hlk k1 b4 hx1
    have H7 := hid (show St W wn (R.set i NilT ++ (wnL P x1 m ++ [RowT 9 1 (.slice none 0 0) ([] : List ByteArray).length (txC [])])) from by
      have h := H6.out.nilRow 9 1
      rw [List.append_assoc] at h
      exact h)
    clear H6
    have hj : ∃ n0, x1.held.length = n0 := ⟨_, rfl⟩
    go_wp2_with fail
    go_loopw [10] (fun lx wr => ∃ (y : Wn) (ls : List ByteArray), Hid (St W wr (R.set i NilT ++ (wnL P y m ++ [RowT 9 1 lx ls.length (txC ls)]))) ∧ Hid (WtI x1 y ls)) (fun lx _ => x1.held.length - sliceLen lx)
    case atStart => exact ⟨x1, [], H7, HZ⟩
    case round =>
      obtain ⟨y, ls, HJ, HI⟩ := hrel
      obtain ⟨a, c, rfl, _, _⟩ := row_slice (HJ.out.row _ (get_behind _ _ 2))
      have hwfy : (Lit.int .i64 (y.next : Int)).wf = true := lit_wf (by have := HI.out.n1; omega)
      have hby := HJ.out.blk _ (get_behind _ _ 0)
      have HKy := hid (show ∀ wx, Fr [] wr wx → wx.cell? ⟨P, 1, none⟩ = some (.int .i64 y.next) ∧ wx.cell? ⟨P, 2, none⟩ = some (.map (some m)) ∧ (Instr.lookup 89 (.map (some m)) (.int .i64 y.next) true).run Tryz.prog wx = .ok (.tuple #[((mget y.held y.next).map Value.string).getD (.string ⟨#[]⟩), .bool (mget y.held y.next).isSome]) wx from fun wx hF =>
        ⟨cell_blk (i := 1) (hF.keep hby (by simp)) rfl, cell_blk (i := 2) (hF.keep hby (by simp)) rfl, mp_look (HJ.out.same hF) _ (get_behind _ _ 1) 89 9 Tryz.underlying3 Tryz.underlying89 (zero_str wx) y.next hwfy _ rfl⟩)
      have HY := hid (And.intro hwfy (mp_nodup HJ.out _ (get_behind _ _ 1)))
      clear hwfy hby
      rcases hg : mget y.held y.next with _ | s2
      · rw [hg] at HKy
        dsimp only [Option.map, Option.getD, Option.isSome] at HKy
        have HT := hid (show (x.take ix t).1 = y ∧ (x.take ix t).2 = ls from by
          rw [HX.out, HI.out.dr, Wn.drain_none hg]
          simp)
        clear hg
        go_wp2_with fail
        refine wp_region_calm (S := fun wx : World => Fr [] wr wx) (by kernel_rfl) (by kernel_rfl) ((Fr.refl _ _).drew) ?_
        repeat (first | (refine calmRow_free (v := ?_) rfl ?_ ?_; rotate_left; (focus (intro wx hSx; (try dsimp only at hSx); have hcx := HKy.out wx hSx; go_simp; (first | with_reducible rfl | exact ⟨rfl, hSx⟩ | fail))); (try simp only [Act.put, List.setIfInBounds_toArray, List.set_cons_zero, List.set_cons_succ])) | (refine calmRow_skip ?_ ?_; (focus (go_simp; (try (intro hx; cases hx)); done)); (try simp only [Act.put, List.setIfInBounds_toArray, List.set_cons_zero, List.set_cons_succ])) | (refine calmRow_take (v := ?_) ?_ ?_ ?_; rotate_left; (focus (go_simp; done)); (focus (intro wx hSx; (try dsimp only at hSx); have hcx := HKy.out wx hSx; go_simp; (first | with_reducible rfl | exact ⟨rfl, hSx⟩ | fail))); (try simp only [Act.put, List.setIfInBounds_toArray, List.set_cons_zero, List.set_cons_succ])))
        refine calmRow_nil ?_
        intro wm hFx
        try dsimp only at hFx
        go_wp2_with fail
        go_ret2
        rw [HT.out.1, HT.out.2]
        exact ⟨_, _, rfl, fun _ => rfl, St.wnMid hil.out (HJ.out.same hFx)⟩
      · rw [hg] at HKy
        dsimp only [Option.map, Option.getD, Option.isSome] at HKy
        have hpl := Wn.pop_len HY.out.2 hg
        have HI2 := hid (show WtI x1 y.pop (ls ++ [s2]) from by
          refine ⟨?_, ?_, ?_⟩
          · have := HI.out.n1
            show y.next + 1 + y.pop.held.length ≤ 80
            omega
          · have := HI.out.n2
            rw [List.length_append, List.length_singleton]
            omega
          · rw [HI.out.dr, hpl, Wn.drain_some hg]
            simp)
        have HL := hid (show ls.length + 1 ≤ x1.held.length ∧ ls.length + 1 ≤ 80 ∧ (y.next : Int) ≤ 80 from by
          have := HI.out.n2; have := HI.out.n1; have h8 := HN.out
          refine ⟨by omega, by omega, by omega⟩)
        clear hg hpl
        go_wp2_with fail
        refine wp_region_calm (S := fun wx : World => Fr [] wr wx) (by kernel_rfl) (by kernel_rfl) ((Fr.refl _ _).drew) ?_
        repeat (first | (refine calmRow_free (v := ?_) rfl ?_ ?_; rotate_left; (focus (intro wx hSx; (try dsimp only at hSx); have hcx := HKy.out wx hSx; go_simp; (first | with_reducible rfl | exact ⟨rfl, hSx⟩ | fail))); (try simp only [Act.put, List.setIfInBounds_toArray, List.set_cons_zero, List.set_cons_succ])) | (refine calmRow_skip ?_ ?_; (focus (go_simp; (try (intro hx; cases hx)); done)); (try simp only [Act.put, List.setIfInBounds_toArray, List.set_cons_zero, List.set_cons_succ])) | (refine calmRow_take (v := ?_) ?_ ?_ ?_; rotate_left; (focus (go_simp; done)); (focus (intro wx hSx; (try dsimp only at hSx); have hcx := HKy.out wx hSx; go_simp; (first | with_reducible rfl | exact ⟨rfl, hSx⟩ | fail))); (try simp only [Act.put, List.setIfInBounds_toArray, List.set_cons_zero, List.set_cons_succ])))
        refine calmRow_nil ?_
        intro wm hFx
        try dsimp only at hFx
        go_wp2_with fail
        have HJ2 := HJ.out.same hFx
        have HSw := hid (show ∀ wx, Fr [] wm wx → wx.cell? ⟨P, 1, none⟩ = some (.int .i64 y.next) ∧ wx.cell? ⟨P, 2, none⟩ = some (.map (some m)) from fun wx hF => ⟨(HKy.out wx (hFx.trans hF)).1, (HKy.out wx (hFx.trans hF)).2.1⟩)
        obtain ⟨w7, hdel, H8⟩ := mp_del (HJ2.same ((Fr.refl _ _).drew)) _ (get_behind _ _ 1) 89 9 Tryz.underlying3 Tryz.underlying89 0 y.next HY.out.1
        rw [set_bh] at H8
        have hdel := hid hdel
        have H8 := hid H8
        clear HKy HJ HJ2
        refine wp_region_U (S := fun wx : World => wx.cell? ⟨P, 1, none⟩ = some (.int .i64 y.next) ∧ wx.cell? ⟨P, 2, none⟩ = some (.map (some m))) 8 (by kernel_rfl) (HSw.out _ ((Fr.refl _ _).drew)) (fun hHeld => ?_)
        refine takeU (i := 0) (d := 73) (v := ?_) rfl rfl (by kernel_rfl) (by kernel_rfl) (by kernel_rfl) (by kernel_rfl) (by kernel_rfl) (fun _ _ _ h => h) (Or.inl ⟨by rfl, ?_⟩) hHeld ?_
        rotate_left
        · intro wq hSw; (try dsimp only at hSw); go_simp; all_goals (with_reducible rfl)
        simp only [Act.put, List.setIfInBounds_toArray, List.set_cons_zero, List.set_cons_succ]
        refine takeU (i := 1) (d := 74) (v := ?_) rfl rfl (by kernel_rfl) (by kernel_rfl) (by kernel_rfl) (by kernel_rfl) (by kernel_rfl) (fun _ _ _ h => h) (Or.inl ⟨by rfl, ?_⟩) hHeld ?_
        rotate_left
        · intro wq hSw; (try dsimp only at hSw); go_simp; all_goals (with_reducible rfl)
        simp only [Act.put, List.setIfInBounds_toArray, List.set_cons_zero, List.set_cons_succ]
        refine takeU (i := 2) (d := 75) (v := ?_) rfl rfl (by kernel_rfl) (by kernel_rfl) (by kernel_rfl) (by kernel_rfl) (by kernel_rfl) (fun _ _ _ h => h) (Or.inl ⟨by rfl, ?_⟩) hHeld ?_
        rotate_left
        · intro wq hSw; (try dsimp only at hSw); go_simp; all_goals (with_reducible rfl)
        simp only [Act.put, List.setIfInBounds_toArray, List.set_cons_zero, List.set_cons_succ]
        refine takeU (i := 3) (d := 76) (v := ?_) rfl rfl (by kernel_rfl) (by kernel_rfl) (by kernel_rfl) (by kernel_rfl) (by kernel_rfl) (fun _ _ _ h => h) (Or.inl ⟨by rfl, ?_⟩) hHeld ?_
        rotate_left
        · intro wq hSw; (try dsimp only at hSw); go_simp; all_goals (with_reducible rfl)
        simp only [Act.put, List.setIfInBounds_toArray, List.set_cons_zero, List.set_cons_succ]
        refine takeU (i := 4) (d := 77) (v := ?_) rfl rfl (by kernel_rfl) (by kernel_rfl) (by kernel_rfl) (by kernel_rfl) (by kernel_rfl) (fun _ _ _ h => h) (Or.inl ⟨by rfl, ?_⟩) hHeld ?_
        rotate_left
        · intro wq hSw; (try dsimp only at hSw); go_simp; all_goals (with_reducible rfl)
        simp only [Act.put, List.setIfInBounds_toArray, List.set_cons_zero, List.set_cons_succ]
        refine takeU (i := 5) (d := 78) (v := ?_) rfl rfl (by kernel_rfl) (by kernel_rfl) (by kernel_rfl) (by kernel_rfl) (by kernel_rfl) (fun _ _ _ h => h) (Or.inl ⟨by rfl, ?_⟩) hHeld ?_
        rotate_left
        · intro wq hSw; (try dsimp only at hSw); go_simp; all_goals (with_reducible rfl)
        simp only [Act.put, List.setIfInBounds_toArray, List.set_cons_zero, List.set_cons_succ]
        refine takeU (i := 6) (d := 79) (v := ?_) rfl rfl (by kernel_rfl) (by kernel_rfl) (by kernel_rfl) (by kernel_rfl) (by kernel_rfl) (fun _ _ _ h => h) (Or.inl ⟨by rfl, ?_⟩) hHeld ?_
        rotate_left
        · intro wq hSw; (try dsimp only at hSw); go_simp; all_goals (with_reducible rfl)
        simp only [Act.put, List.setIfInBounds_toArray, List.set_cons_zero, List.set_cons_succ]
        refine takeU (i := 7) (d := 80) (v := ?_) rfl rfl (by kernel_rfl) (by kernel_rfl) (by kernel_rfl) (by kernel_rfl) (by kernel_rfl) (fun _ _ _ h => h) (Or.inl ⟨by rfl, ?_⟩) hHeld ?_
        rotate_left
        · intro wq hSw; (try dsimp only at hSw); go_simp; all_goals (with_reducible rfl)
        simp only [Act.put, List.setIfInBounds_toArray, List.set_cons_zero, List.set_cons_succ]
        refine wpAnyU_ready (rs := [8]) (by kernel_rfl) (by simp) ?_
        refine AllReadyU.cons rfl (fun K hK => ?_) AllReadyU.nil
        have hd2 := hdel.out
        go_simp
        refine hK.out _ _ (fun h => absurd rfl h) (fun _ => ?_)
        clear hK K hd2
        refine wpAnyU_done (by kernel_rfl) ?_ _
        clear hHeld hdel
        have H9 := hid (H8.out.alloc (.cells #[.string s2] 9))
        have b8 := H8.out.blk _ (get_behind _ _ 0)
        obtain ⟨i0, hi0, hz0, hz1, hz2⟩ := info_parts info_tx
        have HI0 := hid (And.intro hi0 (And.intro hz0 (And.intro hz1 hz2)))
        clear hi0 hz0 hz1 hz2 b8
        go_wp2_with (at_builtin; refine wpAdded H9.out ((R.set i NilT).length + 2) rfl (.tmp 81) (.tmp 83) 32 rfl 9 i0 (.string ByteArray.empty) 1 16 Tryz.underlying32 HI0.out.1 HI0.out.2.1 HI0.out.2.2.1 HI0.out.2.2.2 rfl (by decide) (.slice a ls.length c) ls.length (txC ls) (by rw [List.append_assoc, get_behind]; rfl) rfl (some ⟨w7.heap.size, 0, none⟩) 1 1 (fun q => ([.string s2] : List Value).getD q undef) rfl (H9.out.blkIn ((R.set i NilT).length + 3) 1 1 rfl (by decide) (by rw [List.append_assoc, get_behind]; rfl)) (fun j hj => by (obtain rfl : j = 0 := by omega); rfl) (by have := HL.out; unfold maxLen; omega) (by have := HL.out; omega) ?_)
        intro a5 c5 w5 H10
        rw [txC_snoc] at H10
        have b5 := H10.blk _ (get_behind _ _ 0)
        have y1 := cell_blk (i := 1) b5 rfl
        have f1 := free_blk (i := 1) b5
        have H11 := H10.setBlk _ (get_behind _ _ 0) 1 (.int .i64 ((y.next + 1 : Nat) : Int))
        rw [set_bh] at H11
        have H12 := hid (show St W (w5.setCell ⟨P, 1, none⟩ (.int .i64 ((y.next + 1 : Nat) : Int))) (R.set i NilT ++ (wnL P y.pop m ++ [RowT 9 1 (.slice a5 (ls.length + 1) c5) (ls ++ [s2]).length (txC (ls ++ [s2]))])) from by
          have e : (ls ++ [s2]).length = ls.length + 1 := by simp
          rw [e]
          have h : St W (w5.setCell ⟨P, 1, none⟩ (.int .i64 ((y.next + 1 : Nat) : Int))) (R.set i NilT ++ (([BlkT P (wnO y.pop m), MpT Tryz.prog 3 m Value.string y.pop.held, RowT 9 1 (.slice a5 (ls.length + 1) c5) (ls.length + 1) (txC (ls ++ [s2]))] : List Thing) ++ [BlkT w7.heap.size (.cells #[.string s2] 9)])) := H11
          rw [← List.append_assoc] at h
          exact h.drop)
        have hnx : wrap64 ((y.next : Int) + 1) = ((y.next + 1 : Nat) : Int) := by
          have := HL.out.2.2
          rw [IntWalk.wrap64_in _ (by omega)]; rfl
        clear H8 H9 H10 H11 b5
        go_wp2_with fail
        refine ⟨⟨y.pop, ls ++ [s2], H12, HI2⟩, ?_⟩
        show x1.held.length - (ls.length + 1) < x1.held.length - ls.length
        have := HL.out
        omega
end

end Go.Proofs.YtkiccbjngokpjaaGreat
