/-
  Merged, in build order: Pk7.
-/
import Derived.RegionDies
import Derived.Test.YtkiccbjngokpjaaGreatM10
/-
  pack.Reader: List, Text.
-/
namespace Go.Proofs.YtkiccbjngokpjaaGreat
open Go.RowKit
set_option linter.unusedVariables false
set_option linter.unusedSimpArgs false

/-- A text, read. -/
def rdText (b : ByteArray) (at_ : Nat) (m : Int) : Except Int (ByteArray × Nat) :=
  match rdMost b at_ (max 0 m) 23 with
  | .error c => .error c
  | .ok (n, p) => if p + n ≤ b.size then .ok (b.extract p (p + n), p + n) else .error 20

theorem rdN_p {b : ByteArray} {at_ : Nat} : ∀ (k i n : Nat) {x p : Nat}, rdN b at_ k i n = .ok (x, p) → at_ ≤ p ∧ p ≤ b.size := by
  intro k
  induction k with
  | zero => intro i n x p h; cases h
  | succ k ih =>
    intro i n x p h
    unfold rdN at h
    split at h
    · split at h
      · exact ih _ _ h
      · split at h
        · cases h
        · cases h; omega
    · cases h
theorem rdMost_p {b : ByteArray} {at_ : Nat} {most over : Int} {x p : Nat} (h : rdMost b at_ most over = .ok (x, p)) : at_ ≤ p ∧ p ≤ b.size := by
  unfold rdMost at h
  split at h
  · cases h
  · rename_i n q hq
    split at h
    · cases h
    · cases h; exact rdN_p _ _ _ hq

section
variable {W : Base} {w : World} {R : List Thing}

theorem st_strclone (H : St W w R) (s : ByteArray) (hs : s.size ≤ 140737488355328) :
    Calls Tryz.prog 112 #[.string s] w fun e w' => e = .returned (.string s) ∧ St W w' R := by
  have H := hid H
  go_enter Tryz.func112, Tryz.ntmps112
  go_wp2_with fail
  refine (sh_stringslite_Clone s w (by omega)).mono ?_
  rintro e w1 ⟨rfl, hb⟩
  have H2 := hid (H.out.same (Fr.of_below hb []))
  clear hb
  go_wp2_with fail
  go_ret
  exact ⟨rfl, H2.out⟩




set_option maxHeartbeats 1600000 in
theorem st_text1_short (H : St W w R) (i : Nat) {r : Nat} {s : RS} (hi : R[i]? = some (RdT r s)) (hw : s.wf) {j k pb nb : Nat} {m : Int} (hm : m ≤ 9223372036854775807)
    (hj : R[j]? = some (BlkT pb (.cells #[Value.pointer (some ⟨r, 0, none⟩)] 134))) (hk : R[k]? = some (BlkT nb (.cells #[Value.int .i64 m] 3))) (hji : i ≠ j) {n p : Nat}
    (hX : rdMost s.b s.at_ (max 0 m) 23 = .ok (n, p)) (hfit : ¬ p + n ≤ s.b.size) :
    Calls Tryz.prog 111 #[.pointer (some ⟨pb, 0, none⟩), .pointer (some ⟨nb, 0, none⟩)] w (ReadTo (fun n : ByteArray => Value.string n) W R i r s (.error 20)) := by
  have p0 : w.cell? ⟨pb, 0, none⟩ = some (.pointer (some ⟨r, 0, none⟩)) := cell_blk (H.blk j hj) rfl
  have n0 : w.cell? ⟨nb, 0, none⟩ = some (.int .i64 m) := cell_blk (H.blk k hk) rfl
  have hp := rdMost_p hX
  have hn := rdMost_le hX
  have hil := lt_of_get hi
  have hn2 : (n : Int) ≤ 9223372036854775807 := by omega
  have hK := hid (fun n' : Nat => by
    have h := st_list (H.drewN n') i hi hw m hm
    rw [hX] at h
    exact h)
  have hP0 : ∀ w1 : World, St W w1 (R.set i (RdT r { s with at_ := p })) → w1.cell? ⟨pb, 0, none⟩ = some (.pointer (some ⟨r, 0, none⟩)) := fun w1 h => cell_blk (h.blk j (by rw [List.getElem?_set_ne hji]; exact hj)) rfl
  have hP := hid hP0
  clear hP0
  have hT0 : ∀ w1 : World, St W w1 (R.set i (RdT r { s with at_ := p })) → Calls Tryz.prog 113 #[.pointer (some ⟨r, 0, none⟩), .int .i64 n] w1 fun e w' => e = .panicked (gu 20) ∧ St W w' (R.set i (RdT r { s with at_ := p })) := fun w1 h => st_take_no h i (List.getElem?_set_self hil) ⟨hp.2, hw.mx⟩ n hn2 (show s.b.size < p + n by omega)
  have hT := hid hT0
  have hp2 := hid hp.2
  clear H hn hn2 hT0
  go_enter Tryz.func111, Tryz.ntmps111
  go_wp2_with fail
  go_region_dies
  all_goals
    rename_i hk
    refine (hK.out 1).mono ?_
    rintro e w1 ⟨rfl, h⟩
    refine hk _ _ ?_
    clear hk
    have hpb := hP.out _ h
  · refine wpAny_ready (rs := [4]) (by kernel_rfl) (by simp) ?_
    refine AllReady.cons rfl (fun K4 hK4 => ?_) AllReady.nil
    go_simp
    clear hK4
    refine (hT.out _ h).mono ?_
    rintro e w2 ⟨rfl, h2⟩
    exact ⟨rfl, rfl, _, hp2.out, h2⟩
  · refine wpAny_ready (rs := [4]) (by kernel_rfl) (by simp) ?_
    refine AllReady.cons rfl (fun K4 hK4 => ?_) AllReady.nil
    go_simp
    clear hK4
    refine (hT.out _ h).mono ?_
    rintro e w2 ⟨rfl, h2⟩
    exact ⟨rfl, rfl, _, hp2.out, h2⟩
  · refine wpAny_ready (rs := [4]) (by kernel_rfl) (by simp) ?_
    refine AllReady.cons rfl (fun K4 hK4 => ?_) AllReady.nil
    go_simp
    clear hK4
    refine (hT.out _ h).mono ?_
    rintro e w2 ⟨rfl, h2⟩
    exact ⟨rfl, rfl, _, hp2.out, h2⟩
  · refine wpAny_ready (rs := [4]) (by kernel_rfl) (by simp) ?_
    refine AllReady.cons rfl (fun K4 hK4 => ?_) AllReady.nil
    go_simp
    clear hK4
    refine (hT.out _ h).mono ?_
    rintro e w2 ⟨rfl, h2⟩
    exact ⟨rfl, rfl, _, hp2.out, h2⟩
  · refine wpAny_ready (rs := [0]) (by kernel_rfl) (by simp) ?_
    refine AllReady.cons rfl (fun K0 hK0 => ?_) AllReady.nil
    go_simp
    refine hK0 _ _ ?_
    clear hK0 K0
    refine wpAny_ready (rs := [4]) (by kernel_rfl) (by simp) ?_
    refine AllReady.cons rfl (fun K4 hK4 => ?_) AllReady.nil
    go_simp
    clear hK4
    refine (hT.out _ h).mono ?_
    rintro e w2 ⟨rfl, h2⟩
    exact ⟨rfl, rfl, _, hp2.out, h2⟩
  · refine wpAny_ready (rs := [4]) (by kernel_rfl) (by simp) ?_
    refine AllReady.cons rfl (fun K4 hK4 => ?_) AllReady.nil
    go_simp
    clear hK4
    refine (hT.out _ h).mono ?_
    rintro e w2 ⟨rfl, h2⟩
    exact ⟨rfl, rfl, _, hp2.out, h2⟩
  · refine wpAny_ready (rs := [4]) (by kernel_rfl) (by simp) ?_
    refine AllReady.cons rfl (fun K4 hK4 => ?_) AllReady.nil
    go_simp
    clear hK4
    refine (hT.out _ h).mono ?_
    rintro e w2 ⟨rfl, h2⟩
    exact ⟨rfl, rfl, _, hp2.out, h2⟩
  · refine wpAny_ready (rs := [0]) (by kernel_rfl) (by simp) ?_
    refine AllReady.cons rfl (fun K0 hK0 => ?_) AllReady.nil
    go_simp
    refine hK0 _ _ ?_
    clear hK0 K0
    refine wpAny_ready (rs := [4]) (by kernel_rfl) (by simp) ?_
    refine AllReady.cons rfl (fun K4 hK4 => ?_) AllReady.nil
    go_simp
    clear hK4
    refine (hT.out _ h).mono ?_
    rintro e w2 ⟨rfl, h2⟩
    exact ⟨rfl, rfl, _, hp2.out, h2⟩

end
end Go.Proofs.YtkiccbjngokpjaaGreat
