/-
  Merged, in build order: Pk8.
-/
import Derived.Test.YtkiccbjngokpjaaGreatM11
/-
  pack.Reader: Text.
-/
namespace Go.Proofs.YtkiccbjngokpjaaGreat
open Go.RowKit
set_option linter.unusedVariables false
set_option linter.unusedSimpArgs false

section
variable {W : Base} {w : World} {R : List Thing}

set_option maxHeartbeats 1600000 in
theorem st_text1 (H : St W w R) (i : Nat) {r : Nat} {s : RS} (hi : R[i]? = some (RdT r s)) (hw : s.wf) {j k pb nb : Nat} {m : Int} (hm : m ≤ 9223372036854775807)
    (hj : R[j]? = some (BlkT pb (.cells #[Value.pointer (some ⟨r, 0, none⟩)] 134))) (hk : R[k]? = some (BlkT nb (.cells #[Value.int .i64 m] 3))) (hji : i ≠ j) (hki : i ≠ k) :
    Calls Tryz.prog 111 #[.pointer (some ⟨pb, 0, none⟩), .pointer (some ⟨nb, 0, none⟩)] w (ReadTo (fun n : ByteArray => Value.string n) W R i r s (rdText s.b s.at_ m)) := by
  have p0 : w.cell? ⟨pb, 0, none⟩ = some (.pointer (some ⟨r, 0, none⟩)) := cell_blk (H.blk j hj) rfl
  have n0 : w.cell? ⟨nb, 0, none⟩ = some (.int .i64 m) := cell_blk (H.blk k hk) rfl
  unfold rdText
  cases hX : rdMost s.b s.at_ (max 0 m) 23 with
  | error c =>
    dsimp only
    have hK := hid (fun n : Nat => by
      have h := st_list (H.drewN n) i hi hw m hm
      rw [hX] at h
      exact h)
    go_enter Tryz.func111, Tryz.ntmps111
    go_wp2_with fail
    clear H
    go_region_dies
    all_goals
      refine (hK.out 1).mono ?_
      rintro e w1 ⟨rfl, p, hp, h⟩
      exact ⟨rfl, rfl, p, hp, h⟩
  | ok q =>
    obtain ⟨n, p⟩ := q
    have hp := rdMost_p hX
    have hn := rdMost_le hX
    have hil := lt_of_get hi
    have hn2 : (n : Int) ≤ 9223372036854775807 := by omega
    dsimp only
    have hK := hid (fun n' : Nat => by
      have h := st_list (H.drewN n') i hi hw m hm
      rw [hX] at h
      exact h)
    have hP0 : ∀ w1 : World, St W w1 (R.set i (RdT r { s with at_ := p })) → w1.cell? ⟨pb, 0, none⟩ = some (.pointer (some ⟨r, 0, none⟩)) := fun w1 h => cell_blk (h.blk j (by rw [List.getElem?_set_ne hji]; exact hj)) rfl
    have hP := hid hP0
    clear hP0
    by_cases hfit : p + n ≤ s.b.size
    · rw [if_pos hfit]
      have hT0 : ∀ w1 : World, St W w1 (R.set i (RdT r { s with at_ := p })) → Calls Tryz.prog 113 #[.pointer (some ⟨r, 0, none⟩), .int .i64 n] w1 fun e w' => e = .returned (.string (s.b.extract p (p + n))) ∧ St W w' (R.set i (RdT r { s with at_ := p + n })) := fun w1 h => by
        have h := st_take h i (List.getElem?_set_self hil) ⟨hp.2, hw.mx⟩ n (by have := hw.mx; omega) hfit
        rw [List.set_set] at h
        exact h
      have hsz : (s.b.extract p (p + n)).size ≤ 140737488355328 := by rw [ByteArray.size_extract]; have := hw.mx; omega
      generalize s.b.extract p (p + n) = t at hT0 hsz ⊢
      have hT := hid hT0
      clear hT0
      have hsz := hid hsz
      clear H hn hn2
      go_enter Tryz.func111, Tryz.ntmps111
      go_wp2_with fail
      go_region_with (first | (go_at_call 114; refine (hK.out 1).mono ?_; rintro e w1 ⟨rfl, h⟩; have hpb := hP.out _ h) | (go_at_call 113; refine (hT.out _ h).mono ?_; rintro e w2 ⟨rfl, h2⟩) | (go_at_call 112; refine (st_strclone h2 t hsz.out).mono ?_; rintro e w3 ⟨rfl, h3⟩))
      all_goals go_wp2_with fail
      all_goals (go_ret; exact ⟨rfl, h3⟩)
    · rw [if_neg hfit]
      exact st_text1_short H i hi hw hm hj hk hji hX hfit

theorem enter_text1 (args : Array Value) (w : World) : (callFunc 111 args).run Tryz.prog w = .ok (.enter 111 args) w := run_enter Tryz.func111 (by kernel_rfl) rfl args w

theorem st_Text (H : St W w R) (i : Nat) {r : Nat} {s : RS} (hi : R[i]? = some (RdT r s)) (hw : s.wf) {m : Int} (hm : m ≤ 9223372036854775807) :
    Calls Tryz.prog 94 #[.pointer (some ⟨r, 0, none⟩), .int .i64 m] w fun e w' => e = .returned (.string (s.got ⟨#[]⟩ (rdText s.b s.at_ m))) ∧ St W w' (R.set i (RdT r (s.face (rdText s.b s.at_ m)))) := by
  have hmf : ∀ (fn : Fn) (first cap : Array Value) (w : World), (Instr.makeFunc fn first cap).run Tryz.prog w = .ok (.func fn first cap) w := fun _ _ _ _ => rfl
  generalize hX : rdText s.b s.at_ m = X
  generalize hs : s.face X = s'
  generalize hg : s.got ⟨#[]⟩ X = g
  have hX := hid hX
  have hs := hid hs
  have hg := hid hg
  have hil := lt_of_get hi
  have H := hid H
  go_enter Tryz.func94, Tryz.ntmps94
  go_wp2_with fail
  have H2 := (H.out.alloc (.cells #[Value.pointer (some ⟨r, 0, none⟩)] 134)).allocAt (.cells #[Value.int .i64 m] 3) (w.heap.size + 1) (by simp)
  rw [List.append_assoc] at H2
  refine (st_face_s (X := X) H2 i (by rw [List.getElem?_append_left hil]; exact hi) (enter_text1 _) ?_).mono ?_
  · intro T w' H3
    rw [← hX.out]
    refine st_text1 H3 i ?_ hw (j := R.length + 0) (k := R.length + 1) hm ?_ ?_ (by omega) (by omega)
    · rw [List.append_assoc, List.getElem?_append_left hil]; exact hi
    · rw [List.append_assoc, get_behind]; rfl
    · rw [List.append_assoc, get_behind]; rfl
  rintro e w1 ⟨rfl, H4⟩
  rw [hg.out, hs.out, List.set_append_left _ _ hil] at *
  have H4 := hid H4.drop
  go_wp2_with fail
  go_ret
  exact ⟨rfl, H4.out⟩

end
end Go.Proofs.YtkiccbjngokpjaaGreat
