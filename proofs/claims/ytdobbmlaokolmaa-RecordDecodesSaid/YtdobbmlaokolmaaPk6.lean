/-
  pack.Reader: Num, list, List.
-/
import Derived.Test.YtdobbmlaokolmaaPk5
namespace Go.Proofs.Ytdobbmlaokolmaa
open Go.RowKit
set_option linter.unusedVariables false
set_option linter.unusedSimpArgs false

section
variable {W : Base} {w : World} {R : List Thing}

theorem numTo_read {i r : Nat} {s : RS} {X : Except Int (Nat × Nat)} {e : Ending} {w' : World} (h : NumTo W R i r s X e w') : ReadTo (fun n : Nat => Value.int .u64 n) W R i r s X e w' := by
  cases X with
  | ok p => exact h
  | error c => exact h

theorem rdMost_le {b : ByteArray} {at_ : Nat} {most over : Int} {n p : Nat} (h : rdMost b at_ most over = .ok (n, p)) : (n : Int) ≤ most := by
  unfold rdMost at h
  split at h
  · cases h
  · split at h
    · cases h
    · cases h; omega

theorem st_num1 (H : St W w R) (i : Nat) {r : Nat} {s : RS} (hi : R[i]? = some (RdT r s)) (hw : s.wf) {j k pb nb : Nat} {most : Nat} (hm : most < 18446744073709551616)
    (hj : R[j]? = some (BlkT pb (.cells #[Value.pointer (some ⟨r, 0, none⟩)] 52))) (hk : R[k]? = some (BlkT nb (.cells #[Value.int .u64 most] 22))) :
    Calls Try.prog 66 #[.pointer (some ⟨pb, 0, none⟩), .pointer (some ⟨nb, 0, none⟩)] w (ReadTo (fun n : Nat => Value.int .u64 n) W R i r s (rdMost s.b s.at_ most 21)) := by
  have p0 : w.cell? ⟨pb, 0, none⟩ = some (.pointer (some ⟨r, 0, none⟩)) := cell_blk (H.blk j hj) rfl
  have n0 : w.cell? ⟨nb, 0, none⟩ = some (.int .u64 most) := cell_blk (H.blk k hk) rfl
  generalize hX : rdMost s.b s.at_ most 21 = X
  have hc := hid (st_number H i hi hw most hm 21)
  rw [hX] at hc
  have hX := hid hX
  clear H hi hj hk
  go_enter Try.func66, Try.ntmps66
  go_wp2_with fail
  refine hc.out.mono ?_
  rintro e w1 h0
  have h1 := numTo_read h0
  clear h0
  cases X with
  | ok p =>
    obtain ⟨rfl, h⟩ := h1
    dsimp only
    have hh := hid h
    clear h
    go_wp2_with fail
    go_ret
    exact ⟨rfl, hh.out⟩
  | error c =>
    obtain ⟨rfl, h⟩ := h1
    dsimp only
    have hh := hid h
    clear h
    go_wp2_with fail
    exact ⟨rfl, rfl, hh.out⟩

theorem enter_num1 (args : Array Value) (w : World) : (callFunc 66 args).run Try.prog w = .ok (.enter 66 args) w := run_enter Try.func66 (by kernel_rfl) rfl args w

theorem st_Num (H : St W w R) (i : Nat) {r : Nat} {s : RS} (hi : R[i]? = some (RdT r s)) (hw : s.wf) {most : Nat} (hm : most < 18446744073709551616) :
    Calls Try.prog 52 #[.pointer (some ⟨r, 0, none⟩), .int .u64 most] w fun e w' => e = .returned (.int .u64 (s.got 0 (rdMost s.b s.at_ most 21) : Nat)) ∧ St W w' (R.set i (RdT r (s.face (rdMost s.b s.at_ most 21)))) := by
  have hmf : ∀ (fn : Fn) (first cap : Array Value) (w : World), (Instr.makeFunc fn first cap).run Try.prog w = .ok (.func fn first cap) w := fun _ _ _ _ => rfl
  generalize hX : rdMost s.b s.at_ most 21 = X
  generalize hs : s.face X = s'
  generalize hg : s.got 0 X = g
  have hX := hid hX
  have hs := hid hs
  have hg := hid hg
  have hil := lt_of_get hi
  have H := hid H
  go_enter Try.func52, Try.ntmps52
  go_wp2_with fail
  have H2 := (H.out.alloc (.cells #[Value.pointer (some ⟨r, 0, none⟩)] 52)).allocAt (.cells #[Value.int .u64 most] 22) (w.heap.size + 1) (by simp)
  rw [List.append_assoc] at H2
  refine (st_face_u (X := X) H2 i (by rw [List.getElem?_append_left hil]; exact hi) (enter_num1 _) ?_).mono ?_
  · intro T w' H3
    rw [← hX.out]
    refine st_num1 H3 i ?_ hw (j := R.length + 0) (k := R.length + 1) hm ?_ ?_
    · rw [List.append_assoc, List.getElem?_append_left hil]; exact hi
    · rw [List.append_assoc, get_behind]; rfl
    · rw [List.append_assoc, get_behind]; rfl
  rintro e w1 ⟨rfl, H4⟩
  rw [hg.out, hs.out, List.set_append_left _ _ hil] at *
  have H4 := hid H4.drop
  go_wp2_with fail
  go_ret
  exact ⟨rfl, H4.out⟩

set_option maxHeartbeats 1600000 in
theorem st_list (H : St W w R) (i : Nat) {r : Nat} {s : RS} (hi : R[i]? = some (RdT r s)) (hw : s.wf) (m : Int) (hm : m ≤ 9223372036854775807) :
    Calls Try.prog 73 #[.pointer (some ⟨r, 0, none⟩), .int .i64 m] w (ReadTo (fun n : Nat => Value.int .i64 n) W R i r s (rdMost s.b s.at_ (max 0 m) 23)) := by
  obtain ⟨M, hM⟩ : ∃ M : Nat, max 0 m = (M : Int) := ⟨(max 0 m).toNat, by omega⟩
  have hm64 : M ≤ 9223372036854775807 := by omega
  have hc := st_number H i hi hw M (by omega) 23
  rw [hM]
  generalize hX : rdMost s.b s.at_ M 23 = X
  rw [hX] at hc
  have hc := hid hc
  have hle : ∀ n p, X = .ok (n, p) → (n : Int) ≤ 9223372036854775807 := fun n p h => by
    have := rdMost_le (hX.trans h); omega
  have hle := hid hle
  clear H hi hX
  by_cases h0 : 0 < m
  · have e1 : m = (M : Int) := by omega
    subst e1
    clear hM
    go_enter Try.func73, Try.ntmps73
    go_wp2_with fail
    refine hc.out.mono ?_
    rintro e w1 h0
    have h1 := numTo_read h0
    clear h0
    cases X with
    | ok p =>
      obtain ⟨rfl, h⟩ := h1
      dsimp only
      have hh := hid h
      have hw := IntWalk.i64_in p.1 (by have := hle.out p.1 p.2 rfl; omega)
      clear h hle
      go_wp2_with fail
      go_ret
      exact ⟨rfl, hh.out⟩
    | error c =>
      obtain ⟨rfl, h⟩ := h1
      dsimp only
      have hh := hid h
      clear h
      go_wp2_with fail
      exact ⟨rfl, rfl, hh.out⟩
  · have e1 : M = 0 := by omega
    subst e1
    have g1 : ¬ 0 < m := h0
    clear hM
    go_enter Try.func73, Try.ntmps73
    go_wp2_with fail
    refine hc.out.mono ?_
    rintro e w1 h0
    have h1 := numTo_read h0
    clear h0
    cases X with
    | ok p =>
      obtain ⟨rfl, h⟩ := h1
      dsimp only
      have hh := hid h
      have hw := IntWalk.i64_in p.1 (by have := hle.out p.1 p.2 rfl; omega)
      clear h hle
      go_wp2_with fail
      go_ret
      exact ⟨rfl, hh.out⟩
    | error c =>
      obtain ⟨rfl, h⟩ := h1
      dsimp only
      have hh := hid h
      clear h
      go_wp2_with fail
      exact ⟨rfl, rfl, hh.out⟩

end
end Go.Proofs.Ytdobbmlaokolmaa
