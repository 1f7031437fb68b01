/-
  pack.Reader: take, Left, Fault, Read.
-/
import Derived.Test.YtdobbmlaokolmaaPk1
namespace Go.Proofs.Ytdobbmlaokolmaa
open Go.RowKit
set_option linter.unusedVariables false
set_option linter.unusedSimpArgs false

/-- A reader: its bytes, where it stands, its fault. -/
structure RS where
  b : ByteArray
  at_ : Nat
  e : Int
structure RS.wf (s : RS) : Prop where
  le : s.at_ ≤ s.b.size
  mx : s.b.size ≤ 140737488355328
def RdT (r : Nat) (s : RS) : Thing := BlkT r (.cells #[.string s.b, .int .i64 s.at_, .int .i64 s.e] 77)
/-- What a reader gives up with. -/
def gu (c : Int) : List PanicEntry := [{ v := .iface 99 (.agg #[.int .i64 c]), recovered := false }]

section
variable {W : Base} {w : World} {R : List Thing}

theorem St.setRd (H : St W w R) (i : Nat) {r : Nat} {s : RS} (hi : R[i]? = some (RdT r s)) (n : Nat) : St W (w.setCell ⟨r, 1, none⟩ (.int .i64 n)) (R.set i (RdT r { s with at_ := n })) := by
  have h := H.setBlk i hi 1 (.int .i64 n)
  exact h
theorem St.rd (H : St W w R) (i : Nat) {r : Nat} {s : RS} (hi : R[i]? = some (RdT r s)) : w.cell? ⟨r, 0, none⟩ = some (.string s.b) ∧ w.cell? ⟨r, 1, none⟩ = some (.int .i64 s.at_) ∧ w.cell? ⟨r, 2, none⟩ = some (.int .i64 s.e) ∧ (∀ j, w.frozen? ⟨r, j, none⟩ = false) ∧ r < w.heap.size := by
  have hb := H.blk i hi
  exact ⟨cell_blk hb rfl, cell_blk hb rfl, cell_blk hb rfl, fun j => free_blk hb, lt_of_block hb⟩

set_option maxHeartbeats 800000 in
theorem st_take (H : St W w R) (i : Nat) {r : Nat} {s : RS} (hi : R[i]? = some (RdT r s)) (hw : s.wf) (n : Nat) (hn : n ≤ 140737488355328) (hle : s.at_ + n ≤ s.b.size) :
    Calls Try.prog 72 #[.pointer (some ⟨r, 0, none⟩), .int .i64 n] w fun e w' => e = .returned (.string (s.b.extract s.at_ (s.at_ + n))) ∧ St W w' (R.set i (RdT r { s with at_ := s.at_ + n })) := by
  obtain ⟨c0, c1, _, f, hl⟩ := H.rd i hi
  have f1 := f 1
  have h1 := hw.le
  have h2 := hw.mx
  have hil := lt_of_get hi
  have HH := hid (fun (m : Nat) => (show St W ((w.drewN m).setCell ⟨r, 1, none⟩ (.int .i64 ((s.at_ : Int) + n))) (R.set i (RdT r { s with at_ := s.at_ + n })) by
    have h := (H.drewN m).setRd i hi (s.at_ + n)
    rw [Int.natCast_add] at h; exact h))
  have g1 : ¬ ((s.b.size : Int) - s.at_ < n) := by omega
  have w1 : IntKind.i64.wrap ((s.b.size : Int) - s.at_) = (s.b.size : Int) - s.at_ := IntWalk.i64_in _ (by omega)
  clear H hi f
  go_enter Try.func72, Try.ntmps72
  go_wp2_with fail
  go_quiet (fail)
  go_wp2_with fail
  have H2 := HH.out nq
  generalize (w.drewN nq).setCell ⟨r, 1, none⟩ (.int .i64 ((s.at_ : Int) + n)) = wx at H2 ⊢
  obtain ⟨d0, d1, _, _, dl⟩ := H2.rd i (List.getElem?_set_self hil)
  simp only at d0 d1
  have e1 : ((s.at_ + n : Nat) : Int) = (s.at_ : Int) + n := Int.natCast_add _ _
  rw [e1] at d1
  have w2 : IntKind.i64.wrap ((s.at_ : Int) + n - n) = s.at_ := by rw [show (s.at_ : Int) + n - n = s.at_ by omega]; exact IntWalk.i64_in _ (by omega)
  have w3 : (s.at_ : Int) + n - n = s.at_ := by omega
  have w4 : (s.at_ : Int) ≤ (s.at_ : Int) + n := by omega
  have w5 : (s.at_ : Int) + n ≤ s.b.size := by omega
  have H2 := hid H2
  clear HH e1 c0 c1 f1 w1
  go_quiet (fail)
  go_wp2_with fail
  go_ret
  exact ⟨rfl, H2.out.drewN _⟩

theorem st_take_no (H : St W w R) (i : Nat) {r : Nat} {s : RS} (hi : R[i]? = some (RdT r s)) (hw : s.wf) (n : Nat) (hn : (n : Int) ≤ 9223372036854775807) (hle : s.b.size < s.at_ + n) :
    Calls Try.prog 72 #[.pointer (some ⟨r, 0, none⟩), .int .i64 n] w fun e w' => e = .panicked (gu 20) ∧ St W w' R := by
  obtain ⟨c0, c1, _, f, hl⟩ := H.rd i hi
  have h1 := hw.le
  have h2 := hw.mx
  have HH := hid (fun m => H.drewN m)
  have g1 : (s.b.size : Int) - s.at_ < n := by omega
  have w1 : IntKind.i64.wrap ((s.b.size : Int) - s.at_) = (s.b.size : Int) - s.at_ := IntWalk.i64_in _ (by omega)
  clear H hi f
  go_enter Try.func72, Try.ntmps72
  go_wp2_with fail
  go_quiet (fail)
  go_wp2_with fail
  exact ⟨rfl, rfl, HH.out _⟩

theorem st_left (H : St W w R) (i : Nat) {r : Nat} {s : RS} (hi : R[i]? = some (RdT r s)) (hw : s.wf) :
    Calls Try.prog 37 #[.pointer (some ⟨r, 0, none⟩)] w fun e w' => e = .returned (.int .i64 ((s.b.size : Int) - s.at_)) ∧ St W w' R := by
  obtain ⟨c0, c1, _, f, hl⟩ := H.rd i hi
  have h1 := hw.le
  have h2 := hw.mx
  have HH := hid (fun m => H.drewN m)
  have w1 : IntKind.i64.wrap ((s.b.size : Int) - s.at_) = (s.b.size : Int) - s.at_ := IntWalk.i64_in _ (by omega)
  clear H hi f
  go_enter Try.func37, Try.ntmps37
  go_wp2_with fail
  go_quiet (fail)
  go_wp2_with fail
  go_ret
  exact ⟨rfl, HH.out _⟩

def RS.fault (s : RS) : Int × Int := if s.e = 0 then (0, 0) else (s.e, s.at_)
theorem st_fault (H : St W w R) (i : Nat) {r : Nat} {s : RS} (hi : R[i]? = some (RdT r s)) :
    Calls Try.prog 68 #[.pointer (some ⟨r, 0, none⟩)] w fun e w' => e = .returned (.tuple #[.int .i64 s.fault.1, .int .i64 s.fault.2]) ∧ St W w' R := by
  obtain ⟨c0, c1, c2, f, hl⟩ := H.rd i hi
  have HH := hid (fun m => H.drewN m)
  have HH0 := hid H
  clear H hi f
  unfold RS.fault
  by_cases h : s.e = 0
  · rw [if_pos h]
    rw [h] at c2
    clear h
    go_enter Try.func68, Try.ntmps68
    go_wp2_with fail
    go_ret2
    exact ⟨rfl, HH0.out⟩
  · rw [if_neg h]
    have e1 : (s.e == 0) = false := by rw [beq_eq_false_iff_ne]; exact h
    generalize s.e = z at c2 e1 h ⊢
    go_enter Try.func68, Try.ntmps68
    go_wp2_with fail
    go_quiet (fail)
    go_wp2_with fail
    go_ret2
    exact ⟨rfl, HH.out _⟩

theorem st_read0 (H : St W w R) (s : ByteArray) :
    Calls Try.prog 34 #[.string s] w fun e w' => ∃ r, e = .returned (.pointer (some ⟨r, 0, none⟩)) ∧ St W w' (R ++ [RdT r ⟨s, 0, 0⟩]) := by
  have HH := hid H
  clear H
  go_enter Try.func34, Try.ntmps34
  go_wp2_with fail
  go_ret
  exact ⟨_, rfl, HH.out.alloc _⟩

end
end Go.Proofs.Ytdobbmlaokolmaa
