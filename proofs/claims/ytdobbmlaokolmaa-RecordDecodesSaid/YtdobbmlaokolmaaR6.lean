/-
  record: the reader: sure, num.
-/
import Derived.Test.YtdobbmlaokolmaaR0
namespace Go.Proofs.Ytdobbmlaokolmaa
open Go.RowKit
set_option linter.unusedVariables false
set_option linter.unusedSimpArgs false

/-- What record gives up with. -/
def wg : List PanicEntry := [{ v := .iface 51 (.agg #[]), recovered := false }]
def rdr (r : Nat) : Value := .agg #[.pointer (some ⟨r, 0, none⟩)]

section
variable {W : Base} {w : World} {R : List Thing}

theorem st_sure (H : St W w R) (i : Nat) {r : Nat} {s : RS} (hi : R[i]? = some (RdT r s)) (h : s.e = 0) :
    Calls Try.prog 53 #[rdr r] w fun e w' => e = .returned (.tuple #[]) ∧ St W w' R := by
  have hs := hid (st_fault (H.alloc_ (.cells #[.pointer (some ⟨r, 0, none⟩)] 55)) i hi)
  have hf : s.fault = (0, 0) := by unfold RS.fault; rw [if_pos h]
  rw [hf] at hs
  clear H
  unfold rdr
  go_enter Try.func53, Try.ntmps53
  go_wp2_with (go_at_call 68; refine hs.out.mono ?_; rintro e w1 ⟨rfl, H1⟩)
  go_end0
  exact ⟨rfl, H1⟩

theorem st_sure_no (H : St W w R) (i : Nat) {r : Nat} {s : RS} (hi : R[i]? = some (RdT r s)) (h : ¬ s.e = 0) :
    Calls Try.prog 53 #[rdr r] w fun e w' => e = .panicked wg ∧ St W w' R := by
  have hs := hid (st_fault (H.alloc_ (.cells #[.pointer (some ⟨r, 0, none⟩)] 55)) i hi)
  have hf : s.fault = (s.e, (s.at_ : Int)) := by unfold RS.fault; rw [if_neg h]
  rw [hf] at hs
  have e1 : (s.e == 0) = false := by rw [beq_eq_false_iff_ne]; exact h
  clear H hf hi
  generalize s.e = z at *
  unfold rdr
  go_enter Try.func53, Try.ntmps53
  go_wp2_with (go_at_call 68; refine hs.out.mono ?_; rintro e w1 ⟨rfl, H1⟩)
  exact ⟨rfl, rfl, H1⟩

theorem rdN_err {b : ByteArray} {at_ : Nat} : ∀ (k i n : Nat) {c : Int}, rdN b at_ k i n = .error c → c = 20 ∨ c = 22
  | 0, i, n, c, h => by simp only [rdN, Except.error.injEq] at h; exact .inr h.symm
  | k + 1, i, n, c, h => by
    rw [rdN] at h
    split at h
    · split at h
      · exact rdN_err k _ _ h
      · split at h
        · simp at h; exact .inr h.symm
        · cases h
    · simp at h; exact .inl h.symm
theorem rdMost_err {b : ByteArray} {at_ : Nat} {m o : Int} {c : Int} (h : rdMost b at_ m o = .error c) : c = 20 ∨ c = 22 ∨ c = o := by
  unfold rdMost at h
  split at h
  · rename_i c' hc
    rcases rdN_err _ _ _ hc with h1 | h1
    · simp at h; omega
    · simp at h; omega
  · split at h
    · simp at h; exact .inr (.inr h.symm)
    · cases h

theorem st_num_ok (H : St W w R) (i : Nat) {r : Nat} {s : RS} (hi : R[i]? = some (RdT r s)) (hw : s.wf) (h : s.e = 0) {most n p : Nat} (hm : most < 9223372036854775808) (hX : rdMost s.b s.at_ most 21 = .ok (n, p)) :
    Calls Try.prog 35 #[rdr r, .int .i64 most] w fun e w' => e = .returned (.int .i64 n) ∧ St W w' (R.set i (RdT r { s with at_ := p })) := by
  have hil := lt_of_get hi
  have hn := rdMost_le hX
  have H2 := H.alloc (.cells #[.pointer (some ⟨r, 0, none⟩)] 55)
  have hs := st_Num H2 i (by rw [List.getElem?_append_left hil]; exact hi) hw (most := most) (by omega)
  rw [hX] at hs
  simp only [RS.got, RS.face, if_pos h] at hs
  have hs := hid hs
  have hu : ∀ w1, St W w1 ((R ++ [BlkT w.heap.size (.cells #[.pointer (some ⟨r, 0, none⟩)] 55)]).set i (RdT r { s with at_ := p })) → w1.cell? ⟨w.heap.size, 0, none⟩ = some (.pointer (some ⟨r, 0, none⟩)) ∧ St W w1 (R.set i (RdT r { s with at_ := p })) := fun w1 h1 => by
    rw [List.set_append_left _ _ hil] at h1
    exact ⟨cell_blk (h1.blk (R.set i (RdT r { s with at_ := p })).length (by rw [List.getElem?_append_right (Nat.le_refl _), Nat.sub_self]; rfl)) rfl, h1.drop⟩
  have hu := hid hu
  have hwm : IntKind.u64.wrap (most : Int) = most := u64_nat most (by omega)
  have hwn : IntKind.i64.wrap (n : Int) = n := IntWalk.i64_in _ (by omega)
  have hg : (R.set i (RdT r { s with at_ := p }))[i]? = some (RdT r { s with at_ := p }) := List.getElem?_set_self hil
  have hsu := hid (fun w1 (h1 : St W w1 (R.set i (RdT r { s with at_ := p }))) => st_sure h1 i hg h)
  clear H H2 hX hi hil hg hw hm
  unfold rdr at hsu ⊢
  go_enter Try.func35, Try.ntmps35
  go_wp2_with (first
    | (go_at_call 52; refine hs.out.mono ?_; rintro e w1 ⟨rfl, H1⟩; obtain ⟨c0, H1⟩ := hu.out _ H1)
    | (go_at_call 53; refine (hsu.out _ H1).mono ?_; rintro e w2 ⟨rfl, H2⟩))
  go_ret
  exact ⟨rfl, H2⟩

theorem st_num_no (H : St W w R) (i : Nat) {r : Nat} {s : RS} (hi : R[i]? = some (RdT r s)) (hw : s.wf) (h : s.e = 0) {most : Nat} {c : Int} (hm : most < 9223372036854775808) (hX : rdMost s.b s.at_ most 21 = .error c) :
    Calls Try.prog 35 #[rdr r, .int .i64 most] w fun e w' => e = .panicked wg ∧ St W w' (R.set i (RdT r { s with e := c })) := by
  have hil := lt_of_get hi
  have hc : ¬ c = 0 := by have := rdMost_err hX; omega
  have H2 := H.alloc (.cells #[.pointer (some ⟨r, 0, none⟩)] 55)
  have hs := st_Num H2 i (by rw [List.getElem?_append_left hil]; exact hi) hw (most := most) (by omega)
  rw [hX] at hs
  simp only [RS.got, RS.face, if_pos h] at hs
  have hs := hid hs
  have hu : ∀ w1, St W w1 ((R ++ [BlkT w.heap.size (.cells #[.pointer (some ⟨r, 0, none⟩)] 55)]).set i (RdT r { s with e := c })) → w1.cell? ⟨w.heap.size, 0, none⟩ = some (.pointer (some ⟨r, 0, none⟩)) ∧ St W w1 (R.set i (RdT r { s with e := c })) := fun w1 h1 => by
    rw [List.set_append_left _ _ hil] at h1
    exact ⟨cell_blk (h1.blk (R.set i (RdT r { s with e := c })).length (by rw [List.getElem?_append_right (Nat.le_refl _), Nat.sub_self]; rfl)) rfl, h1.drop⟩
  have hu := hid hu
  have hwm : IntKind.u64.wrap (most : Int) = most := u64_nat most (by omega)
  have hg : (R.set i (RdT r { s with e := c }))[i]? = some (RdT r { s with e := c }) := List.getElem?_set_self hil
  have hsu := hid (fun w1 (h1 : St W w1 (R.set i (RdT r { s with e := c }))) => st_sure_no h1 i hg hc)
  clear H H2 hX hi hil hg hw hm hc
  unfold rdr at hsu ⊢
  go_enter Try.func35, Try.ntmps35
  go_wp2_with (first
    | (go_at_call 52; refine hs.out.mono ?_; rintro e w1 ⟨rfl, H1⟩; obtain ⟨c0, H1⟩ := hu.out _ H1)
    | (go_at_call 53; refine (hsu.out _ H1).mono ?_; rintro e w2 ⟨rfl, H2⟩))
  exact ⟨rfl, rfl, H2⟩

end
end Go.Proofs.Ytdobbmlaokolmaa
