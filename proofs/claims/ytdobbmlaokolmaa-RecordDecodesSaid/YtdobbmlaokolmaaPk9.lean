/-
  pack.Reader: Bits.
-/
import Derived.Test.YtdobbmlaokolmaaPk8
import Derived.Lib.ConvBytes
import Derived.Lib.AtoiErrMem
namespace Go.Proofs.Ytdobbmlaokolmaa
open Go.RowKit
set_option linter.unusedVariables false
set_option linter.unusedSimpArgs false

/-- Bytes as a number, the greatest first. -/
def beN (b : ByteArray) (p : Nat) : Nat → Nat
  | 0 => 0
  | k + 1 => beN b p k * 256 + bAt b (p + k)
/-- 64 bits, read. -/
def rdBits (b : ByteArray) (at_ : Nat) : Except Int (Nat × Nat) :=
  if at_ + 8 ≤ b.size then .ok (beN b at_ 8, at_ + 8) else .error 20
theorem beN_lt (b : ByteArray) (p k : Nat) : beN b p k < 256 ^ k := by
  induction k with
  | zero => simp [beN]
  | succ k ih =>
    have := bAt_lt b (p + k)
    rw [beN, Nat.pow_succ]
    omega

set_option maxRecDepth 100000 in
theorem bits_slot (N c : Nat) (hN : N * 256 + c < 18446744073709551616) (hc : c < 256) : bits .or .u64 (IntKind.u64.wrap ((N : Int) * 256)) (c : Int) = ((N * 256 + c : Nat) : Int) := by
  have e1 : (N : Int) * 256 = ((N * 256 : Nat) : Int) := by push_cast; rfl
  rw [e1, u64_nat _ (by omega)]
  rw [bits_join .u64 64 (by decide) wraps_u64 8 _ _ (by omega) (by omega) (by omega) (by omega) (by omega) (by omega)]
  push_cast; rfl

section
variable {W : Base} {w : World} {R : List Thing}

set_option maxHeartbeats 1600000 in
theorem st_bits1 (H : St W w R) (i : Nat) {r : Nat} {s : RS} (hi : R[i]? = some (RdT r s)) (hw : s.wf) {j pb : Nat}
    (hj : R[j]? = some (BlkT pb (.cells #[Value.pointer (some ⟨r, 0, none⟩)] 52))) :
    Calls Try.prog 76 #[.pointer (some ⟨pb, 0, none⟩)] w (ReadTo (fun n : Nat => Value.int .u64 n) W R i r s (rdBits s.b s.at_)) := by
  have p0 : w.cell? ⟨pb, 0, none⟩ = some (.pointer (some ⟨r, 0, none⟩)) := cell_blk (H.blk j hj) rfl
  have hil := lt_of_get hi
  unfold rdBits
  by_cases hfit : s.at_ + 8 ≤ s.b.size
  · rw [if_pos hfit]
    go_enter Try.func76, Try.ntmps76
    go_wp2_with fail
    refine (st_take H i hi hw 8 (by omega) hfit).mono ?_
    clear H
    rintro e w1 ⟨rfl, H⟩
    have hsz : (s.b.extract s.at_ (s.at_ + 8)).size = 8 := by rw [ByteArray.size_extract]; omega
    have hbt : ∀ j, j < 8 → ((s.b.extract s.at_ (s.at_ + 8)).data.toList.getD j 0).toNat = bAt s.b (s.at_ + j) := fun j hj => by
      have h : j < (s.b.extract s.at_ (s.at_ + 8)).size := by omega
      have e := ByteArray.getElem_extract (i := j) (b := s.b) (start := s.at_) (stop := s.at_ + 8) h
      unfold bAt
      rw [List.getD_eq_getElem?_getD, List.getElem?_eq_getElem (show j < (s.b.extract s.at_ (s.at_ + 8)).data.toList.length from h), List.getD_eq_getElem?_getD, List.getElem?_eq_getElem (show s.at_ + j < s.b.data.toList.length by show s.at_ + j < s.b.size; omega)]
      exact congrArg UInt8.toNat e
    generalize s.b.extract s.at_ (s.at_ + 8) = t at hsz hbt ⊢
    have hcv := Lib.run_convert_string_bytes (P := Try.prog) w1 9 43 5 t Try.underlying9 Try.underlying43 Try.underlying5
    have hbt := hid hbt
    go_wp2_with fail
    have hcell : ∀ j, j < 8 → (Lib.bytesWorld w1 5 t).cell? ⟨w1.heap.size, j, none⟩ = some (.int .u8 (bAt s.b (s.at_ + j))) := fun j hj => by
      rw [Lib.bytesWorld_cell _ _ _ _ (by omega), hbt.out j hj]
    have HB := hid (H.same (Fr.of_below (Lib.bytesWorld_below w1 5 t) []))
    clear H hcv
    generalize Lib.bytesWorld w1 5 t = wB at hcell HB ⊢
    generalize grownCap w1 8 0 5 = cp
    generalize w1.heap.size = g at hcell ⊢
    go_loopw [2, 9] (fun nv iv wr => ∃ k, k ≤ 8 ∧ iv = .int .i64 (k : Nat) ∧ nv = .int .u64 (beN s.b s.at_ k) ∧ wr = wB) (fun _ iv _ => 8 - (intOf iv).toNat)
    case atStart => exact ⟨0, by omega, rfl, rfl, rfl⟩
    case round =>
      obtain ⟨k, hk, rfl, rfl, rfl⟩ := hrel
      by_cases hlt : k < 8
      · have hc := hcell k hlt
        have hc8 := bAt_lt s.b (s.at_ + k)
        have hN8 := beN_lt s.b s.at_ k
        have hn := hid (show beN s.b s.at_ (k + 1) = beN s.b s.at_ k * 256 + bAt s.b (s.at_ + k) from rfl)
        generalize hcb : bAt s.b (s.at_ + k) = c at hc hc8 hn
        have hcb := hid hcb
        generalize beN s.b s.at_ k = N at hN8 hn
        have hN9 : N * 256 + c < 18446744073709551616 := by
          have h1 : (256 : Nat) ^ k ≤ 256 ^ 7 := Nat.pow_le_pow_right (by omega) (by omega)
          have : (256 : Nat) ^ 7 = 72057594037927936 := rfl
          omega
        have hsl := hid (bits_slot N c hN9 hc8)
        clear hN8 hN9
        go_wp2_with fail
        refine ⟨⟨k + 1, by omega, rfl, ?_, trivial⟩, ?_⟩
        · rw [hn.out, ← hsl.out]
        · show 8 - ((k : Int) + 1).toNat < 8 - (k : Int).toNat
          omega
      · have hk8 : k = 8 := by omega
        subst hk8
        go_wp2_with fail
        go_ret
        exact ⟨rfl, HB.out⟩
  · rw [if_neg hfit]
    go_enter Try.func76, Try.ntmps76
    go_wp2_with fail
    refine (st_take_no H i hi hw 8 (by omega) (show s.b.size < s.at_ + 8 by omega)).mono ?_
    clear H
    rintro e w1 ⟨rfl, H⟩
    go_wp2_with fail
    exact ⟨rfl, rfl, s.at_, hw.le, by rw [things_set_self hi]; exact H⟩

theorem enter_bits1 (args : Array Value) (w : World) : (callFunc 76 args).run Try.prog w = .ok (.enter 76 args) w := run_enter Try.func76 (by kernel_rfl) rfl args w

theorem st_Bits (H : St W w R) (i : Nat) {r : Nat} {s : RS} (hi : R[i]? = some (RdT r s)) (hw : s.wf) :
    Calls Try.prog 57 #[.pointer (some ⟨r, 0, none⟩)] w fun e w' => e = .returned (.int .u64 (s.got 0 (rdBits s.b s.at_) : Nat)) ∧ St W w' (R.set i (RdT r (s.face (rdBits s.b s.at_)))) := by
  have hmf : ∀ (fn : Fn) (first cap : Array Value) (w : World), (Instr.makeFunc fn first cap).run Try.prog w = .ok (.func fn first cap) w := fun _ _ _ _ => rfl
  generalize hX : rdBits s.b s.at_ = X
  generalize hs : s.face X = s'
  generalize hg : s.got 0 X = g
  have hX := hid hX
  have hs := hid hs
  have hg := hid hg
  have hil := lt_of_get hi
  have H := hid H
  go_enter Try.func57, Try.ntmps57
  go_wp2_with fail
  have H2 := H.out.alloc (.cells #[Value.pointer (some ⟨r, 0, none⟩)] 52)
  refine (st_face_u (X := X) H2 i (by rw [List.getElem?_append_left hil]; exact hi) (enter_bits1 _) ?_).mono ?_
  · intro T w' H3
    rw [← hX.out]
    refine st_bits1 H3 i ?_ hw (j := R.length + 0) ?_
    · rw [List.append_assoc, List.getElem?_append_left hil]; exact hi
    · rw [List.append_assoc, get_behind]; rfl
  rintro e w1 ⟨rfl, H4⟩
  rw [hg.out, hs.out, List.set_append_left _ _ hil] at *
  have H4 := hid H4.drop
  go_wp2_with fail
  go_ret
  exact ⟨rfl, H4.out⟩

end
end Go.Proofs.Ytdobbmlaokolmaa
