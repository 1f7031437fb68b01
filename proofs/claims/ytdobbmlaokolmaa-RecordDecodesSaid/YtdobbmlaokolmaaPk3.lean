/-
  pack.Reader: number.
-/
import Derived.Test.YtdobbmlaokolmaaPk2
namespace Go.Proofs.Ytdobbmlaokolmaa
open Go.RowKit
set_option linter.unusedVariables false
set_option linter.unusedSimpArgs false

def bAt (b : ByteArray) (j : Nat) : Nat := (b.data.toList.getD j 0).toNat
theorem bAt_lt (b : ByteArray) (j : Nat) : bAt b j < 256 := UInt8.toNat_lt _

/-- A number, read: from the i-th of ten bytes on, with what the bytes ahead of it gave; the number and the place behind it, or what is wrong. -/
def rdN (b : ByteArray) (at_ : Nat) : Nat → Nat → Nat → Except Int (Nat × Nat)
  | 0, _, _ => .error 22
  | k + 1, i, n =>
    if at_ + i < b.size then
      if 127 < bAt b (at_ + i) then rdN b at_ k (i + 1) (n + bAt b (at_ + i) % 128 * 2 ^ (7 * i))
      else if (0 < i ∧ bAt b (at_ + i) = 0) ∨ (i = 9 ∧ 1 < bAt b (at_ + i)) then .error 22
      else .ok (n + bAt b (at_ + i) * 2 ^ (7 * i), at_ + i + 1)
    else .error 20

/-- Behind a number: what it is, at most so great. -/
def rdMost (b : ByteArray) (at_ : Nat) (most over : Int) : Except Int (Nat × Nat) :=
  match rdN b at_ 10 0 0 with
  | .error c => .error c
  | .ok (n, p) => if most < (n : Int) then .error over else .ok (n, p)

theorem or_at (i acc z : Nat) (hi : i ≤ 9) (ha : acc < 2 ^ (7 * i)) (hz : z * 2 ^ (7 * i) < 18446744073709551616) : bits .or .u64 (acc : Int) ((z * 2 ^ (7 * i) : Nat) : Int) = ((acc + z * 2 ^ (7 * i) : Nat) : Int) := by
  have h1 : (2 : Int) ^ (7 * i) = ((2 ^ (7 * i) : Nat) : Int) := by push_cast; rfl
  have h2 : 2 ^ (7 * i) ≤ 2 ^ 63 := Nat.pow_le_pow_right (by omega) (by omega)
  rw [bits_join_low .u64 64 (by decide) wraps_u64 (7 * i) _ _ (by omega) (by rw [h1]; exact_mod_cast ha) (by omega) (by omega) (by rw [h1]; exact_mod_cast Nat.mul_mod_left _ _) (by exact_mod_cast hz)]
  push_cast; rfl

theorem rdN_at {b : ByteArray} {at_ k n : Nat} (hk : k < 10) : rdN b at_ (10 - k) k n = if at_ + k < b.size then
      if 127 < bAt b (at_ + k) then rdN b at_ (10 - (k + 1)) (k + 1) (n + bAt b (at_ + k) % 128 * 2 ^ (7 * k))
      else if (0 < k ∧ bAt b (at_ + k) = 0) ∨ (k = 9 ∧ 1 < bAt b (at_ + k)) then .error 22
      else .ok (n + bAt b (at_ + k) * 2 ^ (7 * k), at_ + k + 1)
    else .error 20 := by
  obtain ⟨m, hm⟩ : ∃ m, 10 - k = m + 1 := ⟨9 - k, by omega⟩
  rw [hm, show 10 - (k + 1) = m by omega]
  rfl

theorem one_byte (b : ByteArray) (p : Nat) (hp : p + 1 ≤ b.size) : ∃ h : 0 < (b.extract p (p + 1)).size, ((b.extract p (p + 1))[0]'h).toNat = bAt b p := by
  have h : 0 < (b.extract p (p + 1)).size := by rw [ByteArray.size_extract]; omega
  refine ⟨h, ?_⟩
  unfold bAt
  have e : (b.extract p (p + 1))[0]'h = b[p]'(by omega) := by
    have := ByteArray.getElem_extract (i := 0) (b := b) (start := p) (stop := p + 1) h
    simpa using this
  rw [e, List.getD_eq_getElem?_getD, List.getElem?_eq_getElem (by simp; exact hp)]
  rfl

theorem u64_nat (z : Nat) (h : z < 18446744073709551616) : IntKind.u64.wrap (z : Int) = z := IntWalk.u64_in _ (by omega)
theorem no_or {c : Nat} (h : ((c : Int) == 0) = true ∨ 1 < (c : Int)) (h1 : ¬ c = 0) (h2 : ¬ 1 < c) : False := by
  rcases h with h | h
  · rw [beq_iff_eq] at h; omega
  · omega
/-- What the round's byte adds. -/
theorem num_slot (k acc c : Nat) (hk : k ≤ 9) (ha : acc < 2 ^ (7 * k)) (hc : c < 256) (hz : k = 9 → c % 128 ≤ 1) :
    bits .or .u64 (acc : Int) (IntKind.u64.wrap (IntKind.u64.wrap (bits .and .u8 (c : Int) 127) * 2 ^ (7 * k))) = ((acc + c % 128 * 2 ^ (7 * k) : Nat) : Int) ∧ acc + c % 128 * 2 ^ (7 * k) < 2 ^ (7 * (k + 1)) := by
  have hp : (2 : Int) ^ (7 * k) = ((2 ^ (7 * k) : Nat) : Int) := by push_cast; rfl
  have h128 : 2 ^ (7 * (k + 1)) = 128 * 2 ^ (7 * k) := by rw [Nat.mul_add, Nat.pow_add]; omega
  have hm : c % 128 < 128 := Nat.mod_lt _ (by omega)
  have hlt : c % 128 * 2 ^ (7 * k) < 18446744073709551616 := by
    rcases Nat.lt_or_ge k 9 with h | h
    · have h8 : 2 ^ (7 * k) ≤ 2 ^ 56 := Nat.pow_le_pow_right (by omega) (by omega)
      have := Nat.mul_le_mul (show c % 128 ≤ 127 by omega) h8
      omega
    · have e : k = 9 := by omega
      subst e
      have := hz rfl
      have := Nat.mul_le_mul this (Nat.le_refl (2 ^ (7 * 9)))
      omega
  refine ⟨?_, ?_⟩
  · rw [show bits .and .u8 (c : Int) 127 = (c : Int) % 128 from bits_mask .u8 8 (by decide) wraps_u8 7 (by decide) c (by omega) (by omega)]
    have e1 : (c : Int) % 128 = ((c % 128 : Nat) : Int) := by omega
    have e2 : IntKind.u64.wrap ((c % 128 : Nat) : Int) = ((c % 128 : Nat) : Int) := IntWalk.u64_in _ (by omega)
    rw [e1, e2, hp]
    have e3 : ((c % 128 : Nat) : Int) * ((2 ^ (7 * k) : Nat) : Int) = ((c % 128 * 2 ^ (7 * k) : Nat) : Int) := by push_cast; rfl
    rw [e3, u64_nat _ hlt]
    exact or_at k acc (c % 128) hk ha hlt
  · rw [h128]
    have := Nat.mul_le_mul (show c % 128 ≤ 127 by omega) (Nat.le_refl (2 ^ (7 * k)))
    omega

section
variable {W : Base} {w : World} {R : List Thing}

/-- What 'number' comes to. -/
def NumTo (W : Base) (R : List Thing) (i r : Nat) (s : RS) (x : Except Int (Nat × Nat)) (e : Ending) (w' : World) : Prop :=
  match x with
  | .ok (n, p) => e = .returned (.int .u64 n) ∧ St W w' (R.set i (RdT r { s with at_ := p }))
  | .error c => e = .panicked (gu c) ∧ ∃ p, p ≤ s.b.size ∧ St W w' (R.set i (RdT r { s with at_ := p }))

set_option maxHeartbeats 1600000 in
set_option maxRecDepth 100000 in
theorem st_number (H : St W w R) (i : Nat) {r : Nat} {s : RS} (hi : R[i]? = some (RdT r s)) (hw : s.wf) (most : Nat) (hm : most < 18446744073709551616) (over : Int) :
    Calls Try.prog 67 #[.pointer (some ⟨r, 0, none⟩), .int .u64 most, .int .i64 over] w (NumTo W R i r s (rdMost s.b s.at_ most over)) := by
  have hil := lt_of_get hi
  have h1 := hw.le
  have h2 := hw.mx
  generalize hX : rdMost s.b s.at_ most over = X
  have HX := hid hX
  have H0 := hid (show St W w (R.set i (RdT r { s with at_ := s.at_ + 0 })) from H.set_self hi)
  clear hX H hi
  go_enter Try.func67, Try.ntmps67
  go_wp2_with fail
  go_loopw [7, 10] (fun nv iv wr => ∃ (k acc : Nat), k ≤ 10 ∧ iv = .int .i64 k ∧ s.at_ + k ≤ s.b.size ∧ (k < 10 → nv = .int .u64 acc ∧ acc < 2 ^ (7 * k)) ∧ rdN s.b s.at_ 10 0 0 = rdN s.b s.at_ (10 - k) k acc ∧ St W wr (R.set i (RdT r { s with at_ := s.at_ + k }))) (fun _ iv _ => 10 - (intOf iv).toNat)
  case atStart => exact ⟨0, 0, by omega, rfl, by omega, fun _ => ⟨rfl, by simp⟩, rfl, H0.out⟩
  case round =>
    clear H0
    obtain ⟨k, acc, hk, rfl, hle, hn, hrd, H⟩ := hrel
    have HR := hid hrd
    clear hrd
    by_cases hlt : k < 10
    · obtain ⟨rfl, hacc⟩ := hn hlt
      clear hn
      by_cases hin : s.at_ + k < s.b.size
      · obtain ⟨hz, hc⟩ := one_byte s.b (s.at_ + k) hin
        go_wp2_with fail
        refine (st_take H i (List.getElem?_set_self hil) ⟨hle, h2⟩ 1 (by omega) (show s.at_ + k + 1 ≤ s.b.size by omega)).mono ?_
        clear H
        rintro e w1 ⟨rfl, H⟩
        rw [List.set_set] at H
        dsimp only at H ⊢
        generalize hb : s.b.extract (s.at_ + k) (s.at_ + k + 1) = t at hz hc ⊢
        have hc8 := bAt_lt s.b (s.at_ + k)
        generalize hcb : bAt s.b (s.at_ + k) = c at hc hc8
        have hb := hid hb
        have hcb := hid hcb
        have H := hid H
        have hsl := hid (num_slot k acc c (by omega) hacc hc8)
        have hacc := hid hacc
        by_cases h127 : 127 < c
        · have hr2 : rdN s.b s.at_ 10 0 0 = rdN s.b s.at_ (10 - (k + 1)) (k + 1) (acc + c % 128 * 2 ^ (7 * k)) := by
            rw [HR.out, rdN_at hlt, if_pos hin, hcb.out, if_pos h127]
          have HR := hid hr2
          clear hr2
          go_wp2_with fail
          refine ⟨⟨k + 1, acc + c % 128 * 2 ^ (7 * k), by omega, rfl, by omega, fun hk9 => ?_, HR.out, H.out⟩, ?_⟩
          · have h := hsl.out (by omega)
            rw [h.1]
            exact ⟨rfl, h.2⟩
          · show 10 - ((k : Int) + 1).toNat < 10 - (k : Int).toNat
            omega
        · by_cases hbad : (0 < k ∧ c = 0) ∨ (k = 9 ∧ 1 < c)
          · have hx : X = .error 22 := by
              rw [← HX.out, rdMost, HR.out, rdN_at hlt, if_pos hin, hcb.out, if_neg h127, if_pos hbad]
            clear HX HR hsl
            subst hx
            go_wp2_with fail
            all_goals first | (exfalso; omega) | exact ⟨rfl, rfl, _, by omega, H.out⟩
          · have hn : c % 128 = c := Nat.mod_eq_of_lt (by omega)
            have hsl2 := hsl.out (by omega)
            rw [hn] at hsl2
            generalize hN : acc + c * 2 ^ (7 * k) = N at hsl2
            have hv := hsl2.1
            have hN64 : N < 18446744073709551616 := by
              have h1 := hsl2.2
              rcases Nat.lt_or_ge k 9 with h | h
              · have h8 : 2 ^ (7 * (k + 1)) ≤ 2 ^ 63 := Nat.pow_le_pow_right (by omega) (by omega)
                omega
              · have e : k = 9 := by omega
                subst e
                have := hacc.out
                have : c ≤ 1 := by omega
                have := Nat.mul_le_mul this (Nat.le_refl (2 ^ (7 * 9)))
                omega
            have hx : X = if (most : Int) < (N : Int) then .error over else .ok (N, s.at_ + k + 1) := by
              rw [← HX.out, rdMost, HR.out, rdN_at hlt, if_pos hin, hcb.out, if_neg h127, if_neg hbad]
              simp only [hN]
            have hN := hid hN
            clear HX HR hsl hsl2 hn
            by_cases hmo : (most : Int) < N
            · rw [if_pos hmo] at hx
              subst hx
              go_wp2_with fail
              all_goals first | exact ⟨rfl, rfl, _, by omega, H.out⟩ | (exfalso; omega) | exact (no_or (by assumption) (by omega) (by omega)).elim
            · rw [if_neg hmo] at hx
              subst hx
              go_wp2_with fail
              all_goals first | (exfalso; omega) | exact (no_or (by assumption) (by omega) (by omega)).elim | (go_ret; exact ⟨rfl, H.out⟩)
      · have hx : X = .error 20 := by
          rw [← HX.out, rdMost, HR.out, rdN_at hlt, if_neg hin]
        clear HX HR
        subst hx
        go_wp2_with fail
        refine (st_take_no H i (List.getElem?_set_self hil) ⟨hle, h2⟩ 1 (by omega) (show s.b.size < s.at_ + k + 1 by omega)).mono ?_
        clear H
        rintro e w1 ⟨rfl, H⟩
        go_wp2_with fail
        exact ⟨rfl, rfl, _, by omega, H⟩
    · have hk10 : k = 10 := by omega
      subst hk10
      have hx : X = .error 22 := by
        rw [← HX.out, rdMost, HR.out]; rfl
      clear HX HR hn
      subst hx
      have H := hid H
      go_wp2_with fail
      exact ⟨rfl, rfl, _, by omega, H.out⟩
end

end Go.Proofs.Ytdobbmlaokolmaa
