/-
  Merged, in build order: Y0.
-/
import Derived.OwnWalk
import Derived.Test.YtmgnekjhlfghaaaGreatM11
/-
  gafferref02: form: the number whose form stands at a place.
-/
namespace Go.Proofs.YtmgnekjhlfghaaaGreat
open Go.RowKit
set_option linter.unusedVariables false
set_option linter.unusedSimpArgs false

/-- What the round's byte adds, by its rest. -/
theorem num_rem (k acc c : Nat) (hk : k ≤ 9) (ha : acc < 2 ^ (7 * k)) (hc : c < 256) (hz : k = 9 → c % 128 ≤ 1) :
    bits .or .u64 (acc : Int) (IntKind.u64.wrap ((c : Int) % 128 * 2 ^ (7 * k))) = ((acc + c % 128 * 2 ^ (7 * k) : Nat) : Int) ∧ acc + c % 128 * 2 ^ (7 * k) < 2 ^ (7 * (k + 1)) := by
  have h := num_slot k acc c hk ha hc hz
  rw [show bits .and .u8 (c : Int) 127 = (c : Int) % 128 from bits_mask .u8 8 (by decide) wraps_u8 7 (by decide) c (by omega) (by omega)] at h
  have e1 : (c : Int) % 128 = ((c % 128 : Nat) : Int) := by omega
  have hm : c % 128 < 128 := Nat.mod_lt _ (by omega)
  have e2 : IntKind.u64.wrap ((c % 128 : Nat) : Int) = ((c % 128 : Nat) : Int) := IntWalk.u64_in _ (by omega)
  rw [e1, e2] at h
  rw [e1]
  exact h

theorem bat_at (b : ByteArray) (p : Nat) (hp : p < b.size) : (b[p]'hp).toNat = bAt b p := by
  unfold bAt
  rw [List.getD_eq_getElem?_getD, List.getElem?_eq_getElem (by simp; exact hp)]
  rfl

/-- What form comes to. -/
def formV (x : Except Int (Nat × Nat)) : Value :=
  match x with
  | .ok (n, p) => .tuple #[.int .u64 n, .int .i64 p, .int .i64 0]
  | .error c => .tuple #[.int .u64 0, .int .i64 0, .int .i64 c]

set_option maxHeartbeats 1600000 in
set_option maxRecDepth 100000 in
theorem rform_walk (w : World) (b : ByteArray) (at_ : Nat) (h1 : at_ ≤ b.size) (h2 : b.size ≤ 140737488355328) :
    Calls Tryz.prog 142 #[.string b, .int .i64 at_] w fun e w' => e = .returned (formV (rdN b at_ 10 0 0)) ∧ w = w' := by
  generalize hX : rdN b at_ 10 0 0 = X
  have HX := hid hX
  clear hX
  go_enter Tryz.func142, Tryz.ntmps142
  go_wp2_with fail
  go_loop [7, 8] (fun nv iv => ∃ (k acc : Nat), k ≤ 10 ∧ iv = .int .i64 k ∧ at_ + k ≤ b.size ∧ (k < 10 → nv = .int .u64 acc ∧ acc < 2 ^ (7 * k)) ∧ rdN b at_ 10 0 0 = rdN b at_ (10 - k) k acc) (fun _ iv => 10 - (intOf iv).toNat)
  case atStart => exact ⟨0, 0, by omega, rfl, by omega, fun _ => ⟨rfl, by simp⟩, rfl⟩
  case round =>
    obtain ⟨k, acc, hk, rfl, hle, hn, hrd⟩ := hrel
    have HR := hid hrd
    clear hrd
    by_cases hlt : k < 10
    · obtain ⟨rfl, hacc⟩ := hn hlt
      clear hn
      have ht : ((at_ : Int) + k).toNat = at_ + k := by omega
      by_cases hin : at_ + k < b.size
      · have hc := bat_at b (at_ + k) hin
        have hc8 := bAt_lt b (at_ + k)
        generalize hcb : bAt b (at_ + k) = c at hc hc8
        have hcb := hid hcb
        have hsl := hid (num_rem k acc c (by omega) hacc hc8)
        have hacc := hid hacc
        have hcm : c % 128 < 128 := Nat.mod_lt _ (by omega)
        by_cases h127 : 127 < c
        · have hr2 : rdN b at_ 10 0 0 = rdN b at_ (10 - (k + 1)) (k + 1) (acc + c % 128 * 2 ^ (7 * k)) := by
            rw [HR.out, rdN_at hlt, if_pos hin, hcb.out, if_pos h127]
          have HR := hid hr2
          clear hr2
          go_wp2_with fail
          go_round
          case rel =>
            refine ⟨k + 1, acc + c % 128 * 2 ^ (7 * k), by omega, by go_num, by omega, fun hk9 => ?_, HR.out⟩
            have h := hsl.out (by omega)
            rw [h.1]
            exact ⟨rfl, h.2⟩
          case measure => simp [intOf]; omega
        · by_cases hbad : (0 < k ∧ c = 0) ∨ (k = 9 ∧ 1 < c)
          · have hx : X = .error 22 := by
              rw [← HX.out, HR.out, rdN_at hlt, if_pos hin, hcb.out, if_neg h127, if_pos hbad]
            clear HX HR hsl
            subst hx
            go_wp2_with fail
            all_goals first | (exfalso; omega) | (go_ret3; exact ⟨rfl, rfl⟩)
          · have hn : c % 128 = c := Nat.mod_eq_of_lt (by omega)
            have hsl2 := hsl.out (by omega)
            rw [hn] at hsl2
            have hx : X = .ok (acc + c * 2 ^ (7 * k), at_ + k + 1) := by
              rw [← HX.out, HR.out, rdN_at hlt, if_pos hin, hcb.out, if_neg h127, if_neg hbad]
            have hv := hid hsl2.1
            have ha := hacc.out
            clear HX HR hsl hsl2 hacc
            subst hx
            by_cases hc0 : c = 0
            · have hk0 : k = 0 := by omega
              subst hk0
              have hacc0 : acc = 0 := by simpa using ha
              subst hacc0
              subst hc0
              have h00 : bits .or .u64 (0 : Int) 0 = 0 := by decide
              simp only [Nat.add_zero] at hc hin
              clear hn hv
              go_wp2_with fail
              all_goals first | (exfalso; omega) | (go_ret3; exact ⟨rfl, rfl⟩)
            · have q0 : ((c : Int) == 0) = false := by rw [beq_eq_false_iff_ne]; omega
              have hcm2 : (c : Int) % 128 = c := by omega
              rw [hcm2] at hv
              by_cases hk9 : k = 9
              · subst hk9
                have hc1 : c = 1 := by omega
                subst hc1
                have hv := hv.out
                rw [show IntKind.u64.wrap (((1 : Nat) : Int) * 2 ^ (7 * 9)) = 9223372036854775808 from by decide] at hv
                clear hn hcm2
                go_wp2_with fail
                go_ret3
                exact ⟨rfl, rfl⟩
              · have q1 : ((k : Int) == 9) = false := by rw [beq_eq_false_iff_ne]; omega
                clear hn
                go_wp2_with fail
                rw [hv.out]
                go_ret3
                exact ⟨rfl, rfl⟩
      · have hx : X = .error 20 := by
          rw [← HX.out, HR.out, rdN_at hlt, if_neg hin]
        clear HX HR
        subst hx
        go_wp2_with fail
        go_ret3
        exact ⟨rfl, rfl⟩
    · have hk10 : k = 10 := by omega
      subst hk10
      have hx : X = .error 22 := by
        rw [← HX.out, HR.out]; rfl
      clear HX HR hn
      subst hx
      go_wp2_with fail
      go_ret3
      exact ⟨rfl, rfl⟩
end Go.Proofs.YtmgnekjhlfghaaaGreat
