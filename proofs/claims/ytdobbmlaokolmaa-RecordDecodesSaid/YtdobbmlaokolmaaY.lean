/-
  Merged: Y0 Y1 Y2 Y3 Y4.
-/
import Derived.Test.YtdobbmlaokolmaaPk3
import Derived.OwnWalk
import Derived.Test.YtdobbmlaokolmaaR6
import Derived.Test.YtdobbmlaokolmaaPk7
import Derived.Test.YtdobbmlaokolmaaPk9
import Derived.Test.YtdobbmlaokolmaaRT
import Derived.Test.YtdobbmlaokolmaaX0
import Derived.Test.YtdobbmlaokolmaaX4
/-
  gafferref02: form: the number whose form stands at a place.
-/
namespace Go.Proofs.Ytdobbmlaokolmaa
open Go.RowKit
set_option linter.unusedVariables false
set_option linter.unusedSimpArgs false

/-- What the round's byte adds, by its rest. -/
theorem num_rem (k acc c : Nat) (hk : k ≤ 9) (ha : acc < 2 ^ (7 * k)) (hc : c < 256) (hz : k = 9 → c % 128 ≤ 1) :
    bits .or .u64 (acc : Int) (IntKind.u64.wrap ((c : Int) % 128 * 2 ^ (7 * k))) = ((acc + c % 128 * 2 ^ (7 * k) : Nat) : Int) ∧ acc + c % 128 * 2 ^ (7 * k) < 2 ^ (7 * (k + 1)) := by
  have h := num_slot k acc c hk ha hc hz
  rw [show bits .and .u8 (c : Int) 127 = (c : Int) % 128 from bits_mask .u8 8 (by decide) wraps_u8 7 (by decide) c (by omega) (by omega)] at h
  have e1 : (c : Int) % 128 = ((c % 128 : Nat) : Int) := by omega
  have hm : c % 128 < 128 := Nat.mod_lt _ (by omega)
  have e2 : IntKind.u64.wrap ((c % 128 : Nat) : Int) = ((c % 128 : Nat) : Int) := IntWalk.u64_in _ (by omega)
  rw [e1, e2] at h
  rw [e1]
  exact h

theorem bat_at (b : ByteArray) (p : Nat) (hp : p < b.size) : (b[p]'hp).toNat = bAt b p := by
  unfold bAt
  rw [List.getD_eq_getElem?_getD, List.getElem?_eq_getElem (by simp; exact hp)]
  rfl

/-- What form comes to. -/
def formV (x : Except Int (Nat × Nat)) : Value :=
  match x with
  | .ok (n, p) => .tuple #[.int .u64 n, .int .i64 p, .int .i64 0]
  | .error c => .tuple #[.int .u64 0, .int .i64 0, .int .i64 c]

set_option maxHeartbeats 1600000 in
set_option maxRecDepth 100000 in
theorem rform_walk (w : World) (b : ByteArray) (at_ : Nat) (h1 : at_ ≤ b.size) (h2 : b.size ≤ 140737488355328) :
    Calls Try.prog 77 #[.string b, .int .i64 at_] w fun e w' => e = .returned (formV (rdN b at_ 10 0 0)) ∧ w = w' := by
  generalize hX : rdN b at_ 10 0 0 = X
  have HX := hid hX
  clear hX
  go_enter Try.func77, Try.ntmps77
  go_wp2_with fail
  go_loop [7, 8] (fun nv iv => ∃ (k acc : Nat), k ≤ 10 ∧ iv = .int .i64 k ∧ at_ + k ≤ b.size ∧ (k < 10 → nv = .int .u64 acc ∧ acc < 2 ^ (7 * k)) ∧ rdN b at_ 10 0 0 = rdN b at_ (10 - k) k acc) (fun _ iv => 10 - (intOf iv).toNat)
  case atStart => exact ⟨0, 0, by omega, rfl, by omega, fun _ => ⟨rfl, by simp⟩, rfl⟩
  case round =>
    obtain ⟨k, acc, hk, rfl, hle, hn, hrd⟩ := hrel
    have HR := hid hrd
    clear hrd
    by_cases hlt : k < 10
    · obtain ⟨rfl, hacc⟩ := hn hlt
      clear hn
      have ht : ((at_ : Int) + k).toNat = at_ + k := by omega
      by_cases hin : at_ + k < b.size
      · have hc := bat_at b (at_ + k) hin
        have hc8 := bAt_lt b (at_ + k)
        generalize hcb : bAt b (at_ + k) = c at hc hc8
        have hcb := hid hcb
        have hsl := hid (num_rem k acc c (by omega) hacc hc8)
        have hacc := hid hacc
        have hcm : c % 128 < 128 := Nat.mod_lt _ (by omega)
        by_cases h127 : 127 < c
        · have hr2 : rdN b at_ 10 0 0 = rdN b at_ (10 - (k + 1)) (k + 1) (acc + c % 128 * 2 ^ (7 * k)) := by
            rw [HR.out, rdN_at hlt, if_pos hin, hcb.out, if_pos h127]
          have HR := hid hr2
          clear hr2
          go_wp2_with fail
          go_round
          case rel =>
            refine ⟨k + 1, acc + c % 128 * 2 ^ (7 * k), by omega, by go_num, by omega, fun hk9 => ?_, HR.out⟩
            have h := hsl.out (by omega)
            rw [h.1]
            exact ⟨rfl, h.2⟩
          case measure => simp [intOf]; omega
        · by_cases hbad : (0 < k ∧ c = 0) ∨ (k = 9 ∧ 1 < c)
          · have hx : X = .error 22 := by
              rw [← HX.out, HR.out, rdN_at hlt, if_pos hin, hcb.out, if_neg h127, if_pos hbad]
            clear HX HR hsl
            subst hx
            go_wp2_with fail
            all_goals first | (exfalso; omega) | (go_ret3; exact ⟨rfl, rfl⟩)
          · have hn : c % 128 = c := Nat.mod_eq_of_lt (by omega)
            have hsl2 := hsl.out (by omega)
            rw [hn] at hsl2
            have hx : X = .ok (acc + c * 2 ^ (7 * k), at_ + k + 1) := by
              rw [← HX.out, HR.out, rdN_at hlt, if_pos hin, hcb.out, if_neg h127, if_neg hbad]
            have hv := hid hsl2.1
            have ha := hacc.out
            clear HX HR hsl hsl2 hacc
            subst hx
            by_cases hc0 : c = 0
            · have hk0 : k = 0 := by omega
              subst hk0
              have hacc0 : acc = 0 := by simpa using ha
              subst hacc0
              subst hc0
              have h00 : bits .or .u64 (0 : Int) 0 = 0 := by decide
              simp only [Nat.add_zero] at hc hin
              clear hn hv
              go_wp2_with fail
              all_goals first | (exfalso; omega) | (go_ret3; exact ⟨rfl, rfl⟩)
            · have q0 : ((c : Int) == 0) = false := by rw [beq_eq_false_iff_ne]; omega
              have hcm2 : (c : Int) % 128 = c := by omega
              rw [hcm2] at hv
              by_cases hk9 : k = 9
              · subst hk9
                have hc1 : c = 1 := by omega
                subst hc1
                have hv := hv.out
                rw [show IntKind.u64.wrap (((1 : Nat) : Int) * 2 ^ (7 * 9)) = 9223372036854775808 from by decide] at hv
                clear hn hcm2
                go_wp2_with fail
                go_ret3
                exact ⟨rfl, rfl⟩
              · have q1 : ((k : Int) == 9) = false := by rw [beq_eq_false_iff_ne]; omega
                clear hn
                go_wp2_with fail
                rw [hv.out]
                go_ret3
                exact ⟨rfl, rfl⟩
      · have hx : X = .error 20 := by
          rw [← HX.out, HR.out, rdN_at hlt, if_neg hin]
        clear HX HR
        subst hx
        go_wp2_with fail
        go_ret3
        exact ⟨rfl, rfl⟩
    · have hk10 : k = 10 := by omega
      subst hk10
      have hx : X = .error 22 := by
        rw [← HX.out, HR.out]; rfl
      clear HX HR hn
      subst hx
      go_wp2_with fail
      go_ret3
      exact ⟨rfl, rfl⟩
end Go.Proofs.Ytdobbmlaokolmaa

/-
  gafferref02: the reader: wrong, number, Num, List.
-/
namespace Go.Proofs.Ytdobbmlaokolmaa
open Go.RowKit
set_option linter.unusedVariables false
set_option linter.unusedSimpArgs false

def RrT (r : Nat) (s : RS) (z : Int) : Thing := BlkT r (.cells #[.string s.b, .int .i64 s.at_, .int .i64 s.e, .int .i64 z] 61)
/-- What is wrong behind a read. -/
def RS.hurt {α : Type} (s : RS) (x : Except Int (α × Nat)) : RS := if s.e = 0 then match x with | .ok _ => s | .error c => { s with e := c } else s
def RS.next {α : Type} (s : RS) (x : Except Int (α × Nat)) : Nat := if s.e = 0 then match x with | .ok (_, p) => p | .error _ => s.at_ else s.at_
theorem RS.hurt_next {α : Type} (s : RS) (x : Except Int (α × Nat)) : { s.hurt x with at_ := s.next x } = s.face x := by
  unfold RS.hurt RS.next RS.face
  by_cases h : s.e = 0
  · simp only [if_pos h]
    rcases x with c | ⟨n, p⟩ <;> rfl
  · simp only [if_neg h]
theorem RS.hurt_at {α : Type} (s : RS) (x : Except Int (α × Nat)) : (s.hurt x).at_ = s.at_ ∧ (s.hurt x).b = s.b := by
  unfold RS.hurt
  split
  · split <;> exact ⟨rfl, rfl⟩
  · exact ⟨rfl, rfl⟩

section
variable {W : Base} {w : World} {R : List Thing}

theorem St.rr (H : St W w R) (i : Nat) {r : Nat} {s : RS} {z : Int} (hi : R[i]? = some (RrT r s z)) : w.cell? ⟨r, 0, none⟩ = some (.string s.b) ∧ w.cell? ⟨r, 1, none⟩ = some (.int .i64 s.at_) ∧ w.cell? ⟨r, 2, none⟩ = some (.int .i64 s.e) ∧ (∀ j, w.frozen? ⟨r, j, none⟩ = false) ∧ r < w.heap.size := by
  have hb := H.blk i hi
  exact ⟨cell_blk hb rfl, cell_blk hb rfl, cell_blk hb rfl, fun j => free_blk hb, lt_of_block hb⟩
theorem St.setRr (H : St W w R) (i : Nat) {r : Nat} {s : RS} {z : Int} (hi : R[i]? = some (RrT r s z)) (n : Nat) : St W (w.setCell ⟨r, 1, none⟩ (.int .i64 n)) (R.set i (RrT r { s with at_ := n } z)) := H.setBlk i hi 1 (.int .i64 n)

set_option maxHeartbeats 400000 in
theorem st_rwrong (H : St W w R) (i : Nat) {r : Nat} {b : ByteArray} {p : Nat} {z : Int} (hi : R[i]? = some (RrT r ⟨b, p, 0⟩ z)) (c : Int) :
    Calls Try.prog 78 #[.pointer (some ⟨r, 0, none⟩), .int .i64 c] w fun e w' => e = .returned (.tuple #[]) ∧ St W w' (R.set i (RrT r ⟨b, p, c⟩ p)) := by
  obtain ⟨c0, c1, c2, f, hl⟩ := H.rr i hi
  have f2 := f 2
  have f3 := f 3
  have c3 : w.cell? ⟨r, 3, none⟩ = some (.int .i64 z) := cell_blk (H.blk i hi) rfl
  have H2 := H.setBlk i hi 2 (.int .i64 c)
  have H3 := hid (H2.setBlk i (List.getElem?_set_self (lt_of_get hi)) 3 (.int .i64 p))
  rw [List.set_set] at H3
  clear H H2 hi f
  go_enter Try.func78, Try.ntmps78
  go_wp2_with fail
  go_end0
  exact ⟨rfl, H3.out⟩

/-- What number tells. -/
def numV (s : RS) (x : Except Int (Nat × Nat)) : Value := .tuple #[.int .u64 (s.got 0 x : Nat), .int .i64 (s.next x)]

set_option maxHeartbeats 1600000 in
theorem st_rnumber (H : St W w R) (i : Nat) {r : Nat} {s : RS} {z : Int} (hi : R[i]? = some (RrT r s z)) (hw : s.wf) (most : Nat) (hm : most < 18446744073709551616) (over : Int) :
    Calls Try.prog 58 #[.pointer (some ⟨r, 0, none⟩), .int .u64 most, .int .i64 over] w fun e w' => e = .returned (numV s (rdMost s.b s.at_ most over)) ∧ ∃ z', St W w' (R.set i (RrT r (s.hurt (rdMost s.b s.at_ most over)) z')) := by
  obtain ⟨c0, c1, c2, _, hl⟩ := H.rr i hi
  have hil := lt_of_get hi
  have h1 := hw.le
  have h2 := hw.mx
  obtain ⟨b, p, e0⟩ := s
  simp only at c0 c1 c2 h1 h2
  unfold numV
  by_cases he : e0 = 0
  · subst he
    simp only [RS.got, RS.next, RS.hurt, if_pos]
    have hf := fun wx => rform_walk wx b p h1 h2
    rcases hX : rdN b p 10 0 0 with c | ⟨n, q⟩
    · have hx : rdMost b p most over = .error c := by unfold rdMost; rw [hX]
      simp only [hx]
      rw [hX] at hf
      simp only [formV] at hf
      have hc := rdN_err _ _ _ hX
      have hc1 : (c == 0) = false := by rw [beq_eq_false_iff_ne]; omega
      have hwr := hid (fun nn => st_rwrong (H.drewN nn) i hi c)
      have hHf := hid hf
      clear H hi hf hx hX hc
      go_enter Try.func58, Try.ntmps58
      go_wp2_with fail
      go_quiet ((go_at_call 77; exact quiet_mine (hHf.out _)))
      go_wp2_with fail
      refine (hwr.out _).mono ?_
      rintro e w1 ⟨rfl, H⟩
      obtain ⟨_, d1, _⟩ := H.rr i (List.getElem?_set_self hil)
      have HH := hid H
      clear H
      go_wp2_with fail
      go_quiet (fail)
      go_wp2_with fail
      go_ret2
      exact ⟨rfl, _, HH.out.drewN _⟩
    · rw [hX] at hf
      simp only [formV] at hf
      by_cases hmo : (most : Int) < n
      · have hx : rdMost b p most over = .error over := by unfold rdMost; rw [hX]; simp only [if_pos hmo]
        simp only [hx]
        have hwr := hid (fun nn => st_rwrong (H.drewN nn) i hi over)
        have hHf := hid hf
        clear H hi hf hx hX
        go_enter Try.func58, Try.ntmps58
        go_wp2_with fail
        go_quiet ((go_at_call 77; exact quiet_mine (hHf.out _)))
        go_wp2_with fail
        refine (hwr.out _).mono ?_
        rintro e w1 ⟨rfl, H⟩
        obtain ⟨_, d1, _⟩ := H.rr i (List.getElem?_set_self hil)
        have HH := hid H
        clear H
        go_wp2_with fail
        go_quiet (fail)
        go_wp2_with fail
        go_ret2
        exact ⟨rfl, _, HH.out.drewN _⟩
      · have hx : rdMost b p most over = .ok (n, q) := by unfold rdMost; rw [hX]; simp only [if_neg hmo]
        simp only [hx]
        have hHf := hid hf
        have HH := hid H
        have Hi := hid hi
        clear H hi hf hx hX
        go_enter Try.func58, Try.ntmps58
        go_wp2_with fail
        go_quiet ((go_at_call 77; exact quiet_mine (hHf.out _)))
        go_wp2_with fail
        go_ret2
        exact ⟨rfl, z, (HH.out.drewN _).set_self Hi.out⟩
  · simp only [RS.got, RS.next, RS.hurt, if_neg he]
    have he1 : (e0 == 0) = false := by rw [beq_eq_false_iff_ne]; exact he
    have HH := hid H
    have Hi := hid hi
    clear H hi he
    go_enter Try.func58, Try.ntmps58
    go_wp2_with fail
    go_quiet (fail)
    go_wp2_with fail
    go_ret2
    exact ⟨rfl, z, (HH.out.drewN _).set_self Hi.out⟩

set_option maxHeartbeats 1600000 in
theorem st_rNum (H : St W w R) (i : Nat) {r : Nat} {s : RS} {z : Int} (hi : R[i]? = some (RrT r s z)) (hw : s.wf) (most : Nat) (hm : most < 18446744073709551616) :
    Calls Try.prog 39 #[.pointer (some ⟨r, 0, none⟩), .int .u64 most] w fun e w' => e = .returned (.int .u64 (s.got 0 (rdMost s.b s.at_ most 21) : Nat)) ∧ ∃ z', St W w' (R.set i (RrT r (s.face (rdMost s.b s.at_ most 21)) z')) := by
  have hc := hid (st_rnumber H i hi hw most hm 21)
  have hil := lt_of_get hi
  generalize rdMost s.b s.at_ most 21 = X at hc ⊢
  clear H hi
  go_enter Try.func39, Try.ntmps39
  go_wp2_with fail
  refine hc.out.mono ?_
  rintro e w1 ⟨rfl, z', H⟩
  obtain ⟨_, c1, _, f, _⟩ := H.rr i (List.getElem?_set_self hil)
  have f1 := f 1
  have H2 := H.setRr i (List.getElem?_set_self hil) (s.next X)
  rw [List.set_set, s.hurt_next X] at H2
  have H2 := hid H2
  clear H f
  simp only [numV]
  go_wp2_with fail
  go_ret
  exact ⟨rfl, z', H2.out⟩

set_option maxHeartbeats 1600000 in
theorem st_rList (H : St W w R) (i : Nat) {r : Nat} {s : RS} {z : Int} (hi : R[i]? = some (RrT r s z)) (hw : s.wf) (m : Nat) (hm : m ≤ 9223372036854775807) :
    Calls Try.prog 60 #[.pointer (some ⟨r, 0, none⟩), .int .i64 m] w fun e w' => e = .returned (.int .i64 (s.got 0 (rdMost s.b s.at_ m 23) : Nat)) ∧ ∃ z', St W w' (R.set i (RrT r (s.face (rdMost s.b s.at_ m 23)) z')) := by
  have hc := hid (st_rnumber H i hi hw m (by omega) 23)
  have hil := lt_of_get hi
  have hg : (s.got 0 (rdMost s.b s.at_ m 23) : Nat) ≤ m := by
    unfold RS.got
    split
    · split
      · next n p h => have := rdMost_le h; omega
      · omega
    · omega
  generalize rdMost s.b s.at_ m 23 = X at hc hg ⊢
  clear H hi
  go_enter Try.func60, Try.ntmps60
  go_wp2_with fail
  refine hc.out.mono ?_
  rintro e w1 ⟨rfl, z', H⟩
  obtain ⟨_, c1, _, f, _⟩ := H.rr i (List.getElem?_set_self hil)
  have f1 := f 1
  have H2 := H.setRr i (List.getElem?_set_self hil) (s.next X)
  rw [List.set_set, s.hurt_next X] at H2
  have H2 := hid H2
  clear H f
  simp only [numV]
  go_wp2_with fail
  go_ret
  exact ⟨rfl, z', H2.out⟩
end
end Go.Proofs.Ytdobbmlaokolmaa

/-
  gafferref02: the reader: Text, Bits.
-/
namespace Go.Proofs.Ytdobbmlaokolmaa
open Go.RowKit
set_option linter.unusedVariables false
set_option linter.unusedSimpArgs false

section
variable {W : Base} {w : World} {R : List Thing}

set_option maxHeartbeats 1600000 in
theorem st_rText (H : St W w R) (i : Nat) {r : Nat} {s : RS} {z : Int} (hi : R[i]? = some (RrT r s z)) (hw : s.wf) (m : Nat) (hm : m ≤ 9223372036854775807) :
    Calls Try.prog 59 #[.pointer (some ⟨r, 0, none⟩), .int .i64 m] w fun e w' => e = .returned (.string (s.got ⟨#[]⟩ (rdText s.b s.at_ m))) ∧ ∃ z', St W w' (R.set i (RrT r (s.face (rdText s.b s.at_ m)) z')) := by
  have hc := hid (st_rnumber H i hi hw m (by omega) 23)
  have hil := lt_of_get hi
  have h1 := hw.le
  have h2 := hw.mx
  obtain ⟨b, p, e0⟩ := s
  have hmx : max 0 (m : Int) = m := by omega
  unfold rdText
  simp only [hmx] at hc h1 h2 ⊢
  by_cases he : e0 = 0
  · subst he
    rcases hX : rdMost b p m 23 with c | ⟨n, q⟩
    · simp only [hX, numV, RS.got, RS.next, RS.hurt, RS.face, if_pos] at hc ⊢
      have hce := rdMost_err hX
      have hc1 : (c == 0) = false := by rw [beq_eq_false_iff_ne]; omega
      clear H hi hX hce
      go_enter Try.func59, Try.ntmps59
      go_wp2_with fail
      refine hc.out.mono ?_
      rintro e w1 ⟨rfl, z', H⟩
      obtain ⟨c0, c1, c2, f, _⟩ := H.rr i (List.getElem?_set_self hil)
      simp only at c0 c1 c2
      have HH := hid H
      clear H f
      go_wp2_with fail
      go_ret
      exact ⟨rfl, _, HH.out⟩
    · have hn := rdMost_le hX
      have hq := rdMost_p hX
      simp only [hX, numV, RS.got, RS.next, RS.hurt, RS.face, if_pos] at hc ⊢
      by_cases hfit : q + n ≤ b.size
      · simp only [if_pos hfit]
        clear H hi hX
        go_enter Try.func59, Try.ntmps59
        go_wp2_with fail
        refine hc.out.mono ?_
        rintro e w1 ⟨rfl, z', H⟩
        obtain ⟨c0, c1, c2, f, _⟩ := H.rr i (List.getElem?_set_self hil)
        simp only at c0 c1 c2
        have f1 := f 1
        have H2 := H.setRr i (List.getElem?_set_self hil) (q + n)
        rw [List.set_set] at H2
        obtain ⟨d0, d1, d2, _, _⟩ := H2.rr i (List.getElem?_set_self hil)
        have e1 : ((q + n : Nat) : Int) = (q : Int) + n := by omega
        simp only [e1] at H2 d0 d1 d2
        have HH := hid H2
        clear H f H2
        go_wp2_with fail
        go_quiet (fail)
        go_wp2_with fail
        go_ret
        exact ⟨rfl, _, HH.out.drewN _⟩
      · simp only [if_neg hfit]
        clear H hi hX
        go_enter Try.func59, Try.ntmps59
        go_wp2_with fail
        refine hc.out.mono ?_
        rintro e w1 ⟨rfl, z', H⟩
        obtain ⟨c0, c1, c2, f, _⟩ := H.rr i (List.getElem?_set_self hil)
        simp only at c0 c1 c2
        have hwr := hid (st_rwrong H i (List.getElem?_set_self hil) 20)
        clear H f
        go_wp2_with fail
        refine hwr.out.mono ?_
        rintro e w2 ⟨rfl, H⟩
        rw [List.set_set] at H
        obtain ⟨c0, c1, c2, f, _⟩ := H.rr i (List.getElem?_set_self hil)
        simp only at c0 c1 c2
        have HH := hid H
        clear H f
        go_wp2_with fail
        go_ret
        exact ⟨rfl, _, HH.out⟩
  · simp only [numV, RS.got, RS.next, RS.hurt, RS.face, if_neg he] at hc ⊢
    have he1 : (e0 == 0) = false := by rw [beq_eq_false_iff_ne]; exact he
    clear H hi he
    go_enter Try.func59, Try.ntmps59
    go_wp2_with fail
    refine hc.out.mono ?_
    rintro e w1 ⟨rfl, z', H⟩
    obtain ⟨c0, c1, c2, f, _⟩ := H.rr i (List.getElem?_set_self hil)
    simp only at c0 c1 c2
    have HH := hid H
    clear H f
    go_wp2_with fail
    go_ret
    exact ⟨rfl, _, HH.out⟩

set_option maxHeartbeats 1600000 in
set_option maxRecDepth 100000 in
theorem st_rBits (H : St W w R) (i : Nat) {r : Nat} {s : RS} {z : Int} (hi : R[i]? = some (RrT r s z)) (hw : s.wf) :
    Calls Try.prog 61 #[.pointer (some ⟨r, 0, none⟩)] w fun e w' => e = .returned (.int .u64 (s.got 0 (rdBits s.b s.at_) : Nat)) ∧ ∃ z', St W w' (R.set i (RrT r (s.face (rdBits s.b s.at_)) z')) := by
  have hil := lt_of_get hi
  have h1 := hw.le
  have h2 := hw.mx
  obtain ⟨b, p, e0⟩ := s
  simp only at h1 h2
  unfold rdBits
  obtain ⟨c0, c1, c2, f, hl⟩ := H.rr i hi
  simp only at c0 c1 c2
  have hsub : IntKind.i64.wrap ((b.size : Int) - p) = (b.size : Int) - p := IntWalk.i64_in _ (by omega)
  by_cases he : e0 = 0
  · subst he
    simp only [RS.got, RS.face, if_pos]
    by_cases hfit : p + 8 ≤ b.size
    · simp only [if_pos hfit]
      have f1 := f 1
      have HH := hid H
      have hi := hid hi
      have hno : ¬ (b.size : Int) - p < 8 := by omega
      clear H f
      go_enter Try.func61, Try.ntmps61
      go_wp2_with fail
      go_quiet (fail)
      clear hsub hno
      go_wp2_with fail
      obtain ⟨w0, hw0⟩ : ∃ w0, w.drewN nq = w0 := ⟨_, rfl⟩
      have HH := hid (show St W w0 R by rw [← hw0]; exact HH.out.drewN _)
      rw [hw0]
      clear hw0 c0 c1 c2 hl f1
      go_loopw [3, 4] (fun nv iv wr => ∃ k, k ≤ 8 ∧ iv = .int .i64 (k : Nat) ∧ nv = .int .u64 (beN b p k) ∧ St W wr R) (fun _ iv _ => 8 - (intOf iv).toNat)
      case atStart => exact ⟨0, by omega, rfl, rfl, HH.out⟩
      case round =>
        obtain ⟨k, hk, rfl, rfl, H⟩ := hrel
        obtain ⟨c0, c1, c2, f, hl⟩ := H.rr i hi.out
        simp only at c0 c1 c2
        have f1 := f 1
        by_cases hlt : k < 8
        · have hb := bat_at b (p + k) (by omega)
          have hc8 := bAt_lt b (p + k)
          have hN8 := beN_lt b p k
          have hn := hid (show beN b p (k + 1) = beN b p k * 256 + bAt b (p + k) from rfl)
          generalize hcb : bAt b (p + k) = c at hb hc8 hn
          have hcb := hid hcb
          generalize beN b p k = N at hN8 hn
          have hN9 : N * 256 + c < 18446744073709551616 := by
            have h1 : (256 : Nat) ^ k ≤ 256 ^ 7 := Nat.pow_le_pow_right (by omega) (by omega)
            have : (256 : Nat) ^ 7 = 72057594037927936 := rfl
            omega
          have hsl := hid (bits_slot N c hN9 hc8)
          have hN7 : N * 256 < 18446744073709551616 := by omega
          have h5 : (p : Int) + k < b.size := by omega
          have h6 : 0 ≤ (p : Int) + k := by omega
          have h8 : ((p : Int) + k).toNat = p + k := by omega
          have h7 : IntKind.i64.wrap ((p : Int) + k) = (p : Int) + k := IntWalk.i64_in _ (by omega)
          have hn := hid hn
          have H := hid H
          clear hN8 hN9
          go_wp2_with fail
          go_quiet (fail)
          clear h7 h8
          go_wp2_with fail
          have e2 := hsl.out
          rw [show (N : Int) * 256 = ((N * 256 : Nat) : Int) by push_cast; rfl, u64_nat _ hN7] at e2
          refine ⟨⟨k + 1, by omega, by go_num, ?_, H.out.drewN _⟩, by simp [intOf]; omega⟩
          rw [hn.out, ← e2, show (N : Int) * 256 = ((N * 256 : Nat) : Int) by push_cast; rfl]
        · have hk8 : k = 8 := by omega
          subst hk8
          have H2 := H.setRr i hi.out (p + 8)
          have e1 : ((p + 8 : Nat) : Int) = (p : Int) + 8 := by omega
          simp only [e1] at H2
          have H2 := hid H2
          clear H f
          go_wp2_with fail
          go_ret
          exact ⟨rfl, _, H2.out⟩
    · simp only [if_neg hfit]
      have hno : (b.size : Int) - p < 8 := by omega
      have hwr := hid (fun nn => st_rwrong (H.drewN nn) i hi 20)
      clear H f
      go_enter Try.func61, Try.ntmps61
      go_wp2_with fail
      go_quiet (fail)
      clear hsub hno
      go_wp2_with fail
      refine (hwr.out _).mono ?_
      rintro e w2 ⟨rfl, H⟩
      obtain ⟨d0, d1, d2, f, _⟩ := H.rr i (List.getElem?_set_self hil)
      simp only at d0 d1 d2
      have HH := hid H
      clear H f
      go_wp2_with fail
      go_ret
      exact ⟨rfl, _, HH.out⟩
  · simp only [RS.got, RS.face, if_neg he]
    have he1 : (e0 == 0) = false := by rw [beq_eq_false_iff_ne]; exact he
    have HH := hid H
    have hi := hid hi
    clear H he f
    go_enter Try.func61, Try.ntmps61
    go_wp2_with fail
    go_quiet (fail)
    go_wp2_with fail
    go_ret
    exact ⟨rfl, _, (HH.out.drewN _).set_self hi.out⟩
end
end Go.Proofs.Ytdobbmlaokolmaa

/-
  gafferref08: get: a change, read. Printed by genget.py.
-/
namespace Go.Proofs.Ytdobbmlaokolmaa
open Go.RowKit
set_option linter.unusedVariables false
set_option linter.unusedSimpArgs false

theorem face_wf {α : Type} {s : RS} {X : Except Int (α × Nat)} (hw : s.wf) (h : ∀ n p, X = .ok (n, p) → p ≤ s.b.size) : (s.face X).wf ∧ (s.face X).b = s.b := by
  unfold RS.face
  split
  · split
    · next n p => exact ⟨⟨h n p rfl, hw.mx⟩, rfl⟩
    · exact ⟨⟨hw.le, hw.mx⟩, rfl⟩
  · exact ⟨hw, rfl⟩
theorem face_e {α : Type} {s : RS} {X : Except Int (α × Nat)} (h : ¬ s.e = 0) : ¬ (s.face X).e = 0 := by unfold RS.face; rw [if_neg h]; exact h
theorem got_most {s : RS} {b : ByteArray} {p : Nat} {m o : Int} (hm : 0 ≤ m) : ((s.got 0 (rdMost b p m o) : Nat) : Int) ≤ m := by
  unfold RS.got
  split
  · split
    · next n p h => exact rdMost_le h
    · exact hm
  · exact hm
theorem got_bits {s : RS} {b : ByteArray} {p : Nat} : (s.got 0 (rdBits b p) : Nat) < 18446744073709551616 := by
  unfold RS.got
  split
  · split
    · next n q h =>
      unfold rdBits at h
      split at h
      · simp only [Except.ok.injEq, Prod.mk.injEq] at h
        have := beN_lt b p 8
        have : (256 : Nat) ^ 8 = 18446744073709551616 := rfl
        omega
      · cases h
    · decide
  · decide
theorem got_text {s : RS} {b : ByteArray} {p : Nat} {m : Int} (hm : 0 ≤ m) : ((s.got ⟨#[]⟩ (rdText b p m)).size : Int) ≤ m := by
  unfold RS.got
  split
  · split
    · next n q h =>
      unfold rdText at h
      split at h
      · cases h
      · next n k hn =>
        split at h
        · simp only [Except.ok.injEq, Prod.mk.injEq] at h
          have := rdMost_le hn
          rw [← h.1, ByteArray.size_extract]; omega
        · cases h
    · exact hm
  · exact hm

/-- What a step of the ref's reader is where pack's reads a number. -/
theorem step_num {b : ByteArray} {p n q g : Nat} {m : Int} {s1 : RS} (h : rdNum b p m = some (n, q)) (h1 : RS.face ⟨b, p, 0⟩ (rdMost b p m 21) = s1) (h2 : RS.got ⟨b, p, 0⟩ 0 (rdMost b p m 21) = g) : s1 = ⟨b, q, 0⟩ ∧ g = n := by
  unfold rdNum at h
  split at h
  · next x hx =>
    simp only [Option.some.injEq] at h
    subst h
    rw [hx] at h1 h2
    exact ⟨h1.symm, h2.symm⟩
  · cases h

theorem step_text {b : ByteArray} {p q : Nat} {m : Int} {t g : ByteArray} {s1 : RS} (h : rdText b p m = .ok (t, q)) (h1 : RS.face ⟨b, p, 0⟩ (rdText b p m) = s1) (h2 : RS.got ⟨b, p, 0⟩ ⟨#[]⟩ (rdText b p m) = g) : s1 = ⟨b, q, 0⟩ ∧ g = t := by
  rw [h] at h1 h2; exact ⟨h1.symm, h2.symm⟩
theorem step_bits {b : ByteArray} {p q n g : Nat} {s1 : RS} (h : rdBits b p = .ok (n, q)) (h1 : RS.face ⟨b, p, 0⟩ (rdBits b p) = s1) (h2 : RS.got ⟨b, p, 0⟩ 0 (rdBits b p) = g) : s1 = ⟨b, q, 0⟩ ∧ g = n := by
  rw [h] at h1 h2; exact ⟨h1.symm, h2.symm⟩
theorem step_list {b : ByteArray} {p n q g : Nat} {m : Int} {s1 : RS} (h : rdMost b p m 23 = .ok (n, q)) (h1 : RS.face ⟨b, p, 0⟩ (rdMost b p m 23) = s1) (h2 : RS.got ⟨b, p, 0⟩ 0 (rdMost b p m 23) = g) : s1 = ⟨b, q, 0⟩ ∧ g = n := by
  rw [h] at h1 h2; exact ⟨h1.symm, h2.symm⟩
section
variable {b : ByteArray} {c c' : CV} {p q : Nat}
theorem inv_n (h : rdLet b c p 110 = some (c', q)) : ∃ n, rdNum b p 1099511627776 = some (n, q) ∧ c' = { c with n := n } := by
  unfold rdLet at h
  rw [if_pos rfl] at h
  obtain ⟨⟨n, k⟩, h1, h2⟩ := Option.map_eq_some_iff.1 h
  obtain ⟨rfl, rfl⟩ := Prod.mk.inj h2
  exact ⟨n, h1, rfl⟩
theorem inv_job (h : rdLet b c p 106 = some (c', q)) : ∃ n, rdNum b p 8 = some (n, q) ∧ c' = { c with job := n } := by
  unfold rdLet at h
  rw [if_neg (by decide), if_pos rfl] at h
  obtain ⟨⟨n, k⟩, h1, h2⟩ := Option.map_eq_some_iff.1 h
  obtain ⟨rfl, rfl⟩ := Prod.mk.inj h2
  exact ⟨n, h1, rfl⟩
theorem inv_prog (h : rdLet b c p 112 = some (c', q)) : ∃ t, rdText b p 1024 = .ok (t, q) ∧ c' = { c with prog := t } := by
  unfold rdLet at h
  rw [if_neg (by decide), if_neg (by decide), if_pos rfl] at h
  split at h
  · next t k hk =>
    simp only [Option.some.injEq, Prod.mk.injEq] at h
    obtain ⟨rfl, rfl⟩ := h
    exact ⟨t, hk, rfl⟩
  · cases h
theorem inv_badge (h : rdLet b c p 98 = some (c', q)) : ∃ n, rdNum b p 1099511627776 = some (n, q) ∧ c' = { c with badge := n } := by
  unfold rdLet at h
  rw [if_neg (by decide), if_neg (by decide), if_neg (by decide), if_pos rfl] at h
  obtain ⟨⟨n, k⟩, h1, h2⟩ := Option.map_eq_some_iff.1 h
  obtain ⟨rfl, rfl⟩ := Prod.mk.inj h2
  exact ⟨n, h1, rfl⟩
theorem inv_slot (h : rdLet b c p 115 = some (c', q)) : ∃ n k m, rdNum b p 7 = some (n, k) ∧ rdNum b k 1099511627776 = some (m, q) ∧ c' = { c with slot := n, life := m } := by
  unfold rdLet at h
  rw [if_neg (by decide), if_neg (by decide), if_neg (by decide), if_neg (by decide), if_pos rfl] at h
  obtain ⟨⟨n, k⟩, h1, h⟩ := Option.bind_eq_some_iff.1 h
  obtain ⟨⟨m, j⟩, h2, h3⟩ := Option.map_eq_some_iff.1 h
  obtain ⟨rfl, rfl⟩ := Prod.mk.inj h3
  exact ⟨n, k, m, h1, h2, rfl⟩
theorem inv_texts (h : rdLet b c p 116 = some (c', q)) : ∃ n k x, rdMost b p 8 23 = .ok (n, k) ∧ rdTexts b n k [] = some (x, q) ∧ c' = { c with texts := x } := by
  unfold rdLet at h
  rw [if_neg (by decide), if_neg (by decide), if_neg (by decide), if_neg (by decide), if_neg (by decide), if_pos rfl] at h
  split at h
  · next n k hk =>
    obtain ⟨⟨x, j⟩, h1, h2⟩ := Option.map_eq_some_iff.1 h
    obtain ⟨rfl, rfl⟩ := Prod.mk.inj h2
    exact ⟨n, k, x, hk, h1, rfl⟩
  · cases h
theorem inv_res (h : rdLet b c p 114 = some (c', q)) : ∃ n k m, rdNum b p 7 = some (n, k) ∧ rdBits b k = .ok (m, q) ∧ c' = { c with code := n, bits := m } := by
  unfold rdLet at h
  rw [if_neg (by decide), if_neg (by decide), if_neg (by decide), if_neg (by decide), if_neg (by decide), if_neg (by decide)] at h
  obtain ⟨⟨n, k⟩, h1, h⟩ := Option.bind_eq_some_iff.1 h
  simp only at h
  split at h
  · next m j hj =>
    simp only [Option.some.injEq, Prod.mk.injEq] at h
    obtain ⟨rfl, rfl⟩ := h
    exact ⟨n, k, m, h1, hj, rfl⟩
  · cases h
theorem inv_change {d : CV} (h : rdChange b p = some (d, q)) : ∃ k q0, rdNum b p 6 = some (k, q0) ∧ rdLets b (hasS k).data.toList { CV.zero with kind := k } q0 = some (d, q) ∧ d.check = 0 := by
  unfold rdChange at h
  obtain ⟨⟨k, q0⟩, h1, h⟩ := Option.bind_eq_some_iff.1 h
  obtain ⟨⟨c1, q1⟩, h2, h⟩ := Option.bind_eq_some_iff.1 h
  simp only at h
  split at h
  · next hc =>
    simp only [Option.some.injEq, Prod.mk.injEq] at h
    obtain ⟨rfl, rfl⟩ := h
    exact ⟨k, q0, h1, h2, hc⟩
  · cases h
end

/-- get's things. -/
def geT (zb cb : Nat) (c : CV) (vc vr : Value) (j : Nat) (xs : List ByteArray) : List Thing :=
  [BlkT zb (.cells #[.int .i64 0, .int .i64 0, .int .i64 0, .int .i64 0, .int .i64 0, .int .i64 0, .int .i64 0, .int .u64 0, .string ⟨#[]⟩, .slice none 0 0] 27), BlkT cb (.cells (chV c vc) 27), RowT 9 1 vr j (sL.cells xs)]

section
variable {W : Base} {w : World} {R : List Thing} {i : Nat}

/-- What get comes to. -/
def GeTo (W : Base) (R : List Thing) (i r : Nat) (s : RS) (e : Ending) (w' : World) : Prop :=
  ∃ (c : CV) (u : Value) (s' : RS) (z : Int), e = .returned (.agg (chV c u)) ∧ St W w' (R.set i (RrT r s' z) ++ [RowT 9 1 u c.texts.length (sL.cells c.texts)]) ∧ s'.wf ∧ s'.b = s.b ∧ (0 ≤ c.bits ∧ c.bits < 18446744073709551616) ∧ c.texts.length ≤ 8 ∧
    (s.e = 0 → ∀ d q, rdChange s.b s.at_ = some (d, q) → d = c ∧ s' = ⟨s.b, q, 0⟩)

variable {zb cb : Nat} {c : CV} {vc vr : Value} {j : Nat} {xs : List ByteArray}
theorem St.geSet (H : St W w (R ++ geT zb cb c vc vr j xs)) (q : Nat) (v vc' : Value) (c' : CV) (h : (chV c vc).setIfInBounds q v = chV c' vc') : St W (w.setCell ⟨cb, q, none⟩ v) (R ++ geT zb cb c' vc' vr j xs) := by
  have h1 := H.setBlk (R.length + 1) (by rw [get_behind]; rfl) q v
  rw [List.set_append_right _ _ (by omega), Nat.add_sub_cancel_left, h] at h1
  exact h1
theorem St.ge (H : St W w (R ++ geT zb cb c vc vr j xs)) : w.heap[zb]? = some (.cells #[.int .i64 0, .int .i64 0, .int .i64 0, .int .i64 0, .int .i64 0, .int .i64 0, .int .i64 0, .int .u64 0, .string ⟨#[]⟩, .slice none 0 0] 27) ∧ w.heap[cb]? = some (.cells (chV c vc) 27) :=
  ⟨H.blk (R.length + 0) (by rw [get_behind]; rfl), H.blk (R.length + 1) (by rw [get_behind]; rfl)⟩
theorem St.geApp (H : St W w (R ++ geT zb cb c vc vr j xs)) : w.ownsRow 0 9 1 vr j (sL.cells xs) ∧ ∀ (v' : Value) (w' : World) (j' : Nat) (xs' : List ByteArray), w'.ownsRow 0 9 1 v' j' (sL.cells xs') → Fr vr.ownBlock.toList w w' → (∀ x, x ∈ v'.ownBlock.toList → x ∈ vr.ownBlock.toList ∨ w.heap.size ≤ x) →
    St W w' (R ++ geT zb cb c vc v' j' xs') := by
  obtain ⟨h1, h2⟩ := H.append (R.length + 2) (by rw [get_behind]; rfl)
  refine ⟨h1, fun v' w' j' xs' ho hF hb => ?_⟩
  have h3 := h2 v' w' j' _ ho hF hb
  rw [List.set_append_right _ _ (by omega), Nat.add_sub_cancel_left] at h3
  exact h3
theorem St.geStore (H : St W w (R ++ geT zb cb c vc vr j xs)) (v0 v1 v2 v3 v4 v5 v6 v7 v8 v9 : Value) :
    St W ((((((((((w.setCell ⟨zb, 0, none⟩ v0).setCell ⟨zb, 1, none⟩ v1).setCell ⟨zb, 2, none⟩ v2).setCell ⟨zb, 3, none⟩ v3).setCell ⟨zb, 4, none⟩ v4).setCell ⟨zb, 5, none⟩ v5).setCell ⟨zb, 6, none⟩ v6).setCell ⟨zb, 7, none⟩ v7).setCell ⟨zb, 8, none⟩ v8).setCell ⟨zb, 9, none⟩ v9) ((R ++ geT zb cb c vc vr j xs).set (R.length + 0) (BlkT zb (.cells #[v0, v1, v2, v3, v4, v5, v6, v7, v8, v9] 27))) := by
  obtain ⟨F, ⟨rfl, hA⟩, hF, h⟩ := H.at (A := Blk1 zb _) (R.length + 0) (by rw [get_behind]; rfl)
  have hb := (blk_setCell_at (i := 9) v9 (blk_setCell_at (i := 8) v8 (blk_setCell_at (i := 7) v7 (blk_setCell_at (i := 6) v6 (blk_setCell_at (i := 5) v5 (blk_setCell_at (i := 4) v4 (blk_setCell_at (i := 3) v3 (blk_setCell_at (i := 2) v2 (blk_setCell_at (i := 1) v1 (blk_setCell_at (i := 0) v0 H.ge.1))))))))))
  simp only [List.setIfInBounds_toArray, List.set_cons_zero, List.set_cons_succ] at hb
  exact h _ [zb] (Blk1 zb _) inferInstance ⟨rfl, hb⟩ (((((((((((Fr.refl [zb] w).setCell (.inl (by simp)) _).setCell (.inl (by simp)) _).setCell (.inl (by simp)) _).setCell (.inl (by simp)) _).setCell (.inl (by simp)) _).setCell (.inl (by simp)) _).setCell (.inl (by simp)) _).setCell (.inl (by simp)) _).setCell (.inl (by simp)) _).setCell (.inl (by simp)) _) (fun x hx => .inl hx)

theorem stc_rNum {r : Nat} {s : RS} {z : Int} {T : List Thing} (H : St W w (R.set i (RrT r s z) ++ T)) (hil : i < R.length) (hw : s.wf) (most : Nat) (hm : most < 18446744073709551616) :
    Calls Try.prog 39 #[.pointer (some ⟨r, 0, none⟩), .int .u64 most] w fun e w' => e = .returned (.int .u64 (s.got 0 (rdMost s.b s.at_ most 21) : Nat)) ∧ ∃ z', St W w' (R.set i (RrT r (s.face (rdMost s.b s.at_ most 21)) z') ++ T) := by
  have h := st_rNum H i (get_rd hil _) hw most hm
  simp only [set_rd hil] at h
  exact h
theorem stc_rList {r : Nat} {s : RS} {z : Int} {T : List Thing} (H : St W w (R.set i (RrT r s z) ++ T)) (hil : i < R.length) (hw : s.wf) (m : Nat) (hm : m ≤ 9223372036854775807) :
    Calls Try.prog 60 #[.pointer (some ⟨r, 0, none⟩), .int .i64 m] w fun e w' => e = .returned (.int .i64 (s.got 0 (rdMost s.b s.at_ m 23) : Nat)) ∧ ∃ z', St W w' (R.set i (RrT r (s.face (rdMost s.b s.at_ m 23)) z') ++ T) := by
  have h := st_rList H i (get_rd hil _) hw m hm
  simp only [set_rd hil] at h
  exact h
theorem stc_rText {r : Nat} {s : RS} {z : Int} {T : List Thing} (H : St W w (R.set i (RrT r s z) ++ T)) (hil : i < R.length) (hw : s.wf) (m : Nat) (hm : m ≤ 9223372036854775807) :
    Calls Try.prog 59 #[.pointer (some ⟨r, 0, none⟩), .int .i64 m] w fun e w' => e = .returned (.string (s.got ⟨#[]⟩ (rdText s.b s.at_ m))) ∧ ∃ z', St W w' (R.set i (RrT r (s.face (rdText s.b s.at_ m)) z') ++ T) := by
  have h := st_rText H i (get_rd hil _) hw m hm
  simp only [set_rd hil] at h
  exact h
theorem stc_rBits {r : Nat} {s : RS} {z : Int} {T : List Thing} (H : St W w (R.set i (RrT r s z) ++ T)) (hil : i < R.length) (hw : s.wf) :
    Calls Try.prog 61 #[.pointer (some ⟨r, 0, none⟩)] w fun e w' => e = .returned (.int .u64 (s.got 0 (rdBits s.b s.at_) : Nat)) ∧ ∃ z', St W w' (R.set i (RrT r (s.face (rdBits s.b s.at_)) z') ++ T) := by
  have h := st_rBits H i (get_rd hil _) hw
  simp only [set_rd hil] at h
  exact h


set_option maxHeartbeats 4000000 in
set_option maxRecDepth 100000 in
theorem rget_0 (H : St W w R) {r : Nat} {s : RS} {z : Int} (hi : R[i]? = some (RrT r s z)) (hw : s.wf) (hkn : s.got 0 (rdMost s.b s.at_ 6 21) = 0) :
    Calls Try.prog 40 #[.pointer (some ⟨r, 0, none⟩)] w (GeTo W R i r s) := by
  have hil := lt_of_get hi
  obtain ⟨s1, hs1⟩ : ∃ s1, s.face (rdMost s.b s.at_ 6 21) = s1 := ⟨_, rfl⟩
  have hw1 := face_wf (X := rdMost s.b s.at_ 6 21) hw (fun n p h => (rdMost_p h).2)
  rw [hs1] at hw1
  have hN := stc_rNum (T := [BlkT w.heap.size (.cells #[.int .i64 0, .int .i64 0, .int .i64 0, .int .i64 0, .int .i64 0, .int .i64 0, .int .i64 0, .int .u64 0, .string ⟨#[]⟩, .slice none 0 0] 27)]) (show St W _ (R.set i (RrT r s z) ++ _) by rw [things_set_self hi]; exact H.alloc _) hil hw 6 (by decide)
  rw [show ((6 : Nat) : Int) = 6 from rfl, hkn, hs1] at hN
  have hN := hid hN
  have hE1 := hid (And.intro hs1 hkn)
  have hw1 := hid hw1
  have hil := hid hil
  clear H hi hs1 hkn
  go_enter Try.func40, Try.ntmps40
  go_wp2_with fail
  refine hN.out.mono ?_
  rintro e w1 ⟨rfl, z1, H1⟩
  have HNE := hid (show w.heap.size ≠ w1.heap.size from fun h => by have := lt_of_block (H1.blk ((R.set i (RrT r s1 z1)).length + 0) (by rw [get_behind]; rfl)); omega)
  have H1 := (H1.alloc (.cells #[.int .i64 0, .int .i64 0, .int .i64 0, .int .i64 0, .int .i64 0, .int .i64 0, .int .i64 0, .int .u64 0, .string ⟨#[]⟩, .slice none 0 0] 27)).new (A := Row1 9 1 (.slice none 0 0) 0 (sL.cells [])) (F := []) (Fr.refl _ _) inferInstance ⟨rfl, World.ownsRow_nil _ _ _ _⟩ (by simp)
  simp only [List.append_assoc] at H1
  have H1 : St W (w1.alloc (.cells #[.int .i64 0, .int .i64 0, .int .i64 0, .int .i64 0, .int .i64 0, .int .i64 0, .int .i64 0, .int .u64 0, .string ⟨#[]⟩, .slice none 0 0] 27)) (R.set i (RrT r s1 z1) ++ geT w.heap.size w1.heap.size { CV.zero with kind := 0 } (.slice none 0 0) (.slice none 0 0) 0 []) := H1
  obtain ⟨b0, b1⟩ := H1.ge
  have k0 : (w1.alloc (.cells #[.int .i64 0, .int .i64 0, .int .i64 0, .int .i64 0, .int .i64 0, .int .i64 0, .int .i64 0, .int .u64 0, .string ⟨#[]⟩, .slice none 0 0] 27)).cell? ⟨w1.heap.size, 0, none⟩ = some (.int .i64 0) := cell_blk b1 rfl
  have H1 := hid H1
  clear hN b0 b1
  obtain ⟨b0, b1⟩ := H1.out.ge
  have hne : w.heap.size ≠ w1.heap.size := HNE.out
  have hl0 := lt_of_block b0
  have hl1 := lt_of_block b1
  have zz0 : (w1.alloc (.cells #[.int .i64 0, .int .i64 0, .int .i64 0, .int .i64 0, .int .i64 0, .int .i64 0, .int .i64 0, .int .u64 0, .string ⟨#[]⟩, .slice none 0 0] 27)).cell? ⟨w.heap.size, 0, none⟩ = some (.int .i64 0) := cell_blk b0 rfl
  have y0 := free_blk (i := 0) b0
  have c0 : (w1.alloc (.cells #[.int .i64 0, .int .i64 0, .int .i64 0, .int .i64 0, .int .i64 0, .int .i64 0, .int .i64 0, .int .u64 0, .string ⟨#[]⟩, .slice none 0 0] 27)).cell? ⟨w1.heap.size, 0, none⟩ = some (.int .i64 0) := cell_blk (i := 0) b1 rfl
  have f0 := free_blk (i := 0) b1
  have zz1 : (w1.alloc (.cells #[.int .i64 0, .int .i64 0, .int .i64 0, .int .i64 0, .int .i64 0, .int .i64 0, .int .i64 0, .int .u64 0, .string ⟨#[]⟩, .slice none 0 0] 27)).cell? ⟨w.heap.size, 1, none⟩ = some (.int .i64 0) := cell_blk b0 rfl
  have y1 := free_blk (i := 1) b0
  have c1 : (w1.alloc (.cells #[.int .i64 0, .int .i64 0, .int .i64 0, .int .i64 0, .int .i64 0, .int .i64 0, .int .i64 0, .int .u64 0, .string ⟨#[]⟩, .slice none 0 0] 27)).cell? ⟨w1.heap.size, 1, none⟩ = some (.int .i64 0) := cell_blk (i := 1) b1 rfl
  have f1 := free_blk (i := 1) b1
  have zz2 : (w1.alloc (.cells #[.int .i64 0, .int .i64 0, .int .i64 0, .int .i64 0, .int .i64 0, .int .i64 0, .int .i64 0, .int .u64 0, .string ⟨#[]⟩, .slice none 0 0] 27)).cell? ⟨w.heap.size, 2, none⟩ = some (.int .i64 0) := cell_blk b0 rfl
  have y2 := free_blk (i := 2) b0
  have c2 : (w1.alloc (.cells #[.int .i64 0, .int .i64 0, .int .i64 0, .int .i64 0, .int .i64 0, .int .i64 0, .int .i64 0, .int .u64 0, .string ⟨#[]⟩, .slice none 0 0] 27)).cell? ⟨w1.heap.size, 2, none⟩ = some (.int .i64 0) := cell_blk (i := 2) b1 rfl
  have f2 := free_blk (i := 2) b1
  have zz3 : (w1.alloc (.cells #[.int .i64 0, .int .i64 0, .int .i64 0, .int .i64 0, .int .i64 0, .int .i64 0, .int .i64 0, .int .u64 0, .string ⟨#[]⟩, .slice none 0 0] 27)).cell? ⟨w.heap.size, 3, none⟩ = some (.int .i64 0) := cell_blk b0 rfl
  have y3 := free_blk (i := 3) b0
  have c3 : (w1.alloc (.cells #[.int .i64 0, .int .i64 0, .int .i64 0, .int .i64 0, .int .i64 0, .int .i64 0, .int .i64 0, .int .u64 0, .string ⟨#[]⟩, .slice none 0 0] 27)).cell? ⟨w1.heap.size, 3, none⟩ = some (.int .i64 0) := cell_blk (i := 3) b1 rfl
  have f3 := free_blk (i := 3) b1
  have zz4 : (w1.alloc (.cells #[.int .i64 0, .int .i64 0, .int .i64 0, .int .i64 0, .int .i64 0, .int .i64 0, .int .i64 0, .int .u64 0, .string ⟨#[]⟩, .slice none 0 0] 27)).cell? ⟨w.heap.size, 4, none⟩ = some (.int .i64 0) := cell_blk b0 rfl
  have y4 := free_blk (i := 4) b0
  have c4 : (w1.alloc (.cells #[.int .i64 0, .int .i64 0, .int .i64 0, .int .i64 0, .int .i64 0, .int .i64 0, .int .i64 0, .int .u64 0, .string ⟨#[]⟩, .slice none 0 0] 27)).cell? ⟨w1.heap.size, 4, none⟩ = some (.int .i64 0) := cell_blk (i := 4) b1 rfl
  have f4 := free_blk (i := 4) b1
  have zz5 : (w1.alloc (.cells #[.int .i64 0, .int .i64 0, .int .i64 0, .int .i64 0, .int .i64 0, .int .i64 0, .int .i64 0, .int .u64 0, .string ⟨#[]⟩, .slice none 0 0] 27)).cell? ⟨w.heap.size, 5, none⟩ = some (.int .i64 0) := cell_blk b0 rfl
  have y5 := free_blk (i := 5) b0
  have c5 : (w1.alloc (.cells #[.int .i64 0, .int .i64 0, .int .i64 0, .int .i64 0, .int .i64 0, .int .i64 0, .int .i64 0, .int .u64 0, .string ⟨#[]⟩, .slice none 0 0] 27)).cell? ⟨w1.heap.size, 5, none⟩ = some (.int .i64 0) := cell_blk (i := 5) b1 rfl
  have f5 := free_blk (i := 5) b1
  have zz6 : (w1.alloc (.cells #[.int .i64 0, .int .i64 0, .int .i64 0, .int .i64 0, .int .i64 0, .int .i64 0, .int .i64 0, .int .u64 0, .string ⟨#[]⟩, .slice none 0 0] 27)).cell? ⟨w.heap.size, 6, none⟩ = some (.int .i64 0) := cell_blk b0 rfl
  have y6 := free_blk (i := 6) b0
  have c6 : (w1.alloc (.cells #[.int .i64 0, .int .i64 0, .int .i64 0, .int .i64 0, .int .i64 0, .int .i64 0, .int .i64 0, .int .u64 0, .string ⟨#[]⟩, .slice none 0 0] 27)).cell? ⟨w1.heap.size, 6, none⟩ = some (.int .i64 0) := cell_blk (i := 6) b1 rfl
  have f6 := free_blk (i := 6) b1
  have zz7 : (w1.alloc (.cells #[.int .i64 0, .int .i64 0, .int .i64 0, .int .i64 0, .int .i64 0, .int .i64 0, .int .i64 0, .int .u64 0, .string ⟨#[]⟩, .slice none 0 0] 27)).cell? ⟨w.heap.size, 7, none⟩ = some (.int .u64 0) := cell_blk b0 rfl
  have y7 := free_blk (i := 7) b0
  have c7 : (w1.alloc (.cells #[.int .i64 0, .int .i64 0, .int .i64 0, .int .i64 0, .int .i64 0, .int .i64 0, .int .i64 0, .int .u64 0, .string ⟨#[]⟩, .slice none 0 0] 27)).cell? ⟨w1.heap.size, 7, none⟩ = some (.int .u64 0) := cell_blk (i := 7) b1 rfl
  have f7 := free_blk (i := 7) b1
  have zz8 : (w1.alloc (.cells #[.int .i64 0, .int .i64 0, .int .i64 0, .int .i64 0, .int .i64 0, .int .i64 0, .int .i64 0, .int .u64 0, .string ⟨#[]⟩, .slice none 0 0] 27)).cell? ⟨w.heap.size, 8, none⟩ = some (.string ⟨#[]⟩) := cell_blk b0 rfl
  have y8 := free_blk (i := 8) b0
  have c8 : (w1.alloc (.cells #[.int .i64 0, .int .i64 0, .int .i64 0, .int .i64 0, .int .i64 0, .int .i64 0, .int .i64 0, .int .u64 0, .string ⟨#[]⟩, .slice none 0 0] 27)).cell? ⟨w1.heap.size, 8, none⟩ = some (.string ⟨#[]⟩) := cell_blk (i := 8) b1 rfl
  have f8 := free_blk (i := 8) b1
  have zz9 : (w1.alloc (.cells #[.int .i64 0, .int .i64 0, .int .i64 0, .int .i64 0, .int .i64 0, .int .i64 0, .int .i64 0, .int .u64 0, .string ⟨#[]⟩, .slice none 0 0] 27)).cell? ⟨w.heap.size, 9, none⟩ = some (.slice none 0 0) := cell_blk b0 rfl
  have y9 := free_blk (i := 9) b0
  have c9 : (w1.alloc (.cells #[.int .i64 0, .int .i64 0, .int .i64 0, .int .i64 0, .int .i64 0, .int .i64 0, .int .i64 0, .int .u64 0, .string ⟨#[]⟩, .slice none 0 0] 27)).cell? ⟨w1.heap.size, 9, none⟩ = some (.slice none 0 0) := cell_blk (i := 9) b1 rfl
  have f9 := free_blk (i := 9) b1
  clear b0 b1
  go_wp2_with fail
  have H5 := H1.out.geStore (.int .i64 0) (.int .i64 (0 : Int)) (.int .i64 (0 : Int)) (.int .i64 (0 : Int)) (.int .i64 (0 : Int)) (.int .i64 (0 : Int)) (.int .i64 (0 : Int)) (.int .u64 (0 : Int)) (.string ⟨#[]⟩) (.slice none 0 0)
  generalize ((((((((((w1.alloc (.cells #[.int .i64 0, .int .i64 0, .int .i64 0, .int .i64 0, .int .i64 0, .int .i64 0, .int .i64 0, .int .u64 0, .string ⟨#[]⟩, .slice none 0 0] 27)).setCell ⟨w.heap.size, 0, none⟩ (.int .i64 0)).setCell ⟨w.heap.size, 1, none⟩ (.int .i64 (0 : Int))).setCell ⟨w.heap.size, 2, none⟩ (.int .i64 (0 : Int))).setCell ⟨w.heap.size, 3, none⟩ (.int .i64 (0 : Int))).setCell ⟨w.heap.size, 4, none⟩ (.int .i64 (0 : Int))).setCell ⟨w.heap.size, 5, none⟩ (.int .i64 (0 : Int))).setCell ⟨w.heap.size, 6, none⟩ (.int .i64 (0 : Int))).setCell ⟨w.heap.size, 7, none⟩ (.int .u64 (0 : Int))).setCell ⟨w.heap.size, 8, none⟩ (.string ⟨#[]⟩)).setCell ⟨w.heap.size, 9, none⟩ (.slice none 0 0) = w6 at H5 ⊢
  rw [List.set_append_right _ _ (by omega), Nat.add_sub_cancel_left] at H5
  have bz := H5.blk ((R.set i (RrT r s1 z1)).length + 0) (by rw [get_behind]; rfl)
  have q0 : w6.cell? ⟨w.heap.size, 0, none⟩ = some (.int .i64 0) := cell_blk (i := 0) bz rfl
  have q1 : w6.cell? ⟨w.heap.size, 1, none⟩ = some (.int .i64 (0 : Int)) := cell_blk (i := 1) bz rfl
  have q2 : w6.cell? ⟨w.heap.size, 2, none⟩ = some (.int .i64 (0 : Int)) := cell_blk (i := 2) bz rfl
  have q3 : w6.cell? ⟨w.heap.size, 3, none⟩ = some (.int .i64 (0 : Int)) := cell_blk (i := 3) bz rfl
  have q4 : w6.cell? ⟨w.heap.size, 4, none⟩ = some (.int .i64 (0 : Int)) := cell_blk (i := 4) bz rfl
  have q5 : w6.cell? ⟨w.heap.size, 5, none⟩ = some (.int .i64 (0 : Int)) := cell_blk (i := 5) bz rfl
  have q6 : w6.cell? ⟨w.heap.size, 6, none⟩ = some (.int .i64 (0 : Int)) := cell_blk (i := 6) bz rfl
  have q7 : w6.cell? ⟨w.heap.size, 7, none⟩ = some (.int .u64 (0 : Int)) := cell_blk (i := 7) bz rfl
  have q8 : w6.cell? ⟨w.heap.size, 8, none⟩ = some (.string ⟨#[]⟩) := cell_blk (i := 8) bz rfl
  have q9 : w6.cell? ⟨w.heap.size, 9, none⟩ = some (.slice none 0 0) := cell_blk (i := 9) bz rfl
  refine bodyPost_ret (v := .agg (chV { CV.zero with kind := 0 } (.slice none 0 0))) (by simp [results, Try.results40, go_sem, q0, q1, q2, q3, q4, q5, q6, q7, q8, q9, chV, CV.zero]) rfl ⟨{ CV.zero with kind := 0 }, .slice none 0 0, s1, z1, rfl, H5.keepOne 2 rfl, hw1.out.1, ?_, ⟨by simp [CV.zero] <;> omega, by simp [CV.zero] <;> omega⟩, Nat.zero_le _, ?_⟩
  · have e1 := hw1.out.2
    simp only [*]
  ·
    intro he d q hd
    obtain ⟨b, p, e0⟩ := s
    obtain rfl : e0 = 0 := he
    obtain ⟨k, q0, x0, x1, x2⟩ := inv_change hd
    obtain ⟨rfl, hk⟩ := step_num x0 hE1.out.1 hE1.out.2
    subst hk
    rw [show (hasS ((0 : Nat) : Int)).data.toList = [] from by decide] at x1
    exfalso
    rw [rdLets_nil] at x1
    obtain ⟨rfl, _⟩ := x1
    revert x2
    decide

set_option maxHeartbeats 4000000 in
set_option maxRecDepth 100000 in
theorem rget_1 (H : St W w R) {r : Nat} {s : RS} {z : Int} (hi : R[i]? = some (RrT r s z)) (hw : s.wf) (hkn : s.got 0 (rdMost s.b s.at_ 6 21) = 1) :
    Calls Try.prog 40 #[.pointer (some ⟨r, 0, none⟩)] w (GeTo W R i r s) := by
  have hil := lt_of_get hi
  obtain ⟨s1, hs1⟩ : ∃ s1, s.face (rdMost s.b s.at_ 6 21) = s1 := ⟨_, rfl⟩
  have hw1 := face_wf (X := rdMost s.b s.at_ 6 21) hw (fun n p h => (rdMost_p h).2)
  rw [hs1] at hw1
  have hN := stc_rNum (T := [BlkT w.heap.size (.cells #[.int .i64 0, .int .i64 0, .int .i64 0, .int .i64 0, .int .i64 0, .int .i64 0, .int .i64 0, .int .u64 0, .string ⟨#[]⟩, .slice none 0 0] 27)]) (show St W _ (R.set i (RrT r s z) ++ _) by rw [things_set_self hi]; exact H.alloc _) hil hw 6 (by decide)
  rw [show ((6 : Nat) : Int) = 6 from rfl, hkn, hs1] at hN
  have hN := hid hN
  have hE1 := hid (And.intro hs1 hkn)
  have hw1 := hid hw1
  have hil := hid hil
  clear H hi hs1 hkn
  go_enter Try.func40, Try.ntmps40
  go_wp2_with fail
  refine hN.out.mono ?_
  rintro e w1 ⟨rfl, z1, H1⟩
  have HNE := hid (show w.heap.size ≠ w1.heap.size from fun h => by have := lt_of_block (H1.blk ((R.set i (RrT r s1 z1)).length + 0) (by rw [get_behind]; rfl)); omega)
  have H1 := (H1.alloc (.cells #[.int .i64 1, .int .i64 0, .int .i64 0, .int .i64 0, .int .i64 0, .int .i64 0, .int .i64 0, .int .u64 0, .string ⟨#[]⟩, .slice none 0 0] 27)).new (A := Row1 9 1 (.slice none 0 0) 0 (sL.cells [])) (F := []) (Fr.refl _ _) inferInstance ⟨rfl, World.ownsRow_nil _ _ _ _⟩ (by simp)
  simp only [List.append_assoc] at H1
  have H1 : St W (w1.alloc (.cells #[.int .i64 1, .int .i64 0, .int .i64 0, .int .i64 0, .int .i64 0, .int .i64 0, .int .i64 0, .int .u64 0, .string ⟨#[]⟩, .slice none 0 0] 27)) (R.set i (RrT r s1 z1) ++ geT w.heap.size w1.heap.size { CV.zero with kind := 1 } (.slice none 0 0) (.slice none 0 0) 0 []) := H1
  obtain ⟨b0, b1⟩ := H1.ge
  have k0 : (w1.alloc (.cells #[.int .i64 1, .int .i64 0, .int .i64 0, .int .i64 0, .int .i64 0, .int .i64 0, .int .i64 0, .int .u64 0, .string ⟨#[]⟩, .slice none 0 0] 27)).cell? ⟨w1.heap.size, 0, none⟩ = some (.int .i64 1) := cell_blk b1 rfl
  have H1 := hid H1
  clear hN b0 b1
  obtain ⟨s2, hs⟩ : ∃ s', s1.face (rdMost s1.b s1.at_ 1099511627776 21) = s' := ⟨_, rfl⟩
  obtain ⟨g2, hg⟩ : ∃ g, s1.got 0 (rdMost s1.b s1.at_ 1099511627776 21) = g := ⟨_, rfl⟩
  have hw2 := face_wf (X := rdMost s1.b s1.at_ 1099511627776 21) hw1.out.1 (fun n p h => (rdMost_p h).2)
  rw [hs] at hw2
  have hb2 : (g2 : Int) ≤ 1099511627776 := by rw [← hg]; exact got_most (by decide)
  have hC := stc_rNum H1.out hil.out hw1.out.1 1099511627776 (by decide)
  simp only [show ((1099511627776 : Nat) : Int) = 1099511627776 from rfl] at hC
  rw [hs, hg] at hC
  have hC := hid hC
  have hE2 := hid (And.intro hs hg)
  have hw2 := hid hw2
  clear hs hg
  go_wp2_with fail
  refine hC.out.mono ?_
  rintro e w2 ⟨rfl, z2, H2⟩
  clear hC
  obtain ⟨b0, b1⟩ := H2.ge
  have hne : w.heap.size ≠ w1.heap.size := HNE.out
  have hl0 := lt_of_block b0
  have hl1 := lt_of_block b1
  have zz0 : w2.cell? ⟨w.heap.size, 0, none⟩ = some (.int .i64 0) := cell_blk b0 rfl
  have y0 := free_blk (i := 0) b0
  have c0 : w2.cell? ⟨w1.heap.size, 0, none⟩ = some (.int .i64 1) := cell_blk (i := 0) b1 rfl
  have f0 := free_blk (i := 0) b1
  have zz1 : w2.cell? ⟨w.heap.size, 1, none⟩ = some (.int .i64 0) := cell_blk b0 rfl
  have y1 := free_blk (i := 1) b0
  have c1 : w2.cell? ⟨w1.heap.size, 1, none⟩ = some (.int .i64 0) := cell_blk (i := 1) b1 rfl
  have f1 := free_blk (i := 1) b1
  have zz2 : w2.cell? ⟨w.heap.size, 2, none⟩ = some (.int .i64 0) := cell_blk b0 rfl
  have y2 := free_blk (i := 2) b0
  have c2 : w2.cell? ⟨w1.heap.size, 2, none⟩ = some (.int .i64 0) := cell_blk (i := 2) b1 rfl
  have f2 := free_blk (i := 2) b1
  have zz3 : w2.cell? ⟨w.heap.size, 3, none⟩ = some (.int .i64 0) := cell_blk b0 rfl
  have y3 := free_blk (i := 3) b0
  have c3 : w2.cell? ⟨w1.heap.size, 3, none⟩ = some (.int .i64 0) := cell_blk (i := 3) b1 rfl
  have f3 := free_blk (i := 3) b1
  have zz4 : w2.cell? ⟨w.heap.size, 4, none⟩ = some (.int .i64 0) := cell_blk b0 rfl
  have y4 := free_blk (i := 4) b0
  have c4 : w2.cell? ⟨w1.heap.size, 4, none⟩ = some (.int .i64 0) := cell_blk (i := 4) b1 rfl
  have f4 := free_blk (i := 4) b1
  have zz5 : w2.cell? ⟨w.heap.size, 5, none⟩ = some (.int .i64 0) := cell_blk b0 rfl
  have y5 := free_blk (i := 5) b0
  have c5 : w2.cell? ⟨w1.heap.size, 5, none⟩ = some (.int .i64 0) := cell_blk (i := 5) b1 rfl
  have f5 := free_blk (i := 5) b1
  have zz6 : w2.cell? ⟨w.heap.size, 6, none⟩ = some (.int .i64 0) := cell_blk b0 rfl
  have y6 := free_blk (i := 6) b0
  have c6 : w2.cell? ⟨w1.heap.size, 6, none⟩ = some (.int .i64 0) := cell_blk (i := 6) b1 rfl
  have f6 := free_blk (i := 6) b1
  have zz7 : w2.cell? ⟨w.heap.size, 7, none⟩ = some (.int .u64 0) := cell_blk b0 rfl
  have y7 := free_blk (i := 7) b0
  have c7 : w2.cell? ⟨w1.heap.size, 7, none⟩ = some (.int .u64 0) := cell_blk (i := 7) b1 rfl
  have f7 := free_blk (i := 7) b1
  have zz8 : w2.cell? ⟨w.heap.size, 8, none⟩ = some (.string ⟨#[]⟩) := cell_blk b0 rfl
  have y8 := free_blk (i := 8) b0
  have c8 : w2.cell? ⟨w1.heap.size, 8, none⟩ = some (.string ⟨#[]⟩) := cell_blk (i := 8) b1 rfl
  have f8 := free_blk (i := 8) b1
  have zz9 : w2.cell? ⟨w.heap.size, 9, none⟩ = some (.slice none 0 0) := cell_blk b0 rfl
  have y9 := free_blk (i := 9) b0
  have c9 : w2.cell? ⟨w1.heap.size, 9, none⟩ = some (.slice none 0 0) := cell_blk (i := 9) b1 rfl
  have f9 := free_blk (i := 9) b1
  clear b0 b1
  have H2 := hid (H2.geSet 1 (.int .i64 (g2 : Nat)) (.slice none 0 0) { CV.zero with kind := 1, n := g2 } rfl)
  go_wp2_with fail
  have H5 := H2.out.geStore (.int .i64 1) (.int .i64 (g2 : Nat)) (.int .i64 (0 : Int)) (.int .i64 (0 : Int)) (.int .i64 (0 : Int)) (.int .i64 (0 : Int)) (.int .i64 (0 : Int)) (.int .u64 (0 : Int)) (.string ⟨#[]⟩) (.slice none 0 0)
  generalize ((((((((((w2.setCell ⟨w1.heap.size, 1, none⟩ (.int .i64 (g2 : Nat))).setCell ⟨w.heap.size, 0, none⟩ (.int .i64 1)).setCell ⟨w.heap.size, 1, none⟩ (.int .i64 (g2 : Nat))).setCell ⟨w.heap.size, 2, none⟩ (.int .i64 (0 : Int))).setCell ⟨w.heap.size, 3, none⟩ (.int .i64 (0 : Int))).setCell ⟨w.heap.size, 4, none⟩ (.int .i64 (0 : Int))).setCell ⟨w.heap.size, 5, none⟩ (.int .i64 (0 : Int))).setCell ⟨w.heap.size, 6, none⟩ (.int .i64 (0 : Int))).setCell ⟨w.heap.size, 7, none⟩ (.int .u64 (0 : Int))).setCell ⟨w.heap.size, 8, none⟩ (.string ⟨#[]⟩)).setCell ⟨w.heap.size, 9, none⟩ (.slice none 0 0) = w6 at H5 ⊢
  rw [List.set_append_right _ _ (by omega), Nat.add_sub_cancel_left] at H5
  have bz := H5.blk ((R.set i (RrT r s2 z2)).length + 0) (by rw [get_behind]; rfl)
  have q0 : w6.cell? ⟨w.heap.size, 0, none⟩ = some (.int .i64 1) := cell_blk (i := 0) bz rfl
  have q1 : w6.cell? ⟨w.heap.size, 1, none⟩ = some (.int .i64 (g2 : Nat)) := cell_blk (i := 1) bz rfl
  have q2 : w6.cell? ⟨w.heap.size, 2, none⟩ = some (.int .i64 (0 : Int)) := cell_blk (i := 2) bz rfl
  have q3 : w6.cell? ⟨w.heap.size, 3, none⟩ = some (.int .i64 (0 : Int)) := cell_blk (i := 3) bz rfl
  have q4 : w6.cell? ⟨w.heap.size, 4, none⟩ = some (.int .i64 (0 : Int)) := cell_blk (i := 4) bz rfl
  have q5 : w6.cell? ⟨w.heap.size, 5, none⟩ = some (.int .i64 (0 : Int)) := cell_blk (i := 5) bz rfl
  have q6 : w6.cell? ⟨w.heap.size, 6, none⟩ = some (.int .i64 (0 : Int)) := cell_blk (i := 6) bz rfl
  have q7 : w6.cell? ⟨w.heap.size, 7, none⟩ = some (.int .u64 (0 : Int)) := cell_blk (i := 7) bz rfl
  have q8 : w6.cell? ⟨w.heap.size, 8, none⟩ = some (.string ⟨#[]⟩) := cell_blk (i := 8) bz rfl
  have q9 : w6.cell? ⟨w.heap.size, 9, none⟩ = some (.slice none 0 0) := cell_blk (i := 9) bz rfl
  refine bodyPost_ret (v := .agg (chV { CV.zero with kind := 1, n := g2 } (.slice none 0 0))) (by simp [results, Try.results40, go_sem, q0, q1, q2, q3, q4, q5, q6, q7, q8, q9, chV, CV.zero]) rfl ⟨{ CV.zero with kind := 1, n := g2 }, .slice none 0 0, s2, z2, rfl, H5.keepOne 2 rfl, hw2.out.1, ?_, ⟨by simp [CV.zero] <;> omega, by simp [CV.zero] <;> omega⟩, Nat.zero_le _, ?_⟩
  · have e1 := hw1.out.2
    have e2 := hw2.out.2
    simp only [*]
  ·
    intro he d q hd
    obtain ⟨b, p, e0⟩ := s
    obtain rfl : e0 = 0 := he
    obtain ⟨k, q0, x0, x1, x2⟩ := inv_change hd
    obtain ⟨rfl, hk⟩ := step_num x0 hE1.out.1 hE1.out.2
    subst hk
    rw [show (hasS ((1 : Nat) : Int)).data.toList = [110] from by decide] at x1
    obtain ⟨c0, p0, y0, x1⟩ := rdLets_cons.1 x1
    obtain ⟨n0, u0, rfl⟩ := inv_n y0
    obtain ⟨rfl, hk⟩ := step_num u0 hE2.out.1 hE2.out.2
    subst hk
    obtain ⟨rfl, rfl⟩ := rdLets_nil.1 x1
    exact ⟨rfl, rfl⟩

set_option maxHeartbeats 4000000 in
set_option maxRecDepth 100000 in
theorem rget_2 (H : St W w R) {r : Nat} {s : RS} {z : Int} (hi : R[i]? = some (RrT r s z)) (hw : s.wf) (hkn : s.got 0 (rdMost s.b s.at_ 6 21) = 2) :
    Calls Try.prog 40 #[.pointer (some ⟨r, 0, none⟩)] w (GeTo W R i r s) := by
  have hil := lt_of_get hi
  obtain ⟨s1, hs1⟩ : ∃ s1, s.face (rdMost s.b s.at_ 6 21) = s1 := ⟨_, rfl⟩
  have hw1 := face_wf (X := rdMost s.b s.at_ 6 21) hw (fun n p h => (rdMost_p h).2)
  rw [hs1] at hw1
  have hN := stc_rNum (T := [BlkT w.heap.size (.cells #[.int .i64 0, .int .i64 0, .int .i64 0, .int .i64 0, .int .i64 0, .int .i64 0, .int .i64 0, .int .u64 0, .string ⟨#[]⟩, .slice none 0 0] 27)]) (show St W _ (R.set i (RrT r s z) ++ _) by rw [things_set_self hi]; exact H.alloc _) hil hw 6 (by decide)
  rw [show ((6 : Nat) : Int) = 6 from rfl, hkn, hs1] at hN
  have hN := hid hN
  have hE1 := hid (And.intro hs1 hkn)
  have hw1 := hid hw1
  have hil := hid hil
  clear H hi hs1 hkn
  go_enter Try.func40, Try.ntmps40
  go_wp2_with fail
  refine hN.out.mono ?_
  rintro e w1 ⟨rfl, z1, H1⟩
  have HNE := hid (show w.heap.size ≠ w1.heap.size from fun h => by have := lt_of_block (H1.blk ((R.set i (RrT r s1 z1)).length + 0) (by rw [get_behind]; rfl)); omega)
  have H1 := (H1.alloc (.cells #[.int .i64 2, .int .i64 0, .int .i64 0, .int .i64 0, .int .i64 0, .int .i64 0, .int .i64 0, .int .u64 0, .string ⟨#[]⟩, .slice none 0 0] 27)).new (A := Row1 9 1 (.slice none 0 0) 0 (sL.cells [])) (F := []) (Fr.refl _ _) inferInstance ⟨rfl, World.ownsRow_nil _ _ _ _⟩ (by simp)
  simp only [List.append_assoc] at H1
  have H1 : St W (w1.alloc (.cells #[.int .i64 2, .int .i64 0, .int .i64 0, .int .i64 0, .int .i64 0, .int .i64 0, .int .i64 0, .int .u64 0, .string ⟨#[]⟩, .slice none 0 0] 27)) (R.set i (RrT r s1 z1) ++ geT w.heap.size w1.heap.size { CV.zero with kind := 2 } (.slice none 0 0) (.slice none 0 0) 0 []) := H1
  obtain ⟨b0, b1⟩ := H1.ge
  have k0 : (w1.alloc (.cells #[.int .i64 2, .int .i64 0, .int .i64 0, .int .i64 0, .int .i64 0, .int .i64 0, .int .i64 0, .int .u64 0, .string ⟨#[]⟩, .slice none 0 0] 27)).cell? ⟨w1.heap.size, 0, none⟩ = some (.int .i64 2) := cell_blk b1 rfl
  have H1 := hid H1
  clear hN b0 b1
  obtain ⟨s2, hs⟩ : ∃ s', s1.face (rdMost s1.b s1.at_ 8 21) = s' := ⟨_, rfl⟩
  obtain ⟨g2, hg⟩ : ∃ g, s1.got 0 (rdMost s1.b s1.at_ 8 21) = g := ⟨_, rfl⟩
  have hw2 := face_wf (X := rdMost s1.b s1.at_ 8 21) hw1.out.1 (fun n p h => (rdMost_p h).2)
  rw [hs] at hw2
  have hb2 : (g2 : Int) ≤ 8 := by rw [← hg]; exact got_most (by decide)
  have hC := stc_rNum H1.out hil.out hw1.out.1 8 (by decide)
  simp only [show ((8 : Nat) : Int) = 8 from rfl] at hC
  rw [hs, hg] at hC
  have hC := hid hC
  have hE2 := hid (And.intro hs hg)
  have hw2 := hid hw2
  clear hs hg
  go_wp2_with fail
  refine hC.out.mono ?_
  rintro e w2 ⟨rfl, z2, H2⟩
  clear hC
  obtain ⟨b0, b1⟩ := H2.ge
  have kc2 := cell_blk (i := 2) b1 rfl
  have kf2 := free_blk (i := 2) b1
  clear b0 b1
  have H2 := hid (H2.geSet 2 (.int .i64 (g2 : Nat)) (.slice none 0 0) { CV.zero with kind := 2, job := g2 } rfl)
  obtain ⟨s3, hs⟩ : ∃ s', s2.face (rdText s2.b s2.at_ 1024) = s' := ⟨_, rfl⟩
  obtain ⟨g3, hg⟩ : ∃ g, s2.got ⟨#[]⟩ (rdText s2.b s2.at_ 1024) = g := ⟨_, rfl⟩
  have hw3 := face_wf (X := rdText s2.b s2.at_ 1024) hw2.out.1 (fun n p h => rdText_p h)
  rw [hs] at hw3
  have hC := stc_rText H2.out hil.out hw2.out.1 1024 (by decide)
  simp only [show ((1024 : Nat) : Int) = 1024 from rfl] at hC
  rw [hs, hg] at hC
  have hC := hid hC
  have hE3 := hid (And.intro hs hg)
  have hw3 := hid hw3
  clear hs hg
  go_wp2_with fail
  refine hC.out.mono ?_
  rintro e w3 ⟨rfl, z3, H3⟩
  clear hC
  obtain ⟨b0, b1⟩ := H3.ge
  have hne : w.heap.size ≠ w1.heap.size := HNE.out
  have hl0 := lt_of_block b0
  have hl1 := lt_of_block b1
  have zz0 : w3.cell? ⟨w.heap.size, 0, none⟩ = some (.int .i64 0) := cell_blk b0 rfl
  have y0 := free_blk (i := 0) b0
  have c0 : w3.cell? ⟨w1.heap.size, 0, none⟩ = some (.int .i64 2) := cell_blk (i := 0) b1 rfl
  have f0 := free_blk (i := 0) b1
  have zz1 : w3.cell? ⟨w.heap.size, 1, none⟩ = some (.int .i64 0) := cell_blk b0 rfl
  have y1 := free_blk (i := 1) b0
  have c1 : w3.cell? ⟨w1.heap.size, 1, none⟩ = some (.int .i64 0) := cell_blk (i := 1) b1 rfl
  have f1 := free_blk (i := 1) b1
  have zz2 : w3.cell? ⟨w.heap.size, 2, none⟩ = some (.int .i64 0) := cell_blk b0 rfl
  have y2 := free_blk (i := 2) b0
  have c2 : w3.cell? ⟨w1.heap.size, 2, none⟩ = some (.int .i64 (g2 : Nat)) := cell_blk (i := 2) b1 rfl
  have f2 := free_blk (i := 2) b1
  have zz3 : w3.cell? ⟨w.heap.size, 3, none⟩ = some (.int .i64 0) := cell_blk b0 rfl
  have y3 := free_blk (i := 3) b0
  have c3 : w3.cell? ⟨w1.heap.size, 3, none⟩ = some (.int .i64 0) := cell_blk (i := 3) b1 rfl
  have f3 := free_blk (i := 3) b1
  have zz4 : w3.cell? ⟨w.heap.size, 4, none⟩ = some (.int .i64 0) := cell_blk b0 rfl
  have y4 := free_blk (i := 4) b0
  have c4 : w3.cell? ⟨w1.heap.size, 4, none⟩ = some (.int .i64 0) := cell_blk (i := 4) b1 rfl
  have f4 := free_blk (i := 4) b1
  have zz5 : w3.cell? ⟨w.heap.size, 5, none⟩ = some (.int .i64 0) := cell_blk b0 rfl
  have y5 := free_blk (i := 5) b0
  have c5 : w3.cell? ⟨w1.heap.size, 5, none⟩ = some (.int .i64 0) := cell_blk (i := 5) b1 rfl
  have f5 := free_blk (i := 5) b1
  have zz6 : w3.cell? ⟨w.heap.size, 6, none⟩ = some (.int .i64 0) := cell_blk b0 rfl
  have y6 := free_blk (i := 6) b0
  have c6 : w3.cell? ⟨w1.heap.size, 6, none⟩ = some (.int .i64 0) := cell_blk (i := 6) b1 rfl
  have f6 := free_blk (i := 6) b1
  have zz7 : w3.cell? ⟨w.heap.size, 7, none⟩ = some (.int .u64 0) := cell_blk b0 rfl
  have y7 := free_blk (i := 7) b0
  have c7 : w3.cell? ⟨w1.heap.size, 7, none⟩ = some (.int .u64 0) := cell_blk (i := 7) b1 rfl
  have f7 := free_blk (i := 7) b1
  have zz8 : w3.cell? ⟨w.heap.size, 8, none⟩ = some (.string ⟨#[]⟩) := cell_blk b0 rfl
  have y8 := free_blk (i := 8) b0
  have c8 : w3.cell? ⟨w1.heap.size, 8, none⟩ = some (.string ⟨#[]⟩) := cell_blk (i := 8) b1 rfl
  have f8 := free_blk (i := 8) b1
  have zz9 : w3.cell? ⟨w.heap.size, 9, none⟩ = some (.slice none 0 0) := cell_blk b0 rfl
  have y9 := free_blk (i := 9) b0
  have c9 : w3.cell? ⟨w1.heap.size, 9, none⟩ = some (.slice none 0 0) := cell_blk (i := 9) b1 rfl
  have f9 := free_blk (i := 9) b1
  clear b0 b1
  have H3 := hid (H3.geSet 8 (.string g3) (.slice none 0 0) { CV.zero with kind := 2, job := g2, prog := g3 } rfl)
  go_wp2_with fail
  have H5 := H3.out.geStore (.int .i64 2) (.int .i64 (0 : Int)) (.int .i64 (g2 : Nat)) (.int .i64 (0 : Int)) (.int .i64 (0 : Int)) (.int .i64 (0 : Int)) (.int .i64 (0 : Int)) (.int .u64 (0 : Int)) (.string g3) (.slice none 0 0)
  generalize ((((((((((w3.setCell ⟨w1.heap.size, 8, none⟩ (.string g3)).setCell ⟨w.heap.size, 0, none⟩ (.int .i64 2)).setCell ⟨w.heap.size, 1, none⟩ (.int .i64 (0 : Int))).setCell ⟨w.heap.size, 2, none⟩ (.int .i64 (g2 : Nat))).setCell ⟨w.heap.size, 3, none⟩ (.int .i64 (0 : Int))).setCell ⟨w.heap.size, 4, none⟩ (.int .i64 (0 : Int))).setCell ⟨w.heap.size, 5, none⟩ (.int .i64 (0 : Int))).setCell ⟨w.heap.size, 6, none⟩ (.int .i64 (0 : Int))).setCell ⟨w.heap.size, 7, none⟩ (.int .u64 (0 : Int))).setCell ⟨w.heap.size, 8, none⟩ (.string g3)).setCell ⟨w.heap.size, 9, none⟩ (.slice none 0 0) = w6 at H5 ⊢
  rw [List.set_append_right _ _ (by omega), Nat.add_sub_cancel_left] at H5
  have bz := H5.blk ((R.set i (RrT r s3 z3)).length + 0) (by rw [get_behind]; rfl)
  have q0 : w6.cell? ⟨w.heap.size, 0, none⟩ = some (.int .i64 2) := cell_blk (i := 0) bz rfl
  have q1 : w6.cell? ⟨w.heap.size, 1, none⟩ = some (.int .i64 (0 : Int)) := cell_blk (i := 1) bz rfl
  have q2 : w6.cell? ⟨w.heap.size, 2, none⟩ = some (.int .i64 (g2 : Nat)) := cell_blk (i := 2) bz rfl
  have q3 : w6.cell? ⟨w.heap.size, 3, none⟩ = some (.int .i64 (0 : Int)) := cell_blk (i := 3) bz rfl
  have q4 : w6.cell? ⟨w.heap.size, 4, none⟩ = some (.int .i64 (0 : Int)) := cell_blk (i := 4) bz rfl
  have q5 : w6.cell? ⟨w.heap.size, 5, none⟩ = some (.int .i64 (0 : Int)) := cell_blk (i := 5) bz rfl
  have q6 : w6.cell? ⟨w.heap.size, 6, none⟩ = some (.int .i64 (0 : Int)) := cell_blk (i := 6) bz rfl
  have q7 : w6.cell? ⟨w.heap.size, 7, none⟩ = some (.int .u64 (0 : Int)) := cell_blk (i := 7) bz rfl
  have q8 : w6.cell? ⟨w.heap.size, 8, none⟩ = some (.string g3) := cell_blk (i := 8) bz rfl
  have q9 : w6.cell? ⟨w.heap.size, 9, none⟩ = some (.slice none 0 0) := cell_blk (i := 9) bz rfl
  refine bodyPost_ret (v := .agg (chV { CV.zero with kind := 2, job := g2, prog := g3 } (.slice none 0 0))) (by simp [results, Try.results40, go_sem, q0, q1, q2, q3, q4, q5, q6, q7, q8, q9, chV, CV.zero]) rfl ⟨{ CV.zero with kind := 2, job := g2, prog := g3 }, .slice none 0 0, s3, z3, rfl, H5.keepOne 2 rfl, hw3.out.1, ?_, ⟨by simp [CV.zero] <;> omega, by simp [CV.zero] <;> omega⟩, Nat.zero_le _, ?_⟩
  · have e1 := hw1.out.2
    have e2 := hw2.out.2
    have e3 := hw3.out.2
    simp only [*]
  ·
    intro he d q hd
    obtain ⟨b, p, e0⟩ := s
    obtain rfl : e0 = 0 := he
    obtain ⟨k, q0, x0, x1, x2⟩ := inv_change hd
    obtain ⟨rfl, hk⟩ := step_num x0 hE1.out.1 hE1.out.2
    subst hk
    rw [show (hasS ((2 : Nat) : Int)).data.toList = [106, 112] from by decide] at x1
    obtain ⟨c0, p0, y0, x1⟩ := rdLets_cons.1 x1
    obtain ⟨n0, u0, rfl⟩ := inv_job y0
    obtain ⟨rfl, hk⟩ := step_num u0 hE2.out.1 hE2.out.2
    subst hk
    obtain ⟨c1, p1, y1, x1⟩ := rdLets_cons.1 x1
    obtain ⟨n1, u1, rfl⟩ := inv_prog y1
    obtain ⟨rfl, hk⟩ := step_text u1 hE3.out.1 hE3.out.2
    subst hk
    obtain ⟨rfl, rfl⟩ := rdLets_nil.1 x1
    exact ⟨rfl, rfl⟩

set_option maxHeartbeats 4000000 in
set_option maxRecDepth 100000 in
theorem rget_3 (H : St W w R) {r : Nat} {s : RS} {z : Int} (hi : R[i]? = some (RrT r s z)) (hw : s.wf) (hkn : s.got 0 (rdMost s.b s.at_ 6 21) = 3) :
    Calls Try.prog 40 #[.pointer (some ⟨r, 0, none⟩)] w (GeTo W R i r s) := by
  have hil := lt_of_get hi
  obtain ⟨s1, hs1⟩ : ∃ s1, s.face (rdMost s.b s.at_ 6 21) = s1 := ⟨_, rfl⟩
  have hw1 := face_wf (X := rdMost s.b s.at_ 6 21) hw (fun n p h => (rdMost_p h).2)
  rw [hs1] at hw1
  have hN := stc_rNum (T := [BlkT w.heap.size (.cells #[.int .i64 0, .int .i64 0, .int .i64 0, .int .i64 0, .int .i64 0, .int .i64 0, .int .i64 0, .int .u64 0, .string ⟨#[]⟩, .slice none 0 0] 27)]) (show St W _ (R.set i (RrT r s z) ++ _) by rw [things_set_self hi]; exact H.alloc _) hil hw 6 (by decide)
  rw [show ((6 : Nat) : Int) = 6 from rfl, hkn, hs1] at hN
  have hN := hid hN
  have hE1 := hid (And.intro hs1 hkn)
  have hw1 := hid hw1
  have hil := hid hil
  clear H hi hs1 hkn
  go_enter Try.func40, Try.ntmps40
  go_wp2_with fail
  refine hN.out.mono ?_
  rintro e w1 ⟨rfl, z1, H1⟩
  have HNE := hid (show w.heap.size ≠ w1.heap.size from fun h => by have := lt_of_block (H1.blk ((R.set i (RrT r s1 z1)).length + 0) (by rw [get_behind]; rfl)); omega)
  have H1 := (H1.alloc (.cells #[.int .i64 3, .int .i64 0, .int .i64 0, .int .i64 0, .int .i64 0, .int .i64 0, .int .i64 0, .int .u64 0, .string ⟨#[]⟩, .slice none 0 0] 27)).new (A := Row1 9 1 (.slice none 0 0) 0 (sL.cells [])) (F := []) (Fr.refl _ _) inferInstance ⟨rfl, World.ownsRow_nil _ _ _ _⟩ (by simp)
  simp only [List.append_assoc] at H1
  have H1 : St W (w1.alloc (.cells #[.int .i64 3, .int .i64 0, .int .i64 0, .int .i64 0, .int .i64 0, .int .i64 0, .int .i64 0, .int .u64 0, .string ⟨#[]⟩, .slice none 0 0] 27)) (R.set i (RrT r s1 z1) ++ geT w.heap.size w1.heap.size { CV.zero with kind := 3 } (.slice none 0 0) (.slice none 0 0) 0 []) := H1
  obtain ⟨b0, b1⟩ := H1.ge
  have k0 : (w1.alloc (.cells #[.int .i64 3, .int .i64 0, .int .i64 0, .int .i64 0, .int .i64 0, .int .i64 0, .int .i64 0, .int .u64 0, .string ⟨#[]⟩, .slice none 0 0] 27)).cell? ⟨w1.heap.size, 0, none⟩ = some (.int .i64 3) := cell_blk b1 rfl
  have H1 := hid H1
  clear hN b0 b1
  obtain ⟨s2, hs⟩ : ∃ s', s1.face (rdMost s1.b s1.at_ 8 21) = s' := ⟨_, rfl⟩
  obtain ⟨g2, hg⟩ : ∃ g, s1.got 0 (rdMost s1.b s1.at_ 8 21) = g := ⟨_, rfl⟩
  have hw2 := face_wf (X := rdMost s1.b s1.at_ 8 21) hw1.out.1 (fun n p h => (rdMost_p h).2)
  rw [hs] at hw2
  have hb2 : (g2 : Int) ≤ 8 := by rw [← hg]; exact got_most (by decide)
  have hC := stc_rNum H1.out hil.out hw1.out.1 8 (by decide)
  simp only [show ((8 : Nat) : Int) = 8 from rfl] at hC
  rw [hs, hg] at hC
  have hC := hid hC
  have hE2 := hid (And.intro hs hg)
  have hw2 := hid hw2
  clear hs hg
  go_wp2_with fail
  refine hC.out.mono ?_
  rintro e w2 ⟨rfl, z2, H2⟩
  clear hC
  obtain ⟨b0, b1⟩ := H2.ge
  have kc2 := cell_blk (i := 2) b1 rfl
  have kf2 := free_blk (i := 2) b1
  clear b0 b1
  have H2 := hid (H2.geSet 2 (.int .i64 (g2 : Nat)) (.slice none 0 0) { CV.zero with kind := 3, job := g2 } rfl)
  obtain ⟨s3, hs⟩ : ∃ s', s2.face (rdMost s2.b s2.at_ 1099511627776 21) = s' := ⟨_, rfl⟩
  obtain ⟨g3, hg⟩ : ∃ g, s2.got 0 (rdMost s2.b s2.at_ 1099511627776 21) = g := ⟨_, rfl⟩
  have hw3 := face_wf (X := rdMost s2.b s2.at_ 1099511627776 21) hw2.out.1 (fun n p h => (rdMost_p h).2)
  rw [hs] at hw3
  have hb3 : (g3 : Int) ≤ 1099511627776 := by rw [← hg]; exact got_most (by decide)
  have hC := stc_rNum H2.out hil.out hw2.out.1 1099511627776 (by decide)
  simp only [show ((1099511627776 : Nat) : Int) = 1099511627776 from rfl] at hC
  rw [hs, hg] at hC
  have hC := hid hC
  have hE3 := hid (And.intro hs hg)
  have hw3 := hid hw3
  clear hs hg
  go_wp2_with fail
  refine hC.out.mono ?_
  rintro e w3 ⟨rfl, z3, H3⟩
  clear hC
  obtain ⟨b0, b1⟩ := H3.ge
  have kc3 := cell_blk (i := 3) b1 rfl
  have kf3 := free_blk (i := 3) b1
  clear b0 b1
  have H3 := hid (H3.geSet 3 (.int .i64 (g3 : Nat)) (.slice none 0 0) { CV.zero with kind := 3, job := g2, badge := g3 } rfl)
  obtain ⟨s4, hs⟩ : ∃ s', s3.face (rdMost s3.b s3.at_ 7 21) = s' := ⟨_, rfl⟩
  obtain ⟨g4, hg⟩ : ∃ g, s3.got 0 (rdMost s3.b s3.at_ 7 21) = g := ⟨_, rfl⟩
  have hw4 := face_wf (X := rdMost s3.b s3.at_ 7 21) hw3.out.1 (fun n p h => (rdMost_p h).2)
  rw [hs] at hw4
  have hb4 : (g4 : Int) ≤ 7 := by rw [← hg]; exact got_most (by decide)
  have hC := stc_rNum H3.out hil.out hw3.out.1 7 (by decide)
  simp only [show ((7 : Nat) : Int) = 7 from rfl] at hC
  rw [hs, hg] at hC
  have hC := hid hC
  have hE4 := hid (And.intro hs hg)
  have hw4 := hid hw4
  clear hs hg
  go_wp2_with fail
  refine hC.out.mono ?_
  rintro e w4 ⟨rfl, z4, H4⟩
  clear hC
  obtain ⟨b0, b1⟩ := H4.ge
  have kc4 := cell_blk (i := 4) b1 rfl
  have kf4 := free_blk (i := 4) b1
  clear b0 b1
  have H4 := hid (H4.geSet 4 (.int .i64 (g4 : Nat)) (.slice none 0 0) { CV.zero with kind := 3, job := g2, badge := g3, slot := g4 } rfl)
  obtain ⟨s5, hs⟩ : ∃ s', s4.face (rdMost s4.b s4.at_ 1099511627776 21) = s' := ⟨_, rfl⟩
  obtain ⟨g5, hg⟩ : ∃ g, s4.got 0 (rdMost s4.b s4.at_ 1099511627776 21) = g := ⟨_, rfl⟩
  have hw5 := face_wf (X := rdMost s4.b s4.at_ 1099511627776 21) hw4.out.1 (fun n p h => (rdMost_p h).2)
  rw [hs] at hw5
  have hb5 : (g5 : Int) ≤ 1099511627776 := by rw [← hg]; exact got_most (by decide)
  have hC := stc_rNum H4.out hil.out hw4.out.1 1099511627776 (by decide)
  simp only [show ((1099511627776 : Nat) : Int) = 1099511627776 from rfl] at hC
  rw [hs, hg] at hC
  have hC := hid hC
  have hE5 := hid (And.intro hs hg)
  have hw5 := hid hw5
  clear hs hg
  go_wp2_with fail
  refine hC.out.mono ?_
  rintro e w5 ⟨rfl, z5, H5⟩
  clear hC
  obtain ⟨b0, b1⟩ := H5.ge
  have hne : w.heap.size ≠ w1.heap.size := HNE.out
  have hl0 := lt_of_block b0
  have hl1 := lt_of_block b1
  have zz0 : w5.cell? ⟨w.heap.size, 0, none⟩ = some (.int .i64 0) := cell_blk b0 rfl
  have y0 := free_blk (i := 0) b0
  have c0 : w5.cell? ⟨w1.heap.size, 0, none⟩ = some (.int .i64 3) := cell_blk (i := 0) b1 rfl
  have f0 := free_blk (i := 0) b1
  have zz1 : w5.cell? ⟨w.heap.size, 1, none⟩ = some (.int .i64 0) := cell_blk b0 rfl
  have y1 := free_blk (i := 1) b0
  have c1 : w5.cell? ⟨w1.heap.size, 1, none⟩ = some (.int .i64 0) := cell_blk (i := 1) b1 rfl
  have f1 := free_blk (i := 1) b1
  have zz2 : w5.cell? ⟨w.heap.size, 2, none⟩ = some (.int .i64 0) := cell_blk b0 rfl
  have y2 := free_blk (i := 2) b0
  have c2 : w5.cell? ⟨w1.heap.size, 2, none⟩ = some (.int .i64 (g2 : Nat)) := cell_blk (i := 2) b1 rfl
  have f2 := free_blk (i := 2) b1
  have zz3 : w5.cell? ⟨w.heap.size, 3, none⟩ = some (.int .i64 0) := cell_blk b0 rfl
  have y3 := free_blk (i := 3) b0
  have c3 : w5.cell? ⟨w1.heap.size, 3, none⟩ = some (.int .i64 (g3 : Nat)) := cell_blk (i := 3) b1 rfl
  have f3 := free_blk (i := 3) b1
  have zz4 : w5.cell? ⟨w.heap.size, 4, none⟩ = some (.int .i64 0) := cell_blk b0 rfl
  have y4 := free_blk (i := 4) b0
  have c4 : w5.cell? ⟨w1.heap.size, 4, none⟩ = some (.int .i64 (g4 : Nat)) := cell_blk (i := 4) b1 rfl
  have f4 := free_blk (i := 4) b1
  have zz5 : w5.cell? ⟨w.heap.size, 5, none⟩ = some (.int .i64 0) := cell_blk b0 rfl
  have y5 := free_blk (i := 5) b0
  have c5 : w5.cell? ⟨w1.heap.size, 5, none⟩ = some (.int .i64 0) := cell_blk (i := 5) b1 rfl
  have f5 := free_blk (i := 5) b1
  have zz6 : w5.cell? ⟨w.heap.size, 6, none⟩ = some (.int .i64 0) := cell_blk b0 rfl
  have y6 := free_blk (i := 6) b0
  have c6 : w5.cell? ⟨w1.heap.size, 6, none⟩ = some (.int .i64 0) := cell_blk (i := 6) b1 rfl
  have f6 := free_blk (i := 6) b1
  have zz7 : w5.cell? ⟨w.heap.size, 7, none⟩ = some (.int .u64 0) := cell_blk b0 rfl
  have y7 := free_blk (i := 7) b0
  have c7 : w5.cell? ⟨w1.heap.size, 7, none⟩ = some (.int .u64 0) := cell_blk (i := 7) b1 rfl
  have f7 := free_blk (i := 7) b1
  have zz8 : w5.cell? ⟨w.heap.size, 8, none⟩ = some (.string ⟨#[]⟩) := cell_blk b0 rfl
  have y8 := free_blk (i := 8) b0
  have c8 : w5.cell? ⟨w1.heap.size, 8, none⟩ = some (.string ⟨#[]⟩) := cell_blk (i := 8) b1 rfl
  have f8 := free_blk (i := 8) b1
  have zz9 : w5.cell? ⟨w.heap.size, 9, none⟩ = some (.slice none 0 0) := cell_blk b0 rfl
  have y9 := free_blk (i := 9) b0
  have c9 : w5.cell? ⟨w1.heap.size, 9, none⟩ = some (.slice none 0 0) := cell_blk (i := 9) b1 rfl
  have f9 := free_blk (i := 9) b1
  clear b0 b1
  have H5 := hid (H5.geSet 5 (.int .i64 (g5 : Nat)) (.slice none 0 0) { CV.zero with kind := 3, job := g2, badge := g3, slot := g4, life := g5 } rfl)
  go_wp2_with fail
  have H5 := H5.out.geStore (.int .i64 3) (.int .i64 (0 : Int)) (.int .i64 (g2 : Nat)) (.int .i64 (g3 : Nat)) (.int .i64 (g4 : Nat)) (.int .i64 (g5 : Nat)) (.int .i64 (0 : Int)) (.int .u64 (0 : Int)) (.string ⟨#[]⟩) (.slice none 0 0)
  generalize ((((((((((w5.setCell ⟨w1.heap.size, 5, none⟩ (.int .i64 (g5 : Nat))).setCell ⟨w.heap.size, 0, none⟩ (.int .i64 3)).setCell ⟨w.heap.size, 1, none⟩ (.int .i64 (0 : Int))).setCell ⟨w.heap.size, 2, none⟩ (.int .i64 (g2 : Nat))).setCell ⟨w.heap.size, 3, none⟩ (.int .i64 (g3 : Nat))).setCell ⟨w.heap.size, 4, none⟩ (.int .i64 (g4 : Nat))).setCell ⟨w.heap.size, 5, none⟩ (.int .i64 (g5 : Nat))).setCell ⟨w.heap.size, 6, none⟩ (.int .i64 (0 : Int))).setCell ⟨w.heap.size, 7, none⟩ (.int .u64 (0 : Int))).setCell ⟨w.heap.size, 8, none⟩ (.string ⟨#[]⟩)).setCell ⟨w.heap.size, 9, none⟩ (.slice none 0 0) = w6 at H5 ⊢
  rw [List.set_append_right _ _ (by omega), Nat.add_sub_cancel_left] at H5
  have bz := H5.blk ((R.set i (RrT r s5 z5)).length + 0) (by rw [get_behind]; rfl)
  have q0 : w6.cell? ⟨w.heap.size, 0, none⟩ = some (.int .i64 3) := cell_blk (i := 0) bz rfl
  have q1 : w6.cell? ⟨w.heap.size, 1, none⟩ = some (.int .i64 (0 : Int)) := cell_blk (i := 1) bz rfl
  have q2 : w6.cell? ⟨w.heap.size, 2, none⟩ = some (.int .i64 (g2 : Nat)) := cell_blk (i := 2) bz rfl
  have q3 : w6.cell? ⟨w.heap.size, 3, none⟩ = some (.int .i64 (g3 : Nat)) := cell_blk (i := 3) bz rfl
  have q4 : w6.cell? ⟨w.heap.size, 4, none⟩ = some (.int .i64 (g4 : Nat)) := cell_blk (i := 4) bz rfl
  have q5 : w6.cell? ⟨w.heap.size, 5, none⟩ = some (.int .i64 (g5 : Nat)) := cell_blk (i := 5) bz rfl
  have q6 : w6.cell? ⟨w.heap.size, 6, none⟩ = some (.int .i64 (0 : Int)) := cell_blk (i := 6) bz rfl
  have q7 : w6.cell? ⟨w.heap.size, 7, none⟩ = some (.int .u64 (0 : Int)) := cell_blk (i := 7) bz rfl
  have q8 : w6.cell? ⟨w.heap.size, 8, none⟩ = some (.string ⟨#[]⟩) := cell_blk (i := 8) bz rfl
  have q9 : w6.cell? ⟨w.heap.size, 9, none⟩ = some (.slice none 0 0) := cell_blk (i := 9) bz rfl
  refine bodyPost_ret (v := .agg (chV { CV.zero with kind := 3, job := g2, badge := g3, slot := g4, life := g5 } (.slice none 0 0))) (by simp [results, Try.results40, go_sem, q0, q1, q2, q3, q4, q5, q6, q7, q8, q9, chV, CV.zero]) rfl ⟨{ CV.zero with kind := 3, job := g2, badge := g3, slot := g4, life := g5 }, .slice none 0 0, s5, z5, rfl, H5.keepOne 2 rfl, hw5.out.1, ?_, ⟨by simp [CV.zero] <;> omega, by simp [CV.zero] <;> omega⟩, Nat.zero_le _, ?_⟩
  · have e1 := hw1.out.2
    have e2 := hw2.out.2
    have e3 := hw3.out.2
    have e4 := hw4.out.2
    have e5 := hw5.out.2
    simp only [*]
  ·
    intro he d q hd
    obtain ⟨b, p, e0⟩ := s
    obtain rfl : e0 = 0 := he
    obtain ⟨k, q0, x0, x1, x2⟩ := inv_change hd
    obtain ⟨rfl, hk⟩ := step_num x0 hE1.out.1 hE1.out.2
    subst hk
    rw [show (hasS ((3 : Nat) : Int)).data.toList = [106, 98, 115] from by decide] at x1
    obtain ⟨c0, p0, y0, x1⟩ := rdLets_cons.1 x1
    obtain ⟨n0, u0, rfl⟩ := inv_job y0
    obtain ⟨rfl, hk⟩ := step_num u0 hE2.out.1 hE2.out.2
    subst hk
    obtain ⟨c1, p1, y1, x1⟩ := rdLets_cons.1 x1
    obtain ⟨n1, u1, rfl⟩ := inv_badge y1
    obtain ⟨rfl, hk⟩ := step_num u1 hE3.out.1 hE3.out.2
    subst hk
    obtain ⟨c2, p2, y2, x1⟩ := rdLets_cons.1 x1
    obtain ⟨n2, k2, m2, u2, v2, rfl⟩ := inv_slot y2
    obtain ⟨rfl, hk⟩ := step_num u2 hE4.out.1 hE4.out.2
    subst hk
    obtain ⟨rfl, hk⟩ := step_num v2 hE5.out.1 hE5.out.2
    subst hk
    obtain ⟨rfl, rfl⟩ := rdLets_nil.1 x1
    exact ⟨rfl, rfl⟩

set_option maxHeartbeats 4000000 in
set_option maxRecDepth 100000 in
theorem rget_5 (H : St W w R) {r : Nat} {s : RS} {z : Int} (hi : R[i]? = some (RrT r s z)) (hw : s.wf) (hkn : s.got 0 (rdMost s.b s.at_ 6 21) = 5) :
    Calls Try.prog 40 #[.pointer (some ⟨r, 0, none⟩)] w (GeTo W R i r s) := by
  have hil := lt_of_get hi
  obtain ⟨s1, hs1⟩ : ∃ s1, s.face (rdMost s.b s.at_ 6 21) = s1 := ⟨_, rfl⟩
  have hw1 := face_wf (X := rdMost s.b s.at_ 6 21) hw (fun n p h => (rdMost_p h).2)
  rw [hs1] at hw1
  have hN := stc_rNum (T := [BlkT w.heap.size (.cells #[.int .i64 0, .int .i64 0, .int .i64 0, .int .i64 0, .int .i64 0, .int .i64 0, .int .i64 0, .int .u64 0, .string ⟨#[]⟩, .slice none 0 0] 27)]) (show St W _ (R.set i (RrT r s z) ++ _) by rw [things_set_self hi]; exact H.alloc _) hil hw 6 (by decide)
  rw [show ((6 : Nat) : Int) = 6 from rfl, hkn, hs1] at hN
  have hN := hid hN
  have hE1 := hid (And.intro hs1 hkn)
  have hw1 := hid hw1
  have hil := hid hil
  clear H hi hs1 hkn
  go_enter Try.func40, Try.ntmps40
  go_wp2_with fail
  refine hN.out.mono ?_
  rintro e w1 ⟨rfl, z1, H1⟩
  have HNE := hid (show w.heap.size ≠ w1.heap.size from fun h => by have := lt_of_block (H1.blk ((R.set i (RrT r s1 z1)).length + 0) (by rw [get_behind]; rfl)); omega)
  have H1 := (H1.alloc (.cells #[.int .i64 5, .int .i64 0, .int .i64 0, .int .i64 0, .int .i64 0, .int .i64 0, .int .i64 0, .int .u64 0, .string ⟨#[]⟩, .slice none 0 0] 27)).new (A := Row1 9 1 (.slice none 0 0) 0 (sL.cells [])) (F := []) (Fr.refl _ _) inferInstance ⟨rfl, World.ownsRow_nil _ _ _ _⟩ (by simp)
  simp only [List.append_assoc] at H1
  have H1 : St W (w1.alloc (.cells #[.int .i64 5, .int .i64 0, .int .i64 0, .int .i64 0, .int .i64 0, .int .i64 0, .int .i64 0, .int .u64 0, .string ⟨#[]⟩, .slice none 0 0] 27)) (R.set i (RrT r s1 z1) ++ geT w.heap.size w1.heap.size { CV.zero with kind := 5 } (.slice none 0 0) (.slice none 0 0) 0 []) := H1
  obtain ⟨b0, b1⟩ := H1.ge
  have k0 : (w1.alloc (.cells #[.int .i64 5, .int .i64 0, .int .i64 0, .int .i64 0, .int .i64 0, .int .i64 0, .int .i64 0, .int .u64 0, .string ⟨#[]⟩, .slice none 0 0] 27)).cell? ⟨w1.heap.size, 0, none⟩ = some (.int .i64 5) := cell_blk b1 rfl
  have H1 := hid H1
  clear hN b0 b1
  obtain ⟨s2, hs⟩ : ∃ s', s1.face (rdMost s1.b s1.at_ 1099511627776 21) = s' := ⟨_, rfl⟩
  obtain ⟨g2, hg⟩ : ∃ g, s1.got 0 (rdMost s1.b s1.at_ 1099511627776 21) = g := ⟨_, rfl⟩
  have hw2 := face_wf (X := rdMost s1.b s1.at_ 1099511627776 21) hw1.out.1 (fun n p h => (rdMost_p h).2)
  rw [hs] at hw2
  have hb2 : (g2 : Int) ≤ 1099511627776 := by rw [← hg]; exact got_most (by decide)
  have hC := stc_rNum H1.out hil.out hw1.out.1 1099511627776 (by decide)
  simp only [show ((1099511627776 : Nat) : Int) = 1099511627776 from rfl] at hC
  rw [hs, hg] at hC
  have hC := hid hC
  have hE2 := hid (And.intro hs hg)
  have hw2 := hid hw2
  clear hs hg
  go_wp2_with fail
  refine hC.out.mono ?_
  rintro e w2 ⟨rfl, z2, H2⟩
  clear hC
  obtain ⟨b0, b1⟩ := H2.ge
  have hne : w.heap.size ≠ w1.heap.size := HNE.out
  have hl0 := lt_of_block b0
  have hl1 := lt_of_block b1
  have zz0 : w2.cell? ⟨w.heap.size, 0, none⟩ = some (.int .i64 0) := cell_blk b0 rfl
  have y0 := free_blk (i := 0) b0
  have c0 : w2.cell? ⟨w1.heap.size, 0, none⟩ = some (.int .i64 5) := cell_blk (i := 0) b1 rfl
  have f0 := free_blk (i := 0) b1
  have zz1 : w2.cell? ⟨w.heap.size, 1, none⟩ = some (.int .i64 0) := cell_blk b0 rfl
  have y1 := free_blk (i := 1) b0
  have c1 : w2.cell? ⟨w1.heap.size, 1, none⟩ = some (.int .i64 0) := cell_blk (i := 1) b1 rfl
  have f1 := free_blk (i := 1) b1
  have zz2 : w2.cell? ⟨w.heap.size, 2, none⟩ = some (.int .i64 0) := cell_blk b0 rfl
  have y2 := free_blk (i := 2) b0
  have c2 : w2.cell? ⟨w1.heap.size, 2, none⟩ = some (.int .i64 0) := cell_blk (i := 2) b1 rfl
  have f2 := free_blk (i := 2) b1
  have zz3 : w2.cell? ⟨w.heap.size, 3, none⟩ = some (.int .i64 0) := cell_blk b0 rfl
  have y3 := free_blk (i := 3) b0
  have c3 : w2.cell? ⟨w1.heap.size, 3, none⟩ = some (.int .i64 0) := cell_blk (i := 3) b1 rfl
  have f3 := free_blk (i := 3) b1
  have zz4 : w2.cell? ⟨w.heap.size, 4, none⟩ = some (.int .i64 0) := cell_blk b0 rfl
  have y4 := free_blk (i := 4) b0
  have c4 : w2.cell? ⟨w1.heap.size, 4, none⟩ = some (.int .i64 0) := cell_blk (i := 4) b1 rfl
  have f4 := free_blk (i := 4) b1
  have zz5 : w2.cell? ⟨w.heap.size, 5, none⟩ = some (.int .i64 0) := cell_blk b0 rfl
  have y5 := free_blk (i := 5) b0
  have c5 : w2.cell? ⟨w1.heap.size, 5, none⟩ = some (.int .i64 0) := cell_blk (i := 5) b1 rfl
  have f5 := free_blk (i := 5) b1
  have zz6 : w2.cell? ⟨w.heap.size, 6, none⟩ = some (.int .i64 0) := cell_blk b0 rfl
  have y6 := free_blk (i := 6) b0
  have c6 : w2.cell? ⟨w1.heap.size, 6, none⟩ = some (.int .i64 0) := cell_blk (i := 6) b1 rfl
  have f6 := free_blk (i := 6) b1
  have zz7 : w2.cell? ⟨w.heap.size, 7, none⟩ = some (.int .u64 0) := cell_blk b0 rfl
  have y7 := free_blk (i := 7) b0
  have c7 : w2.cell? ⟨w1.heap.size, 7, none⟩ = some (.int .u64 0) := cell_blk (i := 7) b1 rfl
  have f7 := free_blk (i := 7) b1
  have zz8 : w2.cell? ⟨w.heap.size, 8, none⟩ = some (.string ⟨#[]⟩) := cell_blk b0 rfl
  have y8 := free_blk (i := 8) b0
  have c8 : w2.cell? ⟨w1.heap.size, 8, none⟩ = some (.string ⟨#[]⟩) := cell_blk (i := 8) b1 rfl
  have f8 := free_blk (i := 8) b1
  have zz9 : w2.cell? ⟨w.heap.size, 9, none⟩ = some (.slice none 0 0) := cell_blk b0 rfl
  have y9 := free_blk (i := 9) b0
  have c9 : w2.cell? ⟨w1.heap.size, 9, none⟩ = some (.slice none 0 0) := cell_blk (i := 9) b1 rfl
  have f9 := free_blk (i := 9) b1
  clear b0 b1
  have H2 := hid (H2.geSet 3 (.int .i64 (g2 : Nat)) (.slice none 0 0) { CV.zero with kind := 5, badge := g2 } rfl)
  go_wp2_with fail
  have H5 := H2.out.geStore (.int .i64 5) (.int .i64 (0 : Int)) (.int .i64 (0 : Int)) (.int .i64 (g2 : Nat)) (.int .i64 (0 : Int)) (.int .i64 (0 : Int)) (.int .i64 (0 : Int)) (.int .u64 (0 : Int)) (.string ⟨#[]⟩) (.slice none 0 0)
  generalize ((((((((((w2.setCell ⟨w1.heap.size, 3, none⟩ (.int .i64 (g2 : Nat))).setCell ⟨w.heap.size, 0, none⟩ (.int .i64 5)).setCell ⟨w.heap.size, 1, none⟩ (.int .i64 (0 : Int))).setCell ⟨w.heap.size, 2, none⟩ (.int .i64 (0 : Int))).setCell ⟨w.heap.size, 3, none⟩ (.int .i64 (g2 : Nat))).setCell ⟨w.heap.size, 4, none⟩ (.int .i64 (0 : Int))).setCell ⟨w.heap.size, 5, none⟩ (.int .i64 (0 : Int))).setCell ⟨w.heap.size, 6, none⟩ (.int .i64 (0 : Int))).setCell ⟨w.heap.size, 7, none⟩ (.int .u64 (0 : Int))).setCell ⟨w.heap.size, 8, none⟩ (.string ⟨#[]⟩)).setCell ⟨w.heap.size, 9, none⟩ (.slice none 0 0) = w6 at H5 ⊢
  rw [List.set_append_right _ _ (by omega), Nat.add_sub_cancel_left] at H5
  have bz := H5.blk ((R.set i (RrT r s2 z2)).length + 0) (by rw [get_behind]; rfl)
  have q0 : w6.cell? ⟨w.heap.size, 0, none⟩ = some (.int .i64 5) := cell_blk (i := 0) bz rfl
  have q1 : w6.cell? ⟨w.heap.size, 1, none⟩ = some (.int .i64 (0 : Int)) := cell_blk (i := 1) bz rfl
  have q2 : w6.cell? ⟨w.heap.size, 2, none⟩ = some (.int .i64 (0 : Int)) := cell_blk (i := 2) bz rfl
  have q3 : w6.cell? ⟨w.heap.size, 3, none⟩ = some (.int .i64 (g2 : Nat)) := cell_blk (i := 3) bz rfl
  have q4 : w6.cell? ⟨w.heap.size, 4, none⟩ = some (.int .i64 (0 : Int)) := cell_blk (i := 4) bz rfl
  have q5 : w6.cell? ⟨w.heap.size, 5, none⟩ = some (.int .i64 (0 : Int)) := cell_blk (i := 5) bz rfl
  have q6 : w6.cell? ⟨w.heap.size, 6, none⟩ = some (.int .i64 (0 : Int)) := cell_blk (i := 6) bz rfl
  have q7 : w6.cell? ⟨w.heap.size, 7, none⟩ = some (.int .u64 (0 : Int)) := cell_blk (i := 7) bz rfl
  have q8 : w6.cell? ⟨w.heap.size, 8, none⟩ = some (.string ⟨#[]⟩) := cell_blk (i := 8) bz rfl
  have q9 : w6.cell? ⟨w.heap.size, 9, none⟩ = some (.slice none 0 0) := cell_blk (i := 9) bz rfl
  refine bodyPost_ret (v := .agg (chV { CV.zero with kind := 5, badge := g2 } (.slice none 0 0))) (by simp [results, Try.results40, go_sem, q0, q1, q2, q3, q4, q5, q6, q7, q8, q9, chV, CV.zero]) rfl ⟨{ CV.zero with kind := 5, badge := g2 }, .slice none 0 0, s2, z2, rfl, H5.keepOne 2 rfl, hw2.out.1, ?_, ⟨by simp [CV.zero] <;> omega, by simp [CV.zero] <;> omega⟩, Nat.zero_le _, ?_⟩
  · have e1 := hw1.out.2
    have e2 := hw2.out.2
    simp only [*]
  ·
    intro he d q hd
    obtain ⟨b, p, e0⟩ := s
    obtain rfl : e0 = 0 := he
    obtain ⟨k, q0, x0, x1, x2⟩ := inv_change hd
    obtain ⟨rfl, hk⟩ := step_num x0 hE1.out.1 hE1.out.2
    subst hk
    rw [show (hasS ((5 : Nat) : Int)).data.toList = [98] from by decide] at x1
    obtain ⟨c0, p0, y0, x1⟩ := rdLets_cons.1 x1
    obtain ⟨n0, u0, rfl⟩ := inv_badge y0
    obtain ⟨rfl, hk⟩ := step_num u0 hE2.out.1 hE2.out.2
    subst hk
    obtain ⟨rfl, rfl⟩ := rdLets_nil.1 x1
    exact ⟨rfl, rfl⟩

set_option maxHeartbeats 4000000 in
set_option maxRecDepth 100000 in
theorem rget_6 (H : St W w R) {r : Nat} {s : RS} {z : Int} (hi : R[i]? = some (RrT r s z)) (hw : s.wf) (hkn : s.got 0 (rdMost s.b s.at_ 6 21) = 6) :
    Calls Try.prog 40 #[.pointer (some ⟨r, 0, none⟩)] w (GeTo W R i r s) := by
  have hil := lt_of_get hi
  obtain ⟨s1, hs1⟩ : ∃ s1, s.face (rdMost s.b s.at_ 6 21) = s1 := ⟨_, rfl⟩
  have hw1 := face_wf (X := rdMost s.b s.at_ 6 21) hw (fun n p h => (rdMost_p h).2)
  rw [hs1] at hw1
  have hN := stc_rNum (T := [BlkT w.heap.size (.cells #[.int .i64 0, .int .i64 0, .int .i64 0, .int .i64 0, .int .i64 0, .int .i64 0, .int .i64 0, .int .u64 0, .string ⟨#[]⟩, .slice none 0 0] 27)]) (show St W _ (R.set i (RrT r s z) ++ _) by rw [things_set_self hi]; exact H.alloc _) hil hw 6 (by decide)
  rw [show ((6 : Nat) : Int) = 6 from rfl, hkn, hs1] at hN
  have hN := hid hN
  have hE1 := hid (And.intro hs1 hkn)
  have hw1 := hid hw1
  have hil := hid hil
  clear H hi hs1 hkn
  go_enter Try.func40, Try.ntmps40
  go_wp2_with fail
  refine hN.out.mono ?_
  rintro e w1 ⟨rfl, z1, H1⟩
  have HNE := hid (show w.heap.size ≠ w1.heap.size from fun h => by have := lt_of_block (H1.blk ((R.set i (RrT r s1 z1)).length + 0) (by rw [get_behind]; rfl)); omega)
  have H1 := (H1.alloc (.cells #[.int .i64 6, .int .i64 0, .int .i64 0, .int .i64 0, .int .i64 0, .int .i64 0, .int .i64 0, .int .u64 0, .string ⟨#[]⟩, .slice none 0 0] 27)).new (A := Row1 9 1 (.slice none 0 0) 0 (sL.cells [])) (F := []) (Fr.refl _ _) inferInstance ⟨rfl, World.ownsRow_nil _ _ _ _⟩ (by simp)
  simp only [List.append_assoc] at H1
  have H1 : St W (w1.alloc (.cells #[.int .i64 6, .int .i64 0, .int .i64 0, .int .i64 0, .int .i64 0, .int .i64 0, .int .i64 0, .int .u64 0, .string ⟨#[]⟩, .slice none 0 0] 27)) (R.set i (RrT r s1 z1) ++ geT w.heap.size w1.heap.size { CV.zero with kind := 6 } (.slice none 0 0) (.slice none 0 0) 0 []) := H1
  obtain ⟨b0, b1⟩ := H1.ge
  have k0 : (w1.alloc (.cells #[.int .i64 6, .int .i64 0, .int .i64 0, .int .i64 0, .int .i64 0, .int .i64 0, .int .i64 0, .int .u64 0, .string ⟨#[]⟩, .slice none 0 0] 27)).cell? ⟨w1.heap.size, 0, none⟩ = some (.int .i64 6) := cell_blk b1 rfl
  have H1 := hid H1
  clear hN b0 b1
  obtain ⟨s2, hs⟩ : ∃ s', s1.face (rdMost s1.b s1.at_ 1099511627776 21) = s' := ⟨_, rfl⟩
  obtain ⟨g2, hg⟩ : ∃ g, s1.got 0 (rdMost s1.b s1.at_ 1099511627776 21) = g := ⟨_, rfl⟩
  have hw2 := face_wf (X := rdMost s1.b s1.at_ 1099511627776 21) hw1.out.1 (fun n p h => (rdMost_p h).2)
  rw [hs] at hw2
  have hb2 : (g2 : Int) ≤ 1099511627776 := by rw [← hg]; exact got_most (by decide)
  have hC := stc_rNum H1.out hil.out hw1.out.1 1099511627776 (by decide)
  simp only [show ((1099511627776 : Nat) : Int) = 1099511627776 from rfl] at hC
  rw [hs, hg] at hC
  have hC := hid hC
  have hE2 := hid (And.intro hs hg)
  have hw2 := hid hw2
  clear hs hg
  go_wp2_with fail
  refine hC.out.mono ?_
  rintro e w2 ⟨rfl, z2, H2⟩
  clear hC
  obtain ⟨b0, b1⟩ := H2.ge
  have kc2 := cell_blk (i := 3) b1 rfl
  have kf2 := free_blk (i := 3) b1
  clear b0 b1
  have H2 := hid (H2.geSet 3 (.int .i64 (g2 : Nat)) (.slice none 0 0) { CV.zero with kind := 6, badge := g2 } rfl)
  obtain ⟨s3, hs⟩ : ∃ s', s2.face (rdMost s2.b s2.at_ 7 21) = s' := ⟨_, rfl⟩
  obtain ⟨g3, hg⟩ : ∃ g, s2.got 0 (rdMost s2.b s2.at_ 7 21) = g := ⟨_, rfl⟩
  have hw3 := face_wf (X := rdMost s2.b s2.at_ 7 21) hw2.out.1 (fun n p h => (rdMost_p h).2)
  rw [hs] at hw3
  have hb3 : (g3 : Int) ≤ 7 := by rw [← hg]; exact got_most (by decide)
  have hC := stc_rNum H2.out hil.out hw2.out.1 7 (by decide)
  simp only [show ((7 : Nat) : Int) = 7 from rfl] at hC
  rw [hs, hg] at hC
  have hC := hid hC
  have hE3 := hid (And.intro hs hg)
  have hw3 := hid hw3
  clear hs hg
  go_wp2_with fail
  refine hC.out.mono ?_
  rintro e w3 ⟨rfl, z3, H3⟩
  clear hC
  obtain ⟨b0, b1⟩ := H3.ge
  have kc3 := cell_blk (i := 6) b1 rfl
  have kf3 := free_blk (i := 6) b1
  clear b0 b1
  have H3 := hid (H3.geSet 6 (.int .i64 (g3 : Nat)) (.slice none 0 0) { CV.zero with kind := 6, badge := g2, code := g3 } rfl)
  obtain ⟨s4, hs⟩ : ∃ s', s3.face (rdBits s3.b s3.at_) = s' := ⟨_, rfl⟩
  obtain ⟨g4, hg⟩ : ∃ g, s3.got 0 (rdBits s3.b s3.at_) = g := ⟨_, rfl⟩
  have hw4 := face_wf (X := rdBits s3.b s3.at_) hw3.out.1 (fun n p h => rdBits_p h)
  rw [hs] at hw4
  have hb4 : g4 < 18446744073709551616 := by rw [← hg]; exact got_bits
  have hC := stc_rBits H3.out hil.out hw3.out.1
  rw [hs, hg] at hC
  have hC := hid hC
  have hE4 := hid (And.intro hs hg)
  have hw4 := hid hw4
  clear hs hg
  go_wp2_with fail
  refine hC.out.mono ?_
  rintro e w4 ⟨rfl, z4, H4⟩
  clear hC
  obtain ⟨b0, b1⟩ := H4.ge
  have hne : w.heap.size ≠ w1.heap.size := HNE.out
  have hl0 := lt_of_block b0
  have hl1 := lt_of_block b1
  have zz0 : w4.cell? ⟨w.heap.size, 0, none⟩ = some (.int .i64 0) := cell_blk b0 rfl
  have y0 := free_blk (i := 0) b0
  have c0 : w4.cell? ⟨w1.heap.size, 0, none⟩ = some (.int .i64 6) := cell_blk (i := 0) b1 rfl
  have f0 := free_blk (i := 0) b1
  have zz1 : w4.cell? ⟨w.heap.size, 1, none⟩ = some (.int .i64 0) := cell_blk b0 rfl
  have y1 := free_blk (i := 1) b0
  have c1 : w4.cell? ⟨w1.heap.size, 1, none⟩ = some (.int .i64 0) := cell_blk (i := 1) b1 rfl
  have f1 := free_blk (i := 1) b1
  have zz2 : w4.cell? ⟨w.heap.size, 2, none⟩ = some (.int .i64 0) := cell_blk b0 rfl
  have y2 := free_blk (i := 2) b0
  have c2 : w4.cell? ⟨w1.heap.size, 2, none⟩ = some (.int .i64 0) := cell_blk (i := 2) b1 rfl
  have f2 := free_blk (i := 2) b1
  have zz3 : w4.cell? ⟨w.heap.size, 3, none⟩ = some (.int .i64 0) := cell_blk b0 rfl
  have y3 := free_blk (i := 3) b0
  have c3 : w4.cell? ⟨w1.heap.size, 3, none⟩ = some (.int .i64 (g2 : Nat)) := cell_blk (i := 3) b1 rfl
  have f3 := free_blk (i := 3) b1
  have zz4 : w4.cell? ⟨w.heap.size, 4, none⟩ = some (.int .i64 0) := cell_blk b0 rfl
  have y4 := free_blk (i := 4) b0
  have c4 : w4.cell? ⟨w1.heap.size, 4, none⟩ = some (.int .i64 0) := cell_blk (i := 4) b1 rfl
  have f4 := free_blk (i := 4) b1
  have zz5 : w4.cell? ⟨w.heap.size, 5, none⟩ = some (.int .i64 0) := cell_blk b0 rfl
  have y5 := free_blk (i := 5) b0
  have c5 : w4.cell? ⟨w1.heap.size, 5, none⟩ = some (.int .i64 0) := cell_blk (i := 5) b1 rfl
  have f5 := free_blk (i := 5) b1
  have zz6 : w4.cell? ⟨w.heap.size, 6, none⟩ = some (.int .i64 0) := cell_blk b0 rfl
  have y6 := free_blk (i := 6) b0
  have c6 : w4.cell? ⟨w1.heap.size, 6, none⟩ = some (.int .i64 (g3 : Nat)) := cell_blk (i := 6) b1 rfl
  have f6 := free_blk (i := 6) b1
  have zz7 : w4.cell? ⟨w.heap.size, 7, none⟩ = some (.int .u64 0) := cell_blk b0 rfl
  have y7 := free_blk (i := 7) b0
  have c7 : w4.cell? ⟨w1.heap.size, 7, none⟩ = some (.int .u64 0) := cell_blk (i := 7) b1 rfl
  have f7 := free_blk (i := 7) b1
  have zz8 : w4.cell? ⟨w.heap.size, 8, none⟩ = some (.string ⟨#[]⟩) := cell_blk b0 rfl
  have y8 := free_blk (i := 8) b0
  have c8 : w4.cell? ⟨w1.heap.size, 8, none⟩ = some (.string ⟨#[]⟩) := cell_blk (i := 8) b1 rfl
  have f8 := free_blk (i := 8) b1
  have zz9 : w4.cell? ⟨w.heap.size, 9, none⟩ = some (.slice none 0 0) := cell_blk b0 rfl
  have y9 := free_blk (i := 9) b0
  have c9 : w4.cell? ⟨w1.heap.size, 9, none⟩ = some (.slice none 0 0) := cell_blk (i := 9) b1 rfl
  have f9 := free_blk (i := 9) b1
  clear b0 b1
  have H4 := hid (H4.geSet 7 (.int .u64 (g4 : Nat)) (.slice none 0 0) { CV.zero with kind := 6, badge := g2, code := g3, bits := g4 } rfl)
  go_wp2_with fail
  have H5 := H4.out.geStore (.int .i64 6) (.int .i64 (0 : Int)) (.int .i64 (0 : Int)) (.int .i64 (g2 : Nat)) (.int .i64 (0 : Int)) (.int .i64 (0 : Int)) (.int .i64 (g3 : Nat)) (.int .u64 (g4 : Nat)) (.string ⟨#[]⟩) (.slice none 0 0)
  generalize ((((((((((w4.setCell ⟨w1.heap.size, 7, none⟩ (.int .u64 (g4 : Nat))).setCell ⟨w.heap.size, 0, none⟩ (.int .i64 6)).setCell ⟨w.heap.size, 1, none⟩ (.int .i64 (0 : Int))).setCell ⟨w.heap.size, 2, none⟩ (.int .i64 (0 : Int))).setCell ⟨w.heap.size, 3, none⟩ (.int .i64 (g2 : Nat))).setCell ⟨w.heap.size, 4, none⟩ (.int .i64 (0 : Int))).setCell ⟨w.heap.size, 5, none⟩ (.int .i64 (0 : Int))).setCell ⟨w.heap.size, 6, none⟩ (.int .i64 (g3 : Nat))).setCell ⟨w.heap.size, 7, none⟩ (.int .u64 (g4 : Nat))).setCell ⟨w.heap.size, 8, none⟩ (.string ⟨#[]⟩)).setCell ⟨w.heap.size, 9, none⟩ (.slice none 0 0) = w6 at H5 ⊢
  rw [List.set_append_right _ _ (by omega), Nat.add_sub_cancel_left] at H5
  have bz := H5.blk ((R.set i (RrT r s4 z4)).length + 0) (by rw [get_behind]; rfl)
  have q0 : w6.cell? ⟨w.heap.size, 0, none⟩ = some (.int .i64 6) := cell_blk (i := 0) bz rfl
  have q1 : w6.cell? ⟨w.heap.size, 1, none⟩ = some (.int .i64 (0 : Int)) := cell_blk (i := 1) bz rfl
  have q2 : w6.cell? ⟨w.heap.size, 2, none⟩ = some (.int .i64 (0 : Int)) := cell_blk (i := 2) bz rfl
  have q3 : w6.cell? ⟨w.heap.size, 3, none⟩ = some (.int .i64 (g2 : Nat)) := cell_blk (i := 3) bz rfl
  have q4 : w6.cell? ⟨w.heap.size, 4, none⟩ = some (.int .i64 (0 : Int)) := cell_blk (i := 4) bz rfl
  have q5 : w6.cell? ⟨w.heap.size, 5, none⟩ = some (.int .i64 (0 : Int)) := cell_blk (i := 5) bz rfl
  have q6 : w6.cell? ⟨w.heap.size, 6, none⟩ = some (.int .i64 (g3 : Nat)) := cell_blk (i := 6) bz rfl
  have q7 : w6.cell? ⟨w.heap.size, 7, none⟩ = some (.int .u64 (g4 : Nat)) := cell_blk (i := 7) bz rfl
  have q8 : w6.cell? ⟨w.heap.size, 8, none⟩ = some (.string ⟨#[]⟩) := cell_blk (i := 8) bz rfl
  have q9 : w6.cell? ⟨w.heap.size, 9, none⟩ = some (.slice none 0 0) := cell_blk (i := 9) bz rfl
  refine bodyPost_ret (v := .agg (chV { CV.zero with kind := 6, badge := g2, code := g3, bits := g4 } (.slice none 0 0))) (by simp [results, Try.results40, go_sem, q0, q1, q2, q3, q4, q5, q6, q7, q8, q9, chV, CV.zero]) rfl ⟨{ CV.zero with kind := 6, badge := g2, code := g3, bits := g4 }, .slice none 0 0, s4, z4, rfl, H5.keepOne 2 rfl, hw4.out.1, ?_, ⟨by simp [CV.zero] <;> omega, by simp [CV.zero] <;> omega⟩, Nat.zero_le _, ?_⟩
  · have e1 := hw1.out.2
    have e2 := hw2.out.2
    have e3 := hw3.out.2
    have e4 := hw4.out.2
    simp only [*]
  ·
    intro he d q hd
    obtain ⟨b, p, e0⟩ := s
    obtain rfl : e0 = 0 := he
    obtain ⟨k, q0, x0, x1, x2⟩ := inv_change hd
    obtain ⟨rfl, hk⟩ := step_num x0 hE1.out.1 hE1.out.2
    subst hk
    rw [show (hasS ((6 : Nat) : Int)).data.toList = [98, 114] from by decide] at x1
    obtain ⟨c0, p0, y0, x1⟩ := rdLets_cons.1 x1
    obtain ⟨n0, u0, rfl⟩ := inv_badge y0
    obtain ⟨rfl, hk⟩ := step_num u0 hE2.out.1 hE2.out.2
    subst hk
    obtain ⟨c1, p1, y1, x1⟩ := rdLets_cons.1 x1
    obtain ⟨n1, k1, m1, u1, v1, rfl⟩ := inv_res y1
    obtain ⟨rfl, hk⟩ := step_num u1 hE3.out.1 hE3.out.2
    subst hk
    obtain ⟨rfl, hk⟩ := step_bits v1 hE4.out.1 hE4.out.2
    subst hk
    obtain ⟨rfl, rfl⟩ := rdLets_nil.1 x1
    exact ⟨rfl, rfl⟩

set_option maxHeartbeats 4000000 in
set_option maxRecDepth 100000 in
theorem rget_4 (H : St W w R) {r : Nat} {s : RS} {z : Int} (hi : R[i]? = some (RrT r s z)) (hw : s.wf) (hkn : s.got 0 (rdMost s.b s.at_ 6 21) = 4) :
    Calls Try.prog 40 #[.pointer (some ⟨r, 0, none⟩)] w (GeTo W R i r s) := by
  have hil := lt_of_get hi
  obtain ⟨s1, hs1⟩ : ∃ s1, s.face (rdMost s.b s.at_ 6 21) = s1 := ⟨_, rfl⟩
  have hw1 := face_wf (X := rdMost s.b s.at_ 6 21) hw (fun n p h => (rdMost_p h).2)
  rw [hs1] at hw1
  have hN := stc_rNum (T := [BlkT w.heap.size (.cells #[.int .i64 0, .int .i64 0, .int .i64 0, .int .i64 0, .int .i64 0, .int .i64 0, .int .i64 0, .int .u64 0, .string ⟨#[]⟩, .slice none 0 0] 27)]) (show St W _ (R.set i (RrT r s z) ++ _) by rw [things_set_self hi]; exact H.alloc _) hil hw 6 (by decide)
  rw [show ((6 : Nat) : Int) = 6 from rfl, hkn, hs1] at hN
  have hN := hid hN
  have hE1 := hid (And.intro hs1 hkn)
  have hw1 := hid hw1
  have hil := hid hil
  clear H hi hs1 hkn
  go_enter Try.func40, Try.ntmps40
  go_wp2_with fail
  refine hN.out.mono ?_
  rintro e w1 ⟨rfl, z1, H1⟩
  have HNE := hid (show w.heap.size ≠ w1.heap.size from fun h => by have := lt_of_block (H1.blk ((R.set i (RrT r s1 z1)).length + 0) (by rw [get_behind]; rfl)); omega)
  have H1 := (H1.alloc (.cells #[.int .i64 4, .int .i64 0, .int .i64 0, .int .i64 0, .int .i64 0, .int .i64 0, .int .i64 0, .int .u64 0, .string ⟨#[]⟩, .slice none 0 0] 27)).new (A := Row1 9 1 (.slice none 0 0) 0 (sL.cells [])) (F := []) (Fr.refl _ _) inferInstance ⟨rfl, World.ownsRow_nil _ _ _ _⟩ (by simp)
  simp only [List.append_assoc] at H1
  have H1 : St W (w1.alloc (.cells #[.int .i64 4, .int .i64 0, .int .i64 0, .int .i64 0, .int .i64 0, .int .i64 0, .int .i64 0, .int .u64 0, .string ⟨#[]⟩, .slice none 0 0] 27)) (R.set i (RrT r s1 z1) ++ geT w.heap.size w1.heap.size { CV.zero with kind := 4 } (.slice none 0 0) (.slice none 0 0) 0 []) := H1
  obtain ⟨b0, b1⟩ := H1.ge
  have k0 : (w1.alloc (.cells #[.int .i64 4, .int .i64 0, .int .i64 0, .int .i64 0, .int .i64 0, .int .i64 0, .int .i64 0, .int .u64 0, .string ⟨#[]⟩, .slice none 0 0] 27)).cell? ⟨w1.heap.size, 0, none⟩ = some (.int .i64 4) := cell_blk b1 rfl
  have H1 := hid H1
  clear hN b0 b1
  obtain ⟨s2, hs⟩ : ∃ s', s1.face (rdMost s1.b s1.at_ 1099511627776 21) = s' := ⟨_, rfl⟩
  obtain ⟨g2, hg⟩ : ∃ g, s1.got 0 (rdMost s1.b s1.at_ 1099511627776 21) = g := ⟨_, rfl⟩
  have hw2 := face_wf (X := rdMost s1.b s1.at_ 1099511627776 21) hw1.out.1 (fun n p h => (rdMost_p h).2)
  rw [hs] at hw2
  have hb2 : (g2 : Int) ≤ 1099511627776 := by rw [← hg]; exact got_most (by decide)
  have hC := stc_rNum H1.out hil.out hw1.out.1 1099511627776 (by decide)
  simp only [show ((1099511627776 : Nat) : Int) = 1099511627776 from rfl] at hC
  rw [hs, hg] at hC
  have hC := hid hC
  have hE2 := hid (And.intro hs hg)
  have hw2 := hid hw2
  clear hs hg
  go_wp2_with fail
  refine hC.out.mono ?_
  rintro e w2 ⟨rfl, z2, H2⟩
  clear hC
  obtain ⟨b0, b1⟩ := H2.ge
  have kc2 := cell_blk (i := 3) b1 rfl
  have kf2 := free_blk (i := 3) b1
  clear b0 b1
  have H2 := hid (H2.geSet 3 (.int .i64 (g2 : Nat)) (.slice none 0 0) { CV.zero with kind := 4, badge := g2 } rfl)
  obtain ⟨s3, hs⟩ : ∃ s', s2.face (rdMost s2.b s2.at_ 8 23) = s' := ⟨_, rfl⟩
  obtain ⟨g3, hg⟩ : ∃ g, s2.got 0 (rdMost s2.b s2.at_ 8 23) = g := ⟨_, rfl⟩
  have hw3 := face_wf (X := rdMost s2.b s2.at_ 8 23) hw2.out.1 (fun n p h => (rdMost_p h).2)
  rw [hs] at hw3
  have hb3 : (g3 : Int) ≤ 8 := by rw [← hg]; exact got_most (by decide)
  have hC := stc_rList H2.out hil.out hw2.out.1 8 (by decide)
  simp only [show ((8 : Nat) : Int) = 8 from rfl] at hC
  rw [hs, hg] at hC
  have hC := hid hC
  have hE3 := hid (And.intro hs hg)
  obtain ⟨T1, hT1⟩ : ∃ T1, (if s2.e = 0 then (match rdMost s2.b s2.at_ 8 23 with | .ok (n, q) => rdTexts s2.b n q [] | .error _ => none) else none) = T1 := ⟨_, rfl⟩
  have hti : TxInv s2.b T1 g3 s3 [] := by
    rw [← hT1, ← hs, ← hg]
    by_cases he : s2.e = 0
    · rcases hX : rdMost s2.b s2.at_ 8 23 with ce | ⟨n, q⟩
      · have := rdMost_err hX
        simp only [RS.got, RS.face, if_pos he]
        exact ⟨rfl, ⟨hw2.out.1.le, hw2.out.1.mx⟩, by rw [if_neg (by show ¬ ce = 0; omega)]⟩
      · simp only [RS.got, RS.face, if_pos he]
        exact ⟨rfl, ⟨(rdMost_p hX).2, hw2.out.1.mx⟩, by simp [he]⟩
    · simp only [RS.got, RS.face, if_neg he]
      exact ⟨rfl, hw2.out.1, by rw [if_neg he]⟩
  have hti := hid hti
  have hT1 := hid hT1
  have hw3 := hid hw3
  clear hs hg
  go_wp2_with fail
  refine hC.out.mono ?_
  rintro e w3 ⟨rfl, z3, H3⟩
  clear hC
  have H3 := hid H3
  clear kc2 kf2 k0
  go_wp2_with fail
  obtain ⟨zb, hzb⟩ : ∃ zb, w.heap.size = zb := ⟨_, rfl⟩
  obtain ⟨cb, hcb⟩ : ∃ cb, w1.heap.size = cb := ⟨_, rfl⟩
  rw [hzb, hcb] at H3 HNE
  simp only [hzb, hcb]
  clear hzb hcb H2 H1
  go_loopw [5] (fun iv wr => ∃ (k : Nat) (s' : RS) (z' : Int) (v : Value) (xs : List ByteArray), k ≤ g3 ∧ iv = .int .i64 k ∧ xs.length = k ∧ TxInv s2.b T1 (g3 - k) s' xs ∧ St W wr (R.set i (RrT r s' z') ++ geT zb cb { CV.zero with kind := 4, badge := g2 } v v k xs)) (fun iv _ => g3 - (intOf iv).toNat)
  case atStart => exact ⟨0, s3, z3, _, [], Nat.zero_le _, rfl, rfl, hti.out, H3.out⟩
  case round =>
    obtain ⟨k, s', z', v, xs, hk, rfl, hxl, hI, H⟩ := hrel
    obtain ⟨b0, b1⟩ := H.ge
    have k9 : wr.cell? ⟨cb, 9, none⟩ = some v := cell_blk (i := 9) b1 rfl
    by_cases hlt : k < g3
    · have hTx := stc_rText H hil.out hI.2.1 32 (by decide)
      simp only [show ((32 : Nat) : Int) = 32 from rfl] at hTx
      have hI2 := TxInv.step (m := g3 - (k + 1)) (by rw [show g3 - (k + 1) + 1 = g3 - k by omega]; exact hI)
      generalize RS.got s' ⟨#[]⟩ (rdText s'.b s'.at_ 32) = tx at hTx hI2
      generalize RS.face s' (rdText s'.b s'.at_ 32) = s4 at hTx hI2
      obtain ⟨i0, hi, hz0, hz1, hz2⟩ := info_parts info_str
      have HI := hid (And.intro hi (And.intro hz0 (And.intro hz1 hz2)))
      have HJ := hid (And.intro hI2 hxl)
      have hTx := hid hTx
      clear hi hz0 hz1 hz2 hI hI2 H b0 b1 hxl k9
      go_wp2_with fail
      refine hTx.out.mono ?_
      rintro e w4 ⟨rfl, z4, H4⟩
      obtain ⟨b0, b1⟩ := H4.ge
      have e9 : w4.cell? ⟨cb, 9, none⟩ = some v := cell_blk (i := 9) b1 rfl
      have hl1 := lt_of_block b1
      have H5 := hid (H4.alloc_ (.cells #[.string tx] 9))
      clear b0 b1 H4
      go_wp2_with (at_builtin; refine wpList_append_blk rfl (.tmp 62) (.tmp 64) 25 rfl 9 i0 (.string ByteArray.empty) 1 16 Try.underlying25 HI.out.1 HI.out.2.1 HI.out.2.2.1 HI.out.2.2.2 rfl (by decide) v k (sL.cells xs) rfl H5.out.geApp.1 ⟨w4.heap.size, 0, none⟩ 1 1 [.string tx] rfl rfl (news_alloc w4 [.string tx] 9) (by intro u hu; simp at hu; subst hu; rfl) (by unfold maxLen; omega) (by omega) ?_)
      intro v' w6 ho hF hb hn
      rw [show sL.cells xs ++ [Value.string tx] = sL.cells (xs ++ [tx]) from sL.snoc xs tx] at ho
      obtain ⟨g', cap', rfl, _⟩ := ownsRow_shape ho (by omega)
      have H6 := H5.out.geApp.2 _ w6 (k + 1) (xs ++ [tx]) ho (by simpa using hF) (by simpa using hb)
      obtain ⟨b0, b1⟩ := H6.ge
      have m9 : w6.cell? ⟨cb, 9, none⟩ = some v := cell_blk (i := 9) b1 rfl
      have n9 := free_blk (i := 9) b1
      have H7 := hid (H6.geSet 9 (.slice (some ⟨g', 0, none⟩) (k + 1) cap') (.slice (some ⟨g', 0, none⟩) (k + 1) cap') { CV.zero with kind := 4, badge := g2 } rfl)
      clear b0 b1 ho hF hb hn H6 H5
      go_wp2_with fail
      go_roundw
      case rel => exact ⟨k + 1, s4, z4, _, xs ++ [tx], by omega, by go_num, by rw [List.length_append, HJ.out.2]; rfl, HJ.out.1, H7.out⟩
      case measure => simp [intOf]; omega
    · obtain rfl : k = g3 := by omega
      rw [Nat.sub_self] at hI
      obtain ⟨va, vc, rfl⟩ : ∃ va vc, v = .slice va k vc := by
        rcases ownsRow_one H.geApp.1 with ⟨h1, h2, _⟩ | ⟨g, cap, h1, _⟩
        · exact ⟨none, 0, by rw [h2]; exact h1⟩
        · exact ⟨_, cap, h1⟩
      have HX := hid (And.intro hxl hI)
      have H4 := hid H
      clear hI k9
      have hne : zb ≠ cb := HNE.out
      have hl0 := lt_of_block b0
      have hl1 := lt_of_block b1
      have zz0 : wr.cell? ⟨zb, 0, none⟩ = some (.int .i64 0) := cell_blk b0 rfl
      have y0 := free_blk (i := 0) b0
      have c0 : wr.cell? ⟨cb, 0, none⟩ = some (.int .i64 4) := cell_blk (i := 0) b1 rfl
      have f0 := free_blk (i := 0) b1
      have zz1 : wr.cell? ⟨zb, 1, none⟩ = some (.int .i64 0) := cell_blk b0 rfl
      have y1 := free_blk (i := 1) b0
      have c1 : wr.cell? ⟨cb, 1, none⟩ = some (.int .i64 0) := cell_blk (i := 1) b1 rfl
      have f1 := free_blk (i := 1) b1
      have zz2 : wr.cell? ⟨zb, 2, none⟩ = some (.int .i64 0) := cell_blk b0 rfl
      have y2 := free_blk (i := 2) b0
      have c2 : wr.cell? ⟨cb, 2, none⟩ = some (.int .i64 0) := cell_blk (i := 2) b1 rfl
      have f2 := free_blk (i := 2) b1
      have zz3 : wr.cell? ⟨zb, 3, none⟩ = some (.int .i64 0) := cell_blk b0 rfl
      have y3 := free_blk (i := 3) b0
      have c3 : wr.cell? ⟨cb, 3, none⟩ = some (.int .i64 (g2 : Nat)) := cell_blk (i := 3) b1 rfl
      have f3 := free_blk (i := 3) b1
      have zz4 : wr.cell? ⟨zb, 4, none⟩ = some (.int .i64 0) := cell_blk b0 rfl
      have y4 := free_blk (i := 4) b0
      have c4 : wr.cell? ⟨cb, 4, none⟩ = some (.int .i64 0) := cell_blk (i := 4) b1 rfl
      have f4 := free_blk (i := 4) b1
      have zz5 : wr.cell? ⟨zb, 5, none⟩ = some (.int .i64 0) := cell_blk b0 rfl
      have y5 := free_blk (i := 5) b0
      have c5 : wr.cell? ⟨cb, 5, none⟩ = some (.int .i64 0) := cell_blk (i := 5) b1 rfl
      have f5 := free_blk (i := 5) b1
      have zz6 : wr.cell? ⟨zb, 6, none⟩ = some (.int .i64 0) := cell_blk b0 rfl
      have y6 := free_blk (i := 6) b0
      have c6 : wr.cell? ⟨cb, 6, none⟩ = some (.int .i64 0) := cell_blk (i := 6) b1 rfl
      have f6 := free_blk (i := 6) b1
      have zz7 : wr.cell? ⟨zb, 7, none⟩ = some (.int .u64 0) := cell_blk b0 rfl
      have y7 := free_blk (i := 7) b0
      have c7 : wr.cell? ⟨cb, 7, none⟩ = some (.int .u64 0) := cell_blk (i := 7) b1 rfl
      have f7 := free_blk (i := 7) b1
      have zz8 : wr.cell? ⟨zb, 8, none⟩ = some (.string ⟨#[]⟩) := cell_blk b0 rfl
      have y8 := free_blk (i := 8) b0
      have c8 : wr.cell? ⟨cb, 8, none⟩ = some (.string ⟨#[]⟩) := cell_blk (i := 8) b1 rfl
      have f8 := free_blk (i := 8) b1
      have zz9 : wr.cell? ⟨zb, 9, none⟩ = some (.slice none 0 0) := cell_blk b0 rfl
      have y9 := free_blk (i := 9) b0
      have c9 : wr.cell? ⟨cb, 9, none⟩ = some (.slice va k vc) := cell_blk (i := 9) b1 rfl
      have f9 := free_blk (i := 9) b1
      clear b0 b1
      clear H hxl
      go_wp2_with fail
      have H5 := H4.out.geStore (.int .i64 4) (.int .i64 (0 : Int)) (.int .i64 (0 : Int)) (.int .i64 (g2 : Nat)) (.int .i64 (0 : Int)) (.int .i64 (0 : Int)) (.int .i64 (0 : Int)) (.int .u64 (0 : Int)) (.string ⟨#[]⟩) (.slice va k vc)
      generalize ((((((((((wr).setCell ⟨zb, 0, none⟩ (.int .i64 4)).setCell ⟨zb, 1, none⟩ (.int .i64 (0 : Int))).setCell ⟨zb, 2, none⟩ (.int .i64 (0 : Int))).setCell ⟨zb, 3, none⟩ (.int .i64 (g2 : Nat))).setCell ⟨zb, 4, none⟩ (.int .i64 (0 : Int))).setCell ⟨zb, 5, none⟩ (.int .i64 (0 : Int))).setCell ⟨zb, 6, none⟩ (.int .i64 (0 : Int))).setCell ⟨zb, 7, none⟩ (.int .u64 (0 : Int))).setCell ⟨zb, 8, none⟩ (.string ⟨#[]⟩)).setCell ⟨zb, 9, none⟩ (.slice va k vc) = w6 at H5 ⊢
      rw [List.set_append_right _ _ (by omega), Nat.add_sub_cancel_left] at H5
      have bz := H5.blk ((R.set i (RrT r s' z')).length + 0) (by rw [get_behind]; rfl)
      have q0 : w6.cell? ⟨zb, 0, none⟩ = some (.int .i64 4) := cell_blk (i := 0) bz rfl
      have q1 : w6.cell? ⟨zb, 1, none⟩ = some (.int .i64 (0 : Int)) := cell_blk (i := 1) bz rfl
      have q2 : w6.cell? ⟨zb, 2, none⟩ = some (.int .i64 (0 : Int)) := cell_blk (i := 2) bz rfl
      have q3 : w6.cell? ⟨zb, 3, none⟩ = some (.int .i64 (g2 : Nat)) := cell_blk (i := 3) bz rfl
      have q4 : w6.cell? ⟨zb, 4, none⟩ = some (.int .i64 (0 : Int)) := cell_blk (i := 4) bz rfl
      have q5 : w6.cell? ⟨zb, 5, none⟩ = some (.int .i64 (0 : Int)) := cell_blk (i := 5) bz rfl
      have q6 : w6.cell? ⟨zb, 6, none⟩ = some (.int .i64 (0 : Int)) := cell_blk (i := 6) bz rfl
      have q7 : w6.cell? ⟨zb, 7, none⟩ = some (.int .u64 (0 : Int)) := cell_blk (i := 7) bz rfl
      have q8 : w6.cell? ⟨zb, 8, none⟩ = some (.string ⟨#[]⟩) := cell_blk (i := 8) bz rfl
      have q9 : w6.cell? ⟨zb, 9, none⟩ = some (.slice va k vc) := cell_blk (i := 9) bz rfl
      have hlen := HX.out.1
      refine bodyPost_ret (v := .agg (chV { CV.zero with kind := 4, badge := g2, texts := xs } (.slice va k vc))) (by simp [results, Try.results40, go_sem, q0, q1, q2, q3, q4, q5, q6, q7, q8, q9, chV, CV.zero]) rfl ⟨{ CV.zero with kind := 4, badge := g2, texts := xs }, .slice va k vc, s', z', rfl, by rw [show ({ CV.zero with kind := 4, badge := g2, texts := xs } : CV).texts.length = k from hlen]; exact H5.keepOne 2 rfl, HX.out.2.2.1, ?_, ⟨by simp [CV.zero] <;> omega, by simp [CV.zero] <;> omega⟩, by show xs.length ≤ 8; omega, ?_⟩
      · have e1 := hw1.out.2
        have e2 := hw2.out.2
        have e3 := HX.out.2.1
        rw [e3, e2, e1]
      · intro he d q hd
        obtain ⟨b, p, e0⟩ := s
        obtain rfl : e0 = 0 := he
        obtain ⟨k, q0, x0, x1, x2⟩ := inv_change hd
        obtain ⟨rfl, hk⟩ := step_num x0 hE1.out.1 hE1.out.2
        subst hk
        rw [show (hasS ((4 : Nat) : Int)).data.toList = [98, 116] from by decide] at x1
        obtain ⟨c0, p0, y0, x1⟩ := rdLets_cons.1 x1
        obtain ⟨n0, u0, rfl⟩ := inv_badge y0
        obtain ⟨rfl, hk⟩ := step_num u0 hE2.out.1 hE2.out.2
        subst hk
        obtain ⟨c1, p1, y1, x1⟩ := rdLets_cons.1 x1
        obtain ⟨n1, k1, x, u1, v1, rfl⟩ := inv_texts y1
        have hT := hT1.out
        simp only [if_pos] at hT
        rw [u1] at hT
        simp only at hT
        rw [v1] at hT
        have h3 := HX.out.2.2.2
        obtain ⟨sb, sa, se⟩ := s'
        obtain rfl : sb = b := HX.out.2.1
        by_cases hse : se = 0
        · subst hse
          rw [if_pos rfl, ← hT, rdTexts] at h3
          simp only [Option.some.injEq, Prod.mk.injEq] at h3
          obtain ⟨rfl, rfl⟩ := h3
          obtain ⟨rfl, rfl⟩ := rdLets_nil.1 x1
          exact ⟨rfl, rfl⟩
        · rw [if_neg hse, ← hT] at h3
          cases h3


theorem st_rget (H : St W w R) {r : Nat} {s : RS} {z : Int} (hi : R[i]? = some (RrT r s z)) (hw : s.wf) :
    Calls Try.prog 40 #[.pointer (some ⟨r, 0, none⟩)] w (GeTo W R i r s) := by
  obtain ⟨k, hk⟩ : ∃ k, s.got 0 (rdMost s.b s.at_ 6 21) = k := ⟨_, rfl⟩
  have h6 : (k : Int) ≤ 6 := by rw [← hk]; exact got_most (by decide)
  have : k = 0 ∨ k = 1 ∨ k = 2 ∨ k = 3 ∨ k = 4 ∨ k = 5 ∨ k = 6 := by omega
  rcases this with rfl | rfl | rfl | rfl | rfl | rfl | rfl
  · exact rget_0 H hi hw hk
  · exact rget_1 H hi hw hk
  · exact rget_2 H hi hw hk
  · exact rget_3 H hi hw hk
  · exact rget_4 H hi hw hk
  · exact rget_5 H hi hw hk
  · exact rget_6 H hi hw hk
end
end Go.Proofs.Ytdobbmlaokolmaa

/-
  gafferref08: Decode.
-/
namespace Go.Proofs.Ytdobbmlaokolmaa
open Go.RowKit
set_option linter.unusedVariables false
set_option linter.unusedSimpArgs false

/-- A change's texts, as a row. -/
def tr (x : CV × TS) : Thing := RowT 9 1 (.slice x.2.a x.1.texts.length x.2.c) x.1.texts.length (sL.cells x.1.texts)
/-- A row of changes, with their texts. -/
def rwT (v : Value) (l : List (CV × TS)) : List Thing := RowT 27 10 v l.length (cL.cells l) :: l.map tr

section
variable {W : Base} {w : World} {R : List Thing}

/-- A row that is read. -/
theorem St.rowIn (H : St W w R) (i : Nat) {e : TypeId} {sz n : Nat} {v : Value} {xs : List Value} (hi : R[i]? = some (RowT e sz v n xs)) (V : Nat → Value) (hV : ∀ j, j < n * sz → xs[j]? = some (V j)) : ∃ a c, v = .slice a n c ∧ In w sz a n c V := by
  obtain ⟨a, c, h1, h2, _⟩ := ownsRow_In (H.row i hi) V hV
  exact ⟨a, c, h1, h2⟩

theorem St.rwIn {v : Value} {l : List (CV × TS)} (H : St W w (R ++ rwT v l)) (hb : ∀ x, x ∈ l → 0 ≤ x.1.bits ∧ x.1.bits < 18446744073709551616) : ∃ a c, v = .slice a l.length c ∧ ChIn w a l.length c l := by
  obtain ⟨a, c, h1, h2⟩ := H.rowIn (R.length + 0) (by rw [get_behind]; rfl) (cL.at_ l) (fun j hj => cL.get l j hj)
  refine ⟨a, c, h1, h2, rfl, fun x hx => ⟨?_, hb x hx⟩⟩
  obtain ⟨k, hk, rfl⟩ := List.getElem_of_mem hx
  obtain ⟨a', c', h3, h4⟩ := H.rowIn (R.length + (k + 1)) (e := 9) (sz := 1) (n := l[k].1.texts.length) (v := .slice l[k].2.a l[k].1.texts.length l[k].2.c) (xs := sL.cells l[k].1.texts) (by rw [get_behind]; simp [rwT, hk, tr]) (sL.at_ l[k].1.texts) (fun j hj => sL.get _ j (by simpa [sL] using hj))
  simp only [Value.slice.injEq, true_and] at h3
  rw [h3.1, h3.2]; exact h4

/-- What Decode comes to. -/
def RdTo (W : Base) (R : List Thing) (b : ByteArray) (D : Option (List CV)) (e : Ending) (w' : World) : Prop :=
  match D with
  | some m => ∃ (v : Value) (l : List (CV × TS)), l.map (·.1) = m ∧ e = .returned (.tuple #[v, .int .i64 0]) ∧ St W w' (R ++ rwT v l) ∧ ∀ x, x ∈ l → 0 ≤ x.1.bits ∧ x.1.bits < 18446744073709551616
  | none => e = .returned (.tuple #[.slice none 0 0, .int .i64 83]) ∧ St W w' R

/-- Where the reading stands, if the bytes are a record's. -/
def Rdg (b : ByteArray) (j : Nat) (s : RS) (acc : List CV) : Prop := ∀ m, decode b = some m → ∃ p q, s = ⟨b, p, 0⟩ ∧ rdAll b j p acc = some (m, q)

theorem Rdg.start {b : ByteArray} {s1 : RS} {n : Nat} (h1 : RS.face ⟨b, 0, 0⟩ (rdMost b 0 16 21) = s1) (h2 : RS.got ⟨b, 0, 0⟩ 0 (rdMost b 0 16 21) = n) : Rdg b n s1 [] := by
  intro m hm
  unfold decode at hm
  split at hm
  · cases hm
  · obtain ⟨⟨n', p⟩, x1, hm⟩ := Option.bind_eq_some_iff.1 hm
    obtain ⟨⟨l, q⟩, x2, hm⟩ := Option.bind_eq_some_iff.1 hm
    simp only at hm x2
    split at hm
    · cases hm
    · simp only [Option.some.injEq] at hm
      subst hm
      obtain ⟨rfl, rfl⟩ := step_num x1 h1 h2
      exact ⟨p, q, rfl, x2⟩
theorem Rdg.step {b : ByteArray} {s s' : RS} {j : Nat} {acc : List CV} {c : CV} (h : Rdg b (j + 1) s acc) (hs : s.e = 0 → ∀ d q, rdChange s.b s.at_ = some (d, q) → d = c ∧ s' = ⟨s.b, q, 0⟩) : Rdg b j s' (acc ++ [c]) := by
  intro m hm
  obtain ⟨p, q, rfl, h1⟩ := h m hm
  rw [rdAll] at h1
  obtain ⟨⟨d, q'⟩, h2, h3⟩ := Option.bind_eq_some_iff.1 h1
  obtain ⟨rfl, rfl⟩ := hs rfl d q' h2
  exact ⟨q', q, rfl, h3⟩
theorem Rdg.done {b : ByteArray} {s : RS} {acc : List CV} (h : Rdg b 0 s acc) (hb : ∀ c, c ∈ acc → 0 ≤ c.bits ∧ c.bits < 18446744073709551616) : decode b = if encode acc = (b, 0) then some acc else none := by
  by_cases he : encode acc = (b, 0)
  · rw [if_pos he]; exact decode_iff.2 ⟨he, hb⟩
  · rw [if_neg he]
    rcases hd : decode b with _ | m
    · rfl
    · obtain ⟨p, q, _, h1⟩ := h m hd
      simp only [rdAll, Option.some.injEq, Prod.mk.injEq] at h1
      rw [h1.1] at he
      exact absurd (decode_iff.1 hd).1 he

variable {rb : Nat} {s : RS} {z : Int} {v : Value} {l : List (CV × TS)}
/-- Decode's things. -/
def rdL (rb : Nat) (s : RS) (z : Int) (v : Value) (l : List (CV × TS)) : List Thing := RrT rb s z :: rwT v l

theorem St.rdGot {s' : RS} {z' : Int} {u : Value} {c : CV} {t : TS} (hu : u = .slice t.a c.texts.length t.c) (H : St W w ((R ++ rdL rb s z v l).set (R.length + 0) (RrT rb s' z') ++ [RowT 9 1 u c.texts.length (sL.cells c.texts)])) :
    St W w (R ++ (RrT rb s' z' :: RowT 27 10 v l.length (cL.cells l) :: (l ++ [(c, t)]).map tr)) := by
  subst hu
  rw [List.set_append_right _ _ (by omega), Nat.add_sub_cancel_left] at H
  simp only [List.map_append, List.map_cons, List.map_nil]
  simpa [rdL, rwT, tr] using H

set_option maxHeartbeats 4000000 in
set_option maxRecDepth 100000 in
theorem st_rdecode (H : St W w R) (b : ByteArray) (hb : b.size ≤ 140737488355328) :
    Calls Try.prog 19 #[.string b] w (RdTo W R b (decode b)) := by
  obtain ⟨i0, hi, hz0, hz1, hz2⟩ := info_parts info_ch
  have HI := hid (And.intro hi (And.intro hz0 (And.intro hz1 hz2)))
  obtain ⟨s1, hs1⟩ : ∃ s1, RS.face ⟨b, 0, 0⟩ (rdMost b 0 16 21) = s1 := ⟨_, rfl⟩
  obtain ⟨n, hn⟩ : ∃ n, RS.got ⟨b, 0, 0⟩ 0 (rdMost b 0 16 21) = n := ⟨_, rfl⟩
  have hn16 : (n : Int) ≤ 16 := by rw [← hn]; exact got_most (by decide)
  have hw0 : RS.wf ⟨b, 0, 0⟩ := ⟨Nat.zero_le _, hb⟩
  have hw1 := face_wf (X := rdMost b 0 16 21) hw0 (fun n p h => (rdMost_p h).2)
  rw [hs1] at hw1
  have hC := st_rNum (H.alloc (.cells #[.string b, .int .i64 0, .int .i64 0, .int .i64 0] 61)) (R.length + 0) (r := w.heap.size) (s := ⟨b, 0, 0⟩) (z := 0) (by rw [get_behind]; rfl) hw0 16 (by decide)
  simp only [show ((16 : Nat) : Int) = 16 from rfl, hs1, hn] at hC
  have hC := hid hC
  have hRg := hid (Rdg.start hs1 hn)
  have hw1 := hid hw1
  clear hs1 hn hw0 hi hz0 hz1 hz2 H
  obtain ⟨D, hD⟩ : ∃ D, decode b = D := ⟨_, rfl⟩
  rw [hD]
  have hD := hid hD
  go_enter Try.func19, Try.ntmps19
  go_wp2_with fail
  refine hC.out.mono ?_
  rintro e w1 ⟨rfl, z1, H1⟩
  rw [List.set_append_right _ _ (by omega), Nat.add_sub_cancel_left] at H1
  have ho : (w1.alloc (.cells #[] 27)).ownsRow 0 27 10 (.slice (some ⟨w1.heap.size, 0, none⟩) 0 0) 0 (cL.cells []) := ⟨by simp [Lay.cells], Or.inr ⟨_, _, #[], rfl, Nat.zero_le _, blk_alloc_at _ _ _ rfl, Nat.le_refl _, by decide, by simp, by simp [Lay.cells]⟩⟩
  have H2 := H1.new (A := Row1 27 10 (.slice (some ⟨w1.heap.size, 0, none⟩) 0 0) 0 (cL.cells [])) (F := [w1.heap.size]) ((Fr.refl _ _).alloc (.cells #[] 27)) inferInstance ⟨rfl, ho⟩ (by simp)
  rw [List.append_assoc] at H2
  have H2 : St W (w1.alloc (.cells #[] 27)) (R ++ rdL w.heap.size s1 z1 (.slice (some ⟨w1.heap.size, 0, none⟩) 0 0) []) := H2
  have H2 := hid H2
  clear ho H1 hC
  go_wp2_with fail
  obtain ⟨rb, hrb⟩ : ∃ rb, w.heap.size = rb := ⟨_, rfl⟩
  rw [hrb] at H2
  simp only [hrb]
  clear hrb
  go_loopw [6, 7] (fun lv iv wr => ∃ (k : Nat) (s : RS) (z : Int) (v : Value) (l : List (CV × TS)), k ≤ n ∧ v = lv ∧ iv = .int .i64 k ∧ l.length = k ∧ (s.wf ∧ s.b = b ∧ Rdg b (n - k) s (l.map (·.1)) ∧ ∀ x, x ∈ l → 0 ≤ x.1.bits ∧ x.1.bits < 18446744073709551616) ∧ St W wr (R ++ rdL rb s z v l)) (fun _ iv _ => n - (intOf iv).toNat)
  case atStart => exact ⟨0, s1, z1, _, [], Nat.zero_le _, rfl, rfl, rfl, ⟨hw1.out.1, hw1.out.2, hRg.out, by simp⟩, H2.out⟩
  case round =>
    obtain ⟨k, s, z, v, l, hk, rfl, rfl, hlk, hInv, H⟩ := hrel
    by_cases hlt : k < n
    · have hG := hid (st_rget H (i := R.length + 0) (r := rb) (s := s) (z := z) (by rw [get_behind]; rfl) hInv.1)
      have hInv := hid hInv
      have hlk := hid hlk
      clear H
      go_wp2_with fail
      refine hG.out.mono ?_
      rintro e w2 ⟨c, u, s', z', rfl, H3, hs', hsb, hcb, hc8, hcs⟩
      obtain ⟨a', c', hu, hu2⟩ := H3.rowIn (((R ++ rdL rb s z v l).set (R.length + 0) (RrT rb s' z')).length + 0) (by rw [get_behind]; rfl) (sL.at_ c.texts) (fun j hj => sL.get _ j (by simpa [sL] using hj))
      have H4 := H3.rdGot (t := ⟨a', c'⟩) hu
      subst hu
      have HK := hid (show (s'.wf ∧ s'.b = b ∧ Rdg b (n - (k + 1)) s' ((l ++ [(c, (⟨a', c'⟩ : TS))]).map (·.1)) ∧ ∀ x, x ∈ l ++ [(c, (⟨a', c'⟩ : TS))] → 0 ≤ x.1.bits ∧ x.1.bits < 18446744073709551616) from by
        obtain ⟨g1, g2, g3, g4⟩ := hInv.out
        refine ⟨hs', by rw [hsb, g2], ?_, fun x hx => ?_⟩
        · rw [List.map_append]
          exact Rdg.step (by rw [show n - (k + 1) + 1 = n - k by omega]; exact g3) hcs
        · rcases List.mem_append.1 hx with h | h
          · exact g4 x h
          · rw [List.mem_singleton.1 h]; exact hcb)
      have b1 := blk_alloc_at w2 (.cells (c.f ⟨a', c'⟩).toArray 27) _ rfl
      have k0 : (w2.alloc (.cells (c.f ⟨a', c'⟩).toArray 27)).cell? ⟨w2.heap.size, 0, none⟩ = some (.int .i64 c.kind) := cell_blk b1 rfl
      have H5 := hid ((H4.alloc_ (.cells (c.f ⟨a', c'⟩).toArray 27)).alloc_ (.cells (c.f ⟨a', c'⟩).toArray 27))
      have hnw := hid (show ∀ (j : Nat) (u : Value), (c.f ⟨a', c'⟩)[j]? = some u → ((w2.alloc (.cells (c.f ⟨a', c'⟩).toArray 27)).alloc (.cells (c.f ⟨a', c'⟩).toArray 27)).cell? ((⟨w2.heap.size + 1, 0, none⟩ : Addr).add j) = some u from fun j u hu => by have h := news_alloc (w2.alloc (.cells (c.f ⟨a', c'⟩).toArray 27)) (c.f ⟨a', c'⟩) 27 j u hu; rwa [show (w2.alloc (.cells (c.f ⟨a', c'⟩).toArray 27)).heap.size = w2.heap.size + 1 by simp] at h)
      clear hs' hsb hcb hc8 hcs hu2 H3 H4 hInv b1
      simp only [CV.f] at k0
      dsimp only [chV]
      go_wp2_with (at_builtin; refine wpList_append_blk rfl (.tmp 25) (.tmp 27) 28 rfl 27 i0 (.agg #[.int .i64 0, .int .i64 0, .int .i64 0, .int .i64 0, .int .i64 0, .int .i64 0, .int .i64 0, .int .u64 0, .string ⟨#[]⟩, .slice none 0 0]) 10 104 Try.underlying28 HI.out.1 HI.out.2.1 HI.out.2.2.1 HI.out.2.2.2 rfl (by decide) v l.length (cL.cells l) rfl (H5.out.row (R.length + 1) (by rw [get_behind]; rfl)) ⟨w2.heap.size + 1, 0, none⟩ 1 1 (c.f ⟨a', c'⟩) rfl rfl hnw.out (cL.one (c, ⟨a', c'⟩)) (by have := hlk.out; unfold maxLen; omega) (by have := hlk.out; omega) ?_)
      intro v' w4 ho hF hb4 hn4
      have ho2 : w4.ownsRow 0 27 10 v' (l ++ [(c, (⟨a', c'⟩ : TS))]).length (cL.cells (l ++ [(c, (⟨a', c'⟩ : TS))])) := by
        rw [← cL.snoc l (c, ⟨a', c'⟩), List.length_append, hlk.out]; exact ho
      have H6 := (H5.out.append (R.length + 1) (by rw [get_behind]; rfl)).2 v' w4 _ _ ho2 hF (by simpa using hb4)
      rw [List.set_append_right _ _ (by omega), Nat.add_sub_cancel_left] at H6
      have H6 : St W w4 (R ++ rdL rb s' z' v' (l ++ [(c, (⟨a', c'⟩ : TS))])) := H6
      have H6 := hid H6
      clear ho hF hb4 hn4 ho2 H5
      go_wp2_with fail
      go_roundw
      case rel => exact ⟨k + 1, s', z', v', l ++ [(c, (⟨a', c'⟩ : TS))], by omega, rfl, by go_num, by rw [List.length_append, hlk.out]; rfl, HK.out, H6.out⟩
      case measure => simp [intOf]; omega
    · obtain rfl : k = n := by omega
      subst hlk
      rw [Nat.sub_self] at hInv
      have H7 : St W wr ((R ++ [RrT rb s z]) ++ rwT v l) := by rw [List.append_assoc]; exact H
      obtain ⟨a, cp, rfl, hCI⟩ := H7.rwIn hInv.2.2.2
      have hE := rencode_walk wr a l.length cp l hCI
      have hdn := Rdg.done hInv.2.2.1 (fun c hc => by obtain ⟨x, hx, rfl⟩ := List.mem_map.1 hc; exact hInv.2.2.2 x hx)
      rw [hD.out] at hdn
      obtain ⟨A, E, hAE⟩ : ∃ A E, encode (l.map (·.1)) = (A, E) := ⟨_, _, rfl⟩
      rw [hAE] at hE hdn
      have HB := hid hInv.2.2.2
      have hE := hid hE
      have HA := hid hAE
      clear hInv hCI H hAE
      by_cases hE0 : E = 0
      · subst hE0
        by_cases hAb : A = b
        · subst hAb
          rw [if_pos rfl] at hdn
          subst hdn
          have hss : (A.toList == A.toList) = true := by simp
          go_wp2_with fail
          refine hE.out.mono ?_
          rintro e w5 ⟨rfl, hF⟩
          have H8 : St W w5 (R ++ rwT (.slice a l.length cp) l) := by have h := H7.same hF; rw [List.append_assoc] at h; exact h.dropMid
          have H8 := hid H8
          clear hF H7
          go_wp2_with fail
          go_ret2
          exact ⟨_, l, rfl, rfl, H8.out, HB.out⟩
        · rw [if_neg (fun h => hAb (Prod.mk.inj h).1)] at hdn
          subst hdn
          have hss : (A.toList == b.toList) = false := by
            rw [beq_eq_false_iff_ne]
            intro h
            rw [ByteArray.toList_eq, ByteArray.toList_eq] at h
            exact hAb (bl_inj h)
          clear hAb
          go_wp2_with fail
          refine hE.out.mono ?_
          rintro e w5 ⟨rfl, hF⟩
          have H8 := hid (H7.same hF).drop.drop
          clear hF H7
          go_wp2_with fail
          go_ret2
          exact ⟨rfl, H8.out⟩
      · have hE1 : (E == 0) = false := by rw [beq_eq_false_iff_ne]; exact hE0
        have hE2 : (E != 0) = true := by simp [bne, hE1]
        rw [if_neg (fun h => hE0 (Prod.mk.inj h).2)] at hdn
        subst hdn
        clear hE0
        go_wp2_with fail
        refine hE.out.mono ?_
        rintro e w5 ⟨rfl, hF⟩
        have H8 := hid (H7.same hF).drop.drop
        clear hF H7
        go_wp2_with fail
        go_ret2
        exact ⟨rfl, H8.out⟩
end
end Go.Proofs.Ytdobbmlaokolmaa
