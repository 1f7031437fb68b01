/-
  Merged, in build order: Y1 Y2.
-/
import Derived.Test.YtmgnekjhlfghaaaGreatM34
import Derived.Test.YtmgnekjhlfghaaaGreatM18
import Derived.Test.YtmgnekjhlfghaaaGreatM14
import Derived.Test.YtmgnekjhlfghaaaGreatM16
/-
  gafferref02: the reader: wrong, number, Num, List.
-/
namespace Go.Proofs.YtmgnekjhlfghaaaGreat
open Go.RowKit
set_option linter.unusedVariables false
set_option linter.unusedSimpArgs false

def RrT (r : Nat) (s : RS) (z : Int) : Thing := BlkT r (.cells #[.string s.b, .int .i64 s.at_, .int .i64 s.e, .int .i64 z] 122)
/-- What is wrong behind a read. -/
def RS.hurt {α : Type} (s : RS) (x : Except Int (α × Nat)) : RS := if s.e = 0 then match x with | .ok _ => s | .error c => { s with e := c } else s
def RS.next {α : Type} (s : RS) (x : Except Int (α × Nat)) : Nat := if s.e = 0 then match x with | .ok (_, p) => p | .error _ => s.at_ else s.at_
theorem RS.hurt_next {α : Type} (s : RS) (x : Except Int (α × Nat)) : { s.hurt x with at_ := s.next x } = s.face x := by
  unfold RS.hurt RS.next RS.face
  by_cases h : s.e = 0
  · simp only [if_pos h]
    rcases x with c | ⟨n, p⟩ <;> rfl
  · simp only [if_neg h]
theorem RS.hurt_at {α : Type} (s : RS) (x : Except Int (α × Nat)) : (s.hurt x).at_ = s.at_ ∧ (s.hurt x).b = s.b := by
  unfold RS.hurt
  split
  · split <;> exact ⟨rfl, rfl⟩
  · exact ⟨rfl, rfl⟩

section
variable {W : Base} {w : World} {R : List Thing}

theorem St.rr (H : St W w R) (i : Nat) {r : Nat} {s : RS} {z : Int} (hi : R[i]? = some (RrT r s z)) : w.cell? ⟨r, 0, none⟩ = some (.string s.b) ∧ w.cell? ⟨r, 1, none⟩ = some (.int .i64 s.at_) ∧ w.cell? ⟨r, 2, none⟩ = some (.int .i64 s.e) ∧ (∀ j, w.frozen? ⟨r, j, none⟩ = false) ∧ r < w.heap.size := by
  have hb := H.blk i hi
  exact ⟨cell_blk hb rfl, cell_blk hb rfl, cell_blk hb rfl, fun j => free_blk hb, lt_of_block hb⟩
theorem St.setRr (H : St W w R) (i : Nat) {r : Nat} {s : RS} {z : Int} (hi : R[i]? = some (RrT r s z)) (n : Nat) : St W (w.setCell ⟨r, 1, none⟩ (.int .i64 n)) (R.set i (RrT r { s with at_ := n } z)) := H.setBlk i hi 1 (.int .i64 n)

set_option maxHeartbeats 400000 in
theorem st_rwrong (H : St W w R) (i : Nat) {r : Nat} {b : ByteArray} {p : Nat} {z : Int} (hi : R[i]? = some (RrT r ⟨b, p, 0⟩ z)) (c : Int) :
    Calls Tryz.prog 113 #[.pointer (some ⟨r, 0, none⟩), .int .i64 c] w fun e w' => e = .returned (.tuple #[]) ∧ St W w' (R.set i (RrT r ⟨b, p, c⟩ p)) := by
  obtain ⟨c0, c1, c2, f, hl⟩ := H.rr i hi
  have f2 := f 2
  have f3 := f 3
  have c3 : w.cell? ⟨r, 3, none⟩ = some (.int .i64 z) := cell_blk (H.blk i hi) rfl
  have H2 := H.setBlk i hi 2 (.int .i64 c)
  have H3 := hid (H2.setBlk i (List.getElem?_set_self (lt_of_get hi)) 3 (.int .i64 p))
  rw [List.set_set] at H3
  clear H H2 hi f
  go_enter Tryz.func113, Tryz.ntmps113
  go_wp2_with fail
  go_end0
  exact ⟨rfl, H3.out⟩

/-- What number tells. -/
def numV (s : RS) (x : Except Int (Nat × Nat)) : Value := .tuple #[.int .u64 (s.got 0 x : Nat), .int .i64 (s.next x)]

set_option maxHeartbeats 1600000 in
theorem st_rnumber (H : St W w R) (i : Nat) {r : Nat} {s : RS} {z : Int} (hi : R[i]? = some (RrT r s z)) (hw : s.wf) (most : Nat) (hm : most < 18446744073709551616) (over : Int) :
    Calls Tryz.prog 111 #[.pointer (some ⟨r, 0, none⟩), .int .u64 most, .int .i64 over] w fun e w' => e = .returned (numV s (rdMost s.b s.at_ most over)) ∧ ∃ z', St W w' (R.set i (RrT r (s.hurt (rdMost s.b s.at_ most over)) z')) := by
  obtain ⟨c0, c1, c2, _, hl⟩ := H.rr i hi
  have hil := lt_of_get hi
  have h1 := hw.le
  have h2 := hw.mx
  obtain ⟨b, p, e0⟩ := s
  simp only at c0 c1 c2 h1 h2
  unfold numV
  by_cases he : e0 = 0
  · subst he
    simp only [RS.got, RS.next, RS.hurt, if_pos]
    have hf := fun wx => rform_walk wx b p h1 h2
    rcases hX : rdN b p 10 0 0 with c | ⟨n, q⟩
    · have hx : rdMost b p most over = .error c := by unfold rdMost; rw [hX]
      simp only [hx]
      rw [hX] at hf
      simp only [formV] at hf
      have hc := rdN_err _ _ _ hX
      have hc1 : (c == 0) = false := by rw [beq_eq_false_iff_ne]; omega
      have hwr := hid (fun nn => st_rwrong (H.drewN nn) i hi c)
      have hHf := hid hf
      clear H hi hf hx hX hc
      go_enter Tryz.func111, Tryz.ntmps111
      go_wp2_with fail
      go_quiet ((go_at_call 142; exact quiet_mine (hHf.out _)))
      go_wp2_with fail
      refine (hwr.out _).mono ?_
      rintro e w1 ⟨rfl, H⟩
      obtain ⟨_, d1, _⟩ := H.rr i (List.getElem?_set_self hil)
      have HH := hid H
      clear H
      go_wp2_with fail
      go_quiet (fail)
      go_wp2_with fail
      go_ret2
      exact ⟨rfl, _, HH.out.drewN _⟩
    · rw [hX] at hf
      simp only [formV] at hf
      by_cases hmo : (most : Int) < n
      · have hx : rdMost b p most over = .error over := by unfold rdMost; rw [hX]; simp only [if_pos hmo]
        simp only [hx]
        have hwr := hid (fun nn => st_rwrong (H.drewN nn) i hi over)
        have hHf := hid hf
        clear H hi hf hx hX
        go_enter Tryz.func111, Tryz.ntmps111
        go_wp2_with fail
        go_quiet ((go_at_call 142; exact quiet_mine (hHf.out _)))
        go_wp2_with fail
        refine (hwr.out _).mono ?_
        rintro e w1 ⟨rfl, H⟩
        obtain ⟨_, d1, _⟩ := H.rr i (List.getElem?_set_self hil)
        have HH := hid H
        clear H
        go_wp2_with fail
        go_quiet (fail)
        go_wp2_with fail
        go_ret2
        exact ⟨rfl, _, HH.out.drewN _⟩
      · have hx : rdMost b p most over = .ok (n, q) := by unfold rdMost; rw [hX]; simp only [if_neg hmo]
        simp only [hx]
        have hHf := hid hf
        have HH := hid H
        have Hi := hid hi
        clear H hi hf hx hX
        go_enter Tryz.func111, Tryz.ntmps111
        go_wp2_with fail
        go_quiet ((go_at_call 142; exact quiet_mine (hHf.out _)))
        go_wp2_with fail
        go_ret2
        exact ⟨rfl, z, (HH.out.drewN _).set_self Hi.out⟩
  · simp only [RS.got, RS.next, RS.hurt, if_neg he]
    have he1 : (e0 == 0) = false := by rw [beq_eq_false_iff_ne]; exact he
    have HH := hid H
    have Hi := hid hi
    clear H hi he
    go_enter Tryz.func111, Tryz.ntmps111
    go_wp2_with fail
    go_quiet (fail)
    go_wp2_with fail
    go_ret2
    exact ⟨rfl, z, (HH.out.drewN _).set_self Hi.out⟩

set_option maxHeartbeats 1600000 in
theorem st_rNum (H : St W w R) (i : Nat) {r : Nat} {s : RS} {z : Int} (hi : R[i]? = some (RrT r s z)) (hw : s.wf) (most : Nat) (hm : most < 18446744073709551616) :
    Calls Tryz.prog 56 #[.pointer (some ⟨r, 0, none⟩), .int .u64 most] w fun e w' => e = .returned (.int .u64 (s.got 0 (rdMost s.b s.at_ most 21) : Nat)) ∧ ∃ z', St W w' (R.set i (RrT r (s.face (rdMost s.b s.at_ most 21)) z')) := by
  have hc := hid (st_rnumber H i hi hw most hm 21)
  have hil := lt_of_get hi
  generalize rdMost s.b s.at_ most 21 = X at hc ⊢
  clear H hi
  go_enter Tryz.func56, Tryz.ntmps56
  go_wp2_with fail
  refine hc.out.mono ?_
  rintro e w1 ⟨rfl, z', H⟩
  obtain ⟨_, c1, _, f, _⟩ := H.rr i (List.getElem?_set_self hil)
  have f1 := f 1
  have H2 := H.setRr i (List.getElem?_set_self hil) (s.next X)
  rw [List.set_set, s.hurt_next X] at H2
  have H2 := hid H2
  clear H f
  simp only [numV]
  go_wp2_with fail
  go_ret
  exact ⟨rfl, z', H2.out⟩

set_option maxHeartbeats 1600000 in
theorem st_rList (H : St W w R) (i : Nat) {r : Nat} {s : RS} {z : Int} (hi : R[i]? = some (RrT r s z)) (hw : s.wf) (m : Nat) (hm : m ≤ 9223372036854775807) :
    Calls Tryz.prog 114 #[.pointer (some ⟨r, 0, none⟩), .int .i64 m] w fun e w' => e = .returned (.int .i64 (s.got 0 (rdMost s.b s.at_ m 23) : Nat)) ∧ ∃ z', St W w' (R.set i (RrT r (s.face (rdMost s.b s.at_ m 23)) z')) := by
  have hc := hid (st_rnumber H i hi hw m (by omega) 23)
  have hil := lt_of_get hi
  have hg : (s.got 0 (rdMost s.b s.at_ m 23) : Nat) ≤ m := by
    unfold RS.got
    split
    · split
      · next n p h => have := rdMost_le h; omega
      · omega
    · omega
  generalize rdMost s.b s.at_ m 23 = X at hc hg ⊢
  clear H hi
  go_enter Tryz.func114, Tryz.ntmps114
  go_wp2_with fail
  refine hc.out.mono ?_
  rintro e w1 ⟨rfl, z', H⟩
  obtain ⟨_, c1, _, f, _⟩ := H.rr i (List.getElem?_set_self hil)
  have f1 := f 1
  have H2 := H.setRr i (List.getElem?_set_self hil) (s.next X)
  rw [List.set_set, s.hurt_next X] at H2
  have H2 := hid H2
  clear H f
  simp only [numV]
  go_wp2_with fail
  go_ret
  exact ⟨rfl, z', H2.out⟩
end
end Go.Proofs.YtmgnekjhlfghaaaGreat

/-
  gafferref02: the reader: Text, Bits.
-/
namespace Go.Proofs.YtmgnekjhlfghaaaGreat
open Go.RowKit
set_option linter.unusedVariables false
set_option linter.unusedSimpArgs false

section
variable {W : Base} {w : World} {R : List Thing}

set_option maxHeartbeats 1600000 in
theorem st_rText (H : St W w R) (i : Nat) {r : Nat} {s : RS} {z : Int} (hi : R[i]? = some (RrT r s z)) (hw : s.wf) (m : Nat) (hm : m ≤ 9223372036854775807) :
    Calls Tryz.prog 58 #[.pointer (some ⟨r, 0, none⟩), .int .i64 m] w fun e w' => e = .returned (.string (s.got ⟨#[]⟩ (rdText s.b s.at_ m))) ∧ ∃ z', St W w' (R.set i (RrT r (s.face (rdText s.b s.at_ m)) z')) := by
  have hc := hid (st_rnumber H i hi hw m (by omega) 23)
  have hil := lt_of_get hi
  have h1 := hw.le
  have h2 := hw.mx
  obtain ⟨b, p, e0⟩ := s
  have hmx : max 0 (m : Int) = m := by omega
  unfold rdText
  simp only [hmx] at hc h1 h2 ⊢
  by_cases he : e0 = 0
  · subst he
    rcases hX : rdMost b p m 23 with c | ⟨n, q⟩
    · simp only [hX, numV, RS.got, RS.next, RS.hurt, RS.face, if_pos] at hc ⊢
      have hce := rdMost_err hX
      have hc1 : (c == 0) = false := by rw [beq_eq_false_iff_ne]; omega
      clear H hi hX hce
      go_enter Tryz.func58, Tryz.ntmps58
      go_wp2_with fail
      refine hc.out.mono ?_
      rintro e w1 ⟨rfl, z', H⟩
      obtain ⟨c0, c1, c2, f, _⟩ := H.rr i (List.getElem?_set_self hil)
      simp only at c0 c1 c2
      have HH := hid H
      clear H f
      go_wp2_with fail
      go_ret
      exact ⟨rfl, _, HH.out⟩
    · have hn := rdMost_le hX
      have hq := rdMost_p hX
      simp only [hX, numV, RS.got, RS.next, RS.hurt, RS.face, if_pos] at hc ⊢
      by_cases hfit : q + n ≤ b.size
      · simp only [if_pos hfit]
        clear H hi hX
        go_enter Tryz.func58, Tryz.ntmps58
        go_wp2_with fail
        refine hc.out.mono ?_
        rintro e w1 ⟨rfl, z', H⟩
        obtain ⟨c0, c1, c2, f, _⟩ := H.rr i (List.getElem?_set_self hil)
        simp only at c0 c1 c2
        have f1 := f 1
        have H2 := H.setRr i (List.getElem?_set_self hil) (q + n)
        rw [List.set_set] at H2
        obtain ⟨d0, d1, d2, _, _⟩ := H2.rr i (List.getElem?_set_self hil)
        have e1 : ((q + n : Nat) : Int) = (q : Int) + n := by omega
        simp only [e1] at H2 d0 d1 d2
        have HH := hid H2
        clear H f H2
        go_wp2_with fail
        go_quiet (fail)
        go_wp2_with fail
        go_ret
        exact ⟨rfl, _, HH.out.drewN _⟩
      · simp only [if_neg hfit]
        clear H hi hX
        go_enter Tryz.func58, Tryz.ntmps58
        go_wp2_with fail
        refine hc.out.mono ?_
        rintro e w1 ⟨rfl, z', H⟩
        obtain ⟨c0, c1, c2, f, _⟩ := H.rr i (List.getElem?_set_self hil)
        simp only at c0 c1 c2
        have hwr := hid (st_rwrong H i (List.getElem?_set_self hil) 20)
        clear H f
        go_wp2_with fail
        refine hwr.out.mono ?_
        rintro e w2 ⟨rfl, H⟩
        rw [List.set_set] at H
        obtain ⟨c0, c1, c2, f, _⟩ := H.rr i (List.getElem?_set_self hil)
        simp only at c0 c1 c2
        have HH := hid H
        clear H f
        go_wp2_with fail
        go_ret
        exact ⟨rfl, _, HH.out⟩
  · simp only [numV, RS.got, RS.next, RS.hurt, RS.face, if_neg he] at hc ⊢
    have he1 : (e0 == 0) = false := by rw [beq_eq_false_iff_ne]; exact he
    clear H hi he
    go_enter Tryz.func58, Tryz.ntmps58
    go_wp2_with fail
    refine hc.out.mono ?_
    rintro e w1 ⟨rfl, z', H⟩
    obtain ⟨c0, c1, c2, f, _⟩ := H.rr i (List.getElem?_set_self hil)
    simp only at c0 c1 c2
    have HH := hid H
    clear H f
    go_wp2_with fail
    go_ret
    exact ⟨rfl, _, HH.out⟩

set_option maxHeartbeats 1600000 in
set_option maxRecDepth 100000 in
theorem st_rBits (H : St W w R) (i : Nat) {r : Nat} {s : RS} {z : Int} (hi : R[i]? = some (RrT r s z)) (hw : s.wf) :
    Calls Tryz.prog 112 #[.pointer (some ⟨r, 0, none⟩)] w fun e w' => e = .returned (.int .u64 (s.got 0 (rdBits s.b s.at_) : Nat)) ∧ ∃ z', St W w' (R.set i (RrT r (s.face (rdBits s.b s.at_)) z')) := by
  have hil := lt_of_get hi
  have h1 := hw.le
  have h2 := hw.mx
  obtain ⟨b, p, e0⟩ := s
  simp only at h1 h2
  unfold rdBits
  obtain ⟨c0, c1, c2, f, hl⟩ := H.rr i hi
  simp only at c0 c1 c2
  have hsub : IntKind.i64.wrap ((b.size : Int) - p) = (b.size : Int) - p := IntWalk.i64_in _ (by omega)
  by_cases he : e0 = 0
  · subst he
    simp only [RS.got, RS.face, if_pos]
    by_cases hfit : p + 8 ≤ b.size
    · simp only [if_pos hfit]
      have f1 := f 1
      have HH := hid H
      have hi := hid hi
      have hno : ¬ (b.size : Int) - p < 8 := by omega
      clear H f
      go_enter Tryz.func112, Tryz.ntmps112
      go_wp2_with fail
      go_quiet (fail)
      clear hsub hno
      go_wp2_with fail
      obtain ⟨w0, hw0⟩ : ∃ w0, w.drewN nq = w0 := ⟨_, rfl⟩
      have HH := hid (show St W w0 R by rw [← hw0]; exact HH.out.drewN _)
      rw [hw0]
      clear hw0 c0 c1 c2 hl f1
      go_loopw [3, 4] (fun nv iv wr => ∃ k, k ≤ 8 ∧ iv = .int .i64 (k : Nat) ∧ nv = .int .u64 (beN b p k) ∧ St W wr R) (fun _ iv _ => 8 - (intOf iv).toNat)
      case atStart => exact ⟨0, by omega, rfl, rfl, HH.out⟩
      case round =>
        obtain ⟨k, hk, rfl, rfl, H⟩ := hrel
        obtain ⟨c0, c1, c2, f, hl⟩ := H.rr i hi.out
        simp only at c0 c1 c2
        have f1 := f 1
        by_cases hlt : k < 8
        · have hb := bat_at b (p + k) (by omega)
          have hc8 := bAt_lt b (p + k)
          have hN8 := beN_lt b p k
          have hn := hid (show beN b p (k + 1) = beN b p k * 256 + bAt b (p + k) from rfl)
          generalize hcb : bAt b (p + k) = c at hb hc8 hn
          have hcb := hid hcb
          generalize beN b p k = N at hN8 hn
          have hN9 : N * 256 + c < 18446744073709551616 := by
            have h1 : (256 : Nat) ^ k ≤ 256 ^ 7 := Nat.pow_le_pow_right (by omega) (by omega)
            have : (256 : Nat) ^ 7 = 72057594037927936 := rfl
            omega
          have hsl := hid (bits_slot N c hN9 hc8)
          have hN7 : N * 256 < 18446744073709551616 := by omega
          have h5 : (p : Int) + k < b.size := by omega
          have h6 : 0 ≤ (p : Int) + k := by omega
          have h8 : ((p : Int) + k).toNat = p + k := by omega
          have h7 : IntKind.i64.wrap ((p : Int) + k) = (p : Int) + k := IntWalk.i64_in _ (by omega)
          have hn := hid hn
          have H := hid H
          clear hN8 hN9
          go_wp2_with fail
          go_quiet (fail)
          clear h7 h8
          go_wp2_with fail
          have e2 := hsl.out
          rw [show (N : Int) * 256 = ((N * 256 : Nat) : Int) by push_cast; rfl, u64_nat _ hN7] at e2
          refine ⟨⟨k + 1, by omega, by go_num, ?_, H.out.drewN _⟩, by simp [intOf]; omega⟩
          rw [hn.out, ← e2, show (N : Int) * 256 = ((N * 256 : Nat) : Int) by push_cast; rfl]
        · have hk8 : k = 8 := by omega
          subst hk8
          have H2 := H.setRr i hi.out (p + 8)
          have e1 : ((p + 8 : Nat) : Int) = (p : Int) + 8 := by omega
          simp only [e1] at H2
          have H2 := hid H2
          clear H f
          go_wp2_with fail
          go_ret
          exact ⟨rfl, _, H2.out⟩
    · simp only [if_neg hfit]
      have hno : (b.size : Int) - p < 8 := by omega
      have hwr := hid (fun nn => st_rwrong (H.drewN nn) i hi 20)
      clear H f
      go_enter Tryz.func112, Tryz.ntmps112
      go_wp2_with fail
      go_quiet (fail)
      clear hsub hno
      go_wp2_with fail
      refine (hwr.out _).mono ?_
      rintro e w2 ⟨rfl, H⟩
      obtain ⟨d0, d1, d2, f, _⟩ := H.rr i (List.getElem?_set_self hil)
      simp only at d0 d1 d2
      have HH := hid H
      clear H f
      go_wp2_with fail
      go_ret
      exact ⟨rfl, _, HH.out⟩
  · simp only [RS.got, RS.face, if_neg he]
    have he1 : (e0 == 0) = false := by rw [beq_eq_false_iff_ne]; exact he
    have HH := hid H
    have hi := hid hi
    clear H he f
    go_enter Tryz.func112, Tryz.ntmps112
    go_wp2_with fail
    go_quiet (fail)
    go_wp2_with fail
    go_ret
    exact ⟨rfl, _, (HH.out.drewN _).set_self hi.out⟩
end
end Go.Proofs.YtmgnekjhlfghaaaGreat
