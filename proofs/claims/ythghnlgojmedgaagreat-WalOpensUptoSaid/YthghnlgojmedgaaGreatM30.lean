/-
  Merged, in build order: Y1 Y2.
-/
import Derived.Test.YthghnlgojmedgaaGreatM29
import Derived.Test.YthghnlgojmedgaaGreatM13
import Derived.Test.YthghnlgojmedgaaGreatM11
/-
  gafferref02: the reader: wrong, number, Num, List.
-/
namespace Go.Proofs.YthghnlgojmedgaaGreat
open Go.RowKit
set_option linter.unusedVariables false
set_option linter.unusedSimpArgs false

def RrT (r : Nat) (s : RS) (z : Int) : Thing := BlkT r (.cells #[.string s.b, .int .i64 s.at_, .int .i64 s.e, .int .i64 z] 131)
/-- What is wrong behind a read. -/
def RS.hurt {α : Type} (s : RS) (x : Except Int (α × Nat)) : RS := if s.e = 0 then match x with | .ok _ => s | .error c => { s with e := c } else s
def RS.next {α : Type} (s : RS) (x : Except Int (α × Nat)) : Nat := if s.e = 0 then match x with | .ok (_, p) => p | .error _ => s.at_ else s.at_
theorem RS.hurt_next {α : Type} (s : RS) (x : Except Int (α × Nat)) : { s.hurt x with at_ := s.next x } = s.face x := by
  unfold RS.hurt RS.next RS.face
  by_cases h : s.e = 0
  · simp only [if_pos h]
    rcases x with c | ⟨n, p⟩ <;> rfl
  · simp only [if_neg h]
theorem RS.hurt_at {α : Type} (s : RS) (x : Except Int (α × Nat)) : (s.hurt x).at_ = s.at_ ∧ (s.hurt x).b = s.b := by
  unfold RS.hurt
  split
  · split <;> exact ⟨rfl, rfl⟩
  · exact ⟨rfl, rfl⟩

section
variable {W : Base} {w : World} {R : List Thing}

theorem St.rr (H : St W w R) (i : Nat) {r : Nat} {s : RS} {z : Int} (hi : R[i]? = some (RrT r s z)) : w.cell? ⟨r, 0, none⟩ = some (.string s.b) ∧ w.cell? ⟨r, 1, none⟩ = some (.int .i64 s.at_) ∧ w.cell? ⟨r, 2, none⟩ = some (.int .i64 s.e) ∧ (∀ j, w.frozen? ⟨r, j, none⟩ = false) ∧ r < w.heap.size := by
  have hb := H.blk i hi
  exact ⟨cell_blk hb rfl, cell_blk hb rfl, cell_blk hb rfl, fun j => free_blk hb, lt_of_block hb⟩
theorem St.setRr (H : St W w R) (i : Nat) {r : Nat} {s : RS} {z : Int} (hi : R[i]? = some (RrT r s z)) (n : Nat) : St W (w.setCell ⟨r, 1, none⟩ (.int .i64 n)) (R.set i (RrT r { s with at_ := n } z)) := H.setBlk i hi 1 (.int .i64 n)

set_option maxHeartbeats 400000 in
theorem st_rwrong (H : St W w R) (i : Nat) {r : Nat} {b : ByteArray} {p : Nat} {z : Int} (hi : R[i]? = some (RrT r ⟨b, p, 0⟩ z)) (c : Int) :
    Calls Tryz.prog 98 #[.pointer (some ⟨r, 0, none⟩), .int .i64 c] w fun e w' => e = .returned (.tuple #[]) ∧ St W w' (R.set i (RrT r ⟨b, p, c⟩ p)) := by
  obtain ⟨c0, c1, c2, f, hl⟩ := H.rr i hi
  have f2 := f 2
  have f3 := f 3
  have c3 : w.cell? ⟨r, 3, none⟩ = some (.int .i64 z) := cell_blk (H.blk i hi) rfl
  have H2 := H.setBlk i hi 2 (.int .i64 c)
  have H3 := hid (H2.setBlk i (List.getElem?_set_self (lt_of_get hi)) 3 (.int .i64 p))
  rw [List.set_set] at H3
  clear H H2 hi f
  go_enter Tryz.func98, Tryz.ntmps98
  go_wp2_with fail
  go_end0
  exact ⟨rfl, H3.out⟩

/-- What number tells. -/
def numV (s : RS) (x : Except Int (Nat × Nat)) : Value := .tuple #[.int .u64 (s.got 0 x : Nat), .int .i64 (s.next x)]

set_option maxHeartbeats 1600000 in
theorem st_rnumber (H : St W w R) (i : Nat) {r : Nat} {s : RS} {z : Int} (hi : R[i]? = some (RrT r s z)) (hw : s.wf) (most : Nat) (hm : most < 18446744073709551616) (over : Int) :
    Calls Tryz.prog 97 #[.pointer (some ⟨r, 0, none⟩), .int .u64 most, .int .i64 over] w fun e w' => e = .returned (numV s (rdMost s.b s.at_ most over)) ∧ ∃ z', St W w' (R.set i (RrT r (s.hurt (rdMost s.b s.at_ most over)) z')) := by
  obtain ⟨c0, c1, c2, _, hl⟩ := H.rr i hi
  have hil := lt_of_get hi
  have h1 := hw.le
  have h2 := hw.mx
  obtain ⟨b, p, e0⟩ := s
  simp only at c0 c1 c2 h1 h2
  unfold numV
  by_cases he : e0 = 0
  · subst he
    simp only [RS.got, RS.next, RS.hurt, if_pos]
    have hf := fun wx => rform_walk wx b p h1 h2
    rcases hX : rdN b p 10 0 0 with c | ⟨n, q⟩
    · have hx : rdMost b p most over = .error c := by unfold rdMost; rw [hX]
      simp only [hx]
      rw [hX] at hf
      simp only [formV] at hf
      have hc := rdN_err _ _ _ hX
      have hc1 : (c == 0) = false := by rw [beq_eq_false_iff_ne]; omega
      have hwr := hid (fun nn => st_rwrong (H.drewN nn) i hi c)
      have hHf := hid hf
      clear H hi hf hx hX hc
      go_enter Tryz.func97, Tryz.ntmps97
      go_wp2_with fail
      go_quiet ((go_at_call 104; exact quiet_mine (hHf.out _)))
      go_wp2_with fail
      refine (hwr.out _).mono ?_
      rintro e w1 ⟨rfl, H⟩
      obtain ⟨_, d1, _⟩ := H.rr i (List.getElem?_set_self hil)
      have HH := hid H
      clear H
      go_wp2_with fail
      go_quiet (fail)
      go_wp2_with fail
      go_ret2
      exact ⟨rfl, _, HH.out.drewN _⟩
    · rw [hX] at hf
      simp only [formV] at hf
      by_cases hmo : (most : Int) < n
      · have hx : rdMost b p most over = .error over := by unfold rdMost; rw [hX]; simp only [if_pos hmo]
        simp only [hx]
        have hwr := hid (fun nn => st_rwrong (H.drewN nn) i hi over)
        have hHf := hid hf
        clear H hi hf hx hX
        go_enter Tryz.func97, Tryz.ntmps97
        go_wp2_with fail
        go_quiet ((go_at_call 104; exact quiet_mine (hHf.out _)))
        go_wp2_with fail
        refine (hwr.out _).mono ?_
        rintro e w1 ⟨rfl, H⟩
        obtain ⟨_, d1, _⟩ := H.rr i (List.getElem?_set_self hil)
        have HH := hid H
        clear H
        go_wp2_with fail
        go_quiet (fail)
        go_wp2_with fail
        go_ret2
        exact ⟨rfl, _, HH.out.drewN _⟩
      · have hx : rdMost b p most over = .ok (n, q) := by unfold rdMost; rw [hX]; simp only [if_neg hmo]
        simp only [hx]
        have hHf := hid hf
        have HH := hid H
        have Hi := hid hi
        clear H hi hf hx hX
        go_enter Tryz.func97, Tryz.ntmps97
        go_wp2_with fail
        go_quiet ((go_at_call 104; exact quiet_mine (hHf.out _)))
        go_wp2_with fail
        go_ret2
        exact ⟨rfl, z, (HH.out.drewN _).set_self Hi.out⟩
  · simp only [RS.got, RS.next, RS.hurt, if_neg he]
    have he1 : (e0 == 0) = false := by rw [beq_eq_false_iff_ne]; exact he
    have HH := hid H
    have Hi := hid hi
    clear H hi he
    go_enter Tryz.func97, Tryz.ntmps97
    go_wp2_with fail
    go_quiet (fail)
    go_wp2_with fail
    go_ret2
    exact ⟨rfl, z, (HH.out.drewN _).set_self Hi.out⟩

end
end Go.Proofs.YthghnlgojmedgaaGreat

/-
  gafferref02: the reader: Text, Bits.
-/
namespace Go.Proofs.YthghnlgojmedgaaGreat
open Go.RowKit
set_option linter.unusedVariables false
set_option linter.unusedSimpArgs false

section
variable {W : Base} {w : World} {R : List Thing}

set_option maxHeartbeats 1600000 in
theorem st_rText (H : St W w R) (i : Nat) {r : Nat} {s : RS} {z : Int} (hi : R[i]? = some (RrT r s z)) (hw : s.wf) (m : Nat) (hm : m ≤ 9223372036854775807) :
    Calls Tryz.prog 85 #[.pointer (some ⟨r, 0, none⟩), .int .i64 m] w fun e w' => e = .returned (.string (s.got ⟨#[]⟩ (rdText s.b s.at_ m))) ∧ ∃ z', St W w' (R.set i (RrT r (s.face (rdText s.b s.at_ m)) z')) := by
  have hc := hid (st_rnumber H i hi hw m (by omega) 23)
  have hil := lt_of_get hi
  have h1 := hw.le
  have h2 := hw.mx
  obtain ⟨b, p, e0⟩ := s
  have hmx : max 0 (m : Int) = m := by omega
  unfold rdText
  simp only [hmx] at hc h1 h2 ⊢
  by_cases he : e0 = 0
  · subst he
    rcases hX : rdMost b p m 23 with c | ⟨n, q⟩
    · simp only [hX, numV, RS.got, RS.next, RS.hurt, RS.face, if_pos] at hc ⊢
      have hce := rdMost_err hX
      have hc1 : (c == 0) = false := by rw [beq_eq_false_iff_ne]; omega
      clear H hi hX hce
      go_enter Tryz.func85, Tryz.ntmps85
      go_wp2_with fail
      refine hc.out.mono ?_
      rintro e w1 ⟨rfl, z', H⟩
      obtain ⟨c0, c1, c2, f, _⟩ := H.rr i (List.getElem?_set_self hil)
      simp only at c0 c1 c2
      have HH := hid H
      clear H f
      go_wp2_with fail
      go_ret
      exact ⟨rfl, _, HH.out⟩
    · have hn := rdMost_le hX
      have hq := rdMost_p hX
      simp only [hX, numV, RS.got, RS.next, RS.hurt, RS.face, if_pos] at hc ⊢
      by_cases hfit : q + n ≤ b.size
      · simp only [if_pos hfit]
        clear H hi hX
        go_enter Tryz.func85, Tryz.ntmps85
        go_wp2_with fail
        refine hc.out.mono ?_
        rintro e w1 ⟨rfl, z', H⟩
        obtain ⟨c0, c1, c2, f, _⟩ := H.rr i (List.getElem?_set_self hil)
        simp only at c0 c1 c2
        have f1 := f 1
        have H2 := H.setRr i (List.getElem?_set_self hil) (q + n)
        rw [List.set_set] at H2
        obtain ⟨d0, d1, d2, _, _⟩ := H2.rr i (List.getElem?_set_self hil)
        have e1 : ((q + n : Nat) : Int) = (q : Int) + n := by omega
        simp only [e1] at H2 d0 d1 d2
        have HH := hid H2
        clear H f H2
        go_wp2_with fail
        go_quiet (fail)
        go_wp2_with fail
        go_ret
        exact ⟨rfl, _, HH.out.drewN _⟩
      · simp only [if_neg hfit]
        clear H hi hX
        go_enter Tryz.func85, Tryz.ntmps85
        go_wp2_with fail
        refine hc.out.mono ?_
        rintro e w1 ⟨rfl, z', H⟩
        obtain ⟨c0, c1, c2, f, _⟩ := H.rr i (List.getElem?_set_self hil)
        simp only at c0 c1 c2
        have hwr := hid (st_rwrong H i (List.getElem?_set_self hil) 20)
        clear H f
        go_wp2_with fail
        refine hwr.out.mono ?_
        rintro e w2 ⟨rfl, H⟩
        rw [List.set_set] at H
        obtain ⟨c0, c1, c2, f, _⟩ := H.rr i (List.getElem?_set_self hil)
        simp only at c0 c1 c2
        have HH := hid H
        clear H f
        go_wp2_with fail
        go_ret
        exact ⟨rfl, _, HH.out⟩
  · simp only [numV, RS.got, RS.next, RS.hurt, RS.face, if_neg he] at hc ⊢
    have he1 : (e0 == 0) = false := by rw [beq_eq_false_iff_ne]; exact he
    clear H hi he
    go_enter Tryz.func85, Tryz.ntmps85
    go_wp2_with fail
    refine hc.out.mono ?_
    rintro e w1 ⟨rfl, z', H⟩
    obtain ⟨c0, c1, c2, f, _⟩ := H.rr i (List.getElem?_set_self hil)
    simp only at c0 c1 c2
    have HH := hid H
    clear H f
    go_wp2_with fail
    go_ret
    exact ⟨rfl, _, HH.out⟩

end
end Go.Proofs.YthghnlgojmedgaaGreat
