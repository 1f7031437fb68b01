/-
  Merged, in build order: Pk9 PkE PkL R0 Lex.
-/
import Derived.Lib.ConvBytes
import Derived.Lib.AtoiErrMem
import Derived.Test.YtmgnekjhlfghaaaM13
import Derived.Test.YtmgnekjhlfghaaaM3
import Derived.Test.YtmgnekjhlfghaaaM5
import Derived.Test.YtmgnekjhlfghaaaM6
/-
  pack.Reader: Bits.
-/
namespace Go.Proofs.Ytmgnekjhlfghaaa
open Go.RowKit
set_option linter.unusedVariables false
set_option linter.unusedSimpArgs false

/-- Bytes as a number, the greatest first. -/
def beN (b : ByteArray) (p : Nat) : Nat → Nat
  | 0 => 0
  | k + 1 => beN b p k * 256 + bAt b (p + k)
/-- 64 bits, read. -/
def rdBits (b : ByteArray) (at_ : Nat) : Except Int (Nat × Nat) :=
  if at_ + 8 ≤ b.size then .ok (beN b at_ 8, at_ + 8) else .error 20
theorem beN_lt (b : ByteArray) (p k : Nat) : beN b p k < 256 ^ k := by
  induction k with
  | zero => simp [beN]
  | succ k ih =>
    have := bAt_lt b (p + k)
    rw [beN, Nat.pow_succ]
    omega

set_option maxRecDepth 100000 in
theorem bits_slot (N c : Nat) (hN : N * 256 + c < 18446744073709551616) (hc : c < 256) : bits .or .u64 (IntKind.u64.wrap ((N : Int) * 256)) (c : Int) = ((N * 256 + c : Nat) : Int) := by
  have e1 : (N : Int) * 256 = ((N * 256 : Nat) : Int) := by push_cast; rfl
  rw [e1, u64_nat _ (by omega)]
  rw [bits_join .u64 64 (by decide) wraps_u64 8 _ _ (by omega) (by omega) (by omega) (by omega) (by omega) (by omega)]
  push_cast; rfl

section
variable {W : Base} {w : World} {R : List Thing}

set_option maxHeartbeats 1600000 in
theorem st_bits1 (H : St W w R) (i : Nat) {r : Nat} {s : RS} (hi : R[i]? = some (RdT r s)) (hw : s.wf) {j pb : Nat}
    (hj : R[j]? = some (BlkT pb (.cells #[Value.pointer (some ⟨r, 0, none⟩)] 99))) :
    Calls Try.prog 93 #[.pointer (some ⟨pb, 0, none⟩)] w (ReadTo (fun n : Nat => Value.int .u64 n) W R i r s (rdBits s.b s.at_)) := by
  have p0 : w.cell? ⟨pb, 0, none⟩ = some (.pointer (some ⟨r, 0, none⟩)) := cell_blk (H.blk j hj) rfl
  have hil := lt_of_get hi
  unfold rdBits
  by_cases hfit : s.at_ + 8 ≤ s.b.size
  · rw [if_pos hfit]
    go_enter Try.func93, Try.ntmps93
    go_wp2_with fail
    refine (st_take H i hi hw 8 (by omega) hfit).mono ?_
    clear H
    rintro e w1 ⟨rfl, H⟩
    have hsz : (s.b.extract s.at_ (s.at_ + 8)).size = 8 := by rw [ByteArray.size_extract]; omega
    have hbt : ∀ j, j < 8 → ((s.b.extract s.at_ (s.at_ + 8)).data.toList.getD j 0).toNat = bAt s.b (s.at_ + j) := fun j hj => by
      have h : j < (s.b.extract s.at_ (s.at_ + 8)).size := by omega
      have e := ByteArray.getElem_extract (i := j) (b := s.b) (start := s.at_) (stop := s.at_ + 8) h
      unfold bAt
      rw [List.getD_eq_getElem?_getD, List.getElem?_eq_getElem (show j < (s.b.extract s.at_ (s.at_ + 8)).data.toList.length from h), List.getD_eq_getElem?_getD, List.getElem?_eq_getElem (show s.at_ + j < s.b.data.toList.length by show s.at_ + j < s.b.size; omega)]
      exact congrArg UInt8.toNat e
    generalize s.b.extract s.at_ (s.at_ + 8) = t at hsz hbt ⊢
    have hcv := Lib.run_convert_string_bytes (P := Try.prog) w1 9 71 5 t Try.underlying9 Try.underlying71 Try.underlying5
    have hbt := hid hbt
    go_wp2_with fail
    have hcell : ∀ j, j < 8 → (Lib.bytesWorld w1 5 t).cell? ⟨w1.heap.size, j, none⟩ = some (.int .u8 (bAt s.b (s.at_ + j))) := fun j hj => by
      rw [Lib.bytesWorld_cell _ _ _ _ (by omega), hbt.out j hj]
    have HB := hid (H.same (Fr.of_below (Lib.bytesWorld_below w1 5 t) []))
    clear H hcv
    generalize Lib.bytesWorld w1 5 t = wB at hcell HB ⊢
    generalize grownCap w1 8 0 5 = cp
    generalize w1.heap.size = g at hcell ⊢
    go_loopw [2, 9] (fun nv iv wr => ∃ k, k ≤ 8 ∧ iv = .int .i64 (k : Nat) ∧ nv = .int .u64 (beN s.b s.at_ k) ∧ wr = wB) (fun _ iv _ => 8 - (intOf iv).toNat)
    case atStart => exact ⟨0, by omega, rfl, rfl, rfl⟩
    case round =>
      obtain ⟨k, hk, rfl, rfl, rfl⟩ := hrel
      by_cases hlt : k < 8
      · have hc := hcell k hlt
        have hc8 := bAt_lt s.b (s.at_ + k)
        have hN8 := beN_lt s.b s.at_ k
        have hn := hid (show beN s.b s.at_ (k + 1) = beN s.b s.at_ k * 256 + bAt s.b (s.at_ + k) from rfl)
        generalize hcb : bAt s.b (s.at_ + k) = c at hc hc8 hn
        have hcb := hid hcb
        generalize beN s.b s.at_ k = N at hN8 hn
        have hN9 : N * 256 + c < 18446744073709551616 := by
          have h1 : (256 : Nat) ^ k ≤ 256 ^ 7 := Nat.pow_le_pow_right (by omega) (by omega)
          have : (256 : Nat) ^ 7 = 72057594037927936 := rfl
          omega
        have hsl := hid (bits_slot N c hN9 hc8)
        clear hN8 hN9
        go_wp2_with fail
        refine ⟨⟨k + 1, by omega, rfl, ?_, trivial⟩, ?_⟩
        · rw [hn.out, ← hsl.out]
        · show 8 - ((k : Int) + 1).toNat < 8 - (k : Int).toNat
          omega
      · have hk8 : k = 8 := by omega
        subst hk8
        go_wp2_with fail
        go_ret
        exact ⟨rfl, HB.out⟩
  · rw [if_neg hfit]
    go_enter Try.func93, Try.ntmps93
    go_wp2_with fail
    refine (st_take_no H i hi hw 8 (by omega) (show s.b.size < s.at_ + 8 by omega)).mono ?_
    clear H
    rintro e w1 ⟨rfl, H⟩
    go_wp2_with fail
    exact ⟨rfl, rfl, s.at_, hw.le, by rw [things_set_self hi]; exact H⟩

theorem enter_bits1 (args : Array Value) (w : World) : (callFunc 93 args).run Try.prog w = .ok (.enter 93 args) w := run_enter Try.func93 (by kernel_rfl) rfl args w

theorem st_Bits (H : St W w R) (i : Nat) {r : Nat} {s : RS} (hi : R[i]? = some (RdT r s)) (hw : s.wf) :
    Calls Try.prog 73 #[.pointer (some ⟨r, 0, none⟩)] w fun e w' => e = .returned (.int .u64 (s.got 0 (rdBits s.b s.at_) : Nat)) ∧ St W w' (R.set i (RdT r (s.face (rdBits s.b s.at_)))) := by
  have hmf : ∀ (fn : Fn) (first cap : Array Value) (w : World), (Instr.makeFunc fn first cap).run Try.prog w = .ok (.func fn first cap) w := fun _ _ _ _ => rfl
  generalize hX : rdBits s.b s.at_ = X
  generalize hs : s.face X = s'
  generalize hg : s.got 0 X = g
  have hX := hid hX
  have hs := hid hs
  have hg := hid hg
  have hil := lt_of_get hi
  have H := hid H
  go_enter Try.func73, Try.ntmps73
  go_wp2_with fail
  have H2 := H.out.alloc (.cells #[Value.pointer (some ⟨r, 0, none⟩)] 99)
  refine (st_face_u (X := X) H2 i (by rw [List.getElem?_append_left hil]; exact hi) (enter_bits1 _) ?_).mono ?_
  · intro T w' H3
    rw [← hX.out]
    refine st_bits1 H3 i ?_ hw (j := R.length + 0) ?_
    · rw [List.append_assoc, List.getElem?_append_left hil]; exact hi
    · rw [List.append_assoc, get_behind]; rfl
  rintro e w1 ⟨rfl, H4⟩
  rw [hg.out, hs.out, List.set_append_left _ _ hil] at *
  have H4 := hid H4.drop
  go_wp2_with fail
  go_ret
  exact ⟨rfl, H4.out⟩

end
end Go.Proofs.Ytmgnekjhlfghaaa

/-
  What pack's readers may come to: places, faults. Of no program.
-/
namespace Go.Proofs.Ytmgnekjhlfghaaa
open Go.RowKit
set_option linter.unusedVariables false
set_option linter.unusedSimpArgs false

theorem rdN_err {b : ByteArray} {at_ : Nat} : ∀ (k i n : Nat) {c : Int}, rdN b at_ k i n = .error c → c = 20 ∨ c = 22
  | 0, i, n, c, h => by simp only [rdN, Except.error.injEq] at h; exact .inr h.symm
  | k + 1, i, n, c, h => by
    rw [rdN] at h
    split at h
    · split at h
      · exact rdN_err k _ _ h
      · split at h
        · simp at h; exact .inr h.symm
        · cases h
    · simp at h; exact .inl h.symm
theorem rdMost_err {b : ByteArray} {at_ : Nat} {m o : Int} {c : Int} (h : rdMost b at_ m o = .error c) : c = 20 ∨ c = 22 ∨ c = o := by
  unfold rdMost at h
  split at h
  · rename_i c' hc
    rcases rdN_err _ _ _ hc with h1 | h1
    · simp at h; omega
    · simp at h; omega
  · split at h
    · simp at h; exact .inr (.inr h.symm)
    · cases h

theorem rdText_p {b : ByteArray} {p q : Nat} {m : Int} {x : ByteArray} (h : rdText b p m = .ok (x, q)) : q ≤ b.size := by
  unfold rdText at h
  split at h
  · cases h
  · split at h
    · simp only [Except.ok.injEq, Prod.mk.injEq] at h; omega
    · cases h
theorem rdText_err {b : ByteArray} {p : Nat} {m c : Int} (h : rdText b p m = .error c) : ¬ c = 0 := by
  unfold rdText at h
  split at h
  · rename_i c' hc
    have := rdMost_err hc
    simp only [Except.error.injEq] at h; omega
  · split at h
    · cases h
    · simp only [Except.error.injEq] at h; omega
theorem rdBits_p {b : ByteArray} {p q n : Nat} (h : rdBits b p = .ok (n, q)) : q ≤ b.size := by
  unfold rdBits at h
  split at h
  · simp only [Except.ok.injEq, Prod.mk.injEq] at h; omega
  · cases h
theorem rdBits_err {b : ByteArray} {p : Nat} {c : Int} (h : rdBits b p = .error c) : ¬ c = 0 := by
  unfold rdBits at h
  split at h
  · cases h
  · simp only [Except.error.injEq] at h; omega

def rdTexts (b : ByteArray) : Nat → Nat → List ByteArray → Option (List ByteArray × Nat)
  | 0, p, acc => some (acc, p)
  | n + 1, p, acc => match rdText b p 32 with
    | .ok (t, q) => rdTexts b n q (acc ++ [t])
    | .error _ => none
def rdNum (b : ByteArray) (p : Nat) (most : Int) : Option (Nat × Nat) := match rdMost b p most 21 with
  | .ok x => some x
  | .error _ => none
theorem rdNum_ok {b : ByteArray} {p : Nat} {m : Int} {n q : Nat} (h : rdMost b p m 21 = .ok (n, q)) : rdNum b p m = some (n, q) := by unfold rdNum; rw [h]
theorem rdNum_no {b : ByteArray} {p : Nat} {m : Int} {c : Int} (h : rdMost b p m 21 = .error c) : rdNum b p m = none := by unfold rdNum; rw [h]

/-- The texts that are read, fault or not. -/
def TxInv (b : ByteArray) (T1 : Option (List ByteArray × Nat)) (m : Nat) (s : RS) (xs : List ByteArray) : Prop :=
  s.b = b ∧ s.wf ∧ if s.e = 0 then rdTexts b m s.at_ xs = T1 else T1 = none
theorem TxInv.step {b : ByteArray} {T1 : Option (List ByteArray × Nat)} {m : Nat} {s : RS} {xs : List ByteArray} (h : TxInv b T1 (m + 1) s xs) : TxInv b T1 m (s.face (rdText s.b s.at_ 32)) (xs ++ [s.got ⟨#[]⟩ (rdText s.b s.at_ 32)]) := by
  obtain ⟨h1, h2, h3⟩ := h
  by_cases he : s.e = 0
  · rw [if_pos he, rdTexts, ← h1] at h3
    simp only [RS.face, RS.got, if_pos he]
    rcases hX : rdText s.b s.at_ 32 with c | ⟨x, q⟩
    · rw [hX] at h3
      exact ⟨h1, ⟨h2.le, h2.mx⟩, by rw [if_neg (rdText_err hX)]; exact h3.symm⟩
    · rw [hX] at h3
      exact ⟨h1, ⟨rdText_p hX, h2.mx⟩, by rw [if_pos he, ← h1]; exact h3⟩
  · rw [if_neg he] at h3
    simp only [RS.face, RS.got, if_neg he]
    exact ⟨h1, h2, by rw [if_neg he]; exact h3⟩
end Go.Proofs.Ytmgnekjhlfghaaa

/-
  The forms of pack and their readers: what is read is what stands there. Of no program.
-/
namespace Go.Proofs.Ytmgnekjhlfghaaa
set_option linter.unusedVariables false
set_option linter.unusedSimpArgs false

def bl (b : ByteArray) : List UInt8 := b.data.toList
theorem bl_len (b : ByteArray) : (bl b).length = b.size := rfl
theorem bl_app (a b : ByteArray) : bl (a ++ b) = bl a ++ bl b := by simp [bl]
theorem bl_inj {a b : ByteArray} (h : bl a = bl b) : a = b := by
  cases a; cases b
  simp only [bl] at h
  rw [ByteArray.mk.injEq]
  exact Array.ext' h
theorem bl_mk (l : List UInt8) : bl ⟨l.toArray⟩ = l := by simp [bl]
theorem mk_bl (b : ByteArray) : (⟨(bl b).toArray⟩ : ByteArray) = b := bl_inj (bl_mk _)

/-- The bytes l stand in b from p to q. -/
structure Rds (b : ByteArray) (p : Nat) (l : List UInt8) (q : Nat) : Prop where
  eq : (bl b).drop p = l ++ (bl b).drop q
  at_ : q = p + l.length
  le : q ≤ b.size

theorem Rds.nil {b : ByteArray} {p q : Nat} : Rds b p [] q ↔ q = p ∧ p ≤ b.size := by
  constructor
  · rintro ⟨h1, h2, h3⟩
    have : q = p := by simpa using h2
    exact ⟨this, by omega⟩
  · rintro ⟨rfl, h⟩
    exact ⟨rfl, rfl, h⟩
theorem Rds.append {b : ByteArray} {p q : Nat} {l m : List UInt8} : Rds b p (l ++ m) q ↔ ∃ k, Rds b p l k ∧ Rds b k m q := by
  constructor
  · rintro ⟨h1, h2, h3⟩
    rw [List.length_append] at h2
    refine ⟨p + l.length, ⟨?_, rfl, by omega⟩, ⟨?_, by omega, h3⟩⟩
    · rw [← List.drop_drop, h1, List.append_assoc, List.drop_left]
    · rw [← List.drop_drop, h1, List.append_assoc, List.drop_left]
  · rintro ⟨k, ⟨h1, h2, h3⟩, ⟨h4, h5, h6⟩⟩
    exact ⟨by rw [h1, h4, List.append_assoc], by rw [List.length_append]; omega, h6⟩
theorem Rds.uniq {b : ByteArray} {p q q' : Nat} {l : List UInt8} (h : Rds b p l q) (h' : Rds b p l q') : q = q' := by rw [h.at_, h'.at_]
theorem Rds.cons {b : ByteArray} {p q : Nat} {x : UInt8} {l : List UInt8} : Rds b p (x :: l) q ↔ p < b.size ∧ bAt b p = x.toNat ∧ Rds b (p + 1) l q := by
  constructor
  · rintro ⟨h1, h2, h3⟩
    simp only [List.length_cons] at h2
    have hp : p < b.size := by omega
    have hx : (bl b)[p]? = some x := by
      have := congrArg (fun l => l[0]?) h1
      simpa using this
    refine ⟨hp, ?_, ?_, by omega, h3⟩
    · unfold bAt
      rw [List.getD_eq_getElem?_getD, show b.data.toList = bl b from rfl, hx]; rfl
    · rw [← List.drop_drop, h1]; rfl
  · rintro ⟨hp, hx, h1, h2, h3⟩
    refine ⟨?_, by simp only [List.length_cons]; omega, h3⟩
    rw [List.drop_eq_getElem_cons (show p < (bl b).length from hp), h1]
    congr 1
    unfold bAt at hx
    rw [List.getD_eq_getElem?_getD, List.getElem?_eq_getElem (show p < b.data.toList.length from hp)] at hx
    exact UInt8.toNat_inj.1 hx

theorem pow7 (i : Nat) : 2 ^ (7 * (i + 1)) = 2 ^ (7 * i) * 128 := by rw [Nat.mul_add, Nat.pow_add]
theorem pow_room {i : Nat} (h : i ≤ 8) : 2 ^ (64 - 7 * i) = 128 * 2 ^ (64 - 7 * (i + 1)) := by
  rw [show 64 - 7 * i = 7 + (64 - 7 * (i + 1)) by omega, Nat.pow_add]

theorem rdN_sound {b : ByteArray} {at_ : Nat} : ∀ (k i n : Nat) {x q : Nat}, k + i = 10 → rdN b at_ k i n = .ok (x, q) → ∃ v, x = n + v * 2 ^ (7 * i) ∧ Rds b (at_ + i) (Lib.uvarint v) q ∧ v < 2 ^ (64 - 7 * i) ∧ (0 < i → v ≠ 0)
  | 0, i, n, x, q, _, h => by simp [rdN] at h
  | k + 1, i, n, x, q, hk, h => by
    rw [rdN] at h
    split at h
    · rename_i hlt
      have hc := bAt_lt b (at_ + i)
      split at h
      · rename_i hbig
        obtain ⟨v, hv, hr, hb, h0⟩ := rdN_sound k (i + 1) _ (by omega) h
        have hv0 := h0 (by omega)
        have hi8 : i ≤ 8 := by
          rcases Nat.lt_or_ge 8 i with h9 | h9
          · have : i = 9 := by omega
            subst this
            simp at hb; omega
          · exact h9
        refine ⟨bAt b (at_ + i) % 128 + 128 * v, ?_, ?_, ?_, fun _ => by omega⟩
        · rw [hv, pow7, Nat.add_mul, Nat.add_assoc]
          congr 2
          rw [Nat.mul_comm 128 v, Nat.mul_assoc, Nat.mul_comm 128]
        · rw [Lib.uvarint_big (by omega), Rds.cons]
          refine ⟨hlt, ?_, ?_⟩
          · rw [show (bAt b (at_ + i) % 128 + 128 * v) % 128 + 128 = bAt b (at_ + i) by omega]
            simp; omega
          · rw [show (bAt b (at_ + i) % 128 + 128 * v) / 128 = v by omega]
            exact hr
        · rw [pow_room hi8]; omega
      · rename_i hsm
        split at h
        · cases h
        · rename_i hok
          simp only [Except.ok.injEq, Prod.mk.injEq] at h
          obtain ⟨rfl, rfl⟩ := h
          refine ⟨bAt b (at_ + i), rfl, ?_, ?_, fun hi => by omega⟩
          · rw [Lib.uvarint_small (by omega), Rds.cons, Rds.nil]
            exact ⟨hlt, by simp; omega, rfl, by omega⟩
          · by_cases h9 : i = 9
            · subst h9; simp; omega
            · rw [pow_room (by omega)]
              have := Nat.two_pow_pos (64 - 7 * (i + 1))
              omega
    · cases h

theorem rdN_whole {b : ByteArray} {at_ : Nat} : ∀ (k i n v : Nat) {q : Nat}, k + i = 10 → Rds b (at_ + i) (Lib.uvarint v) q → v < 2 ^ (64 - 7 * i) → (0 < i → v ≠ 0) → rdN b at_ k i n = .ok (n + v * 2 ^ (7 * i), q)
  | 0, i, n, v, q, hk, hr, hb, h0 => by
    have : i = 10 := by omega
    subst this
    have := h0 (by omega)
    simp at hb; omega
  | k + 1, i, n, v, q, hk, hr, hb, h0 => by
    rw [rdN]
    by_cases hv : v < 128
    · rw [Lib.uvarint_small hv, Rds.cons, Rds.nil] at hr
      obtain ⟨h1, h2, rfl, h3⟩ := hr
      have h2 : bAt b (at_ + i) = v := by rw [h2]; simp; omega
      rw [if_pos h1, h2, if_neg (by omega), if_neg]
      rintro (⟨h4, h5⟩ | ⟨h4, h5⟩)
      · exact h0 h4 h5
      · subst h4; simp at hb; omega
    · rw [Lib.uvarint_big (by omega), Rds.cons] at hr
      obtain ⟨h1, h2, h3⟩ := hr
      have h2 : bAt b (at_ + i) = v % 128 + 128 := by rw [h2]; simp; omega
      have hi8 : i ≤ 8 := by
        rcases Nat.lt_or_ge 8 i with h9 | h9
        · have : i = 9 := by omega
          subst this
          simp at hb; omega
        · exact h9
      rw [pow_room hi8] at hb
      rw [if_pos h1, h2, if_pos (by omega), rdN_whole k (i + 1) _ (v / 128) (by omega) h3 (by omega) (fun _ => by omega)]
      congr 2
      rw [pow7, Nat.add_assoc]
      congr 1
      rw [show (v % 128 + 128) % 128 = v % 128 by omega, Nat.mul_comm (2 ^ (7 * i)) 128, ← Nat.mul_assoc, ← Nat.add_mul]
      congr 1
      omega

theorem rdMost_iff {b : ByteArray} {p n q : Nat} {m o : Int} : rdMost b p m o = .ok (n, q) ↔ Rds b p (bl (nf n)) q ∧ (n : Int) ≤ m ∧ n < 18446744073709551616 := by
  have e : bl (nf n) = Lib.uvarint n := bl_mk _
  rw [e]
  constructor
  · intro h
    unfold rdMost at h
    split at h
    · cases h
    · rename_i x y hx
      split at h
      · cases h
      · simp only [Except.ok.injEq, Prod.mk.injEq] at h
        obtain ⟨rfl, rfl⟩ := h
        obtain ⟨v, h1, h2, h3, _⟩ := rdN_sound 10 0 0 rfl hx
        have : x = v := by simpa using h1
        subst this
        exact ⟨h2, by omega, by simpa using h3⟩
  · rintro ⟨h1, h2, h3⟩
    unfold rdMost
    rw [rdN_whole 10 0 0 n rfl h1 (by simpa using h3) (fun h => absurd h (Nat.lt_irrefl 0))]
    simp only [Nat.mul_zero, Nat.pow_zero, Nat.mul_one, Nat.zero_add]
    rw [if_neg (by omega)]
theorem rdNum_iff {b : ByteArray} {p n q : Nat} {m : Int} : rdNum b p m = some (n, q) ↔ Rds b p (bl (nf n)) q ∧ (n : Int) ≤ m ∧ n < 18446744073709551616 := by
  rw [← rdMost_iff (o := 21)]
  unfold rdNum
  split
  · rename_i x hx; rw [hx]; simp
  · rename_i c hc; rw [hc]; simp

theorem extract_bl (b : ByteArray) (p q : Nat) : bl (b.extract p q) = ((bl b).take q).drop p := by
  simp [bl, ByteArray.data_extract, Array.toList_extract, List.extract_eq_take_drop, List.drop_take]
theorem rdText_iff {b : ByteArray} {p q : Nat} {m : Int} {t : ByteArray} (hm : 0 ≤ m) (hb : b.size < 18446744073709551616) : rdText b p m = .ok (t, q) ↔ Rds b p (bl (tf t)) q ∧ (t.size : Int) ≤ m := by
  have e : bl (tf t) = bl (nf t.size) ++ bl t := bl_app _ _
  rw [e, Rds.append]
  have hmx : max 0 m = m := by omega
  unfold rdText
  rw [hmx]
  constructor
  · intro h
    split at h
    · cases h
    · rename_i n k hn
      obtain ⟨h1, h2, h3⟩ := rdMost_iff.1 hn
      split at h
      · rename_i hle
        simp only [Except.ok.injEq, Prod.mk.injEq] at h
        obtain ⟨rfl, rfl⟩ := h
        have hs : (b.extract k (k + n)).size = n := by rw [ByteArray.size_extract]; omega
        refine ⟨⟨k, by rw [hs]; exact h1, ?_, by rw [bl_len, hs], hle⟩, by rw [hs]; exact h2⟩
        rw [extract_bl, List.drop_take, Nat.add_sub_cancel_left, ← List.drop_drop, List.take_append_drop]
      · cases h
  · rintro ⟨⟨k, h1, h2⟩, h3⟩
    have hts : t.size ≤ b.size := by have h4 := h2.at_; have h5 := h2.le; have h6 := bl_len t; omega
    rw [rdMost_iff.2 ⟨h1, h3, by omega⟩]
    have hq : q = k + t.size := h2.at_
    subst hq
    simp only
    rw [if_pos h2.le]
    congr 2
    apply bl_inj
    rw [extract_bl, List.drop_take, Nat.add_sub_cancel_left, h2.eq]
    exact List.take_left

theorem bAt_get {b : ByteArray} {p : Nat} (h : p < b.size) : (bl b)[p]? = some (bAt b p).toUInt8 := by
  rw [List.getElem?_eq_getElem (show p < (bl b).length from h)]
  unfold bAt
  rw [List.getD_eq_getElem?_getD, List.getElem?_eq_getElem (show p < b.data.toList.length from h)]
  simp [bl]
theorem bitB_nat (n k : Nat) : (bitB n k).toNat = n / 2 ^ (56 - 8 * k) % 256 := by
  unfold bitB; simp
theorem bf_cons (n : Nat) : bl (bf n) = [bitB n 0, bitB n 1, bitB n 2, bitB n 3, bitB n 4, bitB n 5, bitB n 6, bitB n 7] := rfl
theorem rdBits_iff {b : ByteArray} {p n q : Nat} : rdBits b p = .ok (n, q) ↔ Rds b p (bl (bf n)) q ∧ n < 18446744073709551616 := by
  rw [bf_cons]
  simp only [Rds.cons, Rds.nil, bitB_nat, Nat.add_assoc, Nat.reduceAdd]
  have h0 := bAt_lt b p; have h1 := bAt_lt b (p + 1); have h2 := bAt_lt b (p + 2); have h3 := bAt_lt b (p + 3); have h4 := bAt_lt b (p + 4); have h5 := bAt_lt b (p + 5); have h6 := bAt_lt b (p + 6); have h7 := bAt_lt b (p + 7)
  have hbe : beN b p 8 = ((((((bAt b p * 256 + bAt b (p + 1)) * 256 + bAt b (p + 2)) * 256 + bAt b (p + 3)) * 256 + bAt b (p + 4)) * 256 + bAt b (p + 5)) * 256 + bAt b (p + 6)) * 256 + bAt b (p + 7) := by
    simp [beN]
  unfold rdBits
  constructor
  · intro h
    split at h
    · simp only [Except.ok.injEq, Prod.mk.injEq] at h
      obtain ⟨h8, rfl⟩ := h
      rw [hbe] at h8
      clear hbe
      refine ⟨⟨by omega, ?_, by omega, ?_, by omega, ?_, by omega, ?_, by omega, ?_, by omega, ?_, by omega, ?_, by omega, ?_, rfl, by omega⟩, ?_⟩
      all_goals (subst h8; (try simp only [Nat.reduceMul, Nat.reduceSub, Nat.reducePow]); omega)
    · cases h
  · rintro ⟨⟨a0, b0, a1, b1, a2, b2, a3, b3, a4, b4, a5, b5, a6, b6, a7, b7, rfl, a8⟩, hn⟩
    rw [if_pos (by omega), hbe]
    clear hbe
    simp only [Nat.reduceMul, Nat.reduceSub, Nat.reducePow] at b0 b1 b2 b3 b4 b5 b6 b7
    rw [b0, b1, b2, b3, b4, b5, b6, b7]
    congr 2
    omega

end Go.Proofs.Ytmgnekjhlfghaaa

/-
  record: a change; in, right, has, texts.
-/
namespace Go.Proofs.Ytmgnekjhlfghaaa
open Go.RowKit
set_option linter.unusedVariables false
set_option linter.unusedSimpArgs false

/-- Strings in a row. -/
def sL : Lay ByteArray where
  f := fun s => [.string s]
  d := ⟨#[]⟩
  sz := 1
  len := fun _ => rfl
  pos := by decide
  one := fun a u hu => by simp at hu; subst hu; rfl

/-- A change. -/
structure CV where
  kind : Int
  n : Int
  job : Int
  badge : Int
  slot : Int
  life : Int
  code : Int
  bits : Int
  prog : ByteArray
  texts : List ByteArray
/-- A texts' slice. -/
structure TS where
  a : Option Addr
  c : Nat
def CV.f (c : CV) (t : TS) : List Value := [.int .i64 c.kind, .int .i64 c.n, .int .i64 c.job, .int .i64 c.badge, .int .i64 c.slot, .int .i64 c.life, .int .i64 c.code, .int .u64 c.bits, .string c.prog, .slice t.a c.texts.length t.c]
def CV.zero : CV := ⟨0, 0, 0, 0, 0, 0, 0, 0, ⟨#[]⟩, []⟩
def cL : Lay (CV × TS) where
  f := fun x => x.1.f x.2
  d := (.zero, ⟨none, 0⟩)
  sz := 10
  len := fun _ => rfl
  pos := by decide
  one := fun a u hu => by simp [CV.f] at hu; rcases hu with rfl | rfl | rfl | rfl | rfl | rfl | rfl | rfl | rfl | rfl <;> rfl

/-! ### What the program's own do -/
def rgt (h z m : Bool) : Bool := if h then m else z
/-- A kind's fields. -/
def hasS (k : Int) : ByteArray :=
  if k = 1 then ⟨#[110]⟩ else if k = 2 then ⟨#[106, 112]⟩ else if k = 3 then ⟨#[106, 98, 115]⟩ else if k = 4 then ⟨#[98, 116]⟩ else if k = 5 then ⟨#[98]⟩ else if k = 6 then ⟨#[98, 114]⟩ else ⟨#[]⟩
def hasL (k : Int) (l : UInt8) : Bool := decide (0 ≤ Lib.indexByte (hasS k).data.toList l)
def textsB (l : List ByteArray) : Bool := inB l.length 1 8 && !(l.any fun s => decide (32 < s.size))

theorem in_walk (w : World) (n low high : Int) :
    Calls Try.prog 53 #[.int .i64 n, .int .i64 low, .int .i64 high] w fun e w' => e = .returned (.bool (inB n low high)) ∧ w = w' := by
  unfold inB
  by_cases h1 : low ≤ n
  · by_cases h2 : n ≤ high
    · go_enter Try.func53, Try.ntmps53
      go_wp2
      go_ret
      exact ⟨by simp [h1, h2], rfl⟩
    · go_enter Try.func53, Try.ntmps53
      go_wp2
      go_ret
      exact ⟨by simp [h1, h2], rfl⟩
  · go_enter Try.func53, Try.ntmps53
    go_wp2
    go_ret
    exact ⟨by rw [decide_eq_false (by omega : ¬ low ≤ n)]; rfl, rfl⟩

theorem right_walk (w : World) (h z m : Bool) :
    Calls Try.prog 57 #[.bool h, .bool z, .bool m] w fun e w' => e = .returned (.bool (rgt h z m)) ∧ w = w' := by
  unfold rgt
  cases h
  · go_enter Try.func57, Try.ntmps57
    go_wp2
    go_ret
    exact ⟨rfl, rfl⟩
  · go_enter Try.func57, Try.ntmps57
    go_wp2
    go_ret
    exact ⟨rfl, rfl⟩

theorem has_walk (w : World) (k : Int) :
    Calls Try.prog 56 #[.int .i64 k] w fun e w' => e = .returned (.string (hasS k)) ∧ w = w' := by
  unfold hasS
  by_cases h1 : k = 1
  · subst h1
    go_enter Try.func56, Try.ntmps56
    go_wp2
    go_ret
    exact ⟨rfl, rfl⟩
  by_cases h2 : k = 2
  · subst h2
    go_enter Try.func56, Try.ntmps56
    go_wp2
    go_ret
    exact ⟨rfl, rfl⟩
  by_cases h3 : k = 3
  · subst h3
    go_enter Try.func56, Try.ntmps56
    go_wp2
    go_ret
    exact ⟨rfl, rfl⟩
  by_cases h4 : k = 4
  · subst h4
    go_enter Try.func56, Try.ntmps56
    go_wp2
    go_ret
    exact ⟨rfl, rfl⟩
  by_cases h5 : k = 5
  · subst h5
    go_enter Try.func56, Try.ntmps56
    go_wp2
    go_ret
    exact ⟨rfl, rfl⟩
  by_cases h6 : k = 6
  · subst h6
    go_enter Try.func56, Try.ntmps56
    go_wp2
    go_ret
    exact ⟨rfl, rfl⟩
  have e1 : (k == 1) = false := by rw [beq_eq_false_iff_ne]; exact h1
  have e2 : (k == 2) = false := by rw [beq_eq_false_iff_ne]; exact h2
  have e3 : (k == 3) = false := by rw [beq_eq_false_iff_ne]; exact h3
  have e4 : (k == 4) = false := by rw [beq_eq_false_iff_ne]; exact h4
  have e5 : (k == 5) = false := by rw [beq_eq_false_iff_ne]; exact h5
  have e6 : (k == 6) = false := by rw [beq_eq_false_iff_ne]; exact h6
  rw [if_neg h1, if_neg h2, if_neg h3, if_neg h4, if_neg h5, if_neg h6]
  clear h1 h2 h3 h4 h5 h6
  go_enter Try.func56, Try.ntmps56
  go_wp2
  go_ret
  exact ⟨rfl, rfl⟩

theorem texts1_walk (w : World) (s : ByteArray) :
    Calls Try.prog 86 #[.string s] w fun e w' => e = .returned (.bool (decide (32 < s.size))) ∧ w = w' := by
  go_enter Try.func86, Try.ntmps86
  go_wp2
  all_goals
    go_ret
    exact ⟨by simp; try omega, rfl⟩

theorem enter_texts1 (args : Array Value) (w : World) : (callFunc 86 args).run Try.prog w = .ok (.enter 86 args) w := run_enter Try.func86 (by kernel_rfl) rfl args w

theorem str_cells {w : World} {b o n cap : Nat} {l : List ByteArray} (h : In w 1 (some ⟨b, o, none⟩) n cap (sL.at_ l)) (k : Nat) (hk : k < n) : w.cell? ⟨b, o + k, none⟩ = some (.string (sL.nth l k)) := by
  have c0 := h.cell b o rfl k (by omega)
  rw [show k = k * sL.sz + 0 by show k = k * 1 + 0; omega, sL.at_add _ _ 0 (by decide)] at c0
  simpa [sL, Lay.nth] using c0

set_option maxHeartbeats 800000 in
set_option maxRecDepth 100000 in
theorem index_str (w : World) (b : Option Addr) (cb n : Nat) (l : List ByteArray) (hln : l.length = n) (hb : In w 1 b n cb (sL.at_ l)) (fid : Nat) (cap : Array Value) (p : Nat → Bool) (he : ∀ args wx, (callFunc fid args).run Try.prog wx = .ok (.enter fid args) wx)
    (hf : ∀ k, k < n → Calls Try.prog fid (#[.string (sL.nth l k)] ++ cap) w fun e w' => e = .returned (.bool (p k)) ∧ w = w') :
    Calls Try.prog 100 #[.slice b n cb, .func (.func fid) #[] cap] w fun e w' => ∃ z : Int, e = .returned (.int .i64 z) ∧ w = w' ∧ ((∃ k, k < n ∧ p k = true ∧ (∀ j, j < k → p j = false) ∧ z = k) ∨ (∀ k, k < n → p k = false) ∧ z = -1) := by
  have hmb := hb.max
  have HB := hid hb
  have HF := hid hf
  have HE := hid he
  clear hb hf he
  go_enter Try.func100, Try.ntmps100
  go_wp2_with fail
  go_loopw [8] (fun i wr => ∃ k : Nat, k ≤ n ∧ i = .int .i64 k ∧ (∀ j, j < k → p j = false) ∧ w = wr) (fun i _ => n - (intOf i).toNat)
  case atStart => exact ⟨0, Nat.zero_le _, rfl, fun j hj => absurd hj (Nat.not_lt_zero _), rfl⟩
  case round =>
    obtain ⟨k, hk, rfl, hall, rfl⟩ := hrel
    have HAll := hid hall
    clear hall
    by_cases hlt : k < n
    · obtain ⟨bb, ob, rfl⟩ := HB.out.sm (by omega)
      have c0 := str_cells HB.out k hlt
      have HC := hid (HF.out k hlt)
      generalize hx : sL.nth l k = x at c0 HC
      clear hx
      cases hp : p k
      · rw [hp] at HC
        have HPk := hid hp
        clear hp
        go_wp2_with fail
        rw [HE.out, Oper.upon_enter]
        refine HC.out.mono ?_
        rintro e w1 ⟨rfl, rfl⟩
        go_wp2_with fail
        go_roundw
        case rel => exact ⟨k + 1, by omega, by go_num, fun j hj => by by_cases hjk : j = k; (subst hjk; exact HPk.out); exact HAll.out j (by omega), trivial⟩
        case measure => simp [intOf]; omega
      · rw [hp] at HC
        have HPk := hid hp
        clear hp
        go_wp2_with fail
        rw [HE.out, Oper.upon_enter]
        refine HC.out.mono ?_
        rintro e w1 ⟨rfl, rfl⟩
        go_wp2_with fail
        go_ret
        exact ⟨_, rfl, rfl, .inl ⟨k, hlt, HPk.out, HAll.out, rfl⟩⟩
    · obtain rfl : k = n := by omega
      go_wp2_with fail
      go_ret
      exact ⟨_, rfl, rfl, .inr ⟨HAll.out, rfl⟩⟩

theorem contains_str (w : World) (b : Option Addr) (cb : Nat) (l : List ByteArray) (hb : In w 1 b l.length cb (sL.at_ l)) (fid : Nat) (cap : Array Value) (p : ByteArray → Bool) (he : ∀ args wx, (callFunc fid args).run Try.prog wx = .ok (.enter fid args) wx)
    (hf : ∀ s, Calls Try.prog fid (#[.string s] ++ cap) w fun e w' => e = .returned (.bool (p s)) ∧ w = w') :
    Calls Try.prog 85 #[.slice b l.length cb, .func (.func fid) #[] cap] w fun e w' => e = .returned (.bool (l.any p)) ∧ w = w' := by
  have hc := hid (index_str w b cb l.length l rfl hb fid cap (fun k => p (sL.nth l k)) he (fun k _ => hf _))
  clear hb hf he
  go_enter Try.func85, Try.ntmps85
  go_wp2_with fail
  refine hc.out.mono ?_
  rintro e w1 ⟨z, rfl, rfl, hz⟩
  have hz := hid hz
  go_wp2_with fail
  all_goals
    go_ret
    refine ⟨?_, rfl⟩
    rcases hz.out with ⟨k, hk, hp, _, e⟩ | ⟨hall, e⟩
    · have : l.any p = true := List.any_eq_true.2 ⟨_, sL.mem_nth hk, hp⟩
      subst e
      simp [this]
    · have : l.any p = false := by
        rw [List.any_eq_false]
        intro x hx
        obtain ⟨k, hk, rfl⟩ := List.getElem_of_mem hx
        have := hall k hk
        rw [show sL.nth l k = l[k] from by simp [Lay.nth, List.getD_eq_getElem?_getD, hk]] at this
        simp [this]
      subst e
      simp [this]

theorem texts_walk (w : World) (a : Option Addr) (cap : Nat) (l : List ByteArray) (h : In w 1 a l.length cap (sL.at_ l)) :
    Calls Try.prog 58 #[.slice a l.length cap] w fun e w' => e = .returned (.bool (textsB l)) ∧ w = w' := by
  have hm := h.max
  have hc := hid (contains_str w a cap l h 86 #[] (fun s => decide (32 < s.size)) enter_texts1 (fun s => texts1_walk w s))
  clear h
  unfold textsB
  generalize hx : (l.any fun s => decide (32 < s.size)) = x at hc ⊢
  clear hx
  cases hi : inB (l.length : Int) 1 8
  · go_enter Try.func58, Try.ntmps58
    go_wp2_with (go_at_call 53; refine (in_walk _ _ _ _).mono ?_; rintro e w1 ⟨rfl, rfl⟩; rw [hi])
    go_ret
    exact ⟨rfl, rfl⟩
  · go_enter Try.func58, Try.ntmps58
    go_wp2_with (first | (go_at_call 53; refine (in_walk _ _ _ _).mono ?_; rintro e w1 ⟨rfl, rfl⟩; rw [hi]) | (go_at_call 85; refine hc.out.mono ?_; rintro e w1 ⟨rfl, rfl⟩))
    go_ret
    exact ⟨by simp, rfl⟩

end Go.Proofs.Ytmgnekjhlfghaaa

/-
  That a region may be walked in the text's order: by a small table of its operations (its destination, what it looks at, what it waits for). Of no program.
-/
namespace Go.Proofs.Ytmgnekjhlfghaaa
set_option linter.unusedVariables false

/-- What is asked of an operation: its destination, what it looks at, what it waits for. -/
def lexRow (ops : Array Oper) (o : Oper) : Option Nat × List Nat × List Nat :=
  (o.dst, o.looksAt ops, (o.after.toList.filter fun e => Region.binds .any e).map (·.on))
def rowApart (x y : Option Nat × List Nat × List Nat) : Bool :=
  (match x.1 with | some d => !(y.2.1.contains d) && y.1 != some d | none => true) &&
  (match y.1 with | some d => !(x.2.1.contains d) | none => true)
def rowsGood : Nat → List (Option Nat × List Nat × List Nat) → Bool
  | _, [] => true
  | k, x :: rest => x.2.2.all (fun i => Nat.blt i k) && rest.all (fun y => y.2.2.contains k || rowApart x y) && rowsGood (k + 1) rest

theorem rowApart_apart {ops : Array Oper} {x y : Oper} (h : rowApart (lexRow ops x) (lexRow ops y) = true) : x.apart ops y = true := h

theorem rowsGood_at : ∀ (D : List (Option Nat × List Nat × List Nat)) (k : Nat), rowsGood k D = true → ∀ (i : Nat) (x : Option Nat × List Nat × List Nat), D[i]? = some x →
    (∀ j, j ∈ x.2.2 → j < k + i) ∧ ∀ (j : Nat) (y : Option Nat × List Nat × List Nat), i < j → D[j]? = some y → (k + i) ∈ y.2.2 ∨ rowApart x y = true
  | [], _, _, i, x, hi => by simp at hi
  | z :: rest, k, h, i, x, hi => by
    simp only [rowsGood, Bool.and_eq_true] at h
    cases i with
    | zero =>
      simp at hi; subst hi
      refine ⟨fun j hj => by have := List.all_eq_true.1 h.1.1 j hj; simpa using this, fun j y hj hy => ?_⟩
      obtain ⟨j', rfl⟩ : ∃ j', j = j' + 1 := ⟨j - 1, by omega⟩
      have hm : y ∈ rest := List.mem_of_getElem? (by simpa using hy)
      have := List.all_eq_true.1 h.1.2 y hm
      simp only [Bool.or_eq_true, List.contains_iff_mem] at this
      exact this
    | succ i =>
      have := rowsGood_at rest (k + 1) h.2 i x (by simpa using hi)
      refine ⟨fun j hj => by have := this.1 j hj; omega, fun j y hj hy => ?_⟩
      obtain ⟨j', rfl⟩ : ∃ j', j = j' + 1 := ⟨j - 1, by omega⟩
      have h2 := this.2 j' y (by omega) (by simpa using hy)
      rwa [show k + 1 + i = k + (i + 1) by omega] at h2

theorem lexFrom_good {l : List Oper} {D : List (Option Nat × List Nat × List Nat)} (hD : l.map (lexRow l.toArray) = D) (hg : rowsGood 0 D = true) :
    ∀ (fuel k : Nat) (listed : Array Bool), k + fuel = l.length → listed.size = l.length → (∀ i, i < l.length → listed[i]? = some (decide (i < k))) → Region.lexFrom .any l.toArray fuel k listed = true := by
  intro fuel
  have hrow : ∀ (i : Nat) (o : Oper), l[i]? = some o → D[i]? = some (lexRow l.toArray o) := fun i o h => by rw [← hD, List.getElem?_map, h]; rfl
  have hgood := rowsGood_at D 0 hg
  induction fuel with
  | zero =>
    intro k listed hk hs hl
    rw [Region.lexFrom, List.isEmpty_iff]
    refine List.eq_nil_iff_forall_not_mem.2 fun i hi => ?_
    obtain ⟨h0, o, ho, _⟩ := mem_ready.1 hi
    have hlt : i < l.length := by
      have := (Array.getElem?_eq_some_iff.1 ho).1
      simpa using this
    have := hl i hlt
    simp [this] at h0
    omega
  | succ fuel ih =>
    intro k listed hk hs hl
    have hkl : k < l.length := by omega
    have ho : l[k]? = some l[k] := List.getElem?_eq_getElem hkl
    have hoA : l.toArray[k]? = some l[k] := by simp
    have hg0 := hgood k _ (hrow k _ ho)
    simp only [Region.lexFrom, Bool.and_eq_true, List.contains_iff_mem]
    refine ⟨⟨?_, ?_⟩, ?_⟩
    · refine mem_ready.2 ⟨?_, l[k], hoA, fun e he hb => ?_⟩
      · simp [hl k hkl]
      · have hm : e.on ∈ (lexRow l.toArray l[k]).2.2 := List.mem_map.2 ⟨e, List.mem_filter.2 ⟨by simpa using he, hb⟩, rfl⟩
        have := hg0.1 _ hm
        simp [hl e.on (by omega)]; omega
    · rw [Region.free, hoA]
      simp only [List.all_eq_true, List.mem_range, Bool.or_eq_true]
      intro j hj
      have hj' : j < l.length := by simpa using hj
      by_cases h1 : j = k
      · simp [h1]
      · by_cases h2 : j < k
        · left; right
          simp [hl j hj', h2]
        · right
          have hoj : l[j]? = some l[j] := List.getElem?_eq_getElem hj'
          have hojA : l.toArray[j]? = some l[j] := by simp
          rw [hojA]
          rcases hg0.2 j _ (by omega) (hrow j _ hoj) with h3 | h3
          · simp only [Bool.or_eq_true]
            left
            obtain ⟨e, he, hon⟩ := List.mem_map.1 h3
            obtain ⟨he1, he2⟩ := List.mem_filter.1 he
            rw [Array.any_eq_true']
            exact ⟨e, by simpa using he1, by simp [he2]; omega⟩
          · simp only [Bool.or_eq_true]
            exact .inr (rowApart_apart h3)
    · refine ih (k + 1) _ (by omega) (by simp [hs]) fun i hi => ?_
      by_cases h1 : i = k
      · subst h1
        rw [Array.getElem?_setIfInBounds_self_of_lt (by omega)]
        simp
      · rw [Array.getElem?_setIfInBounds_ne (by omega), hl i hi]
        congr 1
        simp only [decide_eq_decide]
        omega

/-- The table is laid; it is good. -/
theorem lexB_of {l : List Oper} {D : List (Option Nat × List Nat × List Nat)} (hn : Region.noSelect l.toArray = true) (hD : l.map (lexRow l.toArray) = D) (hg : rowsGood 0 D = true) : Region.lexB .any l.toArray = true := by
  rw [Region.lexB, hn, Bool.true_and]
  exact lexFrom_good hD hg _ 0 _ (by simp) (by simp) fun i hi => by simp [hi]

theorem lexB_of' {l : List Oper} (hn : Region.noSelect l.toArray = true) (hg : rowsGood 0 (l.map (lexRow l.toArray)) = true) : Region.lexB .any l.toArray = true := lexB_of hn rfl hg

/-- An operation whose guard's Bool isn't known. -/
theorem calmRow_sym {P : Program} {ops : Array Oper} {S : World → Prop} {Q : Act → Prop} {a : Act} {o : Oper} {rest : List Oper} {v : Value} (b : Bool) (hw : Region.wanted o (yielded ops a.tmps) = b) (hv : b = true → ∀ w, S w → calmTo P S v ((execOp a.eval o).run P w))
    (h : calmRow P ops S Q rest (a.put o.dst (if b then v else undef))) : calmRow P ops S Q (o :: rest) a := by
  cases b
  · exact calmRow_skip hw h
  · exact calmRow_take hw (hv rfl) h
/-- A pick by a Bool that isn't known. -/
theorem calmRow_pick {P : Program} {ops : Array Oper} {S : World → Prop} {Q : Act → Prop} {a : Act} {o : Oper} {rest : List Oper} (v : Value) (hw : Region.wanted o (yielded ops a.tmps) = true) (hv : ∀ w, S w → calmTo P S v ((execOp a.eval o).run P w))
    (h : calmRow P ops S Q rest (a.put o.dst v)) : calmRow P ops S Q (o :: rest) a := calmRow_take hw hv h

end Go.Proofs.Ytmgnekjhlfghaaa
