/-
  Merged, in build order: Pk9 PkE PkL Ms End Wf Wg Step.
-/
import Derived.Lib.ConvBytes
import Derived.Lib.AtoiErrMem
import Derived.Test.YtkiccbjngokpjaaGreatM12
import Derived.Test.YtkiccbjngokpjaaGreatM5
import Derived.Test.YtkiccbjngokpjaaGreatM6
import Derived.Test.YtkiccbjngokpjaaGreatM3
import Derived.Test.YtkiccbjngokpjaaGreatM4
/-
  pack.Reader: Bits.
-/
namespace Go.Proofs.YtkiccbjngokpjaaGreat
open Go.RowKit
set_option linter.unusedVariables false
set_option linter.unusedSimpArgs false

/-- Bytes as a number, the greatest first. -/
def beN (b : ByteArray) (p : Nat) : Nat → Nat
  | 0 => 0
  | k + 1 => beN b p k * 256 + bAt b (p + k)
/-- 64 bits, read. -/
def rdBits (b : ByteArray) (at_ : Nat) : Except Int (Nat × Nat) :=
  if at_ + 8 ≤ b.size then .ok (beN b at_ 8, at_ + 8) else .error 20
theorem beN_lt (b : ByteArray) (p k : Nat) : beN b p k < 256 ^ k := by
  induction k with
  | zero => simp [beN]
  | succ k ih =>
    have := bAt_lt b (p + k)
    rw [beN, Nat.pow_succ]
    omega

set_option maxRecDepth 100000 in
theorem bits_slot (N c : Nat) (hN : N * 256 + c < 18446744073709551616) (hc : c < 256) : bits .or .u64 (IntKind.u64.wrap ((N : Int) * 256)) (c : Int) = ((N * 256 + c : Nat) : Int) := by
  have e1 : (N : Int) * 256 = ((N * 256 : Nat) : Int) := by push_cast; rfl
  rw [e1, u64_nat _ (by omega)]
  rw [bits_join .u64 64 (by decide) wraps_u64 8 _ _ (by omega) (by omega) (by omega) (by omega) (by omega) (by omega)]
  push_cast; rfl

section
variable {W : Base} {w : World} {R : List Thing}

set_option maxHeartbeats 1600000 in
theorem st_bits1 (H : St W w R) (i : Nat) {r : Nat} {s : RS} (hi : R[i]? = some (RdT r s)) (hw : s.wf) {j pb : Nat}
    (hj : R[j]? = some (BlkT pb (.cells #[Value.pointer (some ⟨r, 0, none⟩)] 134))) :
    Calls Tryz.prog 117 #[.pointer (some ⟨pb, 0, none⟩)] w (ReadTo (fun n : Nat => Value.int .u64 n) W R i r s (rdBits s.b s.at_)) := by
  have p0 : w.cell? ⟨pb, 0, none⟩ = some (.pointer (some ⟨r, 0, none⟩)) := cell_blk (H.blk j hj) rfl
  have hil := lt_of_get hi
  unfold rdBits
  by_cases hfit : s.at_ + 8 ≤ s.b.size
  · rw [if_pos hfit]
    go_enter Tryz.func117, Tryz.ntmps117
    go_wp2_with fail
    refine (st_take H i hi hw 8 (by omega) hfit).mono ?_
    clear H
    rintro e w1 ⟨rfl, H⟩
    have hsz : (s.b.extract s.at_ (s.at_ + 8)).size = 8 := by rw [ByteArray.size_extract]; omega
    have hbt : ∀ j, j < 8 → ((s.b.extract s.at_ (s.at_ + 8)).data.toList.getD j 0).toNat = bAt s.b (s.at_ + j) := fun j hj => by
      have h : j < (s.b.extract s.at_ (s.at_ + 8)).size := by omega
      have e := ByteArray.getElem_extract (i := j) (b := s.b) (start := s.at_) (stop := s.at_ + 8) h
      unfold bAt
      rw [List.getD_eq_getElem?_getD, List.getElem?_eq_getElem (show j < (s.b.extract s.at_ (s.at_ + 8)).data.toList.length from h), List.getD_eq_getElem?_getD, List.getElem?_eq_getElem (show s.at_ + j < s.b.data.toList.length by show s.at_ + j < s.b.size; omega)]
      exact congrArg UInt8.toNat e
    generalize s.b.extract s.at_ (s.at_ + 8) = t at hsz hbt ⊢
    have hcv := Lib.run_convert_string_bytes (P := Tryz.prog) w1 9 124 5 t Tryz.underlying9 Tryz.underlying124 Tryz.underlying5
    have hbt := hid hbt
    go_wp2_with fail
    have hcell : ∀ j, j < 8 → (Lib.bytesWorld w1 5 t).cell? ⟨w1.heap.size, j, none⟩ = some (.int .u8 (bAt s.b (s.at_ + j))) := fun j hj => by
      rw [Lib.bytesWorld_cell _ _ _ _ (by omega), hbt.out j hj]
    have HB := hid (H.same (Fr.of_below (Lib.bytesWorld_below w1 5 t) []))
    clear H hcv
    generalize Lib.bytesWorld w1 5 t = wB at hcell HB ⊢
    generalize grownCap w1 8 0 5 = cp
    generalize w1.heap.size = g at hcell ⊢
    go_loopw [2, 9] (fun nv iv wr => ∃ k, k ≤ 8 ∧ iv = .int .i64 (k : Nat) ∧ nv = .int .u64 (beN s.b s.at_ k) ∧ wr = wB) (fun _ iv _ => 8 - (intOf iv).toNat)
    case atStart => exact ⟨0, by omega, rfl, rfl, rfl⟩
    case round =>
      obtain ⟨k, hk, rfl, rfl, rfl⟩ := hrel
      by_cases hlt : k < 8
      · have hc := hcell k hlt
        have hc8 := bAt_lt s.b (s.at_ + k)
        have hN8 := beN_lt s.b s.at_ k
        have hn := hid (show beN s.b s.at_ (k + 1) = beN s.b s.at_ k * 256 + bAt s.b (s.at_ + k) from rfl)
        generalize hcb : bAt s.b (s.at_ + k) = c at hc hc8 hn
        have hcb := hid hcb
        generalize beN s.b s.at_ k = N at hN8 hn
        have hN9 : N * 256 + c < 18446744073709551616 := by
          have h1 : (256 : Nat) ^ k ≤ 256 ^ 7 := Nat.pow_le_pow_right (by omega) (by omega)
          have : (256 : Nat) ^ 7 = 72057594037927936 := rfl
          omega
        have hsl := hid (bits_slot N c hN9 hc8)
        clear hN8 hN9
        go_wp2_with fail
        refine ⟨⟨k + 1, by omega, rfl, ?_, trivial⟩, ?_⟩
        · rw [hn.out, ← hsl.out]
        · show 8 - ((k : Int) + 1).toNat < 8 - (k : Int).toNat
          omega
      · have hk8 : k = 8 := by omega
        subst hk8
        go_wp2_with fail
        go_ret
        exact ⟨rfl, HB.out⟩
  · rw [if_neg hfit]
    go_enter Tryz.func117, Tryz.ntmps117
    go_wp2_with fail
    refine (st_take_no H i hi hw 8 (by omega) (show s.b.size < s.at_ + 8 by omega)).mono ?_
    clear H
    rintro e w1 ⟨rfl, H⟩
    go_wp2_with fail
    exact ⟨rfl, rfl, s.at_, hw.le, by rw [things_set_self hi]; exact H⟩

theorem enter_bits1 (args : Array Value) (w : World) : (callFunc 117 args).run Tryz.prog w = .ok (.enter 117 args) w := run_enter Tryz.func117 (by kernel_rfl) rfl args w

theorem st_Bits (H : St W w R) (i : Nat) {r : Nat} {s : RS} (hi : R[i]? = some (RdT r s)) (hw : s.wf) :
    Calls Tryz.prog 100 #[.pointer (some ⟨r, 0, none⟩)] w fun e w' => e = .returned (.int .u64 (s.got 0 (rdBits s.b s.at_) : Nat)) ∧ St W w' (R.set i (RdT r (s.face (rdBits s.b s.at_)))) := by
  have hmf : ∀ (fn : Fn) (first cap : Array Value) (w : World), (Instr.makeFunc fn first cap).run Tryz.prog w = .ok (.func fn first cap) w := fun _ _ _ _ => rfl
  generalize hX : rdBits s.b s.at_ = X
  generalize hs : s.face X = s'
  generalize hg : s.got 0 X = g
  have hX := hid hX
  have hs := hid hs
  have hg := hid hg
  have hil := lt_of_get hi
  have H := hid H
  go_enter Tryz.func100, Tryz.ntmps100
  go_wp2_with fail
  have H2 := H.out.alloc (.cells #[Value.pointer (some ⟨r, 0, none⟩)] 134)
  refine (st_face_u (X := X) H2 i (by rw [List.getElem?_append_left hil]; exact hi) (enter_bits1 _) ?_).mono ?_
  · intro T w' H3
    rw [← hX.out]
    refine st_bits1 H3 i ?_ hw (j := R.length + 0) ?_
    · rw [List.append_assoc, List.getElem?_append_left hil]; exact hi
    · rw [List.append_assoc, get_behind]; rfl
  rintro e w1 ⟨rfl, H4⟩
  rw [hg.out, hs.out, List.set_append_left _ _ hil] at *
  have H4 := hid H4.drop
  go_wp2_with fail
  go_ret
  exact ⟨rfl, H4.out⟩

end
end Go.Proofs.YtkiccbjngokpjaaGreat

/-
  What pack's readers may come to: places, faults. Of no program.
-/
namespace Go.Proofs.YtkiccbjngokpjaaGreat
open Go.RowKit
set_option linter.unusedVariables false
set_option linter.unusedSimpArgs false

theorem rdN_err {b : ByteArray} {at_ : Nat} : ∀ (k i n : Nat) {c : Int}, rdN b at_ k i n = .error c → c = 20 ∨ c = 22
  | 0, i, n, c, h => by simp only [rdN, Except.error.injEq] at h; exact .inr h.symm
  | k + 1, i, n, c, h => by
    rw [rdN] at h
    split at h
    · split at h
      · exact rdN_err k _ _ h
      · split at h
        · simp at h; exact .inr h.symm
        · cases h
    · simp at h; exact .inl h.symm
theorem rdMost_err {b : ByteArray} {at_ : Nat} {m o : Int} {c : Int} (h : rdMost b at_ m o = .error c) : c = 20 ∨ c = 22 ∨ c = o := by
  unfold rdMost at h
  split at h
  · rename_i c' hc
    rcases rdN_err _ _ _ hc with h1 | h1
    · simp at h; omega
    · simp at h; omega
  · split at h
    · simp at h; exact .inr (.inr h.symm)
    · cases h

theorem rdText_p {b : ByteArray} {p q : Nat} {m : Int} {x : ByteArray} (h : rdText b p m = .ok (x, q)) : q ≤ b.size := by
  unfold rdText at h
  split at h
  · cases h
  · split at h
    · simp only [Except.ok.injEq, Prod.mk.injEq] at h; omega
    · cases h
theorem rdText_err {b : ByteArray} {p : Nat} {m c : Int} (h : rdText b p m = .error c) : ¬ c = 0 := by
  unfold rdText at h
  split at h
  · rename_i c' hc
    have := rdMost_err hc
    simp only [Except.error.injEq] at h; omega
  · split at h
    · cases h
    · simp only [Except.error.injEq] at h; omega
theorem rdBits_p {b : ByteArray} {p q n : Nat} (h : rdBits b p = .ok (n, q)) : q ≤ b.size := by
  unfold rdBits at h
  split at h
  · simp only [Except.ok.injEq, Prod.mk.injEq] at h; omega
  · cases h
theorem rdBits_err {b : ByteArray} {p : Nat} {c : Int} (h : rdBits b p = .error c) : ¬ c = 0 := by
  unfold rdBits at h
  split at h
  · cases h
  · simp only [Except.error.injEq] at h; omega

def rdTexts (b : ByteArray) : Nat → Nat → List ByteArray → Option (List ByteArray × Nat)
  | 0, p, acc => some (acc, p)
  | n + 1, p, acc => match rdText b p 32 with
    | .ok (t, q) => rdTexts b n q (acc ++ [t])
    | .error _ => none
def rdNum (b : ByteArray) (p : Nat) (most : Int) : Option (Nat × Nat) := match rdMost b p most 21 with
  | .ok x => some x
  | .error _ => none
theorem rdNum_ok {b : ByteArray} {p : Nat} {m : Int} {n q : Nat} (h : rdMost b p m 21 = .ok (n, q)) : rdNum b p m = some (n, q) := by unfold rdNum; rw [h]
theorem rdNum_no {b : ByteArray} {p : Nat} {m : Int} {c : Int} (h : rdMost b p m 21 = .error c) : rdNum b p m = none := by unfold rdNum; rw [h]

/-- The texts that are read, fault or not. -/
def TxInv (b : ByteArray) (T1 : Option (List ByteArray × Nat)) (m : Nat) (s : RS) (xs : List ByteArray) : Prop :=
  s.b = b ∧ s.wf ∧ if s.e = 0 then rdTexts b m s.at_ xs = T1 else T1 = none
theorem TxInv.step {b : ByteArray} {T1 : Option (List ByteArray × Nat)} {m : Nat} {s : RS} {xs : List ByteArray} (h : TxInv b T1 (m + 1) s xs) : TxInv b T1 m (s.face (rdText s.b s.at_ 32)) (xs ++ [s.got ⟨#[]⟩ (rdText s.b s.at_ 32)]) := by
  obtain ⟨h1, h2, h3⟩ := h
  by_cases he : s.e = 0
  · rw [if_pos he, rdTexts, ← h1] at h3
    simp only [RS.face, RS.got, if_pos he]
    rcases hX : rdText s.b s.at_ 32 with c | ⟨x, q⟩
    · rw [hX] at h3
      exact ⟨h1, ⟨h2.le, h2.mx⟩, by rw [if_neg (rdText_err hX)]; exact h3.symm⟩
    · rw [hX] at h3
      exact ⟨h1, ⟨rdText_p hX, h2.mx⟩, by rw [if_pos he, ← h1]; exact h3⟩
  · rw [if_neg he] at h3
    simp only [RS.face, RS.got, if_neg he]
    exact ⟨h1, h2, by rw [if_neg he]; exact h3⟩
end Go.Proofs.YtkiccbjngokpjaaGreat

/-
  The forms of pack and their readers: what is read is what stands there. Of no program.
-/
namespace Go.Proofs.YtkiccbjngokpjaaGreat
set_option linter.unusedVariables false
set_option linter.unusedSimpArgs false

def bl (b : ByteArray) : List UInt8 := b.data.toList
theorem bl_len (b : ByteArray) : (bl b).length = b.size := rfl
theorem bl_app (a b : ByteArray) : bl (a ++ b) = bl a ++ bl b := by simp [bl]
theorem bl_inj {a b : ByteArray} (h : bl a = bl b) : a = b := by
  cases a; cases b
  simp only [bl] at h
  rw [ByteArray.mk.injEq]
  exact Array.ext' h
theorem bl_mk (l : List UInt8) : bl ⟨l.toArray⟩ = l := by simp [bl]
theorem mk_bl (b : ByteArray) : (⟨(bl b).toArray⟩ : ByteArray) = b := bl_inj (bl_mk _)

/-- The bytes l stand in b from p to q. -/
structure Rds (b : ByteArray) (p : Nat) (l : List UInt8) (q : Nat) : Prop where
  eq : (bl b).drop p = l ++ (bl b).drop q
  at_ : q = p + l.length
  le : q ≤ b.size

theorem Rds.nil {b : ByteArray} {p q : Nat} : Rds b p [] q ↔ q = p ∧ p ≤ b.size := by
  constructor
  · rintro ⟨h1, h2, h3⟩
    have : q = p := by simpa using h2
    exact ⟨this, by omega⟩
  · rintro ⟨rfl, h⟩
    exact ⟨rfl, rfl, h⟩
theorem Rds.append {b : ByteArray} {p q : Nat} {l m : List UInt8} : Rds b p (l ++ m) q ↔ ∃ k, Rds b p l k ∧ Rds b k m q := by
  constructor
  · rintro ⟨h1, h2, h3⟩
    rw [List.length_append] at h2
    refine ⟨p + l.length, ⟨?_, rfl, by omega⟩, ⟨?_, by omega, h3⟩⟩
    · rw [← List.drop_drop, h1, List.append_assoc, List.drop_left]
    · rw [← List.drop_drop, h1, List.append_assoc, List.drop_left]
  · rintro ⟨k, ⟨h1, h2, h3⟩, ⟨h4, h5, h6⟩⟩
    exact ⟨by rw [h1, h4, List.append_assoc], by rw [List.length_append]; omega, h6⟩
theorem Rds.uniq {b : ByteArray} {p q q' : Nat} {l : List UInt8} (h : Rds b p l q) (h' : Rds b p l q') : q = q' := by rw [h.at_, h'.at_]
theorem Rds.cons {b : ByteArray} {p q : Nat} {x : UInt8} {l : List UInt8} : Rds b p (x :: l) q ↔ p < b.size ∧ bAt b p = x.toNat ∧ Rds b (p + 1) l q := by
  constructor
  · rintro ⟨h1, h2, h3⟩
    simp only [List.length_cons] at h2
    have hp : p < b.size := by omega
    have hx : (bl b)[p]? = some x := by
      have := congrArg (fun l => l[0]?) h1
      simpa using this
    refine ⟨hp, ?_, ?_, by omega, h3⟩
    · unfold bAt
      rw [List.getD_eq_getElem?_getD, show b.data.toList = bl b from rfl, hx]; rfl
    · rw [← List.drop_drop, h1]; rfl
  · rintro ⟨hp, hx, h1, h2, h3⟩
    refine ⟨?_, by simp only [List.length_cons]; omega, h3⟩
    rw [List.drop_eq_getElem_cons (show p < (bl b).length from hp), h1]
    congr 1
    unfold bAt at hx
    rw [List.getD_eq_getElem?_getD, List.getElem?_eq_getElem (show p < b.data.toList.length from hp)] at hx
    exact UInt8.toNat_inj.1 hx

theorem pow7 (i : Nat) : 2 ^ (7 * (i + 1)) = 2 ^ (7 * i) * 128 := by rw [Nat.mul_add, Nat.pow_add]
theorem pow_room {i : Nat} (h : i ≤ 8) : 2 ^ (64 - 7 * i) = 128 * 2 ^ (64 - 7 * (i + 1)) := by
  rw [show 64 - 7 * i = 7 + (64 - 7 * (i + 1)) by omega, Nat.pow_add]

theorem rdN_sound {b : ByteArray} {at_ : Nat} : ∀ (k i n : Nat) {x q : Nat}, k + i = 10 → rdN b at_ k i n = .ok (x, q) → ∃ v, x = n + v * 2 ^ (7 * i) ∧ Rds b (at_ + i) (Lib.uvarint v) q ∧ v < 2 ^ (64 - 7 * i) ∧ (0 < i → v ≠ 0)
  | 0, i, n, x, q, _, h => by simp [rdN] at h
  | k + 1, i, n, x, q, hk, h => by
    rw [rdN] at h
    split at h
    · rename_i hlt
      have hc := bAt_lt b (at_ + i)
      split at h
      · rename_i hbig
        obtain ⟨v, hv, hr, hb, h0⟩ := rdN_sound k (i + 1) _ (by omega) h
        have hv0 := h0 (by omega)
        have hi8 : i ≤ 8 := by
          rcases Nat.lt_or_ge 8 i with h9 | h9
          · have : i = 9 := by omega
            subst this
            simp at hb; omega
          · exact h9
        refine ⟨bAt b (at_ + i) % 128 + 128 * v, ?_, ?_, ?_, fun _ => by omega⟩
        · rw [hv, pow7, Nat.add_mul, Nat.add_assoc]
          congr 2
          rw [Nat.mul_comm 128 v, Nat.mul_assoc, Nat.mul_comm 128]
        · rw [Lib.uvarint_big (by omega), Rds.cons]
          refine ⟨hlt, ?_, ?_⟩
          · rw [show (bAt b (at_ + i) % 128 + 128 * v) % 128 + 128 = bAt b (at_ + i) by omega]
            simp; omega
          · rw [show (bAt b (at_ + i) % 128 + 128 * v) / 128 = v by omega]
            exact hr
        · rw [pow_room hi8]; omega
      · rename_i hsm
        split at h
        · cases h
        · rename_i hok
          simp only [Except.ok.injEq, Prod.mk.injEq] at h
          obtain ⟨rfl, rfl⟩ := h
          refine ⟨bAt b (at_ + i), rfl, ?_, ?_, fun hi => by omega⟩
          · rw [Lib.uvarint_small (by omega), Rds.cons, Rds.nil]
            exact ⟨hlt, by simp; omega, rfl, by omega⟩
          · by_cases h9 : i = 9
            · subst h9; simp; omega
            · rw [pow_room (by omega)]
              have := Nat.two_pow_pos (64 - 7 * (i + 1))
              omega
    · cases h

theorem rdN_whole {b : ByteArray} {at_ : Nat} : ∀ (k i n v : Nat) {q : Nat}, k + i = 10 → Rds b (at_ + i) (Lib.uvarint v) q → v < 2 ^ (64 - 7 * i) → (0 < i → v ≠ 0) → rdN b at_ k i n = .ok (n + v * 2 ^ (7 * i), q)
  | 0, i, n, v, q, hk, hr, hb, h0 => by
    have : i = 10 := by omega
    subst this
    have := h0 (by omega)
    simp at hb; omega
  | k + 1, i, n, v, q, hk, hr, hb, h0 => by
    rw [rdN]
    by_cases hv : v < 128
    · rw [Lib.uvarint_small hv, Rds.cons, Rds.nil] at hr
      obtain ⟨h1, h2, rfl, h3⟩ := hr
      have h2 : bAt b (at_ + i) = v := by rw [h2]; simp; omega
      rw [if_pos h1, h2, if_neg (by omega), if_neg]
      rintro (⟨h4, h5⟩ | ⟨h4, h5⟩)
      · exact h0 h4 h5
      · subst h4; simp at hb; omega
    · rw [Lib.uvarint_big (by omega), Rds.cons] at hr
      obtain ⟨h1, h2, h3⟩ := hr
      have h2 : bAt b (at_ + i) = v % 128 + 128 := by rw [h2]; simp; omega
      have hi8 : i ≤ 8 := by
        rcases Nat.lt_or_ge 8 i with h9 | h9
        · have : i = 9 := by omega
          subst this
          simp at hb; omega
        · exact h9
      rw [pow_room hi8] at hb
      rw [if_pos h1, h2, if_pos (by omega), rdN_whole k (i + 1) _ (v / 128) (by omega) h3 (by omega) (fun _ => by omega)]
      congr 2
      rw [pow7, Nat.add_assoc]
      congr 1
      rw [show (v % 128 + 128) % 128 = v % 128 by omega, Nat.mul_comm (2 ^ (7 * i)) 128, ← Nat.mul_assoc, ← Nat.add_mul]
      congr 1
      omega

theorem rdMost_iff {b : ByteArray} {p n q : Nat} {m o : Int} : rdMost b p m o = .ok (n, q) ↔ Rds b p (bl (nf n)) q ∧ (n : Int) ≤ m ∧ n < 18446744073709551616 := by
  have e : bl (nf n) = Lib.uvarint n := bl_mk _
  rw [e]
  constructor
  · intro h
    unfold rdMost at h
    split at h
    · cases h
    · rename_i x y hx
      split at h
      · cases h
      · simp only [Except.ok.injEq, Prod.mk.injEq] at h
        obtain ⟨rfl, rfl⟩ := h
        obtain ⟨v, h1, h2, h3, _⟩ := rdN_sound 10 0 0 rfl hx
        have : x = v := by simpa using h1
        subst this
        exact ⟨h2, by omega, by simpa using h3⟩
  · rintro ⟨h1, h2, h3⟩
    unfold rdMost
    rw [rdN_whole 10 0 0 n rfl h1 (by simpa using h3) (fun h => absurd h (Nat.lt_irrefl 0))]
    simp only [Nat.mul_zero, Nat.pow_zero, Nat.mul_one, Nat.zero_add]
    rw [if_neg (by omega)]
theorem rdNum_iff {b : ByteArray} {p n q : Nat} {m : Int} : rdNum b p m = some (n, q) ↔ Rds b p (bl (nf n)) q ∧ (n : Int) ≤ m ∧ n < 18446744073709551616 := by
  rw [← rdMost_iff (o := 21)]
  unfold rdNum
  split
  · rename_i x hx; rw [hx]; simp
  · rename_i c hc; rw [hc]; simp

theorem extract_bl (b : ByteArray) (p q : Nat) : bl (b.extract p q) = ((bl b).take q).drop p := by
  simp [bl, ByteArray.data_extract, Array.toList_extract, List.extract_eq_take_drop, List.drop_take]
theorem rdText_iff {b : ByteArray} {p q : Nat} {m : Int} {t : ByteArray} (hm : 0 ≤ m) (hb : b.size < 18446744073709551616) : rdText b p m = .ok (t, q) ↔ Rds b p (bl (tf t)) q ∧ (t.size : Int) ≤ m := by
  have e : bl (tf t) = bl (nf t.size) ++ bl t := bl_app _ _
  rw [e, Rds.append]
  have hmx : max 0 m = m := by omega
  unfold rdText
  rw [hmx]
  constructor
  · intro h
    split at h
    · cases h
    · rename_i n k hn
      obtain ⟨h1, h2, h3⟩ := rdMost_iff.1 hn
      split at h
      · rename_i hle
        simp only [Except.ok.injEq, Prod.mk.injEq] at h
        obtain ⟨rfl, rfl⟩ := h
        have hs : (b.extract k (k + n)).size = n := by rw [ByteArray.size_extract]; omega
        refine ⟨⟨k, by rw [hs]; exact h1, ?_, by rw [bl_len, hs], hle⟩, by rw [hs]; exact h2⟩
        rw [extract_bl, List.drop_take, Nat.add_sub_cancel_left, ← List.drop_drop, List.take_append_drop]
      · cases h
  · rintro ⟨⟨k, h1, h2⟩, h3⟩
    have hts : t.size ≤ b.size := by have h4 := h2.at_; have h5 := h2.le; have h6 := bl_len t; omega
    rw [rdMost_iff.2 ⟨h1, h3, by omega⟩]
    have hq : q = k + t.size := h2.at_
    subst hq
    simp only
    rw [if_pos h2.le]
    congr 2
    apply bl_inj
    rw [extract_bl, List.drop_take, Nat.add_sub_cancel_left, h2.eq]
    exact List.take_left

theorem bAt_get {b : ByteArray} {p : Nat} (h : p < b.size) : (bl b)[p]? = some (bAt b p).toUInt8 := by
  rw [List.getElem?_eq_getElem (show p < (bl b).length from h)]
  unfold bAt
  rw [List.getD_eq_getElem?_getD, List.getElem?_eq_getElem (show p < b.data.toList.length from h)]
  simp [bl]
theorem bitB_nat (n k : Nat) : (bitB n k).toNat = n / 2 ^ (56 - 8 * k) % 256 := by
  unfold bitB; simp
theorem bf_cons (n : Nat) : bl (bf n) = [bitB n 0, bitB n 1, bitB n 2, bitB n 3, bitB n 4, bitB n 5, bitB n 6, bitB n 7] := rfl
theorem rdBits_iff {b : ByteArray} {p n q : Nat} : rdBits b p = .ok (n, q) ↔ Rds b p (bl (bf n)) q ∧ n < 18446744073709551616 := by
  rw [bf_cons]
  simp only [Rds.cons, Rds.nil, bitB_nat, Nat.add_assoc, Nat.reduceAdd]
  have h0 := bAt_lt b p; have h1 := bAt_lt b (p + 1); have h2 := bAt_lt b (p + 2); have h3 := bAt_lt b (p + 3); have h4 := bAt_lt b (p + 4); have h5 := bAt_lt b (p + 5); have h6 := bAt_lt b (p + 6); have h7 := bAt_lt b (p + 7)
  have hbe : beN b p 8 = ((((((bAt b p * 256 + bAt b (p + 1)) * 256 + bAt b (p + 2)) * 256 + bAt b (p + 3)) * 256 + bAt b (p + 4)) * 256 + bAt b (p + 5)) * 256 + bAt b (p + 6)) * 256 + bAt b (p + 7) := by
    simp [beN]
  unfold rdBits
  constructor
  · intro h
    split at h
    · simp only [Except.ok.injEq, Prod.mk.injEq] at h
      obtain ⟨h8, rfl⟩ := h
      rw [hbe] at h8
      clear hbe
      refine ⟨⟨by omega, ?_, by omega, ?_, by omega, ?_, by omega, ?_, by omega, ?_, by omega, ?_, by omega, ?_, by omega, ?_, rfl, by omega⟩, ?_⟩
      all_goals (subst h8; (try simp only [Nat.reduceMul, Nat.reduceSub, Nat.reducePow]); omega)
    · cases h
  · rintro ⟨⟨a0, b0, a1, b1, a2, b2, a3, b3, a4, b4, a5, b5, a6, b6, a7, b7, rfl, a8⟩, hn⟩
    rw [if_pos (by omega), hbe]
    clear hbe
    simp only [Nat.reduceMul, Nat.reduceSub, Nat.reducePow] at b0 b1 b2 b3 b4 b5 b6 b7
    rw [b0, b1, b2, b3, b4, b5, b6, b7]
    congr 2
    omega

end Go.Proofs.YtkiccbjngokpjaaGreat

/-
  Messages and their bytes, plainly. Of no program.
-/
namespace Go.Proofs.YtkiccbjngokpjaaGreat
open Go.RowKit
set_option linter.unusedVariables false
set_option linter.unusedSimpArgs false

/-- A message. -/
structure MV where
  kind : Int
  ses : Int
  num : Int
  job : Int
  bad : Int
  idx : Int
  cnt : Int
  code : Int
  bits : Int
  text : ByteArray
  prog : ByteArray
def MV.f (m : MV) : List Value := [.int .i64 m.kind, .int .i64 m.ses, .int .i64 m.num, .int .i64 m.job, .int .i64 m.bad, .int .i64 m.idx, .int .i64 m.cnt, .int .i64 m.code, .int .u64 m.bits, .string m.text, .string m.prog]
def MV.of (k : Int) : MV := ⟨k, 0, 0, 0, 0, 0, 0, 0, 0, ⟨#[]⟩, ⟨#[]⟩⟩

/-- How one of a message is looked at. -/
inductive Fd where
  | int (s : Nat) (least most : Int)
  | text (s : Nat) (least most : Int)
  | res
def MV.int (m : MV) (s : Nat) : Int := if s = 1 then m.ses else if s = 2 then m.num else if s = 3 then m.job else if s = 4 then m.bad else if s = 5 then m.idx else m.cnt
def MV.str (m : MV) (s : Nat) : ByteArray := if s = 9 then m.text else m.prog
def MV.setInt (m : MV) (s : Nat) (v : Int) : MV := if s = 1 then { m with ses := v } else if s = 2 then { m with num := v } else if s = 3 then { m with job := v } else if s = 4 then { m with bad := v } else if s = 5 then { m with idx := v } else { m with cnt := v }
def MV.setStr (m : MV) (s : Nat) (v : ByteArray) : MV := if s = 9 then { m with text := v } else { m with prog := v }
/-- The form of a number that is there once. -/
def canonB (n : Int) : Bool := true
def Fd.may (m : MV) : Fd → Bool
  | .int s l u => decide (l ≤ m.int s) && decide (m.int s ≤ u)
  | .text s l u => decide (l ≤ (m.str s).size) && decide ((m.str s).size ≤ u)
  | .res => false
def Fd.lay (m : MV) : Fd → ByteArray
  | .int s _ _ => nf (m.int s).toNat
  | .text s _ _ => tf (m.str s)
  | .res => nf m.code.toNat ++ bf m.bits.toNat
def Fd.got (s : RS) (n : MV) : Fd → MV
  | .int k _ _ => n.setInt k (s.got 0 (rdMost s.b s.at_ 1099511627776 21) : Nat)
  | .text k _ u => n.setStr k (s.got ⟨#[]⟩ (rdText s.b s.at_ u))
  | .res => n
def Fd.face (s : RS) : Fd → RS
  | .int _ _ _ => s.face (rdMost s.b s.at_ 1099511627776 21)
  | .text _ _ u => s.face (rdText s.b s.at_ u)
  | .res => s
/-- A field is taken from another message. -/
def Fd.copy (m n : MV) : Fd → MV
  | .int k _ _ => n.setInt k (m.int k)
  | .text k _ _ => n.setStr k (m.str k)
  | .res => { n with code := m.code, bits := m.bits }
abbrev fS : Fd := .int 1 1 1099511627776
abbrev fN : Fd := .int 2 1 1099511627776
abbrev fJ : Fd := .int 3 1 8
abbrev fB : Fd := .int 4 1 1099511627776
abbrev fI (u : Int) : Fd := .int 5 0 u
abbrev fC (u : Int) : Fd := .int 6 0 u
abbrev fL : Fd := .text 9 0 32
abbrev fP : Fd := .text 10 1 1024
def fdsOf (k : Int) : List Fd :=
  if k = 3 then [fS, fN, fB] else if k = 4 then [fS, fN, fB, fC 32, .res] else if k = 5 then [fB, fI 31, fL] else if k = 6 then [fJ, fB, fI 16, fL] else if k = 7 then [fS] else if k = 9 then [fS, fN, fJ, fB, fP]
  else if k = 14 then [fB, fC 32] else if k = 15 then [fJ, fB, fC 17] else if k = 16 then [fJ, fB] else if k = 1 then [] else [fS, fN]

/-- A letter's field is taken from another message. -/
def letter (m n : MV) (c : UInt8) : MV :=
  if c = 115 then { n with ses := m.ses } else if c = 110 then { n with num := m.num } else if c = 106 then { n with job := m.job } else if c = 98 then { n with bad := m.bad } else if c = 105 then { n with idx := m.idx }
  else if c = 99 then { n with cnt := m.cnt } else if c = 114 then { n with code := m.code, bits := m.bits } else if c = 116 then { n with text := m.text } else { n with prog := m.prog }
/-- A kind's letters. -/
def wordOf (k : Int) : List UInt8 :=
  if k = 2 then [115, 110] else if k = 3 then [115, 110, 98] else if k = 4 then [115, 110, 98, 99, 114] else if k = 5 then [98, 105, 116] else if k = 6 then [106, 98, 105, 116] else if k = 7 then [115] else if k = 8 then [115, 110]
  else if k = 9 then [115, 110, 106, 98, 112] else if k = 10 then [115, 110] else if k = 11 then [115, 110] else if k = 12 then [115, 110] else if k = 13 then [115, 110] else if k = 14 then [98, 99] else if k = 15 then [106, 98, 99]
  else if k = 16 then [106, 98] else []
def MV.named (m : MV) : MV := (wordOf m.kind).foldl (letter m) (MV.of m.kind)

/-- A message that may be (of no result). -/
structure MV.Ok (m : MV) : Prop where
  k : 1 ≤ m.kind ∧ m.kind ≤ 16
  k4 : m.kind ≠ 4
  nm : m.named = m
  pt : ¬ (m.kind = 6 ∧ m.idx = 0 ∧ m.text ≠ ⟨#[]⟩)
  fd : ∀ f ∈ fdsOf m.kind, f.may m = true
def MV.enc (m : MV) : ByteArray := (fdsOf m.kind).foldl (fun b f => b ++ f.lay m) (nf m.kind.toNat)

theorem kinds {k : Int} (h : 1 ≤ k ∧ k ≤ 16) (h4 : k ≠ 4) : k = 1 ∨ k = 2 ∨ k = 3 ∨ k = 5 ∨ k = 6 ∨ k = 7 ∨ k = 8 ∨ k = 9 ∨ k = 10 ∨ k = 11 ∨ k = 12 ∨ k = 13 ∨ k = 14 ∨ k = 15 ∨ k = 16 := by omega

theorem fds_kinds (k : Int) (h4 : k ≠ 4) : ∀ f ∈ fdsOf k, f ≠ .res := by
  unfold fdsOf
  rw [if_neg h4]
  intro f hf
  repeat' split at hf
  all_goals (simp at hf)
  all_goals (first | (rcases hf with rfl | rfl | rfl | rfl | rfl <;> simp) | (rcases hf with rfl | rfl | rfl | rfl <;> simp) | (rcases hf with rfl | rfl | rfl <;> simp) | (rcases hf with rfl | rfl <;> simp) | (rcases hf with rfl <;> simp))

/-- All the fields of a message are its own. -/
theorem named_copy {m : MV} (h : m.Ok) : (fdsOf m.kind).foldl (Fd.copy m) (MV.of m.kind) = m := by
  have hn := h.nm
  obtain ⟨k, a1, a2, a3, a4, a5, a6, a7, a8, a9, a10⟩ := m
  have hk := kinds h.k h.k4
  simp only at hk
  rcases hk with rfl | rfl | rfl | rfl | rfl | rfl | rfl | rfl | rfl | rfl | rfl | rfl | rfl | rfl | rfl <;> exact hn

theorem Fd.face_ok {s : RS} {m : MV} {f : Fd} {q : Nat} (n : MV) (he : s.e = 0) (hw : s.wf) (hf : f ≠ .res) (hm : f.may m = true) (hb : ∀ k l u, f = .int k l u → 0 ≤ l ∧ u ≤ 1099511627776) (ht : ∀ k l u, f = .text k l u → 0 ≤ u) (h : Rds s.b s.at_ (bl (f.lay m)) q) :
    f.face s = { s with at_ := q } ∧ f.got s n = f.copy m n := by
  cases f with
  | res => exact absurd rfl hf
  | int k l u =>
    obtain ⟨h0, h1⟩ := hb k l u rfl
    simp only [Fd.may, Bool.and_eq_true, decide_eq_true_eq] at hm
    have hv : ((m.int k).toNat : Int) = m.int k := by omega
    have hr : rdMost s.b s.at_ 1099511627776 21 = .ok ((m.int k).toNat, q) := rdMost_iff.2 ⟨h, by omega, by omega⟩
    refine ⟨?_, ?_⟩
    · show s.face (rdMost s.b s.at_ 1099511627776 21) = _
      rw [hr]
      unfold RS.face
      rw [if_pos he]
    · show n.setInt k (s.got 0 (rdMost s.b s.at_ 1099511627776 21) : Nat) = n.setInt k (m.int k)
      rw [hr]
      unfold RS.got
      rw [if_pos he]
      simp only
      rw [hv]
  | text k l u =>
    have h0 := ht k l u rfl
    simp only [Fd.may, Bool.and_eq_true, decide_eq_true_eq] at hm
    have hmx := hw.mx
    have hr : rdText s.b s.at_ u = .ok (m.str k, q) := (rdText_iff h0 (by omega)).2 ⟨h, hm.2⟩
    refine ⟨?_, ?_⟩
    · show s.face (rdText s.b s.at_ u) = _
      rw [hr]
      unfold RS.face
      rw [if_pos he]
    · show n.setStr k (s.got ⟨#[]⟩ (rdText s.b s.at_ u)) = n.setStr k (m.str k)
      rw [hr]
      unfold RS.got
      rw [if_pos he]

theorem fds_bounds (k : Int) : ∀ f ∈ fdsOf k, (∀ s l u, f = .int s l u → 0 ≤ l ∧ u ≤ 1099511627776) ∧ ∀ s l u, f = .text s l u → 0 ≤ u := by
  unfold fdsOf
  intro f hf
  repeat' split at hf
  all_goals (simp at hf)
  all_goals (first | (rcases hf with rfl | rfl | rfl | rfl | rfl) | (rcases hf with rfl | rfl | rfl | rfl) | (rcases hf with rfl | rfl | rfl) | (rcases hf with rfl | rfl) | (rcases hf with rfl))
  all_goals (refine ⟨fun s l u e => ?_, fun s l u e => ?_⟩ <;> first | (simp only [Fd.int.injEq] at e; omega) | (simp only [Fd.text.injEq] at e; omega) | cases e)

/-- What is laid. -/
def layB (m : MV) : List Fd → List UInt8
  | [] => []
  | f :: l => bl (f.lay m) ++ layB m l
theorem enc_fold (m : MV) : ∀ (l : List Fd) (b : ByteArray), bl (l.foldl (fun b f => b ++ f.lay m) b) = bl b ++ layB m l
  | [], b => by simp [layB]
  | f :: l, b => by
    rw [List.foldl_cons, enc_fold m l, bl_app, layB, List.append_assoc]
theorem enc_bl (m : MV) : bl m.enc = bl (nf m.kind.toNat) ++ layB m (fdsOf m.kind) := enc_fold _ _ _

/-- The fields are read, one behind the other. -/
def rdF : RS → MV → List Fd → RS × MV
  | s, n, [] => (s, n)
  | s, n, f :: l => rdF (f.face s) (f.got s n) l
theorem rdF_snoc (s : RS) (n : MV) (l : List Fd) (f : Fd) : rdF s n (l ++ [f]) = (f.face (rdF s n l).1, f.got (rdF s n l).1 (rdF s n l).2) := by
  induction l generalizing s n with
  | nil => rfl
  | cons g l ih => exact ih _ _
theorem rdF_ok {m : MV} : ∀ (l : List Fd) (s : RS) (n : MV) (q : Nat), s.e = 0 → s.wf → (∀ f ∈ l, f ≠ .res ∧ f.may m = true ∧ (∀ s l u, f = .int s l u → 0 ≤ l ∧ u ≤ 1099511627776) ∧ ∀ s l u, f = .text s l u → 0 ≤ u) → Rds s.b s.at_ (layB m l) q →
    rdF s n l = ({ s with at_ := q }, l.foldl (Fd.copy m) n)
  | [], s, n, q, he, hw, h, hr => by
    have := (Rds.nil.1 hr).1
    subst this
    rfl
  | f :: l, s, n, q, he, hw, h, hr => by
    obtain ⟨k, hr1, hr2⟩ := Rds.append.1 hr
    obtain ⟨h1, h2, h3, h4⟩ := h f (by simp)
    obtain ⟨e1, e2⟩ := Fd.face_ok n he hw h1 h2 h3 h4 hr1
    rw [rdF, e1, e2, rdF_ok l { s with at_ := k } _ q he ⟨hr1.le, hw.mx⟩ (fun g hg => h g (by simp [hg])) hr2]
    rfl
theorem Rds.whole (b : ByteArray) : Rds b 0 (bl b) b.size := ⟨by simp [bl], by rw [bl_len]; omega, Nat.le_refl _⟩
theorem Rds.front {b : ByteArray} {l m : List UInt8} (h : bl b = l ++ m) : Rds b 0 l l.length ∧ Rds b l.length m b.size := by
  have h0 := Rds.whole b
  rw [h] at h0
  obtain ⟨k, h1, h2⟩ := Rds.append.1 h0
  have : k = l.length := by rw [h1.at_]; omega
  subst this
  exact ⟨h1, h2⟩

/-- There and back. -/
theorem MV.Ok.back {m : MV} (h : m.Ok) (hs : m.enc.size ≤ 140737488355328) : ∃ q, rdMost m.enc 0 16 21 = .ok (m.kind.toNat, q) ∧ q ≤ m.enc.size ∧ rdF ⟨m.enc, q, 0⟩ (MV.of m.kind) (fdsOf m.kind) = (⟨m.enc, m.enc.size, 0⟩, m) := by
  obtain ⟨h1, h2⟩ := Rds.front (enc_bl m)
  have hk := h.k
  refine ⟨_, rdMost_iff.2 ⟨h1, by omega, by omega⟩, h1.le, ?_⟩
  have h3 := rdF_ok (m := m) (fdsOf m.kind) ⟨m.enc, _, 0⟩ (MV.of m.kind) m.enc.size rfl ⟨h1.le, hs⟩ (fun f hf => ⟨fds_kinds _ h.k4 f hf, h.fd f hf, (fds_bounds _ f hf).1, (fds_bounds _ f hf).2⟩) h2
  rw [named_copy h] at h3
  exact h3

theorem Fd.lay_le {m : MV} {f : Fd} (hf : f ≠ .res) (hm : f.may m = true) (hb : ∀ k l u, f = .int k l u → 0 ≤ l ∧ u ≤ 1099511627776) (ht : ∀ k l u, f = .text k l u → u ≤ 1024) : (f.lay m).size ≤ 1034 := by
  have hnf : ∀ n : Nat, n < 18446744073709551616 → (nf n).size ≤ 10 := fun n hn => by
    have := Lib.uvarint_length64 (x := n) hn
    show (Lib.uvarint n).toArray.size ≤ 10
    simpa using this
  cases f with
  | res => exact absurd rfl hf
  | int k l u =>
    obtain ⟨h0, h1⟩ := hb k l u rfl
    simp only [Fd.may, Bool.and_eq_true, decide_eq_true_eq] at hm
    have := hnf (m.int k).toNat (by omega)
    show (nf (m.int k).toNat).size ≤ 1034
    omega
  | text k l u =>
    have h0 := ht k l u rfl
    simp only [Fd.may, Bool.and_eq_true, decide_eq_true_eq] at hm
    have := hnf (m.str k).size (by omega)
    show (nf (m.str k).size ++ m.str k).size ≤ 1034
    rw [ByteArray.size_append]
    omega

end Go.Proofs.YtkiccbjngokpjaaGreat

/-
  pack.Reader: End.
-/
namespace Go.Proofs.YtkiccbjngokpjaaGreat
open Go.RowKit
set_option linter.unusedVariables false
set_option linter.unusedSimpArgs false

def RS.end_ (s : RS) : Int × Int := if s.e = 0 ∧ s.at_ < s.b.size then (24, s.at_) else s.fault
section
variable {W : Base} {w : World} {R : List Thing}
set_option maxHeartbeats 1600000 in
theorem st_end (H : St W w R) (i : Nat) {r : Nat} {s : RS} (hi : R[i]? = some (RdT r s)) :
    Calls Tryz.prog 67 #[.pointer (some ⟨r, 0, none⟩)] w fun e w' => e = .returned (.tuple #[.int .i64 s.end_.1, .int .i64 s.end_.2]) ∧ St W w' R := by
  obtain ⟨c0, c1, c2, f, hl⟩ := H.rd i hi
  have HH := hid (fun m => H.drewN m)
  have hF := hid (fun m => st_fault (H.drewN m) i hi)
  clear H hi f
  unfold RS.end_
  by_cases h : s.e = 0
  · by_cases h2 : s.at_ < s.b.size
    · rw [if_pos ⟨h, h2⟩]
      rw [h] at c2
      have h3 : (s.at_ : Int) < s.b.size := by omega
      have h4 : decide ((s.at_ : Int) < s.b.size) = true := decide_eq_true h3
      clear h
      go_enter Tryz.func67, Tryz.ntmps67
      go_wp2_with fail
      go_quiet (fail)
      go_wp2_with fail
      go_quiet (fail)
      go_wp2_with fail
      go_ret2
      exact ⟨rfl, (HH.out _).drewN _⟩
    · rw [if_neg (fun h => h2 h.2)]
      rw [h] at c2
      have h3 : ¬ (s.at_ : Int) < s.b.size := by omega
      have h4 : decide ((s.at_ : Int) < s.b.size) = false := decide_eq_false h3
      generalize s.fault = z at hF ⊢
      clear h
      go_enter Tryz.func67, Tryz.ntmps67
      go_wp2_with fail
      go_quiet (fail)
      go_wp2_with (go_at_call 104; refine (hF.out _).mono ?_; rintro e w1 ⟨rfl, H1⟩)
      go_ret2
      exact ⟨rfl, H1⟩
  · rw [if_neg (fun h2 => h h2.1)]
    have e1 : (s.e == 0) = false := by rw [beq_eq_false_iff_ne]; exact h
    generalize s.fault = z at hF ⊢
    generalize s.e = y at c2 e1 h
    go_enter Tryz.func67, Tryz.ntmps67
    go_wp2_with fail
    go_quiet (fail)
    go_wp2_with (go_at_call 104; refine (hF.out _).mono ?_; rintro e w1 ⟨rfl, H1⟩)
    go_ret2
    exact ⟨rfl, H1⟩
end

end Go.Proofs.YtkiccbjngokpjaaGreat

/-
  wire: a message in memory; the fields' selectors; whole, text: a field as a thing.
-/
namespace Go.Proofs.YtkiccbjngokpjaaGreat
open Go.RowKit
set_option linter.unusedVariables false
set_option linter.unusedSimpArgs false

abbrev ptr (b : Nat) : Value := .pointer (some ⟨b, 0, none⟩)
abbrev fnV (f : FuncId) : Value := .func (.func f) #[] #[]
/-- A message in memory. -/
abbrev mO (m : MV) : Obj := .cells m.f.toArray 63
/-- The selector of a cell. -/
def selF (s : Nat) : FuncId := if s = 1 then 53 else if s = 2 then 54 else if s = 3 then 55 else if s = 4 then 56 else if s = 5 then 58 else if s = 6 then 60
  else if s = 9 then 62 else 63
def Slot (s : Nat) : Prop := s = 1 ∨ s = 2 ∨ s = 3 ∨ s = 4 ∨ s = 5 ∨ s = 6 ∨ s = 9 ∨ s = 10

theorem sel_enter {s : Nat} (hs : Slot s) (args : Array Value) (w : World) : (callFunc (selF s) args).run Tryz.prog w = .ok (.enter (selF s) args) w := by
  rcases hs with rfl | rfl | rfl | rfl | rfl | rfl | rfl | rfl
  · exact run_enter Tryz.func53 (by kernel_rfl) rfl args w
  · exact run_enter Tryz.func54 (by kernel_rfl) rfl args w
  · exact run_enter Tryz.func55 (by kernel_rfl) rfl args w
  · exact run_enter Tryz.func56 (by kernel_rfl) rfl args w
  · exact run_enter Tryz.func58 (by kernel_rfl) rfl args w
  · exact run_enter Tryz.func60 (by kernel_rfl) rfl args w
  · exact run_enter Tryz.func62 (by kernel_rfl) rfl args w
  · exact run_enter Tryz.func63 (by kernel_rfl) rfl args w

theorem sel_walk {s : Nat} (hs : Slot s) (w : World) (mb : Nat) : Calls Tryz.prog (selF s) #[ptr mb] w fun e w' => e = .returned (.pointer (some ⟨mb, s, none⟩)) ∧ w = w' := by
  rcases hs with rfl | rfl | rfl | rfl | rfl | rfl | rfl | rfl
  · show Calls Tryz.prog 53 _ _ _
    go_enter Tryz.func53, Tryz.ntmps53
    go_wp2
    go_ret
    exact ⟨rfl, rfl⟩
  · show Calls Tryz.prog 54 _ _ _
    go_enter Tryz.func54, Tryz.ntmps54
    go_wp2
    go_ret
    exact ⟨rfl, rfl⟩
  · show Calls Tryz.prog 55 _ _ _
    go_enter Tryz.func55, Tryz.ntmps55
    go_wp2
    go_ret
    exact ⟨rfl, rfl⟩
  · show Calls Tryz.prog 56 _ _ _
    go_enter Tryz.func56, Tryz.ntmps56
    go_wp2
    go_ret
    exact ⟨rfl, rfl⟩
  · show Calls Tryz.prog 58 _ _ _
    go_enter Tryz.func58, Tryz.ntmps58
    go_wp2
    go_ret
    exact ⟨rfl, rfl⟩
  · show Calls Tryz.prog 60 _ _ _
    go_enter Tryz.func60, Tryz.ntmps60
    go_wp2
    go_ret
    exact ⟨rfl, rfl⟩
  · show Calls Tryz.prog 62 _ _ _
    go_enter Tryz.func62, Tryz.ntmps62
    go_wp2
    go_ret
    exact ⟨rfl, rfl⟩
  · show Calls Tryz.prog 63 _ _ _
    go_enter Tryz.func63, Tryz.ntmps63
    go_wp2
    go_ret
    exact ⟨rfl, rfl⟩

theorem run_store_func (w : World) (a : Addr) (m : Mode) (fn : Fn) (first cap : Array Value) : (store a (.func fn first cap) m).run Tryz.prog w = stored Tryz.prog w a (.func fn first cap) m := run_store Tryz.prog w a _ m rfl

/-! ### A field as a thing: its three boxes -/
def Fd.slot : Fd → Nat
  | .int s _ _ => s
  | .text s _ _ => s
  | .res => 0
def Fd.lo : Fd → Int
  | .int _ l _ => l
  | .text _ l _ => l
  | .res => 0
def Fd.up : Fd → Int
  | .int _ _ u => u
  | .text _ _ u => u
  | .res => 0
def Fd.ty : Fd → TypeId
  | .int _ _ _ => 127
  | .text _ _ _ => 131
  | .res => 0
/-- A field's functions. -/
def Fd.v (b : Nat) : Fd → List Value
  | .int _ _ _ => [.func (.func 87) #[] #[ptr b, ptr (b + 1), ptr (b + 2)], .func (.func 88) #[] #[ptr b], .func (.func 89) #[] #[ptr b]]
  | .text _ _ _ => [.func (.func 90) #[] #[ptr b, ptr (b + 1), ptr (b + 2)], .func (.func 91) #[] #[ptr b], .func (.func 93) #[] #[ptr (b + 2), ptr b]]
  | .res => [.func (.func 0) #[] #[], .func (.func 0) #[] #[], .func (.func 0) #[] #[]]
def Fd1 (b : Nat) (f : Fd) : Thing1 := fun w F => F = [b, b + 1, b + 2] ∧ w.heap[b]? = some (.cells #[fnV (selF f.slot)] f.ty (0, 0)) ∧ w.heap[b + 1]? = some (.cells #[.int .i64 f.lo] 3 (0, 0)) ∧ w.heap[b + 2]? = some (.cells #[.int .i64 f.up] 3 (0, 0))
def FdT (b : Nat) (f : Fd) : Thing := own (Fd1 b f)
instance (b : Nat) (f : Fd) : Loc1 (Fd1 b f) where
  keep := fun ⟨h0, h1, h2, h3⟩ hF hd => ⟨h0, hF.keep h1 (hd _ (by rw [h0]; simp)), hF.keep h2 (hd _ (by rw [h0]; simp)), hF.keep h3 (hd _ (by rw [h0]; simp))⟩
  lt := fun ⟨h0, h1, h2, h3⟩ x hx => by
    rw [h0] at hx
    simp at hx
    rcases hx with rfl | rfl | rfl
    · exact lt_of_block h1
    · exact lt_of_block h2
    · exact lt_of_block h3

section
variable {W : Base} {w : World} {R : List Thing}
theorem St.newFd (H : St W w R) (f : Fd) : St W (((w.alloc (.cells #[fnV (selF f.slot)] f.ty)).alloc (.cells #[.int .i64 f.lo] 3)).alloc (.cells #[.int .i64 f.up] 3)) (R ++ [FdT w.heap.size f]) := by
  refine H.new (F := [w.heap.size, w.heap.size + 1, w.heap.size + 2]) ((((Fr.refl _ _).alloc _).alloc _).alloc _) inferInstance ⟨rfl, ?_, ?_, ?_⟩ (fun x hx => by simp at hx; omega)
  · exact blk_alloc_lt _ (blk_alloc_lt _ (blk_alloc_at _ _ _ rfl))
  · exact blk_alloc_lt _ (blk_alloc_at _ _ _ (by simp))
  · exact blk_alloc_at _ _ _ (by simp)

theorem St.fd (H : St W w R) (j : Nat) {b : Nat} {f : Fd} (hj : R[j]? = some (FdT b f)) : w.cell? ⟨b, 0, none⟩ = some (fnV (selF f.slot)) ∧ w.cell? ⟨b + 1, 0, none⟩ = some (.int .i64 f.lo) ∧ w.cell? ⟨b + 2, 0, none⟩ = some (.int .i64 f.up) := by
  obtain ⟨F, ⟨_, h1, h2, h3⟩, _⟩ := H.get j hj
  exact ⟨cell_blk h1 rfl, cell_blk h2 rfl, cell_blk h3 rfl⟩

theorem st_whole (H : St W w R) (s : Nat) (l u : Int) : Calls Tryz.prog 52 #[fnV (selF s), .int .i64 l, .int .i64 u] w fun e w' => e = .returned (.agg (Fd.v w.heap.size (.int s l u)).toArray) ∧ St W w' (R ++ [FdT w.heap.size (.int s l u)]) := by
  have hmf : ∀ (fn : Fn) (first cap : Array Value) (w : World), (Instr.makeFunc fn first cap).run Tryz.prog w = .ok (.func fn first cap) w := fun _ _ _ _ => rfl
  have hsf := run_store_func
  have HN := hid (H.newFd (.int s l u))
  clear H
  obtain ⟨F, hF⟩ : ∃ F, selF s = F := ⟨_, rfl⟩
  rw [hF]
  have hF := hid hF
  go_enter Tryz.func52, Tryz.ntmps52
  go_wp2_with fail
  have H2 := HN.out.alloc_ (.cells (Fd.v w.heap.size (.int s l u)).toArray 107)
  dsimp only [Fd.slot, Fd.lo, Fd.up, Fd.ty] at H2
  rw [hF.out] at H2
  have e1 : w.heap.size + 1 + 1 = w.heap.size + 2 := rfl
  have e2 : w.heap.size + 1 + 1 + 1 = w.heap.size + 3 := rfl
  refine bodyPost_ret (v := .agg (Fd.v w.heap.size (.int s l u)).toArray) ?_ rfl ⟨rfl, H2⟩
  have hb := blk_alloc_at (((w.alloc (.cells #[fnV F] 127)).alloc (.cells #[.int .i64 l] 3)).alloc (.cells #[.int .i64 u] 3)) (.cells (Fd.v w.heap.size (.int s l u)).toArray 107) (w.heap.size + 1 + 1 + 1) (by simp)
  have x0 := cell_blk (i := 0) hb rfl
  have x1 := cell_blk (i := 1) hb rfl
  have x2 := cell_blk (i := 2) hb rfl
  dsimp only [Fd.v] at x0 x1 x2 ⊢
  simp [results, Tryz.results52, go_sem, x0, x1, x2]
theorem st_wtext (H : St W w R) (s : Nat) (l u : Int) : Calls Tryz.prog 61 #[fnV (selF s), .int .i64 l, .int .i64 u] w fun e w' => e = .returned (.agg (Fd.v w.heap.size (.text s l u)).toArray) ∧ St W w' (R ++ [FdT w.heap.size (.text s l u)]) := by
  have hmf : ∀ (fn : Fn) (first cap : Array Value) (w : World), (Instr.makeFunc fn first cap).run Tryz.prog w = .ok (.func fn first cap) w := fun _ _ _ _ => rfl
  have hsf := run_store_func
  have HN := hid (H.newFd (.text s l u))
  clear H
  obtain ⟨F, hF⟩ : ∃ F, selF s = F := ⟨_, rfl⟩
  rw [hF]
  have hF := hid hF
  go_enter Tryz.func61, Tryz.ntmps61
  go_wp2_with fail
  have H2 := HN.out.alloc_ (.cells (Fd.v w.heap.size (.text s l u)).toArray 107)
  dsimp only [Fd.slot, Fd.lo, Fd.up, Fd.ty] at H2
  rw [hF.out] at H2
  have e1 : w.heap.size + 1 + 1 = w.heap.size + 2 := rfl
  have e2 : w.heap.size + 1 + 1 + 1 = w.heap.size + 3 := rfl
  refine bodyPost_ret (v := .agg (Fd.v w.heap.size (.text s l u)).toArray) ?_ rfl ⟨rfl, H2⟩
  have hb := blk_alloc_at (((w.alloc (.cells #[fnV F] 131)).alloc (.cells #[.int .i64 l] 3)).alloc (.cells #[.int .i64 u] 3)) (.cells (Fd.v w.heap.size (.text s l u)).toArray 107) (w.heap.size + 1 + 1 + 1) (by simp)
  have x0 := cell_blk (i := 0) hb rfl
  have x1 := cell_blk (i := 1) hb rfl
  have x2 := cell_blk (i := 2) hb rfl
  dsimp only [Fd.v] at x0 x1 x2 ⊢
  simp [results, Tryz.results61, go_sem, x0, x1, x2]
end

end Go.Proofs.YtkiccbjngokpjaaGreat

/-
  wire: a field's functions: may, lay, read.
-/
namespace Go.Proofs.YtkiccbjngokpjaaGreat
open Go.RowKit
set_option linter.unusedVariables false
set_option linter.unusedSimpArgs false

section
variable {W : Base} {w : World} {R : List Thing}
theorem St.msg (H : St W w R) (i : Nat) {mb : Nat} {m : MV} (hi : R[i]? = some (BlkT mb (mO m))) {k : Nat} {v : Value} (hv : m.f[k]? = some v) : w.cell? ⟨mb, k, none⟩ = some v := by
  refine cell_blk (H.blk i hi) ?_
  rw [List.getElem?_toArray]
  exact hv
theorem MV.int_cell (m : MV) {s : Nat} (hs : 1 ≤ s ∧ s ≤ 6) : m.f[s]? = some (.int .i64 (m.int s)) := by
  obtain rfl | rfl | rfl | rfl | rfl | rfl : s = 1 ∨ s = 2 ∨ s = 3 ∨ s = 4 ∨ s = 5 ∨ s = 6 := by omega
  all_goals rfl
theorem MV.str_cell (m : MV) {s : Nat} (hs : 9 ≤ s ∧ s ≤ 10) : m.f[s]? = some (.string (m.str s)) := by
  obtain rfl | rfl : s = 9 ∨ s = 10 := by omega
  all_goals rfl
theorem slot_i {s : Nat} (hs : 1 ≤ s ∧ s ≤ 6) : Slot s := by unfold Slot; omega
theorem slot_s {s : Nat} (hs : 9 ≤ s ∧ s ≤ 10) : Slot s := by unfold Slot; omega

theorem st_may_i (H : St W w R) (i j : Nat) {mb b s : Nat} {m : MV} {l u : Int} (hs : 1 ≤ s ∧ s ≤ 6) (hi : R[i]? = some (BlkT mb (mO m))) (hj : R[j]? = some (FdT b (.int s l u))) :
    Calls Tryz.prog 87 #[ptr mb, ptr b, ptr (b + 1), ptr (b + 2)] w fun e w' => e = .returned (.bool (Fd.may m (.int s l u))) ∧ St W w' R := by
  obtain ⟨c0, c1, c2⟩ := H.fd j hj
  have d0 := H.msg i hi (m.int_cell hs)
  dsimp only [Fd.slot, Fd.lo, Fd.up] at c0 c1 c2
  have HC := hid (fun w => sel_walk (slot_i hs) w mb)
  have hent := fun args w => sel_enter (slot_i hs) args w
  have HD := hid (fun n => H.drewN n)
  generalize selF s = F at c0 HC hent
  unfold Fd.may
  dsimp only
  generalize m.int s = x at d0 ⊢
  clear H hi hj hs
  by_cases h1 : l ≤ x
  · by_cases h2 : x ≤ u
    · go_enter Tryz.func87, Tryz.ntmps87
      go_wp2_with fail
      go_quiet (exact quiet_mine (HC.out _))
      go_wp2_with fail
      go_ret
      exact ⟨by simp [h1, h2], HD.out _⟩
    · go_enter Tryz.func87, Tryz.ntmps87
      go_wp2_with fail
      go_quiet (exact quiet_mine (HC.out _))
      go_wp2_with fail
      go_ret
      exact ⟨by simp [h1, h2], HD.out _⟩
  · have hd : decide (l ≤ x) = false := decide_eq_false h1
    have HH := hid h1
    clear h1
    go_enter Tryz.func87, Tryz.ntmps87
    go_wp2_with fail
    go_quiet (exact quiet_mine (HC.out _))
    go_wp2_with fail
    go_ret
    exact ⟨by simp [hd], HD.out _⟩
theorem st_may_s (H : St W w R) (i j : Nat) {mb b s : Nat} {m : MV} {l u : Int} (hs : 9 ≤ s ∧ s ≤ 10) (hi : R[i]? = some (BlkT mb (mO m))) (hj : R[j]? = some (FdT b (.text s l u))) :
    Calls Tryz.prog 90 #[ptr mb, ptr b, ptr (b + 1), ptr (b + 2)] w fun e w' => e = .returned (.bool (Fd.may m (.text s l u))) ∧ St W w' R := by
  obtain ⟨c0, c1, c2⟩ := H.fd j hj
  have d0 := H.msg i hi (m.str_cell hs)
  dsimp only [Fd.slot, Fd.lo, Fd.up] at c0 c1 c2
  have HC := hid (fun w => sel_walk (slot_s hs) w mb)
  have hent := fun args w => sel_enter (slot_s hs) args w
  have HD := hid (fun n => H.drewN n)
  generalize selF s = F at c0 HC hent
  unfold Fd.may
  dsimp only
  generalize m.str s = x at d0 ⊢
  clear H hi hj hs
  by_cases h1 : l ≤ x.size
  · by_cases h2 : x.size ≤ u
    · go_enter Tryz.func90, Tryz.ntmps90
      go_wp2_with fail
      go_quiet (exact quiet_mine (HC.out _))
      go_wp2_with fail
      go_ret
      exact ⟨by simp [h1, h2], HD.out _⟩
    · go_enter Tryz.func90, Tryz.ntmps90
      go_wp2_with fail
      go_quiet (exact quiet_mine (HC.out _))
      go_wp2_with fail
      go_ret
      exact ⟨by simp [h1, h2], HD.out _⟩
  · have hd : decide (l ≤ (x.size : Int)) = false := decide_eq_false h1
    have HH := hid h1
    clear h1
    go_enter Tryz.func90, Tryz.ntmps90
    go_wp2_with fail
    go_quiet (exact quiet_mine (HC.out _))
    go_wp2_with fail
    go_ret
    exact ⟨by simp [hd], HD.out _⟩

theorem st_lay_i (H : St W w R) (i j : Nat) {mb b s : Nat} {m : MV} {l u : Int} (hs : 1 ≤ s ∧ s ≤ 6) (hi : R[i]? = some (BlkT mb (mO m))) (hj : R[j]? = some (FdT b (.int s l u))) (hl : 0 ≤ m.int s ∧ m.int s ≤ 1099511627776) :
    Calls Tryz.prog 88 #[ptr mb, ptr b] w fun e w' => e = .returned (.string (Fd.lay m (.int s l u))) ∧ St W w' R := by
  obtain ⟨c0, c1, c2⟩ := H.fd j hj
  have d0 := H.msg i hi (m.int_cell hs)
  dsimp only [Fd.slot, Fd.lo, Fd.up] at c0 c1 c2
  have HC := hid (fun w => sel_walk (slot_i hs) w mb)
  have hent := fun args w => sel_enter (slot_i hs) args w
  have HD := hid (fun w' (hF : Fr [] w w') => H.same hF)
  generalize selF s = F at c0 HC hent
  unfold Fd.lay
  dsimp only
  obtain ⟨x, hx⟩ : ∃ x : Nat, m.int s = (x : Int) := ⟨(m.int s).toNat, by omega⟩
  rw [hx] at d0 hl ⊢
  rw [Int.toNat_natCast]
  have hxb : x ≤ 1099511627776 := by omega
  have HP := hid (fun w => pack_num w x (by omega))
  have hcv : IntKind.u64.wrap (x : Int) = x := IntWalk.u64_in _ (by omega)
  clear H hi hj hs hl hx hxb
  go_enter Tryz.func88, Tryz.ntmps88
  go_wp2_with fail
  refine (HC.out _).mono ?_
  rintro e w1 ⟨rfl, rfl⟩
  go_wp2_with fail
  refine (HP.out _).mono ?_
  rintro e w1 ⟨rfl, hF⟩
  have hF := hid hF
  go_wp2_with fail
  go_ret
  exact ⟨rfl, HD.out _ hF.out⟩
theorem st_lay_s (H : St W w R) (i j : Nat) {mb b s : Nat} {m : MV} {l u : Int} (hs : 9 ≤ s ∧ s ≤ 10) (hi : R[i]? = some (BlkT mb (mO m))) (hj : R[j]? = some (FdT b (.text s l u))) (hl : (m.str s).size ≤ 1024) :
    Calls Tryz.prog 91 #[ptr mb, ptr b] w fun e w' => e = .returned (.string (Fd.lay m (.text s l u))) ∧ St W w' R := by
  obtain ⟨c0, c1, c2⟩ := H.fd j hj
  have d0 := H.msg i hi (m.str_cell hs)
  dsimp only [Fd.slot, Fd.lo, Fd.up] at c0 c1 c2
  have HC := hid (fun w => sel_walk (slot_s hs) w mb)
  have hent := fun args w => sel_enter (slot_s hs) args w
  have HD := hid (fun w' (hF : Fr [] w w') => H.same hF)
  generalize selF s = F at c0 HC hent
  unfold Fd.lay
  dsimp only
  generalize m.str s = x at d0 hl ⊢
  have HP := hid (fun w => pack_text w x (by omega))
  clear H hi hj hs hl
  go_enter Tryz.func91, Tryz.ntmps91
  go_wp2_with fail
  refine (HC.out _).mono ?_
  rintro e w1 ⟨rfl, rfl⟩
  go_wp2_with fail
  refine (HP.out _).mono ?_
  rintro e w1 ⟨rfl, hF⟩
  have hF := hid hF
  go_wp2_with fail
  go_ret
  exact ⟨rfl, HD.out _ hF.out⟩

theorem MV.set_int (m : MV) {s : Nat} (hs : 1 ≤ s ∧ s ≤ 6) (v : Int) : m.f.toArray.setIfInBounds s (.int .i64 v) = (m.setInt s v).f.toArray := by
  obtain rfl | rfl | rfl | rfl | rfl | rfl : s = 1 ∨ s = 2 ∨ s = 3 ∨ s = 4 ∨ s = 5 ∨ s = 6 := by omega
  all_goals rfl
theorem MV.set_str (m : MV) {s : Nat} (hs : 9 ≤ s ∧ s ≤ 10) (v : ByteArray) : m.f.toArray.setIfInBounds s (.string v) = (m.setStr s v).f.toArray := by
  obtain rfl | rfl : s = 9 ∨ s = 10 := by omega
  all_goals rfl

theorem st_read_i (H : St W w R) (i j k : Nat) {mb b s r : Nat} {m : MV} {x : RS} {l u : Int} (hs : 1 ≤ s ∧ s ≤ 6) (hi : R[i]? = some (BlkT mb (mO m))) (hj : R[j]? = some (FdT b (.int s l u))) (hk : R[k]? = some (RdT r x)) (hik : i ≠ k) (hw : x.wf) :
    Calls Tryz.prog 89 #[ptr mb, ptr r, ptr b] w fun e w' => e = .returned (.tuple #[]) ∧ St W w' ((R.set k (RdT r (Fd.face x (.int s l u)))).set i (BlkT mb (mO (Fd.got x m (.int s l u))))) := by
  obtain ⟨c0, c1, c2⟩ := H.fd j hj
  have d0 := H.msg i hi (m.int_cell hs)
  dsimp only [Fd.slot, Fd.lo, Fd.up] at c0 c1 c2
  have HC := hid (fun w => sel_walk (slot_i hs) w mb)
  have hent := fun args w => sel_enter (slot_i hs) args w
  generalize selF s = F at c0 HC hent
  unfold Fd.face Fd.got
  dsimp only
  have HN := hid (show Calls Tryz.prog 66 #[ptr r, .int .u64 1099511627776] w fun e w' => e = .returned (.int .u64 (x.got 0 (rdMost x.b x.at_ 1099511627776 21) : Nat)) ∧ St W w' (R.set k (RdT r (x.face (rdMost x.b x.at_ 1099511627776 21)))) from st_Num H k hk hw (most := 1099511627776) (by decide))
  obtain ⟨g, hg⟩ : ∃ g, x.got 0 (rdMost x.b x.at_ 1099511627776 21) = g := ⟨_, rfl⟩
  rw [hg]
  rw [hg] at HN
  have hgl : g ≤ 1099511627776 := by
    subst hg
    unfold RS.got
    split
    · split
      · next n p h => have := rdMost_le h; omega
      · exact Nat.zero_le _
    · exact Nat.zero_le _
  have hcv : IntKind.i64.wrap (g : Int) = g := IntWalk.i64_in _ (by omega)
  have HI := hid (show (R.set k (RdT r (x.face (rdMost x.b x.at_ 1099511627776 21))))[i]? = some (BlkT mb (mO m)) by rw [List.getElem?_set_ne (fun e => hik e.symm)]; exact hi)
  have HV := hid (m.set_int hs (g : Int))
  have hmlen : s < m.f.toArray.size := by show s < 11; omega
  have HM := hid hmlen
  have hg := hid hg
  clear H hi hj hk hik hs hgl hw hmlen
  go_enter Tryz.func89, Tryz.ntmps89
  go_wp2_with fail
  refine (HC.out _).mono ?_
  rintro e w1 ⟨rfl, rfl⟩
  go_wp2_with fail
  refine HN.out.mono ?_
  rintro e w1 ⟨rfl, H2⟩
  have y0 : w1.cell? ⟨mb, s, none⟩ = some (m.f.toArray[s]'HM.out) := cell_blk (H2.blk i HI.out) (Array.getElem?_eq_getElem HM.out)
  have y1 : w1.frozen? ⟨mb, s, none⟩ = false := free_blk (H2.blk i HI.out)
  have H3 := H2.setBlk i HI.out s (.int .i64 g)
  rw [HV.out] at H3
  have H3 := hid H3
  clear H2
  go_wp2_with fail
  go_end0
  exact ⟨rfl, H3.out⟩

theorem st_read_s (H : St W w R) (i j k : Nat) {mb b s r : Nat} {m : MV} {x : RS} {l u : Int} (hs : 9 ≤ s ∧ s ≤ 10) (hi : R[i]? = some (BlkT mb (mO m))) (hj : R[j]? = some (FdT b (.text s l u))) (hk : R[k]? = some (RdT r x)) (hik : i ≠ k) (hw : x.wf) (hu : u ≤ 1024) :
    Calls Tryz.prog 93 #[ptr mb, ptr r, ptr (b + 2), ptr b] w fun e w' => e = .returned (.tuple #[]) ∧ St W w' ((R.set k (RdT r (Fd.face x (.text s l u)))).set i (BlkT mb (mO (Fd.got x m (.text s l u))))) := by
  obtain ⟨c0, c1, c2⟩ := H.fd j hj
  dsimp only [Fd.slot, Fd.lo, Fd.up] at c0 c1 c2
  have HC := hid (fun w => sel_walk (slot_s hs) w mb)
  have hent := fun args w => sel_enter (slot_s hs) args w
  generalize selF s = F at c0 HC hent
  unfold Fd.face Fd.got
  dsimp only
  have HN := hid (fun n => show Calls Tryz.prog 94 #[ptr r, .int .i64 u] (w.drewN n) _ from st_Text (H.drewN n) k hk hw (by omega))
  obtain ⟨g, hg⟩ : ∃ g, x.got ⟨#[]⟩ (rdText x.b x.at_ u) = g := ⟨_, rfl⟩
  rw [hg]
  rw [hg] at HN
  have HI := hid (show (R.set k (RdT r (x.face (rdText x.b x.at_ u))))[i]? = some (BlkT mb (mO m)) by rw [List.getElem?_set_ne (fun e => hik e.symm)]; exact hi)
  have HV := hid (m.set_str hs g)
  have hmlen : s < m.f.toArray.size := by show s < 11; omega
  have HM := hid hmlen
  have hg := hid hg
  clear H hi hj hk hik hs hw hmlen hu
  go_enter Tryz.func93, Tryz.ntmps93
  go_wp2_with fail
  go_region_with (first
    | (refine (HC.out _).mono ?_; rintro e w1 ⟨rfl, rfl⟩)
    | (refine (HN.out _).mono ?_; rintro e w2 ⟨rfl, H2⟩; have H3 := H2.setBlk i HI.out s (.string g); rw [HV.out] at H3; have y0 : w2.cell? ⟨mb, s, none⟩ = some (m.f.toArray[s]'HM.out) := cell_blk (H2.blk i HI.out) (Array.getElem?_eq_getElem HM.out); have y1 : w2.frozen? ⟨mb, s, none⟩ = false := free_blk (H2.blk i HI.out); have H3 := hid H3; clear H2))
  all_goals go_wp2_with fail
  all_goals (go_end0; exact ⟨rfl, H3.out⟩)
end

end Go.Proofs.YtkiccbjngokpjaaGreat

/-
  append, over things in memory: a copy into an empty row; some behind a row. For a walk, and as steps of a region that draws its order.
-/
namespace Go.Proofs.YtkiccbjngokpjaaGreat
open Go.RowKit
set_option linter.unusedVariables false

section
variable {W : Base} {w : World} {R : List Thing}
theorem wp_value {P : Program} {o : Oper} {a : Act} {K : Act → World → Prop} {Q : Exit → Act → World → Prop} {w w' : World} {v : Value} (h : (execOp a.eval o).run P w = .ok (.value v) w') (hK : K (a.put o.dst v) w') : Oper.wp P o a w K Q := by
  unfold Oper.wp
  rw [h]
  exact hK
/-- append([]T{}, x...): the empty row is owned, and becomes the copy. -/
theorem St.copied {P : Program} (H : St W w R) (j : Nat) {o : Oper} {a : Act} (s x : Operand) (t : TypeId)
    (ho : o.op = .call { callee := .builtin .append, args := #[s, x], argTypes := #[t, t] })
    (e : TypeId) (i : TypeInfo) (z : Value) (size bytes : Nat) (ht : P.underlying t = some (.slice e)) (hi : P.info? e = some i) (hz : i.zero = some z)
    (hsize : i.size = size) (hby : i.bytes = bytes) (hzs : z.cells.size = size) (hsz : 0 < size)
    (B : Nat) (hj : R[j]? = some (RowT e size (.slice (some ⟨B, 0, none⟩) 0 0) 0 [])) (hs : a.eval s = .slice (some ⟨B, 0, none⟩) 0 0)
    (ao : Option Addr) (m c : Nat) (V : Nat → Value) (hx : a.eval x = .slice ao m c) (hI : In w size ao m c V) (h1 : ∀ j, j < m * size → (V j).oneCell' = true) (hbytes : m * bytes ≤ 140737488355328) :
    ∃ g cap w', (execOp a.eval o).run P w = .ok (.value (.slice (some ⟨g, 0, none⟩) m cap)) w' ∧ St W w' (R.set j (RowT e size (.slice (some ⟨g, 0, none⟩) m cap) m ((List.range (m * size)).map V))) := by
  have hown := H.row j hj
  rcases ao with _ | ad
  · have hm : m = 0 := by
      rcases Nat.eq_zero_or_pos m with h0 | h0
      · exact h0
      · obtain ⟨b, off, hb⟩ := hI.sm h0; simp at hb
    subst hm
    have hr := run_append_nothing (P := P) w t t o.type e i ht hi (some ⟨B, 0, none⟩) 0 0 (Nat.le_refl _) (.slice none 0 c) (Src.ofNil w ht c)
    refine ⟨B, 0, w, ?_, ?_⟩
    · unfold execOp
      simp only [ho, resolve, invoke, builtin, Sem.run_bind, Sem.run_pure, Result.andThen_ok, List.map_toArray, List.map_cons, List.map_nil, hs, hx, hr]
    · have h := things_set_self hj
      rw [Nat.zero_mul, List.range_zero, List.map_nil, h]
      exact H
  · have hnews : ∀ j u, ((List.range (m * size)).map V)[j]? = some u → w.cell? (ad.add j) = some u := by
      intro j u hu
      have hj : j < m * size := by
        rcases Nat.lt_or_ge j (m * size) with h2 | h2
        · exact h2
        · rw [List.getElem?_eq_none (by simpa using h2)] at hu; simp at hu
      have hm : 0 < m := by
        rcases Nat.eq_zero_or_pos m with h0 | h0
        · subst h0; omega
        · exact h0
      obtain ⟨b, off, hb⟩ := hI.sm hm
      simp only [Option.some.injEq] at hb
      subst hb
      have e1 : (⟨b, off, none⟩ : Addr).add j = ⟨b, off + j, none⟩ := by unfold Addr.add; by_cases hj : j = 0 <;> simp [hj]
      rw [e1, hI.cell b off rfl j hj]
      simpa [hj] using hu
    obtain ⟨v', w', hr, h2, h3, h4, h5⟩ := append_own_blk (P := P) w t o.type e i z size bytes ht hi hz hsize hby hzs hsz _ 0 [] hown ad m c ((List.range (m * size)).map V) (by simp) hnews (fun u hu => by
      simp only [List.mem_map, List.mem_range] at hu
      obtain ⟨j, hj, rfl⟩ := hu
      exact h1 j hj) (by rw [Nat.zero_add]; exact Nat.le_trans hI.le hI.mx) (by rw [Nat.zero_add]; exact hbytes)
    have hF : Fr (Value.slice (some ⟨B, 0, none⟩) 0 0).ownBlock.toList w w' := (Fr.refl _ w).grown h3 (fun k hk => .inl (by simp [hk]))
    have hS := (H.append j hj).2 v' w' _ _ h2 hF h4
    rw [Nat.zero_add, List.nil_append] at hS h2
    rcases ownsRow_one h2 with ⟨rfl, _, _⟩ | ⟨g, cap, rfl, _, _⟩
    · have := h5.1 rfl; simp at this
    · refine ⟨g, cap, w', ?_, hS⟩
      unfold execOp
      simp only [ho, resolve, invoke, builtin, Sem.run_bind, Sem.run_pure, Result.andThen_ok, List.map_toArray, List.map_cons, List.map_nil, hs, hx, hr]
/-- Some behind an owned row. -/
theorem St.added {P : Program} (H : St W w R) (j : Nat) {o : Oper} {a : Act} (s x : Operand) (t : TypeId)
    (ho : o.op = .call { callee := .builtin .append, args := #[s, x], argTypes := #[t, t] })
    (e : TypeId) (i : TypeInfo) (z : Value) (size bytes : Nat) (ht : P.underlying t = some (.slice e)) (hi : P.info? e = some i) (hz : i.zero = some z)
    (hsize : i.size = size) (hby : i.bytes = bytes) (hzs : z.cells.size = size) (hsz : 0 < size)
    (v : Value) (n : Nat) (xs : List Value) (hj : R[j]? = some (RowT e size v n xs)) (hs : a.eval s = v)
    (ao : Option Addr) (m c : Nat) (V : Nat → Value) (hx : a.eval x = .slice ao m c) (hI : In w size ao m c V) (h1 : ∀ j, j < m * size → (V j).oneCell' = true)
    (h63 : n + m ≤ maxLen) (hbytes : (n + m) * bytes ≤ 140737488355328) :
    ∃ v' w', (execOp a.eval o).run P w = .ok (.value v') w' ∧ (∃ a' c', v' = .slice a' (n + m) c') ∧ St W w' (R.set j (RowT e size v' (n + m) (xs ++ (List.range (m * size)).map V))) := by
  have hown := H.row j hj
  rcases ao with _ | ad
  · have hm : m = 0 := by
      rcases Nat.eq_zero_or_pos m with h0 | h0
      · exact h0
      · obtain ⟨b, off, hb⟩ := hI.sm h0; simp at hb
    subst hm
    obtain ⟨a', c', hv, hnc⟩ : ∃ a' c', v = .slice a' n c' ∧ n ≤ c' := by
      rcases ownsRow_one hown with ⟨h1, h2, _⟩ | ⟨g, cap, h1, h2, _⟩
      · exact ⟨none, 0, by rw [h1, h2], by omega⟩
      · exact ⟨_, cap, h1, h2⟩
    subst hv
    have hr := run_append_nothing (P := P) w t t o.type e i ht hi a' n c' hnc (.slice none 0 c) (Src.ofNil w ht c)
    refine ⟨_, w, ?_, ⟨a', c', rfl⟩, ?_⟩
    · unfold execOp
      simp only [ho, resolve, invoke, builtin, Sem.run_bind, Sem.run_pure, Result.andThen_ok, List.map_toArray, List.map_cons, List.map_nil, hs, hx, hr]
      rfl
    · have h := things_set_self hj
      rw [Nat.zero_mul, List.range_zero, List.map_nil, List.append_nil, Nat.add_zero, h]
      exact H
  · have hnews : ∀ j u, ((List.range (m * size)).map V)[j]? = some u → w.cell? (ad.add j) = some u := by
      intro j u hu
      have hj : j < m * size := by
        rcases Nat.lt_or_ge j (m * size) with h2 | h2
        · exact h2
        · rw [List.getElem?_eq_none (by simpa using h2)] at hu; simp at hu
      have hm : 0 < m := by
        rcases Nat.eq_zero_or_pos m with h0 | h0
        · subst h0; omega
        · exact h0
      obtain ⟨b, off, hb⟩ := hI.sm hm
      simp only [Option.some.injEq] at hb
      subst hb
      have e1 : (⟨b, off, none⟩ : Addr).add j = ⟨b, off + j, none⟩ := by unfold Addr.add; by_cases hj : j = 0 <;> simp [hj]
      rw [e1, hI.cell b off rfl j hj]
      simpa [hj] using hu
    obtain ⟨v', w', hr, h2, h3, h4, h5⟩ := append_own_blk (P := P) w t o.type e i z size bytes ht hi hz hsize hby hzs hsz v n xs hown ad m c ((List.range (m * size)).map V) (by simp) hnews (fun u hu => by
      simp only [List.mem_map, List.mem_range] at hu
      obtain ⟨j, hj, rfl⟩ := hu
      exact h1 j hj) h63 hbytes
    have hF : Fr v.ownBlock.toList w w' := (Fr.refl _ w).grown h3 (fun k hk => .inl (by simp [hk]))
    have hS := (H.append j hj).2 v' w' _ _ h2 hF h4
    refine ⟨v', w', ?_, ?_, hS⟩
    · unfold execOp
      simp only [ho, resolve, invoke, builtin, Sem.run_bind, Sem.run_pure, Result.andThen_ok, List.map_toArray, List.map_cons, List.map_nil, hs, hx, hr]
    · rcases ownsRow_one h2 with ⟨h1, h2, _⟩ | ⟨g, cap, h1, h2, _⟩
      · exact ⟨none, 0, by rw [h1, h2]⟩
      · exact ⟨_, cap, h1⟩
/-- A block that was made is a row that is read. -/
theorem St.blkIn (H : St W w R) (j : Nat) {b : Nat} {l : List Value} {e : TypeId} (sz n : Nat) (hl : l.length = n * sz) (hn : n ≤ maxLen) (hj : R[j]? = some (BlkT b (.cells l.toArray e))) : In w sz (some ⟨b, 0, none⟩) n n (fun k => l.getD k undef) := by
  refine ⟨Nat.le_refl _, hn, fun _ => ⟨b, 0, rfl⟩, fun b' off e k hk => ?_⟩
  simp only [Option.some.injEq, Addr.mk.injEq] at e
  obtain ⟨rfl, rfl, _⟩ := e
  have hb := H.blk j hj
  rw [Nat.zero_add]
  exact cell_blk hb (by rw [List.getElem?_toArray, List.getElem?_eq_getElem (by omega), List.getD_eq_getElem?_getD, List.getElem?_eq_getElem (by omega)]; rfl)
theorem wpCopied {P : Program} {ops : Array Oper} {rest : List Oper} {o : Oper} {a : Act} {Q : Exit → Act → World → Prop} (H : St W w R) (j : Nat) (hgd : o.guard = none) (s x : Operand) (t : TypeId)
    (ho : o.op = .call { callee := .builtin .append, args := #[s, x], argTypes := #[t, t] })
    (e : TypeId) (i : TypeInfo) (z : Value) (size bytes : Nat) (ht : P.underlying t = some (.slice e)) (hi : P.info? e = some i) (hz : i.zero = some z)
    (hsize : i.size = size) (hby : i.bytes = bytes) (hzs : z.cells.size = size) (hsz : 0 < size)
    (B : Nat) (hj : R[j]? = some (RowT e size (.slice (some ⟨B, 0, none⟩) 0 0) 0 [])) (hs : a.eval s = .slice (some ⟨B, 0, none⟩) 0 0)
    (ao : Option Addr) (m c : Nat) (V : Nat → Value) (hx : a.eval x = .slice ao m c) (hI : In w size ao m c V) (h1 : ∀ j, j < m * size → (V j).oneCell' = true) (hbytes : m * bytes ≤ 140737488355328)
    (h : ∀ g cap w', St W w' (R.set j (RowT e size (.slice (some ⟨g, 0, none⟩) m cap) m ((List.range (m * size)).map V))) → wpList P ops Q rest (a.put o.dst (.slice (some ⟨g, 0, none⟩) m cap)) w') : wpList P ops Q (o :: rest) a w := by
  obtain ⟨g, cap, w', hr, hS⟩ := H.copied j s x t ho e i z size bytes ht hi hz hsize hby hzs hsz B hj hs ao m c V hx hI h1 hbytes
  exact wpList_plain hgd fun K hK => wp_value hr (hK _ _ (h g cap w' hS))
theorem stepCopied {P : Program} {ops : Array Oper} {o : Oper} {a : Act} {K : Act → World → Prop} {Q : Exit → Act → World → Prop} {E : Prop} (H : St W w R) (j : Nat) (hgd : o.guard = none) (s x : Operand) (t : TypeId)
    (ho : o.op = .call { callee := .builtin .append, args := #[s, x], argTypes := #[t, t] })
    (e : TypeId) (i : TypeInfo) (z : Value) (size bytes : Nat) (ht : P.underlying t = some (.slice e)) (hi : P.info? e = some i) (hz : i.zero = some z)
    (hsize : i.size = size) (hby : i.bytes = bytes) (hzs : z.cells.size = size) (hsz : 0 < size)
    (B : Nat) (hj : R[j]? = some (RowT e size (.slice (some ⟨B, 0, none⟩) 0 0) 0 [])) (hs : a.eval s = .slice (some ⟨B, 0, none⟩) 0 0)
    (ao : Option Addr) (m c : Nat) (V : Nat → Value) (hx : a.eval x = .slice ao m c) (hI : In w size ao m c V) (h1 : ∀ j, j < m * size → (V j).oneCell' = true) (hbytes : m * bytes ≤ 140737488355328)
    (h : ∀ g cap w', St W w' (R.set j (RowT e size (.slice (some ⟨g, 0, none⟩) m cap) m ((List.range (m * size)).map V))) → K (a.put o.dst (.slice (some ⟨g, 0, none⟩) m cap)) w') : if Region.wanted o (yielded ops a.tmps) = true then Oper.wp P o a w K Q else E := by
  have hw : Region.wanted o (yielded ops a.tmps) = true := by simp [Region.wanted, hgd]
  rw [if_pos hw]
  obtain ⟨g, cap, w', hr, hS⟩ := H.copied j s x t ho e i z size bytes ht hi hz hsize hby hzs hsz B hj hs ao m c V hx hI h1 hbytes
  exact wp_value hr (h g cap w' hS)
theorem wpAdded {P : Program} {ops : Array Oper} {rest : List Oper} {o : Oper} {a : Act} {Q : Exit → Act → World → Prop} (H : St W w R) (j : Nat) (hgd : o.guard = none) (s x : Operand) (t : TypeId)
    (ho : o.op = .call { callee := .builtin .append, args := #[s, x], argTypes := #[t, t] })
    (e : TypeId) (i : TypeInfo) (z : Value) (size bytes : Nat) (ht : P.underlying t = some (.slice e)) (hi : P.info? e = some i) (hz : i.zero = some z)
    (hsize : i.size = size) (hby : i.bytes = bytes) (hzs : z.cells.size = size) (hsz : 0 < size)
    (v : Value) (n : Nat) (xs : List Value) (hj : R[j]? = some (RowT e size v n xs)) (hs : a.eval s = v)
    (ao : Option Addr) (m c : Nat) (V : Nat → Value) (hx : a.eval x = .slice ao m c) (hI : In w size ao m c V) (h1 : ∀ j, j < m * size → (V j).oneCell' = true)
    (h63 : n + m ≤ maxLen) (hbytes : (n + m) * bytes ≤ 140737488355328)
    (h : ∀ a' c' w', St W w' (R.set j (RowT e size (.slice a' (n + m) c') (n + m) (xs ++ (List.range (m * size)).map V))) → wpList P ops Q rest (a.put o.dst (.slice a' (n + m) c')) w') : wpList P ops Q (o :: rest) a w := by
  obtain ⟨v', w', hr, ⟨a', c', rfl⟩, hS⟩ := H.added j s x t ho e i z size bytes ht hi hz hsize hby hzs hsz v n xs hj hs ao m c V hx hI h1 h63 hbytes
  exact wpList_plain hgd fun K hK => wp_value hr (hK _ _ (h a' c' w' hS))
theorem stepAdded {P : Program} {ops : Array Oper} {o : Oper} {a : Act} {K : Act → World → Prop} {Q : Exit → Act → World → Prop} {E : Prop} (H : St W w R) (j : Nat) (hgd : o.guard = none) (s x : Operand) (t : TypeId)
    (ho : o.op = .call { callee := .builtin .append, args := #[s, x], argTypes := #[t, t] })
    (e : TypeId) (i : TypeInfo) (z : Value) (size bytes : Nat) (ht : P.underlying t = some (.slice e)) (hi : P.info? e = some i) (hz : i.zero = some z)
    (hsize : i.size = size) (hby : i.bytes = bytes) (hzs : z.cells.size = size) (hsz : 0 < size)
    (v : Value) (n : Nat) (xs : List Value) (hj : R[j]? = some (RowT e size v n xs)) (hs : a.eval s = v)
    (ao : Option Addr) (m c : Nat) (V : Nat → Value) (hx : a.eval x = .slice ao m c) (hI : In w size ao m c V) (h1 : ∀ j, j < m * size → (V j).oneCell' = true)
    (h63 : n + m ≤ maxLen) (hbytes : (n + m) * bytes ≤ 140737488355328)
    (h : ∀ a' c' w', St W w' (R.set j (RowT e size (.slice a' (n + m) c') (n + m) (xs ++ (List.range (m * size)).map V))) → K (a.put o.dst (.slice a' (n + m) c')) w') : if Region.wanted o (yielded ops a.tmps) = true then Oper.wp P o a w K Q else E := by
  have hw : Region.wanted o (yielded ops a.tmps) = true := by simp [Region.wanted, hgd]
  rw [if_pos hw]
  obtain ⟨v', w', hr, ⟨a', c', rfl⟩, hS⟩ := H.added j s x t ho e i z size bytes ht hi hz hsize hby hzs hsz v n xs hj hs ao m c V hx hI h1 h63 hbytes
  exact wp_value hr (h a' c' w' hS)
end
end Go.Proofs.YtkiccbjngokpjaaGreat
