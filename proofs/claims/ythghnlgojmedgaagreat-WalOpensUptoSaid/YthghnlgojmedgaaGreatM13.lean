/-
  Merged, in build order: Pk9 PkE PkL.
-/
import Derived.Lib.ConvBytes
import Derived.Lib.AtoiErrMem
import Derived.Test.YthghnlgojmedgaaGreatM12
/-
  pack.Reader: Bits.
-/
namespace Go.Proofs.YthghnlgojmedgaaGreat
open Go.RowKit
set_option linter.unusedVariables false
set_option linter.unusedSimpArgs false

/-- Bytes as a number, the greatest first. -/
def beN (b : ByteArray) (p : Nat) : Nat → Nat
  | 0 => 0
  | k + 1 => beN b p k * 256 + bAt b (p + k)
/-- 64 bits, read. -/
def rdBits (b : ByteArray) (at_ : Nat) : Except Int (Nat × Nat) :=
  if at_ + 8 ≤ b.size then .ok (beN b at_ 8, at_ + 8) else .error 20
theorem beN_lt (b : ByteArray) (p k : Nat) : beN b p k < 256 ^ k := by
  induction k with
  | zero => simp [beN]
  | succ k ih =>
    have := bAt_lt b (p + k)
    rw [beN, Nat.pow_succ]
    omega

set_option maxRecDepth 100000 in
theorem bits_slot (N c : Nat) (hN : N * 256 + c < 18446744073709551616) (hc : c < 256) : bits .or .u64 (IntKind.u64.wrap ((N : Int) * 256)) (c : Int) = ((N * 256 + c : Nat) : Int) := by
  have e1 : (N : Int) * 256 = ((N * 256 : Nat) : Int) := by push_cast; rfl
  rw [e1, u64_nat _ (by omega)]
  rw [bits_join .u64 64 (by decide) wraps_u64 8 _ _ (by omega) (by omega) (by omega) (by omega) (by omega) (by omega)]
  push_cast; rfl

section
variable {W : Base} {w : World} {R : List Thing}




end
end Go.Proofs.YthghnlgojmedgaaGreat

/-
  What pack's readers may come to: places, faults. Of no program.
-/
namespace Go.Proofs.YthghnlgojmedgaaGreat
open Go.RowKit
set_option linter.unusedVariables false
set_option linter.unusedSimpArgs false

theorem rdN_err {b : ByteArray} {at_ : Nat} : ∀ (k i n : Nat) {c : Int}, rdN b at_ k i n = .error c → c = 20 ∨ c = 22
  | 0, i, n, c, h => by simp only [rdN, Except.error.injEq] at h; exact .inr h.symm
  | k + 1, i, n, c, h => by
    rw [rdN] at h
    split at h
    · split at h
      · exact rdN_err k _ _ h
      · split at h
        · simp at h; exact .inr h.symm
        · cases h
    · simp at h; exact .inl h.symm
theorem rdMost_err {b : ByteArray} {at_ : Nat} {m o : Int} {c : Int} (h : rdMost b at_ m o = .error c) : c = 20 ∨ c = 22 ∨ c = o := by
  unfold rdMost at h
  split at h
  · rename_i c' hc
    rcases rdN_err _ _ _ hc with h1 | h1
    · simp at h; omega
    · simp at h; omega
  · split at h
    · simp at h; exact .inr (.inr h.symm)
    · cases h

theorem rdText_p {b : ByteArray} {p q : Nat} {m : Int} {x : ByteArray} (h : rdText b p m = .ok (x, q)) : q ≤ b.size := by
  unfold rdText at h
  split at h
  · cases h
  · split at h
    · simp only [Except.ok.injEq, Prod.mk.injEq] at h; omega
    · cases h
theorem rdText_err {b : ByteArray} {p : Nat} {m c : Int} (h : rdText b p m = .error c) : ¬ c = 0 := by
  unfold rdText at h
  split at h
  · rename_i c' hc
    have := rdMost_err hc
    simp only [Except.error.injEq] at h; omega
  · split at h
    · cases h
    · simp only [Except.error.injEq] at h; omega
theorem rdBits_p {b : ByteArray} {p q n : Nat} (h : rdBits b p = .ok (n, q)) : q ≤ b.size := by
  unfold rdBits at h
  split at h
  · simp only [Except.ok.injEq, Prod.mk.injEq] at h; omega
  · cases h
theorem rdBits_err {b : ByteArray} {p : Nat} {c : Int} (h : rdBits b p = .error c) : ¬ c = 0 := by
  unfold rdBits at h
  split at h
  · cases h
  · simp only [Except.error.injEq] at h; omega

def rdTexts (b : ByteArray) : Nat → Nat → List ByteArray → Option (List ByteArray × Nat)
  | 0, p, acc => some (acc, p)
  | n + 1, p, acc => match rdText b p 32 with
    | .ok (t, q) => rdTexts b n q (acc ++ [t])
    | .error _ => none
def rdNum (b : ByteArray) (p : Nat) (most : Int) : Option (Nat × Nat) := match rdMost b p most 21 with
  | .ok x => some x
  | .error _ => none
theorem rdNum_ok {b : ByteArray} {p : Nat} {m : Int} {n q : Nat} (h : rdMost b p m 21 = .ok (n, q)) : rdNum b p m = some (n, q) := by unfold rdNum; rw [h]
theorem rdNum_no {b : ByteArray} {p : Nat} {m : Int} {c : Int} (h : rdMost b p m 21 = .error c) : rdNum b p m = none := by unfold rdNum; rw [h]

/-- The texts that are read, fault or not. -/
def TxInv (b : ByteArray) (T1 : Option (List ByteArray × Nat)) (m : Nat) (s : RS) (xs : List ByteArray) : Prop :=
  s.b = b ∧ s.wf ∧ if s.e = 0 then rdTexts b m s.at_ xs = T1 else T1 = none
theorem TxInv.step {b : ByteArray} {T1 : Option (List ByteArray × Nat)} {m : Nat} {s : RS} {xs : List ByteArray} (h : TxInv b T1 (m + 1) s xs) : TxInv b T1 m (s.face (rdText s.b s.at_ 32)) (xs ++ [s.got ⟨#[]⟩ (rdText s.b s.at_ 32)]) := by
  obtain ⟨h1, h2, h3⟩ := h
  by_cases he : s.e = 0
  · rw [if_pos he, rdTexts, ← h1] at h3
    simp only [RS.face, RS.got, if_pos he]
    rcases hX : rdText s.b s.at_ 32 with c | ⟨x, q⟩
    · rw [hX] at h3
      exact ⟨h1, ⟨h2.le, h2.mx⟩, by rw [if_neg (rdText_err hX)]; exact h3.symm⟩
    · rw [hX] at h3
      exact ⟨h1, ⟨rdText_p hX, h2.mx⟩, by rw [if_pos he, ← h1]; exact h3⟩
  · rw [if_neg he] at h3
    simp only [RS.face, RS.got, if_neg he]
    exact ⟨h1, h2, by rw [if_neg he]; exact h3⟩
end Go.Proofs.YthghnlgojmedgaaGreat

/-
  The forms of pack and their readers: what is read is what stands there. Of no program.
-/
namespace Go.Proofs.YthghnlgojmedgaaGreat
set_option linter.unusedVariables false
set_option linter.unusedSimpArgs false

def bl (b : ByteArray) : List UInt8 := b.data.toList
theorem bl_len (b : ByteArray) : (bl b).length = b.size := rfl
theorem bl_app (a b : ByteArray) : bl (a ++ b) = bl a ++ bl b := by simp [bl]
theorem bl_inj {a b : ByteArray} (h : bl a = bl b) : a = b := by
  cases a; cases b
  simp only [bl] at h
  rw [ByteArray.mk.injEq]
  exact Array.ext' h
theorem bl_mk (l : List UInt8) : bl ⟨l.toArray⟩ = l := by simp [bl]
theorem mk_bl (b : ByteArray) : (⟨(bl b).toArray⟩ : ByteArray) = b := bl_inj (bl_mk _)

/-- The bytes l stand in b from p to q. -/
structure Rds (b : ByteArray) (p : Nat) (l : List UInt8) (q : Nat) : Prop where
  eq : (bl b).drop p = l ++ (bl b).drop q
  at_ : q = p + l.length
  le : q ≤ b.size

theorem Rds.nil {b : ByteArray} {p q : Nat} : Rds b p [] q ↔ q = p ∧ p ≤ b.size := by
  constructor
  · rintro ⟨h1, h2, h3⟩
    have : q = p := by simpa using h2
    exact ⟨this, by omega⟩
  · rintro ⟨rfl, h⟩
    exact ⟨rfl, rfl, h⟩
theorem Rds.append {b : ByteArray} {p q : Nat} {l m : List UInt8} : Rds b p (l ++ m) q ↔ ∃ k, Rds b p l k ∧ Rds b k m q := by
  constructor
  · rintro ⟨h1, h2, h3⟩
    rw [List.length_append] at h2
    refine ⟨p + l.length, ⟨?_, rfl, by omega⟩, ⟨?_, by omega, h3⟩⟩
    · rw [← List.drop_drop, h1, List.append_assoc, List.drop_left]
    · rw [← List.drop_drop, h1, List.append_assoc, List.drop_left]
  · rintro ⟨k, ⟨h1, h2, h3⟩, ⟨h4, h5, h6⟩⟩
    exact ⟨by rw [h1, h4, List.append_assoc], by rw [List.length_append]; omega, h6⟩
theorem Rds.uniq {b : ByteArray} {p q q' : Nat} {l : List UInt8} (h : Rds b p l q) (h' : Rds b p l q') : q = q' := by rw [h.at_, h'.at_]
theorem Rds.cons {b : ByteArray} {p q : Nat} {x : UInt8} {l : List UInt8} : Rds b p (x :: l) q ↔ p < b.size ∧ bAt b p = x.toNat ∧ Rds b (p + 1) l q := by
  constructor
  · rintro ⟨h1, h2, h3⟩
    simp only [List.length_cons] at h2
    have hp : p < b.size := by omega
    have hx : (bl b)[p]? = some x := by
      have := congrArg (fun l => l[0]?) h1
      simpa using this
    refine ⟨hp, ?_, ?_, by omega, h3⟩
    · unfold bAt
      rw [List.getD_eq_getElem?_getD, show b.data.toList = bl b from rfl, hx]; rfl
    · rw [← List.drop_drop, h1]; rfl
  · rintro ⟨hp, hx, h1, h2, h3⟩
    refine ⟨?_, by simp only [List.length_cons]; omega, h3⟩
    rw [List.drop_eq_getElem_cons (show p < (bl b).length from hp), h1]
    congr 1
    unfold bAt at hx
    rw [List.getD_eq_getElem?_getD, List.getElem?_eq_getElem (show p < b.data.toList.length from hp)] at hx
    exact UInt8.toNat_inj.1 hx

theorem pow7 (i : Nat) : 2 ^ (7 * (i + 1)) = 2 ^ (7 * i) * 128 := by rw [Nat.mul_add, Nat.pow_add]
theorem pow_room {i : Nat} (h : i ≤ 8) : 2 ^ (64 - 7 * i) = 128 * 2 ^ (64 - 7 * (i + 1)) := by
  rw [show 64 - 7 * i = 7 + (64 - 7 * (i + 1)) by omega, Nat.pow_add]

theorem rdN_sound {b : ByteArray} {at_ : Nat} : ∀ (k i n : Nat) {x q : Nat}, k + i = 10 → rdN b at_ k i n = .ok (x, q) → ∃ v, x = n + v * 2 ^ (7 * i) ∧ Rds b (at_ + i) (Lib.uvarint v) q ∧ v < 2 ^ (64 - 7 * i) ∧ (0 < i → v ≠ 0)
  | 0, i, n, x, q, _, h => by simp [rdN] at h
  | k + 1, i, n, x, q, hk, h => by
    rw [rdN] at h
    split at h
    · rename_i hlt
      have hc := bAt_lt b (at_ + i)
      split at h
      · rename_i hbig
        obtain ⟨v, hv, hr, hb, h0⟩ := rdN_sound k (i + 1) _ (by omega) h
        have hv0 := h0 (by omega)
        have hi8 : i ≤ 8 := by
          rcases Nat.lt_or_ge 8 i with h9 | h9
          · have : i = 9 := by omega
            subst this
            simp at hb; omega
          · exact h9
        refine ⟨bAt b (at_ + i) % 128 + 128 * v, ?_, ?_, ?_, fun _ => by omega⟩
        · rw [hv, pow7, Nat.add_mul, Nat.add_assoc]
          congr 2
          rw [Nat.mul_comm 128 v, Nat.mul_assoc, Nat.mul_comm 128]
        · rw [Lib.uvarint_big (by omega), Rds.cons]
          refine ⟨hlt, ?_, ?_⟩
          · rw [show (bAt b (at_ + i) % 128 + 128 * v) % 128 + 128 = bAt b (at_ + i) by omega]
            simp; omega
          · rw [show (bAt b (at_ + i) % 128 + 128 * v) / 128 = v by omega]
            exact hr
        · rw [pow_room hi8]; omega
      · rename_i hsm
        split at h
        · cases h
        · rename_i hok
          simp only [Except.ok.injEq, Prod.mk.injEq] at h
          obtain ⟨rfl, rfl⟩ := h
          refine ⟨bAt b (at_ + i), rfl, ?_, ?_, fun hi => by omega⟩
          · rw [Lib.uvarint_small (by omega), Rds.cons, Rds.nil]
            exact ⟨hlt, by simp; omega, rfl, by omega⟩
          · by_cases h9 : i = 9
            · subst h9; simp; omega
            · rw [pow_room (by omega)]
              have := Nat.two_pow_pos (64 - 7 * (i + 1))
              omega
    · cases h

theorem rdN_whole {b : ByteArray} {at_ : Nat} : ∀ (k i n v : Nat) {q : Nat}, k + i = 10 → Rds b (at_ + i) (Lib.uvarint v) q → v < 2 ^ (64 - 7 * i) → (0 < i → v ≠ 0) → rdN b at_ k i n = .ok (n + v * 2 ^ (7 * i), q)
  | 0, i, n, v, q, hk, hr, hb, h0 => by
    have : i = 10 := by omega
    subst this
    have := h0 (by omega)
    simp at hb; omega
  | k + 1, i, n, v, q, hk, hr, hb, h0 => by
    rw [rdN]
    by_cases hv : v < 128
    · rw [Lib.uvarint_small hv, Rds.cons, Rds.nil] at hr
      obtain ⟨h1, h2, rfl, h3⟩ := hr
      have h2 : bAt b (at_ + i) = v := by rw [h2]; simp; omega
      rw [if_pos h1, h2, if_neg (by omega), if_neg]
      rintro (⟨h4, h5⟩ | ⟨h4, h5⟩)
      · exact h0 h4 h5
      · subst h4; simp at hb; omega
    · rw [Lib.uvarint_big (by omega), Rds.cons] at hr
      obtain ⟨h1, h2, h3⟩ := hr
      have h2 : bAt b (at_ + i) = v % 128 + 128 := by rw [h2]; simp; omega
      have hi8 : i ≤ 8 := by
        rcases Nat.lt_or_ge 8 i with h9 | h9
        · have : i = 9 := by omega
          subst this
          simp at hb; omega
        · exact h9
      rw [pow_room hi8] at hb
      rw [if_pos h1, h2, if_pos (by omega), rdN_whole k (i + 1) _ (v / 128) (by omega) h3 (by omega) (fun _ => by omega)]
      congr 2
      rw [pow7, Nat.add_assoc]
      congr 1
      rw [show (v % 128 + 128) % 128 = v % 128 by omega, Nat.mul_comm (2 ^ (7 * i)) 128, ← Nat.mul_assoc, ← Nat.add_mul]
      congr 1
      omega

theorem rdMost_iff {b : ByteArray} {p n q : Nat} {m o : Int} : rdMost b p m o = .ok (n, q) ↔ Rds b p (bl (nf n)) q ∧ (n : Int) ≤ m ∧ n < 18446744073709551616 := by
  have e : bl (nf n) = Lib.uvarint n := bl_mk _
  rw [e]
  constructor
  · intro h
    unfold rdMost at h
    split at h
    · cases h
    · rename_i x y hx
      split at h
      · cases h
      · simp only [Except.ok.injEq, Prod.mk.injEq] at h
        obtain ⟨rfl, rfl⟩ := h
        obtain ⟨v, h1, h2, h3, _⟩ := rdN_sound 10 0 0 rfl hx
        have : x = v := by simpa using h1
        subst this
        exact ⟨h2, by omega, by simpa using h3⟩
  · rintro ⟨h1, h2, h3⟩
    unfold rdMost
    rw [rdN_whole 10 0 0 n rfl h1 (by simpa using h3) (fun h => absurd h (Nat.lt_irrefl 0))]
    simp only [Nat.mul_zero, Nat.pow_zero, Nat.mul_one, Nat.zero_add]
    rw [if_neg (by omega)]
theorem rdNum_iff {b : ByteArray} {p n q : Nat} {m : Int} : rdNum b p m = some (n, q) ↔ Rds b p (bl (nf n)) q ∧ (n : Int) ≤ m ∧ n < 18446744073709551616 := by
  rw [← rdMost_iff (o := 21)]
  unfold rdNum
  split
  · rename_i x hx; rw [hx]; simp
  · rename_i c hc; rw [hc]; simp

theorem extract_bl (b : ByteArray) (p q : Nat) : bl (b.extract p q) = ((bl b).take q).drop p := by
  simp [bl, ByteArray.data_extract, Array.toList_extract, List.extract_eq_take_drop, List.drop_take]
theorem rdText_iff {b : ByteArray} {p q : Nat} {m : Int} {t : ByteArray} (hm : 0 ≤ m) (hb : b.size < 18446744073709551616) : rdText b p m = .ok (t, q) ↔ Rds b p (bl (tf t)) q ∧ (t.size : Int) ≤ m := by
  have e : bl (tf t) = bl (nf t.size) ++ bl t := bl_app _ _
  rw [e, Rds.append]
  have hmx : max 0 m = m := by omega
  unfold rdText
  rw [hmx]
  constructor
  · intro h
    split at h
    · cases h
    · rename_i n k hn
      obtain ⟨h1, h2, h3⟩ := rdMost_iff.1 hn
      split at h
      · rename_i hle
        simp only [Except.ok.injEq, Prod.mk.injEq] at h
        obtain ⟨rfl, rfl⟩ := h
        have hs : (b.extract k (k + n)).size = n := by rw [ByteArray.size_extract]; omega
        refine ⟨⟨k, by rw [hs]; exact h1, ?_, by rw [bl_len, hs], hle⟩, by rw [hs]; exact h2⟩
        rw [extract_bl, List.drop_take, Nat.add_sub_cancel_left, ← List.drop_drop, List.take_append_drop]
      · cases h
  · rintro ⟨⟨k, h1, h2⟩, h3⟩
    have hts : t.size ≤ b.size := by have h4 := h2.at_; have h5 := h2.le; have h6 := bl_len t; omega
    rw [rdMost_iff.2 ⟨h1, h3, by omega⟩]
    have hq : q = k + t.size := h2.at_
    subst hq
    simp only
    rw [if_pos h2.le]
    congr 2
    apply bl_inj
    rw [extract_bl, List.drop_take, Nat.add_sub_cancel_left, h2.eq]
    exact List.take_left

theorem bAt_get {b : ByteArray} {p : Nat} (h : p < b.size) : (bl b)[p]? = some (bAt b p).toUInt8 := by
  rw [List.getElem?_eq_getElem (show p < (bl b).length from h)]
  unfold bAt
  rw [List.getD_eq_getElem?_getD, List.getElem?_eq_getElem (show p < b.data.toList.length from h)]
  simp [bl]
theorem bitB_nat (n k : Nat) : (bitB n k).toNat = n / 2 ^ (56 - 8 * k) % 256 := by
  unfold bitB; simp
theorem bf_cons (n : Nat) : bl (bf n) = [bitB n 0, bitB n 1, bitB n 2, bitB n 3, bitB n 4, bitB n 5, bitB n 6, bitB n 7] := rfl
theorem rdBits_iff {b : ByteArray} {p n q : Nat} : rdBits b p = .ok (n, q) ↔ Rds b p (bl (bf n)) q ∧ n < 18446744073709551616 := by
  rw [bf_cons]
  simp only [Rds.cons, Rds.nil, bitB_nat, Nat.add_assoc, Nat.reduceAdd]
  have h0 := bAt_lt b p; have h1 := bAt_lt b (p + 1); have h2 := bAt_lt b (p + 2); have h3 := bAt_lt b (p + 3); have h4 := bAt_lt b (p + 4); have h5 := bAt_lt b (p + 5); have h6 := bAt_lt b (p + 6); have h7 := bAt_lt b (p + 7)
  have hbe : beN b p 8 = ((((((bAt b p * 256 + bAt b (p + 1)) * 256 + bAt b (p + 2)) * 256 + bAt b (p + 3)) * 256 + bAt b (p + 4)) * 256 + bAt b (p + 5)) * 256 + bAt b (p + 6)) * 256 + bAt b (p + 7) := by
    simp [beN]
  unfold rdBits
  constructor
  · intro h
    split at h
    · simp only [Except.ok.injEq, Prod.mk.injEq] at h
      obtain ⟨h8, rfl⟩ := h
      rw [hbe] at h8
      clear hbe
      refine ⟨⟨by omega, ?_, by omega, ?_, by omega, ?_, by omega, ?_, by omega, ?_, by omega, ?_, by omega, ?_, by omega, ?_, rfl, by omega⟩, ?_⟩
      all_goals (subst h8; (try simp only [Nat.reduceMul, Nat.reduceSub, Nat.reducePow]); omega)
    · cases h
  · rintro ⟨⟨a0, b0, a1, b1, a2, b2, a3, b3, a4, b4, a5, b5, a6, b6, a7, b7, rfl, a8⟩, hn⟩
    rw [if_pos (by omega), hbe]
    clear hbe
    simp only [Nat.reduceMul, Nat.reduceSub, Nat.reducePow] at b0 b1 b2 b3 b4 b5 b6 b7
    rw [b0, b1, b2, b3, b4, b5, b6, b7]
    congr 2
    omega

end Go.Proofs.YthghnlgojmedgaaGreat
