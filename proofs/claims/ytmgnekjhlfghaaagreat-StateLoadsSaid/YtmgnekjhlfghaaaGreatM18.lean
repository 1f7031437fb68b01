/-
  Merged, in build order: PkE PkL Ch0 S0 QL UR0 UR1 SGs SGt S1 S2 S3 SB.
-/
import Derived.Test.YtmgnekjhlfghaaaGreatM16
import Derived.Test.YtmgnekjhlfghaaaGreatM17
import Derived.Test.YtmgnekjhlfghaaaGreatM4
import Derived.Test.YtmgnekjhlfghaaaGreatM6
import Derived.Test.YtmgnekjhlfghaaaGreatM8
/-
  What pack's readers may come to: places, faults. Of no program.
-/
namespace Go.Proofs.YtmgnekjhlfghaaaGreat
open Go.RowKit
set_option linter.unusedVariables false
set_option linter.unusedSimpArgs false

theorem rdN_err {b : ByteArray} {at_ : Nat} : ∀ (k i n : Nat) {c : Int}, rdN b at_ k i n = .error c → c = 20 ∨ c = 22
  | 0, i, n, c, h => by simp only [rdN, Except.error.injEq] at h; exact .inr h.symm
  | k + 1, i, n, c, h => by
    rw [rdN] at h
    split at h
    · split at h
      · exact rdN_err k _ _ h
      · split at h
        · simp at h; exact .inr h.symm
        · cases h
    · simp at h; exact .inl h.symm
theorem rdMost_err {b : ByteArray} {at_ : Nat} {m o : Int} {c : Int} (h : rdMost b at_ m o = .error c) : c = 20 ∨ c = 22 ∨ c = o := by
  unfold rdMost at h
  split at h
  · rename_i c' hc
    rcases rdN_err _ _ _ hc with h1 | h1
    · simp at h; omega
    · simp at h; omega
  · split at h
    · simp at h; exact .inr (.inr h.symm)
    · cases h

theorem rdText_p {b : ByteArray} {p q : Nat} {m : Int} {x : ByteArray} (h : rdText b p m = .ok (x, q)) : q ≤ b.size := by
  unfold rdText at h
  split at h
  · cases h
  · split at h
    · simp only [Except.ok.injEq, Prod.mk.injEq] at h; omega
    · cases h
theorem rdText_err {b : ByteArray} {p : Nat} {m c : Int} (h : rdText b p m = .error c) : ¬ c = 0 := by
  unfold rdText at h
  split at h
  · rename_i c' hc
    have := rdMost_err hc
    simp only [Except.error.injEq] at h; omega
  · split at h
    · cases h
    · simp only [Except.error.injEq] at h; omega
theorem rdBits_p {b : ByteArray} {p q n : Nat} (h : rdBits b p = .ok (n, q)) : q ≤ b.size := by
  unfold rdBits at h
  split at h
  · simp only [Except.ok.injEq, Prod.mk.injEq] at h; omega
  · cases h
theorem rdBits_err {b : ByteArray} {p : Nat} {c : Int} (h : rdBits b p = .error c) : ¬ c = 0 := by
  unfold rdBits at h
  split at h
  · cases h
  · simp only [Except.error.injEq] at h; omega

def rdTexts (b : ByteArray) : Nat → Nat → List ByteArray → Option (List ByteArray × Nat)
  | 0, p, acc => some (acc, p)
  | n + 1, p, acc => match rdText b p 32 with
    | .ok (t, q) => rdTexts b n q (acc ++ [t])
    | .error _ => none
def rdNum (b : ByteArray) (p : Nat) (most : Int) : Option (Nat × Nat) := match rdMost b p most 21 with
  | .ok x => some x
  | .error _ => none
theorem rdNum_ok {b : ByteArray} {p : Nat} {m : Int} {n q : Nat} (h : rdMost b p m 21 = .ok (n, q)) : rdNum b p m = some (n, q) := by unfold rdNum; rw [h]
theorem rdNum_no {b : ByteArray} {p : Nat} {m : Int} {c : Int} (h : rdMost b p m 21 = .error c) : rdNum b p m = none := by unfold rdNum; rw [h]

/-- The texts that are read, fault or not. -/
def TxInv (b : ByteArray) (T1 : Option (List ByteArray × Nat)) (m : Nat) (s : RS) (xs : List ByteArray) : Prop :=
  s.b = b ∧ s.wf ∧ if s.e = 0 then rdTexts b m s.at_ xs = T1 else T1 = none
theorem TxInv.step {b : ByteArray} {T1 : Option (List ByteArray × Nat)} {m : Nat} {s : RS} {xs : List ByteArray} (h : TxInv b T1 (m + 1) s xs) : TxInv b T1 m (s.face (rdText s.b s.at_ 32)) (xs ++ [s.got ⟨#[]⟩ (rdText s.b s.at_ 32)]) := by
  obtain ⟨h1, h2, h3⟩ := h
  by_cases he : s.e = 0
  · rw [if_pos he, rdTexts, ← h1] at h3
    simp only [RS.face, RS.got, if_pos he]
    rcases hX : rdText s.b s.at_ 32 with c | ⟨x, q⟩
    · rw [hX] at h3
      exact ⟨h1, ⟨h2.le, h2.mx⟩, by rw [if_neg (rdText_err hX)]; exact h3.symm⟩
    · rw [hX] at h3
      exact ⟨h1, ⟨rdText_p hX, h2.mx⟩, by rw [if_pos he, ← h1]; exact h3⟩
  · rw [if_neg he] at h3
    simp only [RS.face, RS.got, if_neg he]
    exact ⟨h1, h2, by rw [if_neg he]; exact h3⟩
end Go.Proofs.YtmgnekjhlfghaaaGreat

/-
  The forms of pack and their readers: what is read is what stands there. Of no program.
-/
namespace Go.Proofs.YtmgnekjhlfghaaaGreat
set_option linter.unusedVariables false
set_option linter.unusedSimpArgs false

def bl (b : ByteArray) : List UInt8 := b.data.toList
theorem bl_len (b : ByteArray) : (bl b).length = b.size := rfl
theorem bl_app (a b : ByteArray) : bl (a ++ b) = bl a ++ bl b := by simp [bl]
theorem bl_inj {a b : ByteArray} (h : bl a = bl b) : a = b := by
  cases a; cases b
  simp only [bl] at h
  rw [ByteArray.mk.injEq]
  exact Array.ext' h
theorem bl_mk (l : List UInt8) : bl ⟨l.toArray⟩ = l := by simp [bl]
theorem mk_bl (b : ByteArray) : (⟨(bl b).toArray⟩ : ByteArray) = b := bl_inj (bl_mk _)

/-- The bytes l stand in b from p to q. -/
structure Rds (b : ByteArray) (p : Nat) (l : List UInt8) (q : Nat) : Prop where
  eq : (bl b).drop p = l ++ (bl b).drop q
  at_ : q = p + l.length
  le : q ≤ b.size

theorem Rds.nil {b : ByteArray} {p q : Nat} : Rds b p [] q ↔ q = p ∧ p ≤ b.size := by
  constructor
  · rintro ⟨h1, h2, h3⟩
    have : q = p := by simpa using h2
    exact ⟨this, by omega⟩
  · rintro ⟨rfl, h⟩
    exact ⟨rfl, rfl, h⟩
theorem Rds.append {b : ByteArray} {p q : Nat} {l m : List UInt8} : Rds b p (l ++ m) q ↔ ∃ k, Rds b p l k ∧ Rds b k m q := by
  constructor
  · rintro ⟨h1, h2, h3⟩
    rw [List.length_append] at h2
    refine ⟨p + l.length, ⟨?_, rfl, by omega⟩, ⟨?_, by omega, h3⟩⟩
    · rw [← List.drop_drop, h1, List.append_assoc, List.drop_left]
    · rw [← List.drop_drop, h1, List.append_assoc, List.drop_left]
  · rintro ⟨k, ⟨h1, h2, h3⟩, ⟨h4, h5, h6⟩⟩
    exact ⟨by rw [h1, h4, List.append_assoc], by rw [List.length_append]; omega, h6⟩
theorem Rds.uniq {b : ByteArray} {p q q' : Nat} {l : List UInt8} (h : Rds b p l q) (h' : Rds b p l q') : q = q' := by rw [h.at_, h'.at_]
theorem Rds.cons {b : ByteArray} {p q : Nat} {x : UInt8} {l : List UInt8} : Rds b p (x :: l) q ↔ p < b.size ∧ bAt b p = x.toNat ∧ Rds b (p + 1) l q := by
  constructor
  · rintro ⟨h1, h2, h3⟩
    simp only [List.length_cons] at h2
    have hp : p < b.size := by omega
    have hx : (bl b)[p]? = some x := by
      have := congrArg (fun l => l[0]?) h1
      simpa using this
    refine ⟨hp, ?_, ?_, by omega, h3⟩
    · unfold bAt
      rw [List.getD_eq_getElem?_getD, show b.data.toList = bl b from rfl, hx]; rfl
    · rw [← List.drop_drop, h1]; rfl
  · rintro ⟨hp, hx, h1, h2, h3⟩
    refine ⟨?_, by simp only [List.length_cons]; omega, h3⟩
    rw [List.drop_eq_getElem_cons (show p < (bl b).length from hp), h1]
    congr 1
    unfold bAt at hx
    rw [List.getD_eq_getElem?_getD, List.getElem?_eq_getElem (show p < b.data.toList.length from hp)] at hx
    exact UInt8.toNat_inj.1 hx

theorem pow7 (i : Nat) : 2 ^ (7 * (i + 1)) = 2 ^ (7 * i) * 128 := by rw [Nat.mul_add, Nat.pow_add]
theorem pow_room {i : Nat} (h : i ≤ 8) : 2 ^ (64 - 7 * i) = 128 * 2 ^ (64 - 7 * (i + 1)) := by
  rw [show 64 - 7 * i = 7 + (64 - 7 * (i + 1)) by omega, Nat.pow_add]

theorem rdN_sound {b : ByteArray} {at_ : Nat} : ∀ (k i n : Nat) {x q : Nat}, k + i = 10 → rdN b at_ k i n = .ok (x, q) → ∃ v, x = n + v * 2 ^ (7 * i) ∧ Rds b (at_ + i) (Lib.uvarint v) q ∧ v < 2 ^ (64 - 7 * i) ∧ (0 < i → v ≠ 0)
  | 0, i, n, x, q, _, h => by simp [rdN] at h
  | k + 1, i, n, x, q, hk, h => by
    rw [rdN] at h
    split at h
    · rename_i hlt
      have hc := bAt_lt b (at_ + i)
      split at h
      · rename_i hbig
        obtain ⟨v, hv, hr, hb, h0⟩ := rdN_sound k (i + 1) _ (by omega) h
        have hv0 := h0 (by omega)
        have hi8 : i ≤ 8 := by
          rcases Nat.lt_or_ge 8 i with h9 | h9
          · have : i = 9 := by omega
            subst this
            simp at hb; omega
          · exact h9
        refine ⟨bAt b (at_ + i) % 128 + 128 * v, ?_, ?_, ?_, fun _ => by omega⟩
        · rw [hv, pow7, Nat.add_mul, Nat.add_assoc]
          congr 2
          rw [Nat.mul_comm 128 v, Nat.mul_assoc, Nat.mul_comm 128]
        · rw [Lib.uvarint_big (by omega), Rds.cons]
          refine ⟨hlt, ?_, ?_⟩
          · rw [show (bAt b (at_ + i) % 128 + 128 * v) % 128 + 128 = bAt b (at_ + i) by omega]
            simp; omega
          · rw [show (bAt b (at_ + i) % 128 + 128 * v) / 128 = v by omega]
            exact hr
        · rw [pow_room hi8]; omega
      · rename_i hsm
        split at h
        · cases h
        · rename_i hok
          simp only [Except.ok.injEq, Prod.mk.injEq] at h
          obtain ⟨rfl, rfl⟩ := h
          refine ⟨bAt b (at_ + i), rfl, ?_, ?_, fun hi => by omega⟩
          · rw [Lib.uvarint_small (by omega), Rds.cons, Rds.nil]
            exact ⟨hlt, by simp; omega, rfl, by omega⟩
          · by_cases h9 : i = 9
            · subst h9; simp; omega
            · rw [pow_room (by omega)]
              have := Nat.two_pow_pos (64 - 7 * (i + 1))
              omega
    · cases h

theorem rdN_whole {b : ByteArray} {at_ : Nat} : ∀ (k i n v : Nat) {q : Nat}, k + i = 10 → Rds b (at_ + i) (Lib.uvarint v) q → v < 2 ^ (64 - 7 * i) → (0 < i → v ≠ 0) → rdN b at_ k i n = .ok (n + v * 2 ^ (7 * i), q)
  | 0, i, n, v, q, hk, hr, hb, h0 => by
    have : i = 10 := by omega
    subst this
    have := h0 (by omega)
    simp at hb; omega
  | k + 1, i, n, v, q, hk, hr, hb, h0 => by
    rw [rdN]
    by_cases hv : v < 128
    · rw [Lib.uvarint_small hv, Rds.cons, Rds.nil] at hr
      obtain ⟨h1, h2, rfl, h3⟩ := hr
      have h2 : bAt b (at_ + i) = v := by rw [h2]; simp; omega
      rw [if_pos h1, h2, if_neg (by omega), if_neg]
      rintro (⟨h4, h5⟩ | ⟨h4, h5⟩)
      · exact h0 h4 h5
      · subst h4; simp at hb; omega
    · rw [Lib.uvarint_big (by omega), Rds.cons] at hr
      obtain ⟨h1, h2, h3⟩ := hr
      have h2 : bAt b (at_ + i) = v % 128 + 128 := by rw [h2]; simp; omega
      have hi8 : i ≤ 8 := by
        rcases Nat.lt_or_ge 8 i with h9 | h9
        · have : i = 9 := by omega
          subst this
          simp at hb; omega
        · exact h9
      rw [pow_room hi8] at hb
      rw [if_pos h1, h2, if_pos (by omega), rdN_whole k (i + 1) _ (v / 128) (by omega) h3 (by omega) (fun _ => by omega)]
      congr 2
      rw [pow7, Nat.add_assoc]
      congr 1
      rw [show (v % 128 + 128) % 128 = v % 128 by omega, Nat.mul_comm (2 ^ (7 * i)) 128, ← Nat.mul_assoc, ← Nat.add_mul]
      congr 1
      omega

theorem rdMost_iff {b : ByteArray} {p n q : Nat} {m o : Int} : rdMost b p m o = .ok (n, q) ↔ Rds b p (bl (nf n)) q ∧ (n : Int) ≤ m ∧ n < 18446744073709551616 := by
  have e : bl (nf n) = Lib.uvarint n := bl_mk _
  rw [e]
  constructor
  · intro h
    unfold rdMost at h
    split at h
    · cases h
    · rename_i x y hx
      split at h
      · cases h
      · simp only [Except.ok.injEq, Prod.mk.injEq] at h
        obtain ⟨rfl, rfl⟩ := h
        obtain ⟨v, h1, h2, h3, _⟩ := rdN_sound 10 0 0 rfl hx
        have : x = v := by simpa using h1
        subst this
        exact ⟨h2, by omega, by simpa using h3⟩
  · rintro ⟨h1, h2, h3⟩
    unfold rdMost
    rw [rdN_whole 10 0 0 n rfl h1 (by simpa using h3) (fun h => absurd h (Nat.lt_irrefl 0))]
    simp only [Nat.mul_zero, Nat.pow_zero, Nat.mul_one, Nat.zero_add]
    rw [if_neg (by omega)]
theorem rdNum_iff {b : ByteArray} {p n q : Nat} {m : Int} : rdNum b p m = some (n, q) ↔ Rds b p (bl (nf n)) q ∧ (n : Int) ≤ m ∧ n < 18446744073709551616 := by
  rw [← rdMost_iff (o := 21)]
  unfold rdNum
  split
  · rename_i x hx; rw [hx]; simp
  · rename_i c hc; rw [hc]; simp

theorem extract_bl (b : ByteArray) (p q : Nat) : bl (b.extract p q) = ((bl b).take q).drop p := by
  simp [bl, ByteArray.data_extract, Array.toList_extract, List.extract_eq_take_drop, List.drop_take]
theorem rdText_iff {b : ByteArray} {p q : Nat} {m : Int} {t : ByteArray} (hm : 0 ≤ m) (hb : b.size < 18446744073709551616) : rdText b p m = .ok (t, q) ↔ Rds b p (bl (tf t)) q ∧ (t.size : Int) ≤ m := by
  have e : bl (tf t) = bl (nf t.size) ++ bl t := bl_app _ _
  rw [e, Rds.append]
  have hmx : max 0 m = m := by omega
  unfold rdText
  rw [hmx]
  constructor
  · intro h
    split at h
    · cases h
    · rename_i n k hn
      obtain ⟨h1, h2, h3⟩ := rdMost_iff.1 hn
      split at h
      · rename_i hle
        simp only [Except.ok.injEq, Prod.mk.injEq] at h
        obtain ⟨rfl, rfl⟩ := h
        have hs : (b.extract k (k + n)).size = n := by rw [ByteArray.size_extract]; omega
        refine ⟨⟨k, by rw [hs]; exact h1, ?_, by rw [bl_len, hs], hle⟩, by rw [hs]; exact h2⟩
        rw [extract_bl, List.drop_take, Nat.add_sub_cancel_left, ← List.drop_drop, List.take_append_drop]
      · cases h
  · rintro ⟨⟨k, h1, h2⟩, h3⟩
    have hts : t.size ≤ b.size := by have h4 := h2.at_; have h5 := h2.le; have h6 := bl_len t; omega
    rw [rdMost_iff.2 ⟨h1, h3, by omega⟩]
    have hq : q = k + t.size := h2.at_
    subst hq
    simp only
    rw [if_pos h2.le]
    congr 2
    apply bl_inj
    rw [extract_bl, List.drop_take, Nat.add_sub_cancel_left, h2.eq]
    exact List.take_left

theorem bAt_get {b : ByteArray} {p : Nat} (h : p < b.size) : (bl b)[p]? = some (bAt b p).toUInt8 := by
  rw [List.getElem?_eq_getElem (show p < (bl b).length from h)]
  unfold bAt
  rw [List.getD_eq_getElem?_getD, List.getElem?_eq_getElem (show p < b.data.toList.length from h)]
  simp [bl]
theorem bitB_nat (n k : Nat) : (bitB n k).toNat = n / 2 ^ (56 - 8 * k) % 256 := by
  unfold bitB; simp
theorem bf_cons (n : Nat) : bl (bf n) = [bitB n 0, bitB n 1, bitB n 2, bitB n 3, bitB n 4, bitB n 5, bitB n 6, bitB n 7] := rfl
theorem rdBits_iff {b : ByteArray} {p n q : Nat} : rdBits b p = .ok (n, q) ↔ Rds b p (bl (bf n)) q ∧ n < 18446744073709551616 := by
  rw [bf_cons]
  simp only [Rds.cons, Rds.nil, bitB_nat, Nat.add_assoc, Nat.reduceAdd]
  have h0 := bAt_lt b p; have h1 := bAt_lt b (p + 1); have h2 := bAt_lt b (p + 2); have h3 := bAt_lt b (p + 3); have h4 := bAt_lt b (p + 4); have h5 := bAt_lt b (p + 5); have h6 := bAt_lt b (p + 6); have h7 := bAt_lt b (p + 7)
  have hbe : beN b p 8 = ((((((bAt b p * 256 + bAt b (p + 1)) * 256 + bAt b (p + 2)) * 256 + bAt b (p + 3)) * 256 + bAt b (p + 4)) * 256 + bAt b (p + 5)) * 256 + bAt b (p + 6)) * 256 + bAt b (p + 7) := by
    simp [beN]
  unfold rdBits
  constructor
  · intro h
    split at h
    · simp only [Except.ok.injEq, Prod.mk.injEq] at h
      obtain ⟨h8, rfl⟩ := h
      rw [hbe] at h8
      clear hbe
      refine ⟨⟨by omega, ?_, by omega, ?_, by omega, ?_, by omega, ?_, by omega, ?_, by omega, ?_, by omega, ?_, by omega, ?_, rfl, by omega⟩, ?_⟩
      all_goals (subst h8; (try simp only [Nat.reduceMul, Nat.reduceSub, Nat.reducePow]); omega)
    · cases h
  · rintro ⟨⟨a0, b0, a1, b1, a2, b2, a3, b3, a4, b4, a5, b5, a6, b6, a7, b7, rfl, a8⟩, hn⟩
    rw [if_pos (by omega), hbe]
    clear hbe
    simp only [Nat.reduceMul, Nat.reduceSub, Nat.reducePow] at b0 b1 b2 b3 b4 b5 b6 b7
    rw [b0, b1, b2, b3, b4, b5, b6, b7]
    congr 2
    omega

end Go.Proofs.YtmgnekjhlfghaaaGreat

/-
  A change that may be: what Check says; rows of changes that are read.
-/
namespace Go.Proofs.YtmgnekjhlfghaaaGreat
open Go.RowKit
set_option linter.unusedVariables false
set_option linter.unusedSimpArgs false

/-- What Check says of the numbers. -/
structure CV.Fits (c : CV) : Prop where
  kind : 1 ≤ c.kind ∧ c.kind ≤ 6
  n : 0 ≤ c.n ∧ c.n ≤ 1099511627776
  job : 0 ≤ c.job ∧ c.job ≤ 8
  badge : 0 ≤ c.badge ∧ c.badge ≤ 1099511627776
  slot : 0 ≤ c.slot ∧ c.slot ≤ 7
  life : 0 ≤ c.life ∧ c.life ≤ 1099511627776
  code : 0 ≤ c.code ∧ c.code ≤ 7
  bits : 0 ≤ c.bits ∧ c.bits < 18446744073709551616
  prog : c.prog.size ≤ 1024
  texts : c.texts.length ≤ 8
  each : ∀ s, s ∈ c.texts → s.size ≤ 32

theorem nf_le (n : Nat) (hn : n < 18446744073709551616) : (nf n).size ≤ 10 := by
  have := Lib.uvarint_length64 (x := n) hn
  show (Lib.uvarint n).toArray.size ≤ 10
  simpa using this
theorem tf_le (s : ByteArray) (hs : s.size ≤ 1024) : (tf s).size ≤ 1034 := by
  have := nf_le s.size (by omega)
  unfold tf; rw [ByteArray.size_append]; omega
theorem sizeL (s : ByteArray) : s.data.toList.length = s.size := rfl

theorem inB_iff {n a b : Int} : inB n a b = true ↔ a ≤ n ∧ n ≤ b := by simp [inB]
theorem rgt_z {k : Int} {l : UInt8} {z m : Bool} (h : rgt (hasL k l) z m = true) : (hasL k l = true ∧ m = true) ∨ (hasL k l = false ∧ z = true) := by
  cases hk : hasL k l
  · rw [hk] at h; exact .inr ⟨rfl, h⟩
  · rw [hk] at h; exact .inl ⟨rfl, h⟩

theorem CV.fits {c : CV} (h : c.check = 0) (hb : 0 ≤ c.bits ∧ c.bits < 18446744073709551616) : c.Fits := by
  unfold CV.check at h
  split at h
  case isFalse => simp at h
  case isTrue h1 =>
    split at h
    case isFalse => simp at h
    case isTrue h2 =>
      simp only [Bool.and_eq_true, CV.r1, CV.r2, CV.r3, CV.r4, CV.r5, CV.r6, CV.r7] at h2
      obtain ⟨⟨⟨⟨⟨⟨r1, r2⟩, r3⟩, r4⟩, r5⟩, r6⟩, r7⟩ := h2
      have q1 := rgt_z r1; have q2 := rgt_z r2; have q3 := rgt_z r3; have q4 := rgt_z r4; have q5 := rgt_z r5; have q6 := rgt_z r6; have q7 := rgt_z r7
      simp only [inB_iff, Bool.and_eq_true, beq_iff_eq, CV.noRes] at h1 q1 q2 q4 q5 q7
      refine ⟨h1, by omega, by omega, by omega, by omega, by omega, by omega, hb, ?_, ?_, ?_⟩
      · simp only [inB_iff] at q3
        rcases q3 with q | ⟨_, q⟩
        · omega
        · have : c.prog.size = 0 := by rw [List.isEmpty_iff] at q; have := congrArg List.length q; rw [show c.prog.toList.length = c.prog.size from by simp [ByteArray.toList_eq]] at this; exact this
          omega
      · rcases q6 with q | ⟨_, q⟩
        · have := q.2; simp only [textsB, Bool.and_eq_true, inB_iff] at this; omega
        · simp only [beq_iff_eq] at q; omega
      · intro s hs
        rcases q6 with q | ⟨_, q⟩
        · have := q.2
          simp only [textsB, Bool.and_eq_true, Bool.not_eq_true', List.any_eq_false, decide_eq_true_eq] at this
          have := this.2 s hs; omega
        · simp only [beq_iff_eq] at q
          have : c.texts = [] := List.eq_nil_of_length_eq_zero (by omega)
          rw [this] at hs; cases hs

/-- A row of changes, that is read. -/
structure ChIn (w : World) (a : Option Addr) (n cap : Nat) (l : List (CV × TS)) : Prop where
  row : In w 10 a n cap (cL.at_ l)
  len : l.length = n
  one : ∀ x, x ∈ l → In w 1 x.2.a x.1.texts.length x.2.c (sL.at_ x.1.texts) ∧ 0 ≤ x.1.bits ∧ x.1.bits < 18446744073709551616

theorem ChIn.fr0 {w w' : World} {a : Option Addr} {n cap : Nat} {l : List (CV × TS)} (h : ChIn w a n cap l) (hF : Fr [] w w') : ChIn w' a n cap l := ⟨h.row.fr0 hF, h.len, fun x hx => ⟨(h.one x hx).1.fr0 hF, (h.one x hx).2⟩⟩

theorem ch_cells {w : World} {b o n cap : Nat} {l : List (CV × TS)} (h : In w 10 (some ⟨b, o, none⟩) n cap (cL.at_ l)) (k : Nat) (hk : k < n) (x : CV × TS) (hx : cL.nth l k = x) :
    w.cell? ⟨b, o + k * 10, none⟩ = some (.int .i64 x.1.kind) ∧ w.cell? ⟨b, o + k * 10 + 1, none⟩ = some (.int .i64 x.1.n) ∧ w.cell? ⟨b, o + k * 10 + 2, none⟩ = some (.int .i64 x.1.job) ∧ w.cell? ⟨b, o + k * 10 + 3, none⟩ = some (.int .i64 x.1.badge) ∧
    w.cell? ⟨b, o + k * 10 + 4, none⟩ = some (.int .i64 x.1.slot) ∧ w.cell? ⟨b, o + k * 10 + 5, none⟩ = some (.int .i64 x.1.life) ∧ w.cell? ⟨b, o + k * 10 + 6, none⟩ = some (.int .i64 x.1.code) ∧ w.cell? ⟨b, o + k * 10 + 7, none⟩ = some (.int .u64 x.1.bits) ∧
    w.cell? ⟨b, o + k * 10 + 8, none⟩ = some (.string x.1.prog) ∧ w.cell? ⟨b, o + k * 10 + 9, none⟩ = some (.slice x.2.a x.1.texts.length x.2.c) := by
  have key : ∀ q, q < 10 → w.cell? ⟨b, o + (k * 10 + q), none⟩ = some ((x.1.f x.2).getD q undef) := fun q hq => by
    have := h.cell b o rfl (k * 10 + q) (by omega)
    rw [show cL.at_ l (k * 10 + q) = (cL.f (cL.nth l k)).getD q undef from cL.at_add l k q hq, hx] at this
    exact this
  have e : ∀ q, o + k * 10 + q = o + (k * 10 + q) := fun q => by omega
  refine ⟨key 0 (by decide), ?_, ?_, ?_, ?_, ?_, ?_, ?_, ?_, ?_⟩
  · rw [e]; exact key 1 (by decide)
  · rw [e]; exact key 2 (by decide)
  · rw [e]; exact key 3 (by decide)
  · rw [e]; exact key 4 (by decide)
  · rw [e]; exact key 5 (by decide)
  · rw [e]; exact key 6 (by decide)
  · rw [e]; exact key 7 (by decide)
  · rw [e]; exact key 8 (by decide)
  · rw [e]; exact key 9 (by decide)

theorem rgt_iff {h z m : Bool} : rgt h z m = true ↔ if h = true then m = true else z = true := by unfold rgt; cases h <;> simp
theorem textsB_iff {l : List ByteArray} : textsB l = true ↔ (1 ≤ l.length ∧ l.length ≤ 8) ∧ ∀ s, s ∈ l → s.size ≤ 32 := by
  simp only [textsB, Bool.and_eq_true, inB_iff, Bool.not_eq_true', List.any_eq_false, decide_eq_true_eq, Nat.not_lt]
  constructor
  · rintro ⟨h1, h2⟩; exact ⟨by omega, h2⟩
  · rintro ⟨h1, h2⟩; exact ⟨by omega, h2⟩
theorem size0 {s : ByteArray} : s.toList.isEmpty = true ↔ s.size = 0 := by
  rw [ByteArray.toList_eq, List.isEmpty_iff, ← List.length_eq_zero_iff, sizeL]
theorem size0_eq {s : ByteArray} (h : s.size = 0) : s = ⟨#[]⟩ := bl_inj (by rw [List.eq_nil_of_length_eq_zero (show (bl s).length = 0 from h)]; rfl)

theorem check_iff {c : CV} : c.check = 0 ↔ (1 ≤ c.kind ∧ c.kind ≤ 6) ∧ (if hasL c.kind 110 = true then 1 ≤ c.n ∧ c.n ≤ 1099511627776 else c.n = 0) ∧ (if hasL c.kind 106 = true then 1 ≤ c.job ∧ c.job ≤ 8 else c.job = 0) ∧
    (if hasL c.kind 112 = true then 1 ≤ c.prog.size ∧ c.prog.size ≤ 1024 else c.prog.size = 0) ∧ (if hasL c.kind 98 = true then 1 ≤ c.badge ∧ c.badge ≤ 1099511627776 else c.badge = 0) ∧
    (if hasL c.kind 115 = true then (0 ≤ c.slot ∧ c.slot ≤ 7) ∧ 1 ≤ c.life ∧ c.life ≤ 1099511627776 else c.slot = 0 ∧ c.life = 0) ∧
    (if hasL c.kind 116 = true then (1 ≤ c.texts.length ∧ c.texts.length ≤ 8) ∧ ∀ s, s ∈ c.texts → s.size ≤ 32 else c.texts.length = 0) ∧
    (if hasL c.kind 114 = true then (0 ≤ c.code ∧ c.code ≤ 7) ∧ (c.code = 0 ∨ c.bits = 0) else c.code = 0 ∧ c.bits = 0) := by
  have hN : ∀ z : Nat, (1 ≤ (z : Int) ∧ (z : Int) ≤ 1024) ↔ (1 ≤ z ∧ z ≤ 1024) := fun z => by omega
  unfold CV.check
  by_cases h1 : inB c.kind 1 6 = true
  · rw [if_pos h1]
    have h1' := inB_iff.1 h1
    by_cases h2 : (c.r1 && c.r2 && c.r3 && c.r4 && c.r5 && c.r6 && c.r7) = true
    · rw [if_pos h2]
      simp only [Bool.and_eq_true, CV.r1, CV.r2, CV.r3, CV.r4, CV.r5, CV.r6, CV.r7, CV.noRes, rgt_iff, inB_iff, beq_iff_eq, size0, textsB_iff, Bool.or_eq_true, hN, Int.natCast_eq_zero] at h2
      simp only [true_iff]
      obtain ⟨⟨⟨⟨⟨⟨r1, r2⟩, r3⟩, r4⟩, r5⟩, r6⟩, r7⟩ := h2
      exact ⟨h1', r1, r2, r3, r4, r5, r6, r7⟩
    · rw [if_neg h2]
      refine ⟨fun h => absurd h (by decide), fun ⟨_, r1, r2, r3, r4, r5, r6, r7⟩ => absurd ?_ h2⟩
      simp only [Bool.and_eq_true, CV.r1, CV.r2, CV.r3, CV.r4, CV.r5, CV.r6, CV.r7, CV.noRes, rgt_iff, inB_iff, beq_iff_eq, size0, textsB_iff, Bool.or_eq_true, hN, Int.natCast_eq_zero]
      exact ⟨⟨⟨⟨⟨⟨r1, r2⟩, r3⟩, r4⟩, r5⟩, r6⟩, r7⟩
  · rw [if_neg h1]
    exact ⟨fun h => absurd h (by decide), fun h => absurd (inB_iff.2 h.1) h1⟩

end Go.Proofs.YtmgnekjhlfghaaaGreat

/-
  state: a state as plain data; a state as a thing.
-/
namespace Go.Proofs.YtmgnekjhlfghaaaGreat
open Go.RowKit
set_option linter.unusedVariables false
set_option linter.unusedSimpArgs false

/-- A row of rows of texts. -/
def tL : Lay (List ByteArray × TS) where
  f := fun x => [.slice x.2.a x.1.length x.2.c]
  d := ([], ⟨none, 0⟩)
  sz := 1
  len := fun _ => rfl
  pos := by decide
  one := fun a u hu => by simp at hu; subst hu; rfl

/-- A state. -/
structure SV where
  q : QS
  res : Int
  progs : List ByteArray
  logs : List (List ByteArray)

/-- A log, as a row of the state's own. -/
def lg1 (x : List ByteArray × TS) : Thing1 := Row1 9 1 (.slice x.2.a x.1.length x.2.c) x.1.length (sL.cells x.1)
/-- A state's things. -/
def sk1 (S Q : Nat) (q : QS) (res : Int) (pv : Value) (progs : List ByteArray) (lv : Value) (ll : List (List ByteArray × TS)) : List Thing1 :=
  [Blk1 S (.cells #[.pointer (some ⟨Q, 0, none⟩), .int .i64 res, pv, lv] 75), Qk1 Q q, Row1 9 1 pv progs.length (sL.cells progs), Row1 41 1 lv ll.length (tL.cells ll)] ++ ll.map lg1
def skL (S Q : Nat) (q : QS) (res : Int) (pv : Value) (progs : List ByteArray) (lv : Value) (ll : List (List ByteArray × TS)) : List Thing :=
  [BlkT S (.cells #[.pointer (some ⟨Q, 0, none⟩), .int .i64 res, pv, lv] 75), QkT Q q, RowT 9 1 pv progs.length (sL.cells progs), RowT 41 1 lv ll.length (tL.cells ll)] ++ ll.map fun x => own (lg1 x)
theorem sk1_own (S Q : Nat) (q : QS) (res : Int) (pv : Value) (progs : List ByteArray) (lv : Value) (ll : List (List ByteArray × TS)) : (sk1 S Q q res pv progs lv ll).map own = skL S Q q res pv progs lv ll := by
  simp [sk1, skL, BlkT, QkT, RowT]
theorem sk1_loc (S Q : Nat) (q : QS) (res : Int) (pv : Value) (progs : List ByteArray) (lv : Value) (ll : List (List ByteArray × TS)) : ∀ A, A ∈ sk1 S Q q res pv progs lv ll → Loc1 A := by
  intro A hA
  simp only [sk1, List.cons_append, List.nil_append, List.mem_cons, List.mem_map] at hA
  rcases hA with rfl | rfl | rfl | rfl | ⟨x, _, rfl⟩
  · exact inferInstance
  · exact inferInstance
  · exact inferInstance
  · exact inferInstance
  · exact (inferInstance : Loc1 (Row1 _ _ _ _ _))

/-- A state, as one thing. -/
def Sk1 (S : Nat) (v : SV) : Thing1 := fun w F => ∃ (Q : Nat) (pv lv : Value) (ll : List (List ByteArray × TS)), ll.map (·.1) = v.logs ∧ Pack1 (sk1 S Q v.q v.res pv v.progs lv ll) w F
def SkT (S : Nat) (v : SV) : Thing := own (Sk1 S v)
instance (S : Nat) (v : SV) : Loc1 (Sk1 S v) where
  keep := fun ⟨Q, pv, lv, ll, h1, h2⟩ hF hd => ⟨Q, pv, lv, ll, h1, h2.keep hF hd⟩
  lt := fun ⟨Q, pv, lv, ll, h1, h2⟩ x hx => h2.lt x hx

section
variable {W : Base} {w : World} {R : List Thing}

theorem St.sk (H : St W w R) (i : Nat) {S : Nat} {v : SV} (hi : R[i]? = some (SkT S v)) : ∃ (Q : Nat) (pv lv : Value) (ll : List (List ByteArray × TS)), ll.map (·.1) = v.logs ∧ St W w (R.set i NilT ++ skL S Q v.q v.res pv v.progs lv ll) := by
  obtain ⟨F, ⟨Q, pv, lv, ll, h1, h2⟩, h3⟩ := H.unpackG i hi
  refine ⟨Q, pv, lv, ll, h1, ?_⟩
  have h := h3 _ h2
  rwa [sk1_own] at h
theorem St.skBack {i S Q : Nat} {q : QS} {res : Int} {pv lv : Value} {progs : List ByteArray} {ll : List (List ByteArray × TS)} (hil : i < R.length) (H : St W w (R.set i NilT ++ skL S Q q res pv progs lv ll)) : St W w (R.set i (SkT S ⟨q, res, progs, ll.map (·.1)⟩)) := by
  rw [← sk1_own] at H
  have h := H.packG i (List.getElem?_set_self hil) (sk1_loc _ _ _ _ _ _ _ _) (B := Sk1 S ⟨q, res, progs, ll.map (·.1)⟩) (fun F hP => ⟨Q, pv, lv, ll, rfl, hP⟩)
  rwa [List.set_set] at h
theorem St.skEnd {S Q : Nat} {q : QS} {res : Int} {pv lv : Value} {progs : List ByteArray} {ll : List (List ByteArray × TS)} (H : St W w (R ++ skL S Q q res pv progs lv ll)) : St W w (R ++ [SkT S ⟨q, res, progs, ll.map (·.1)⟩]) := by
  rw [← sk1_own] at H
  exact H.packEnd (sk1_loc _ _ _ _ _ _ _ _) (B := Sk1 S ⟨q, res, progs, ll.map (·.1)⟩) (fun F hP => ⟨Q, pv, lv, ll, rfl, hP⟩)
end
end Go.Proofs.YtmgnekjhlfghaaaGreat

/-
  queue: Load, for other layers' dumps.
-/
namespace Go.Proofs.YtmgnekjhlfghaaaGreat
namespace QLd
open Go.RowKit
set_option linter.unusedVariables false
set_option linter.unusedSimpArgs false

theorem row_at {q : QS} {k : Nat} (hk : k < q.rows.length) {j : Int} (hj : j = k + 1) : q.row j = (qL.nth q.rows k, true) := by
  unfold QS.row
  rw [if_neg (by omega), show (j - 1).toNat = k by omega]
theorem row_no {q : QS} {j : Int} (hj : j < 1 ∨ (q.rows.length : Int) < j) : q.row j = (.zero, false) := by unfold QS.row; rw [if_pos hj]
section
variable {W : Base} {w : World} {R : List Thing}

theorem st_findIs (H : St W w R) (i : Nat) {Q : Nat} {q : QS} (hi : R[i]? = some (QkT Q q)) (hl : q.rows.length ≤ 8) {b : Int} {x : QR} {z : Bool} (hj : q.find b = (x, z)) :
    Calls Tryz.prog 33 #[.pointer (some ⟨Q, 0, none⟩), .int .i64 b] w fun e w' => e = .returned (.tuple #[.agg #[.int .i64 x.job, .int .i64 x.st, .int .i64 x.at_, .int .i64 x.ba, .int .i64 x.node, .int .i64 x.life, .int .i64 x.code, .int .u64 x.bits], .bool z]) ∧ St W w' R := by
  refine (st_find H i hi hl b).mono ?_
  rintro e w' ⟨x', z', h, rfl, hF⟩
  rw [hj] at h
  obtain ⟨rfl, rfl⟩ := (Prod.mk.injEq _ _ _ _).mp h
  exact ⟨rfl, H.same hF⟩
end
theorem find_snd (q : QS) (b : Int) : (q.find b).2 = true ↔ ∃ i, i < q.rows.length ∧ 0 < b ∧ (qL.nth q.rows i).ba = b := by
  unfold QS.find
  rcases fIdx_cases (QR.pFind b) q.rows with ⟨k, hk, hp, _, he⟩ | ⟨ha, he⟩
  · rw [he, row_at hk rfl]
    simp only [QR.pFind, Bool.and_eq_true, beq_iff_eq, decide_eq_true_eq] at hp
    exact ⟨fun _ => ⟨k, hk, hp.2, hp.1⟩, fun _ => rfl⟩
  · rw [he, row_no (by omega)]
    refine ⟨(fun h => by cases h), fun ⟨i, hi, h0, h1⟩ => ?_⟩
    have h2 := ha i hi
    simp [QR.pFind, h1, h0] at h2

/-- One row more is as it may be. -/
theorem wf_snoc {q : QS} (hw : q.wf) (hl : q.rows.length < 8) (x : QR) : ({ q with rows := q.rows ++ [x] } : QS).wf ↔ (q.find x.ba).2 = false ∧ x.may q.att (q.rows.length + 1) = true := by
  constructor
  · intro h
    have hx : qL.nth (q.rows ++ [x]) q.rows.length = x := by rw [qL.nth_snoc, if_pos rfl]
    constructor
    · rw [← Bool.not_eq_true, find_snd]
      rintro ⟨i, hi, h0, h1⟩
      have h2 := h.ba i q.rows.length hi (by simp)
      simp only [hx] at h2
      rw [qL.nth_snoc, if_neg (by omega)] at h2
      exact h2 h0 h1
    · have h3 := h.ok q.rows.length (by simp)
      simp only [hx] at h3
      exact h3
  · rintro ⟨h1, h2⟩
    have h3 : ¬ (q.find x.ba).2 = true := by rw [h1]; simp
    rw [find_snd] at h3
    refine ⟨hw.a1, hw.a2, by simp; omega, fun k hk => ?_, fun i j hij hj h0 => ?_⟩
    · simp only [List.length_append, List.length_cons, List.length_nil] at hk
      show (qL.nth (q.rows ++ [x]) k).may q.att (k + 1) = true
      rw [qL.nth_snoc]
      split
      · rename_i he; rw [he]; exact h2
      · exact hw.ok k (by omega)
    · simp only [List.length_append, List.length_cons, List.length_nil] at hj
      revert h0
      show 0 < (qL.nth (q.rows ++ [x]) j).ba → (qL.nth (q.rows ++ [x]) i).ba ≠ (qL.nth (q.rows ++ [x]) j).ba
      rw [qL.nth_snoc, qL.nth_snoc, if_neg (show ¬ i = q.rows.length by omega)]
      split
      · exact fun h0 he => h3 ⟨i, by omega, h0, he⟩
      · exact fun h0 => hw.ba i j hij (by omega) h0

theorem wf_take {n : Int} {l : List QR} (hw : (⟨n, l⟩ : QS).wf) (k : Nat) : (⟨n, l.take k⟩ : QS).wf := by
  have hn : ∀ i, i < (l.take k).length → qL.nth (l.take k) i = qL.nth l i := fun i hi => by
    simp only [List.length_take] at hi
    have h1 := qL.nth_get (l := l.take k) (k := i) (by simp only [List.length_take]; omega)
    have h2 := qL.nth_get (l := l) (k := i) (by omega)
    rw [List.getElem?_take, if_pos (by omega), h2] at h1
    exact (Option.some.inj h1).symm
  have h8 := hw.n
  refine ⟨hw.a1, hw.a2, by show (l.take k).length ≤ 8; simp only [List.length_take]; have : l.length ≤ 8 := h8; omega, fun i hi => ?_, fun i j hij hj h0 => ?_⟩
  · show (qL.nth (l.take k) i).may n (i + 1) = true
    rw [hn i hi]
    exact hw.ok i (by have : i < (l.take k).length := hi; simp only [List.length_take] at this; show i < l.length; omega)
  · have hj' : j < (l.take k).length := hj
    revert h0
    show 0 < (qL.nth (l.take k) j).ba → (qL.nth (l.take k) i).ba ≠ (qL.nth (l.take k) j).ba
    rw [hn i (by omega), hn j hj']
    exact fun h0 => hw.ba i j hij (by simp only [List.length_take] at hj'; show j < l.length; omega) h0

theorem st_of_one {W : Base} {w w' : World} {R : List Thing} (H : St W w R) {Q : Nat} {q : QS} (h : St (.of w) w' [QkT Q q]) : St W w' (R ++ [QkT Q q]) := by
  obtain ⟨F, h1, h2⟩ := h.get 0 rfl
  exact H.new h.fr inferInstance h1 (fun x hx => (h2 x hx).elim (fun h => by cases h) id)

set_option maxHeartbeats 3200000 in
set_option maxRecDepth 100000 in
theorem qload_any (w : World) (n : Int) (hn1 : 1 ≤ n) (hn8 : n ≤ 8) (a : Option Addr) (m cap : Nat) (l : List QR) (hm : l.length = m) (ha : In w 8 a m cap (qL.at_ l)) :
    Calls Tryz.prog 55 #[.int .i64 n, .slice a m cap] w fun e w' => (⟨n, l⟩ : QS).wf ∧ (∃ Q, e = .returned (.tuple #[.pointer (some ⟨Q, 0, none⟩), .int .i64 0]) ∧ St (.of w) w' [QkT Q ⟨n, l⟩]) ∨ ¬ (⟨n, l⟩ : QS).wf ∧ e = .returned (.tuple #[.pointer none, .int .i64 114]) ∧ Fr [] w w' := by
  subst hm
  have hmx := ha.max
  have H := St.refl w
  by_cases hl : 8 < l.length
  · have HW := hid (show ¬ (⟨n, l⟩ : QS).wf from fun h => by have h1 : l.length ≤ 8 := h.n; omega)
    clear ha
    go_enter Tryz.func55, Tryz.ntmps55
    go_wp2_with fail
    refine (st_qnew H n hn1 hn8).mono ?_
    clear H
    rintro e w101 ⟨Q, rfl, H⟩
    try simp only [List.nil_append, List.cons_append, List.set_cons_zero, List.set_cons_succ] at H
    go_wp2_with fail
    exact bodyPost_ret (v := .tuple #[.pointer none, .int .i64 114]) (by simp [results, Tryz.results55, go_sem]) rfl (.inr ⟨HW.out, rfl, H.fr⟩)
  have hl8 : l.length ≤ 8 := by omega
  have HA := hid ha
  clear ha hl
  go_enter Tryz.func55, Tryz.ntmps55
  go_wp2_with fail
  refine (st_qnew H n hn1 hn8).mono ?_
  clear H
  rintro e w102 ⟨Q, rfl, H⟩
  try simp only [List.nil_append, List.cons_append, List.set_cons_zero, List.set_cons_succ] at H
  go_wp2_with fail
  have HH := hid H
  clear H
  go_loopw [25] (fun i wr => ∃ k : Nat, k ≤ l.length ∧ i = .int .i64 k ∧ St (.of w) wr [QkT Q ⟨n, l.take k⟩] ∧ (⟨n, l.take k⟩ : QS).wf) (fun i _ => l.length - (intOf i).toNat)
  case atStart => exact ⟨0, Nat.zero_le _, rfl, by simpa using HH.out, by simpa using qnew_wf hn1 hn8⟩
  case round =>
    clear HH
    obtain ⟨k, hk, rfl, H, hw⟩ := hrel
    have HW := hid hw
    clear hw
    by_cases hkl : k < l.length
    · obtain ⟨ba, oa, rfl⟩ := HA.out.sm (by omega)
      obtain ⟨y0, y1, y2, y3, y4, y5, y6, y7⟩ := qrow_cells (HA.out.fr0 H.fr) k hkl
      have hbl := World.block_lt_of_cell? _ _ y0
      simp only at hbl
      have hlt : (⟨n, l.take k⟩ : QS).rows.length = k := by show (l.take k).length = k; simp; omega
      have hsn := wf_snoc HW.out (by omega) (qL.nth l k)
      have htk : l.take k ++ [qL.nth l k] = l.take (k + 1) := by rw [List.take_add_one, qL.nth_get hkl]; rfl
      simp only [hlt] at hsn
      have HS := hid hsn
      have HT := hid htk
      have HN := hid (qL.nth_get hkl)
      clear hsn htk
      generalize qL.nth l k = x at y0 y1 y2 y3 y4 y5 y6 y7 HS HT HN
      obtain ⟨f, z, hf⟩ : ∃ f z, (⟨n, l.take k⟩ : QS).find x.ba = (f, z) := ⟨_, _, rfl⟩
      have HF := hid hf
      clear hf
      go_wp2_with fail
      refine (st_findIs (H.alloc (.cells #[.int .i64 x.job, .int .i64 x.st, .int .i64 x.at_, .int .i64 x.ba, .int .i64 x.node, .int .i64 x.life, .int .i64 x.code, .int .u64 x.bits] 51)) 0 rfl HW.out.n HF.out).mono ?_
      clear H y0 y1 y2 y3 y4 y5 y6 y7
      rintro e w8 ⟨rfl, H⟩
      try simp only [List.nil_append, List.cons_append, List.set_cons_zero, List.set_cons_succ] at H
      have hnw : ¬ (z = false ∧ x.may n (k + 1) = true) → ¬ (⟨n, l⟩ : QS).wf := fun h hw => h (by
        have h1 := wf_take hw (k + 1)
        rw [← HT.out] at h1
        have h2 := HS.out.1 h1
        rw [HF.out] at h2
        exact h2)
      have HNW := hid hnw
      clear hnw
      cases z
      case true =>
        have HF2 := hid H.fr
        clear H
        go_wp2_with fail
        exact bodyPost_ret (v := .tuple #[.pointer none, .int .i64 114]) (by simp [results, Tryz.results55, go_sem]) rfl (.inr ⟨HNW.out (fun h => by cases h.1), rfl, HF2.out.alloc _⟩)
      case false =>
        have kb := H.blk 1 rfl
        have k0 := cell_blk (i := 0) kb rfl
        have k1 := cell_blk (i := 1) kb rfl
        have k2 := cell_blk (i := 2) kb rfl
        have k3 := cell_blk (i := 3) kb rfl
        have k4 := cell_blk (i := 4) kb rfl
        have k5 := cell_blk (i := 5) kb rfl
        have k6 := cell_blk (i := 6) kb rfl
        have k7 := cell_blk (i := 7) kb rfl
        have hkl2 := lt_of_block kb
        have hQ := H.qk 0 rfl
        have hHH := hid H
        obtain ⟨qa, qc, hq1, _, _⟩ := hQ
        have q0 := cell_blk (i := 0) hq1 rfl
        have hMay := fun (wx : World) (hx : wx.cell? ⟨Q, 0, none⟩ = some (.int .i64 n)) => may_any wx Q n hx x.job x.st x.at_ x.ba x.node x.life x.code x.bits (k + 1)
        have HMay := hid (And.intro hMay q0)
        clear hMay kb hq1 q0
        go_wp2_with fail
        refine (HMay.out.1 _ (((Fr.refl _ _).alloc _).cell0 HMay.out.2)).mono ?_
        rintro e w9 ⟨rfl, hF9⟩
        cases hz : QR.may n x (k + 1)
        case false =>
          have HF2 := hid hF9
          have HF3 := hid hHH.out.fr
          have HZ := hid hz
          clear hF9 hz H k0 k1 k2 k3 k4 k5 k6 k7
          go_wp2_with fail
          exact bodyPost_ret (v := .tuple #[.pointer none, .int .i64 114]) (by simp [results, Tryz.results55, go_sem]) rfl (.inr ⟨HNW.out (fun h => by have := HZ.out; rw [h.2] at this; cases this), rfl, (HF3.out.alloc _).trans HF2.out⟩)
        case true =>
          have HZT := hid hz
          clear hz k0 k1 k2 k3 k4 k5 k6 k7
          replace H := ((H.alloc_ (.cells #[.int .i64 f.job, .int .i64 f.st, .int .i64 f.at_, .int .i64 f.ba, .int .i64 f.node, .int .i64 f.life, .int .i64 f.code, .int .u64 f.bits] 51)).same hF9)
          clear hF9
          have kb := H.blk 1 rfl
          have k0 := cell_blk (i := 0) kb rfl
          have k1 := cell_blk (i := 1) kb rfl
          have k2 := cell_blk (i := 2) kb rfl
          have k3 := cell_blk (i := 3) kb rfl
          have k4 := cell_blk (i := 4) kb rfl
          have k5 := cell_blk (i := 5) kb rfl
          have k6 := cell_blk (i := 6) kb rfl
          have k7 := cell_blk (i := 7) kb rfl
          have hkl3 := lt_of_block kb
          obtain ⟨F, ⟨rv, rfl, g1, g2⟩, _, hback⟩ := H.at 0 rfl
          obtain ⟨qa2, qc2, rfl, _, _, _⟩ := own_slice g2
          have c1 := cell_blk (i := 1) g1 rfl
          have f1 : w9.frozen? ⟨Q, 1, none⟩ = false := free_blk g1
          obtain ⟨i0, hi0, hz0, hz1, hz2⟩ := info_parts info_qrow
          have HI := hid (And.intro hi0 (And.intro hz0 (And.intro hz1 hz2)))
          have hQo := ownsRow_ne g2 g1 (by decide)
          have HG := hid (And.intro g1 (And.intro g2 (And.intro hback hQo)))
          have hQl := lt_of_block g1
          clear g1 g2 hback H hi0 hz0 hz1 hz2 hQo kb
          simp only [hlt] at c1 HG
          go_wp2_with fail
          go_region_law (refine step_append_blk rfl (.tmp 50) (.tmp 52) 37 rfl 51 i0 (.agg #[.int .i64 0, .int .i64 0, .int .i64 0, .int .i64 0, .int .i64 0, .int .i64 0, .int .i64 0, .int .u64 0]) 8 64 Tryz.underlying37 HI.out.1 HI.out.2.1 HI.out.2.2.1 HI.out.2.2.2 rfl (by decide) (.slice qa2 k qc2) k _ rfl (ownsRow_keep (S := []) HG.out.2.1 (((Fr.refl [] w9).drew).alloc _) (by simp)) ⟨w9.heap.size, 0, none⟩ 1 1 (QR.f x) rfl rfl (news_alloc w9.drew (QR.f x) _) (qL.one x) (by unfold maxLen; omega) (by omega) ?_; intro v w10 ho hF hb hn; obtain ⟨g, c', rfl, _⟩ := ownsRow_shape ho (by omega); have hX := hF.keep (blk_alloc_lt (.cells #[.int .i64 x.job, .int .i64 x.st, .int .i64 x.at_, .int .i64 x.ba, .int .i64 x.node, .int .i64 x.life, .int .i64 x.code, .int .u64 x.bits] 51) (w := w9.drew) HG.out.1) HG.out.2.2.2; have e1 := cell_blk (i := 1) hX rfl; have j1 := free_blk (i := 1) hX; have HZZ := hid (And.intro hX (And.intro ho (And.intro hF hb))); have hl10 := lt_of_block hX; clear hX ho hF hb hn)
          all_goals go_wp2_with fail
          all_goals
            obtain ⟨z1, z2, z3, z4⟩ := HZZ.out
            obtain ⟨y1, y2, hback, y4⟩ := HG.out
            have hFw : Fr (Q :: (Value.slice qa2 k qc2).ownBlock.toList) w9 w10 := (((Fr.refl _ w9).drew).alloc (.cells #[.int .i64 x.job, .int .i64 x.st, .int .i64 x.at_, .int .i64 x.ba, .int .i64 x.node, .int .i64 x.life, .int .i64 x.code, .int .u64 x.bits] 51)).step z3 (fun x hx => .inl (List.mem_cons_of_mem _ hx))
            have hbb : ∀ x, x ∈ (Value.slice (some ⟨g, 0, none⟩) (k + 1) c').ownBlock.toList → x ∈ (Value.slice qa2 k qc2).ownBlock.toList ∨ w9.heap.size ≤ x := fun x hx => by
              rcases z4 x (by simpa using hx) with h | h
              · exact .inl (by simpa using h)
              · right
                have hsz : w9.drew.heap.size = w9.heap.size := rfl
                first | omega | (simp at h; omega)
            have hgQ : g ≠ Q := fun h => by
              rcases hbb g (by simp [Value.ownBlock]) with h1 | h1
              · rw [h] at h1; exact y4 h1
              · omega
            have hlen : (l.take (k + 1)).length = k + 1 := by simp; omega
            have hcs : qL.cells (l.take k) ++ QR.f x = qL.cells (l.take (k + 1)) := by rw [← HT.out]; exact qL.snoc _ _
            have hfin := hback (w10.setCell ⟨Q, 1, none⟩ (.slice (some ⟨g, 0, none⟩) (k + 1) c')) (Q :: (Value.slice (some ⟨g, 0, none⟩) (k + 1) c').ownBlock.toList) (Qk1 Q ⟨n, l.take (k + 1)⟩) inferInstance ⟨.slice (some ⟨g, 0, none⟩) (k + 1) c', rfl, by rw [blk_setCell_at _ z1]; simp, by
              show World.ownsRow _ 0 _ 8 _ (l.take (k + 1)).length (qL.cells (l.take (k + 1)))
              rw [hlen, ← hcs]
              exact ownsRow_keep (S := [Q]) z2 ((Fr.refl _ _).setCell (.inl (by simp)) _) (fun x hx => by simp [Value.ownBlock] at hx; subst hx; simpa using hgQ)⟩ (hFw.setCell (.inl (by simp)) _) (fun x hx => by
                simp only [List.mem_cons] at hx ⊢
                rcases hx with rfl | hx
                · exact .inl (.inl rfl)
                · exact (hbb x hx).imp .inr id)
            have hw2 : (⟨n, l.take (k + 1)⟩ : QS).wf := by rw [← HT.out]; exact HS.out.2 ⟨by rw [HF.out], HZT.out⟩
            exact ⟨⟨k + 1, by omega, by go_num, hfin.take 1, hw2⟩, by simp [intOf]; omega⟩
    · obtain rfl : k = l.length := by omega
      have hw := HW.out
      rw [List.take_length] at H hw
      have HW2 := hid hw
      clear hw
      go_wp2_with fail
      exact bodyPost_ret (v := .tuple #[.pointer (some ⟨Q, 0, none⟩), .int .i64 0]) (by simp [results, Tryz.results55, go_sem]) rfl (.inl ⟨HW2.out, Q, rfl, H⟩)

end QLd
end Go.Proofs.YtmgnekjhlfghaaaGreat

/-
  The document's queue: HolderMay, ResultMay, may.
-/
namespace Go.Proofs.YtmgnekjhlfghaaaGreat
open Go.RowKit QLd
set_option linter.unusedVariables false
set_option linter.unusedSimpArgs false

theorem holderMay (w : World) (node life : Int) : Calls Tryz.prog 126 #[.agg #[.int .i64 node, .int .i64 life]] w fun e w' => e = .returned (.bool (holdB node life)) ∧ w.alloc (.cells #[.int .i64 node, .int .i64 life] 46) = w' := by
  by_cases h1 : 2 ≤ node
  by_cases h2 : node ≤ 9
  by_cases h3 : 1 ≤ life
  all_goals
    go_enter Tryz.func126, Tryz.ntmps126
    go_wp2
    go_ret
    exact ⟨ret_bool (by rw [Bool.eq_iff_iff]; simp [holdB, inB]; omega), rfl⟩

theorem resultMay (w : World) (code bits : Int) : Calls Tryz.prog 129 #[.agg #[.int .i64 code, .int .u64 bits]] w fun e w' => e = .returned (.bool (resB code bits)) ∧ w.alloc (.cells #[.int .i64 code, .int .u64 bits] 49) = w' := by
  by_cases h1 : 0 ≤ code
  by_cases h2 : code ≤ 7
  cases h3 : (code == 0)
  all_goals
    try simp only [beq_iff_eq, beq_eq_false_iff_ne] at h3
    go_enter Tryz.func129, Tryz.ntmps129
    go_wp2
    go_ret
    exact ⟨ret_bool (by rw [Bool.eq_iff_iff]; simp [resB, inB]; omega), by first | rfl | (subst h3; rfl)⟩

set_option maxHeartbeats 1600000 in
set_option maxRecDepth 100000 in
theorem mayRef (w : World) (att job st at_ ba node life code bits : Int) :
    Calls Tryz.prog 143 #[.int .i64 att, .agg #[.int .i64 job, .int .i64 st, .int .i64 at_, .int .i64 ba, .int .i64 node, .int .i64 life, .int .i64 code, .int .u64 bits]] w fun e w' => e = .returned (.bool ((⟨job, st, at_, ba, node, life, code, bits⟩ : QR).may att job)) ∧ Fr [] w w' := by
  by_cases hb : 0 ≤ at_ ∧ at_ ≤ att ∧ 0 ≤ ba ∧ ba ≤ 1099511627776 ∧ (ba = 0 ↔ at_ = 0)
  case neg =>
    have e : (⟨job, st, at_, ba, node, life, code, bits⟩ : QR).may att job = false := may_false_a (by
      rw [← Bool.not_eq_true]; simp [QR.ka, inB]; omega)
    rw [e]
    clear e
    by_cases h1 : at_ < 0
    case pos =>
      go_enter Tryz.func143, Tryz.ntmps143
      go_wp2
      go_ret
      exact ⟨rfl, (Fr.refl _ _).alloc _⟩
    by_cases h2 : att < at_
    case pos =>
      go_enter Tryz.func143, Tryz.ntmps143
      go_wp2
      go_ret
      exact ⟨rfl, (Fr.refl _ _).alloc _⟩
    by_cases h3 : ba < 0
    case pos =>
      go_enter Tryz.func143, Tryz.ntmps143
      go_wp2
      go_ret
      exact ⟨rfl, (Fr.refl _ _).alloc _⟩
    by_cases h4 : 1099511627776 < ba
    case pos =>
      go_enter Tryz.func143, Tryz.ntmps143
      go_wp2
      go_ret
      exact ⟨rfl, (Fr.refl _ _).alloc _⟩
    have h5 : ¬ (ba = 0 ↔ at_ = 0) := fun h => hb ⟨by omega, by omega, by omega, by omega, h⟩
    clear hb
    have h6 : ba = 0 ∧ (at_ == 0) = false ∨ at_ = 0 ∧ (ba == 0) = false := by
      simp only [beq_eq_false_iff_ne]; omega
    clear h5
    rcases h6 with ⟨rfl, h6⟩ | ⟨rfl, h6⟩
    all_goals
      go_enter Tryz.func143, Tryz.ntmps143
      go_wp2
      go_ret
      exact ⟨rfl, (Fr.refl _ _).alloc _⟩
  obtain ⟨b1, b2, b3, b4, b5⟩ := hb
  have e : (⟨job, st, at_, ba, node, life, code, bits⟩ : QR).may att job = ((⟨job, st, at_, ba, node, life, code, bits⟩ : QR).kb && (⟨job, st, at_, ba, node, life, code, bits⟩ : QR).kc att) := by
    have h1 : (⟨job, st, at_, ba, node, life, code, bits⟩ : QR).ka att job = true := by simp [QR.ka, inB]; omega
    unfold QR.may; rw [h1]; simp
  rw [e]
  clear e
  have b6 : (ba == 0) = (at_ == 0) := by rw [Bool.eq_iff_iff]; simpa using b5
  obtain ⟨z, hz⟩ : ∃ z, (at_ == 0) = z := ⟨_, rfl⟩
  rw [hz] at b6
  clear b5
  by_cases h2 : st = 2
  case pos =>
    subst h2
    go_enter Tryz.func143, Tryz.ntmps143
    go_wp2_with fail
    all_goals
      refine (holderMay _ _ _).mono ?_
      rintro e w1 ⟨rfl, rfl⟩
      go_wp2_with fail
      all_goals
        go_ret
        exact ⟨ret_bool (by simp_all [QR.kb, QR.kc, holdB, inB] <;> omega), ((Fr.refl _ _).alloc _).alloc _⟩
  by_cases h3 : st = 3
  case pos =>
    subst h3
    go_enter Tryz.func143, Tryz.ntmps143
    go_wp2_with fail
    all_goals
      refine (resultMay _ _ _).mono ?_
      rintro e w1 ⟨rfl, rfl⟩
      go_wp2_with fail
      all_goals
        go_ret
        exact ⟨ret_bool (by simp_all [QR.kb, QR.kc, resB, inB] <;> omega), ((Fr.refl _ _).alloc _).alloc _⟩
  by_cases h1 : st = 1
  case pos =>
    subst h1
    go_enter Tryz.func143, Tryz.ntmps143
    go_wp2_with fail
    all_goals
      go_ret
      exact ⟨ret_bool (by simp_all [QR.kb, QR.kc]), ((Fr.refl _ _).alloc _)⟩
  by_cases h4 : st = 4
  case pos =>
    subst h4
    go_enter Tryz.func143, Tryz.ntmps143
    go_wp2_with fail
    all_goals
      go_ret
      exact ⟨ret_bool (by simp_all [QR.kb, QR.kc]), ((Fr.refl _ _).alloc _)⟩
  have e1 : (st == 1) = false := by rw [beq_eq_false_iff_ne]; exact h1
  have e2 : (st == 2) = false := by rw [beq_eq_false_iff_ne]; exact h2
  have e3 : (st == 3) = false := by rw [beq_eq_false_iff_ne]; exact h3
  have e4 : (st == 4) = false := by rw [beq_eq_false_iff_ne]; exact h4
  go_enter Tryz.func143, Tryz.ntmps143
  go_wp2_with fail
  all_goals
    go_ret
    exact ⟨ret_bool (by simp_all [QR.kb, QR.kc]), ((Fr.refl _ _).alloc _)⟩

end Go.Proofs.YtmgnekjhlfghaaaGreat

/-
  The document's queue: RowsMay.
-/
namespace Go.Proofs.YtmgnekjhlfghaaaGreat
open Go.RowKit QLd
set_option linter.unusedVariables false
set_option linter.unusedSimpArgs false

/-- The first k rows are as rows may be. -/
structure RM (att : Int) (l : List QR) (k : Nat) : Prop where
  ok : ∀ i, i < k → (qL.nth l i).may att (i + 1) = true
  ba : ∀ i j, i < j → j < k → 0 < (qL.nth l i).ba → (qL.nth l i).ba ≠ (qL.nth l j).ba

theorem rm_wf {att : Int} (h1 : 1 ≤ att) (h2 : att ≤ 8) (l : List QR) : (l.length ≤ 8 ∧ RM att l l.length) ↔ (⟨att, l⟩ : QS).wf := by
  constructor
  · rintro ⟨h, k⟩
    exact ⟨h1, h2, h, k.ok, fun i j hij hj h0 e => k.ba i j hij hj (by rw [e]; exact h0) e⟩
  · intro h
    exact ⟨h.n, h.ok, fun i j hij hj h0 e => h.ba i j hij hj (by rw [← e]; exact h0) e⟩

set_option maxHeartbeats 1600000 in
set_option maxRecDepth 100000 in
theorem rowsMay_any (w : World) (att : Int) (a : Option Addr) (n cap : Nat) (l : List QR) (hn : l.length = n) (ha : In w 8 a n cap (qL.at_ l)) :
    Calls Tryz.prog 115 #[.int .i64 att, .slice a n cap] w fun e w' => ∃ z : Bool, e = .returned (.bool z) ∧ (z = true ↔ l.length ≤ 8 ∧ RM att l l.length) ∧ Fr [] w w' := by
  subst hn
  have hma := ha.max
  by_cases h8 : 8 < l.length
  · have HL := hid h8
    clear ha
    go_enter Tryz.func115, Tryz.ntmps115
    go_wp2
    go_ret
    exact ⟨false, rfl, ⟨(fun h => by cases h), fun h => absurd h.1 (by have := HL.out; omega)⟩, Fr.refl _ _⟩
  have hl8 : l.length ≤ 8 := by omega
  have HA := hid ha
  clear ha h8
  go_enter Tryz.func115, Tryz.ntmps115
  go_wp2
  go_loopw [5] (fun i wr => ∃ k : Nat, k ≤ l.length ∧ i = .int .i64 k ∧ RM att l k ∧ Fr [] w wr) (fun i _ => l.length - (intOf i).toNat)
  case atStart => exact ⟨0, Nat.zero_le _, rfl, ⟨fun j hj => absurd hj (Nat.not_lt_zero _), fun i j hij hj => absurd hj (Nat.not_lt_zero _)⟩, Fr.refl _ _⟩
  case round =>
    obtain ⟨k, hk, rfl, hall, hFw⟩ := hrel
    have HAll := hid (And.intro hall hFw)
    clear hall hFw
    by_cases hlt : k < l.length
    · obtain ⟨ba, oa, rfl⟩ := HA.out.sm (by omega)
      obtain ⟨x0, x1, x2, x3, x4, x5, x6, x7⟩ := qrow_cells (HA.out.fr0 HAll.out.2) k hlt
      have hbl := World.block_lt_of_cell? _ _ x0
      simp only at hbl
      have HE : Hid (∀ x : QR, qL.nth l k = x → x.may att (k + 1) = false → ¬ RM att l l.length) := hid (fun x hx h1 h2 => by have h3 := h2.ok k hlt; rw [hx, h1] at h3; cases h3)
      obtain ⟨x, hx⟩ : ∃ x, qL.nth l k = x := ⟨_, rfl⟩
      rw [hx] at x0 x1 x2 x3 x4 x5 x6 x7
      have HX := hid hx
      clear hx
      by_cases hj : x.job = k + 1
      case neg =>
        have e1 : (x.job == (k : Int) + 1) = false := by rw [beq_eq_false_iff_ne]; exact hj
        have e2 : (x.job != (k : Int) + 1) = true := by rw [bne_iff_ne]; exact hj
        have hm : x.may att (k + 1) = false := may_false_a (by unfold QR.ka; simp [e1])
        have HM := hid hm
        clear hm hj
        go_wp2_with fail
        go_ret
        exact ⟨false, rfl, ⟨(fun h => by cases h), fun h => absurd h.2 (HE.out x HX.out HM.out)⟩, HAll.out.2⟩
      have HJ := hid hj
      have e1 : (x.job == (k : Int) + 1) = true := by rw [beq_iff_eq]; exact hj
      have e2 : (x.job != (k : Int) + 1) = false := by rw [bne_eq_false_iff_eq]; exact hj
      clear hj
      obtain ⟨z, hz⟩ : ∃ z, x.may att (k + 1) = z := ⟨_, rfl⟩
      have HZ := hid hz
      clear hz
      have hc := mayRef wr att x.job x.st x.at_ x.ba x.node x.life x.code x.bits
      rw [show (QR.mk x.job x.st x.at_ x.ba x.node x.life x.code x.bits).may att x.job = z from (show x.may att x.job = z by rw [HJ.out]; exact HZ.out)] at hc
      have HC := hid hc
      clear hc
      cases z
      case false =>
        go_wp2_with fail
        refine HC.out.mono ?_
        rintro e w1 ⟨rfl, hF1⟩
        go_wp2_with fail
        go_ret
        exact ⟨false, rfl, ⟨(fun h => by cases h), fun h => absurd h.2 (HE.out x HX.out HZ.out)⟩, HAll.out.2.trans hF1⟩
      go_wp2_with fail
      refine HC.out.mono ?_
      rintro e w1 ⟨rfl, hF1⟩
      have HF1 := hid (HAll.out.2.trans hF1)
      have y3 := hF1.cell0 x3
      clear hF1 x0 x1 x2 x4 x5 x6 x7 e1 e2 HC
      go_wp2_with fail
      have HK := hid (rfl : k = k)
      go_loopw [6] (fun i wr => ∃ j : Nat, j ≤ k ∧ i = .int .i64 j ∧ (∀ i, i < j → 0 < (qL.nth l i).ba → (qL.nth l i).ba ≠ x.ba) ∧ Fr [] w wr) (fun i _ => k - (intOf i).toNat)
      case atStart => exact ⟨0, Nat.zero_le _, rfl, fun i hi => absurd hi (Nat.not_lt_zero _), HF1.out⟩
      case round =>
        clear hbl x3 y3
        obtain ⟨j, hjk, rfl, hba, hFj⟩ := hrel
        have HB := hid (And.intro hba hFj)
        clear hba hFj
        by_cases hj : j < k
        · obtain ⟨u0, u1, u2, u3, _⟩ := qrow_cells (HA.out.fr0 HB.out.2) j (by omega)
          obtain ⟨v0, v1, v2, v3, _⟩ := qrow_cells (HA.out.fr0 HB.out.2) k hlt
          rw [HX.out] at v3
          clear u0 u1 u2 v0 v1 v2
          have HE2 : Hid (0 < (qL.nth l j).ba → (qL.nth l j).ba = x.ba → ¬ RM att l l.length) := hid (fun h1 h2 h3 => h3.ba j k hj hlt h1 (by rw [HX.out]; exact h2))
          have HN : Hid ((0 < (qL.nth l j).ba → (qL.nth l j).ba ≠ x.ba) → ∀ i, i < j + 1 → 0 < (qL.nth l i).ba → (qL.nth l i).ba ≠ x.ba) := hid (fun h i hi => by
            by_cases hij : i = j
            · rw [hij]; exact h
            · exact HB.out.1 i (by omega))
          generalize (qL.nth l j).ba = b at u3 HE2 HN
          by_cases hb0 : 0 < b
          · by_cases hbx : b = x.ba
            · have HBX := hid hbx
              have e3 : (b == x.ba) = true := by rw [beq_iff_eq]; exact hbx
              clear hbx
              go_wp2_with fail
              go_quiet (fail)
              go_wp2_with fail
              go_ret
              exact ⟨false, rfl, ⟨(fun h => by cases h), fun h => absurd h.2 (HE2.out hb0 HBX.out)⟩, HB.out.2.drewN _⟩
            · have HBX := hid hbx
              have e3 : (b == x.ba) = false := by rw [beq_eq_false_iff_ne]; exact hbx
              clear hbx
              go_wp2_with fail
              go_quiet (fail)
              go_wp2_with fail
              go_roundw
              case rel => exact ⟨j + 1, by omega, by go_num, HN.out (fun _ => HBX.out), HB.out.2.drewN _⟩
              case measure => simp [intOf]; omega
          · have hb1 : decide (0 < b) = false := by simpa using hb0
            have HB0 := hid hb0
            clear hb0
            go_wp2_with fail
            go_quiet (fail)
            go_wp2_with fail
            go_roundw
            case rel => exact ⟨j + 1, by omega, by go_num, HN.out (fun h => by have := HB0.out; omega), HB.out.2.drewN _⟩
            case measure => simp [intOf]; omega
        · have hjk2 : j = k := by omega
          have HB2 : Hid (RM att l (k + 1)) := hid ⟨fun i hi => by
            by_cases hik : i = k
            · rw [hik, HX.out]; exact HZ.out
            · exact HAll.out.1.ok i (by omega), fun i i' hij hi' h0 => by
            by_cases hik : i' = k
            · rw [hik, HX.out]; exact HB.out.1 i (by omega) h0
            · exact HAll.out.1.ba i i' hij (by omega) h0⟩
          clear hjk2
          go_wp2_with fail
          go_roundw
          case rel => exact ⟨k + 1, by omega, by go_num, HB2.out, HB.out.2⟩
          case measure => simp [intOf]; omega
    · obtain rfl : k = l.length := by omega
      go_wp2_with fail
      go_ret
      exact ⟨true, rfl, ⟨fun _ => ⟨by omega, HAll.out.1⟩, fun _ => rfl⟩, HAll.out.2⟩

end Go.Proofs.YtmgnekjhlfghaaaGreat

/-
  slices.Clone, Clip at texts.
-/
namespace Go.Proofs.YtmgnekjhlfghaaaGreat
open Go.RowKit
set_option linter.unusedVariables false
set_option linter.unusedSimpArgs false

theorem info_gs : (Tryz.prog.info? 9).map (fun i => (i.zero, i.size, i.bytes)) = some (some (.string ByteArray.empty), 1, 16) := by kernel_rfl

/-- The cells of an element. -/
theorem gs_cells {w : World} {b o n cap : Nat} {l : List ByteArray} (h : In w 1 (some ⟨b, o, none⟩) n cap (sL.at_ l)) (k : Nat) (hk : k < n) :
    w.cell? ⟨b, o + k * 1, none⟩ = some (.string (sL.nth l k)) := by
  have c0 := h.cell b o rfl (k * 1) (by omega)
  rw [show k * 1 = k * sL.sz + 0 from rfl, sL.at_add _ _ 0 (by decide)] at c0
  exact c0

theorem clip_gs (w : World) (a : Option Addr) (n cap : Nat) (h1 : n ≤ cap) (h2 : cap ≤ 9223372036854775807) (h3 : a = none → cap = 0) :
    Calls Tryz.prog 86 #[.slice a n cap] w fun e w' => e = .returned (.slice a n n) ∧ w = w' := by
  go_enter Tryz.func86, Tryz.ntmps86
  go_wp2
  go_ret
  exact ⟨rfl, rfl⟩

set_option maxHeartbeats 800000 in
set_option maxRecDepth 100000 in
theorem clone_gs (w : World) (a : Option Addr) (cap : Nat) (l : List ByteArray) (h : In w 1 a l.length cap (sL.at_ l)) (h0 : a = none → cap = 0) (hn : l.length * 16 ≤ 140737488355328) :
    Calls Tryz.prog 63 #[.slice a l.length cap] w fun e w' => ∃ a' c', e = .returned (.slice a' l.length c') ∧ Fr [] w w' ∧ w'.ownsRow 0 9 1 (.slice a' l.length c') l.length (sL.cells l) ∧ (∀ x, x ∈ (Value.slice a' l.length c').ownBlock.toList → w.heap.size ≤ x) ∧ (a' = none → c' = 0) := by
  rcases a with _ | ⟨b, off, sp⟩
  · have hn0 : l = [] := by
      rcases Nat.eq_zero_or_pos l.length with h1 | h1
      · exact List.length_eq_zero_iff.1 h1
      · obtain ⟨b, o, e⟩ := h.sm h1; cases e
    subst hn0
    obtain rfl := h0 rfl
    have heq := fun w1 => Lib.run_eql_slice_nil (P := Tryz.prog) w1 41 9 none 0 0 0 0 Tryz.underlying41
    clear h
    go_enter Tryz.func63, Tryz.ntmps63
    go_wp2
    go_ret
    exact ⟨none, 0, rfl, Fr.refl _ _, World.ownsRow_nil _ _ _ _, by simp [Value.ownBlock], fun _ => rfl⟩
  · obtain ⟨i0, hi, hz0, hz1, hz2⟩ := info_parts info_gs
    have HI := hid (And.intro hi (And.intro hz0 (And.intro hz1 hz2)))
    have H := hid h
    have hlm := h.max
    clear hi hz0 hz1 hz2 h
    have heq := fun w1 => Lib.run_eql_slice_nil (P := Tryz.prog) w1 41 9 (some ⟨b, off, sp⟩) l.length cap 0 0 Tryz.underlying41
    go_enter Tryz.func63, Tryz.ntmps63
    go_wp2_with (at_builtin; refine wpList_copied rfl (.tmp 5) (.tmp 6) 41 rfl 9 i0 (.string ByteArray.empty) 1 16 Tryz.underlying41 HI.out.1 HI.out.2.1 HI.out.2.2.1 HI.out.2.2.2 rfl (by decide) w.heap.size rfl (blk_alloc_at _ _ _ rfl) (some ⟨b, off, sp⟩) l.length cap (sL.at_ l) rfl ?qa (fun j _ => sL.at_one _ j) (by omega) ?_)
    case qa => exact H.out.fr0 ((Fr.refl [] w).alloc _)
    intro g cg w1 ho hF1 hg
    have hr : (List.range (l.length * 1)).map (sL.at_ l) = sL.cells l := sL.range l
    first | rw [hr] at ho | (simp only [Nat.mul_one] at hr ho; rw [hr] at ho)
    have hF : Fr [] w w1 := ((Fr.refl [] w).alloc (.cells #[] 9)).step hF1 (by intro x hx; simp at hx; subst hx; exact .inr (Nat.le_refl _))
    have hg' : w.heap.size ≤ g := by rcases hg with h | h <;> first | omega | (simp at h; omega)
    have HZ := hid (And.intro ho (And.intro hF hg'))
    clear ho hF hF1 hg hg'
    go_wp2_with fail
    go_ret
    exact ⟨some ⟨g, 0, none⟩, cg, rfl, HZ.out.2.1, HZ.out.1, by simpa [Value.ownBlock] using HZ.out.2.2, fun h => by cases h⟩

end Go.Proofs.YtmgnekjhlfghaaaGreat

/-
  slices.Clone at rows of texts.
-/
namespace Go.Proofs.YtmgnekjhlfghaaaGreat
open Go.RowKit
set_option linter.unusedVariables false
set_option linter.unusedSimpArgs false

theorem info_gt : (Tryz.prog.info? 41).map (fun i => (i.zero, i.size, i.bytes)) = some (some (.slice none 0 0), 1, 24) := by kernel_rfl

/-- The cells of an element. -/
theorem gt_cells {w : World} {b o n cap : Nat} {l : List (List ByteArray × TS)} (h : In w 1 (some ⟨b, o, none⟩) n cap (tL.at_ l)) (k : Nat) (hk : k < n) :
    w.cell? ⟨b, o + k * 1, none⟩ = some (.slice (tL.nth l k).2.a (tL.nth l k).1.length (tL.nth l k).2.c) := by
  have c0 := h.cell b o rfl (k * 1) (by omega)
  rw [show k * 1 = k * tL.sz + 0 from rfl, tL.at_add _ _ 0 (by decide)] at c0
  exact c0

set_option maxHeartbeats 800000 in
set_option maxRecDepth 100000 in
theorem clone_gt (w : World) (a : Option Addr) (cap : Nat) (l : List (List ByteArray × TS)) (h : In w 1 a l.length cap (tL.at_ l)) (h0 : a = none → cap = 0) (hn : l.length * 24 ≤ 140737488355328) :
    Calls Tryz.prog 64 #[.slice a l.length cap] w fun e w' => ∃ a' c', e = .returned (.slice a' l.length c') ∧ Fr [] w w' ∧ w'.ownsRow 0 41 1 (.slice a' l.length c') l.length (tL.cells l) ∧ (∀ x, x ∈ (Value.slice a' l.length c').ownBlock.toList → w.heap.size ≤ x) ∧ (a' = none → c' = 0) := by
  rcases a with _ | ⟨b, off, sp⟩
  · have hn0 : l = [] := by
      rcases Nat.eq_zero_or_pos l.length with h1 | h1
      · exact List.length_eq_zero_iff.1 h1
      · obtain ⟨b, o, e⟩ := h.sm h1; cases e
    subst hn0
    obtain rfl := h0 rfl
    have heq := fun w1 => Lib.run_eql_slice_nil (P := Tryz.prog) w1 42 41 none 0 0 0 0 Tryz.underlying42
    clear h
    go_enter Tryz.func64, Tryz.ntmps64
    go_wp2
    go_ret
    exact ⟨none, 0, rfl, Fr.refl _ _, World.ownsRow_nil _ _ _ _, by simp [Value.ownBlock], fun _ => rfl⟩
  · obtain ⟨i0, hi, hz0, hz1, hz2⟩ := info_parts info_gt
    have HI := hid (And.intro hi (And.intro hz0 (And.intro hz1 hz2)))
    have H := hid h
    have hlm := h.max
    clear hi hz0 hz1 hz2 h
    have heq := fun w1 => Lib.run_eql_slice_nil (P := Tryz.prog) w1 42 41 (some ⟨b, off, sp⟩) l.length cap 0 0 Tryz.underlying42
    go_enter Tryz.func64, Tryz.ntmps64
    go_wp2_with (at_builtin; refine wpList_copied rfl (.tmp 5) (.tmp 6) 42 rfl 41 i0 (.slice none 0 0) 1 24 Tryz.underlying42 HI.out.1 HI.out.2.1 HI.out.2.2.1 HI.out.2.2.2 rfl (by decide) w.heap.size rfl (blk_alloc_at _ _ _ rfl) (some ⟨b, off, sp⟩) l.length cap (tL.at_ l) rfl ?qa (fun j _ => tL.at_one _ j) (by omega) ?_)
    case qa => exact H.out.fr0 ((Fr.refl [] w).alloc _)
    intro g cg w1 ho hF1 hg
    have hr : (List.range (l.length * 1)).map (tL.at_ l) = tL.cells l := tL.range l
    first | rw [hr] at ho | (simp only [Nat.mul_one] at hr ho; rw [hr] at ho)
    have hF : Fr [] w w1 := ((Fr.refl [] w).alloc (.cells #[] 41)).step hF1 (by intro x hx; simp at hx; subst hx; exact .inr (Nat.le_refl _))
    have hg' : w.heap.size ≤ g := by rcases hg with h | h <;> first | omega | (simp at h; omega)
    have HZ := hid (And.intro ho (And.intro hF hg'))
    clear ho hF hF1 hg hg'
    go_wp2_with fail
    go_ret
    exact ⟨some ⟨g, 0, none⟩, cg, rfl, HZ.out.2.1, HZ.out.1, by simpa [Value.ownBlock] using HZ.out.2.2, fun h => by cases h⟩

end Go.Proofs.YtmgnekjhlfghaaaGreat

/-
  state: rows as things: their clones; small laws.
-/
namespace Go.Proofs.YtmgnekjhlfghaaaGreat
open Go.RowKit
set_option linter.unusedVariables false
set_option linter.unusedSimpArgs false

section
variable {W : Base} {w : World} {R : List Thing}

theorem St.rowShape (H : St W w R) (i : Nat) {e : TypeId} {sz n : Nat} {v : Value} {xs : List Value} (hi : R[i]? = some (RowT e sz v n xs)) : ∃ a c, v = .slice a n c ∧ (a = none → c = 0) ∧ n ≤ c ∧ c ≤ maxLen ∧ (0 < n → ∃ g, a = some ⟨g, 0, none⟩) := by
  rcases ownsRow_one (H.row i hi) with ⟨h1, h2, _⟩ | ⟨g, c, h1, h2, h3⟩
  · subst h2; exact ⟨none, 0, h1, fun _ => rfl, Nat.le_refl _, by decide, fun h => absurd h (Nat.lt_irrefl _)⟩
  · exact ⟨_, c, h1, fun h => by (cases h), h2, h3, fun _ => ⟨g, rfl⟩⟩
theorem St.lay {α : Type} (L : Lay α) (H : St W w R) (i : Nat) {e : TypeId} {a : Option Addr} {c : Nat} {l : List α} (hi : R[i]? = some (RowT e L.sz (.slice a l.length c) l.length (L.cells l))) : In w L.sz a l.length c (L.at_ l) := by
  obtain ⟨a', c', h1, h2⟩ := ownsRow_In (H.row i hi) (L.at_ l) (fun j hj => L.get l j hj)
  simp only [Value.slice.injEq, true_and] at h1
  rw [h1.1, h1.2]; exact h2.1

theorem st_clone_gs (H : St W w R) (i : Nat) {a : Option Addr} {c : Nat} {l : List ByteArray} (hi : R[i]? = some (RowT 9 1 (.slice a l.length c) l.length (sL.cells l))) (hn : l.length ≤ 1000) :
    Calls Tryz.prog 63 #[.slice a l.length c] w fun e w' => ∃ a' c', e = .returned (.slice a' l.length c') ∧ St W w' (R ++ [RowT 9 1 (.slice a' l.length c') l.length (sL.cells l)]) := by
  obtain ⟨a1, c1, h1, h2, _⟩ := H.rowShape i hi
  simp only [Value.slice.injEq, true_and] at h1
  obtain ⟨rfl, rfl⟩ := h1
  refine (clone_gs w a c l (H.lay sL i hi) h2 (by omega)).mono ?_
  rintro e w' ⟨a', c', rfl, hF, ho, hb, _⟩
  exact ⟨a', c', rfl, H.new (A := Row1 9 1 (.slice a' l.length c') l.length (sL.cells l)) hF inferInstance ⟨rfl, ho⟩ hb⟩
theorem st_clone_gt (H : St W w R) (i : Nat) {a : Option Addr} {c : Nat} {l : List (List ByteArray × TS)} (hi : R[i]? = some (RowT 41 1 (.slice a l.length c) l.length (tL.cells l))) (hn : l.length ≤ 1000) :
    Calls Tryz.prog 64 #[.slice a l.length c] w fun e w' => ∃ a' c', e = .returned (.slice a' l.length c') ∧ St W w' (R ++ [RowT 41 1 (.slice a' l.length c') l.length (tL.cells l)]) := by
  obtain ⟨a1, c1, h1, h2, _⟩ := H.rowShape i hi
  simp only [Value.slice.injEq, true_and] at h1
  obtain ⟨rfl, rfl⟩ := h1
  refine (clone_gt w a c l (H.lay tL i hi) h2 (by omega)).mono ?_
  rintro e w' ⟨a', c', rfl, hF, ho, hb, _⟩
  exact ⟨a', c', rfl, H.new (A := Row1 41 1 (.slice a' l.length c') l.length (tL.cells l)) hF inferInstance ⟨rfl, ho⟩ hb⟩
end
end Go.Proofs.YtmgnekjhlfghaaaGreat

/-
  state: what changes do: plain. Of no program's memory.
-/
namespace Go.Proofs.YtmgnekjhlfghaaaGreat
set_option linter.unusedVariables false
set_option linter.unusedSimpArgs false

structure SV.wf (v : SV) : Prop where
  q : v.q.wf
  np : v.progs.length = v.q.rows.length
  nl : v.logs.length = v.q.rows.length
  res : 0 ≤ v.res ∧ v.res ≤ 1099511627776
  pr : ∀ p, p ∈ v.progs → 1 ≤ p.size ∧ p.size ≤ 1024
  lg : ∀ l, l ∈ v.logs → l.length ≤ 32 ∧ ∀ t, t ∈ l → t.size ≤ 32
  bd : ∀ x, x ∈ v.q.rows → x.ba ≤ v.res
  at0 : ∀ k, k < v.q.rows.length → (qL.nth v.q.rows k).at_ = 0 → v.logs.getD k [] = []
  bt : ∀ x, x ∈ v.q.rows → 0 ≤ x.bits ∧ x.bits < 18446744073709551616

def SV.reserve (v : SV) (n : Int) : Option SV := if n ≤ v.res then none else some { v with res := n }
def SV.submit (v : SV) (job : Int) (p : ByteArray) : Option SV :=
  if job ≠ (v.progs.length : Int) + 1 then none else if v.q.submit.2.1 ≠ 0 then none else some { v with q := v.q.submit.2.2, progs := v.progs ++ [p], logs := v.logs ++ [[]] }
def SV.grant (v : SV) (job badge slot life : Int) : Option SV :=
  if v.res < badge then none else if (v.q.grant job badge (2 + slot) life).1 ≠ 0 then none else some { v with q := (v.q.grant job badge (2 + slot) life).2, logs := v.logs.set (job - 1).toNat [] }
def SV.log (v : SV) (badge : Int) (ts : List ByteArray) : Option SV :=
  if (v.q.find badge).2 = false then none else if (v.q.find badge).1.st ≠ 2 then none
  else if 32 < (v.logs.getD ((v.q.find badge).1.job - 1).toNat []).length + ts.length then none
  else some { v with logs := v.logs.set ((v.q.find badge).1.job - 1).toNat (v.logs.getD ((v.q.find badge).1.job - 1).toNat [] ++ ts) }
def SV.expire (v : SV) (badge : Int) : Option SV := if (v.q.expire badge).2.1 ≠ 0 then none else some { v with q := (v.q.expire badge).2.2 }
def SV.settle (v : SV) (badge code bits : Int) : Option SV := if (v.q.settle badge code bits).2.1 ≠ 0 then none else some { v with q := (v.q.settle badge code bits).2.2 }
/-- A change is done, if it may come. -/
def SV.does (v : SV) (c : CV) : Option SV :=
  if c.kind = 1 then v.reserve c.n else if c.kind = 2 then v.submit c.job c.prog else if c.kind = 3 then v.grant c.job c.badge c.slot c.life
  else if c.kind = 4 then v.log c.badge c.texts else if c.kind = 5 then v.expire c.badge else v.settle c.badge c.code c.bits
def SV.one (v : SV) (c : CV) : Option SV := if c.check = 0 then v.does c else none
/-- Changes, one behind the other; of an error which one. -/
def SV.go : SV → List CV → Nat → Except Nat SV
  | v, [], _ => .ok v
  | v, c :: l, i => match v.one c with
    | none => .error i
    | some v' => SV.go v' l (i + 1)
def SV.new (n : Int) : SV := ⟨⟨n, []⟩, 0, [], []⟩

theorem new_wf {n : Int} (h1 : 1 ≤ n) (h2 : n ≤ 8) : (SV.new n).wf :=
  ⟨qnew_wf h1 h2, rfl, rfl, by simp [SV.new], by simp [SV.new], by simp [SV.new], by simp [SV.new], fun k hk => by simp [SV.new] at hk, by simp [SV.new]⟩

theorem reserve_wf {v v' : SV} (hv : v.wf) {n : Int} (hn : n ≤ 1099511627776) (h : v.reserve n = some v') : v'.wf := by
  unfold SV.reserve at h
  split at h
  · cases h
  · next hlt =>
    cases h
    exact ⟨hv.q, hv.np, hv.nl, ⟨by have := hv.res; show 0 ≤ n; omega, hn⟩, hv.pr, hv.lg, fun x hx => by have := hv.bd x hx; show x.ba ≤ n; omega, hv.at0, hv.bt⟩

theorem submit_svwf {v v' : SV} (hv : v.wf) {job : Int} {p : ByteArray} (hp : 1 ≤ p.size ∧ p.size ≤ 1024) (h : v.submit job p = some v') : v'.wf := by
  unfold SV.submit at h
  split at h
  · cases h
  · split at h
    · cases h
    · next hj he =>
      cases h
      have hw := submit_wf hv.q
      have hr : v.q.submit.2.2 = { v.q with rows := v.q.rows ++ [QR.mk (v.q.rows.length + 1) 1 0 0 0 0 0 0] } := by
        unfold QS.submit at he ⊢
        split
        · next h8 => rw [if_pos h8] at he; exact (he (by simp)).elim
        · rfl
      refine ⟨hw, ?_, ?_, hv.res, ?_, ?_, ?_, ?_, ?_⟩
      · rw [hr]; simp [hv.np]
      · rw [hr]; simp [hv.nl]
      · intro x hx
        rcases List.mem_append.1 hx with h | h
        · exact hv.pr x h
        · rw [List.mem_singleton.1 h]; exact hp
      · intro x hx
        rcases List.mem_append.1 hx with h | h
        · exact hv.lg x h
        · rw [List.mem_singleton.1 h]; simp
      · intro x hx
        rw [hr] at hx
        rcases List.mem_append.1 hx with h | h
        · exact hv.bd x h
        · rw [List.mem_singleton.1 h]; exact hv.res.1
      · intro k hk h0
        rw [hr] at hk h0
        simp only [List.length_append, List.length_singleton] at hk
        rw [qL.nth_snoc] at h0
        by_cases hkl : k = v.q.rows.length
        · subst hkl
          simp [List.getD, ← hv.nl]
        · rw [if_neg hkl] at h0
          have := hv.at0 k (by omega) h0
          rw [List.getD, List.getElem?_append_left (by rw [hv.nl]; omega)]
          exact this
      · intro x hx
        rw [hr] at hx
        rcases List.mem_append.1 hx with h | h
        · exact hv.bt x h
        · rw [List.mem_singleton.1 h]; exact ⟨Int.le_refl 0, by show (0 : Int) < 18446744073709551616; decide⟩

theorem nth_mem {l : List QR} {k : Nat} (hk : k < l.length) : qL.nth l k ∈ l := qL.mem_nth hk
theorem mem_set' {α : Type} {l : List α} {k : Nat} {x y : α} (h : x ∈ l.set k y) : x ∈ l ∨ x = y := by
  rcases List.mem_or_eq_of_mem_set h with h | h
  · exact .inl h
  · exact .inr h

theorem grant_svwf {v v' : SV} (hv : v.wf) {job badge slot life : Int} (h : v.grant job badge slot life = some v') : v'.wf := by
  unfold SV.grant at h
  split at h
  · cases h
  · split at h
    · cases h
    · next hb he =>
      cases h
      have hw := grant_wf hv.q job badge (2 + slot) life
      obtain ⟨hj, hr⟩ : (1 ≤ job ∧ job ≤ v.q.rows.length) ∧ (v.q.grant job badge (2 + slot) life).2 = { v.q with rows := v.q.rows.set (job - 1).toNat { qL.nth v.q.rows (job - 1).toNat with st := 2, ba := badge, node := 2 + slot, life := life, at_ := (qL.nth v.q.rows (job - 1).toNat).at_ + 1 } } := by
        unfold QS.grant at he ⊢
        split
        · next h1 => rw [if_pos h1] at he; exact (he (by simp)).elim
        · next h1 =>
          rw [if_neg h1] at he
          split
          · next h2 => rw [if_pos h2] at he; exact (he (by simp)).elim
          · next h2 =>
            rw [if_neg h2] at he
            split
            · next h3 => rw [if_pos h3] at he; exact (he (by simp)).elim
            · next h3 =>
              rw [if_neg h3] at he
              split
              · next h4 => rw [if_pos h4] at he; exact (he (by simp)).elim
              · exact ⟨by omega, rfl⟩
      refine ⟨hw, ?_, ?_, hv.res, hv.pr, ?_, ?_, ?_, ?_⟩
      · rw [hr]; simp [hv.np]
      · rw [hr]; simp [hv.nl]
      · intro x hx
        rcases mem_set' hx with h | h
        · exact hv.lg x h
        · rw [h]; simp
      · intro x hx
        rw [hr] at hx
        rcases mem_set' hx with h | h
        · exact hv.bd x h
        · rw [h]; show badge ≤ v.res; omega
      · intro k hk h0
        rw [hr] at hk h0
        simp only [List.length_set] at hk
        by_cases hkj : k = (job - 1).toNat
        · subst hkj
          show (v.logs.set (job - 1).toNat []).getD (job - 1).toNat [] = []
          rw [List.getD, List.getElem?_set_self (by rw [hv.nl]; exact hk)]; rfl
        · rw [qL.nth_set _ _ _ _ (by omega), if_neg hkj] at h0
          have := hv.at0 k hk h0
          simp only [List.getD, List.getElem?_set_ne (Ne.symm hkj)] at this ⊢
          exact this
      · intro x hx
        rw [hr] at hx
        rcases mem_set' hx with h | h
        · exact hv.bt x h
        · have hm : qL.nth v.q.rows (job - 1).toNat ∈ v.q.rows := nth_mem (by omega)
          have h2 := hv.bt _ hm
          rw [h]; exact h2

theorem log_svwf {v v' : SV} (hv : v.wf) {badge : Int} {ts : List ByteArray} (ht : ∀ t, t ∈ ts → t.size ≤ 32) (h : v.log badge ts = some v') : v'.wf := by
  unfold SV.log at h
  split at h
  · cases h
  · split at h
    · cases h
    · split at h
      · cases h
      · next h1 h2 h3 =>
        cases h
        obtain ⟨k, hk⟩ : ∃ k, ((v.q.find badge).1.job - 1).toNat = k := ⟨_, rfl⟩
        simp only [hk] at h3 ⊢
        have hfk : (v.q.find badge).1 ∈ v.q.rows ∧ (v.q.find badge).1 = qL.nth v.q.rows k ∧ k < v.q.rows.length := by
          unfold QS.find QS.row at h1 hk ⊢
          split
          · next hh => rw [if_pos hh] at h1; exact absurd rfl h1
          · next hh =>
            rw [if_neg hh] at hk
            have hb := fIdx_bd (QR.pFind badge) v.q.rows
            have hm := may_facts (hv.q.ok (fIdx (QR.pFind badge) v.q.rows + 1 - 1).toNat (by omega))
            have e : (fIdx (QR.pFind badge) v.q.rows + 1 - 1).toNat = k := by
              rw [hm.1] at hk; omega
            rw [e]
            refine ⟨nth_mem (by omega), rfl, by omega⟩
        refine ⟨hv.q, hv.np, by simp [hv.nl], hv.res, hv.pr, ?_, hv.bd, ?_, hv.bt⟩
        · intro x hx
          rcases mem_set' hx with h | h
          · exact hv.lg x h
          · subst h
            have hl : v.logs.getD k [] ∈ v.logs := by
              rw [List.getD, List.getElem?_eq_getElem (by rw [hv.nl]; exact hfk.2.2)]
              exact List.getElem_mem _
            refine ⟨by rw [List.length_append]; omega, fun t h => ?_⟩
            rcases List.mem_append.1 h with h | h
            · exact (hv.lg _ hl).2 t h
            · exact ht t h
        · intro j hj h0
          by_cases hjk : j = k
          · subst hjk
            exfalso
            have hm := may_facts (hv.q.ok j hj)
            have h2' : (qL.nth v.q.rows j).st = 2 := by rw [← hfk.2.1]; exact Classical.not_not.1 h2
            have h5 := hm.2.2.2.2.2.2.2
            rw [kc_2 h2'] at h5
            simp only [Bool.and_eq_true, decide_eq_true_eq] at h5
            have h0' : (qL.nth v.q.rows j).at_ = 0 := h0
            omega
          · have := hv.at0 j hj h0
            simp only [List.getD, List.getElem?_set_ne (Ne.symm hjk)] at this ⊢
            exact this

theorem expire_svwf {v v' : SV} (hv : v.wf) {badge : Int} (h : v.expire badge = some v') : v'.wf := by
  unfold SV.expire at h
  split at h
  · cases h
  · next he =>
    cases h
    have hw := expire_wf hv.q badge
    have hr : ∃ k x, k < v.q.rows.length ∧ (v.q.expire badge).2.2 = { v.q with rows := v.q.rows.set k x } ∧ x.ba = (qL.nth v.q.rows k).ba ∧ x.at_ = (qL.nth v.q.rows k).at_ ∧ x.bits = (qL.nth v.q.rows k).bits := by
      unfold QS.expire at he ⊢
      split
      · next h1 => rw [if_pos h1] at he; exact (he (by simp)).elim
      · next h1 => have hb := fIdx_bd (QR.pHeld badge) v.q.rows; exact ⟨_, _, by omega, rfl, rfl, rfl, rfl⟩
    obtain ⟨k, x, hk, hr, hx1, hx2, hx3⟩ := hr
    exact set_svwf hv hw hk hr hx1 hx2 (by rw [hx3]; exact hv.bt _ (nth_mem hk))
where
  set_svwf {v : SV} (hv : v.wf) {q' : QS} (hw : q'.wf) {k : Nat} {x : QR} (hk : k < v.q.rows.length) (hr : q' = { v.q with rows := v.q.rows.set k x }) (h1 : x.ba = (qL.nth v.q.rows k).ba) (h2 : x.at_ = (qL.nth v.q.rows k).at_) (h3 : 0 ≤ x.bits ∧ x.bits < 18446744073709551616) : ({ v with q := q' } : SV).wf := by
    refine ⟨hw, by rw [hr]; simp [hv.np], by rw [hr]; simp [hv.nl], hv.res, hv.pr, hv.lg, ?_, ?_, ?_⟩
    · intro y hy
      rw [hr] at hy
      rcases mem_set' hy with h | h
      · exact hv.bd y h
      · rw [h, h1]; exact hv.bd _ (nth_mem hk)
    · intro j hj h0
      rw [hr] at hj h0
      simp only [List.length_set] at hj
      rw [qL.nth_set _ _ _ _ hk] at h0
      split at h0
      · next e => subst e; exact hv.at0 j hj (by rw [← h2]; exact h0)
      · exact hv.at0 j hj h0
    · intro y hy
      rw [hr] at hy
      rcases mem_set' hy with h | h
      · exact hv.bt y h
      · rw [h]; exact h3

theorem settle_svwf {v v' : SV} (hv : v.wf) {badge code bits : Int} (hb : 0 ≤ bits ∧ bits < 18446744073709551616) (h : v.settle badge code bits = some v') : v'.wf := by
  unfold SV.settle at h
  split at h
  · cases h
  · next he =>
    cases h
    have hw := settle_wf hv.q badge code bits
    have hr : ∃ k x, k < v.q.rows.length ∧ (v.q.settle badge code bits).2.2 = { v.q with rows := v.q.rows.set k x } ∧ x.ba = (qL.nth v.q.rows k).ba ∧ x.at_ = (qL.nth v.q.rows k).at_ ∧ x.bits = bits := by
      unfold QS.settle at he ⊢
      split
      · next h1 => rw [if_pos h1] at he; exact (he (by simp)).elim
      · next h1 =>
        rw [if_neg h1] at he
        split
        · next h2 => rw [if_pos h2] at he; exact (he (by simp)).elim
        · have hb := fIdx_bd (QR.pHeld badge) v.q.rows; exact ⟨_, _, by omega, rfl, rfl, rfl, rfl⟩
    obtain ⟨k, x, hk, hr, hx1, hx2, hx3⟩ := hr
    exact expire_svwf.set_svwf hv hw hk hr hx1 hx2 (by rw [hx3]; exact hb)

theorem one_wf {v v' : SV} (hv : v.wf) {c : CV} (hb : 0 ≤ c.bits ∧ c.bits < 18446744073709551616) (h : v.one c = some v') : v'.wf := by
  unfold SV.one at h
  split at h
  · next hc =>
    obtain ⟨hk, c1, c2, c3, c4, c5, c6, c7⟩ := check_iff.1 hc
    have hk' : c.kind = 1 ∨ c.kind = 2 ∨ c.kind = 3 ∨ c.kind = 4 ∨ c.kind = 5 ∨ c.kind = 6 := by omega
    unfold SV.does at h
    rcases hk' with e | e | e | e | e | e <;> rw [e] at h c1 c2 c3 c4 c5 c6 c7
    · rw [if_pos rfl] at h
      exact reserve_wf hv (by rw [if_pos (by decide)] at c1; exact c1.2) h
    · rw [if_neg (by decide), if_pos rfl] at h
      exact submit_svwf hv (by rw [if_pos (by decide)] at c3; exact c3) h
    · rw [if_neg (by decide), if_neg (by decide), if_pos rfl] at h
      exact grant_svwf hv h
    · rw [if_neg (by decide), if_neg (by decide), if_neg (by decide), if_pos rfl] at h
      exact log_svwf hv (by rw [if_pos (by decide)] at c6; exact c6.2) h
    · rw [if_neg (by decide), if_neg (by decide), if_neg (by decide), if_neg (by decide), if_pos rfl] at h
      exact expire_svwf hv h
    · rw [if_neg (by decide), if_neg (by decide), if_neg (by decide), if_neg (by decide), if_neg (by decide)] at h
      exact settle_svwf hv hb h
  · cases h
theorem go_wf {l : List CV} : (∀ c, c ∈ l → 0 ≤ c.bits ∧ c.bits < 18446744073709551616) → ∀ {v v' : SV} {i : Nat}, v.wf → v.go l i = .ok v' → v'.wf := by
  induction l with
  | nil => intro _ v v' i hv h; cases h; exact hv
  | cons c l ih =>
    intro hb v v' i hv h
    rw [SV.go] at h
    split at h
    · cases h
    · next v1 h1 => exact ih (fun c hc => hb c (List.mem_cons_of_mem _ hc)) (one_wf hv (hb _ List.mem_cons_self) h1) h
end Go.Proofs.YtmgnekjhlfghaaaGreat

/-
  state: reserve, submit, grant, expire, settle.
-/
namespace Go.Proofs.YtmgnekjhlfghaaaGreat
open Go.RowKit
set_option linter.unusedVariables false
set_option linter.unusedSimpArgs false

section
variable {W : Base} {w : World} {R : List Thing}

/-- What a change's doing comes to. -/
def DoTo (W : Base) (R : List Thing) (i S : Nat) (o : Option SV) (e : Ending) (w' : World) : Prop :=
  ∃ v', e = .returned (.bool o.isSome) ∧ St W w' (R.set i (SkT S v')) ∧ ∀ u, o = some u → v' = u
theorem DoTo.no {i S : Nat} {o : Option SV} {w' : World} {v : SV} (h : o = none) (H : St W w' (R.set i (SkT S v))) : DoTo W R i S o (.returned (.bool false)) w' := by
  subst h; exact ⟨v, rfl, H, fun u hu => by cases hu⟩
theorem DoTo.yes {i S : Nat} {o : Option SV} {w' : World} {v : SV} (h : o = some v) (H : St W w' (R.set i (SkT S v))) : DoTo W R i S o (.returned (.bool true)) w' := by
  subst h; exact ⟨v, rfl, H, fun u hu => by cases hu; rfl⟩

/-- The change's block, boxed. -/
abbrev chO (c : CV) (t : TS) : Obj := .cells #[.int .i64 c.kind, .int .i64 c.n, .int .i64 c.job, .int .i64 c.badge, .int .i64 c.slot, .int .i64 c.life, .int .i64 c.code, .int .u64 c.bits, .string c.prog, .slice t.a c.texts.length t.c] 80

variable {S Q : Nat} {q : QS} {res : Int} {pv lv : Value} {progs : List ByteArray} {ll : List (List ByteArray × TS)}
theorem St.skS (H : St W w (R ++ skL S Q q res pv progs lv ll)) : w.heap[S]? = some (.cells #[.pointer (some ⟨Q, 0, none⟩), .int .i64 res, pv, lv] 75 (0, 0)) := H.blk (R.length + 0) (by rw [get_behind]; rfl)
theorem St.skSet (H : St W w (R ++ skL S Q q res pv progs lv ll)) (k : Nat) (u : Value) {Q' : Nat} {res' : Int} {pv' lv' : Value} (h : (#[.pointer (some ⟨Q, 0, none⟩), .int .i64 res, pv, lv] : Array Value).setIfInBounds k u = #[.pointer (some ⟨Q', 0, none⟩), .int .i64 res', pv', lv']) :
    St W (w.setCell ⟨S, k, none⟩ u) (R ++ (BlkT S (.cells #[.pointer (some ⟨Q', 0, none⟩), .int .i64 res', pv', lv'] 75) :: (skL S Q q res pv progs lv ll).tail)) := by
  have h1 := H.setBlk (R.length + 0) (by rw [get_behind]; rfl) k u
  rw [List.set_append_right _ _ (by omega), Nat.add_sub_cancel_left, h] at h1
  exact h1

theorem sk_get1 : (R ++ skL S Q q res pv progs lv ll)[R.length + 1]? = some (QkT Q q) := by rw [get_behind]; rfl
theorem sk_get2 : (R ++ skL S Q q res pv progs lv ll)[R.length + 2]? = some (RowT 9 1 pv progs.length (sL.cells progs)) := by rw [get_behind]; rfl
theorem sk_get3 : (R ++ skL S Q q res pv progs lv ll)[R.length + 3]? = some (RowT 41 1 lv ll.length (tL.cells ll)) := by rw [get_behind]; rfl
theorem sk_getL {k : Nat} {x : List ByteArray × TS} (hx : ll[k]? = some x) : (R ++ skL S Q q res pv progs lv ll)[R.length + (4 + k)]? = some (RowT 9 1 (.slice x.2.a x.1.length x.2.c) x.1.length (sL.cells x.1)) := by
  rw [get_behind]
  unfold skL
  rw [List.getElem?_append_right (by simp), List.getElem?_map]
  simp [hx]
  rfl
theorem get_l {A B : List Thing} {k : Nat} {x : Thing} (h : A[k]? = some x) : (A ++ B)[k]? = some x := by rw [List.getElem?_append_left (lt_of_get h)]; exact h
theorem gt_at {l : List (List ByteArray × TS)} {k : Nat} (hk : k < l.length) : tL.at_ l k = .slice (tL.nth l k).2.a (tL.nth l k).1.length (tL.nth l k).2.c := by
  have := tL.at_add l k 0 (by decide)
  rw [show k * tL.sz + 0 = k by show k * 1 + 0 = k; omega] at this
  rw [this]; rfl

theorem gt_get {l : List (List ByteArray × TS)} {k : Nat} (hk : k < l.length) : (tL.cells l)[k]? = some (.slice (tL.nth l k).2.a (tL.nth l k).1.length (tL.nth l k).2.c) := by
  rw [tL.get l k (by show k < l.length * 1; omega), gt_at hk]
theorem St.logNil {k : Nat} (hk : k < ll.length) (H : St W w (R ++ skL S Q q res pv progs lv ll)) : St W w ((R ++ skL S Q q res pv progs lv ll).set (R.length + (4 + k)) (RowT 9 1 (.slice none ([] : List ByteArray).length 0) ([] : List ByteArray).length (sL.cells []))) := by
  obtain ⟨x, hx⟩ : ∃ x, ll[k]? = some x := ⟨_, List.getElem?_eq_getElem hk⟩
  obtain ⟨F, hA, hF, h⟩ := H.at (R.length + (4 + k)) (sk_getL hx)
  exact h w [] (Row1 9 1 (.slice none 0 0) 0 (sL.cells [])) inferInstance ⟨rfl, World.ownsRow_nil _ _ _ _⟩ (Fr.refl _ _) (by simp)
theorem St.logSet {lc g k : Nat} {a : Option Addr} {c : Nat} {l : List ByteArray} (hk : k < ll.length)
    (H : St W w ((R ++ skL S Q q res pv progs (.slice (some ⟨g, 0, none⟩) ll.length lc) ll).set (R.length + (4 + k)) (RowT 9 1 (.slice a l.length c) l.length (sL.cells l)))) :
    St W (w.setCell ⟨g, k, none⟩ (.slice a l.length c)) (R ++ skL S Q q res pv progs (.slice (some ⟨g, 0, none⟩) ll.length lc) (ll.set k (l, ⟨a, c⟩))) := by
  have h1 := H.setRowCell (g := g) (cap := lc) (e := 41) (size := 1) (n := ll.length) (xs := tL.cells ll) (R.length + 3) (by rw [List.getElem?_set_ne (by omega)]; exact sk_get3) k (.slice a l.length c)
  have e1 : (tL.cells ll).set k (.slice a l.length c) = tL.cells (ll.set k (l, ⟨a, c⟩)) := by
    have := tL.set_cell ll k 0 (.slice a l.length c) (l, ⟨a, c⟩) hk (by decide) (by simp [tL])
    rw [show k * tL.sz + 0 = k by show k * 1 + 0 = k; omega] at this
    exact this
  rw [e1, List.set_append_right _ _ (by omega), Nat.add_sub_cancel_left, List.set_append_right _ _ (by omega), Nat.add_sub_cancel_left] at h1
  have e2 : ((skL S Q q res pv progs (.slice (some ⟨g, 0, none⟩) ll.length lc) ll).set (4 + k) (RowT 9 1 (.slice a l.length c) l.length (sL.cells l))).set 3 (RowT 41 1 (.slice (some ⟨g, 0, none⟩) ll.length lc) ll.length (tL.cells (ll.set k (l, ⟨a, c⟩)))) = skL S Q q res pv progs (.slice (some ⟨g, 0, none⟩) ll.length lc) (ll.set k (l, ⟨a, c⟩)) := by
    unfold skL
    rw [List.set_append_right _ _ (by simp), show 4 + k - ([BlkT S (.cells #[.pointer (some ⟨Q, 0, none⟩), .int .i64 res, pv, .slice (some ⟨g, 0, none⟩) ll.length lc] 75), QkT Q q, RowT 9 1 pv progs.length (sL.cells progs), RowT 41 1 (.slice (some ⟨g, 0, none⟩) ll.length lc) ll.length (tL.cells ll)] : List Thing).length = k by simp, List.length_set, List.map_set]
    rfl
  rw [e2] at h1
  exact h1

set_option maxHeartbeats 1600000 in
theorem st_sreserve (H : St W w R) (i : Nat) {v : SV} (hi : R[i]? = some (SkT S v)) (c : CV) (t : TS) :
    Calls Tryz.prog 71 #[.pointer (some ⟨S, 0, none⟩), .agg (c.f t).toArray] w (DoTo W R i S (v.reserve c.n)) := by
  have hil := lt_of_get hi
  obtain ⟨Q, pv, lv, ll, hll, H1⟩ := H.sk i hi
  obtain ⟨q, res, progs, logs⟩ := v
  simp only at hll H1
  subst hll
  have b1 := H1.skS
  have s0 := cell_blk (i := 0) b1 rfl
  have s1 := cell_blk (i := 1) b1 rfl
  have s2 := cell_blk (i := 2) b1 rfl
  have s3 := cell_blk (i := 3) b1 rfl
  have f1 := free_blk (i := 1) b1
  have f2 := free_blk (i := 2) b1
  have f3 := free_blk (i := 3) b1
  have hlS := lt_of_block b1
  have H1 := hid H1
  clear H hi b1
  by_cases h : c.n ≤ res
  · have ho : SV.reserve ⟨q, res, progs, ll.map (·.1)⟩ c.n = none := by unfold SV.reserve; rw [if_pos h]
    have ho := hid ho
    go_enter Tryz.func71, Tryz.ntmps71
    simp only [CV.f]
    go_wp2_with fail
    go_quiet (fail)
    go_wp2_with fail
    go_ret
    exact DoTo.no ho.out (St.skBack hil (((H1.out.alloc_ _).drewN _)))
  · have ho : SV.reserve ⟨q, res, progs, ll.map (·.1)⟩ c.n = some ⟨q, c.n, progs, ll.map (·.1)⟩ := by unfold SV.reserve; rw [if_neg h]
    have ho := hid ho
    go_enter Tryz.func71, Tryz.ntmps71
    simp only [CV.f]
    go_wp2_with fail
    go_quiet (fail)
    go_wp2_with fail
    go_ret
    exact DoTo.yes ho.out (St.skBack hil ((((H1.out.alloc_ _).drewN _).skSet 1 (.int .i64 c.n) rfl)))

theorem sk_get {T : List Thing} : ((R ++ skL S Q q res pv progs lv ll) ++ T)[R.length + 1]? = some (QkT Q q) := by
  rw [List.append_assoc, get_behind]; rfl
theorem sk_setq {T : List Thing} {q' : QS} : ((R ++ skL S Q q res pv progs lv ll) ++ T).set (R.length + 1) (QkT Q q') = (R ++ skL S Q q' res pv progs lv ll) ++ T := by
  rw [List.append_assoc, List.set_append_right _ _ (by omega), Nat.add_sub_cancel_left, List.append_assoc]; rfl
theorem St.chB {T : List Thing} {b : Nat} {o : Obj} (H : St W w (T ++ [BlkT b o])) : w.heap[b]? = some o := H.blk (T.length + 0) (by rw [get_behind]; rfl)

set_option maxHeartbeats 1600000 in
theorem st_sexpire (H : St W w R) (i : Nat) {v : SV} (hi : R[i]? = some (SkT S v)) (hv : v.wf) (c : CV) (t : TS) :
    Calls Tryz.prog 75 #[.pointer (some ⟨S, 0, none⟩), .agg (c.f t).toArray] w (DoTo W R i S (v.expire c.badge)) := by
  have hq := hid hv.q
  have hil := lt_of_get hi
  obtain ⟨Q, pv, lv, ll, hll, H1⟩ := H.sk i hi
  obtain ⟨q, res, progs, logs⟩ := v
  simp only at hll H1
  subst hll
  have b1 := H1.skS
  have s0 := cell_blk (i := 0) b1 rfl
  have s1 := cell_blk (i := 1) b1 rfl
  have s2 := cell_blk (i := 2) b1 rfl
  have s3 := cell_blk (i := 3) b1 rfl
  have f1 := free_blk (i := 1) b1
  have f2 := free_blk (i := 2) b1
  have f3 := free_blk (i := 3) b1
  have hlS := lt_of_block b1
  have H1 := hid H1
  clear H hi b1
  simp only at hq
  have H2 := H1.out.alloc (chO c t)
  have hE := hid (st_expire H2.drew ((R.set i NilT).length + 1) sk_get hq.out c.badge)
  have hk : ∀ w2, St W w2 ((((R.set i NilT) ++ skL S Q q res pv progs lv ll) ++ [BlkT w.heap.size (chO c t)]).set ((R.set i NilT).length + 1) (QkT Q (q.expire c.badge).2.2)) → St W w2 (((R.set i NilT) ++ skL S Q (q.expire c.badge).2.2 res pv progs lv ll) ++ [BlkT w.heap.size (chO c t)]) := fun w2 h => by rw [sk_setq] at h; exact h
  have hk := hid hk
  obtain ⟨job, e, q', hx⟩ : ∃ job e q', q.expire c.badge = (job, e, q') := ⟨_, _, _, rfl⟩
  have ho : SV.expire ⟨q, res, progs, ll.map (·.1)⟩ c.badge = if e ≠ 0 then none else some ⟨q', res, progs, ll.map (·.1)⟩ := by unfold SV.expire; simp only [hx]
  rw [hx] at hE hk
  have ho := hid ho
  clear H1 hx f1 f2 f3 s1 s2 s3
  have hb := H2.chB
  have c3 : (w.alloc (chO c t)).cell? ⟨w.heap.size, 3, none⟩ = some (.int .i64 c.badge) := cell_blk hb rfl
  have H2 := hid H2
  clear hb
  go_enter Tryz.func75, Tryz.ntmps75
  simp only [CV.f]
  go_wp2_with fail
  have d0 := cell_blk (i := 0) H2.out.drop.skS rfl
  have hNow := And.intro d0 c3
  go_region_held3 (fun wx : World => wx.cell? ⟨S, 0, none⟩ = some (.pointer (some ⟨Q, 0, none⟩)) ∧ wx.cell? ⟨w.heap.size, 3, none⟩ = some (.int .i64 c.badge)) ((first | exact hNow)) (first | (go_at_call 121; refine hE.out.mono ?_; rintro e2 w2 ⟨rfl, H3⟩; have H4 := hk.out _ H3; have hNow := And.intro (cell_blk (i := 0) H4.drop.skS rfl) (show w2.cell? ⟨w.heap.size, 3, none⟩ = some (.int .i64 c.badge) from cell_blk H4.chB rfl); have H4 := hid H4; clear H3))
  have H5 := hid H4.out.drop
  by_cases h0 : e = 0
  · subst h0
    go_wp2_with fail
    go_ret
    exact DoTo.yes (by rw [ho.out, if_neg (fun h => h rfl)]) (St.skBack hil H5.out)
  · have h1 : (e == 0) = false := by rw [beq_eq_false_iff_ne]; exact h0
    go_wp2_with fail
    go_ret
    exact DoTo.no (by rw [ho.out, if_pos h0]) (St.skBack hil H5.out)

set_option maxHeartbeats 1600000 in
theorem st_ssettle (H : St W w R) (i : Nat) {v : SV} (hi : R[i]? = some (SkT S v)) (hv : v.wf) (c : CV) (t : TS) :
    Calls Tryz.prog 76 #[.pointer (some ⟨S, 0, none⟩), .agg (c.f t).toArray] w (DoTo W R i S (v.settle c.badge c.code c.bits)) := by
  have hq := hid hv.q
  have hil := lt_of_get hi
  obtain ⟨Q, pv, lv, ll, hll, H1⟩ := H.sk i hi
  obtain ⟨q, res, progs, logs⟩ := v
  simp only at hll H1
  subst hll
  have b1 := H1.skS
  have s0 := cell_blk (i := 0) b1 rfl
  have s1 := cell_blk (i := 1) b1 rfl
  have s2 := cell_blk (i := 2) b1 rfl
  have s3 := cell_blk (i := 3) b1 rfl
  have f1 := free_blk (i := 1) b1
  have f2 := free_blk (i := 2) b1
  have f3 := free_blk (i := 3) b1
  have hlS := lt_of_block b1
  have H1 := hid H1
  clear H hi b1
  simp only at hq
  have H2 := H1.out.alloc (chO c t)
  have hE := hid (st_settle H2.drew ((R.set i NilT).length + 1) sk_get hq.out c.badge c.code c.bits)
  have hk : ∀ w2, St W w2 ((((R.set i NilT) ++ skL S Q q res pv progs lv ll) ++ [BlkT w.heap.size (chO c t)]).set ((R.set i NilT).length + 1) (QkT Q (q.settle c.badge c.code c.bits).2.2)) → St W w2 (((R.set i NilT) ++ skL S Q (q.settle c.badge c.code c.bits).2.2 res pv progs lv ll) ++ [BlkT w.heap.size (chO c t)]) := fun w2 h => by rw [sk_setq] at h; exact h
  have hk := hid hk
  obtain ⟨job, e, q', hx⟩ : ∃ job e q', q.settle c.badge c.code c.bits = (job, e, q') := ⟨_, _, _, rfl⟩
  have ho : SV.settle ⟨q, res, progs, ll.map (·.1)⟩ c.badge c.code c.bits = if e ≠ 0 then none else some ⟨q', res, progs, ll.map (·.1)⟩ := by unfold SV.settle; simp only [hx]
  rw [hx] at hE hk
  have ho := hid ho
  clear H1 hx f1 f2 f3 s1 s2 s3
  have hb := H2.chB
  have c3 : (w.alloc (chO c t)).cell? ⟨w.heap.size, 3, none⟩ = some (.int .i64 c.badge) := cell_blk hb rfl
  have c6 : (w.alloc (chO c t)).cell? ⟨w.heap.size, 6, none⟩ = some (.int .i64 c.code) := cell_blk hb rfl
  have c7 : (w.alloc (chO c t)).cell? ⟨w.heap.size, 7, none⟩ = some (.int .u64 c.bits) := cell_blk hb rfl
  have H2 := hid H2
  clear hb
  go_enter Tryz.func76, Tryz.ntmps76
  simp only [CV.f]
  go_wp2_with fail
  have d0 := cell_blk (i := 0) H2.out.drop.skS rfl
  have hNow := And.intro d0 (And.intro c3 (And.intro c6 c7))
  go_region_held3 (fun wx : World => wx.cell? ⟨S, 0, none⟩ = some (.pointer (some ⟨Q, 0, none⟩)) ∧ wx.cell? ⟨w.heap.size, 3, none⟩ = some (.int .i64 c.badge) ∧ wx.cell? ⟨w.heap.size, 6, none⟩ = some (.int .i64 c.code) ∧ wx.cell? ⟨w.heap.size, 7, none⟩ = some (.int .u64 c.bits)) ((first | exact hNow)) (first | (go_at_call 122; refine hE.out.mono ?_; rintro e2 w2 ⟨rfl, H3⟩; have H4 := hk.out _ H3; have hb2 := H4.chB; have hNow := And.intro (cell_blk (i := 0) H4.drop.skS rfl) (And.intro (show w2.cell? ⟨w.heap.size, 3, none⟩ = some (.int .i64 c.badge) from cell_blk hb2 rfl) (And.intro (show w2.cell? ⟨w.heap.size, 6, none⟩ = some (.int .i64 c.code) from cell_blk hb2 rfl) (show w2.cell? ⟨w.heap.size, 7, none⟩ = some (.int .u64 c.bits) from cell_blk hb2 rfl))); have H4 := hid H4; clear H3 hb2))
  have H5 := hid H4.out.drop
  by_cases h0 : e = 0
  · subst h0
    go_wp2_with fail
    go_ret
    exact DoTo.yes (by rw [ho.out, if_neg (fun h => h rfl)]) (St.skBack hil H5.out)
  · have h1 : (e == 0) = false := by rw [beq_eq_false_iff_ne]; exact h0
    go_wp2_with fail
    go_ret
    exact DoTo.no (by rw [ho.out, if_pos h0]) (St.skBack hil H5.out)

set_option maxHeartbeats 1600000 in
theorem st_sgrant (H : St W w R) (i : Nat) {v : SV} (hi : R[i]? = some (SkT S v)) (hv : v.wf) (c : CV) (t : TS) (hsl : 0 ≤ c.slot ∧ c.slot ≤ 7) :
    Calls Tryz.prog 73 #[.pointer (some ⟨S, 0, none⟩), .agg (c.f t).toArray] w (DoTo W R i S (v.grant c.job c.badge c.slot c.life)) := by
  have hq := hid hv.q
  have hnl := hid hv.nl
  have hil := lt_of_get hi
  obtain ⟨Q, pv, lv, ll, hll, H1⟩ := H.sk i hi
  obtain ⟨q, res, progs, logs⟩ := v
  simp only at hll H1
  subst hll
  have b1 := H1.skS
  have s0 := cell_blk (i := 0) b1 rfl
  have s1 := cell_blk (i := 1) b1 rfl
  have s2 := cell_blk (i := 2) b1 rfl
  have s3 := cell_blk (i := 3) b1 rfl
  have f1 := free_blk (i := 1) b1
  have f2 := free_blk (i := 2) b1
  have f3 := free_blk (i := 3) b1
  have hlS := lt_of_block b1
  have H1 := hid H1
  clear H hi b1
  simp only at hq hnl
  have H2 := H1.out.alloc (chO c t)
  have hb := H2.chB
  have c2 : (w.alloc (chO c t)).cell? ⟨w.heap.size, 2, none⟩ = some (.int .i64 c.job) := cell_blk hb rfl
  have c3 : (w.alloc (chO c t)).cell? ⟨w.heap.size, 3, none⟩ = some (.int .i64 c.badge) := cell_blk hb rfl
  have c4 : (w.alloc (chO c t)).cell? ⟨w.heap.size, 4, none⟩ = some (.int .i64 c.slot) := cell_blk hb rfl
  have c5 : (w.alloc (chO c t)).cell? ⟨w.heap.size, 5, none⟩ = some (.int .i64 c.life) := cell_blk hb rfl
  have d0 := cell_blk (i := 0) H2.drop.skS rfl
  have d1 := cell_blk (i := 1) H2.drop.skS rfl
  have H2 := hid H2
  have hsum : IntKind.i64.wrap (2 + c.slot) = 2 + c.slot := IntWalk.i64_in _ (by omega)
  clear H1 f1 f2 f3 s0 s1 s2 s3 hb
  have hNow := And.intro d0 (And.intro d1 (And.intro c2 (And.intro c3 (And.intro c4 c5))))
  by_cases hres : res < c.badge
  · have ho : SV.grant ⟨q, res, progs, ll.map (·.1)⟩ c.job c.badge c.slot c.life = none := by unfold SV.grant; rw [if_pos hres]
    have ho := hid ho
    go_enter Tryz.func73, Tryz.ntmps73
    simp only [CV.f]
    go_wp2_with fail
    go_quiet (fail)
    go_wp2_with fail
    go_ret
    exact DoTo.no ho.out (St.skBack hil ((H2.out.drewN _).drop))
  · obtain ⟨e, q', hx⟩ : ∃ e q', q.grant c.job c.badge (2 + c.slot) c.life = (e, q') := ⟨_, _, rfl⟩
    have ho : SV.grant ⟨q, res, progs, ll.map (·.1)⟩ c.job c.badge c.slot c.life = if e ≠ 0 then none else some ⟨q', res, progs, (ll.map (·.1)).set (c.job - 1).toNat []⟩ := by unfold SV.grant; rw [if_neg hres]; simp only [hx]
    have hE := st_grant H2.out.drew ((R.set i NilT).length + 1) sk_get hq.out c.job c.badge (2 + c.slot) c.life
    have hj : e = 0 → 1 ≤ c.job ∧ c.job ≤ q.rows.length := by
      intro h0
      have h1 : (q.grant c.job c.badge (2 + c.slot) c.life).1 = 0 := by rw [hx]; exact h0
      unfold QS.grant at h1
      split at h1
      · simp at h1
      · omega
    rw [hx] at hE
    have hE := hid hE
    have ho := hid ho
    have hj := hid hj
    have hd : decide (res < c.badge) = false := decide_eq_false hres
    clear hx
    go_enter Tryz.func73, Tryz.ntmps73
    simp only [CV.f]
    go_wp2_with fail
    go_region_held3 (fun wx : World => wx.cell? ⟨S, 0, none⟩ = some (.pointer (some ⟨Q, 0, none⟩)) ∧ wx.cell? ⟨S, 1, none⟩ = some (.int .i64 res) ∧ wx.cell? ⟨w.heap.size, 2, none⟩ = some (.int .i64 c.job) ∧ wx.cell? ⟨w.heap.size, 3, none⟩ = some (.int .i64 c.badge) ∧ wx.cell? ⟨w.heap.size, 4, none⟩ = some (.int .i64 c.slot) ∧ wx.cell? ⟨w.heap.size, 5, none⟩ = some (.int .i64 c.life)) ((first | exact hNow)) (first | (go_at_call 120; refine hE.out.mono ?_; rintro e2 w2 ⟨rfl, H3⟩; rw [sk_setq] at H3; have hb2 := H3.chB; have g0 := H3.drop.skS; have hNow := And.intro (cell_blk (i := 0) g0 rfl) (And.intro (cell_blk (i := 1) g0 rfl) (And.intro (show w2.cell? ⟨w.heap.size, 2, none⟩ = some (.int .i64 c.job) from cell_blk hb2 rfl) (And.intro (show w2.cell? ⟨w.heap.size, 3, none⟩ = some (.int .i64 c.badge) from cell_blk hb2 rfl) (And.intro (show w2.cell? ⟨w.heap.size, 4, none⟩ = some (.int .i64 c.slot) from cell_blk hb2 rfl) (show w2.cell? ⟨w.heap.size, 5, none⟩ = some (.int .i64 c.life) from cell_blk hb2 rfl))))); have H3 := hid H3; clear hb2 g0))
    by_cases h0 : e = 0
    · subst h0
      obtain ⟨hj1, hj2⟩ := hj.out rfl
      have hlen : q.rows.length = ll.length := by have := hnl.out; rw [List.length_map] at this; omega
      obtain ⟨k, hk⟩ : ∃ k : Nat, c.job = k + 1 := ⟨(c.job - 1).toNat, by omega⟩
      have hkl : k < ll.length := by omega
      obtain ⟨la, lc, rfl, _, _, _, hsm⟩ := H3.out.rowShape ((R.set i NilT).length + 3) (get_l sk_get3)
      obtain ⟨g, rfl⟩ := hsm (by omega)
      have HK := hid (And.intro hk hlen)
      have hrow := H3.out.row ((R.set i NilT).length + 3) (get_l sk_get3)
      have r0 := (ownsRow_cell hrow k (gt_get hkl)).1
      have r1 := (ownsRow_cell hrow k (gt_get hkl)).2
      have b1 := H3.out.drop.skS
      have e3 := cell_blk (i := 3) b1 rfl
      have eS := lt_of_block b1
      have eb := H3.out.chB
      have e2 : w2.cell? ⟨w.heap.size, 2, none⟩ = some (.int .i64 c.job) := cell_blk eb rfl
      have hw1 : IntKind.i64.wrap (c.job - 1) = (k : Int) := by have hn8 := hq.out.n; rw [show c.job - 1 = (k : Int) by omega]; exact IntWalk.i64_in _ (by omega)
      have hk1 : (k : Int) < ll.length := by omega
      have hk0 : (0 : Int) ≤ k := by omega
      have hset := hid ((H3.out.drop.logNil (k := k) (by omega)).logSet (l := []) (by omega))
      have heq := hid (show (ll.map (·.1)).set (c.job - 1).toNat [] = (ll.set k ([], (⟨none, 0⟩ : TS))).map (·.1) by rw [show (c.job - 1).toNat = k by omega, List.map_set])
      have hjm := hid (show (c.job - 1).toNat = k by omega)
      clear b1 eb hrow hk hj1 hj2 hsm hd hNow
      go_wp2_with fail
      go_region_law (fail)
      all_goals go_wp2_with fail
      all_goals go_ret
      all_goals exact DoTo.yes (v := ⟨q', res, progs, (ll.set k ([], (⟨none, 0⟩ : TS))).map (·.1)⟩) (by rw [ho.out, if_neg (fun h => h rfl), heq.out]) (St.skBack hil (by first | exact hset.out.drew | exact hset.out))
    · have h1 : (e == 0) = false := by rw [beq_eq_false_iff_ne]; exact h0
      have h2 : (e != 0) = true := by simp [bne, h1]
      go_wp2_with fail
      go_ret
      exact DoTo.no (by rw [ho.out, if_pos h0]) (St.skBack hil H3.out.drop)

end
end Go.Proofs.YtmgnekjhlfghaaaGreat

/-
  state: submit, log.
-/
namespace Go.Proofs.YtmgnekjhlfghaaaGreat
open Go.RowKit
set_option linter.unusedVariables false
set_option linter.unusedSimpArgs false

section
variable {W : Base} {w : World} {R : List Thing}
variable {S Q : Nat} {q : QS} {res : Int} {pv lv : Value} {progs : List ByteArray} {ll : List (List ByteArray × TS)}
theorem mid_set {X T : List Thing} {k : Nat} {A : Thing} (hk : k < X.length) : ((R ++ X) ++ T).set (R.length + k) A = (R ++ X.set k A) ++ T := by
  rw [List.append_assoc, List.set_append_right _ _ (by omega), Nat.add_sub_cancel_left, List.set_append_left _ _ hk, List.append_assoc]
theorem mid_get {X T : List Thing} {k : Nat} {A : Thing} (h : X[k]? = some A) : ((R ++ X) ++ T)[R.length + k]? = some A := by
  rw [List.append_assoc, get_behind, List.getElem?_append_left (lt_of_get h)]; exact h
theorem sk_len : (skL S Q q res pv progs lv ll).length = 4 + ll.length := by simp [skL]; omega
set_option maxHeartbeats 3000000 in
set_option maxRecDepth 100000 in
theorem st_ssubmit (H : St W w R) (i : Nat) {v : SV} (hi : R[i]? = some (SkT S v)) (hv : v.wf) (c : CV) (t : TS) :
    Calls Tryz.prog 72 #[.pointer (some ⟨S, 0, none⟩), .agg (c.f t).toArray] w (DoTo W R i S (v.submit c.job c.prog)) := by
  have hq := hid hv.q
  have hnp := hv.np
  have hnl := hv.nl
  have hn8 := hv.q.n
  obtain ⟨i0, hi0, hz0, hz1, hz2⟩ := info_parts info_gs
  obtain ⟨i1, hi1, hy0, hy1, hy2⟩ := info_parts info_gt
  have HI := hid (And.intro hi0 (And.intro hz0 (And.intro hz1 hz2)))
  have HJ := hid (And.intro hi1 (And.intro hy0 (And.intro hy1 hy2)))
  clear hi0 hz0 hz1 hz2 hi1 hy0 hy1 hy2
  have hil := lt_of_get hi
  obtain ⟨Q, pv, lv, ll, hll, H1⟩ := H.sk i hi
  obtain ⟨q, res, progs, logs⟩ := v
  simp only at hll H1
  subst hll
  have b1 := H1.skS
  have s0 := cell_blk (i := 0) b1 rfl
  have s1 := cell_blk (i := 1) b1 rfl
  have s2 := cell_blk (i := 2) b1 rfl
  have s3 := cell_blk (i := 3) b1 rfl
  have f1 := free_blk (i := 1) b1
  have f2 := free_blk (i := 2) b1
  have f3 := free_blk (i := 3) b1
  have hlS := lt_of_block b1
  have H1 := hid H1
  clear H hi b1
  simp only [List.length_map] at hq hnp hnl hn8
  obtain ⟨pa, pc, rfl, _, _, _, _⟩ := H1.out.rowShape ((R.set i NilT).length + 2) sk_get2
  obtain ⟨la, lc, rfl, _, _, _, _⟩ := H1.out.rowShape ((R.set i NilT).length + 3) sk_get3
  have hp8 : (progs.length : Int) ≤ 8 := by omega
  have hl8 : (ll.length : Int) ≤ 8 := by omega
  have hw1 : IntKind.i64.wrap ((progs.length : Int) + 1) = (progs.length : Int) + 1 := IntWalk.i64_in _ (by omega)
  have H2 := H1.out.alloc (chO c t)
  have hb := H2.chB
  have c2 : (w.alloc (chO c t)).cell? ⟨w.heap.size, 2, none⟩ = some (.int .i64 c.job) := cell_blk hb rfl
  have H2 := hid H2
  have HN := hid (And.intro hnp hnl)
  clear H1 f1 f2 f3 s1 s3 hb hnp hnl hn8
  by_cases hj : c.job = (progs.length : Int) + 1
  · obtain ⟨job, e, q', hx⟩ : ∃ job e q', q.submit = (job, e, q') := ⟨_, _, _, rfl⟩
    have ho : SV.submit ⟨q, res, progs, ll.map (·.1)⟩ c.job c.prog = if e ≠ 0 then none else some ⟨q', res, progs ++ [c.prog], ll.map (·.1) ++ [[]]⟩ := by
      unfold SV.submit; rw [if_neg (fun h => h hj)]; simp only [hx]
    have hE := hid (fun nq => st_submit (H2.out.drewN nq) ((R.set i NilT).length + 1) sk_get hq.out.n)
    rw [hx] at hE
    have ho_ := hid ho
    clear ho
    have hj2 : (c.job == (progs.length : Int) + 1) = true := by rw [beq_iff_eq]; exact hj
    have hj3 := hid hj
    clear hj hx
    go_enter Tryz.func72, Tryz.ntmps72
    simp only [CV.f]
    go_wp2_with fail
    go_quiet (fail)
    go_wp2_with fail
    refine (hE.out _).mono ?_
    rintro e2 w2 ⟨rfl, H3⟩
    rw [sk_setq] at H3
    by_cases h0 : e = 0
    · subst h0
      have b3 := H3.drop.skS
      have g2 := cell_blk (i := 2) b3 rfl
      have g3 := cell_blk (i := 3) b3 rfl
      have gS := lt_of_block b3
      have gc : w2.cell? ⟨w.heap.size, 7, none⟩ = some (.int .u64 c.bits) := cell_blk H3.chB rfl
      have gp : w2.cell? ⟨w.heap.size, 8, none⟩ = some (.string c.prog) := cell_blk H3.chB rfl
      have gl := lt_of_block H3.chB
      have H3 := hid H3
      have hn3 := hid (show ∀ wx : World, ∀ (j : Nat) (u : Value), [Value.string c.prog][j]? = some u → (wx.alloc (.cells #[.string c.prog] 9)).cell? ((⟨wx.heap.size, 0, none⟩ : Addr).add j) = some u from fun wx => news_alloc wx [.string c.prog] 9)
      clear b3 gc hw1 hj2 s2 s0 hlS
      go_wp2_with fail
      have hap := hid ((H3.out.drew.alloc_ (.cells #[.string c.prog] 9)).append ((R.set i NilT).length + 2) (get_l sk_get2))
      have hln : (progs ++ [c.prog]).length = progs.length + 1 := by simp
      have HLN := hid hln
      clear hn3 hln
      go_region_law (refine step_append_blk rfl (.tmp 31) (.tmp 34) 41 rfl 9 i0 (.string ByteArray.empty) 1 16 Tryz.underlying41 HI.out.1 HI.out.2.1 HI.out.2.2.1 HI.out.2.2.2 rfl (by decide) (.slice pa progs.length pc) progs.length (sL.cells progs) rfl hap.out.1 ⟨w2.heap.size, 0, none⟩ 1 1 [.string c.prog] rfl rfl (news_alloc w2.drew [.string c.prog] 9) (by intro u hu; simp at hu; subst hu; rfl) (by unfold maxLen; omega) (by omega) ?_; intro v' w4 ho hF hb hn; have H4 := hap.out.2 v' w4 (progs.length + 1) (sL.cells (progs ++ [c.prog])) (by rw [← sL.snoc progs c.prog]; exact ho) hF hb; rw [mid_set (by rw [sk_len]; omega)] at H4; have b4 := H4.blk ((R.set i NilT).length + 0) (mid_get rfl); obtain ⟨g', cap', rfl, _⟩ := ownsRow_shape ho (by omega); have e4 := cell_blk (i := 2) b4 rfl; have e5 := free_blk (i := 2) b4; have e7 := cell_blk (i := 3) b4 rfl; have e8 := free_blk (i := 3) b4; have e6 := lt_of_block b4; have H5 := H4.setBlk ((R.set i NilT).length + 0) (mid_get rfl) 2 (.slice (some ⟨g', 0, none⟩) (progs.length + 1) cap'); rw [mid_set (by rw [List.length_set, sk_len]; omega)] at H5; have H5 := hid H5; clear ho hF hb hn b4 H4)
      all_goals
        have hap2 := hid ((H5.out.alloc_ (.cells #[.slice none 0 0] 41)).append ((R.set i NilT).length + 3) (mid_get rfl))
        clear hap
        go_wp2_with (at_builtin; refine wpList_append_blk rfl (.tmp 42) (.tmp 43) 42 rfl 41 i1 (.slice none 0 0) 1 24 Tryz.underlying42 HJ.out.1 HJ.out.2.1 HJ.out.2.2.1 HJ.out.2.2.2 rfl (by decide) (.slice la ll.length lc) ll.length (tL.cells ll) rfl hap2.out.1 ⟨w4.heap.size, 0, none⟩ 1 1 [.slice none 0 0] rfl rfl ?qn (by intro u hu; simp at hu; subst hu; rfl) (by unfold maxLen; omega) (by omega) ?_)
        case qn =>
          have h := news_alloc (w4.setCell ⟨S, 2, none⟩ (.slice (some ⟨g', 0, none⟩) (progs.length + 1) cap')) [.slice none 0 0] 41
          rwa [show (w4.setCell ⟨S, 2, none⟩ (.slice (some ⟨g', 0, none⟩) (progs.length + 1) cap')).heap.size = w4.heap.size by simp [World.setCell]] at h
        intro v2 w6 ho hF hb hn
        have H6 := hap2.out.2 v2 w6 (ll.length + 1) (tL.cells (ll ++ [([], (⟨none, 0⟩ : TS))])) (by rw [← tL.snoc ll ([], ⟨none, 0⟩)]; exact ho) (by simpa using hF) (by simpa using hb)
        rw [mid_set (by rw [List.length_set, List.length_set, sk_len]; omega)] at H6
        have b6 := H6.blk ((R.set i NilT).length + 0) (mid_get rfl)
        obtain ⟨g2, cap2, rfl, _⟩ := ownsRow_shape ho (by omega)
        have m3 := cell_blk (i := 3) b6 rfl
        have n3 := free_blk (i := 3) b6
        have H7 := H6.setBlk ((R.set i NilT).length + 0) (mid_get rfl) 3 (.slice (some ⟨g2, 0, none⟩) (ll.length + 1) cap2)
        rw [mid_set (by rw [List.length_set, List.length_set, List.length_set, sk_len]; omega)] at H7
        have H8 := H7.drop.new (A := Row1 9 1 (.slice none 0 0) 0 (sL.cells [])) (F := []) (Fr.refl _ _) inferInstance ⟨rfl, World.ownsRow_nil _ _ _ _⟩ (by simp)
        have H9 : St W (w6.setCell ⟨S, 3, none⟩ (.slice (some ⟨g2, 0, none⟩) (ll.length + 1) cap2)) (R.set i NilT ++ skL S Q q' res (.slice (some ⟨g', 0, none⟩) (progs.length + 1) cap') (progs ++ [c.prog]) (.slice (some ⟨g2, 0, none⟩) (ll.length + 1) cap2) (ll ++ [([], (⟨none, 0⟩ : TS))])) := by
          rw [List.append_assoc] at H8
          simpa [skL, lg1, RowT] using H8
        have H9 := hid H9
        clear ho hF hb hn b6 H6 H7 H8 hap2 H5
        go_wp2_with fail
        go_ret
        have h10 := St.skBack hil H9.out
        rw [List.map_append, show List.map (fun x : List ByteArray × TS => x.1) [([], (⟨none, 0⟩ : TS))] = [[]] from rfl] at h10
        exact DoTo.yes (by rw [ho_.out, if_neg (fun h => h rfl)]) h10
    · have h1 : (e == 0) = false := by rw [beq_eq_false_iff_ne]; exact h0
      have h2 : (e != 0) = true := by simp [bne, h1]
      have H3 := hid H3
      go_wp2_with fail
      go_ret
      exact DoTo.no (by rw [ho_.out, if_pos h0]) (St.skBack hil H3.out.drop)
  · have ho : SV.submit ⟨q, res, progs, ll.map (·.1)⟩ c.job c.prog = none := by unfold SV.submit; rw [if_pos hj]
    have ho := hid ho
    have hj2 : (c.job == (progs.length : Int) + 1) = false := by rw [beq_eq_false_iff_ne]; exact hj
    clear hj
    go_enter Tryz.func72, Tryz.ntmps72
    simp only [CV.f]
    go_wp2_with fail
    go_quiet (fail)
    go_wp2_with fail
    go_ret
    exact DoTo.no ho.out (St.skBack hil (H2.out.drewN _).drop)
end
end Go.Proofs.YtmgnekjhlfghaaaGreat
