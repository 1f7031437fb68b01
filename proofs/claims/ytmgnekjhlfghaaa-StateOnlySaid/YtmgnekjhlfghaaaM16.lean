/-
  Merged, in build order: Ch0 ChArg.
-/
import Derived.Test.YtmgnekjhlfghaaaM15
import Derived.Test.YtmgnekjhlfghaaaM14
import Derived.Test.YtmgnekjhlfghaaaM4
import Derived.Test.YtmgnekjhlfghaaaM5
/-
  A change that may be: what Check says; rows of changes that are read.
-/
namespace Go.Proofs.Ytmgnekjhlfghaaa
open Go.RowKit
set_option linter.unusedVariables false
set_option linter.unusedSimpArgs false

/-- What Check says of the numbers. -/
structure CV.Fits (c : CV) : Prop where
  kind : 1 ≤ c.kind ∧ c.kind ≤ 6
  n : 0 ≤ c.n ∧ c.n ≤ 1099511627776
  job : 0 ≤ c.job ∧ c.job ≤ 8
  badge : 0 ≤ c.badge ∧ c.badge ≤ 1099511627776
  slot : 0 ≤ c.slot ∧ c.slot ≤ 7
  life : 0 ≤ c.life ∧ c.life ≤ 1099511627776
  code : 0 ≤ c.code ∧ c.code ≤ 7
  bits : 0 ≤ c.bits ∧ c.bits < 18446744073709551616
  prog : c.prog.size ≤ 1024
  texts : c.texts.length ≤ 8
  each : ∀ s, s ∈ c.texts → s.size ≤ 32

theorem nf_le (n : Nat) (hn : n < 18446744073709551616) : (nf n).size ≤ 10 := by
  have := Lib.uvarint_length64 (x := n) hn
  show (Lib.uvarint n).toArray.size ≤ 10
  simpa using this
theorem tf_le (s : ByteArray) (hs : s.size ≤ 1024) : (tf s).size ≤ 1034 := by
  have := nf_le s.size (by omega)
  unfold tf; rw [ByteArray.size_append]; omega
theorem sizeL (s : ByteArray) : s.data.toList.length = s.size := rfl

theorem inB_iff {n a b : Int} : inB n a b = true ↔ a ≤ n ∧ n ≤ b := by simp [inB]
theorem rgt_z {k : Int} {l : UInt8} {z m : Bool} (h : rgt (hasL k l) z m = true) : (hasL k l = true ∧ m = true) ∨ (hasL k l = false ∧ z = true) := by
  cases hk : hasL k l
  · rw [hk] at h; exact .inr ⟨rfl, h⟩
  · rw [hk] at h; exact .inl ⟨rfl, h⟩

theorem CV.fits {c : CV} (h : c.check = 0) (hb : 0 ≤ c.bits ∧ c.bits < 18446744073709551616) : c.Fits := by
  unfold CV.check at h
  split at h
  case isFalse => simp at h
  case isTrue h1 =>
    split at h
    case isFalse => simp at h
    case isTrue h2 =>
      simp only [Bool.and_eq_true, CV.r1, CV.r2, CV.r3, CV.r4, CV.r5, CV.r6, CV.r7] at h2
      obtain ⟨⟨⟨⟨⟨⟨r1, r2⟩, r3⟩, r4⟩, r5⟩, r6⟩, r7⟩ := h2
      have q1 := rgt_z r1; have q2 := rgt_z r2; have q3 := rgt_z r3; have q4 := rgt_z r4; have q5 := rgt_z r5; have q6 := rgt_z r6; have q7 := rgt_z r7
      simp only [inB_iff, Bool.and_eq_true, beq_iff_eq, CV.noRes] at h1 q1 q2 q4 q5 q7
      refine ⟨h1, by omega, by omega, by omega, by omega, by omega, by omega, hb, ?_, ?_, ?_⟩
      · simp only [inB_iff] at q3
        rcases q3 with q | ⟨_, q⟩
        · omega
        · have : c.prog.size = 0 := by rw [List.isEmpty_iff] at q; have := congrArg List.length q; rw [show c.prog.toList.length = c.prog.size from by simp [ByteArray.toList_eq]] at this; exact this
          omega
      · rcases q6 with q | ⟨_, q⟩
        · have := q.2; simp only [textsB, Bool.and_eq_true, inB_iff] at this; omega
        · simp only [beq_iff_eq] at q; omega
      · intro s hs
        rcases q6 with q | ⟨_, q⟩
        · have := q.2
          simp only [textsB, Bool.and_eq_true, Bool.not_eq_true', List.any_eq_false, decide_eq_true_eq] at this
          have := this.2 s hs; omega
        · simp only [beq_iff_eq] at q
          have : c.texts = [] := List.eq_nil_of_length_eq_zero (by omega)
          rw [this] at hs; cases hs

/-- A row of changes, that is read. -/
structure ChIn (w : World) (a : Option Addr) (n cap : Nat) (l : List (CV × TS)) : Prop where
  row : In w 10 a n cap (cL.at_ l)
  len : l.length = n
  one : ∀ x, x ∈ l → In w 1 x.2.a x.1.texts.length x.2.c (sL.at_ x.1.texts) ∧ 0 ≤ x.1.bits ∧ x.1.bits < 18446744073709551616

theorem ChIn.fr0 {w w' : World} {a : Option Addr} {n cap : Nat} {l : List (CV × TS)} (h : ChIn w a n cap l) (hF : Fr [] w w') : ChIn w' a n cap l := ⟨h.row.fr0 hF, h.len, fun x hx => ⟨(h.one x hx).1.fr0 hF, (h.one x hx).2⟩⟩

theorem ch_cells {w : World} {b o n cap : Nat} {l : List (CV × TS)} (h : In w 10 (some ⟨b, o, none⟩) n cap (cL.at_ l)) (k : Nat) (hk : k < n) (x : CV × TS) (hx : cL.nth l k = x) :
    w.cell? ⟨b, o + k * 10, none⟩ = some (.int .i64 x.1.kind) ∧ w.cell? ⟨b, o + k * 10 + 1, none⟩ = some (.int .i64 x.1.n) ∧ w.cell? ⟨b, o + k * 10 + 2, none⟩ = some (.int .i64 x.1.job) ∧ w.cell? ⟨b, o + k * 10 + 3, none⟩ = some (.int .i64 x.1.badge) ∧
    w.cell? ⟨b, o + k * 10 + 4, none⟩ = some (.int .i64 x.1.slot) ∧ w.cell? ⟨b, o + k * 10 + 5, none⟩ = some (.int .i64 x.1.life) ∧ w.cell? ⟨b, o + k * 10 + 6, none⟩ = some (.int .i64 x.1.code) ∧ w.cell? ⟨b, o + k * 10 + 7, none⟩ = some (.int .u64 x.1.bits) ∧
    w.cell? ⟨b, o + k * 10 + 8, none⟩ = some (.string x.1.prog) ∧ w.cell? ⟨b, o + k * 10 + 9, none⟩ = some (.slice x.2.a x.1.texts.length x.2.c) := by
  have key : ∀ q, q < 10 → w.cell? ⟨b, o + (k * 10 + q), none⟩ = some ((x.1.f x.2).getD q undef) := fun q hq => by
    have := h.cell b o rfl (k * 10 + q) (by omega)
    rw [show cL.at_ l (k * 10 + q) = (cL.f (cL.nth l k)).getD q undef from cL.at_add l k q hq, hx] at this
    exact this
  have e : ∀ q, o + k * 10 + q = o + (k * 10 + q) := fun q => by omega
  refine ⟨key 0 (by decide), ?_, ?_, ?_, ?_, ?_, ?_, ?_, ?_, ?_⟩
  · rw [e]; exact key 1 (by decide)
  · rw [e]; exact key 2 (by decide)
  · rw [e]; exact key 3 (by decide)
  · rw [e]; exact key 4 (by decide)
  · rw [e]; exact key 5 (by decide)
  · rw [e]; exact key 6 (by decide)
  · rw [e]; exact key 7 (by decide)
  · rw [e]; exact key 8 (by decide)
  · rw [e]; exact key 9 (by decide)

theorem rgt_iff {h z m : Bool} : rgt h z m = true ↔ if h = true then m = true else z = true := by unfold rgt; cases h <;> simp
theorem textsB_iff {l : List ByteArray} : textsB l = true ↔ (1 ≤ l.length ∧ l.length ≤ 8) ∧ ∀ s, s ∈ l → s.size ≤ 32 := by
  simp only [textsB, Bool.and_eq_true, inB_iff, Bool.not_eq_true', List.any_eq_false, decide_eq_true_eq, Nat.not_lt]
  constructor
  · rintro ⟨h1, h2⟩; exact ⟨by omega, h2⟩
  · rintro ⟨h1, h2⟩; exact ⟨by omega, h2⟩
theorem size0 {s : ByteArray} : s.toList.isEmpty = true ↔ s.size = 0 := by
  rw [ByteArray.toList_eq, List.isEmpty_iff, ← List.length_eq_zero_iff, sizeL]
theorem size0_eq {s : ByteArray} (h : s.size = 0) : s = ⟨#[]⟩ := bl_inj (by rw [List.eq_nil_of_length_eq_zero (show (bl s).length = 0 from h)]; rfl)

theorem check_iff {c : CV} : c.check = 0 ↔ (1 ≤ c.kind ∧ c.kind ≤ 6) ∧ (if hasL c.kind 110 = true then 1 ≤ c.n ∧ c.n ≤ 1099511627776 else c.n = 0) ∧ (if hasL c.kind 106 = true then 1 ≤ c.job ∧ c.job ≤ 8 else c.job = 0) ∧
    (if hasL c.kind 112 = true then 1 ≤ c.prog.size ∧ c.prog.size ≤ 1024 else c.prog.size = 0) ∧ (if hasL c.kind 98 = true then 1 ≤ c.badge ∧ c.badge ≤ 1099511627776 else c.badge = 0) ∧
    (if hasL c.kind 115 = true then (0 ≤ c.slot ∧ c.slot ≤ 7) ∧ 1 ≤ c.life ∧ c.life ≤ 1099511627776 else c.slot = 0 ∧ c.life = 0) ∧
    (if hasL c.kind 116 = true then (1 ≤ c.texts.length ∧ c.texts.length ≤ 8) ∧ ∀ s, s ∈ c.texts → s.size ≤ 32 else c.texts.length = 0) ∧
    (if hasL c.kind 114 = true then (0 ≤ c.code ∧ c.code ≤ 7) ∧ (c.code = 0 ∨ c.bits = 0) else c.code = 0 ∧ c.bits = 0) := by
  have hN : ∀ z : Nat, (1 ≤ (z : Int) ∧ (z : Int) ≤ 1024) ↔ (1 ≤ z ∧ z ≤ 1024) := fun z => by omega
  unfold CV.check
  by_cases h1 : inB c.kind 1 6 = true
  · rw [if_pos h1]
    have h1' := inB_iff.1 h1
    by_cases h2 : (c.r1 && c.r2 && c.r3 && c.r4 && c.r5 && c.r6 && c.r7) = true
    · rw [if_pos h2]
      simp only [Bool.and_eq_true, CV.r1, CV.r2, CV.r3, CV.r4, CV.r5, CV.r6, CV.r7, CV.noRes, rgt_iff, inB_iff, beq_iff_eq, size0, textsB_iff, Bool.or_eq_true, hN, Int.natCast_eq_zero] at h2
      simp only [true_iff]
      obtain ⟨⟨⟨⟨⟨⟨r1, r2⟩, r3⟩, r4⟩, r5⟩, r6⟩, r7⟩ := h2
      exact ⟨h1', r1, r2, r3, r4, r5, r6, r7⟩
    · rw [if_neg h2]
      refine ⟨fun h => absurd h (by decide), fun ⟨_, r1, r2, r3, r4, r5, r6, r7⟩ => absurd ?_ h2⟩
      simp only [Bool.and_eq_true, CV.r1, CV.r2, CV.r3, CV.r4, CV.r5, CV.r6, CV.r7, CV.noRes, rgt_iff, inB_iff, beq_iff_eq, size0, textsB_iff, Bool.or_eq_true, hN, Int.natCast_eq_zero]
      exact ⟨⟨⟨⟨⟨⟨r1, r2⟩, r3⟩, r4⟩, r5⟩, r6⟩, r7⟩
  · rw [if_neg h1]
    exact ⟨fun h => absurd h (by decide), fun h => absurd (inB_iff.2 h.1) h1⟩

end Go.Proofs.Ytmgnekjhlfghaaa

/-
  Changes that came in.
-/
namespace Go.Proofs.Ytmgnekjhlfghaaa
open Go.RowKit Go.ChangeShapes Go.WideShapes Go.ChangeAt
set_option linter.unusedVariables false

/-- Texts that came in. -/
structure TxArg (w : World) (t : TS) (l : List ByteArray) : Prop where
  row : In w 1 t.a l.length t.c (sL.at_ l)
  le : l.length ≤ t.c
  cap : t.c * 16 ≤ 140737488351232
  str : ∀ s, s ∈ l → s.size ≤ 140737488351232
/-- A change that came in. -/
structure OneArg (w : World) (x : CV × TS) : Prop where
  tx : TxArg w x.2 x.1.texts
  bits : 0 ≤ x.1.bits ∧ x.1.bits < 18446744073709551616
  prog : x.1.prog.size ≤ 140737488351232
  nums : ∀ z, z = x.1.kind ∨ z = x.1.n ∨ z = x.1.job ∨ z = x.1.badge ∨ z = x.1.slot ∨ z = x.1.life ∨ z = x.1.code → -9223372036854775808 ≤ z ∧ z ≤ 9223372036854775807
/-- A row of changes that came in. -/
structure ChArg (w : World) (a : Option Addr) (n cap : Nat) (l : List (CV × TS)) : Prop where
  row : In w 10 a n cap (cL.at_ l)
  len : l.length = n
  le : n ≤ cap
  cap : cap * 104 ≤ 140737488351232
  one : ∀ x, x ∈ l → OneArg w x
theorem ChArg.ch {w : World} {a : Option Addr} {n cap : Nat} {l : List (CV × TS)} (h : ChArg w a n cap l) : ChIn w a n cap l := ⟨h.row, h.len, fun x hx => ⟨(h.one x hx).tx.row, (h.one x hx).bits⟩⟩

theorem flat_ch : flat Try.prog 6 41 = some [.int .i64, .int .i64, .int .i64, .int .i64, .int .i64, .int .i64, .int .i64, .int .u64, .str, .other 39] := by kernel_rfl
theorem flat_str : flat Try.prog 6 9 = some [.str] := by kernel_rfl
theorem ch_bytes : Try.prog.bytesOf 41 = 104 := by kernel_rfl
theorem str_bytes : Try.prog.bytesOf 9 = 16 := by kernel_rfl

section
variable {H : Type} {enc : TypeId × Value → H} {w : World} {base : Nat} {spare : Nat → Bool} {held : Bool}

theorem tx_arg {v : Value} (hsp : ∀ b, spare b = true) (h : (Leaf.other 39).ok enc Try.prog w reachBytes base spare held v) : ∃ (t : TS) (l : List ByteArray), v = .slice t.a l.length t.c ∧ TxArg w t l := by
  obtain ⟨a, len, cap, V, rfl, hS, hL⟩ := in_flat Try.underlying39 flat_str (by decide) hsp h
  rw [str_bytes] at hS
  have hq : ∀ i, i < len → Str (V (i * 1)) := fun i hi => str_ok (hL i hi 0 _ rfl)
  have hV : ∀ i, i < len → V i = .string (strOf (V i)) ∧ (strOf (V i)).size ≤ 140737488351232 := fun i hi => by
    obtain ⟨s, hs, hz⟩ := hq i hi
    rw [Nat.mul_one] at hs
    rw [hs]; exact ⟨rfl, hz⟩
  have hlen : ((List.range len).map fun i => strOf (V i)).length = len := by simp
  refine ⟨⟨a, cap⟩, (List.range len).map fun i => strOf (V i), by rw [hlen], ?_, by rw [hlen]; exact hS.le, hS.rch, fun s hs => ?_⟩
  · rw [hlen]
    refine ⟨hS.le, hS.mx, hS.sm, fun b off e j hj => ?_⟩
    rw [hS.cell b off e j hj, (hV j (by simpa using hj)).1]
    have hj' : j < len := by simpa using hj
    rw [show sL.at_ ((List.range len).map fun i => strOf (V i)) j = .string (strOf (V j)) by
      have := sL.at_add ((List.range len).map fun i => strOf (V i)) j 0 (by decide)
      rw [show j * sL.sz + 0 = j by show j * 1 + 0 = j; omega] at this
      rw [this]
      simp [sL, Lay.nth, hj']]
  · obtain ⟨i, hi, rfl⟩ := List.mem_map.1 hs
    exact (hV i (by simpa using hi)).2

theorem one_arg {c : Nat → Value} (hsp : ∀ b, spare b = true)
    (h : ∀ (q : Nat) (L : Leaf), ([.int .i64, .int .i64, .int .i64, .int .i64, .int .i64, .int .i64, .int .i64, .int .u64, .str, .other 39] : List Leaf)[q]? = some L → L.ok enc Try.prog w reachBytes base spare held (c q)) :
    ∃ x : CV × TS, OneArg w x ∧ ∀ q, q < 10 → c q = (cL.f x).getD q undef := by
  obtain ⟨n0, e0, l0, u0⟩ := i64_ok (h 0 _ rfl)
  obtain ⟨n1, e1, l1, u1⟩ := i64_ok (h 1 _ rfl)
  obtain ⟨n2, e2, l2, u2⟩ := i64_ok (h 2 _ rfl)
  obtain ⟨n3, e3, l3, u3⟩ := i64_ok (h 3 _ rfl)
  obtain ⟨n4, e4, l4, u4⟩ := i64_ok (h 4 _ rfl)
  obtain ⟨n5, e5, l5, u5⟩ := i64_ok (h 5 _ rfl)
  obtain ⟨n6, e6, l6, u6⟩ := i64_ok (h 6 _ rfl)
  obtain ⟨n7, e7, l7, u7⟩ := u64_ok (h 7 _ rfl)
  obtain ⟨s, e8, hs⟩ := str_ok (h 8 _ rfl)
  obtain ⟨t, l, e9, ht⟩ := tx_arg hsp (h 9 _ rfl)
  refine ⟨(⟨n0, n1, n2, n3, n4, n5, n6, n7, s, l⟩, t), ⟨ht, ⟨l7, by show n7 < _; omega⟩, hs, ?_⟩, ?_⟩
  · rintro z (rfl | rfl | rfl | rfl | rfl | rfl | rfl)
    · exact ⟨l0, u0⟩
    · exact ⟨l1, u1⟩
    · exact ⟨l2, u2⟩
    · exact ⟨l3, u3⟩
    · exact ⟨l4, u4⟩
    · exact ⟨l5, u5⟩
    · exact ⟨l6, u6⟩
  · intro q hq
    match q, hq with
    | 0, _ => exact e0
    | 1, _ => exact e1
    | 2, _ => exact e2
    | 3, _ => exact e3
    | 4, _ => exact e4
    | 5, _ => exact e5
    | 6, _ => exact e6
    | 7, _ => exact e7
    | 8, _ => exact e8
    | 9, _ => exact e9

theorem ch_arg {v : Value} (hsp : ∀ b, spare b = true) (h : (Leaf.other 31).ok enc Try.prog w reachBytes base spare held v) :
    ∃ (a : Option Addr) (n cap : Nat) (l : List (CV × TS)), v = .slice a n cap ∧ ChArg w a n cap l := by
  obtain ⟨a, len, cap, V, rfl, hS, hL⟩ := in_flat Try.underlying31 flat_ch (by decide) hsp h
  rw [ch_bytes] at hS
  have hone : ∀ i, i < len → ∃ x : CV × TS, OneArg w x ∧ ∀ q, q < 10 → V (i * 10 + q) = (cL.f x).getD q undef := fun i hi => one_arg (c := fun q => V (i * 10 + q)) hsp (fun q L hq => hL i hi q L hq)
  let g : Nat → CV × TS := fun i => if h : i < len then Classical.choose (hone i h) else cL.d
  have hg : ∀ i, i < len → OneArg w (g i) ∧ ∀ q, q < 10 → V (i * 10 + q) = (cL.f (g i)).getD q undef := fun i hi => by
    have := Classical.choose_spec (hone i hi)
    simpa only [g, dif_pos hi] using this
  have hlen : ((List.range len).map g).length = len := by simp
  refine ⟨a, len, cap, (List.range len).map g, rfl, ?_, hlen, hS.le, hS.rch, fun x hx => ?_⟩
  · refine ⟨hS.le, hS.mx, hS.sm, fun b off e j hj => ?_⟩
    rw [hS.cell b off e j hj]
    have hk : j / 10 < len := by omega
    have hq : j % 10 < 10 := Nat.mod_lt _ (by decide)
    have e1 : V j = (cL.f (g (j / 10))).getD (j % 10) undef := by
      have := (hg (j / 10) hk).2 (j % 10) hq
      rwa [show j / 10 * 10 + j % 10 = j by omega] at this
    have e2 : cL.at_ ((List.range len).map g) j = (cL.f (g (j / 10))).getD (j % 10) undef := by
      have := cL.at_add ((List.range len).map g) (j / 10) (j % 10) hq
      rw [show j / 10 * cL.sz + j % 10 = j by show j / 10 * 10 + j % 10 = j; omega] at this
      rw [this]
      simp [Lay.nth, hk]
    rw [e1, e2]
  · obtain ⟨i, hi, rfl⟩ := List.mem_map.1 hx
    exact (hg i (by simpa using hi)).1
end
end Go.Proofs.Ytmgnekjhlfghaaa
