/-
  Changes that came in.
-/
import Derived.Test.YtdobbmlaokolmaaR4
import Derived.Test.YtdobbmlaokolmaaIn
import Derived.Test.YtdobbmlaokolmaaGen2
namespace Go.Proofs.Ytdobbmlaokolmaa
open Go.RowKit Go.ChangeShapes Go.WideShapes Go.ChangeAt
set_option linter.unusedVariables false

/-- Texts that came in. -/
structure TxArg (w : World) (t : TS) (l : List ByteArray) : Prop where
  row : In w 1 t.a l.length t.c (sL.at_ l)
  le : l.length ≤ t.c
  cap : t.c * 16 ≤ 140737488351232
  str : ∀ s, s ∈ l → s.size ≤ 140737488351232
/-- A change that came in. -/
structure OneArg (w : World) (x : CV × TS) : Prop where
  tx : TxArg w x.2 x.1.texts
  bits : 0 ≤ x.1.bits ∧ x.1.bits < 18446744073709551616
  prog : x.1.prog.size ≤ 140737488351232
  nums : ∀ z, z = x.1.kind ∨ z = x.1.n ∨ z = x.1.job ∨ z = x.1.badge ∨ z = x.1.slot ∨ z = x.1.life ∨ z = x.1.code → -9223372036854775808 ≤ z ∧ z ≤ 9223372036854775807
/-- A row of changes that came in. -/
structure ChArg (w : World) (a : Option Addr) (n cap : Nat) (l : List (CV × TS)) : Prop where
  row : In w 10 a n cap (cL.at_ l)
  len : l.length = n
  le : n ≤ cap
  cap : cap * 104 ≤ 140737488351232
  one : ∀ x, x ∈ l → OneArg w x
theorem ChArg.ch {w : World} {a : Option Addr} {n cap : Nat} {l : List (CV × TS)} (h : ChArg w a n cap l) : ChIn w a n cap l := ⟨h.row, h.len, fun x hx => ⟨(h.one x hx).tx.row, (h.one x hx).bits⟩⟩

theorem flat_ch : flat Try.prog 6 27 = some [.int .i64, .int .i64, .int .i64, .int .i64, .int .i64, .int .i64, .int .i64, .int .u64, .str, .other 25] := by kernel_rfl
theorem flat_str : flat Try.prog 6 9 = some [.str] := by kernel_rfl
theorem ch_bytes : Try.prog.bytesOf 27 = 104 := by kernel_rfl
theorem str_bytes : Try.prog.bytesOf 9 = 16 := by kernel_rfl

section
variable {H : Type} {enc : TypeId × Value → H} {w : World} {base : Nat} {spare : Nat → Bool} {held : Bool}

theorem tx_arg {v : Value} (hsp : ∀ b, spare b = true) (h : (Leaf.other 25).ok enc Try.prog w reachBytes base spare held v) : ∃ (t : TS) (l : List ByteArray), v = .slice t.a l.length t.c ∧ TxArg w t l := by
  obtain ⟨a, len, cap, V, rfl, hS, hL⟩ := in_flat Try.underlying25 flat_str (by decide) hsp h
  rw [str_bytes] at hS
  have hq : ∀ i, i < len → Str (V (i * 1)) := fun i hi => str_ok (hL i hi 0 _ rfl)
  have hV : ∀ i, i < len → V i = .string (strOf (V i)) ∧ (strOf (V i)).size ≤ 140737488351232 := fun i hi => by
    obtain ⟨s, hs, hz⟩ := hq i hi
    rw [Nat.mul_one] at hs
    rw [hs]; exact ⟨rfl, hz⟩
  have hlen : ((List.range len).map fun i => strOf (V i)).length = len := by simp
  refine ⟨⟨a, cap⟩, (List.range len).map fun i => strOf (V i), by rw [hlen], ?_, by rw [hlen]; exact hS.le, hS.rch, fun s hs => ?_⟩
  · rw [hlen]
    refine ⟨hS.le, hS.mx, hS.sm, fun b off e j hj => ?_⟩
    rw [hS.cell b off e j hj, (hV j (by simpa using hj)).1]
    have hj' : j < len := by simpa using hj
    rw [show sL.at_ ((List.range len).map fun i => strOf (V i)) j = .string (strOf (V j)) by
      have := sL.at_add ((List.range len).map fun i => strOf (V i)) j 0 (by decide)
      rw [show j * sL.sz + 0 = j by show j * 1 + 0 = j; omega] at this
      rw [this]
      simp [sL, Lay.nth, hj']]
  · obtain ⟨i, hi, rfl⟩ := List.mem_map.1 hs
    exact (hV i (by simpa using hi)).2

theorem one_arg {c : Nat → Value} (hsp : ∀ b, spare b = true)
    (h : ∀ (q : Nat) (L : Leaf), ([.int .i64, .int .i64, .int .i64, .int .i64, .int .i64, .int .i64, .int .i64, .int .u64, .str, .other 25] : List Leaf)[q]? = some L → L.ok enc Try.prog w reachBytes base spare held (c q)) :
    ∃ x : CV × TS, OneArg w x ∧ ∀ q, q < 10 → c q = (cL.f x).getD q undef := by
  obtain ⟨n0, e0, l0, u0⟩ := i64_ok (h 0 _ rfl)
  obtain ⟨n1, e1, l1, u1⟩ := i64_ok (h 1 _ rfl)
  obtain ⟨n2, e2, l2, u2⟩ := i64_ok (h 2 _ rfl)
  obtain ⟨n3, e3, l3, u3⟩ := i64_ok (h 3 _ rfl)
  obtain ⟨n4, e4, l4, u4⟩ := i64_ok (h 4 _ rfl)
  obtain ⟨n5, e5, l5, u5⟩ := i64_ok (h 5 _ rfl)
  obtain ⟨n6, e6, l6, u6⟩ := i64_ok (h 6 _ rfl)
  obtain ⟨n7, e7, l7, u7⟩ := u64_ok (h 7 _ rfl)
  obtain ⟨s, e8, hs⟩ := str_ok (h 8 _ rfl)
  obtain ⟨t, l, e9, ht⟩ := tx_arg hsp (h 9 _ rfl)
  refine ⟨(⟨n0, n1, n2, n3, n4, n5, n6, n7, s, l⟩, t), ⟨ht, ⟨l7, by show n7 < _; omega⟩, hs, ?_⟩, ?_⟩
  · rintro z (rfl | rfl | rfl | rfl | rfl | rfl | rfl)
    · exact ⟨l0, u0⟩
    · exact ⟨l1, u1⟩
    · exact ⟨l2, u2⟩
    · exact ⟨l3, u3⟩
    · exact ⟨l4, u4⟩
    · exact ⟨l5, u5⟩
    · exact ⟨l6, u6⟩
  · intro q hq
    match q, hq with
    | 0, _ => exact e0
    | 1, _ => exact e1
    | 2, _ => exact e2
    | 3, _ => exact e3
    | 4, _ => exact e4
    | 5, _ => exact e5
    | 6, _ => exact e6
    | 7, _ => exact e7
    | 8, _ => exact e8
    | 9, _ => exact e9

theorem ch_arg {v : Value} (hsp : ∀ b, spare b = true) (h : (Leaf.other 28).ok enc Try.prog w reachBytes base spare held v) :
    ∃ (a : Option Addr) (n cap : Nat) (l : List (CV × TS)), v = .slice a n cap ∧ ChArg w a n cap l := by
  obtain ⟨a, len, cap, V, rfl, hS, hL⟩ := in_flat Try.underlying28 flat_ch (by decide) hsp h
  rw [ch_bytes] at hS
  have hone : ∀ i, i < len → ∃ x : CV × TS, OneArg w x ∧ ∀ q, q < 10 → V (i * 10 + q) = (cL.f x).getD q undef := fun i hi => one_arg (c := fun q => V (i * 10 + q)) hsp (fun q L hq => hL i hi q L hq)
  let g : Nat → CV × TS := fun i => if h : i < len then Classical.choose (hone i h) else cL.d
  have hg : ∀ i, i < len → OneArg w (g i) ∧ ∀ q, q < 10 → V (i * 10 + q) = (cL.f (g i)).getD q undef := fun i hi => by
    have := Classical.choose_spec (hone i hi)
    simpa only [g, dif_pos hi] using this
  have hlen : ((List.range len).map g).length = len := by simp
  refine ⟨a, len, cap, (List.range len).map g, rfl, ?_, hlen, hS.le, hS.rch, fun x hx => ?_⟩
  · refine ⟨hS.le, hS.mx, hS.sm, fun b off e j hj => ?_⟩
    rw [hS.cell b off e j hj]
    have hk : j / 10 < len := by omega
    have hq : j % 10 < 10 := Nat.mod_lt _ (by decide)
    have e1 : V j = (cL.f (g (j / 10))).getD (j % 10) undef := by
      have := (hg (j / 10) hk).2 (j % 10) hq
      rwa [show j / 10 * 10 + j % 10 = j by omega] at this
    have e2 : cL.at_ ((List.range len).map g) j = (cL.f (g (j / 10))).getD (j % 10) undef := by
      have := cL.at_add ((List.range len).map g) (j / 10) (j % 10) hq
      rw [show j / 10 * cL.sz + j % 10 = j by show j / 10 * 10 + j % 10 = j; omega] at this
      rw [this]
      simp [Lay.nth, hk]
    rw [e1, e2]
  · obtain ⟨i, hi, rfl⟩ := List.mem_map.1 hx
    exact (hg i (by simpa using hi)).1
end
end Go.Proofs.Ytdobbmlaokolmaa
