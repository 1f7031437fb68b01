/-
  Merged, in build order: Pk0 Pk1 Pk2 Pk3.
-/
import Derived.Test.YtkiccbjngokpjaaGreatProg
import Derived.WalkSpells
import Derived.WalkLawsBesides
import Derived.BigRegion
import Derived.BigQuiet
import Derived.Deep.QuietTactic
import Derived.Handy
import Derived.Deep.Cut
import Derived.RegionTactic
import Derived.Deep.RegionLaw
import Derived.Deep.RegionHeld3
import Derived.Test.YtkiccbjngokpjaaGreatM7
/-
  Numbers as bytes: pack.Num.
-/
namespace Go.Proofs.YtkiccbjngokpjaaGreat
open Go.RowKit
set_option linter.unusedVariables false
set_option linter.unusedSimpArgs false

theorem info_u8 : (Tryz.prog.info? 5).map (fun i => (i.zero, i.size, i.bytes)) = some (some (.int .u8 0), 1, 1) := by kernel_rfl

/-- A number's form. -/
def nf (n : Nat) : ByteArray := ⟨(Lib.uvarint n).toArray⟩

set_option maxHeartbeats 1600000 in
set_option maxRecDepth 100000 in
theorem pack_num (w : World) (n : Nat) (hn : n < 18446744073709551616) :
    Calls Tryz.prog 37 #[.int .u64 n] w fun e w' => e = .returned (.string (nf n)) ∧ Fr [] w w' := by
  obtain ⟨i0, hi0, hz0, hz1, hz2⟩ := info_parts info_u8
  have HI := hid (And.intro hi0 (And.intro hz0 (And.intro hz1 hz2)))
  clear hi0 hz0 hz1 hz2
  go_enter Tryz.func37, Tryz.ntmps37
  go_wp2_with fail
  go_loopw [0, 3] (fun nv bv wr => ∃ (m : Nat) (pre : List UInt8), m ≤ n ∧ nv = .int .u64 m ∧ pre ++ Lib.uvarint m = Lib.uvarint n ∧ wr.ownsRow 0 5 1 bv pre.length (Lib.byteCells pre) ∧ (∀ x, x ∈ bv.ownBlock.toList → w.heap.size ≤ x) ∧ Fr [] w wr) (fun nv _ _ => (intOf nv).toNat)
  case atStart => exact ⟨n, [], Nat.le_refl _, rfl, rfl, World.ownsRow_nil _ _ _ _, by simp [Value.ownBlock], Fr.refl _ _⟩
  case round =>
    obtain ⟨m, pre, hm, rfl, hpre, ho, hb, hF⟩ := hrel
    have hl10 := Lib.uvarint_length64 hn
    have hlp : pre.length ≤ 10 := by
      have := congrArg List.length hpre
      simp at this; omega
    obtain ⟨a, c, rfl, _, _⟩ := ownsRow_In ho (fun j => (Lib.byteCells pre).getD j undef) (fun j hj => by simp [Lib.byteCells, show j < pre.length by omega])
    have HZ := hid (And.intro hpre (And.intro ho (And.intro hb hF)))
    clear hpre ho hb hF
    by_cases hbig : 127 < m
    · have hor : bits .or .u8 ((m : Int) % 256) 128 = ((m % 128 + 128 : Nat) : Int) := by
        rw [Lib.u8_or128_any _ (by omega) (by omega)]; omega
      have HOR := hid hor
      have hu := Lib.uvarint_big (x := m) (by omega)
      have HU := hid hu
      clear hor hu
      go_wp2_with (at_builtin; refine wpList_append_blk rfl (.tmp 8) (.tmp 12) 124 rfl 5 i0 (.int .u8 0) 1 1 Tryz.underlying124 HI.out.1 HI.out.2.1 HI.out.2.2.1 HI.out.2.2.2 rfl (by decide) (.slice a pre.length c) pre.length (Lib.byteCells pre) rfl (ownsRow_keep (S := []) HZ.out.2.1 ((Fr.refl [] _).alloc _) (by simp)) ⟨wr.heap.size, 0, none⟩ 1 1 [.int .u8 (bits .or .u8 ((m : Int) % 256) 128)] rfl rfl ?qb ?qc ?qd ?qe ?_)
      case qb => exact news_alloc wr [.int .u8 (bits .or .u8 ((m : Int) % 256) 128)] _
      case qc => intro u hu; simp at hu; subst hu; rfl
      case qd => unfold maxLen; omega
      case qe => omega
      intro v w1 ho hF hb hn2
      rw [HOR.out, ← Lib.byteCells_snoc pre (show m % 128 + 128 < 256 by omega)] at ho
      obtain ⟨g, c', rfl, _⟩ := ownsRow_shape ho (by omega)
      have hFw : Fr [] w w1 := ((HZ.out.2.2.2).alloc (.cells #[.int .u8 (bits .or .u8 ((m : Int) % 256) 128)] 5)).step hF (fun x hx => .inr (HZ.out.2.2.1 x hx))
      have hbb : ∀ x, x ∈ (Value.slice (some ⟨g, 0, none⟩) (pre.length + 1) c').ownBlock.toList → w.heap.size ≤ x := fun x hx => by
        rcases hb x (by simpa using hx) with h | h
        · exact HZ.out.2.2.1 x (by simpa using h)
        · have := HZ.out.2.2.2.size
          omega
      have H2 := hid (And.intro ho (And.intro hFw hbb))
      clear ho hF hb hn2 hFw hbb
      go_wp2_with fail
      go_roundw
      case rel => exact ⟨m / 128, pre ++ [(m % 128 + 128).toUInt8], by omega, by go_num, by rw [← HZ.out.1, HU.out]; simp, by simpa using H2.out.1, by simpa using H2.out.2.2, H2.out.2.1⟩
      case measure => simp [intOf]; omega
    · have HU := hid (Lib.uvarint_small (x := m) (by omega))
      have hm8 : (m : Int) % 256 = (m : Int) := by omega
      go_wp2_with (at_builtin; refine wpList_append_blk rfl (.tmp 14) (.tmp 17) 124 rfl 5 i0 (.int .u8 0) 1 1 Tryz.underlying124 HI.out.1 HI.out.2.1 HI.out.2.2.1 HI.out.2.2.2 rfl (by decide) (.slice a pre.length c) pre.length (Lib.byteCells pre) rfl (ownsRow_keep (S := []) HZ.out.2.1 ((Fr.refl [] _).alloc _) (by simp)) ⟨wr.heap.size, 0, none⟩ 1 1 [.int .u8 m] rfl rfl ?qb ?qc ?qd ?qe ?_)
      case qb => exact news_alloc wr [.int .u8 m] _
      case qc => intro u hu; simp at hu; subst hu; rfl
      case qd => unfold maxLen; omega
      case qe => omega
      intro v w1 ho hF hb hn2
      rw [← Lib.byteCells_snoc pre (show m < 256 by omega)] at ho
      obtain ⟨g, c', rfl, _⟩ := ownsRow_shape ho (by omega)
      have hFw : Fr [] w w1 := ((HZ.out.2.2.2).alloc (.cells #[.int .u8 m] 5)).step hF (fun x hx => .inr (HZ.out.2.2.1 x hx))
      have H2 := hid (And.intro ho hFw)
      clear ho hF hb hn2 hFw
      go_wp2_with (refine wpList_text' rfl 124 9 (.tmp 18) rfl 5 Tryz.underlying124 Tryz.underlying5 Tryz.underlying9 g 0 (pre.length + 1) c' (pre ++ [m.toUInt8]) (by simp) rfl (ownsRow_cells H2.out.1) ?_)
      go_wp2_with fail
      go_ret
      exact ⟨by unfold nf; rw [← HZ.out.1, HU.out]; rfl, H2.out.2⟩

end Go.Proofs.YtkiccbjngokpjaaGreat

/-
  Texts, bits as bytes: pack.Text, pack.Bits.
-/
namespace Go.Proofs.YtkiccbjngokpjaaGreat
open Go.RowKit
set_option linter.unusedVariables false
set_option linter.unusedSimpArgs false

/-- A text's form. -/
def tf (s : ByteArray) : ByteArray := nf s.size ++ s

theorem pack_text (w : World) (s : ByteArray) (hs : s.size ≤ 140737488355328) :
    Calls Tryz.prog 92 #[.string s] w fun e w' => e = .returned (.string (tf s)) ∧ Fr [] w w' := by
  have hl : (nf s.size).size ≤ 10 := by
    have := Lib.uvarint_length64 (x := s.size) (by omega)
    show (Lib.uvarint s.size).toArray.size ≤ 10
    simpa using this
  have hl2 : ¬ 9223372036854775807 < (nf s.size).size + s.size := by omega
  have HN := hid (fun w => pack_num w s.size (by omega))
  go_enter Tryz.func92, Tryz.ntmps92
  go_wp2_with fail
  refine (HN.out _).mono ?_
  rintro e w1 ⟨rfl, hF⟩
  go_wp2_with fail
  go_ret
  exact ⟨rfl, hF⟩

/-- The byte of 64 bits at a place, the highest first. -/
def bitB (n k : Nat) : UInt8 := (n / 2 ^ (56 - 8 * k) % 256).toUInt8
/-- The form of 64 bits. -/
def bf (n : Nat) : ByteArray := ⟨#[bitB n 0, bitB n 1, bitB n 2, bitB n 3, bitB n 4, bitB n 5, bitB n 6, bitB n 7]⟩

set_option maxHeartbeats 1600000 in
set_option maxRecDepth 100000 in
theorem pack_bits (w : World) (n : Nat) (hn : n < 18446744073709551616) :
    Calls Tryz.prog 98 #[.int .u64 n] w fun e w' => e = .returned (.string (bf n)) ∧ Fr [] w w' := by
  go_enter Tryz.func98, Tryz.ntmps98
  go_wp2_with fail
  go_loopw [5] (fun iv wr => ∃ (k : Nat) (cur : Array Value) (T : TypeId), k ≤ 8 ∧ iv = .int .i64 k ∧ wr.heap[w.heap.size]? = some (.cells cur T (0, 0)) ∧ cur.size = 8 ∧ (∀ j, j < k → cur[j]? = some (.int .u8 (bitB n j).toNat)) ∧ (∀ j, j < 8 → ∃ v, cur[j]? = some v) ∧ Fr [] w wr) (fun iv _ => 8 - (intOf iv).toNat)
  case atStart => exact ⟨0, _, _, by omega, rfl, blk_alloc_at _ _ _ rfl, rfl, fun j hj => absurd hj (Nat.not_lt_zero _), fun j hj => ⟨_, Array.getElem?_eq_getElem (by simpa using hj)⟩, (Fr.refl _ _).alloc _⟩
  case round =>
    obtain ⟨k, cur, T, hk, rfl, hb, hs, hc, hv, hF⟩ := hrel
    by_cases hlt : k < 8
    · obtain ⟨v, hv1⟩ := hv k hlt
      have c1 := cell_blk hb hv1
      have f1 := free_blk (i := k) hb
      have hlb := lt_of_block hb
      have HZ := hid (And.intro hb (And.intro hs (And.intro hc (And.intro hv hF))))
      clear hb hs hc hv hF hv1
      have hbit : ((n / 2 ^ (56 - 8 * k) % 256 : Nat) : Int) = ((bitB n k).toNat : Int) := by
        unfold bitB; rw [Lib.toUInt8_toNat (by omega)]
      have hbit2 : ((n : Int) / 2 ^ (56 - 8 * k) % 256) = ((bitB n k).toNat : Int) := by rw [← hbit]; push_cast; rfl
      have HB := hid hbit2
      clear hbit hbit2
      go_wp2_with fail
      go_roundw
      case rel =>
        obtain ⟨hb, hs, hc, hv, hF⟩ := HZ.out
        rw [HB.out]
        refine ⟨k + 1, _, T, by omega, by go_num, blk_setCell_at _ hb, by simpa using hs, fun j hj => ?_, fun j hj => ?_, hF.setCell (.inr (Nat.le_refl _)) _⟩
        · rw [Array.getElem?_setIfInBounds]
          by_cases hjk : k = j
          · subst hjk; rw [if_pos rfl, if_pos (by omega)]
          · rw [if_neg hjk]; exact hc j (by omega)
        · exact ⟨_, Array.getElem?_eq_getElem (by simpa [hs] using hj)⟩
      case measure => simp [intOf]; omega
    · obtain rfl : k = 8 := by omega
      have hcells : ∀ j v, (Lib.byteCells [bitB n 0, bitB n 1, bitB n 2, bitB n 3, bitB n 4, bitB n 5, bitB n 6, bitB n 7])[j]? = some v → wr.cell? ⟨w.heap.size, 0 + j, none⟩ = some v := fun j v hj => by
        rw [Nat.zero_add]
        refine cell_blk hb ?_
        have hj8 : j < 8 := (List.getElem?_eq_some_iff.1 hj).1
        rw [hc j hj8, ← hj]
        match j, hj8 with
        | 0, _ => rfl
        | 1, _ => rfl
        | 2, _ => rfl
        | 3, _ => rfl
        | 4, _ => rfl
        | 5, _ => rfl
        | 6, _ => rfl
        | 7, _ => rfl
      have HC := hid hcells
      have HF := hid hF
      clear hcells hF hc hv hs
      go_wp2_with (refine wpList_text' rfl 124 9 (.tmp 17) rfl 5 Tryz.underlying124 Tryz.underlying5 Tryz.underlying9 w.heap.size 0 8 8 [bitB n 0, bitB n 1, bitB n 2, bitB n 3, bitB n 4, bitB n 5, bitB n 6, bitB n 7] rfl rfl HC.out ?_)
      go_wp2_with fail
      go_ret
      exact ⟨rfl, HF.out⟩

end Go.Proofs.YtkiccbjngokpjaaGreat

/-
  pack.Reader: take, Left, Fault, Read.
-/
namespace Go.Proofs.YtkiccbjngokpjaaGreat
open Go.RowKit
set_option linter.unusedVariables false
set_option linter.unusedSimpArgs false

/-- A reader: its bytes, where it stands, its fault. -/
structure RS where
  b : ByteArray
  at_ : Nat
  e : Int
structure RS.wf (s : RS) : Prop where
  le : s.at_ ≤ s.b.size
  mx : s.b.size ≤ 140737488355328
def RdT (r : Nat) (s : RS) : Thing := BlkT r (.cells #[.string s.b, .int .i64 s.at_, .int .i64 s.e] 157)
/-- What a reader gives up with. -/
def gu (c : Int) : List PanicEntry := [{ v := .iface 172 (.agg #[.int .i64 c]), recovered := false }]

section
variable {W : Base} {w : World} {R : List Thing}

theorem St.setRd (H : St W w R) (i : Nat) {r : Nat} {s : RS} (hi : R[i]? = some (RdT r s)) (n : Nat) : St W (w.setCell ⟨r, 1, none⟩ (.int .i64 n)) (R.set i (RdT r { s with at_ := n })) := by
  have h := H.setBlk i hi 1 (.int .i64 n)
  exact h
theorem St.rd (H : St W w R) (i : Nat) {r : Nat} {s : RS} (hi : R[i]? = some (RdT r s)) : w.cell? ⟨r, 0, none⟩ = some (.string s.b) ∧ w.cell? ⟨r, 1, none⟩ = some (.int .i64 s.at_) ∧ w.cell? ⟨r, 2, none⟩ = some (.int .i64 s.e) ∧ (∀ j, w.frozen? ⟨r, j, none⟩ = false) ∧ r < w.heap.size := by
  have hb := H.blk i hi
  exact ⟨cell_blk hb rfl, cell_blk hb rfl, cell_blk hb rfl, fun j => free_blk hb, lt_of_block hb⟩

set_option maxHeartbeats 800000 in
theorem st_take (H : St W w R) (i : Nat) {r : Nat} {s : RS} (hi : R[i]? = some (RdT r s)) (hw : s.wf) (n : Nat) (hn : n ≤ 140737488355328) (hle : s.at_ + n ≤ s.b.size) :
    Calls Tryz.prog 113 #[.pointer (some ⟨r, 0, none⟩), .int .i64 n] w fun e w' => e = .returned (.string (s.b.extract s.at_ (s.at_ + n))) ∧ St W w' (R.set i (RdT r { s with at_ := s.at_ + n })) := by
  obtain ⟨c0, c1, _, f, hl⟩ := H.rd i hi
  have f1 := f 1
  have h1 := hw.le
  have h2 := hw.mx
  have hil := lt_of_get hi
  have HH := hid (fun (m : Nat) => (show St W ((w.drewN m).setCell ⟨r, 1, none⟩ (.int .i64 ((s.at_ : Int) + n))) (R.set i (RdT r { s with at_ := s.at_ + n })) by
    have h := (H.drewN m).setRd i hi (s.at_ + n)
    rw [Int.natCast_add] at h; exact h))
  have g1 : ¬ ((s.b.size : Int) - s.at_ < n) := by omega
  have w1 : IntKind.i64.wrap ((s.b.size : Int) - s.at_) = (s.b.size : Int) - s.at_ := IntWalk.i64_in _ (by omega)
  clear H hi f
  go_enter Tryz.func113, Tryz.ntmps113
  go_wp2_with fail
  go_quiet (fail)
  go_wp2_with fail
  have H2 := HH.out nq
  generalize (w.drewN nq).setCell ⟨r, 1, none⟩ (.int .i64 ((s.at_ : Int) + n)) = wx at H2 ⊢
  obtain ⟨d0, d1, _, _, dl⟩ := H2.rd i (List.getElem?_set_self hil)
  simp only at d0 d1
  have e1 : ((s.at_ + n : Nat) : Int) = (s.at_ : Int) + n := Int.natCast_add _ _
  rw [e1] at d1
  have w2 : IntKind.i64.wrap ((s.at_ : Int) + n - n) = s.at_ := by rw [show (s.at_ : Int) + n - n = s.at_ by omega]; exact IntWalk.i64_in _ (by omega)
  have w3 : (s.at_ : Int) + n - n = s.at_ := by omega
  have w4 : (s.at_ : Int) ≤ (s.at_ : Int) + n := by omega
  have w5 : (s.at_ : Int) + n ≤ s.b.size := by omega
  have H2 := hid H2
  clear HH e1 c0 c1 f1 w1
  go_quiet (fail)
  go_wp2_with fail
  go_ret
  exact ⟨rfl, H2.out.drewN _⟩

theorem st_take_no (H : St W w R) (i : Nat) {r : Nat} {s : RS} (hi : R[i]? = some (RdT r s)) (hw : s.wf) (n : Nat) (hn : (n : Int) ≤ 9223372036854775807) (hle : s.b.size < s.at_ + n) :
    Calls Tryz.prog 113 #[.pointer (some ⟨r, 0, none⟩), .int .i64 n] w fun e w' => e = .panicked (gu 20) ∧ St W w' R := by
  obtain ⟨c0, c1, _, f, hl⟩ := H.rd i hi
  have h1 := hw.le
  have h2 := hw.mx
  have HH := hid (fun m => H.drewN m)
  have g1 : (s.b.size : Int) - s.at_ < n := by omega
  have w1 : IntKind.i64.wrap ((s.b.size : Int) - s.at_) = (s.b.size : Int) - s.at_ := IntWalk.i64_in _ (by omega)
  clear H hi f
  go_enter Tryz.func113, Tryz.ntmps113
  go_wp2_with fail
  go_quiet (fail)
  go_wp2_with fail
  exact ⟨rfl, rfl, HH.out _⟩

def RS.fault (s : RS) : Int × Int := if s.e = 0 then (0, 0) else (s.e, s.at_)
theorem st_fault (H : St W w R) (i : Nat) {r : Nat} {s : RS} (hi : R[i]? = some (RdT r s)) :
    Calls Tryz.prog 104 #[.pointer (some ⟨r, 0, none⟩)] w fun e w' => e = .returned (.tuple #[.int .i64 s.fault.1, .int .i64 s.fault.2]) ∧ St W w' R := by
  obtain ⟨c0, c1, c2, f, hl⟩ := H.rd i hi
  have HH := hid (fun m => H.drewN m)
  have HH0 := hid H
  clear H hi f
  unfold RS.fault
  by_cases h : s.e = 0
  · rw [if_pos h]
    rw [h] at c2
    clear h
    go_enter Tryz.func104, Tryz.ntmps104
    go_wp2_with fail
    go_ret2
    exact ⟨rfl, HH0.out⟩
  · rw [if_neg h]
    have e1 : (s.e == 0) = false := by rw [beq_eq_false_iff_ne]; exact h
    generalize s.e = z at c2 e1 h ⊢
    go_enter Tryz.func104, Tryz.ntmps104
    go_wp2_with fail
    go_quiet (fail)
    go_wp2_with fail
    go_ret2
    exact ⟨rfl, HH.out _⟩

theorem st_read0 (H : St W w R) (s : ByteArray) :
    Calls Tryz.prog 65 #[.string s] w fun e w' => ∃ r, e = .returned (.pointer (some ⟨r, 0, none⟩)) ∧ St W w' (R ++ [RdT r ⟨s, 0, 0⟩]) := by
  have HH := hid H
  clear H
  go_enter Tryz.func65, Tryz.ntmps65
  go_wp2_with fail
  go_ret
  exact ⟨_, rfl, HH.out.alloc _⟩

end
end Go.Proofs.YtkiccbjngokpjaaGreat

/-
  pack.Reader: number.
-/
namespace Go.Proofs.YtkiccbjngokpjaaGreat
open Go.RowKit
set_option linter.unusedVariables false
set_option linter.unusedSimpArgs false

def bAt (b : ByteArray) (j : Nat) : Nat := (b.data.toList.getD j 0).toNat
theorem bAt_lt (b : ByteArray) (j : Nat) : bAt b j < 256 := UInt8.toNat_lt _

/-- A number, read: from the i-th of ten bytes on, with what the bytes ahead of it gave; the number and the place behind it, or what is wrong. -/
def rdN (b : ByteArray) (at_ : Nat) : Nat → Nat → Nat → Except Int (Nat × Nat)
  | 0, _, _ => .error 22
  | k + 1, i, n =>
    if at_ + i < b.size then
      if 127 < bAt b (at_ + i) then rdN b at_ k (i + 1) (n + bAt b (at_ + i) % 128 * 2 ^ (7 * i))
      else if (0 < i ∧ bAt b (at_ + i) = 0) ∨ (i = 9 ∧ 1 < bAt b (at_ + i)) then .error 22
      else .ok (n + bAt b (at_ + i) * 2 ^ (7 * i), at_ + i + 1)
    else .error 20

/-- Behind a number: what it is, at most so great. -/
def rdMost (b : ByteArray) (at_ : Nat) (most over : Int) : Except Int (Nat × Nat) :=
  match rdN b at_ 10 0 0 with
  | .error c => .error c
  | .ok (n, p) => if most < (n : Int) then .error over else .ok (n, p)

theorem or_at (i acc z : Nat) (hi : i ≤ 9) (ha : acc < 2 ^ (7 * i)) (hz : z * 2 ^ (7 * i) < 18446744073709551616) : bits .or .u64 (acc : Int) ((z * 2 ^ (7 * i) : Nat) : Int) = ((acc + z * 2 ^ (7 * i) : Nat) : Int) := by
  have h1 : (2 : Int) ^ (7 * i) = ((2 ^ (7 * i) : Nat) : Int) := by push_cast; rfl
  have h2 : 2 ^ (7 * i) ≤ 2 ^ 63 := Nat.pow_le_pow_right (by omega) (by omega)
  rw [bits_join_low .u64 64 (by decide) wraps_u64 (7 * i) _ _ (by omega) (by rw [h1]; exact_mod_cast ha) (by omega) (by omega) (by rw [h1]; exact_mod_cast Nat.mul_mod_left _ _) (by exact_mod_cast hz)]
  push_cast; rfl

theorem rdN_at {b : ByteArray} {at_ k n : Nat} (hk : k < 10) : rdN b at_ (10 - k) k n = if at_ + k < b.size then
      if 127 < bAt b (at_ + k) then rdN b at_ (10 - (k + 1)) (k + 1) (n + bAt b (at_ + k) % 128 * 2 ^ (7 * k))
      else if (0 < k ∧ bAt b (at_ + k) = 0) ∨ (k = 9 ∧ 1 < bAt b (at_ + k)) then .error 22
      else .ok (n + bAt b (at_ + k) * 2 ^ (7 * k), at_ + k + 1)
    else .error 20 := by
  obtain ⟨m, hm⟩ : ∃ m, 10 - k = m + 1 := ⟨9 - k, by omega⟩
  rw [hm, show 10 - (k + 1) = m by omega]
  rfl

theorem one_byte (b : ByteArray) (p : Nat) (hp : p + 1 ≤ b.size) : ∃ h : 0 < (b.extract p (p + 1)).size, ((b.extract p (p + 1))[0]'h).toNat = bAt b p := by
  have h : 0 < (b.extract p (p + 1)).size := by rw [ByteArray.size_extract]; omega
  refine ⟨h, ?_⟩
  unfold bAt
  have e : (b.extract p (p + 1))[0]'h = b[p]'(by omega) := by
    have := ByteArray.getElem_extract (i := 0) (b := b) (start := p) (stop := p + 1) h
    simpa using this
  rw [e, List.getD_eq_getElem?_getD, List.getElem?_eq_getElem (by simp; exact hp)]
  rfl

theorem u64_nat (z : Nat) (h : z < 18446744073709551616) : IntKind.u64.wrap (z : Int) = z := IntWalk.u64_in _ (by omega)
theorem no_or {c : Nat} (h : ((c : Int) == 0) = true ∨ 1 < (c : Int)) (h1 : ¬ c = 0) (h2 : ¬ 1 < c) : False := by
  rcases h with h | h
  · rw [beq_iff_eq] at h; omega
  · omega
/-- What the round's byte adds. -/
theorem num_slot (k acc c : Nat) (hk : k ≤ 9) (ha : acc < 2 ^ (7 * k)) (hc : c < 256) (hz : k = 9 → c % 128 ≤ 1) :
    bits .or .u64 (acc : Int) (IntKind.u64.wrap (IntKind.u64.wrap (bits .and .u8 (c : Int) 127) * 2 ^ (7 * k))) = ((acc + c % 128 * 2 ^ (7 * k) : Nat) : Int) ∧ acc + c % 128 * 2 ^ (7 * k) < 2 ^ (7 * (k + 1)) := by
  have hp : (2 : Int) ^ (7 * k) = ((2 ^ (7 * k) : Nat) : Int) := by push_cast; rfl
  have h128 : 2 ^ (7 * (k + 1)) = 128 * 2 ^ (7 * k) := by rw [Nat.mul_add, Nat.pow_add]; omega
  have hm : c % 128 < 128 := Nat.mod_lt _ (by omega)
  have hlt : c % 128 * 2 ^ (7 * k) < 18446744073709551616 := by
    rcases Nat.lt_or_ge k 9 with h | h
    · have h8 : 2 ^ (7 * k) ≤ 2 ^ 56 := Nat.pow_le_pow_right (by omega) (by omega)
      have := Nat.mul_le_mul (show c % 128 ≤ 127 by omega) h8
      omega
    · have e : k = 9 := by omega
      subst e
      have := hz rfl
      have := Nat.mul_le_mul this (Nat.le_refl (2 ^ (7 * 9)))
      omega
  refine ⟨?_, ?_⟩
  · rw [show bits .and .u8 (c : Int) 127 = (c : Int) % 128 from bits_mask .u8 8 (by decide) wraps_u8 7 (by decide) c (by omega) (by omega)]
    have e1 : (c : Int) % 128 = ((c % 128 : Nat) : Int) := by omega
    have e2 : IntKind.u64.wrap ((c % 128 : Nat) : Int) = ((c % 128 : Nat) : Int) := IntWalk.u64_in _ (by omega)
    rw [e1, e2, hp]
    have e3 : ((c % 128 : Nat) : Int) * ((2 ^ (7 * k) : Nat) : Int) = ((c % 128 * 2 ^ (7 * k) : Nat) : Int) := by push_cast; rfl
    rw [e3, u64_nat _ hlt]
    exact or_at k acc (c % 128) hk ha hlt
  · rw [h128]
    have := Nat.mul_le_mul (show c % 128 ≤ 127 by omega) (Nat.le_refl (2 ^ (7 * k)))
    omega

section
variable {W : Base} {w : World} {R : List Thing}

/-- What 'number' comes to. -/
def NumTo (W : Base) (R : List Thing) (i r : Nat) (s : RS) (x : Except Int (Nat × Nat)) (e : Ending) (w' : World) : Prop :=
  match x with
  | .ok (n, p) => e = .returned (.int .u64 n) ∧ St W w' (R.set i (RdT r { s with at_ := p }))
  | .error c => e = .panicked (gu c) ∧ ∃ p, p ≤ s.b.size ∧ St W w' (R.set i (RdT r { s with at_ := p }))

set_option maxHeartbeats 1600000 in
set_option maxRecDepth 100000 in
theorem st_number (H : St W w R) (i : Nat) {r : Nat} {s : RS} (hi : R[i]? = some (RdT r s)) (hw : s.wf) (most : Nat) (hm : most < 18446744073709551616) (over : Int) :
    Calls Tryz.prog 103 #[.pointer (some ⟨r, 0, none⟩), .int .u64 most, .int .i64 over] w (NumTo W R i r s (rdMost s.b s.at_ most over)) := by
  have hil := lt_of_get hi
  have h1 := hw.le
  have h2 := hw.mx
  generalize hX : rdMost s.b s.at_ most over = X
  have HX := hid hX
  have H0 := hid (show St W w (R.set i (RdT r { s with at_ := s.at_ + 0 })) from H.set_self hi)
  clear hX H hi
  go_enter Tryz.func103, Tryz.ntmps103
  go_wp2_with fail
  go_loopw [7, 10] (fun nv iv wr => ∃ (k acc : Nat), k ≤ 10 ∧ iv = .int .i64 k ∧ s.at_ + k ≤ s.b.size ∧ (k < 10 → nv = .int .u64 acc ∧ acc < 2 ^ (7 * k)) ∧ rdN s.b s.at_ 10 0 0 = rdN s.b s.at_ (10 - k) k acc ∧ St W wr (R.set i (RdT r { s with at_ := s.at_ + k }))) (fun _ iv _ => 10 - (intOf iv).toNat)
  case atStart => exact ⟨0, 0, by omega, rfl, by omega, fun _ => ⟨rfl, by simp⟩, rfl, H0.out⟩
  case round =>
    clear H0
    obtain ⟨k, acc, hk, rfl, hle, hn, hrd, H⟩ := hrel
    have HR := hid hrd
    clear hrd
    by_cases hlt : k < 10
    · obtain ⟨rfl, hacc⟩ := hn hlt
      clear hn
      by_cases hin : s.at_ + k < s.b.size
      · obtain ⟨hz, hc⟩ := one_byte s.b (s.at_ + k) hin
        go_wp2_with fail
        refine (st_take H i (List.getElem?_set_self hil) ⟨hle, h2⟩ 1 (by omega) (show s.at_ + k + 1 ≤ s.b.size by omega)).mono ?_
        clear H
        rintro e w1 ⟨rfl, H⟩
        rw [List.set_set] at H
        dsimp only at H ⊢
        generalize hb : s.b.extract (s.at_ + k) (s.at_ + k + 1) = t at hz hc ⊢
        have hc8 := bAt_lt s.b (s.at_ + k)
        generalize hcb : bAt s.b (s.at_ + k) = c at hc hc8
        have hb := hid hb
        have hcb := hid hcb
        have H := hid H
        have hsl := hid (num_slot k acc c (by omega) hacc hc8)
        have hacc := hid hacc
        by_cases h127 : 127 < c
        · have hr2 : rdN s.b s.at_ 10 0 0 = rdN s.b s.at_ (10 - (k + 1)) (k + 1) (acc + c % 128 * 2 ^ (7 * k)) := by
            rw [HR.out, rdN_at hlt, if_pos hin, hcb.out, if_pos h127]
          have HR := hid hr2
          clear hr2
          go_wp2_with fail
          refine ⟨⟨k + 1, acc + c % 128 * 2 ^ (7 * k), by omega, rfl, by omega, fun hk9 => ?_, HR.out, H.out⟩, ?_⟩
          · have h := hsl.out (by omega)
            rw [h.1]
            exact ⟨rfl, h.2⟩
          · show 10 - ((k : Int) + 1).toNat < 10 - (k : Int).toNat
            omega
        · by_cases hbad : (0 < k ∧ c = 0) ∨ (k = 9 ∧ 1 < c)
          · have hx : X = .error 22 := by
              rw [← HX.out, rdMost, HR.out, rdN_at hlt, if_pos hin, hcb.out, if_neg h127, if_pos hbad]
            clear HX HR hsl
            subst hx
            go_wp2_with fail
            all_goals first | (exfalso; omega) | exact ⟨rfl, rfl, _, by omega, H.out⟩
          · have hn : c % 128 = c := Nat.mod_eq_of_lt (by omega)
            have hsl2 := hsl.out (by omega)
            rw [hn] at hsl2
            generalize hN : acc + c * 2 ^ (7 * k) = N at hsl2
            have hv := hsl2.1
            have hN64 : N < 18446744073709551616 := by
              have h1 := hsl2.2
              rcases Nat.lt_or_ge k 9 with h | h
              · have h8 : 2 ^ (7 * (k + 1)) ≤ 2 ^ 63 := Nat.pow_le_pow_right (by omega) (by omega)
                omega
              · have e : k = 9 := by omega
                subst e
                have := hacc.out
                have : c ≤ 1 := by omega
                have := Nat.mul_le_mul this (Nat.le_refl (2 ^ (7 * 9)))
                omega
            have hx : X = if (most : Int) < (N : Int) then .error over else .ok (N, s.at_ + k + 1) := by
              rw [← HX.out, rdMost, HR.out, rdN_at hlt, if_pos hin, hcb.out, if_neg h127, if_neg hbad]
              simp only [hN]
            have hN := hid hN
            clear HX HR hsl hsl2 hn
            by_cases hmo : (most : Int) < N
            · rw [if_pos hmo] at hx
              subst hx
              go_wp2_with fail
              all_goals first | exact ⟨rfl, rfl, _, by omega, H.out⟩ | (exfalso; omega) | exact (no_or (by assumption) (by omega) (by omega)).elim
            · rw [if_neg hmo] at hx
              subst hx
              go_wp2_with fail
              all_goals first | (exfalso; omega) | exact (no_or (by assumption) (by omega) (by omega)).elim | (go_ret; exact ⟨rfl, H.out⟩)
      · have hx : X = .error 20 := by
          rw [← HX.out, rdMost, HR.out, rdN_at hlt, if_neg hin]
        clear HX HR
        subst hx
        go_wp2_with fail
        refine (st_take_no H i (List.getElem?_set_self hil) ⟨hle, h2⟩ 1 (by omega) (show s.b.size < s.at_ + k + 1 by omega)).mono ?_
        clear H
        rintro e w1 ⟨rfl, H⟩
        go_wp2_with fail
        exact ⟨rfl, rfl, _, by omega, H⟩
    · have hk10 : k = 10 := by omega
      subst hk10
      have hx : X = .error 22 := by
        rw [← HX.out, rdMost, HR.out]; rfl
      clear HX HR hn
      subst hx
      have H := hid H
      go_wp2_with fail
      exact ⟨rfl, rfl, _, by omega, H.out⟩
end

end Go.Proofs.YtkiccbjngokpjaaGreat
