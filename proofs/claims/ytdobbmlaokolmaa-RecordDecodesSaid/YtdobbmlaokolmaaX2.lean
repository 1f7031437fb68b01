/-
  gafferref02, gafferref08: what is written.
-/
import Derived.Test.YtdobbmlaokolmaaX1
namespace Go.Proofs.Ytdobbmlaokolmaa
open Go.RowKit
set_option linter.unusedVariables false
set_option linter.unusedSimpArgs false

set_option maxHeartbeats 1600000 in
set_option maxRecDepth 100000 in
theorem rnum_walk (w : World) (n : Nat) (hn : n < 18446744073709551616) :
    Calls Try.prog 49 #[.int .u64 n] w fun e w' => e = .returned (.string (nf n)) ∧ Fr [] w w' := by
  obtain ⟨i0, hi0, hz0, hz1, hz2⟩ := info_parts info_u8
  have HI := hid (And.intro hi0 (And.intro hz0 (And.intro hz1 hz2)))
  clear hi0 hz0 hz1 hz2
  go_enter Try.func49, Try.ntmps49
  go_wp2_with fail
  go_loopw [0, 3] (fun nv bv wr => ∃ (m : Nat) (pre : List UInt8), m ≤ n ∧ nv = .int .u64 m ∧ pre ++ Lib.uvarint m = Lib.uvarint n ∧ wr.ownsRow 0 5 1 bv pre.length (Lib.byteCells pre) ∧ (∀ x, x ∈ bv.ownBlock.toList → w.heap.size ≤ x) ∧ Fr [] w wr) (fun nv _ _ => (intOf nv).toNat)
  case atStart => exact ⟨n, [], Nat.le_refl _, rfl, rfl, ⟨by simp [Lib.byteCells], .inr ⟨w.heap.size, 0, #[], rfl, Nat.zero_le _, blk_alloc_at _ _ _ rfl, Nat.le_refl _, by decide, by simp, by simp [Lib.byteCells]⟩⟩, by simp [Value.ownBlock], (Fr.refl _ _).alloc _⟩
  case round =>
    obtain ⟨m, pre, hm, rfl, hpre, ho, hb, hF⟩ := hrel
    have hl10 := Lib.uvarint_length64 hn
    have hlp : pre.length ≤ 10 := by
      have := congrArg List.length hpre
      simp at this; omega
    obtain ⟨a, c, rfl, _, _⟩ := ownsRow_In ho (fun j => (Lib.byteCells pre).getD j undef) (fun j hj => by simp [Lib.byteCells, show j < pre.length by omega])
    have HZ := hid (And.intro hpre (And.intro ho (And.intro hb hF)))
    clear hpre ho hb hF
    by_cases hbig : 127 < m
    · have HU := hid (Lib.uvarint_big (x := m) (by omega))
      have h128 : (128 : Int) ≤ m := by omega
      go_wp2_with (at_builtin; refine wpList_append_blk rfl (.tmp 7) (.tmp 12) 43 rfl 5 i0 (.int .u8 0) 1 1 Try.underlying43 HI.out.1 HI.out.2.1 HI.out.2.2.1 HI.out.2.2.2 rfl (by decide) (.slice a pre.length c) pre.length (Lib.byteCells pre) rfl (ownsRow_keep (S := []) HZ.out.2.1 ((Fr.refl [] _).alloc _) (by simp)) ⟨wr.heap.size, 0, none⟩ 1 1 [.int .u8 ((m : Int) % 128 + 128)] rfl rfl ?qb ?qc ?qd ?qe ?_)
      case qb => exact news_alloc wr [.int .u8 ((m : Int) % 128 + 128)] _
      case qc => intro u hu; simp at hu; subst hu; rfl
      case qd => unfold maxLen; omega
      case qe => omega
      intro v w1 ho hF hb hn2
      rw [show (m : Int) % 128 + 128 = ((m % 128 + 128 : Nat) : Int) by omega, ← Lib.byteCells_snoc pre (show m % 128 + 128 < 256 by omega)] at ho
      obtain ⟨g, c', rfl, _⟩ := ownsRow_shape ho (by omega)
      have hFw : Fr [] w w1 := ((HZ.out.2.2.2).alloc (.cells #[.int .u8 ((m : Int) % 128 + 128)] 5)).step hF (fun x hx => .inr (HZ.out.2.2.1 x hx))
      have hbb : ∀ x, x ∈ (Value.slice (some ⟨g, 0, none⟩) (pre.length + 1) c').ownBlock.toList → w.heap.size ≤ x := fun x hx => by
        rcases hb x (by simpa using hx) with h | h
        · exact HZ.out.2.2.1 x (by simpa using h)
        · have := HZ.out.2.2.2.size
          omega
      have H2 := hid (And.intro ho (And.intro hFw hbb))
      clear ho hF hb hn2 hFw hbb
      go_wp2_with fail
      go_roundw
      case rel => exact ⟨m / 128, pre ++ [(m % 128 + 128).toUInt8], by omega, by go_num, by rw [← HZ.out.1, HU.out]; simp, by simpa using H2.out.1, by simpa using H2.out.2.2, H2.out.2.1⟩
      case measure => simp [intOf]; omega
    · have HU := hid (Lib.uvarint_small (x := m) (by omega))
      have hm8 : (m : Int) % 256 = (m : Int) := by omega
      have h128 : ¬ (128 : Int) ≤ m := by omega
      go_wp2_with (at_builtin; refine wpList_append_blk rfl (.tmp 16) (.tmp 19) 43 rfl 5 i0 (.int .u8 0) 1 1 Try.underlying43 HI.out.1 HI.out.2.1 HI.out.2.2.1 HI.out.2.2.2 rfl (by decide) (.slice a pre.length c) pre.length (Lib.byteCells pre) rfl (ownsRow_keep (S := []) HZ.out.2.1 ((Fr.refl [] _).alloc _) (by simp)) ⟨wr.heap.size, 0, none⟩ 1 1 [.int .u8 m] rfl rfl ?qb ?qc ?qd ?qe ?_)
      case qc => rfl
      case qd => unfold maxLen; omega
      case qe => omega
      intro v w1 ho hF hb hn2
      rw [← Lib.byteCells_snoc pre (show m < 256 by omega)] at ho
      obtain ⟨g, c', rfl, _⟩ := ownsRow_shape ho (by omega)
      have hFw : Fr [] w w1 := ((HZ.out.2.2.2).alloc (.cells #[.int .u8 m] 5)).step hF (fun x hx => .inr (HZ.out.2.2.1 x hx))
      have H2 := hid (And.intro ho hFw)
      clear ho hF hb hn2 hFw
      go_wp2_with (refine wpList_text' rfl 43 9 (.tmp 20) rfl 5 Try.underlying43 Try.underlying5 Try.underlying9 g 0 (pre.length + 1) c' (pre ++ [m.toUInt8]) (by simp) rfl (ownsRow_cells H2.out.1) ?_)
      go_wp2_with fail
      go_ret
      exact ⟨by unfold nf; rw [← HZ.out.1, HU.out]; rfl, H2.out.2⟩

theorem rtext_walk (w : World) (s : ByteArray) (hs : s.size ≤ 140737488355328) :
    Calls Try.prog 50 #[.string s] w fun e w' => e = .returned (.string (tf s)) ∧ Fr [] w w' := by
  have hl : (nf s.size).size ≤ 10 := nf_le _ (by omega)
  have hl2 : ¬ 9223372036854775807 < (nf s.size).size + s.size := by omega
  have HN := hid (fun w => rnum_walk w s.size (by omega))
  go_enter Try.func50, Try.ntmps50
  go_wp2_with fail
  refine (HN.out _).mono ?_
  rintro e w1 ⟨rfl, hF⟩
  go_wp2_with fail
  go_ret
  exact ⟨rfl, hF⟩

theorem rnum8_walk (w : World) (n : Nat) (hn : n < 9223372036854775808) :
    Calls Try.prog 31 #[.int .i64 n] w fun e w' => e = .returned (.string (nf n)) ∧ Fr [] w w' := by
  go_enter Try.func31, Try.ntmps31
  go_wp2_with (go_at_call 49; refine (rnum_walk _ n (by omega)).mono ?_; rintro e w1 ⟨rfl, hF⟩)
  go_wp2_with fail
  go_ret
  exact ⟨rfl, hF⟩

/-- The first bytes of 64 bits. -/
def bfL (n k : Nat) : List UInt8 := (List.range k).map (bitB n)
theorem bfL_snoc (n k : Nat) : bfL n k ++ [bitB n k] = bfL n (k + 1) := by simp [bfL, List.range_succ]
theorem bfL_8 (n : Nat) : (⟨(bfL n 8).toArray⟩ : ByteArray) = bf n := rfl

set_option maxHeartbeats 1600000 in
set_option maxRecDepth 100000 in
theorem rbits_walk (w : World) (n : Nat) (hn : n < 18446744073709551616) :
    Calls Try.prog 51 #[.int .u64 n] w fun e w' => e = .returned (.string (bf n)) ∧ Fr [] w w' := by
  obtain ⟨i0, hi0, hz0, hz1, hz2⟩ := info_parts info_u8
  have HI := hid (And.intro hi0 (And.intro hz0 (And.intro hz1 hz2)))
  clear hi0 hz0 hz1 hz2
  go_enter Try.func51, Try.ntmps51
  go_wp2_with fail
  go_loopw [3, 4] (fun bv iv wr => ∃ (k : Nat), k ≤ 8 ∧ iv = .int .i64 (56 - 8 * (k : Int)) ∧ wr.ownsRow 0 5 1 bv k (Lib.byteCells (bfL n k)) ∧ (∀ x, x ∈ bv.ownBlock.toList → w.heap.size ≤ x) ∧ Fr [] w wr) (fun _ iv _ => (intOf iv + 8).toNat)
  case atStart => exact ⟨0, by omega, rfl, ⟨by simp [Lib.byteCells, bfL], .inr ⟨w.heap.size, 0, #[], rfl, Nat.zero_le _, blk_alloc_at _ _ _ rfl, Nat.le_refl _, by decide, by simp, by simp [Lib.byteCells, bfL]⟩⟩, by simp [Value.ownBlock], (Fr.refl _ _).alloc _⟩
  case round =>
    obtain ⟨k, hk, rfl, ho, hb, hF⟩ := hrel
    have hlen : (bfL n k).length = k := by simp [bfL]
    obtain ⟨a, c, rfl, _, _⟩ := ownsRow_In ho (fun j => (Lib.byteCells (bfL n k)).getD j undef) (fun j hj => by
      rw [List.getD_eq_getElem?_getD, List.getElem?_eq_getElem (by rw [Lib.byteCells_length, hlen]; omega)]; rfl)
    have HZ := hid (And.intro ho (And.intro hb (And.intro hF hlen)))
    clear ho hb hF hlen
    by_cases hlt : k < 8
    · have h0 : (0 : Int) ≤ 56 - 8 * (k : Int) := by omega
      have hbv : ((n : Int) / 2 ^ (56 - 8 * k) % 256) = ((bitB n k).toNat : Int) := by rw [bitB_nat]; push_cast; rfl
      have HB := hid hbv
      clear hbv
      go_wp2_with (at_builtin; refine wpList_append_blk rfl (.tmp 10) (.tmp 15) 43 rfl 5 i0 (.int .u8 0) 1 1 Try.underlying43 HI.out.1 HI.out.2.1 HI.out.2.2.1 HI.out.2.2.2 rfl (by decide) (.slice a k c) k (Lib.byteCells (bfL n k)) rfl (ownsRow_keep (S := []) HZ.out.1 ((Fr.refl [] _).alloc _) (by simp)) ⟨wr.heap.size, 0, none⟩ 1 1 [.int .u8 ((n : Int) / 2 ^ (56 - 8 * k) % 256)] rfl rfl ?qb ?qc ?qd ?qe ?_)
      case qb => exact news_alloc wr [.int .u8 ((n : Int) / 2 ^ (56 - 8 * k) % 256)] _
      case qc => intro u hu; simp at hu; subst hu; rfl
      case qd => unfold maxLen; omega
      case qe => omega
      intro v w1 ho hF hb hn2
      rw [HB.out, show Lib.byteCells (bfL n k) ++ [Value.int .u8 ((bitB n k).toNat : Int)] = Lib.byteCells (bfL n (k + 1)) by rw [← bfL_snoc, Lib.byteCells_append]; rfl] at ho
      obtain ⟨g, c', rfl, _⟩ := ownsRow_shape ho (by omega)
      have hFw : Fr [] w w1 := ((HZ.out.2.2.1).alloc (.cells #[.int .u8 ((n : Int) / 2 ^ (56 - 8 * k) % 256)] 5)).step hF (fun x hx => .inr (HZ.out.2.1 x hx))
      have hbb : ∀ x, x ∈ (Value.slice (some ⟨g, 0, none⟩) (k + 1) c').ownBlock.toList → w.heap.size ≤ x := fun x hx => by
        rcases hb x (by simpa using hx) with h | h
        · exact HZ.out.2.1 x (by simpa using h)
        · have := HZ.out.2.2.1.size
          omega
      have H2 := hid (And.intro ho (And.intro hFw hbb))
      clear ho hF hb hn2 hFw hbb
      go_wp2_with fail
      go_roundw
      case rel => exact ⟨k + 1, by omega, by go_num, H2.out.1, by simpa using H2.out.2.2, H2.out.2.1⟩
      case measure => simp [intOf]; omega
    · obtain rfl : k = 8 := by omega
      have ho := HZ.out.1
      obtain ⟨g, c', hgc, _⟩ := ownsRow_shape ho (by omega)
      simp only [Value.slice.injEq] at hgc
      obtain ⟨rfl, _, rfl⟩ := hgc
      have ho := hid ho
      go_wp2_with (refine wpList_text' rfl 43 9 (.tmp 17) rfl 5 Try.underlying43 Try.underlying5 Try.underlying9 g 0 8 c (bfL n 8) (by simp [bfL]) rfl (ownsRow_cells ho.out) ?_)
      go_wp2_with fail
      go_ret
      exact ⟨rfl, HZ.out.2.2.1⟩
end Go.Proofs.Ytdobbmlaokolmaa
