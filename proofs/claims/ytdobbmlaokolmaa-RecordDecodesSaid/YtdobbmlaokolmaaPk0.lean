/-
  Numbers as bytes: pack.Num.
-/
import Derived.Test.YtdobbmlaokolmaaStr
import Derived.Test.YtdobbmlaokolmaaProg
import Derived.WalkSpells
import Derived.WalkLawsBesides
import Derived.BigRegion
import Derived.BigQuiet
import Derived.Deep.QuietTactic
import Derived.Handy
import Derived.Deep.Cut
import Derived.RegionTactic
import Derived.Deep.RegionLaw
import Derived.Deep.RegionHeld3
namespace Go.Proofs.Ytdobbmlaokolmaa
open Go.RowKit
set_option linter.unusedVariables false
set_option linter.unusedSimpArgs false

theorem info_u8 : (Try.prog.info? 5).map (fun i => (i.zero, i.size, i.bytes)) = some (some (.int .u8 0), 1, 1) := by kernel_rfl

/-- A number's form. -/
def nf (n : Nat) : ByteArray := ⟨(Lib.uvarint n).toArray⟩

set_option maxHeartbeats 1600000 in
set_option maxRecDepth 100000 in
theorem pack_num (w : World) (n : Nat) (hn : n < 18446744073709551616) :
    Calls Try.prog 44 #[.int .u64 n] w fun e w' => e = .returned (.string (nf n)) ∧ Fr [] w w' := by
  obtain ⟨i0, hi0, hz0, hz1, hz2⟩ := info_parts info_u8
  have HI := hid (And.intro hi0 (And.intro hz0 (And.intro hz1 hz2)))
  clear hi0 hz0 hz1 hz2
  go_enter Try.func44, Try.ntmps44
  go_wp2_with fail
  go_loopw [0, 3] (fun nv bv wr => ∃ (m : Nat) (pre : List UInt8), m ≤ n ∧ nv = .int .u64 m ∧ pre ++ Lib.uvarint m = Lib.uvarint n ∧ wr.ownsRow 0 5 1 bv pre.length (Lib.byteCells pre) ∧ (∀ x, x ∈ bv.ownBlock.toList → w.heap.size ≤ x) ∧ Fr [] w wr) (fun nv _ _ => (intOf nv).toNat)
  case atStart => exact ⟨n, [], Nat.le_refl _, rfl, rfl, World.ownsRow_nil _ _ _ _, by simp [Value.ownBlock], Fr.refl _ _⟩
  case round =>
    obtain ⟨m, pre, hm, rfl, hpre, ho, hb, hF⟩ := hrel
    have hl10 := Lib.uvarint_length64 hn
    have hlp : pre.length ≤ 10 := by
      have := congrArg List.length hpre
      simp at this; omega
    obtain ⟨a, c, rfl, _, _⟩ := ownsRow_In ho (fun j => (Lib.byteCells pre).getD j undef) (fun j hj => by simp [Lib.byteCells, show j < pre.length by omega])
    have HZ := hid (And.intro hpre (And.intro ho (And.intro hb hF)))
    clear hpre ho hb hF
    by_cases hbig : 127 < m
    · have hor : bits .or .u8 ((m : Int) % 256) 128 = ((m % 128 + 128 : Nat) : Int) := by
        rw [Lib.u8_or128_any _ (by omega) (by omega)]; omega
      have HOR := hid hor
      have hu := Lib.uvarint_big (x := m) (by omega)
      have HU := hid hu
      clear hor hu
      go_wp2_with (at_builtin; refine wpList_append_blk rfl (.tmp 8) (.tmp 12) 43 rfl 5 i0 (.int .u8 0) 1 1 Try.underlying43 HI.out.1 HI.out.2.1 HI.out.2.2.1 HI.out.2.2.2 rfl (by decide) (.slice a pre.length c) pre.length (Lib.byteCells pre) rfl (ownsRow_keep (S := []) HZ.out.2.1 ((Fr.refl [] _).alloc _) (by simp)) ⟨wr.heap.size, 0, none⟩ 1 1 [.int .u8 (bits .or .u8 ((m : Int) % 256) 128)] rfl rfl ?qb ?qc ?qd ?qe ?_)
      case qb => exact news_alloc wr [.int .u8 (bits .or .u8 ((m : Int) % 256) 128)] _
      case qc => intro u hu; simp at hu; subst hu; rfl
      case qd => unfold maxLen; omega
      case qe => omega
      intro v w1 ho hF hb hn2
      rw [HOR.out, ← Lib.byteCells_snoc pre (show m % 128 + 128 < 256 by omega)] at ho
      obtain ⟨g, c', rfl, _⟩ := ownsRow_shape ho (by omega)
      have hFw : Fr [] w w1 := ((HZ.out.2.2.2).alloc (.cells #[.int .u8 (bits .or .u8 ((m : Int) % 256) 128)] 5)).step hF (fun x hx => .inr (HZ.out.2.2.1 x hx))
      have hbb : ∀ x, x ∈ (Value.slice (some ⟨g, 0, none⟩) (pre.length + 1) c').ownBlock.toList → w.heap.size ≤ x := fun x hx => by
        rcases hb x (by simpa using hx) with h | h
        · exact HZ.out.2.2.1 x (by simpa using h)
        · have := HZ.out.2.2.2.size
          omega
      have H2 := hid (And.intro ho (And.intro hFw hbb))
      clear ho hF hb hn2 hFw hbb
      go_wp2_with fail
      go_roundw
      case rel => exact ⟨m / 128, pre ++ [(m % 128 + 128).toUInt8], by omega, by go_num, by rw [← HZ.out.1, HU.out]; simp, by simpa using H2.out.1, by simpa using H2.out.2.2, H2.out.2.1⟩
      case measure => simp [intOf]; omega
    · have HU := hid (Lib.uvarint_small (x := m) (by omega))
      have hm8 : (m : Int) % 256 = (m : Int) := by omega
      go_wp2_with (at_builtin; refine wpList_append_blk rfl (.tmp 14) (.tmp 17) 43 rfl 5 i0 (.int .u8 0) 1 1 Try.underlying43 HI.out.1 HI.out.2.1 HI.out.2.2.1 HI.out.2.2.2 rfl (by decide) (.slice a pre.length c) pre.length (Lib.byteCells pre) rfl (ownsRow_keep (S := []) HZ.out.2.1 ((Fr.refl [] _).alloc _) (by simp)) ⟨wr.heap.size, 0, none⟩ 1 1 [.int .u8 m] rfl rfl ?qb ?qc ?qd ?qe ?_)
      case qb => exact news_alloc wr [.int .u8 m] _
      case qc => intro u hu; simp at hu; subst hu; rfl
      case qd => unfold maxLen; omega
      case qe => omega
      intro v w1 ho hF hb hn2
      rw [← Lib.byteCells_snoc pre (show m < 256 by omega)] at ho
      obtain ⟨g, c', rfl, _⟩ := ownsRow_shape ho (by omega)
      have hFw : Fr [] w w1 := ((HZ.out.2.2.2).alloc (.cells #[.int .u8 m] 5)).step hF (fun x hx => .inr (HZ.out.2.2.1 x hx))
      have H2 := hid (And.intro ho hFw)
      clear ho hF hb hn2 hFw
      go_wp2_with (refine wpList_text' rfl 43 9 (.tmp 18) rfl 5 Try.underlying43 Try.underlying5 Try.underlying9 g 0 (pre.length + 1) c' (pre ++ [m.toUInt8]) (by simp) rfl (ownsRow_cells H2.out.1) ?_)
      go_wp2_with fail
      go_ret
      exact ⟨by unfold nf; rw [← HZ.out.1, HU.out]; rfl, H2.out.2⟩

end Go.Proofs.Ytdobbmlaokolmaa
