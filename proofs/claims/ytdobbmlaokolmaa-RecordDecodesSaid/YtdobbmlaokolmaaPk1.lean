/-
  Texts, bits as bytes: pack.Text, pack.Bits.
-/
import Derived.Test.YtdobbmlaokolmaaPk0
namespace Go.Proofs.Ytdobbmlaokolmaa
open Go.RowKit
set_option linter.unusedVariables false
set_option linter.unusedSimpArgs false

/-- A text's form. -/
def tf (s : ByteArray) : ByteArray := nf s.size ++ s

theorem pack_text (w : World) (s : ByteArray) (hs : s.size ≤ 140737488355328) :
    Calls Try.prog 46 #[.string s] w fun e w' => e = .returned (.string (tf s)) ∧ Fr [] w w' := by
  have hl : (nf s.size).size ≤ 10 := by
    have := Lib.uvarint_length64 (x := s.size) (by omega)
    show (Lib.uvarint s.size).toArray.size ≤ 10
    simpa using this
  have hl2 : ¬ 9223372036854775807 < (nf s.size).size + s.size := by omega
  have HN := hid (fun w => pack_num w s.size (by omega))
  go_enter Try.func46, Try.ntmps46
  go_wp2_with fail
  refine (HN.out _).mono ?_
  rintro e w1 ⟨rfl, hF⟩
  go_wp2_with fail
  go_ret
  exact ⟨rfl, hF⟩

/-- The byte of 64 bits at a place, the highest first. -/
def bitB (n k : Nat) : UInt8 := (n / 2 ^ (56 - 8 * k) % 256).toUInt8
/-- The form of 64 bits. -/
def bf (n : Nat) : ByteArray := ⟨#[bitB n 0, bitB n 1, bitB n 2, bitB n 3, bitB n 4, bitB n 5, bitB n 6, bitB n 7]⟩

set_option maxHeartbeats 1600000 in
set_option maxRecDepth 100000 in
theorem pack_bits (w : World) (n : Nat) (hn : n < 18446744073709551616) :
    Calls Try.prog 47 #[.int .u64 n] w fun e w' => e = .returned (.string (bf n)) ∧ Fr [] w w' := by
  go_enter Try.func47, Try.ntmps47
  go_wp2_with fail
  go_loopw [5] (fun iv wr => ∃ (k : Nat) (cur : Array Value) (T : TypeId), k ≤ 8 ∧ iv = .int .i64 k ∧ wr.heap[w.heap.size]? = some (.cells cur T (0, 0)) ∧ cur.size = 8 ∧ (∀ j, j < k → cur[j]? = some (.int .u8 (bitB n j).toNat)) ∧ (∀ j, j < 8 → ∃ v, cur[j]? = some v) ∧ Fr [] w wr) (fun iv _ => 8 - (intOf iv).toNat)
  case atStart => exact ⟨0, _, _, by omega, rfl, blk_alloc_at _ _ _ rfl, rfl, fun j hj => absurd hj (Nat.not_lt_zero _), fun j hj => ⟨_, Array.getElem?_eq_getElem (by simpa using hj)⟩, (Fr.refl _ _).alloc _⟩
  case round =>
    obtain ⟨k, cur, T, hk, rfl, hb, hs, hc, hv, hF⟩ := hrel
    by_cases hlt : k < 8
    · obtain ⟨v, hv1⟩ := hv k hlt
      have c1 := cell_blk hb hv1
      have f1 := free_blk (i := k) hb
      have hlb := lt_of_block hb
      have HZ := hid (And.intro hb (And.intro hs (And.intro hc (And.intro hv hF))))
      clear hb hs hc hv hF hv1
      have hbit : ((n / 2 ^ (56 - 8 * k) % 256 : Nat) : Int) = ((bitB n k).toNat : Int) := by
        unfold bitB; rw [Lib.toUInt8_toNat (by omega)]
      have hbit2 : ((n : Int) / 2 ^ (56 - 8 * k) % 256) = ((bitB n k).toNat : Int) := by rw [← hbit]; push_cast; rfl
      have HB := hid hbit2
      clear hbit hbit2
      go_wp2_with fail
      go_roundw
      case rel =>
        obtain ⟨hb, hs, hc, hv, hF⟩ := HZ.out
        rw [HB.out]
        refine ⟨k + 1, _, T, by omega, by go_num, blk_setCell_at _ hb, by simpa using hs, fun j hj => ?_, fun j hj => ?_, hF.setCell (.inr (Nat.le_refl _)) _⟩
        · rw [Array.getElem?_setIfInBounds]
          by_cases hjk : k = j
          · subst hjk; rw [if_pos rfl, if_pos (by omega)]
          · rw [if_neg hjk]; exact hc j (by omega)
        · exact ⟨_, Array.getElem?_eq_getElem (by simpa [hs] using hj)⟩
      case measure => simp [intOf]; omega
    · obtain rfl : k = 8 := by omega
      have hcells : ∀ j v, (Lib.byteCells [bitB n 0, bitB n 1, bitB n 2, bitB n 3, bitB n 4, bitB n 5, bitB n 6, bitB n 7])[j]? = some v → wr.cell? ⟨w.heap.size, 0 + j, none⟩ = some v := fun j v hj => by
        rw [Nat.zero_add]
        refine cell_blk hb ?_
        have hj8 : j < 8 := (List.getElem?_eq_some_iff.1 hj).1
        rw [hc j hj8, ← hj]
        match j, hj8 with
        | 0, _ => rfl
        | 1, _ => rfl
        | 2, _ => rfl
        | 3, _ => rfl
        | 4, _ => rfl
        | 5, _ => rfl
        | 6, _ => rfl
        | 7, _ => rfl
      have HC := hid hcells
      have HF := hid hF
      clear hcells hF hc hv hs
      go_wp2_with (refine wpList_text' rfl 43 9 (.tmp 17) rfl 5 Try.underlying43 Try.underlying5 Try.underlying9 w.heap.size 0 8 8 [bitB n 0, bitB n 1, bitB n 2, bitB n 3, bitB n 4, bitB n 5, bitB n 6, bitB n 7] rfl rfl HC.out ?_)
      go_wp2_with fail
      go_ret
      exact ⟨rfl, HF.out⟩

end Go.Proofs.Ytdobbmlaokolmaa
