/-
  Merged, in build order: WA.
-/
import Derived.Test.YthghnlgojmedgaaGreatM15
import Derived.Test.YthghnlgojmedgaaGreatM16
import Derived.Test.YthghnlgojmedgaaGreatM21
import Derived.Test.YthghnlgojmedgaaGreatM7
/-
  wal: high, of, noughts, room.
-/
namespace Go.Proofs.YthghnlgojmedgaaGreat
open Go.RowKit
set_option linter.unusedVariables false
set_option linter.unusedSimpArgs false

theorem bits_or64 (a c : Nat) (ha : a % 256 = 0) (hc : c < 256) (h : a < 18446744073709551616) : bits .or .i64 (a : Int) (c : Int) = IntKind.i64.wrap ((a + c : Nat) : Int) := by
  have hb : (IntKind.i64).bits = 64 := rfl
  have ha' : a % 2 ^ 64 = a := Nat.mod_eq_of_lt (by omega)
  have hc' : c % 2 ^ 64 = c := Nat.mod_eq_of_lt (by omega)
  simp only [bits, hb, BitVec.ofInt_natCast, BitVec.toNat_or, BitVec.toNat_ofNat, ha', hc']
  have hq : a = 2 ^ 8 * (a / 2 ^ 8) := by omega
  rw [hq, ← Nat.two_pow_add_eq_or_of_lt (show c < 2 ^ 8 by omega) (a / 2 ^ 8)]
theorem bits_or64w (a c : Nat) (ha : a % 256 = 0) (hc : c < 256) (h : a < 18446744073709551616) : bits .or .i64 (IntKind.i64.wrap (a : Int)) (c : Int) = IntKind.i64.wrap ((a + c : Nat) : Int) := by
  rw [← bits_or64 a c ha hc h]
  have e : BitVec.ofInt 64 (IntKind.i64.wrap (a : Int)) = BitVec.ofInt 64 (a : Int) := by
    rw [IntKind.wrap_i64]
    apply BitVec.eq_of_toNat_eq
    simp only [BitVec.toNat_ofInt]
    omega
  unfold bits
  rw [show (IntKind.i64).bits = 64 from rfl, e]

theorem of_slot (N c : Nat) (hN : N < 72057594037927936) (hc : c < 256) : bits .or .i64 (wrap64 (wrap64 (N : Int) * 256)) (wrap64 (c : Int)) = IntKind.i64.wrap ((N * 256 + c : Nat) : Int) := by
  rw [IntWalk.wrap64_in _ (show (-9223372036854775808 : Int) ≤ N ∧ (N : Int) ≤ 9223372036854775807 by omega), IntWalk.wrap64_in (c : Int) (by omega), show (N : Int) * 256 = ((N * 256 : Nat) : Int) from (Int.natCast_mul N 256).symm, ← IntWalk.i64_left]
  exact bits_or64w _ _ (by omega) hc (by omega)

def ofI (s : ByteArray) : Int := IntKind.i64.wrap (ofL (bl s) : Nat)
theorem ofL_take (l : List UInt8) {k : Nat} (h : k < l.length) : ofL (l.take (k + 1)) = ofL (l.take k) * 256 + (l.getD k 0).toNat := by
  rw [List.take_succ_eq_append_getElem h, ofL_snoc, List.getD_eq_getElem?_getD, List.getElem?_eq_getElem h]; rfl
theorem ofL_take_lt (l : List UInt8) (k : Nat) : ofL (l.take k) < 256 ^ k := by
  have h := ofL_lt (l.take k)
  have h2 : (l.take k).length ≤ k := by rw [List.length_take]; omega
  exact Nat.lt_of_lt_of_le h (Nat.pow_le_pow_right (by decide) h2)

set_option maxRecDepth 100000 in
theorem wal_of (w : World) (s : ByteArray) (hs : s.size ≤ 8) :
    Calls Tryz.prog 64 #[.string s] w fun e w' => e = .returned (.int .i64 (ofI s)) ∧ w = w' := by
  go_enter Tryz.func64, Tryz.ntmps64
  go_wp2_with fail
  go_loop [3, 7] (fun nv iv => ∃ k : Nat, k ≤ s.size ∧ iv = .int .i64 k ∧ nv = .int .i64 (IntKind.i64.wrap (ofL ((bl s).take k) : Nat))) (fun _ iv => s.size - (intOf iv).toNat)
  case atStart => exact ⟨0, Nat.zero_le _, rfl, rfl⟩
  case round =>
    obtain ⟨k, hk, rfl, rfl⟩ := hrel
    by_cases hlt : k < s.size
    · go_wp2_with fail
      go_round
      case rel =>
        refine ⟨k + 1, by omega, by go_num, ?_⟩
        have h1 := ofL_take (bl s) (k := k) hlt
        have h2 : ((bl s).getD k 0).toNat = s[k].toNat := by
          rw [List.getD_eq_getElem?_getD, List.getElem?_eq_getElem (show k < (bl s).length from hlt)]; rfl
        have h3 := ofL_take_lt (bl s) k
        have h4 : 256 ^ k ≤ 256 ^ 7 := Nat.pow_le_pow_right (by decide) (by omega)
        have h5 : (256 : Nat) ^ 7 = 72057594037927936 := by decide
        rw [h1, h2, of_slot _ _ (by omega) (UInt8.toNat_lt _)]
      case measure => simp [intOf]; omega
    · obtain rfl : k = s.size := by omega
      go_wp2_with fail
      go_ret
      refine ⟨?_, rfl⟩
      have h1 : (bl s).take s.size = bl s := List.take_length
      rw [h1]; rfl

theorem wal_room (w : World) (F : List Nat) (D : Nat) (d : DS) (h : Dk w F D d) (hw : d.wf) :
    Calls Tryz.prog 23 #[.pointer (some ⟨D, 0, none⟩)] w fun e w' => e = .returned (.int .i64 (roomN d.sec.length : Nat)) ∧ w = w' := by
  have hn1 := hw.n1
  have hn2 := hw.n2
  have HD := hid (disk_size w F D d h)
  generalize d.sec.length = n at HD hn1 hn2 ⊢
  clear h hw
  unfold roomN
  by_cases h1 : n < 4
  · rw [if_pos (.inl h1)]
    go_enter Tryz.func23, Tryz.ntmps23
    go_wp2_with fail
    refine HD.out.mono ?_
    rintro e w1 ⟨rfl, rfl⟩
    go_wp2_with fail
    go_ret
    exact ⟨rfl, rfl⟩
  by_cases h2 : n % 2 = 1
  · rw [if_pos (.inr (.inl h2))]
    have e1 : ((n : Int) % 2 == 1) = true := by rw [beq_iff_eq]; omega
    have e2 : ¬ (n : Int) - 2 < 2 := by omega
    go_enter Tryz.func23, Tryz.ntmps23
    go_wp2_with fail
    refine HD.out.mono ?_
    rintro e w1 ⟨rfl, rfl⟩
    go_wp2_with fail
    go_ret
    exact ⟨rfl, rfl⟩
  rw [if_neg (by omega)]
  have e1 : ((n : Int) % 2 == 1) = false := by rw [beq_eq_false_iff_ne]; omega
  have e2 : ¬ (n : Int) - 2 < 2 := by omega
  have e3 : ¬ (1024 : Int) < n - 2 := by omega
  have e4 : ((n : Int) - 2) / 2 * 128 = (((n / 2 - 1) * 128 : Nat) : Int) := by omega
  have E4 := hid e4
  clear h1 h2 e4
  go_enter Tryz.func23, Tryz.ntmps23
  go_wp2_with fail
  refine HD.out.mono ?_
  rintro e w1 ⟨rfl, rfl⟩
  go_wp2_with fail
  go_ret
  exact ⟨ret_int' (by exact E4.out), rfl⟩

theorem made0 (N q : Nat) (hq : q < N) : (madeCells #[Value.int .u8 0] N)[q]? = some (.int .u8 0) := by
  unfold madeCells
  simp only [Array.getElem?_map]
  rw [Array.getElem?_range, if_pos hq]
  simp [Value.cells, Nat.mod_one]
/-- A row of bytes that was made. -/
theorem made_blk {w : World} {g n : Nat} {e : TypeId} (h : w.ownsRow 0 e 1 (.slice (some ⟨g, 0, none⟩) n n) n (madeCells #[Value.int .u8 0] n).toList) :
    ∃ cur, w.heap[g]? = some (.cells cur e (0, 0)) ∧ cur.size = n ∧ ∀ j, j < n → cur[j]? = some (.int .u8 0) := by
  obtain ⟨hl, hr⟩ := h
  rcases hr with ⟨hr, _⟩ | ⟨g', cap, cur, hv, _, hh, hle, hmx, hsz, htk⟩
  · simp at hr
  simp only [Value.slice.injEq, Option.some.injEq, Addr.mk.injEq, and_true, true_and] at hv
  obtain ⟨rfl, rfl⟩ := hv
  refine ⟨cur, hh, by omega, fun j hj => ?_⟩
  have h1 := made0 n j (by omega)
  have h2 : cur.toList[j]? = ((madeCells #[Value.int .u8 0] n).toList)[j]? := by
    rw [← htk, List.getElem?_take_of_lt (by omega)]
  rw [Array.getElem?_toList, Array.getElem?_toList] at h2
  rw [h2, h1]

def hB (n k j : Nat) : UInt8 := (hiL n k).getD j 0
theorem hB_nat {n k j : Nat} (h : j < k) : (hB n k j).toNat = n / 256 ^ (k - 1 - j) % 256 := by
  unfold hB; rw [List.getD_eq_getElem?_getD, hiL_get _ _ _ h]; simp
theorem pow256 (i : Nat) : 256 ^ i = 2 ^ (8 * i) := by rw [Nat.pow_mul]
theorem bytes_of {cur : Array Value} {l : List UInt8} (hs : cur.size = l.length) (h : ∀ j, j < l.length → cur[j]? = some (.int .u8 (l.getD j 0).toNat)) : cur.toList = Lib.byteCells l := by
  apply List.ext_getElem?
  intro j
  by_cases hj : j < l.length
  · rw [Array.getElem?_toList, h j hj]
    simp [Lib.byteCells, List.getD, hj]
  · rw [List.getElem?_eq_none (by simp [hs]; omega), List.getElem?_eq_none (by simp [Lib.byteCells]; omega)]

structure HiInv (w wr : World) (n k i : Nat) (cur : Array Value) : Prop where
  hb : wr.heap[w.heap.size]? = some (.cells cur 5 (0, 0))
  sz : cur.size = k
  at_ : ∀ j, k - i ≤ j → j < k → cur[j]? = some (.int .u8 (hB n k j).toNat)
  fr : Fr [] w wr

set_option maxRecDepth 100000 in
theorem wal_high (w : World) (n k : Nat) (hn : n ≤ 9223372036854775807) (hk : k ≤ 8) :
    Calls Tryz.prog 45 #[.int .i64 n, .int .i64 k] w fun e w' => e = .returned (.string ⟨(hiL n k).toArray⟩) ∧ Fr [] w w' := by
  obtain ⟨i0, hi, hz0, hz1, hz2⟩ := info_parts info_u8
  have HI := hid (And.intro hi (And.intro hz0 (And.intro hz1 hz2)))
  clear hi hz0 hz1 hz2
  go_enter Tryz.func45, Tryz.ntmps45
  go_wp2_with (at_make; refine wpList_make_full _ rfl (.tmp 7) (.tmp 7) 71 rfl 0 5 i0 (.int .u8 0) 1 Tryz.underlying71 HI.out.1 HI.out.2.1 HI.out.2.2.1 .i64 .i64 k k k rfl rfl rfl rfl ?qa ?qb ?qc ?_)
  case qa => rw [HI.out.2.2.2]; omega
  case qb => unfold maxLen; omega
  case qc => omega
  intro w2 hown hgrow
  have hF2 : Fr [] w w2 := (Fr.of_grown hgrow).mono (by simp)
  obtain ⟨cur0, hb0, hs0, hz0⟩ := made_blk hown
  have HZ := hid (And.intro hF2 (And.intro hb0 hs0))
  clear hF2 hown hgrow hb0 hs0 hz0
  go_wp2_with fail
  go_loopw [11] (fun iv wr => ∃ (i : Nat) (cur : Array Value), i ≤ k ∧ iv = .int .i64 i ∧ HiInv w wr n k i cur) (fun iv _ => k - (intOf iv).toNat)
  case atStart => exact ⟨0, cur0, Nat.zero_le _, rfl, HZ.out.2.1, HZ.out.2.2, fun j h1 h2 => by omega, HZ.out.1⟩
  case round =>
    obtain ⟨i, cur, hle, rfl, h⟩ := hrel
    by_cases hlt : i < k
    · obtain ⟨v, hv⟩ : ∃ v, cur[k - 1 - i]? = some v := ⟨_, Array.getElem?_eq_getElem (by rw [h.sz]; omega)⟩
      have c1 := cell_blk h.hb hv
      have f1 := free_blk (i := k - 1 - i) h.hb
      have e1 : ((k - 1 - i : Nat) : Int) = (k : Int) - 1 - i := by omega
      have H := hid h
      clear h hv HZ
      go_wp2_with fail
      have hbit : ((n : Int) / 2 ^ (8 * i) % 256) = ((hB n k (k - 1 - i)).toNat : Int) := by
        rw [hB_nat (show k - 1 - i < k by omega), show k - 1 - (k - 1 - i) = i by omega, pow256]
        push_cast; rfl
      have HB := hid hbit
      clear hbit
      go_roundw
      case rel =>
        have h := H.out
        rw [HB.out]
        refine ⟨i + 1, _, by omega, by go_num, blk_setCell_at _ h.hb, by simpa using h.sz, fun j h1 h2 => ?_, h.fr.setCell (.inr (Nat.le_refl _)) _⟩
        rw [Array.getElem?_setIfInBounds]
        by_cases hj : k - 1 - i = j
        · subst hj; rw [if_pos rfl, if_pos (by rw [h.sz]; omega)]
        · rw [if_neg hj]; exact h.at_ j (by omega) h2
      case measure => simp [intOf]; omega
    · obtain rfl : i = k := by omega
      have hcur := bytes_of (cur := cur) (l := hiL n i) (by rw [h.sz, hiL_len]) (fun j hj => h.at_ j (by omega) (by rw [hiL_len] at hj; exact hj))
      have hcells : ∀ j v, (Lib.byteCells (hiL n i))[j]? = some v → wr.cell? ⟨w.heap.size, 0 + j, none⟩ = some v := fun j v hj => by
        rw [Nat.zero_add]
        refine cell_blk h.hb ?_
        rw [← hcur, Array.getElem?_toList] at hj
        exact hj
      have HC := hid hcells
      have HF := hid h.fr
      clear h hcur hcells HZ
      go_wp2_with (refine wpList_text' rfl 71 9 (.tmp 26) rfl 5 Tryz.underlying71 Tryz.underlying5 Tryz.underlying9 w.heap.size 0 i i (hiL n i) (hiL_len _ _) rfl HC.out ?_)
      go_wp2_with fail
      go_ret
      exact ⟨rfl, HF.out⟩

def zeroL (n : Nat) : List UInt8 := List.replicate n 0
theorem repeat_zero : ∀ n, Lib.repeatL [0] n = zeroL n := fun n => by
  have h := Lib.repeatL_replicate 0 1 n
  rw [Nat.mul_one] at h
  exact h
theorem wal_noughts (w : World) (n : Nat) (hn : n ≤ 128) :
    Calls Tryz.prog 46 #[.int .i64 n] w fun e w' => e = .returned (.string ⟨(zeroL n).toArray⟩) ∧ Fr [] w w' := by
  have HR := hid (sh_strings_Repeat ⟨#[0]⟩ n w (by omega) (by show 1 * n ≤ _; omega))
  go_enter Tryz.func46, Tryz.ntmps46
  go_wp2_with fail
  refine HR.out.mono ?_
  rintro e w1 ⟨rfl, hb⟩
  have HF := hid (Fr.of_below hb [])
  have e1 : Lib.repeatL (⟨#[0]⟩ : ByteArray).data.toList n = zeroL n := repeat_zero n
  rw [e1]
  clear hb e1
  go_wp2_with fail
  go_ret
  exact ⟨rfl, HF.out⟩

end Go.Proofs.YthghnlgojmedgaaGreat
