/-
  Same and SameRaw of the document's disk.
-/
import Derived.Test.YtkkahkgjedgjnaaDisk6
namespace Go.Proofs.Ytkkahkgjedgjnaa
open Go.RowKit
set_option linter.unusedVariables false
set_option linter.unusedSimpArgs false

theorem ext_sAt {ss tt : List ByteArray} (hl : ss.length = tt.length) (h : ∀ j, j < ss.length → sAt ss j = sAt tt j) : ss = tt := by
  apply List.ext_getElem hl
  intro i h1 h2
  have := h i h1
  simpa [sAt, List.getD, h1, h2] using this

theorem ba_ne {a b : ByteArray} (h : a ≠ b) : (a.toList == b.toList) = false := by
  rw [beq_eq_false_iff_ne]
  intro e
  rw [ByteArray.toList_eq, ByteArray.toList_eq] at e
  apply h
  cases a; cases b
  simp only [ByteArray.mk.injEq]
  exact Array.toList_inj.1 e

set_option maxHeartbeats 800000 in
set_option maxRecDepth 100000 in
theorem same_len (w : World) (a b : Option Addr) (n m ca cb : Nat) (h : n ≠ m) (hn : n ≤ 9223372036854775807) (hm : m ≤ 9223372036854775807) :
    Calls Try.prog 37 #[.slice a n ca, .slice b m cb] w fun e w' => e = .returned (.bool false) ∧ Fr [] w w' := by
  have h1 : ((n : Int) == m) = false := by rw [beq_eq_false_iff_ne]; omega
  have h2 : ((n : Int) != m) = true := by rw [bne_iff_ne]; omega
  go_enter Try.func37, Try.ntmps37
  go_wp2
  go_ret
  exact ⟨rfl, Fr.refl _ _⟩

set_option maxHeartbeats 800000 in
set_option maxRecDepth 100000 in
theorem same_any (w : World) (a b : Option Addr) (ca cb : Nat) (ss tt : List ByteArray) (ha : In w 1 a ss.length ca (strV ss)) (hb : In w 1 b tt.length cb (strV tt)) :
    Calls Try.prog 37 #[.slice a ss.length ca, .slice b tt.length cb] w fun e w' => e = .returned (.bool (decide (ss = tt))) ∧ Fr [] w w' := by
  have hma := ha.max
  have hmb := hb.max
  by_cases hl : ss.length = tt.length
  · have HA := hid ha
    have HB := hid hb
    have hl1 : ((ss.length : Int) == tt.length) = true := by rw [beq_iff_eq]; omega
    have hl2 : ((ss.length : Int) != tt.length) = false := by rw [bne_eq_false_iff_eq]; omega
    have HL := hid hl
    clear ha hb hl
    go_enter Try.func37, Try.ntmps37
    go_wp2
    go_loopw [5] (fun i wr => ∃ k : Nat, k ≤ ss.length ∧ i = .int .i64 k ∧ (∀ j, j < k → sAt ss j = sAt tt j) ∧ Fr [] w wr) (fun i _ => ss.length - (intOf i).toNat)
    case atStart => exact ⟨0, Nat.zero_le _, rfl, fun j hj => absurd hj (Nat.not_lt_zero _), Fr.refl _ _⟩
    case round =>
      obtain ⟨k, hk, rfl, hall, hFw⟩ := hrel
      have HAll := hid hall
      clear hall
      by_cases hlt : k < ss.length
      · have hlt2 : k < tt.length := by have := HL.out; omega
        obtain ⟨ba, oa, rfl⟩ := HA.out.sm (by omega)
        obtain ⟨bb, ob, rfl⟩ := HB.out.sm (by omega)
        have c1 := hFw.cell0 (HA.out.cell ba oa rfl k (by omega))
        have c2 := hFw.cell0 (HB.out.cell bb ob rfl k (by omega))
        simp only [strV] at c1 c2
        by_cases heq : sAt ss k = sAt tt k
        · rw [← heq] at c2
          have HE := hid heq
          clear heq
          go_wp2
          go_quiet (fail)
          go_wp2
          go_roundw
          case rel => exact ⟨k + 1, by omega, by go_num, fun j hj => by by_cases hjk : j = k; (subst hjk; exact HE.out); exact HAll.out j (by omega), hFw.drewN _⟩
          case measure => simp [intOf]; omega
        · have hfin : decide (ss = tt) = false := by
            rw [decide_eq_false_iff_not]; rintro rfl; exact heq rfl
          have h3 := ba_ne heq
          have HE := hid hfin
          clear heq hfin
          go_wp2
          go_quiet (fail)
          go_wp2
          go_ret
          rw [HE.out]
          exact ⟨rfl, hFw.drewN _⟩
      · obtain rfl : k = ss.length := by omega
        have hfin : decide (ss = tt) = true := by rw [decide_eq_true_eq]; exact ext_sAt HL.out HAll.out
        have HE := hid hfin
        clear hfin
        go_wp2
        go_ret
        rw [HE.out]
        exact ⟨rfl, hFw⟩
  · have hfin : decide (ss = tt) = false := by
      rw [decide_eq_false_iff_not]; rintro rfl; exact hl rfl
    rw [hfin]
    exact same_len w a b _ _ ca cb hl hma hmb

@[go_sem] theorem eq_write (x y : Int) (s t : ByteArray) (w : World) : (Op.equalIn 10000 56 (.agg #[.int .i64 x, .string s]) (.agg #[.int .i64 y, .string t])).run Try.prog w = .ok (x == y && s.toList == t.toList) w := by
  have hS : Try.prog.underlying 56 = some (.struct (Try.prog.fieldsOf 56)) := by kernel_rfl
  have hp : Try.prog.stoodInHeld 56 = false := by kernel_rfl
  rw [show (10000 : Nat) = 9999 + 1 from rfl, run_equalIn_agg w 9999 56 _ _ hS hp]
  simp only [Program.fieldsOf, Try.underlying56]
  go_simp
  by_cases h1 : x = y <;> by_cases h2 : s.toList = t.toList <;> simp [h1, h2]

@[go_sem] theorem eqg_write (op : BinOp) (x y : Operand) (xs ys : Array Value) (w : World) : (eqGuard op 56 x y (.agg xs) (.agg ys)).run Try.prog w = .ok () w := run_eqGuard_agg w op 56 x y xs ys (by kernel_rfl)

theorem ext_wAt {ss tt : List (Int × ByteArray)} (hl : ss.length = tt.length) (h : ∀ j, j < ss.length → wAt ss j = wAt tt j) : ss = tt := by
  apply List.ext_getElem hl
  intro i h1 h2
  have := h i h1
  simpa [wAt, List.getD, h1, h2] using this
theorem wrV_0 (l : List (Int × ByteArray)) (k : Nat) : wrV l (k * 2) = .int .i64 (wAt l k).1 := by unfold wrV; rw [if_pos (by omega), show k * 2 / 2 = k by omega]
theorem wrV_1 (l : List (Int × ByteArray)) (k : Nat) : wrV l (k * 2 + 1) = .string (wAt l k).2 := by unfold wrV; rw [if_neg (by omega), show (k * 2 + 1) / 2 = k by omega]
theorem wr_ne {a b : Int × ByteArray} (h : a ≠ b) : ((a.1 == b.1) && (a.2.toList == b.2.toList)) = false := by
  by_cases h1 : a.1 = b.1
  · rw [ba_ne (fun h2 => h (Prod.ext h1 h2))]; simp
  · rw [beq_eq_false_iff_ne.2 h1]; simp

set_option maxHeartbeats 800000 in
set_option maxRecDepth 100000 in
theorem sameRaw_len (w : World) (a b : Option Addr) (n m ca cb : Nat) (h : n ≠ m) (hn : n ≤ 9223372036854775807) (hm : m ≤ 9223372036854775807) :
    Calls Try.prog 38 #[.slice a n ca, .slice b m cb] w fun e w' => e = .returned (.bool false) ∧ Fr [] w w' := by
  have h1 : ((n : Int) == m) = false := by rw [beq_eq_false_iff_ne]; omega
  have h2 : ((n : Int) != m) = true := by rw [bne_iff_ne]; omega
  go_enter Try.func38, Try.ntmps38
  go_wp2
  go_ret
  exact ⟨rfl, Fr.refl _ _⟩

set_option maxHeartbeats 800000 in
set_option maxRecDepth 100000 in
theorem sameRaw_any (w : World) (a b : Option Addr) (ca cb : Nat) (ss tt : List (Int × ByteArray)) (ha : In w 2 a ss.length ca (wrV ss)) (hb : In w 2 b tt.length cb (wrV tt)) :
    Calls Try.prog 38 #[.slice a ss.length ca, .slice b tt.length cb] w fun e w' => e = .returned (.bool (decide (ss = tt))) ∧ Fr [] w w' := by
  have hma := ha.max
  have hmb := hb.max
  by_cases hl : ss.length = tt.length
  · have HA := hid ha
    have HB := hid hb
    have hl1 : ((ss.length : Int) == tt.length) = true := by rw [beq_iff_eq]; omega
    have hl2 : ((ss.length : Int) != tt.length) = false := by rw [bne_eq_false_iff_eq]; omega
    have HL := hid hl
    clear ha hb hl
    go_enter Try.func38, Try.ntmps38
    go_wp2
    go_loopw [5] (fun i wr => ∃ k : Nat, k ≤ ss.length ∧ i = .int .i64 k ∧ (∀ j, j < k → wAt ss j = wAt tt j) ∧ Fr [] w wr) (fun i _ => ss.length - (intOf i).toNat)
    case atStart => exact ⟨0, Nat.zero_le _, rfl, fun j hj => absurd hj (Nat.not_lt_zero _), Fr.refl _ _⟩
    case round =>
      obtain ⟨k, hk, rfl, hall, hFw⟩ := hrel
      have HAll := hid hall
      clear hall
      by_cases hlt : k < ss.length
      · have hlt2 : k < tt.length := by have := HL.out; omega
        obtain ⟨ba, oa, rfl⟩ := HA.out.sm (by omega)
        obtain ⟨bb, ob, rfl⟩ := HB.out.sm (by omega)
        have c1 := hFw.cell0 (HA.out.cell ba oa rfl (k * 2) (by omega))
        have c2 := hFw.cell0 (HB.out.cell bb ob rfl (k * 2) (by omega))
        have c3 := hFw.cell0 (HA.out.cell ba oa rfl (k * 2 + 1) (by omega))
        have c4 := hFw.cell0 (HB.out.cell bb ob rfl (k * 2 + 1) (by omega))
        rw [wrV_0] at c1 c2
        rw [wrV_1, ← Nat.add_assoc] at c3 c4
        by_cases heq : wAt ss k = wAt tt k
        · rw [← heq] at c2 c4
          have HE := hid heq
          clear heq
          go_wp2
          go_quiet (fail)
          go_wp2
          go_roundw
          case rel => exact ⟨k + 1, by omega, by go_num, fun j hj => by by_cases hjk : j = k; (subst hjk; exact HE.out); exact HAll.out j (by omega), hFw.drewN _⟩
          case measure => simp [intOf]; omega
        · have hfin : decide (ss = tt) = false := by
            rw [decide_eq_false_iff_not]; rintro rfl; exact heq rfl
          have HE := hid hfin
          by_cases hf : (wAt ss k).1 = (wAt tt k).1
          · have hg : (wAt ss k).2 ≠ (wAt tt k).2 := fun h2 => heq (Prod.ext hf h2)
            have h3 := ba_ne hg
            rw [beq_eq_false_iff_ne] at h3
            have h4 : ¬ ((wAt ss k).2.toList = (wAt tt k).2.toList) := h3
            rw [← hf] at c2
            clear heq hfin hf hg h3
            go_wp2
            go_quiet (fail)
            go_wp2
            go_ret
            rw [HE.out]
            exact ⟨rfl, hFw.drewN _⟩
          · clear heq hfin
            go_wp2
            go_quiet (fail)
            go_wp2
            go_ret
            rw [HE.out]
            exact ⟨rfl, hFw.drewN _⟩
      · obtain rfl : k = ss.length := by omega
        have hfin : decide (ss = tt) = true := by rw [decide_eq_true_eq]; exact ext_wAt HL.out HAll.out
        have HE := hid hfin
        clear hfin
        go_wp2
        go_ret
        rw [HE.out]
        exact ⟨rfl, hFw⟩
  · have hfin : decide (ss = tt) = false := by
      rw [decide_eq_false_iff_not]; rintro rfl; exact hl rfl
    rw [hfin]
    exact sameRaw_len w a b _ _ ca cb hl hma hmb

end Go.Proofs.Ytkkahkgjedgjnaa
