/-
  Slices that are read; Load of the package disk.
-/
import Derived.Test.YtkkahkgjedgjnaaDisk3
namespace Go.Proofs.Ytkkahkgjedgjnaa
open Go.RowKit
set_option linter.unusedVariables false
set_option linter.unusedSimpArgs false

/-- A slice value '.slice a n cap' that is read: cell j of its first n elements (of sz cells each) holds 'V j'. -/
structure In (w : World) (sz : Nat) (a : Option Addr) (n cap : Nat) (V : Nat → Value) : Prop where
  le : n ≤ cap
  mx : cap ≤ maxLen
  sm : 0 < n → ∃ b off, a = some ⟨b, off, none⟩
  cell : ∀ b off, a = some ⟨b, off, none⟩ → ∀ j, j < n * sz → w.cell? ⟨b, off + j, none⟩ = some (V j)

theorem In.fr {w w' : World} {sz n cap : Nat} {a : Option Addr} {V : Nat → Value} {S : List Nat} (h : In w sz a n cap V) (hF : Fr S w w') (hS : ∀ b off, a = some ⟨b, off, none⟩ → b ∉ S) : In w' sz a n cap V :=
  ⟨h.le, h.mx, h.sm, fun b off e j hj => hF.cell (h.cell b off e j hj) (hS b off e)⟩

theorem In.fr0 {w w' : World} {sz n cap : Nat} {a : Option Addr} {V : Nat → Value} (h : In w sz a n cap V) (hF : Fr [] w w') : In w' sz a n cap V := h.fr hF (by simp)

theorem In.max {w : World} {sz n cap : Nat} {a : Option Addr} {V : Nat → Value} (h : In w sz a n cap V) : n ≤ 9223372036854775807 := by
  have h1 := h.mx; have h2 := h.le; unfold maxLen at h1; omega

def strV (ss : List ByteArray) (j : Nat) : Value := .string (sAt ss j)
def wAt (ws : List (Int × ByteArray)) (i : Nat) : Int × ByteArray := ws.getD i (0, ByteArray.empty)
def wrV (ws : List (Int × ByteArray)) (j : Nat) : Value := if j % 2 = 0 then .int .i64 (wAt ws (j / 2)).1 else .string (wAt ws (j / 2)).2

/-- Load's answer. -/
def loadE (ss : List ByteArray) : Int := if ss.length < 1 ∨ 1026 < ss.length then 40 else if ∃ i, i < ss.length ∧ (sAt ss i).size ≠ 128 then 41 else 0

def partSec (ss : List ByteArray) (k : Nat) : List ByteArray := (List.range ss.length).map fun i => if i < k then sAt ss i else zeroSec

theorem partSec_len (ss : List ByteArray) (k : Nat) : (partSec ss k).length = ss.length := by simp [partSec]
theorem partSec_at (ss : List ByteArray) (k i : Nat) (hi : i < ss.length) : sAt (partSec ss k) i = if i < k then sAt ss i else zeroSec := by
  have e : (partSec ss k)[i]? = some (if i < k then sAt ss i else zeroSec) := by simp [partSec, hi]
  show ((partSec ss k).getD i ByteArray.empty) = _
  rw [List.getD, e]; rfl
theorem partSec_zero (ss : List ByteArray) : partSec ss 0 = List.replicate ss.length zeroSec := by
  apply List.ext_getElem (by simp [partSec])
  intro i h1 h2; simp [partSec]
theorem partSec_full (ss : List ByteArray) : partSec ss ss.length = ss := by
  apply List.ext_getElem (by simp [partSec])
  intro i h1 h2
  simp [partSec] at h1 ⊢
  simp [h1, sAt, List.getD]
theorem partSec_set (ss : List ByteArray) (k : Nat) (hk : k < ss.length) : (partSec ss k).set k (sAt ss k) = partSec ss (k + 1) := by
  apply List.ext_getElem (by simp [partSec])
  intro i h1 h2
  rw [List.getElem_set]
  simp [partSec] at h1 ⊢
  by_cases hik : k = i
  · subst hik; simp
  · rw [if_neg hik]
    by_cases h3 : i < k
    · rw [if_pos h3, if_pos (by omega)]
    · rw [if_neg h3, if_neg (by omega)]

theorem zeroSec_size : zeroSec.size = 128 := by show (Array.replicate 128 (0 : UInt8)).size = 128; rw [Array.size_replicate]

set_option maxHeartbeats 1600000 in
set_option maxRecDepth 100000 in
theorem disk_load_ok (w : World) (a : Option Addr) (cap : Nat) (ss : List ByteArray) (h : In w 1 a ss.length cap (strV ss)) (h1 : 1 ≤ ss.length) (h2 : ss.length ≤ 1026) :
    Calls Try.prog 41 #[.slice a ss.length cap] w fun e w' => Fr [] w w' ∧ ((∃ i, i < ss.length ∧ (sAt ss i).size ≠ 128) ∧ e = .returned (.tuple #[.pointer none, .int .i64 41]) ∨
      (∀ i, i < ss.length → (sAt ss i).size = 128) ∧ ∃ D F, e = .returned (.tuple #[.pointer (some ⟨D, 0, none⟩), .int .i64 0]) ∧ Dk w' F D ⟨ss, [], 0, 0, false⟩ ∧ ∀ x, x ∈ F → w.heap.size ≤ x) := by
  obtain ⟨b, off, rfl⟩ := h.sm (by omega)
  have H := hid h
  clear h
  go_enter Try.func41, Try.ntmps41
  go_wp2_with fail
  refine (disk_new_ok w ss.length h1 h2).mono ?_
  rintro e w1 ⟨D, F, rfl, hF, hDk, hFs⟩
  have HFs := hid hFs
  clear hFs
  go_wp2_with fail
  go_loopw [19] (fun i wr => ∃ (k : Nat), k ≤ ss.length ∧ i = .int .i64 k ∧ (∀ j, j < k → (sAt ss j).size = 128) ∧ Dk wr F D ⟨partSec ss k, [], 0, 0, false⟩ ∧ Fr [] w wr) (fun i _ => ss.length - (intOf i).toNat)
  case atStart => exact ⟨0, Nat.zero_le _, rfl, fun j hj => absurd hj (Nat.not_lt_zero _), by rw [partSec_zero]; exact hDk, hF⟩
  case round =>
    clear hDk hF
    obtain ⟨k, hk, rfl, hall, hDk, hFw⟩ := hrel
    have HAll := hid hall
    clear hall
    by_cases hlt : k < ss.length
    · have hc := hFw.cell0 (H.out.cell b off rfl k (by omega))
      obtain ⟨S, dcap, rv, cur, hFeq, g1, g2, g3, g4⟩ := hDk
      simp only [partSec_len] at g1
      have hle := g3.le
      rw [partSec_len] at hle
      have c0 : wr.cell? ⟨D, 0, none⟩ = some (.slice (some ⟨S, 0, none⟩) ss.length dcap) := cell_blk g1 rfl
      by_cases hs : (sAt ss k).size = 128
      · have hs1 : (((sAt ss k).size : Int) == 128) = true := by rw [beq_iff_eq]; omega
        have hs2 : (((sAt ss k).size : Int) != 128) = false := by rw [bne_eq_false_iff_eq]; omega
        have hfit : k * 128 + 128 ≤ cur.size := by
          have := g3.sz
          have : (k + 1) * 128 ≤ dcap * 128 := Nat.mul_le_mul_right _ (by omega)
          omega
        have hold : sAt (partSec ss k) k = zeroSec := by rw [partSec_at _ _ _ hlt, if_neg (Nat.lt_irrefl k)]
        have hl := g3.laid (k := 128) (data := sAt ss k) (by rw [partSec_len]; exact hlt) hs (by rw [hold]; exact zeroSec_size) (Nat.le_refl _)
        rw [cutB_full _ _ hs (by rw [hold]; exact zeroSec_size), partSec_set ss k hlt] at hl
        have hne := ne_of_elem g2 g1 (by decide)
        have HG := hid (And.intro g1 (And.intro g2 (And.intro g4 (And.intro hl (And.intro hfit (And.intro hne hFeq))))))
        have HS := hid hs
        simp only [strV] at hc
        generalize hdat : sAt ss k = dat at hc HS hs1 hs2 HG
        clear g1 g2 g3 g4 hl hfit hne hs hold hFeq
        go_wp2_with (refine wpList_copy_str rfl (.tmp 33) (.tmp 34) 89 9 rfl 5 Try.underlying89 size_u8 S (k * 128) 128 128 128 dat cur 95 rfl rfl HG.out.2.1 (by rw [HS.out]; rfl) HG.out.2.2.2.2.1 ?_)
        go_roundw
        case rel =>
          obtain ⟨g1, g2, g4, hl, hfit, hne, hFeq⟩ := HG.out
          have hFF := HFs.out
          subst hFeq
          have hF3 : Fr [S] wr (wr.setRow S (laid cur (k * 128) dat 128)) := (Fr.refl _ wr).setRow (.inl (by simp)) _
          refine ⟨k + 1, by omega, by go_num, ?_, ⟨S, dcap, rv, laid cur (k * 128) dat 128, rfl, ?_, blk_setRow_at g2, hl, ?_⟩, hFw.setRow (.inr (hFF S (by simp))) _⟩
          · intro j hj
            by_cases hjk : j = k
            · subst hjk; rw [hdat]; exact HS.out
            · exact HAll.out j (by omega)
          · rw [partSec_len]; exact blk_setRow_ne g1 hne.symm
          · exact owns_keep g4 hF3 (by intro q hq; have := owns_ne g4 g2 (by decide); simp; rintro rfl; exact this hq)
        case measure => simp [intOf]; omega
      · have hs1 : (((sAt ss k).size : Int) == 128) = false := by rw [beq_eq_false_iff_ne]; omega
        have hs2 : (((sAt ss k).size : Int) != 128) = true := by rw [bne_iff_ne]; omega
        simp only [strV] at hc
        have HX := hid hs
        clear g1 g2 g3 g4 hs hFeq
        go_wp2_with fail
        go_ret2
        exact ⟨hFw, .inl ⟨⟨k, hlt, HX.out⟩, rfl⟩⟩
    · obtain rfl : k = ss.length := by omega
      have hfull := partSec_full ss
      rw [hfull] at hDk
      clear hfull
      have HX := hid (And.intro hDk hFw)
      clear hDk hFw
      go_wp2_with fail
      go_ret2
      exact ⟨HX.out.2, .inr ⟨HAll.out, D, F, rfl, HX.out.1, HFs.out⟩⟩

theorem disk_load_bad (w : World) (a : Option Addr) (n cap : Nat) (h : n < 1 ∨ 1026 < n) (hn : n ≤ 9223372036854775807) :
    Calls Try.prog 41 #[.slice a n cap] w fun e w' => e = .returned (.tuple #[.pointer none, .int .i64 40]) ∧ w = w' := by
  go_enter Try.func41, Try.ntmps41
  go_wp2_with fail
  refine (disk_new_bad w n (by omega)).mono ?_
  rintro e w1 ⟨rfl, rfl⟩
  go_wp2_with fail
  go_ret2
  exact ⟨rfl, rfl⟩

end Go.Proofs.Ytkkahkgjedgjnaa
