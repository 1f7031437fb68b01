/-
  The plain law of DiskPlays: a disk that is cut, and one that is not, side by side.
-/
import Derived.Test.YtkkahkgjedgjnaaCut2
namespace Go.Proofs.Ytkkahkgjedgjnaa
open Go.RowKit
set_option linter.unusedVariables false
set_option linter.unusedSimpArgs false

structure PlayB (ss : List ByteArray) (b : DS) : Prop where
  live : b.dead = false
  un : b.armed = 0
  sec : b.sec = outK ss b.raw b.raw.length
  rg : ∀ k, k < b.raw.length → 0 ≤ (wAt b.raw k).1 ∧ (wAt b.raw k).1 < ss.length
  sz : ∀ k, k < b.raw.length → (wAt b.raw k).2.size = 128
def PlayA (ss : List ByteArray) (n m : Int) (a b : DS) : Prop :=
  ((b.raw.length : Int) < n ∧ a = ⟨b.sec, b.raw, n - b.raw.length, m, false⟩) ∨ (n ≤ b.raw.length ∧ a.dead = true ∧ a.sec = cutV ss b.raw (n - 1) m ∧ (a.raw.length : Int) = n - 1)

theorem PlayB.len {ss : List ByteArray} {b : DS} (h : PlayB ss b) : b.sec.length = ss.length := by rw [h.sec]; exact outK_len _ _ _

theorem wAt_snoc (l : List (Int × ByteArray)) (x : Int × ByteArray) (k : Nat) : wAt (l ++ [x]) k = if k < l.length then wAt l k else if k = l.length then x else wAt l k := by
  unfold wAt
  simp only [List.getD]
  by_cases h : k < l.length
  · rw [if_pos h, List.getElem?_append_left h]
  · rw [if_neg h, List.getElem?_append_right (by omega)]
    by_cases h2 : k = l.length
    · rw [if_pos h2, h2]; simp
    · rw [if_neg h2, List.getElem?_eq_none (by simp; omega), List.getElem?_eq_none (by omega)]

theorem outK_snoc (ss : List ByteArray) (l : List (Int × ByteArray)) (x : Int × ByteArray) (k : Nat) (hk : k ≤ l.length) : outK ss (l ++ [x]) k = outK ss l k := by
  unfold outK; rw [List.take_append_of_le_length hk]

theorem cutV_snoc (ss : List ByteArray) (l : List (Int × ByteArray)) (x : Int × ByteArray) (n m : Int) (h0 : 0 ≤ n) (hk : n < l.length) : cutV ss (l ++ [x]) n m = cutV ss l n m := by
  have h1 : n.toNat < l.length := by omega
  unfold cutV
  rw [outK_snoc _ _ _ _ (by omega), wAt_snoc, if_pos h1]

theorem cutB_nought (new old : ByteArray) (ho : old.size = 128) : cutB new old 0 = old := by
  have h2 : old.data.toList.length = 128 := ho
  apply ByteArray.ext
  apply Array.toList_inj.1
  unfold cutB
  simp [ByteArray.data_append, ByteArray.data_extract]

theorem set_sAt (l : List ByteArray) (k : Nat) (hk : k < l.length) : l.set k (sAt l k) = l := by
  apply List.ext_getElem (by simp)
  intro i h1 h2
  rw [List.getElem_set]
  split
  · subst_vars; simp [sAt, List.getD, hk]
  · rfl

theorem play_sizes {ss : List ByteArray} (hok : okSecs ss) {b : DS} (h : PlayB ss b) : ∀ i, i < ss.length → (sAt b.sec i).size = 128 := by
  rw [h.sec]; exact outK_size hok.2.2 h.sz _ (Nat.le_refl _)

theorem play_step {ss : List ByteArray} (hok : okSecs ss) {n m : Int} (hn : 1 ≤ n) (hm0 : 0 ≤ m) (hm1 : m ≤ 128) {a b : DS} (hB : PlayB ss b) (hA : PlayA ss n m a b) (i : Int) (s : ByteArray) :
    PlayB ss (b.write i s).2 ∧ PlayA ss n m (a.write i s).2 (b.write i s).2 ∧ ((a.write i s).1 = (b.write i s).1 ∨ (a.write i s).1 = 2) ∧ (b.write i s).2.raw.length ≤ b.raw.length + 1 := by
  have hl := hB.len
  by_cases hr : i < 0 ∨ (b.sec.length : Int) ≤ i
  · have hb : b.write i s = (40, b) := by unfold DS.write; rw [if_neg (by rw [hB.live]; simp), if_pos hr]
    rw [hb]
    rcases hA with ⟨h1, rfl⟩ | ⟨h1, h2, h3, h4⟩
    · have ha : (⟨b.sec, b.raw, n - b.raw.length, m, false⟩ : DS).write i s = (40, ⟨b.sec, b.raw, n - b.raw.length, m, false⟩) := by unfold DS.write; rw [if_neg (by simp), if_pos hr]
      rw [ha]
      exact ⟨hB, .inl ⟨h1, rfl⟩, .inl rfl, Nat.le_succ _⟩
    · have ha : a.write i s = (2, a) := by unfold DS.write; rw [if_pos h2]
      rw [ha]
      exact ⟨hB, .inr ⟨h1, h2, h3, h4⟩, .inr rfl, Nat.le_succ _⟩
  by_cases hs : s.size ≠ 128
  · have hb : b.write i s = (41, b) := by unfold DS.write; rw [if_neg (by rw [hB.live]; simp), if_neg hr, if_pos hs]
    rw [hb]
    rcases hA with ⟨h1, rfl⟩ | ⟨h1, h2, h3, h4⟩
    · have ha : (⟨b.sec, b.raw, n - b.raw.length, m, false⟩ : DS).write i s = (41, ⟨b.sec, b.raw, n - b.raw.length, m, false⟩) := by unfold DS.write; rw [if_neg (by simp), if_neg hr, if_pos hs]
      rw [ha]
      exact ⟨hB, .inl ⟨h1, rfl⟩, .inl rfl, Nat.le_succ _⟩
    · have ha : a.write i s = (2, a) := by unfold DS.write; rw [if_pos h2]
      rw [ha]
      exact ⟨hB, .inr ⟨h1, h2, h3, h4⟩, .inr rfl, Nat.le_succ _⟩
  have hs' : s.size = 128 := by omega
  have hir : i.toNat < ss.length := by omega
  have hb : b.write i s = (0, ⟨b.sec.set i.toNat s, b.raw ++ [(i, s)], 0, b.bytes, b.dead⟩) := by
    unfold DS.write
    rw [if_neg (by rw [hB.live]; simp), if_neg hr, if_neg hs, if_neg (by rw [hB.un]; omega), hB.un]
    rfl
  have hout : outK ss (b.raw ++ [(i, s)]) (b.raw.length + 1) = b.sec.set i.toNat s := by
    rw [outK_succ _ _ _ (by simp), outK_snoc _ _ _ _ (Nat.le_refl _), wAt_snoc, if_neg (Nat.lt_irrefl _), if_pos rfl, ← hB.sec]
  have hB' : PlayB ss ⟨b.sec.set i.toNat s, b.raw ++ [(i, s)], 0, b.bytes, b.dead⟩ := by
    refine ⟨hB.live, rfl, ?_, fun k hk => ?_, fun k hk => ?_⟩
    · show b.sec.set i.toNat s = outK ss (b.raw ++ [(i, s)]) (b.raw ++ [(i, s)]).length
      rw [List.length_append, List.length_singleton, hout]
    · simp only [List.length_append, List.length_singleton] at hk
      show 0 ≤ (wAt (b.raw ++ [(i, s)]) k).1 ∧ _
      rw [wAt_snoc]
      by_cases h : k < b.raw.length
      · rw [if_pos h]; exact hB.rg k h
      · rw [if_neg h, if_pos (by omega)]; simp only []; omega
    · simp only [List.length_append, List.length_singleton] at hk
      show (wAt (b.raw ++ [(i, s)]) k).2.size = 128
      rw [wAt_snoc]
      by_cases h : k < b.raw.length
      · rw [if_pos h]; exact hB.sz k h
      · rw [if_neg h, if_pos (by omega)]; exact hs'
  rw [hb]
  refine ⟨hB', ?_⟩
  rcases hA with ⟨h1, rfl⟩ | ⟨h1, h2, h3, h4⟩
  · by_cases h5 : n - (b.raw.length : Int) = 1
    · have ha : (⟨b.sec, b.raw, n - b.raw.length, m, false⟩ : DS).write i s = (2, ⟨b.sec.set i.toNat (cutB s (sAt b.sec i.toNat) m.toNat), b.raw, n - b.raw.length, m, true⟩) := by
        unfold DS.write; rw [if_neg (by simp), if_neg hr, if_neg hs, if_pos h5]
      rw [ha]
      refine ⟨.inr ⟨by simp; omega, rfl, ?_, by simp; omega⟩, .inr rfl, by simp⟩
      show b.sec.set i.toNat (cutB s (sAt b.sec i.toNat) m.toNat) = cutV ss (b.raw ++ [(i, s)]) (n - 1) m
      have hn1 : (n - 1).toNat = b.raw.length := by omega
      unfold cutV
      rw [hn1, outK_snoc _ _ _ _ (Nat.le_refl _), ← hB.sec, wAt_snoc, if_neg (Nat.lt_irrefl _), if_pos rfl]
      by_cases hmz : 0 < m
      · rw [if_pos hmz]
      · rw [if_neg hmz, show m.toNat = 0 by omega, cutB_nought _ _ (play_sizes hok hB _ hir), set_sAt _ _ (by rw [hl]; exact hir)]
    · have ha : (⟨b.sec, b.raw, n - b.raw.length, m, false⟩ : DS).write i s = (0, ⟨b.sec.set i.toNat s, b.raw ++ [(i, s)], n - b.raw.length - 1, m, false⟩) := by
        unfold DS.write; rw [if_neg (by simp), if_neg hr, if_neg hs, if_neg h5]
        simp only []
        rw [show max 0 (n - (b.raw.length : Int) - 1) = n - b.raw.length - 1 by omega]
      rw [ha]
      refine ⟨.inl ⟨by simp; omega, ?_⟩, .inl rfl, by simp⟩
      simp only [List.length_append, List.length_singleton]
      congr 1
      omega
  · have ha : a.write i s = (2, a) := by unfold DS.write; rw [if_pos h2]
    rw [ha]
    refine ⟨.inr ⟨by simp; omega, h2, ?_, h4⟩, .inr rfl, by simp⟩
    rw [h3]
    exact (cutV_snoc ss b.raw (i, s) (n - 1) m (by omega) (by omega)).symm

theorem play_cutE {ss : List ByteArray} (hok : okSecs ss) {b : DS} (h : PlayB ss b) (n m : Int) (h0 : 0 ≤ n) (h1 : n ≤ b.raw.length) (m0 : 0 ≤ m) (m1 : m ≤ 128) (h2 : n = b.raw.length → m = 0) : cutE ss b.raw n m = 0 := by
  unfold cutE
  rw [if_neg, if_neg, if_neg]
  · rintro (h | h | h | h | ⟨h, h3⟩)
    · omega
    · omega
    · omega
    · omega
    · exact h3 (h2 h)
  · rintro (⟨k, hk, hb⟩ | ⟨k, hk, hb⟩)
    · unfold badLen at hb; simp at hb; exact hb (hok.2.2 k hk)
    · unfold badLen at hb; simp at hb; exact hb (h.sz k hk)
  · rintro (h3 | h3 | ⟨k, hk, hb⟩)
    · have := hok.1; omega
    · have := hok.2.1; omega
    · have := h.rg k hk
      unfold badSec at hb; simp at hb; omega
theorem play_cutV {ss : List ByteArray} {b : DS} (h : PlayB ss b) : cutV ss b.raw b.raw.length 0 = b.sec := by
  unfold cutV; rw [if_neg (by omega), h.sec]; simp

theorem play_start {ss : List ByteArray} {n m : Int} (hn : 1 ≤ n) : PlayB ss (DS.of ss) ∧ PlayA ss n m ⟨ss, [], n, m, false⟩ (DS.of ss) := by
  refine ⟨⟨rfl, rfl, rfl, fun k hk => absurd hk (Nat.not_lt_zero _), fun k hk => absurd hk (Nat.not_lt_zero _)⟩, .inl ⟨by show ((0 : Nat) : Int) < n; omega, ?_⟩⟩
  show _ = (⟨ss, [], n - ((0 : Nat) : Int), m, false⟩ : DS)
  congr 1
  omega

end Go.Proofs.Ytkkahkgjedgjnaa
