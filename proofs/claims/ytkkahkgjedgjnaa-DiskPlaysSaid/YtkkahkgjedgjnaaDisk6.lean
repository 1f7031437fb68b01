/-
  slices.Clone and slices.Clip as the package disk uses them; Raw.
-/
import Derived.Test.YtkkahkgjedgjnaaDisk5
namespace Go.Proofs.Ytkkahkgjedgjnaa
open Go.RowKit
set_option linter.unusedVariables false
set_option linter.unusedSimpArgs false

theorem owns_one {w : World} {B e size n : Nat} {v : Value} {xs : List Value} (h : w.ownsRow B e size v n xs) : v = .slice none 0 0 ∧ n = 0 ∧ xs = [] ∨ ∃ g cap, v = .slice (some ⟨g, 0, none⟩) n cap ∧ n ≤ cap ∧ cap ≤ maxLen := by
  obtain ⟨h1, h2⟩ := h
  rcases h2 with ⟨h2, rfl⟩ | ⟨g', cap', cur, hv, _, _, hle, hmx, _⟩
  · exact .inl ⟨h2, rfl, by simpa using h1⟩
  · exact .inr ⟨g', cap', hv, hle, hmx⟩


set_option maxHeartbeats 800000 in
set_option maxRecDepth 100000 in
theorem clone_writes (w : World) (rv : Value) (n : Nat) (xs : List Value) (h : w.ownsRow 0 56 2 rv n xs) (hone : ∀ u ∈ xs, u.oneCell' = true) (hn : n * 24 ≤ 140737488355328) :
    Calls Try.prog 53 #[rv] w fun e w' => ∃ v', e = .returned v' ∧ Fr [] w w' ∧ w'.ownsRow 0 56 2 v' n xs ∧ (∀ x, x ∈ v'.ownBlock.toList → w.heap.size ≤ x) ∧ (v' = .slice none 0 0 ↔ rv = .slice none 0 0) := by
  rcases owns_one h with ⟨rfl, rfl, rfl⟩ | ⟨g, cap, rfl, hle, hmx⟩
  · have H := hid h
    have heq := fun w1 => Lib.run_eql_slice_nil (P := Try.prog) w1 47 56 none 0 0 0 0 Try.underlying47
    clear h
    go_enter Try.func53, Try.ntmps53
    go_wp2
    go_ret
    exact ⟨_, rfl, Fr.refl _ _, H.out, by simp [Value.ownBlock], by simp⟩
  · obtain ⟨i0, hi, hz0, hz1, hz2⟩ := info_parts info_write
    have HI := hid (And.intro hi (And.intro hz0 (And.intro hz1 hz2)))
    have H := hid (And.intro h hone)
    clear hi hz0 hz1 hz2 h hone
    have heq := fun w1 => Lib.run_eql_slice_nil (P := Try.prog) w1 47 56 (some ⟨g, 0, none⟩) n cap 0 0 Try.underlying47
    go_enter Try.func53, Try.ntmps53
    go_wp2_with (at_builtin; refine wpList_append_blk rfl (.tmp 5) (.tmp 6) 47 rfl 56 i0 (.agg #[.int .i64 0, .string ByteArray.empty]) 2 24 Try.underlying47 HI.out.1 HI.out.2.1 HI.out.2.2.1 HI.out.2.2.2 rfl (by decide) (.slice (some ⟨w.heap.size, 0, none⟩) 0 0) 0 [] rfl ?qa ⟨g, 0, none⟩ n cap xs rfl H.out.1.1 ?qb H.out.2 ?qd ?qe ?_)
    case qa => exact ⟨by simp, Or.inr ⟨_, _, #[], rfl, Nat.zero_le _, blk_alloc_at _ _ _ rfl, Nat.le_refl _, by decide, by simp, by simp⟩⟩
    case qb =>
      intro j u hu
      exact ((Fr.refl [] w).alloc _).cell0 (H.out.1.cells rfl j u hu)
    case qd => unfold maxLen; omega
    case qe => omega
    intro v' w3 hown3 hF3 hblk hnil
    have hFx : Fr [] w w3 := ((Fr.refl [] w).alloc (.cells #[] 56)).step hF3 (by intro x hx; simp [Value.ownBlock] at hx; subst hx; exact .inr (Nat.le_refl _))
    have hb : ∀ x, x ∈ v'.ownBlock.toList → w.heap.size ≤ x := by
      intro x hx
      rcases hblk x (by simpa using hx) with h1 | h1
      · simp [Value.ownBlock] at h1; omega
      · omega
    have HN := hid hnil
    have HZ := hid (And.intro hown3 (And.intro hFx hb))
    clear hown3 hFx hb hF3 hblk hnil
    go_wp2_with fail
    go_ret
    exact ⟨_, rfl, HZ.out.2.1, HZ.out.1, HZ.out.2.2, by have := HN.out; simpa using this⟩

set_option maxHeartbeats 800000 in
set_option maxRecDepth 100000 in
theorem clone_secs (w : World) (rv : Value) (n : Nat) (xs : List Value) (h : w.ownsRow 0 95 128 rv n xs) (hone : ∀ u ∈ xs, u.oneCell' = true) (hn : n * 128 ≤ 140737488355328) :
    Calls Try.prog 56 #[rv] w fun e w' => ∃ v', e = .returned v' ∧ Fr [] w w' ∧ w'.ownsRow 0 95 128 v' n xs ∧ (∀ x, x ∈ v'.ownBlock.toList → w.heap.size ≤ x) ∧ (v' = .slice none 0 0 ↔ rv = .slice none 0 0) := by
  rcases owns_one h with ⟨rfl, rfl, rfl⟩ | ⟨g, cap, rfl, hle, hmx⟩
  · have H := hid h
    have heq := fun w1 => Lib.run_eql_slice_nil (P := Try.prog) w1 90 95 none 0 0 0 0 Try.underlying90
    clear h
    go_enter Try.func56, Try.ntmps56
    go_wp2
    go_ret
    exact ⟨_, rfl, Fr.refl _ _, H.out, by simp [Value.ownBlock], by simp⟩
  · obtain ⟨i0, hi, hz0, hz1, hz2⟩ := info_parts info_sector
    have HI := hid (And.intro hi (And.intro hz0 (And.intro hz1 hz2)))
    have H := hid (And.intro h hone)
    clear hi hz0 hz1 hz2 h hone
    have heq := fun w1 => Lib.run_eql_slice_nil (P := Try.prog) w1 90 95 (some ⟨g, 0, none⟩) n cap 0 0 Try.underlying90
    go_enter Try.func56, Try.ntmps56
    go_wp2_with (at_builtin; refine wpList_append_blk rfl (.tmp 5) (.tmp 6) 90 rfl 95 i0 (.agg (Array.replicate 128 (.int .u8 0))) 128 128 Try.underlying90 HI.out.1 HI.out.2.1 HI.out.2.2.1 HI.out.2.2.2 rfl (by decide) (.slice (some ⟨w.heap.size, 0, none⟩) 0 0) 0 [] rfl ?qa ⟨g, 0, none⟩ n cap xs rfl H.out.1.1 ?qb H.out.2 ?qd ?qe ?_)
    case qa => exact ⟨by simp, Or.inr ⟨_, _, #[], rfl, Nat.zero_le _, blk_alloc_at _ _ _ rfl, Nat.le_refl _, by decide, by simp, by simp⟩⟩
    case qb =>
      intro j u hu
      exact ((Fr.refl [] w).alloc _).cell0 (H.out.1.cells rfl j u hu)
    case qd => unfold maxLen; omega
    case qe => omega
    intro v' w3 hown3 hF3 hblk hnil
    have hFx : Fr [] w w3 := ((Fr.refl [] w).alloc (.cells #[] 95)).step hF3 (by intro x hx; simp [Value.ownBlock] at hx; subst hx; exact .inr (Nat.le_refl _))
    have hb : ∀ x, x ∈ v'.ownBlock.toList → w.heap.size ≤ x := by
      intro x hx
      rcases hblk x (by simpa using hx) with h1 | h1
      · simp [Value.ownBlock] at h1; omega
      · omega
    have HN := hid hnil
    have HZ := hid (And.intro hown3 (And.intro hFx hb))
    clear hown3 hFx hb hF3 hblk hnil
    go_wp2_with fail
    go_ret
    exact ⟨_, rfl, HZ.out.2.1, HZ.out.1, HZ.out.2.2, by have := HN.out; simpa using this⟩

theorem rawCells_one (l : List (Int × ByteArray)) : ∀ u ∈ rawCells l, u.oneCell' = true := by
  intro u hu
  simp only [rawCells, List.mem_flatMap, List.mem_cons, List.not_mem_nil, or_false] at hu
  obtain ⟨x, _, rfl | rfl⟩ := hu <;> rfl

theorem rawCells_get (l : List (Int × ByteArray)) (j : Nat) (hj : j < l.length * 2) : (rawCells l)[j]? = some (wrV l j) := by
  induction l generalizing j with
  | nil => simp at hj
  | cons x r ih =>
    match j with
    | 0 => simp [rawCells, wrV, wAt]
    | 1 => simp [rawCells, wrV, wAt]
    | j + 2 =>
      have := ih j (by simp at hj; omega)
      have e : (rawCells (x :: r))[j + 2]? = (rawCells r)[j]? := by simp [rawCells]
      rw [e, this]
      unfold wrV wAt
      rw [show (j + 2) / 2 = j / 2 + 1 by omega, show (j + 2) % 2 = j % 2 by omega]
      simp [List.getD]

theorem clip_writes (w : World) (a : Option Addr) (n cap : Nat) (h1 : n ≤ cap) (h2 : cap ≤ 9223372036854775807) (h3 : a = none → cap = 0) :
    Calls Try.prog 52 #[.slice a n cap] w fun e w' => e = .returned (.slice a n n) ∧ w = w' := by
  go_enter Try.func52, Try.ntmps52
  go_wp2
  go_ret
  exact ⟨rfl, rfl⟩

theorem disk_raw (w : World) (F : List Nat) (D : Nat) (d : DS) (h : Dk w F D d) (hn : d.raw.length * 24 ≤ 140737488355328) :
    Calls Try.prog 36 #[.pointer (some ⟨D, 0, none⟩)] w fun e w' => ∃ a, e = .returned (.slice a d.raw.length d.raw.length) ∧ Fr [] w w' ∧ In w' 2 a d.raw.length d.raw.length (wrV d.raw) ∧ ∀ b off, a = some ⟨b, off, none⟩ → w.heap.size ≤ b := by
  obtain ⟨S, dcap, rv, cur, hFeq, g1, g2, g3, g4⟩ := h
  have c1 : w.cell? ⟨D, 1, none⟩ = some rv := cell_blk g1 rfl
  have HC := hid (clone_writes w rv _ _ g4 (rawCells_one _) hn)
  clear g1 g2 g3 g4 hFeq
  go_enter Try.func36, Try.ntmps36
  go_wp2_with fail
  refine HC.out.mono ?_
  rintro e w1 ⟨v', rfl, hF, hown, hblk, _⟩
  rcases owns_one hown with ⟨rfl, hz, _⟩ | ⟨g, cap, rfl, hle, hmx⟩
  · have HZ := hid (And.intro hF (And.intro hz hown))
    clear hF hz hown hblk
    go_wp2_with fail
    refine (clip_writes w1 none 0 0 (Nat.le_refl _) (by omega) (fun _ => rfl)).mono ?_
    rintro e w2 ⟨rfl, rfl⟩
    go_wp2_with fail
    go_ret
    rw [HZ.out.2.1]
    exact ⟨none, rfl, HZ.out.1, ⟨Nat.le_refl _, by decide, fun h => absurd h (Nat.lt_irrefl _), fun b off e => by simp at e⟩, fun b off e => by simp at e⟩
  · have HZ := hid (And.intro hF (And.intro hblk hown))
    clear hF hown hblk
    unfold maxLen at hmx
    go_wp2_with fail
    refine (clip_writes w1 _ _ _ hle hmx (fun h => by simp at h)).mono ?_
    rintro e w2 ⟨rfl, rfl⟩
    go_wp2_with fail
    go_ret
    have hin := owns_in HZ.out.2.2 (wrV d.raw) (fun j hj => rawCells_get _ j hj)
    refine ⟨_, rfl, HZ.out.1, ⟨Nat.le_refl _, by have := hin.max; unfold maxLen; omega, hin.sm, hin.cell⟩, fun b off e => ?_⟩
    simp only [Option.some.injEq, Addr.mk.injEq, and_true] at e
    exact HZ.out.2.1 b (by simp [Value.ownBlock, e.1])

end Go.Proofs.Ytkkahkgjedgjnaa
