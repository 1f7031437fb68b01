/-
  Merged, in build order: InD Disk5 Disk6 Copy Clone Same.
-/
import Derived.Test.YthghnlgojmedgaaGreatM2
import Derived.Test.YthghnlgojmedgaaGreatM18
import Derived.Deep.Upon
/-
  A law's arguments as lists of texts, of writes.
-/
namespace Go.Proofs.YthghnlgojmedgaaGreat
open Go.RowKit
set_option linter.unusedVariables false

theorem strs_of {w : World} {a : Option Addr} {len cap : Nat} {V : Nat → Value} (h : SlIn w 1 16 a len cap V) (hq : ∀ i, i < len → Str (V (i * 1))) :
    ∃ ss : List ByteArray, ss.length = len ∧ In w 1 a len cap (strV ss) ∧ len * 16 ≤ 140737488351232 ∧ ∀ i, i < len → (sAt ss i).size ≤ 140737488351232 := by
  have e : ∀ i, i < len → V i = .string (strOf (V i)) := fun i hi => by
    obtain ⟨s, hs, _⟩ := hq i hi
    rw [Nat.mul_one] at hs; rw [hs]; rfl
  have hat : ∀ i, i < len → sAt ((List.range len).map fun i => strOf (V i)) i = strOf (V i) := fun i hi => by
    unfold sAt; simp [List.getD, hi]
  have hle := h.le
  have hr := h.rch
  refine ⟨(List.range len).map fun i => strOf (V i), by simp, ⟨h.le, by unfold maxLen; exact h.mx, h.sm, fun b off e1 j hj => ?_⟩, ?_, fun i hi => ?_⟩
  · rw [h.cell b off e1 j hj]
    unfold strV
    rw [hat j (by omega), ← e j (by omega)]
  · omega
  · rw [hat i hi]
    obtain ⟨s, hs, hsz⟩ := hq i hi
    rw [Nat.mul_one] at hs
    rw [hs]; exact hsz

theorem wrs_of {w : World} {a : Option Addr} {len cap : Nat} {V : Nat → Value} (h : SlIn w 2 24 a len cap V) (hq0 : ∀ i, i < len → I64 (V (i * 2))) (hq1 : ∀ i, i < len → Str (V (i * 2 + 1))) :
    ∃ ws : List (Int × ByteArray), ws.length = len ∧ In w 2 a len cap (wrV ws) ∧ len * 24 ≤ 140737488351232 ∧ ∀ i, i < len → -9223372036854775808 ≤ (wAt ws i).1 ∧ (wAt ws i).1 ≤ 9223372036854775807 ∧ (wAt ws i).2.size ≤ 140737488351232 := by
  have hat : ∀ i, i < len → wAt ((List.range len).map fun i => (intOf (V (i * 2)), strOf (V (i * 2 + 1)))) i = (intOf (V (i * 2)), strOf (V (i * 2 + 1))) := fun i hi => by
    unfold wAt; simp [List.getD, hi]
  have hle := h.le
  have hr := h.rch
  refine ⟨(List.range len).map fun i => (intOf (V (i * 2)), strOf (V (i * 2 + 1))), by simp, ⟨h.le, by unfold maxLen; exact h.mx, h.sm, fun b off e1 j hj => ?_⟩, ?_, fun i hi => ?_⟩
  · rw [h.cell b off e1 j hj]
    unfold wrV
    rw [hat (j / 2) (by omega)]
    by_cases hj2 : j % 2 = 0
    · rw [if_pos hj2]
      obtain ⟨n, hn, _⟩ := hq0 (j / 2) (by omega)
      rw [show j / 2 * 2 = j by omega] at hn
      rw [show j / 2 * 2 = j by omega, hn]; rfl
    · rw [if_neg hj2]
      obtain ⟨s, hs, _⟩ := hq1 (j / 2) (by omega)
      rw [show j / 2 * 2 + 1 = j by omega] at hs
      rw [show j / 2 * 2 + 1 = j by omega, hs]; rfl
  · omega
  · rw [hat i hi]
    obtain ⟨n, hn, h1, h2⟩ := hq0 i hi
    obtain ⟨s, hs, hsz⟩ := hq1 i hi
    rw [hn, hs]; exact ⟨h1, h2, hsz⟩

end Go.Proofs.YthghnlgojmedgaaGreat

/-
  Sectors, Raw of the package disk.
-/
namespace Go.Proofs.YthghnlgojmedgaaGreat
open Go.RowKit
set_option linter.unusedVariables false
set_option linter.unusedSimpArgs false

def strs (ss : List ByteArray) (k : Nat) : List Value := (List.range k).map fun i => .string (sAt ss i)
theorem strs_succ (ss : List ByteArray) (k : Nat) : strs ss k ++ [.string (sAt ss k)] = strs ss (k + 1) := by simp [strs, List.range_succ]
theorem strs_get (ss : List ByteArray) (k j : Nat) (hj : j < k) : (strs ss k)[j]? = some (strV ss j) := by simp [strs, strV, hj]
theorem strs_len (ss : List ByteArray) (k : Nat) : (strs ss k).length = k := by simp [strs]

theorem info_string : (Tryz.prog.info? 9).map (fun i => (i.zero, i.size, i.bytes)) = some (some (.string ByteArray.empty), 1, 16) := by kernel_rfl

/-- A new row of texts: what Sectors gives. -/
def NewStrs (w w' : World) (v : Value) (ss : List ByteArray) : Prop :=
  ∃ g cap, v = .slice (some ⟨g, 0, none⟩) ss.length cap ∧ w.heap.size ≤ g ∧ w'.ownsRow 0 9 1 v ss.length (strs ss ss.length)

theorem owns_in {w : World} {B e size n g cap : Nat} {xs : List Value} (h : w.ownsRow B e size (.slice (some ⟨g, 0, none⟩) n cap) n xs) (V : Nat → Value) (hV : ∀ j, j < n * size → xs[j]? = some (V j)) : In w size (some ⟨g, 0, none⟩) n cap V := by
  have h0 := h
  obtain ⟨hl, hr⟩ := h0
  rcases hr with ⟨hr, _⟩ | ⟨g', cap', cur, hv, hg, hh, hle, hmx, _, _⟩
  · simp at hr
  simp only [Value.slice.injEq, Option.some.injEq, Addr.mk.injEq, and_true, true_and] at hv
  obtain ⟨rfl, rfl⟩ := hv
  refine ⟨hle, hmx, fun _ => ⟨g, 0, rfl⟩, fun b off e j hj => ?_⟩
  simp only [Option.some.injEq, Addr.mk.injEq, and_true] at e
  obtain ⟨rfl, rfl⟩ := e
  rw [Nat.zero_add, h.cellAt j hj]; exact hV j hj

theorem newStrs_in {w w' : World} {v : Value} {ss : List ByteArray} (h : NewStrs w w' v ss) : ∃ g cap, v = .slice (some ⟨g, 0, none⟩) ss.length cap ∧ w.heap.size ≤ g ∧ In w' 1 (some ⟨g, 0, none⟩) ss.length cap (strV ss) := by
  obtain ⟨g, cap, rfl, hg, ho⟩ := h
  exact ⟨g, cap, rfl, hg, owns_in ho _ (fun j hj => strs_get ss _ j (by omega))⟩

set_option maxHeartbeats 1600000 in
set_option maxRecDepth 100000 in
theorem disk_sectors (w : World) (F : List Nat) (D : Nat) (d : DS) (h : Dk w F D d) (hw : d.wf) :
    Calls Tryz.prog 11 #[.pointer (some ⟨D, 0, none⟩)] w fun e w' => ∃ v, e = .returned v ∧ Fr [] w w' ∧ NewStrs w w' v d.sec := by
  have hn2 := hw.n2
  have hn1 := hw.n1
  have H := hid h
  have HW := hid hw
  obtain ⟨S, dcap, rv, cur, hFeq, g1, g2, g3, g4⟩ := h
  have hle := g3.le
  have c0 : w.cell? ⟨D, 0, none⟩ = some (.slice (some ⟨S, 0, none⟩) d.sec.length dcap) := cell_blk g1 rfl
  obtain ⟨i0, hi, hz0, hz1, hz2⟩ := info_parts info_string
  have HI := hid (And.intro hi (And.intro hz0 (And.intro hz1 hz2)))
  have HG := hid (And.intro g1 (And.intro g2 g3))
  clear hi hz0 hz1 hz2 g1 g2 g3 g4 hw hFeq
  go_enter Tryz.func11, Tryz.ntmps11
  go_wp2_with (at_make; refine wpList_make_own _ rfl (.const (.int .i64 0)) (.tmp 9) 34 rfl 0 9 i0 (.string ByteArray.empty) 1 Tryz.underlying34 HI.out.1 HI.out.2.1 HI.out.2.2.1 .i64 .i64 d.sec.length d.sec.length rfl rfl rfl ?qa ?qb ?qc ?_)
  case qa => rw [HI.out.2.2.2]; omega
  case qb => unfold maxLen; omega
  case qc => omega
  intro w1 hown hgrow
  have hF := Fr.of_grown hgrow
  have hF' : Fr [] w w1 := hF.mono (by simp)
  have c1 := hF'.cell0 c0
  clear hgrow hF
  have hS0 : strs d.sec 0 = [] := rfl
  rw [← hS0] at hown
  clear hS0
  go_wp2_with fail
  go_loopw [3, 16] (fun v i wr => ∃ (k g cap : Nat), k ≤ d.sec.length ∧ i = .int .i64 k ∧ v = .slice (some ⟨g, 0, none⟩) k cap ∧ w.heap.size ≤ g ∧ wr.ownsRow 0 9 1 (.slice (some ⟨g, 0, none⟩) k cap) k (strs d.sec k) ∧ Fr [] w wr) (fun _ i _ => d.sec.length - (intOf i).toNat)
  case atStart => exact ⟨0, _, _, Nat.zero_le _, rfl, rfl, Nat.le_refl _, hown, hF'⟩
  case round =>
    clear hown hF' c1
    obtain ⟨k, g, cap, hk, rfl, rfl, hg, hown, hFw⟩ := hrel
    by_cases hlt : k < d.sec.length
    · have c2 := hFw.cell0 c0
      have q2 := hFw.keep HG.out.2.1 (by simp)
      have HQ := hid (And.intro q2 hown)
      clear q2
      go_wp2_with (first | (refine wpList_text rfl 71 9 (.tmp 26) rfl 5 Tryz.underlying71 Tryz.underlying5 Tryz.underlying9 S (k * 128) 128 128 (sAt d.sec k) rfl (HW.out.sz k hlt) (fun j hj => cell_blk HQ.out.1 (HG.out.2.2.at_ k hlt j hj)) ?_) | (at_builtin; refine wpList_append_blk rfl (.tmp 19) (.tmp 28) 34 rfl 9 i0 (.string ByteArray.empty) 1 16 Tryz.underlying34 HI.out.1 HI.out.2.1 HI.out.2.2.1 HI.out.2.2.2 rfl (by decide) _ _ _ rfl (HQ.out.2.alloc _) ⟨wr.heap.size, 0, none⟩ 1 1 [.string (sAt d.sec k)] rfl rfl ?qd ?qe ?qf ?qg ?_))
      case qd => intro q u hu; match q, hu with | 0, hu => simp at hu; subst hu; simp [Addr.add, World.cell?_alloc_at]
      case qe => intro u hu; simp at hu; subst hu; rfl
      case qf => unfold maxLen; omega
      case qg => omega
      intro v' w3 hown3 hF3 hblk _
      rw [strs_succ] at hown3
      obtain ⟨g', cap', hv'⟩ := owns_shape hown3 (by omega)
      have hFx : Fr [] w w3 := (hFw.alloc (.cells #[.string (sAt d.sec k)] 9)).step hF3 (by intro x hx; simp [Value.ownBlock] at hx; subst hx; exact .inr hg)
      have hg' : w.heap.size ≤ g' := by
        rcases hblk g' (by rw [hv']; simp [Value.ownBlock]) with h1 | h1
        · simp [Value.ownBlock] at h1; omega
        · have := hFw.size; omega
      rw [hv'] at hown3
      have HZ := hid (And.intro hv' (And.intro hg' (And.intro hown3 hFx)))
      clear hv' hg' hown3 hFx hblk hF3 hown hFw c2 HQ
      go_wp2_with fail
      go_roundw
      case rel => exact ⟨k + 1, g', cap', by omega, by go_num, HZ.out.1, HZ.out.2.1, HZ.out.2.2.1, HZ.out.2.2.2⟩
      case measure => simp [intOf]; omega
    · obtain rfl : k = d.sec.length := by omega
      have HZ := hid (And.intro hg (And.intro hown hFw))
      clear hg hown hFw
      go_wp2_with fail
      go_ret
      exact ⟨_, rfl, HZ.out.2.2, g, cap, rfl, HZ.out.1, HZ.out.2.1⟩

end Go.Proofs.YthghnlgojmedgaaGreat

/-
  slices.Clone and slices.Clip as the package disk uses them; Raw.
-/
namespace Go.Proofs.YthghnlgojmedgaaGreat
open Go.RowKit
set_option linter.unusedVariables false
set_option linter.unusedSimpArgs false

theorem owns_one {w : World} {B e size n : Nat} {v : Value} {xs : List Value} (h : w.ownsRow B e size v n xs) : v = .slice none 0 0 ∧ n = 0 ∧ xs = [] ∨ ∃ g cap, v = .slice (some ⟨g, 0, none⟩) n cap ∧ n ≤ cap ∧ cap ≤ maxLen := by
  obtain ⟨h1, h2⟩ := h
  rcases h2 with ⟨h2, rfl⟩ | ⟨g', cap', cur, hv, _, _, hle, hmx, _⟩
  · exact .inl ⟨h2, rfl, by simpa using h1⟩
  · exact .inr ⟨g', cap', hv, hle, hmx⟩


set_option maxHeartbeats 800000 in
set_option maxRecDepth 100000 in
theorem clone_writes (w : World) (rv : Value) (n : Nat) (xs : List Value) (h : w.ownsRow 0 86 2 rv n xs) (hone : ∀ u ∈ xs, u.oneCell' = true) (hn : n * 24 ≤ 140737488355328) :
    Calls Tryz.prog 37 #[rv] w fun e w' => ∃ v', e = .returned v' ∧ Fr [] w w' ∧ w'.ownsRow 0 86 2 v' n xs ∧ (∀ x, x ∈ v'.ownBlock.toList → w.heap.size ≤ x) ∧ (v' = .slice none 0 0 ↔ rv = .slice none 0 0) := by
  rcases owns_one h with ⟨rfl, rfl, rfl⟩ | ⟨g, cap, rfl, hle, hmx⟩
  · have H := hid h
    have heq := fun w1 => Lib.run_eql_slice_nil (P := Tryz.prog) w1 36 86 none 0 0 0 0 Tryz.underlying36
    clear h
    go_enter Tryz.func37, Tryz.ntmps37
    go_wp2
    go_ret
    exact ⟨_, rfl, Fr.refl _ _, H.out, by simp [Value.ownBlock], by simp⟩
  · obtain ⟨i0, hi, hz0, hz1, hz2⟩ := info_parts info_write
    have HI := hid (And.intro hi (And.intro hz0 (And.intro hz1 hz2)))
    have H := hid (And.intro h hone)
    clear hi hz0 hz1 hz2 h hone
    have heq := fun w1 => Lib.run_eql_slice_nil (P := Tryz.prog) w1 36 86 (some ⟨g, 0, none⟩) n cap 0 0 Tryz.underlying36
    go_enter Tryz.func37, Tryz.ntmps37
    go_wp2_with (at_builtin; refine wpList_append_blk rfl (.tmp 5) (.tmp 6) 36 rfl 86 i0 (.agg #[.int .i64 0, .string ByteArray.empty]) 2 24 Tryz.underlying36 HI.out.1 HI.out.2.1 HI.out.2.2.1 HI.out.2.2.2 rfl (by decide) (.slice (some ⟨w.heap.size, 0, none⟩) 0 0) 0 [] rfl ?qa ⟨g, 0, none⟩ n cap xs rfl H.out.1.1 ?qb H.out.2 ?qd ?qe ?_)
    case qa => exact ⟨by simp, Or.inr ⟨_, _, #[], rfl, Nat.zero_le _, blk_alloc_at _ _ _ rfl, Nat.le_refl _, by decide, by simp, by simp⟩⟩
    case qb =>
      intro j u hu
      exact ((Fr.refl [] w).alloc _).cell0 (H.out.1.cells rfl j u hu)
    case qd => unfold maxLen; omega
    case qe => omega
    intro v' w3 hown3 hF3 hblk hnil
    have hFx : Fr [] w w3 := ((Fr.refl [] w).alloc (.cells #[] 86)).step hF3 (by intro x hx; simp [Value.ownBlock] at hx; subst hx; exact .inr (Nat.le_refl _))
    have hb : ∀ x, x ∈ v'.ownBlock.toList → w.heap.size ≤ x := by
      intro x hx
      rcases hblk x (by simpa using hx) with h1 | h1
      · simp [Value.ownBlock] at h1; omega
      · omega
    have HN := hid hnil
    have HZ := hid (And.intro hown3 (And.intro hFx hb))
    clear hown3 hFx hb hF3 hblk hnil
    go_wp2_with fail
    go_ret
    exact ⟨_, rfl, HZ.out.2.1, HZ.out.1, HZ.out.2.2, by have := HN.out; simpa using this⟩

set_option maxHeartbeats 800000 in
set_option maxRecDepth 100000 in
theorem clone_secs (w : World) (rv : Value) (n : Nat) (xs : List Value) (h : w.ownsRow 0 73 128 rv n xs) (hone : ∀ u ∈ xs, u.oneCell' = true) (hn : n * 128 ≤ 140737488355328) :
    Calls Tryz.prog 36 #[rv] w fun e w' => ∃ v', e = .returned v' ∧ Fr [] w w' ∧ w'.ownsRow 0 73 128 v' n xs ∧ (∀ x, x ∈ v'.ownBlock.toList → w.heap.size ≤ x) ∧ (v' = .slice none 0 0 ↔ rv = .slice none 0 0) := by
  rcases owns_one h with ⟨rfl, rfl, rfl⟩ | ⟨g, cap, rfl, hle, hmx⟩
  · have H := hid h
    have heq := fun w1 => Lib.run_eql_slice_nil (P := Tryz.prog) w1 52 73 none 0 0 0 0 Tryz.underlying52
    clear h
    go_enter Tryz.func36, Tryz.ntmps36
    go_wp2
    go_ret
    exact ⟨_, rfl, Fr.refl _ _, H.out, by simp [Value.ownBlock], by simp⟩
  · obtain ⟨i0, hi, hz0, hz1, hz2⟩ := info_parts info_sector
    have HI := hid (And.intro hi (And.intro hz0 (And.intro hz1 hz2)))
    have H := hid (And.intro h hone)
    clear hi hz0 hz1 hz2 h hone
    have heq := fun w1 => Lib.run_eql_slice_nil (P := Tryz.prog) w1 52 73 (some ⟨g, 0, none⟩) n cap 0 0 Tryz.underlying52
    go_enter Tryz.func36, Tryz.ntmps36
    go_wp2_with (at_builtin; refine wpList_append_blk rfl (.tmp 5) (.tmp 6) 52 rfl 73 i0 (.agg (Array.replicate 128 (.int .u8 0))) 128 128 Tryz.underlying52 HI.out.1 HI.out.2.1 HI.out.2.2.1 HI.out.2.2.2 rfl (by decide) (.slice (some ⟨w.heap.size, 0, none⟩) 0 0) 0 [] rfl ?qa ⟨g, 0, none⟩ n cap xs rfl H.out.1.1 ?qb H.out.2 ?qd ?qe ?_)
    case qa => exact ⟨by simp, Or.inr ⟨_, _, #[], rfl, Nat.zero_le _, blk_alloc_at _ _ _ rfl, Nat.le_refl _, by decide, by simp, by simp⟩⟩
    case qb =>
      intro j u hu
      exact ((Fr.refl [] w).alloc _).cell0 (H.out.1.cells rfl j u hu)
    case qd => unfold maxLen; omega
    case qe => omega
    intro v' w3 hown3 hF3 hblk hnil
    have hFx : Fr [] w w3 := ((Fr.refl [] w).alloc (.cells #[] 73)).step hF3 (by intro x hx; simp [Value.ownBlock] at hx; subst hx; exact .inr (Nat.le_refl _))
    have hb : ∀ x, x ∈ v'.ownBlock.toList → w.heap.size ≤ x := by
      intro x hx
      rcases hblk x (by simpa using hx) with h1 | h1
      · simp [Value.ownBlock] at h1; omega
      · omega
    have HN := hid hnil
    have HZ := hid (And.intro hown3 (And.intro hFx hb))
    clear hown3 hFx hb hF3 hblk hnil
    go_wp2_with fail
    go_ret
    exact ⟨_, rfl, HZ.out.2.1, HZ.out.1, HZ.out.2.2, by have := HN.out; simpa using this⟩

theorem rawCells_one (l : List (Int × ByteArray)) : ∀ u ∈ rawCells l, u.oneCell' = true := by
  intro u hu
  simp only [rawCells, List.mem_flatMap, List.mem_cons, List.not_mem_nil, or_false] at hu
  obtain ⟨x, _, rfl | rfl⟩ := hu <;> rfl

theorem rawCells_get (l : List (Int × ByteArray)) (j : Nat) (hj : j < l.length * 2) : (rawCells l)[j]? = some (wrV l j) := by
  induction l generalizing j with
  | nil => simp at hj
  | cons x r ih =>
    match j with
    | 0 => simp [rawCells, wrV, wAt]
    | 1 => simp [rawCells, wrV, wAt]
    | j + 2 =>
      have := ih j (by simp at hj; omega)
      have e : (rawCells (x :: r))[j + 2]? = (rawCells r)[j]? := by simp [rawCells]
      rw [e, this]
      unfold wrV wAt
      rw [show (j + 2) / 2 = j / 2 + 1 by omega, show (j + 2) % 2 = j % 2 by omega]
      simp [List.getD]



end Go.Proofs.YthghnlgojmedgaaGreat

/-
  Copies of lists, rows that are written into. Of no program.
-/
namespace Go.Proofs.YthghnlgojmedgaaGreat
open Go.RowKit
set_option linter.unusedVariables false
set_option linter.unusedSimpArgs false

theorem owns_W {w : World} {B size n cap : Nat} {e : TypeId} {ao : Option Addr} {xs : List Value} (h : w.ownsRow B e size (.slice ao n cap) n xs) (V : Nat → Value) (hV : ∀ j, j < n * size → xs[j]? = some (V j)) : WRow w e size ao n V := by
  obtain ⟨hl, h⟩ := h
  rcases h with ⟨h1, h2⟩ | ⟨g, cap', cur, hv, _, hh, hle, hmx, hcs, htk⟩
  · simp only [Value.slice.injEq] at h1; exact .inl ⟨h1.1, h2⟩
  · simp only [Value.slice.injEq, true_and] at hv
    obtain ⟨rfl, rfl⟩ := hv
    have hsz : n * size ≤ cur.size := by rw [hcs]; exact Nat.mul_le_mul_right _ hle
    refine .inr ⟨g, cur, rfl, hh, hsz, fun j hj => ?_⟩
    rw [← hV j hj, ← htk, List.getElem?_take_of_lt hj, Array.getElem?_toList]

theorem range_strs (ss : List ByteArray) : (List.range (ss.length * 1)).map (strV ss) = strs ss ss.length := by
  rw [Nat.mul_one]; rfl
theorem range_wrs (l : List (Int × ByteArray)) : (List.range (l.length * 2)).map (wrV l) = rawCells l := by
  refine List.ext_getElem? fun j => ?_
  rcases Nat.lt_or_ge j (l.length * 2) with h | h
  · rw [rawCells_get l j h]; simp [h]
  · rw [List.getElem?_eq_none (by simpa using h), List.getElem?_eq_none]
    have : (rawCells l).length = l.length * 2 := by
      unfold rawCells
      clear h
      induction l with
      | nil => rfl
      | cons x r ih => simp only [List.flatMap_cons, List.length_append, ih]; simp; omega
    omega
theorem strV_one (ss : List ByteArray) (j : Nat) : (strV ss j).oneCell' = true := rfl
theorem wrV_one (l : List (Int × ByteArray)) (j : Nat) : (wrV l j).oneCell' = true := by unfold wrV; split <;> rfl


end Go.Proofs.YthghnlgojmedgaaGreat

/-
  Clone of the package disk.
-/
namespace Go.Proofs.YthghnlgojmedgaaGreat
open Go.RowKit
set_option linter.unusedVariables false
set_option linter.unusedSimpArgs false

theorem clone_secs2 (w : World) (S cap : Nat) (cur : Array Value) (sec : List ByteArray) (hh : w.heap[S]? = some (.cells cur 73 (0, 0))) (hs : Secs cur cap sec) (h1 : 1 ≤ sec.length) (h2 : sec.length ≤ 1026) :
    Calls Tryz.prog 36 #[.slice (some ⟨S, 0, none⟩) sec.length cap] w fun e w' => ∃ g cap' cur', e = .returned (.slice (some ⟨g, 0, none⟩) sec.length cap') ∧ Fr [] w w' ∧ w'.heap[g]? = some (.cells cur' 73 (0, 0)) ∧ Secs cur' cap' sec ∧ w.heap.size ≤ g := by
  have hsz : sec.length * 128 ≤ cur.size := by rw [hs.sz]; exact Nat.mul_le_mul_right _ hs.le
  have hcell : ∀ j, j < sec.length * 128 → cur[j]? = some (.int .u8 (sget (sAt sec (j / 128)) (j % 128))) := fun j hj => by
    have := hs.at_ (j / 128) (by omega) (j % 128) (by omega)
    rw [show j / 128 * 128 + j % 128 = j by omega] at this
    exact this
  have hown : w.ownsRow 0 73 128 (.slice (some ⟨S, 0, none⟩) sec.length cap) sec.length (cur.toList.take (sec.length * 128)) :=
    ⟨by simp; omega, .inr ⟨S, cap, cur, rfl, Nat.zero_le _, hh, hs.le, hs.mx, hs.sz, rfl⟩⟩
  refine (clone_secs w _ _ _ hown (fun u hu => ?_) (by omega)).mono ?_
  · obtain ⟨j, hj⟩ := List.mem_iff_getElem?.1 hu
    have hjl : j < sec.length * 128 := by
      rcases Nat.lt_or_ge j (sec.length * 128) with h | h
      · exact h
      · rw [List.getElem?_eq_none (by simp; omega)] at hj; simp at hj
    rw [List.getElem?_take_of_lt hjl, Array.getElem?_toList, hcell j hjl] at hj
    simp only [Option.some.injEq] at hj
    subst hj; rfl
  rintro e w' ⟨v', rfl, hF, ho, hb, hn⟩
  obtain ⟨hl, ho⟩ := ho
  rcases ho with ⟨rfl, h0⟩ | ⟨g, cap', cur', rfl, _, hg, hle, hmx, hcs, htk⟩
  · omega
  refine ⟨g, cap', cur', rfl, hF, hg, ⟨hle, hmx, hcs, fun i hi j hj => ?_⟩, hb g (by simp [Value.ownBlock])⟩
  have hij : i * 128 + j < sec.length * 128 := by omega
  have e1 : cur'[i * 128 + j]? = cur[i * 128 + j]? := by
    rw [← Array.getElem?_toList, ← List.getElem?_take_of_lt (i := i * 128 + j) hij, htk, List.getElem?_take_of_lt hij, Array.getElem?_toList]
  rw [e1]
  exact hs.at_ i hi j hj

theorem clone_writes2 (w : World) (a : Option Addr) (n c : Nat) (xs : List Value) (h : w.ownsRow 0 86 2 (.slice a n c) n xs) (hone : ∀ u ∈ xs, u.oneCell' = true) (hn : n * 24 ≤ 140737488355328) :
    Calls Tryz.prog 37 #[.slice a n c] w fun e w' => ∃ a' c', e = .returned (.slice a' n c') ∧ Fr [] w w' ∧ w'.ownsRow 0 86 2 (.slice a' n c') n xs ∧ (∀ x, x ∈ (Value.slice a' n c').ownBlock.toList → w.heap.size ≤ x) := by
  refine (clone_writes w _ n xs h hone hn).mono ?_
  rintro e w' ⟨v', rfl, hF, ho, hb, _⟩
  rcases owns_one ho with ⟨rfl, rfl, _⟩ | ⟨g, cap, rfl, _, _⟩
  · exact ⟨none, 0, rfl, hF, ho, hb⟩
  · exact ⟨_, _, rfl, hF, ho, hb⟩

/-- While Clone clones: all old blocks are as they were, and the new one is a disk's. -/
def CInv (wA : World) (C : Nat) (wx : World) : Prop := Fr [C] wA wx ∧ ∃ cs : Array Value, wx.heap[C]? = some (.cells cs 54 (0, 0)) ∧ cs.size = 5
theorem CInv.step {wA wx w' : World} {C : Nat} (h : CInv wA C wx) (hF : Fr [] wx w') : CInv wA C w' := by
  obtain ⟨h1, cs, h2, h3⟩ := h
  exact ⟨h1.step0 hF, cs, hF.keep h2 (by simp), h3⟩
theorem CInv.set {wA wx : World} {C i : Nat} (h : CInv wA C wx) (v : Value) : CInv wA C (wx.setCell ⟨C, i, none⟩ v) := by
  obtain ⟨h1, cs, h2, h3⟩ := h
  exact ⟨h1.setCell (.inl (by simp)) v, _, blk_setCell_at v h2, by simpa using h3⟩
theorem CInv.cells {wA wx : World} {C : Nat} (h : CInv wA C wx) : (∃ u, wx.cell? ⟨C, 0, none⟩ = some u) ∧ (∃ u, wx.cell? ⟨C, 1, none⟩ = some u) ∧ wx.frozen? ⟨C, 0, none⟩ = false ∧ wx.frozen? ⟨C, 1, none⟩ = false := by
  obtain ⟨h1, cs, h2, h3⟩ := h
  exact ⟨⟨cs[0], cell_blk h2 (by simp)⟩, ⟨cs[1], cell_blk h2 (by simp)⟩, free_blk h2, free_blk h2⟩

set_option maxHeartbeats 1600000 in
set_option maxRecDepth 100000 in
theorem disk_clone (w : World) (F : List Nat) (D : Nat) (d : DS) (h : Dk w F D d) (hw : d.wf) (hraw : d.raw.length * 24 ≤ 140737488355328) :
    Calls Tryz.prog 16 #[.pointer (some ⟨D, 0, none⟩)] w fun e w' => ∃ C F', e = .returned (.pointer (some ⟨C, 0, none⟩)) ∧ Fr [] w w' ∧ Dk w' F' C d ∧ ∀ x, x ∈ F' → w.heap.size ≤ x := by
  have hn2 := hw.n2
  have hd := h.lt D (by obtain ⟨S, cap, rv, cur, rfl, _⟩ := h; simp)
  obtain ⟨S, dcap, rv, cur, hFeq, g1, g2, g3, g4⟩ := h
  obtain ⟨ra, rc, rfl⟩ : ∃ a c, rv = .slice a d.raw.length c := by
    rcases owns_one g4 with ⟨rfl, h0, _⟩ | ⟨g, cap, rfl, _, _⟩
    · exact ⟨none, 0, by rw [h0]⟩
    · exact ⟨_, _, rfl⟩
  have c0 : w.cell? ⟨D, 0, none⟩ = some (.slice (some ⟨S, 0, none⟩) d.sec.length dcap) := cell_blk g1 rfl
  have c1 : w.cell? ⟨D, 1, none⟩ = some (.slice ra d.raw.length rc) := cell_blk g1 rfl
  have c2 : w.cell? ⟨D, 2, none⟩ = some _ := cell_blk g1 rfl
  have c3 : w.cell? ⟨D, 3, none⟩ = some _ := cell_blk g1 rfl
  have c4 : w.cell? ⟨D, 4, none⟩ = some _ := cell_blk g1 rfl
  have HG := hid (And.intro g1 (And.intro g2 (And.intro g3 g4)))
  clear g1 g2 g3 g4 hFeq
  have hC : (w.alloc (.cells #[.slice (some ⟨S, 0, none⟩) d.sec.length dcap, .slice ra d.raw.length rc, .int .i64 d.armed, .int .i64 d.bytes, .bool d.dead] 54)).heap[w.heap.size]? = _ := blk_alloc_at _ _ _ rfl
  have hFA := (Fr.refl [] w).alloc (.cells #[.slice (some ⟨S, 0, none⟩) d.sec.length dcap, .slice ra d.raw.length rc, .int .i64 d.armed, .int .i64 d.bytes, .bool d.dead] 54)
  have hsA : (w.alloc (.cells #[.slice (some ⟨S, 0, none⟩) d.sec.length dcap, .slice ra d.raw.length rc, .int .i64 d.armed, .int .i64 d.bytes, .bool d.dead] 54)).heap.size = w.heap.size + 1 := by simp
  go_enter Tryz.func16, Tryz.ntmps16
  go_wp2_with fail
  generalize (w.alloc (.cells #[.slice (some ⟨S, 0, none⟩) d.sec.length dcap, .slice ra d.raw.length rc, .int .i64 d.armed, .int .i64 d.bytes, .bool d.dead] 54)) = wA at hC hFA hsA ⊢
  have k0 := hFA.cell0 c0
  have k1 := hFA.cell0 c1
  have hSC : S < w.heap.size := lt_of_block HG.out.2.1
  have HSecs : ∀ wx, CInv wA.drew w.heap.size wx → Calls Tryz.prog 36 #[.slice (some ⟨S, 0, none⟩) d.sec.length dcap] wx fun e w' => ∃ g cap' cur', e = .returned (.slice (some ⟨g, 0, none⟩) d.sec.length cap') ∧ Fr [] wx w' ∧ (w'.heap[g]? = some (.cells cur' 73 (0, 0)) ∧ Secs cur' cap' d.sec ∧ wx.heap.size ≤ g) :=
    fun wx hx => (clone_secs2 wx S dcap cur d.sec (hx.1.keep (w := wA.drew) (show wA.drew.heap[S]? = _ from hFA.keep HG.out.2.1 (by simp)) (by simp; omega)) HG.out.2.2.1 hw.n1 hn2).mono fun e w' ⟨g, c, r, h1, h2, h3, h4, h5⟩ => ⟨g, c, r, h1, h2, h3, h4, h5⟩
  have HWrs : ∀ wx, CInv wA.drew w.heap.size wx → Calls Tryz.prog 37 #[.slice ra d.raw.length rc] wx fun e w' => ∃ a' c', e = .returned (.slice a' d.raw.length c') ∧ Fr [] wx w' ∧ (w'.ownsRow 0 86 2 (.slice a' d.raw.length c') d.raw.length (rawCells d.raw) ∧ (∀ x, x ∈ (Value.slice a' d.raw.length c').ownBlock.toList → wx.heap.size ≤ x)) :=
    fun wx hx => clone_writes2 wx ra _ rc _ (owns_keep (owns_keep (S := []) HG.out.2.2.2 hFA.drew (by simp)) hx.1 (fun g hg h => by have := owns_lt HG.out.2.2.2 g hg; simp at h; omega)) (rawCells_one _) hraw
  have hDC : D < w.heap.size := hd
  have HD : Hid (∀ wx, CInv wA.drew w.heap.size wx → wx.cell? ⟨D, 0, none⟩ = some (.slice (some ⟨S, 0, none⟩) d.sec.length dcap) ∧ wx.cell? ⟨D, 1, none⟩ = some (.slice ra d.raw.length rc)) :=
    hid fun wx hx => ⟨hx.1.cell (w := wA.drew) k0 (by simp; omega), hx.1.cell (w := wA.drew) k1 (by simp; omega)⟩
  have HSecs := hid HSecs
  have HWrs := hid HWrs
  have H0 : Hid (CInv wA.drew w.heap.size wA.drew) := hid ⟨Fr.refl _ _, _, hC, rfl⟩
  have HK := hid (And.intro hC (And.intro hFA hsA))
  obtain ⟨⟨x0, e0⟩, ⟨x1, e1⟩, f0, f1⟩ := H0.out.cells
  clear hC hFA hsA c0 c1 c2 c3 c4
  go_region_with (first
    | (go_at_call 36; refine (HSecs.out _ (by first | exact H0.out | exact HB0.out | exact HB0.out.set _)).mono ?_; rintro e w4 ⟨g, cg, cur', rfl, hF4, hA4⟩; have HA0 := hid (CInv.step (by first | exact H0.out | exact HB0.out | exact HB0.out.set _) hF4); have HFA := hid hF4; have HA := hid hA4; obtain ⟨⟨y0, e2⟩, ⟨y1, e3⟩, f2, f3⟩ := HA0.out.cells; obtain ⟨e4, e5⟩ := HD.out _ HA0.out; clear hF4 hA4)
    | (go_at_call 37; refine (HWrs.out _ (by first | exact H0.out | exact HA0.out | exact HA0.out.set _)).mono ?_; rintro e w5 ⟨a', ca', rfl, hF5, hB5⟩; have HB0 := hid (CInv.step (by first | exact H0.out | exact HA0.out | exact HA0.out.set _) hF5); have HFB := hid hF5; have HB := hid hB5; obtain ⟨⟨z0, l2⟩, ⟨z1, l3⟩, j2, j3⟩ := HB0.out.cells; obtain ⟨l4, l5⟩ := HD.out _ HB0.out; clear hF5 hB5))
  all_goals
    have hsz4 : w.heap.size + 1 ≤ w4.heap.size := by have h1 := HFA.out.size; have h2 := HK.out.2.2; have h3 : wA.drew.heap.size = wA.heap.size := rfl; omega
    have hgC : w.heap.size + 1 ≤ g := by have h1 := HA.out.2.2; have h2 := HK.out.2.2; have h3 : wA.drew.heap.size = wA.heap.size := rfl; omega
    have hbC : ∀ x, x ∈ (Value.slice a' d.raw.length ca').ownBlock.toList → w.heap.size + 1 ≤ x := fun x hx => by
      have := HB.out.2 x hx
      try simp [World.setCell] at this
      omega
    have HN := hid (And.intro hgC hbC)
    clear hsz4 hgC hbC e0 e1 f0 f1 e2 e3 f2 f3 e4 e5 l2 l3 j2 j3 l4 l5
    go_wp2_with fail
    go_ret
    refine ⟨w.heap.size, _, rfl, ?_, ⟨g, cg, .slice a' d.raw.length ca', cur', rfl, ?_, ?_, HA.out.2.1, ?_⟩, ?_⟩
    · refine HK.out.2.1.drew.step (S' := [w.heap.size]) ?_ (fun x hx => .inr (by simp at hx; omega))
      repeat first | exact HB0.out.1 | refine Fr.setCell ?_ (.inl (by simp)) _
    · first
        | exact blk_setCell_at _ (blk_setCell_at _ (HFB.out.keep (HFA.out.keep (w := wA.drew) HK.out.1 (by simp)) (by simp)))
        | exact blk_setCell_at _ (HFB.out.keep (blk_setCell_at _ (HFA.out.keep (w := wA.drew) HK.out.1 (by simp))) (by simp))
    · have hne : g ≠ w.heap.size := by have := HN.out.1; omega
      repeat first | exact HA.out.1 | refine blk_setCell_ne _ ?_ hne | refine HFB.out.keep ?_ (by simp)
    · refine owns_keep (S := [w.heap.size]) HB.out.1 ?_ (fun x hx h => by have := HN.out.2 x hx; simp at h; omega)
      repeat first | exact Fr.refl _ _ | refine Fr.setCell ?_ (.inl (by simp)) _
    · intro x hx
      simp only [List.mem_cons] at hx
      rcases hx with rfl | rfl | hx
      · exact Nat.le_refl _
      · have := HN.out.1; omega
      · have := HN.out.2 x hx; omega

end Go.Proofs.YthghnlgojmedgaaGreat

/-
  Same and SameRaw of the document's disk.
-/
namespace Go.Proofs.YthghnlgojmedgaaGreat
open Go.RowKit
set_option linter.unusedVariables false
set_option linter.unusedSimpArgs false

theorem ext_sAt {ss tt : List ByteArray} (hl : ss.length = tt.length) (h : ∀ j, j < ss.length → sAt ss j = sAt tt j) : ss = tt := by
  apply List.ext_getElem hl
  intro i h1 h2
  have := h i h1
  simpa [sAt, List.getD, h1, h2] using this

theorem ba_ne {a b : ByteArray} (h : a ≠ b) : (a.toList == b.toList) = false := by
  rw [beq_eq_false_iff_ne]
  intro e
  rw [ByteArray.toList_eq, ByteArray.toList_eq] at e
  apply h
  cases a; cases b
  simp only [ByteArray.mk.injEq]
  exact Array.toList_inj.1 e

set_option maxHeartbeats 800000 in
set_option maxRecDepth 100000 in
theorem same_len (w : World) (a b : Option Addr) (n m ca cb : Nat) (h : n ≠ m) (hn : n ≤ 9223372036854775807) (hm : m ≤ 9223372036854775807) :
    Calls Tryz.prog 10 #[.slice a n ca, .slice b m cb] w fun e w' => e = .returned (.bool false) ∧ Fr [] w w' := by
  have h1 : ((n : Int) == m) = false := by rw [beq_eq_false_iff_ne]; omega
  have h2 : ((n : Int) != m) = true := by rw [bne_iff_ne]; omega
  go_enter Tryz.func10, Tryz.ntmps10
  go_wp2
  go_ret
  exact ⟨rfl, Fr.refl _ _⟩

set_option maxHeartbeats 800000 in
set_option maxRecDepth 100000 in
theorem same_any (w : World) (a b : Option Addr) (ca cb : Nat) (ss tt : List ByteArray) (ha : In w 1 a ss.length ca (strV ss)) (hb : In w 1 b tt.length cb (strV tt)) :
    Calls Tryz.prog 10 #[.slice a ss.length ca, .slice b tt.length cb] w fun e w' => e = .returned (.bool (decide (ss = tt))) ∧ Fr [] w w' := by
  have hma := ha.max
  have hmb := hb.max
  by_cases hl : ss.length = tt.length
  · have HA := hid ha
    have HB := hid hb
    have hl1 : ((ss.length : Int) == tt.length) = true := by rw [beq_iff_eq]; omega
    have hl2 : ((ss.length : Int) != tt.length) = false := by rw [bne_eq_false_iff_eq]; omega
    have HL := hid hl
    clear ha hb hl
    go_enter Tryz.func10, Tryz.ntmps10
    go_wp2
    go_loopw [5] (fun i wr => ∃ k : Nat, k ≤ ss.length ∧ i = .int .i64 k ∧ (∀ j, j < k → sAt ss j = sAt tt j) ∧ Fr [] w wr) (fun i _ => ss.length - (intOf i).toNat)
    case atStart => exact ⟨0, Nat.zero_le _, rfl, fun j hj => absurd hj (Nat.not_lt_zero _), Fr.refl _ _⟩
    case round =>
      obtain ⟨k, hk, rfl, hall, hFw⟩ := hrel
      have HAll := hid hall
      clear hall
      by_cases hlt : k < ss.length
      · have hlt2 : k < tt.length := by have := HL.out; omega
        obtain ⟨ba, oa, rfl⟩ := HA.out.sm (by omega)
        obtain ⟨bb, ob, rfl⟩ := HB.out.sm (by omega)
        have c1 := hFw.cell0 (HA.out.cell ba oa rfl k (by omega))
        have c2 := hFw.cell0 (HB.out.cell bb ob rfl k (by omega))
        simp only [strV] at c1 c2
        by_cases heq : sAt ss k = sAt tt k
        · rw [← heq] at c2
          have HE := hid heq
          clear heq
          go_wp2
          go_quiet (fail)
          go_wp2
          go_roundw
          case rel => exact ⟨k + 1, by omega, by go_num, fun j hj => by by_cases hjk : j = k; (subst hjk; exact HE.out); exact HAll.out j (by omega), hFw.drewN _⟩
          case measure => simp [intOf]; omega
        · have hfin : decide (ss = tt) = false := by
            rw [decide_eq_false_iff_not]; rintro rfl; exact heq rfl
          have h3 := ba_ne heq
          have HE := hid hfin
          clear heq hfin
          go_wp2
          go_quiet (fail)
          go_wp2
          go_ret
          rw [HE.out]
          exact ⟨rfl, hFw.drewN _⟩
      · obtain rfl : k = ss.length := by omega
        have hfin : decide (ss = tt) = true := by rw [decide_eq_true_eq]; exact ext_sAt HL.out HAll.out
        have HE := hid hfin
        clear hfin
        go_wp2
        go_ret
        rw [HE.out]
        exact ⟨rfl, hFw⟩
  · have hfin : decide (ss = tt) = false := by
      rw [decide_eq_false_iff_not]; rintro rfl; exact hl rfl
    rw [hfin]
    exact same_len w a b _ _ ca cb hl hma hmb

@[go_sem] theorem eq_write (x y : Int) (s t : ByteArray) (w : World) : (Op.equalIn 10000 86 (.agg #[.int .i64 x, .string s]) (.agg #[.int .i64 y, .string t])).run Tryz.prog w = .ok (x == y && s.toList == t.toList) w := by
  have hS : Tryz.prog.underlying 86 = some (.struct (Tryz.prog.fieldsOf 86)) := by kernel_rfl
  have hp : Tryz.prog.stoodInHeld 86 = false := by kernel_rfl
  rw [show (10000 : Nat) = 9999 + 1 from rfl, run_equalIn_agg w 9999 86 _ _ hS hp]
  simp only [Program.fieldsOf, Tryz.underlying86]
  go_simp
  by_cases h1 : x = y <;> by_cases h2 : s.toList = t.toList <;> simp [h1, h2]

@[go_sem] theorem eqg_write (op : BinOp) (x y : Operand) (xs ys : Array Value) (w : World) : (eqGuard op 86 x y (.agg xs) (.agg ys)).run Tryz.prog w = .ok () w := run_eqGuard_agg w op 86 x y xs ys (by kernel_rfl)

theorem ext_wAt {ss tt : List (Int × ByteArray)} (hl : ss.length = tt.length) (h : ∀ j, j < ss.length → wAt ss j = wAt tt j) : ss = tt := by
  apply List.ext_getElem hl
  intro i h1 h2
  have := h i h1
  simpa [wAt, List.getD, h1, h2] using this
theorem wrV_0 (l : List (Int × ByteArray)) (k : Nat) : wrV l (k * 2) = .int .i64 (wAt l k).1 := by unfold wrV; rw [if_pos (by omega), show k * 2 / 2 = k by omega]
theorem wrV_1 (l : List (Int × ByteArray)) (k : Nat) : wrV l (k * 2 + 1) = .string (wAt l k).2 := by unfold wrV; rw [if_neg (by omega), show (k * 2 + 1) / 2 = k by omega]
theorem wr_ne {a b : Int × ByteArray} (h : a ≠ b) : ((a.1 == b.1) && (a.2.toList == b.2.toList)) = false := by
  by_cases h1 : a.1 = b.1
  · rw [ba_ne (fun h2 => h (Prod.ext h1 h2))]; simp
  · rw [beq_eq_false_iff_ne.2 h1]; simp



end Go.Proofs.YthghnlgojmedgaaGreat
