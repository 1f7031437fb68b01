/-
  Sectors, Raw of the package disk.
-/
import Derived.Test.YtkkahkgjedgjnaaDisk4
namespace Go.Proofs.Ytkkahkgjedgjnaa
open Go.RowKit
set_option linter.unusedVariables false
set_option linter.unusedSimpArgs false

def strs (ss : List ByteArray) (k : Nat) : List Value := (List.range k).map fun i => .string (sAt ss i)
theorem strs_succ (ss : List ByteArray) (k : Nat) : strs ss k ++ [.string (sAt ss k)] = strs ss (k + 1) := by simp [strs, List.range_succ]
theorem strs_get (ss : List ByteArray) (k j : Nat) (hj : j < k) : (strs ss k)[j]? = some (strV ss j) := by simp [strs, strV, hj]
theorem strs_len (ss : List ByteArray) (k : Nat) : (strs ss k).length = k := by simp [strs]

theorem info_string : (Try.prog.info? 9).map (fun i => (i.zero, i.size, i.bytes)) = some (some (.string ByteArray.empty), 1, 16) := by kernel_rfl

/-- A new row of texts: what Sectors gives. -/
def NewStrs (w w' : World) (v : Value) (ss : List ByteArray) : Prop :=
  ∃ g cap, v = .slice (some ⟨g, 0, none⟩) ss.length cap ∧ w.heap.size ≤ g ∧ w'.ownsRow 0 9 1 v ss.length (strs ss ss.length)

theorem owns_in {w : World} {B e size n g cap : Nat} {xs : List Value} (h : w.ownsRow B e size (.slice (some ⟨g, 0, none⟩) n cap) n xs) (V : Nat → Value) (hV : ∀ j, j < n * size → xs[j]? = some (V j)) : In w size (some ⟨g, 0, none⟩) n cap V := by
  have h0 := h
  obtain ⟨hl, hr⟩ := h0
  rcases hr with ⟨hr, _⟩ | ⟨g', cap', cur, hv, hg, hh, hle, hmx, _, _⟩
  · simp at hr
  simp only [Value.slice.injEq, Option.some.injEq, Addr.mk.injEq, and_true, true_and] at hv
  obtain ⟨rfl, rfl⟩ := hv
  refine ⟨hle, hmx, fun _ => ⟨g, 0, rfl⟩, fun b off e j hj => ?_⟩
  simp only [Option.some.injEq, Addr.mk.injEq, and_true] at e
  obtain ⟨rfl, rfl⟩ := e
  rw [Nat.zero_add, h.cellAt j hj]; exact hV j hj

theorem newStrs_in {w w' : World} {v : Value} {ss : List ByteArray} (h : NewStrs w w' v ss) : ∃ g cap, v = .slice (some ⟨g, 0, none⟩) ss.length cap ∧ w.heap.size ≤ g ∧ In w' 1 (some ⟨g, 0, none⟩) ss.length cap (strV ss) := by
  obtain ⟨g, cap, rfl, hg, ho⟩ := h
  exact ⟨g, cap, rfl, hg, owns_in ho _ (fun j hj => strs_get ss _ j (by omega))⟩

set_option maxHeartbeats 1600000 in
set_option maxRecDepth 100000 in
theorem disk_sectors (w : World) (F : List Nat) (D : Nat) (d : DS) (h : Dk w F D d) (hw : d.wf) :
    Calls Try.prog 35 #[.pointer (some ⟨D, 0, none⟩)] w fun e w' => ∃ v, e = .returned v ∧ Fr [] w w' ∧ NewStrs w w' v d.sec := by
  have hn2 := hw.n2
  have hn1 := hw.n1
  have H := hid h
  have HW := hid hw
  obtain ⟨S, dcap, rv, cur, hFeq, g1, g2, g3, g4⟩ := h
  have hle := g3.le
  have c0 : w.cell? ⟨D, 0, none⟩ = some (.slice (some ⟨S, 0, none⟩) d.sec.length dcap) := cell_blk g1 rfl
  obtain ⟨i0, hi, hz0, hz1, hz2⟩ := info_parts info_string
  have HI := hid (And.intro hi (And.intro hz0 (And.intro hz1 hz2)))
  have HG := hid (And.intro g1 (And.intro g2 g3))
  clear hi hz0 hz1 hz2 g1 g2 g3 g4 hw hFeq
  go_enter Try.func35, Try.ntmps35
  go_wp2_with (at_make; refine wpList_make_own _ rfl (.const (.int .i64 0)) (.tmp 9) 46 rfl 0 9 i0 (.string ByteArray.empty) 1 Try.underlying46 HI.out.1 HI.out.2.1 HI.out.2.2.1 .i64 .i64 d.sec.length d.sec.length rfl rfl rfl ?qa ?qb ?qc ?_)
  case qa => rw [HI.out.2.2.2]; omega
  case qb => unfold maxLen; omega
  case qc => omega
  intro w1 hown hgrow
  have hF := Fr.of_grown hgrow
  have hF' : Fr [] w w1 := hF.mono (by simp)
  have c1 := hF'.cell0 c0
  clear hgrow hF
  have hS0 : strs d.sec 0 = [] := rfl
  rw [← hS0] at hown
  clear hS0
  go_wp2_with fail
  go_loopw [3, 16] (fun v i wr => ∃ (k g cap : Nat), k ≤ d.sec.length ∧ i = .int .i64 k ∧ v = .slice (some ⟨g, 0, none⟩) k cap ∧ w.heap.size ≤ g ∧ wr.ownsRow 0 9 1 (.slice (some ⟨g, 0, none⟩) k cap) k (strs d.sec k) ∧ Fr [] w wr) (fun _ i _ => d.sec.length - (intOf i).toNat)
  case atStart => exact ⟨0, _, _, Nat.zero_le _, rfl, rfl, Nat.le_refl _, hown, hF'⟩
  case round =>
    clear hown hF' c1
    obtain ⟨k, g, cap, hk, rfl, rfl, hg, hown, hFw⟩ := hrel
    by_cases hlt : k < d.sec.length
    · have c2 := hFw.cell0 c0
      have q2 := hFw.keep HG.out.2.1 (by simp)
      have HQ := hid (And.intro q2 hown)
      clear q2
      go_wp2_with (first | (refine wpList_text rfl 89 9 (.tmp 26) rfl 5 Try.underlying89 Try.underlying5 Try.underlying9 S (k * 128) 128 128 (sAt d.sec k) rfl (HW.out.sz k hlt) (fun j hj => cell_blk HQ.out.1 (HG.out.2.2.at_ k hlt j hj)) ?_) | (at_builtin; refine wpList_append_blk rfl (.tmp 19) (.tmp 28) 46 rfl 9 i0 (.string ByteArray.empty) 1 16 Try.underlying46 HI.out.1 HI.out.2.1 HI.out.2.2.1 HI.out.2.2.2 rfl (by decide) _ _ _ rfl (HQ.out.2.alloc _) ⟨wr.heap.size, 0, none⟩ 1 1 [.string (sAt d.sec k)] rfl rfl ?qd ?qe ?qf ?qg ?_))
      case qd => intro q u hu; match q, hu with | 0, hu => simp at hu; subst hu; simp [Addr.add, World.cell?_alloc_at]
      case qe => intro u hu; simp at hu; subst hu; rfl
      case qf => unfold maxLen; omega
      case qg => omega
      intro v' w3 hown3 hF3 hblk _
      rw [strs_succ] at hown3
      obtain ⟨g', cap', hv'⟩ := owns_shape hown3 (by omega)
      have hFx : Fr [] w w3 := (hFw.alloc (.cells #[.string (sAt d.sec k)] 9)).step hF3 (by intro x hx; simp [Value.ownBlock] at hx; subst hx; exact .inr hg)
      have hg' : w.heap.size ≤ g' := by
        rcases hblk g' (by rw [hv']; simp [Value.ownBlock]) with h1 | h1
        · simp [Value.ownBlock] at h1; omega
        · have := hFw.size; omega
      rw [hv'] at hown3
      have HZ := hid (And.intro hv' (And.intro hg' (And.intro hown3 hFx)))
      clear hv' hg' hown3 hFx hblk hF3 hown hFw c2 HQ
      go_wp2_with fail
      go_roundw
      case rel => exact ⟨k + 1, g', cap', by omega, by go_num, HZ.out.1, HZ.out.2.1, HZ.out.2.2.1, HZ.out.2.2.2⟩
      case measure => simp [intOf]; omega
    · obtain rfl : k = d.sec.length := by omega
      have HZ := hid (And.intro hg (And.intro hown hFw))
      clear hg hown hFw
      go_wp2_with fail
      go_ret
      exact ⟨_, rfl, HZ.out.2.2, g, cap, rfl, HZ.out.1, HZ.out.2.1⟩

end Go.Proofs.Ytkkahkgjedgjnaa
